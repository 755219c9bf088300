import Derived.Test.YtpapbhbnaalhcaaDoorTh
import Derived.Test.YtpapbhbnaalhcaaDoorKq
namespace Go.Proofs.YtpapbhbnaalhcaaDoor
open Go Go.Sx Go.Proofs
set_option linter.unusedVariables false
set_option maxRecDepth 100000
def ksZ : List Nat := [1, 4, 5, 7, 9, 10, 11, 12]
noncomputable def LZ : Code := loopAt 17 (loopsOf (bodyOf Tryd.f5))
def ndZ (n len : Nat) (k i : Int) : Bool := match decide (0 <= k /\ k < (n : Int)) with
 | true => match decide (0 + k.toNat < len) with
   | true => match decide (0 <= i /\ i < (n : Int)) with
     | true => decide (0 + i.toNat < len)
     | false => false
   | false => false
 | false => false
structure MZ where
 k : Nat
 p : List Rw
 sh : Nat
def shY : Nat -> Nat
 | 0 => 3
 | _ => 1
def shN : Nat -> Nat
 | 0 => 2
 | n => n
def shX : Nat -> Nat
 | 0 => 2
 | n => n
def oneZ (l : List Rw) (i : Nat) (m : MZ) : MZ := match (l.getD m.k krows.dflt).key == (l.getD i krows.dflt).key with
 | true => ⟨m.k + 1, m.p ++ [l.getD m.k krows.dflt], shY m.sh⟩
 | false => ⟨m.k + 1, m.p, shN m.sh⟩
def stepZ (l : List Rw) (i : Nat) (m : MZ) : T (Ex × MZ) := .need (decide (l.length <= 1000 /\ i < l.length /\ m.k <= l.length /\ m.p.length <= m.k /\ (m.sh = 0 /\ m.p = [] \/ m.sh = 2 /\ m.p = [] \/ m.sh = 1 /\ m.p ≠ [] \/ m.sh = 3 /\ m.p ≠ [])))
 (.leaf (if m.k < l.length then (.normal, oneZ l i m) else (.exit 2, ⟨m.k, m.p, shX m.sh⟩)))
def famZA (sh : Nat) (b : Bool) (l : List Rw) (o : List N1) (st : Int) (isv all : Bool) (p : List Rw) (n len : Nat) (i k : Int) : St AV :=
 { E := only ksZ [(1, .v (.c (.vs 7 0 n 10 false))), (4, .v (.c (.bl false))), (5, .v (.c (.it .i64 st))), (7, .v (.c (.bl isv))), (9, .v (.c (.bl all))), (10, .v (.c (.it .i64 i))),
     (11, match sh with | 1 => .v (.c (.vs 9 0 len 10 false)) | 3 => .v (.c (.vs 9 0 len 10 true)) | _ => .v (.c (.vs 8 0 0 10 true))), (12, .v (.c (.it .i64 k)))] 93,
   H := hpO linM [.rowsB b l] ++ (match sh with | 0 => [some (.vec [] 10 37)] | 1 => [some .dead, some (.abs (.rows p))] | 3 => [some .dead, some (.abs (.rows p))] | _ => [some (.abs (.rows []))]) }
theorem zRA0 (σ : Sg) (b : Bool) (l : List Rw) (o : List N1) (st : Int) (isv all : Bool) (p : List Rw) (n len : Nat) (i k : Int) : (xc (NV σ) (joinCal (lv (NV σ) (fun _ => none) 5)) (fun _ => none) 93 LZ (famZA 0 b l o st isv all p n len i k)).bind (backS 9 93 ksZ pkJ) =
 .ite (decide (k < (n : Int))) (.need (ndZ n l.length k i) (.ite ((l.getD (0 + k.toNat) krows.dflt).key == (l.getD (0 + i.toNat) krows.dflt).key) (.need (decide (0 <= k /\ k < (n : Int))) (.need (decide (0 + k.toNat < l.length)) (.leaf (.normal, famZA 3 b l o st isv all [(l.getD (0 + k.toNat) krows.dflt)] n 1 i (IntKind.wrap .i64 (k + 1)))))) (.leaf (.normal, famZA 2 b l o st isv all p n len i (IntKind.wrap .i64 (k + 1)))))) (.leaf (.exit 2, famZA 2 b l o st isv all p n len i k)) := by kernel_rfl
theorem zRA1 (σ : Sg) (b : Bool) (l : List Rw) (o : List N1) (st : Int) (isv all : Bool) (p : List Rw) (n len : Nat) (i k : Int) : (xc (NV σ) (joinCal (lv (NV σ) (fun _ => none) 5)) (fun _ => none) 93 LZ (famZA 1 b l o st isv all p n len i k)).bind (backS 9 93 ksZ pkJ) =
 .ite (decide (k < (n : Int))) (.need (ndZ n l.length k i) (.ite ((l.getD (0 + k.toNat) krows.dflt).key == (l.getD (0 + i.toNat) krows.dflt).key) (.need (decide (0 <= k /\ k < (n : Int))) (.need (decide (0 + k.toNat < l.length)) (.need (decide (len = Intf.len (F2 σ) (AV.rows p) /\ (len + 1) * (SI.bytes si31 + 1) <= lim)) (.leaf (.normal, famZA 1 b l o st isv all (p ++ [(l.getD (0 + k.toNat) krows.dflt)]) n (len + 1) i (IntKind.wrap .i64 (k + 1))))))) (.leaf (.normal, famZA 1 b l o st isv all p n len i (IntKind.wrap .i64 (k + 1)))))) (.leaf (.exit 2, famZA 1 b l o st isv all p n len i k)) := by kernel_rfl
theorem zRA2 (σ : Sg) (b : Bool) (l : List Rw) (o : List N1) (st : Int) (isv all : Bool) (p : List Rw) (n len : Nat) (i k : Int) : (xc (NV σ) (joinCal (lv (NV σ) (fun _ => none) 5)) (fun _ => none) 93 LZ (famZA 2 b l o st isv all p n len i k)).bind (backS 9 93 ksZ pkJ) =
 .ite (decide (k < (n : Int))) (.need (ndZ n l.length k i) (.ite ((l.getD (0 + k.toNat) krows.dflt).key == (l.getD (0 + i.toNat) krows.dflt).key) (.need (decide (0 <= k /\ k < (n : Int))) (.need (decide (0 + k.toNat < l.length)) (.need true (.leaf (.normal, famZA 1 b l o st isv all [(l.getD (0 + k.toNat) krows.dflt)] n 1 i (IntKind.wrap .i64 (k + 1))))))) (.leaf (.normal, famZA 2 b l o st isv all p n len i (IntKind.wrap .i64 (k + 1)))))) (.leaf (.exit 2, famZA 2 b l o st isv all p n len i k)) := by kernel_rfl
theorem zRA3 (σ : Sg) (b : Bool) (l : List Rw) (o : List N1) (st : Int) (isv all : Bool) (p : List Rw) (n len : Nat) (i k : Int) : (xc (NV σ) (joinCal (lv (NV σ) (fun _ => none) 5)) (fun _ => none) 93 LZ (famZA 3 b l o st isv all p n len i k)).bind (backS 9 93 ksZ pkJ) =
 .ite (decide (k < (n : Int))) (.need (ndZ n l.length k i) (.ite ((l.getD (0 + k.toNat) krows.dflt).key == (l.getD (0 + i.toNat) krows.dflt).key) (.need (decide (0 <= k /\ k < (n : Int))) (.need (decide (0 + k.toNat < l.length)) (.need (decide (len = Intf.len (F2 σ) (AV.rows p) /\ (len + 1) * (SI.bytes si31 + 1) <= lim)) (.leaf (.normal, famZA 1 b l o st isv all (p ++ [(l.getD (0 + k.toNat) krows.dflt)]) n (len + 1) i (IntKind.wrap .i64 (k + 1))))))) (.leaf (.normal, famZA 3 b l o st isv all p n len i (IntKind.wrap .i64 (k + 1)))))) (.leaf (.exit 2, famZA 3 b l o st isv all p n len i k)) := by kernel_rfl
def famZMA (b : Bool) (l : List Rw) (o : List N1) (st : Int) (isv all : Bool) (i : Nat) (m : MZ) : St AV := famZA m.sh b l o st isv all m.p l.length m.p.length i m.k
theorem stepZA_run (σ : Sg) (b : Bool) (l : List Rw) (o : List N1) (st : Int) (isv all : Bool) (i : Nat) (m : MZ) (q : Ex × MZ) (h : (stepZ l i m).val = some q) :
 ((xc (NV σ) (joinCal (lv (NV σ) (fun _ => none) 5)) (fun _ => none) 93 LZ (famZMA b l o st isv all i m)).bind (backS 9 93 ksZ pkJ)).val = some (q.1, famZMA b l o st isv all i q.2) := by
 replace h := need_some h
 obtain ⟨hb, h⟩ := h
 obtain ⟨h1, h2, h3, h4, h5⟩ := of_decide_eq_true hb
 simp only [T.val, Option.some.injEq] at h
 subst h
 obtain ⟨k, p, sh⟩ := m
 simp only at h3 h4 h5
 have e1 : 0 + (k : Int).toNat = k := by omega
 have e2 : 0 + (i : Int).toNat = i := by omega
 have hw : IntKind.wrap .i64 ((k : Int) + 1) = ((k + 1 : Nat) : Int) := wrapS (by omega)
 have dn : k < l.length -> ndZ l.length l.length k i = true := fun hlt => by
  unfold ndZ
  rw [decide_eq_true (show 0 <= (k : Int) /\ (k : Int) < (l.length : Int) by omega), e1, decide_eq_true hlt, decide_eq_true (show 0 <= (i : Int) /\ (i : Int) < (l.length : Int) by omega), e2]
  exact decide_eq_true (by omega)
 have fit : k < l.length -> (decide (p.length = Intf.len (F2 σ) (AV.rows p) /\ (p.length + 1) * (SI.bytes si31 + 1) <= lim)) = true := fun hlt => decide_eq_true ⟨rfl, by
  have : SI.bytes si31 <= 1000 := by decide
  have : lim = 1099511627776 := rfl
  have : (p.length + 1) * (SI.bytes si31 + 1) <= 1001 * 1001 := Nat.mul_le_mul (by omega) (by omega)
  omega⟩
 rcases h5 with ⟨rfl, rfl⟩ | ⟨rfl, rfl⟩ | ⟨rfl, h5⟩ | ⟨rfl, h5⟩
 ·show ((xc (NV σ) (joinCal (lv (NV σ) (fun _ => none) 5)) (fun _ => none) 93 LZ (famZA 0 b l o st isv all [] l.length 0 i k)).bind (backS 9 93 ksZ pkJ)).val = _
  rw [zRA0]
  by_cases hlt : k < l.length
  ·rw [ivT (decide_eq_true (by omega)), nv (dn hlt), e1, e2, hw]
   simp only [if_pos hlt]
   unfold oneZ
   cases c1 : ((l.getD k krows.dflt).key == (l.getD i krows.dflt).key) with
   | true =>
     rw [ivT rfl, nv (decide_eq_true (by omega)), nv (decide_eq_true hlt)]
     rfl
   | false =>
     rw [ivF rfl]
     rfl
  ·simp only [if_neg hlt]
   rw [ivF (decide_eq_false (by omega))]
   rfl
 ·show ((xc (NV σ) (joinCal (lv (NV σ) (fun _ => none) 5)) (fun _ => none) 93 LZ (famZA 2 b l o st isv all [] l.length 0 i k)).bind (backS 9 93 ksZ pkJ)).val = _
  rw [zRA2]
  by_cases hlt : k < l.length
  ·rw [ivT (decide_eq_true (by omega)), nv (dn hlt), e1, e2, hw]
   simp only [if_pos hlt]
   unfold oneZ
   cases c1 : ((l.getD k krows.dflt).key == (l.getD i krows.dflt).key) with
   | true =>
     rw [ivT rfl, nv (decide_eq_true (by omega)), nv (decide_eq_true hlt)]
     rw [nv rfl]; rfl
   | false =>
     rw [ivF rfl]
     rfl
  ·simp only [if_neg hlt]
   rw [ivF (decide_eq_false (by omega))]
   rfl
 ·show ((xc (NV σ) (joinCal (lv (NV σ) (fun _ => none) 5)) (fun _ => none) 93 LZ (famZA 1 b l o st isv all p l.length p.length i k)).bind (backS 9 93 ksZ pkJ)).val = _
  rw [zRA1]
  by_cases hlt : k < l.length
  ·rw [ivT (decide_eq_true (by omega)), nv (dn hlt), e1, e2, hw]
   simp only [if_pos hlt]
   unfold oneZ
   cases c1 : ((l.getD k krows.dflt).key == (l.getD i krows.dflt).key) with
   | true =>
     rw [ivT rfl, nv (decide_eq_true (by omega)), nv (decide_eq_true hlt)]
     rw [nv (fit hlt)]; simp only [T.val, famZMA, List.length_append, List.length_singleton]; rfl
   | false =>
     rw [ivF rfl]
     rfl
  ·simp only [if_neg hlt]
   rw [ivF (decide_eq_false (by omega))]
   rfl
 ·show ((xc (NV σ) (joinCal (lv (NV σ) (fun _ => none) 5)) (fun _ => none) 93 LZ (famZA 3 b l o st isv all p l.length p.length i k)).bind (backS 9 93 ksZ pkJ)).val = _
  rw [zRA3]
  by_cases hlt : k < l.length
  ·rw [ivT (decide_eq_true (by omega)), nv (dn hlt), e1, e2, hw]
   simp only [if_pos hlt]
   unfold oneZ
   cases c1 : ((l.getD k krows.dflt).key == (l.getD i krows.dflt).key) with
   | true =>
     rw [ivT rfl, nv (decide_eq_true (by omega)), nv (decide_eq_true hlt)]
     rw [nv (fit hlt)]; simp only [T.val, famZMA, List.length_append, List.length_singleton]; rfl
   | false =>
     rw [ivF rfl]
     rfl
  ·simp only [if_neg hlt]
   rw [ivF (decide_eq_false (by omega))]
   rfl
def famZB (sh : Nat) (b : Bool) (l : List Rw) (o : List N1) (st : Int) (isv all : Bool) (p : List Rw) (n len : Nat) (i k : Int) : St AV :=
 { E := only ksZ [(1, .v (.c (.vs 7 0 n 10 false))), (4, .v (.c (.bl false))), (5, .v (.c (.it .i64 st))), (7, .v (.c (.bl isv))), (9, .v (.c (.bl all))), (10, .v (.c (.it .i64 i))),
     (11, match sh with | 1 => .v (.c (.vs 10 0 len 10 false)) | 3 => .v (.c (.vs 10 0 len 10 true)) | _ => .v (.c (.vs 9 0 0 10 true))), (12, .v (.c (.it .i64 k)))] 93,
   H := hpO linM [.rowsB b l, .ints o] ++ (match sh with | 0 => [some (.vec [] 10 37)] | 1 => [some .dead, some (.abs (.rows p))] | 3 => [some .dead, some (.abs (.rows p))] | _ => [some (.abs (.rows []))]) }
theorem zRB0 (σ : Sg) (b : Bool) (l : List Rw) (o : List N1) (st : Int) (isv all : Bool) (p : List Rw) (n len : Nat) (i k : Int) : (xc (NV σ) (joinCal (lv (NV σ) (fun _ => none) 5)) (fun _ => none) 93 LZ (famZB 0 b l o st isv all p n len i k)).bind (backS 10 93 ksZ pkJ) =
 .ite (decide (k < (n : Int))) (.need (ndZ n l.length k i) (.ite ((l.getD (0 + k.toNat) krows.dflt).key == (l.getD (0 + i.toNat) krows.dflt).key) (.need (decide (0 <= k /\ k < (n : Int))) (.need (decide (0 + k.toNat < l.length)) (.leaf (.normal, famZB 3 b l o st isv all [(l.getD (0 + k.toNat) krows.dflt)] n 1 i (IntKind.wrap .i64 (k + 1)))))) (.leaf (.normal, famZB 2 b l o st isv all p n len i (IntKind.wrap .i64 (k + 1)))))) (.leaf (.exit 2, famZB 2 b l o st isv all p n len i k)) := by kernel_rfl
theorem zRB1 (σ : Sg) (b : Bool) (l : List Rw) (o : List N1) (st : Int) (isv all : Bool) (p : List Rw) (n len : Nat) (i k : Int) : (xc (NV σ) (joinCal (lv (NV σ) (fun _ => none) 5)) (fun _ => none) 93 LZ (famZB 1 b l o st isv all p n len i k)).bind (backS 10 93 ksZ pkJ) =
 .ite (decide (k < (n : Int))) (.need (ndZ n l.length k i) (.ite ((l.getD (0 + k.toNat) krows.dflt).key == (l.getD (0 + i.toNat) krows.dflt).key) (.need (decide (0 <= k /\ k < (n : Int))) (.need (decide (0 + k.toNat < l.length)) (.need (decide (len = Intf.len (F2 σ) (AV.rows p) /\ (len + 1) * (SI.bytes si31 + 1) <= lim)) (.leaf (.normal, famZB 1 b l o st isv all (p ++ [(l.getD (0 + k.toNat) krows.dflt)]) n (len + 1) i (IntKind.wrap .i64 (k + 1))))))) (.leaf (.normal, famZB 1 b l o st isv all p n len i (IntKind.wrap .i64 (k + 1)))))) (.leaf (.exit 2, famZB 1 b l o st isv all p n len i k)) := by kernel_rfl
theorem zRB2 (σ : Sg) (b : Bool) (l : List Rw) (o : List N1) (st : Int) (isv all : Bool) (p : List Rw) (n len : Nat) (i k : Int) : (xc (NV σ) (joinCal (lv (NV σ) (fun _ => none) 5)) (fun _ => none) 93 LZ (famZB 2 b l o st isv all p n len i k)).bind (backS 10 93 ksZ pkJ) =
 .ite (decide (k < (n : Int))) (.need (ndZ n l.length k i) (.ite ((l.getD (0 + k.toNat) krows.dflt).key == (l.getD (0 + i.toNat) krows.dflt).key) (.need (decide (0 <= k /\ k < (n : Int))) (.need (decide (0 + k.toNat < l.length)) (.need true (.leaf (.normal, famZB 1 b l o st isv all [(l.getD (0 + k.toNat) krows.dflt)] n 1 i (IntKind.wrap .i64 (k + 1))))))) (.leaf (.normal, famZB 2 b l o st isv all p n len i (IntKind.wrap .i64 (k + 1)))))) (.leaf (.exit 2, famZB 2 b l o st isv all p n len i k)) := by kernel_rfl
theorem zRB3 (σ : Sg) (b : Bool) (l : List Rw) (o : List N1) (st : Int) (isv all : Bool) (p : List Rw) (n len : Nat) (i k : Int) : (xc (NV σ) (joinCal (lv (NV σ) (fun _ => none) 5)) (fun _ => none) 93 LZ (famZB 3 b l o st isv all p n len i k)).bind (backS 10 93 ksZ pkJ) =
 .ite (decide (k < (n : Int))) (.need (ndZ n l.length k i) (.ite ((l.getD (0 + k.toNat) krows.dflt).key == (l.getD (0 + i.toNat) krows.dflt).key) (.need (decide (0 <= k /\ k < (n : Int))) (.need (decide (0 + k.toNat < l.length)) (.need (decide (len = Intf.len (F2 σ) (AV.rows p) /\ (len + 1) * (SI.bytes si31 + 1) <= lim)) (.leaf (.normal, famZB 1 b l o st isv all (p ++ [(l.getD (0 + k.toNat) krows.dflt)]) n (len + 1) i (IntKind.wrap .i64 (k + 1))))))) (.leaf (.normal, famZB 3 b l o st isv all p n len i (IntKind.wrap .i64 (k + 1)))))) (.leaf (.exit 2, famZB 3 b l o st isv all p n len i k)) := by kernel_rfl
def famZMB (b : Bool) (l : List Rw) (o : List N1) (st : Int) (isv all : Bool) (i : Nat) (m : MZ) : St AV := famZB m.sh b l o st isv all m.p l.length m.p.length i m.k
theorem stepZB_run (σ : Sg) (b : Bool) (l : List Rw) (o : List N1) (st : Int) (isv all : Bool) (i : Nat) (m : MZ) (q : Ex × MZ) (h : (stepZ l i m).val = some q) :
 ((xc (NV σ) (joinCal (lv (NV σ) (fun _ => none) 5)) (fun _ => none) 93 LZ (famZMB b l o st isv all i m)).bind (backS 10 93 ksZ pkJ)).val = some (q.1, famZMB b l o st isv all i q.2) := by
 replace h := need_some h
 obtain ⟨hb, h⟩ := h
 obtain ⟨h1, h2, h3, h4, h5⟩ := of_decide_eq_true hb
 simp only [T.val, Option.some.injEq] at h
 subst h
 obtain ⟨k, p, sh⟩ := m
 simp only at h3 h4 h5
 have e1 : 0 + (k : Int).toNat = k := by omega
 have e2 : 0 + (i : Int).toNat = i := by omega
 have hw : IntKind.wrap .i64 ((k : Int) + 1) = ((k + 1 : Nat) : Int) := wrapS (by omega)
 have dn : k < l.length -> ndZ l.length l.length k i = true := fun hlt => by
  unfold ndZ
  rw [decide_eq_true (show 0 <= (k : Int) /\ (k : Int) < (l.length : Int) by omega), e1, decide_eq_true hlt, decide_eq_true (show 0 <= (i : Int) /\ (i : Int) < (l.length : Int) by omega), e2]
  exact decide_eq_true (by omega)
 have fit : k < l.length -> (decide (p.length = Intf.len (F2 σ) (AV.rows p) /\ (p.length + 1) * (SI.bytes si31 + 1) <= lim)) = true := fun hlt => decide_eq_true ⟨rfl, by
  have : SI.bytes si31 <= 1000 := by decide
  have : lim = 1099511627776 := rfl
  have : (p.length + 1) * (SI.bytes si31 + 1) <= 1001 * 1001 := Nat.mul_le_mul (by omega) (by omega)
  omega⟩
 rcases h5 with ⟨rfl, rfl⟩ | ⟨rfl, rfl⟩ | ⟨rfl, h5⟩ | ⟨rfl, h5⟩
 ·show ((xc (NV σ) (joinCal (lv (NV σ) (fun _ => none) 5)) (fun _ => none) 93 LZ (famZB 0 b l o st isv all [] l.length 0 i k)).bind (backS 10 93 ksZ pkJ)).val = _
  rw [zRB0]
  by_cases hlt : k < l.length
  ·rw [ivT (decide_eq_true (by omega)), nv (dn hlt), e1, e2, hw]
   simp only [if_pos hlt]
   unfold oneZ
   cases c1 : ((l.getD k krows.dflt).key == (l.getD i krows.dflt).key) with
   | true =>
     rw [ivT rfl, nv (decide_eq_true (by omega)), nv (decide_eq_true hlt)]
     rfl
   | false =>
     rw [ivF rfl]
     rfl
  ·simp only [if_neg hlt]
   rw [ivF (decide_eq_false (by omega))]
   rfl
 ·show ((xc (NV σ) (joinCal (lv (NV σ) (fun _ => none) 5)) (fun _ => none) 93 LZ (famZB 2 b l o st isv all [] l.length 0 i k)).bind (backS 10 93 ksZ pkJ)).val = _
  rw [zRB2]
  by_cases hlt : k < l.length
  ·rw [ivT (decide_eq_true (by omega)), nv (dn hlt), e1, e2, hw]
   simp only [if_pos hlt]
   unfold oneZ
   cases c1 : ((l.getD k krows.dflt).key == (l.getD i krows.dflt).key) with
   | true =>
     rw [ivT rfl, nv (decide_eq_true (by omega)), nv (decide_eq_true hlt)]
     rw [nv rfl]; rfl
   | false =>
     rw [ivF rfl]
     rfl
  ·simp only [if_neg hlt]
   rw [ivF (decide_eq_false (by omega))]
   rfl
 ·show ((xc (NV σ) (joinCal (lv (NV σ) (fun _ => none) 5)) (fun _ => none) 93 LZ (famZB 1 b l o st isv all p l.length p.length i k)).bind (backS 10 93 ksZ pkJ)).val = _
  rw [zRB1]
  by_cases hlt : k < l.length
  ·rw [ivT (decide_eq_true (by omega)), nv (dn hlt), e1, e2, hw]
   simp only [if_pos hlt]
   unfold oneZ
   cases c1 : ((l.getD k krows.dflt).key == (l.getD i krows.dflt).key) with
   | true =>
     rw [ivT rfl, nv (decide_eq_true (by omega)), nv (decide_eq_true hlt)]
     rw [nv (fit hlt)]; simp only [T.val, famZMB, List.length_append, List.length_singleton]; rfl
   | false =>
     rw [ivF rfl]
     rfl
  ·simp only [if_neg hlt]
   rw [ivF (decide_eq_false (by omega))]
   rfl
 ·show ((xc (NV σ) (joinCal (lv (NV σ) (fun _ => none) 5)) (fun _ => none) 93 LZ (famZB 3 b l o st isv all p l.length p.length i k)).bind (backS 10 93 ksZ pkJ)).val = _
  rw [zRB3]
  by_cases hlt : k < l.length
  ·rw [ivT (decide_eq_true (by omega)), nv (dn hlt), e1, e2, hw]
   simp only [if_pos hlt]
   unfold oneZ
   cases c1 : ((l.getD k krows.dflt).key == (l.getD i krows.dflt).key) with
   | true =>
     rw [ivT rfl, nv (decide_eq_true (by omega)), nv (decide_eq_true hlt)]
     rw [nv (fit hlt)]; simp only [T.val, famZMB, List.length_append, List.length_singleton]; rfl
   | false =>
     rw [ivF rfl]
     rfl
  ·simp only [if_neg hlt]
   rw [ivF (decide_eq_false (by omega))]
   rfl
end Go.Proofs.YtpapbhbnaalhcaaDoor
