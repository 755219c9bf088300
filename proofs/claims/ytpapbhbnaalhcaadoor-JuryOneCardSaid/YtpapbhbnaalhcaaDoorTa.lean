import Derived.Test.YtpapbhbnaalhcaaDoorKq
namespace Go.Proofs.YtpapbhbnaalhcaaDoor
open Go Go.Sx Go.Proofs
set_option linter.unusedVariables false
set_option maxRecDepth 100000
noncomputable def tabM : Tab := tabAdd 9 (sumG isS fitM mayS) fun _ => none
theorem tabM_ok {σ : Sg} : TabOk Tryd.prog (NV σ) tabM := tabAdd_ok (lp := noLp) mayS_ok fun f g h => by cases h
def ksJ : List Nat := [0, 1, 2, 7, 9, 10, 11]
def famJ (sh : Nat) (l : List O) (a : List An) (st : Int) (m : CreedM) (rs : List Rw) (n k len : Nat) (may : Cell) (i : Int) : St AV :=
 { E := only ksJ [(0, .v (.c (.it .i64 st))), (1, .v (.c (.vs 7 0 n 4 false))), (2, .v (.c (.vs 8 0 k 2 false))), (7, .v (.c (.ptr 9 0))), (9, match sh with | 1 => .v (.c (.vs 11 0 len 10 false)) | 3 => .v (.c (.vs 11 0 len 10 true)) | _ => .v (.c (.vs 10 0 0 10 true))), (10, .v (.c may)), (11, .v (.c (.it .i64 i)))] 126,
   H := hpO linM [.opsA l, .answersA a, creedV m] ++ (match sh with | 0 => [some (.vec [] 10 37)] | 1 => [some .dead, some (.abs (.rows rs))] | 3 => [some .dead, some (.abs (.rows rs))] | _ => [some (.abs (.rows []))]) }
noncomputable def LJ : Code := loopAt 12 (loopsOf (bodyOf Tryd.f3))
def rwJ (o : O) (x : An) (i : Int) : Rw := ⟨0, o.kind, o.key, o.val, o.tall, x.code, x.val, IntKind.wrap .i64 (2 * i), IntKind.wrap .i64 (IntKind.wrap .i64 (2 * i) + 1), true⟩
noncomputable def askT (sh : Nat) (l : List O) (a : List An) (st : Int) (m : CreedM) (rs : List Rw) (n k len : Nat) (i : Int) : T (Ex × St AV) :=
 .need (decide (0 <= i /\ i < (n : Int))) (.need (decide (0 + i.toNat < l.length)) (.need (decide (0 <= i /\ i < (k : Int))) (.need (decide (0 + i.toNat < a.length))
  (.need (decide (m.vals.length = m.vals.length /\ m.pairs.length = m.pairs.length)) (.need m.sm
    (.leaf (.normal, famJ sh l a st (mayM m (l.getD (0 + i.toNat) kops.dflt) (a.getD (0 + i.toNat) kanswers.dflt)).2 (rs ++ [rwJ (l.getD (0 + i.toNat) kops.dflt) (a.getD (0 + i.toNat) kanswers.dflt) i]) n k len
      (.bt (mayM m (l.getD (0 + i.toNat) kops.dflt) (a.getD (0 + i.toNat) kanswers.dflt)).1) (IntKind.wrap .i64 (i + 1)))))))))
noncomputable def noT (l : List O) (a : List An) (st : Int) (m : CreedM) (rs : List Rw) (n k len : Nat) (i : Int) : T (Ex × St AV) :=
 .leaf (.normal, famJ 1 l a st m (rs ++ [rwJ (l.getD (0 + i.toNat) kops.dflt) (a.getD (0 + i.toNat) kanswers.dflt) i]) n k len (.bl false) (IntKind.wrap .i64 (i + 1)))
noncomputable def idxJ (l : List O) (a : List An) (n k : Nat) (i : Int) (t : T (Ex × St AV)) : T (Ex × St AV) :=
 .need (decide (0 <= i /\ i < (n : Int))) (.need (decide (0 + i.toNat < l.length)) (.need (decide (0 <= i /\ i < (k : Int))) (.need (decide (0 + i.toNat < a.length)) t)))
theorem jR0 (σ : Sg) (l : List O) (a : List An) (st : Int) (m : CreedM) (rs : List Rw) (n k len : Nat) (i : Int) : (xc (NV σ) (joinCal (lv (NV σ) tabM 5)) (fun _ => none) 126 LJ (famJ 0 l a st m rs n k len (.bl true) i)).bind (backS 11 126 ksJ pkJ) =
 .ite (decide (i < (n : Int))) (idxJ l a n k i (askT 3 l a st m [] n k 1 i)) (.leaf (.exit 0, famJ 2 l a st m rs n k len (.bl true) i)) := by kernel_rfl
theorem jR1 (σ : Sg) (l : List O) (a : List An) (st : Int) (m : CreedM) (rs : List Rw) (n k len : Nat) (may : Bool) (i : Int) : (xc (NV σ) (joinCal (lv (NV σ) tabM 5)) (fun _ => none) 126 LJ (famJ 1 l a st m rs n k len (.bt may) i)).bind (backS 11 126 ksJ pkJ) =
 .ite (decide (i < (n : Int))) (idxJ l a n k i (.need (decide (len = Intf.len (F2 σ) (AV.rows rs) /\ (len + 1) * (SI.bytes si31 + 1) <= lim)) (.ite (may == true) (askT 1 l a st m rs n k (len + 1) i) (noT l a st m rs n k (len + 1) i))))
  (.leaf (.exit 0, famJ 1 l a st m rs n k len (.bt may) i)) := by kernel_rfl
theorem jR3 (σ : Sg) (l : List O) (a : List An) (st : Int) (m : CreedM) (rs : List Rw) (n k len : Nat) (may : Bool) (i : Int) : (xc (NV σ) (joinCal (lv (NV σ) tabM 5)) (fun _ => none) 126 LJ (famJ 3 l a st m rs n k len (.bt may) i)).bind (backS 11 126 ksJ pkJ) =
 .ite (decide (i < (n : Int))) (idxJ l a n k i (.need (decide (len = Intf.len (F2 σ) (AV.rows rs) /\ (len + 1) * (SI.bytes si31 + 1) <= lim)) (.ite (may == true) (askT 1 l a st m rs n k (len + 1) i) (noT l a st m rs n k (len + 1) i))))
  (.leaf (.exit 0, famJ 3 l a st m rs n k len (.bt may) i)) := by kernel_rfl
theorem jR2 (σ : Sg) (l : List O) (a : List An) (st : Int) (m : CreedM) (rs : List Rw) (n k len : Nat) (i : Int) : (xc (NV σ) (joinCal (lv (NV σ) tabM 5)) (fun _ => none) 126 LJ (famJ 1 l a st m rs n k len (.bl false) i)).bind (backS 11 126 ksJ pkJ) =
 .ite (decide (i < (n : Int))) (idxJ l a n k i (.need (decide (len = Intf.len (F2 σ) (AV.rows rs) /\ (len + 1) * (SI.bytes si31 + 1) <= lim)) (noT l a st m rs n k (len + 1) i)))
  (.leaf (.exit 0, famJ 1 l a st m rs n k len (.bl false) i)) := by kernel_rfl
structure MJ where
 i : Nat
 m : CreedM
 rs : List Rw
 may : Bool
 ask : Bool
 sh : Nat
abbrev opJ (l : List O) (i : Nat) : O := l.getD i kops.dflt
abbrev anJ (a : List An) (i : Nat) : An := a.getD i kanswers.dflt
noncomputable def oneJ (l : List O) (a : List An) (m : MJ) : MJ := match m.may with
 | true => ⟨m.i + 1, (mayM m.m (opJ l m.i) (anJ a m.i)).2, m.rs ++ [oneRw m.i (opJ l m.i) (anJ a m.i)], (mayM m.m (opJ l m.i) (anJ a m.i)).1, true, match m.sh with | 0 => 3 | _ => 1⟩
 | false => ⟨m.i + 1, m.m, m.rs ++ [oneRw m.i (opJ l m.i) (anJ a m.i)], false, false, 1⟩
noncomputable def stepJ (l : List O) (a : List An) (m : MJ) : T (Ex × MJ) := .need (decide (l.length <= 12 /\ l.length <= a.length /\ m.i <= l.length /\ m.rs.length = m.i /\ (m.sh = 1 /\ (m.ask = true \/ m.may = false) \/ m.sh = 0 /\ m.i = 0 /\ m.may = true \/ m.sh = 3 /\ m.ask = true)) && m.m.sm)
 (.leaf (if m.i < l.length then (.normal, oneJ l a m) else (.exit 0, ⟨m.i, m.m, m.rs, m.may, m.ask, match m.sh with | 0 => 2 | k => k⟩)))
def mayC (sh : Nat) (ask may : Bool) : Cell := match sh with
 | 1 => match ask with | true => .bt may | false => .bl false
 | 3 => .bt may
 | _ => .bl true
def famJM (l : List O) (a : List An) (st : Int) (m : MJ) : St AV := famJ m.sh l a st m.m m.rs l.length a.length m.rs.length (mayC m.sh m.ask m.may) m.i
theorem rwJ_eq (o : O) (x : An) (i : Nat) (h : i < 100000) : rwJ o x i = oneRw i o x := by
 unfold rwJ oneRw
 have e1 : IntKind.wrap .i64 (2 * (i : Int)) = 2 * (i : Int) := wrap_in (by omega)
 have e2 : IntKind.wrap .i64 (2 * (i : Int) + 1) = 2 * (i : Int) + 1 := wrap_in (by omega)
 rw [e1, e2]
theorem stepJ_run (σ : Sg) (l : List O) (a : List An) (st : Int) (m : MJ) (r : Ex × MJ) (h : (stepJ l a m).val = some r) :
 ((xc (NV σ) (joinCal (lv (NV σ) tabM 5)) (fun _ => none) 126 LJ (famJM l a st m)).bind (backS 11 126 ksJ pkJ)).val = some (r.1, famJM l a st r.2) := by
 replace h := need_some h
 obtain ⟨hb, h⟩ := h
 rw [Bool.and_eq_true] at hb
 obtain ⟨hb, hsm⟩ := hb
 obtain ⟨h1, h2, h3, h4, h5⟩ := of_decide_eq_true hb
 simp only [T.val, Option.some.injEq] at h
 subst h
 obtain ⟨i, c, rs, may, ask, sh⟩ := m
 simp only at h3 h4 h5 hsm
 have e1 : 0 + (i : Int).toNat = i := by omega
 have idx : ∀ (_ : i < l.length) (t : T (Ex × St AV)), (idxJ l a l.length a.length i t).val = t.val := fun hlt t => by
  unfold idxJ
  rw [nv (decide_eq_true (by omega)), e1, nv (decide_eq_true hlt), nv (decide_eq_true (by omega)), nv (decide_eq_true (by omega))]
 have fit : i < l.length -> (decide (rs.length = Intf.len (F2 σ) (AV.rows rs) /\ (rs.length + 1) * (SI.bytes si31 + 1) <= lim)) = true := fun hlt => decide_eq_true ⟨rfl, by
  have : SI.bytes si31 <= 1000 := by decide
  have : lim = 1099511627776 := rfl
  have : (rs.length + 1) * (SI.bytes si31 + 1) <= 13 * 1001 := Nat.mul_le_mul (by omega) (by omega)
  omega⟩
 have ha : ∀ (_ : i < l.length) (n' : Nat) (k : Nat) (ask : Bool), n' = rs.length + 1 -> (askT (match k with | 0 => 3 | _ => 1) l a st c rs l.length a.length n' i).val = some (.normal, famJM l a st (oneJ l a ⟨i, c, rs, true, ask, k⟩)) := fun hlt n' k ask hn' => by
  subst hn'
  have hw : IntKind.wrap .i64 ((i : Int) + 1) = ((i + 1 : Nat) : Int) := wrapS (by omega)
  unfold askT
  rw [nv (decide_eq_true (by omega)), e1, nv (decide_eq_true hlt), nv (decide_eq_true (by omega)), nv (decide_eq_true (by omega)), hw, rwJ_eq _ _ i (by omega), nv (decide_eq_true ⟨rfl, rfl⟩), nv hsm]
  simp only [T.val, oneJ, famJM, List.length_append, List.length_singleton]
  cases k <;> rfl
 have hno : ∀ (_ : i < l.length) (n' : Nat) (k : Nat) (ask : Bool), n' = rs.length + 1 -> (noT l a st c rs l.length a.length n' i).val = some (.normal, famJM l a st (oneJ l a ⟨i, c, rs, false, ask, k⟩)) := fun hlt n' k ask hn' => by
  subst hn'
  have hw : IntKind.wrap .i64 ((i : Int) + 1) = ((i + 1 : Nat) : Int) := wrapS (by omega)
  unfold noT
  rw [e1, hw, rwJ_eq _ _ i (by omega)]
  simp only [T.val, oneJ, famJM, mayC, List.length_append, List.length_singleton]
 rcases h5 with ⟨rfl, h5⟩ | ⟨rfl, rfl, rfl⟩ | ⟨rfl, rfl⟩
 ·cases ask with
  | true =>
    show ((xc (NV σ) (joinCal (lv (NV σ) tabM 5)) (fun _ => none) 126 LJ (famJ 1 l a st c rs l.length a.length rs.length (.bt may) i)).bind (backS 11 126 ksJ pkJ)).val = _
    rw [jR1]
    by_cases hlt : i < l.length
    ·rw [ivT (decide_eq_true (by omega)), idx hlt, nv (fit hlt)]
     simp only [if_pos hlt]
     cases may with
     | true => rw [ivT (show (true == true) = true from rfl)]; exact ha hlt _ 1 true rfl
     | false => rw [ivF (show (false == true) = false from rfl), hno hlt _ 1 true rfl]
    ·simp only [if_neg hlt]
     rw [ivF (decide_eq_false (by omega))]
     rfl
  | false =>
    have hm : may = false := h5.resolve_left (fun h => by cases h)
    subst hm
    show ((xc (NV σ) (joinCal (lv (NV σ) tabM 5)) (fun _ => none) 126 LJ (famJ 1 l a st c rs l.length a.length rs.length (.bl false) i)).bind (backS 11 126 ksJ pkJ)).val = _
    rw [jR2]
    by_cases hlt : i < l.length
    ·rw [ivT (decide_eq_true (by omega)), idx hlt, nv (fit hlt), hno hlt _ 1 false rfl]
     simp only [if_pos hlt]
    ·simp only [if_neg hlt]
     rw [ivF (decide_eq_false (by omega))]
     rfl
 ·have e0 : rs = [] := List.eq_nil_of_length_eq_zero h4
  subst e0
  show ((xc (NV σ) (joinCal (lv (NV σ) tabM 5)) (fun _ => none) 126 LJ (famJ 0 l a st c [] l.length a.length 0 (.bl true) ((0 : Nat) : Int))).bind (backS 11 126 ksJ pkJ)).val = _
  rw [jR0]
  by_cases hlt : 0 < l.length
  ·rw [ivT (decide_eq_true (by omega)), idx hlt]
   simp only [if_pos hlt]
   exact ha hlt 1 0 ask rfl
  ·simp only [if_neg hlt]
   rw [ivF (decide_eq_false (by omega))]
   rfl
 ·show ((xc (NV σ) (joinCal (lv (NV σ) tabM 5)) (fun _ => none) 126 LJ (famJ 3 l a st c rs l.length a.length rs.length (.bt may) i)).bind (backS 11 126 ksJ pkJ)).val = _
  rw [jR3]
  by_cases hlt : i < l.length
  ·rw [ivT (decide_eq_true (by omega)), idx hlt, nv (fit hlt)]
   simp only [if_pos hlt]
   cases may with
   | true => rw [ivT (show (true == true) = true from rfl)]; exact ha hlt _ 3 true rfl
   | false => rw [ivF (show (false == true) = false from rfl), hno hlt _ 3 true rfl]
  ·simp only [if_neg hlt]
   rw [ivF (decide_eq_false (by omega))]
   rfl
noncomputable def cJ (l : List O) (a : List An) : Nat -> CreedM × Bool -> CreedM × Bool
 | 0, c => c
 | k + 1, c => match (cJ l a k c).2 with
   | true => ((mayM (cJ l a k c).1 (opJ l k) (anJ a k)).2, (mayM (cJ l a k c).1 (opJ l k) (anJ a k)).1)
   | false => ((cJ l a k c).1, false)
noncomputable def askJ (l : List O) (a : List An) (c : CreedM) (i : Nat) : Bool := (cJ l a (i - 1) (c, true)).2
def shJ : Nat -> Nat
 | 0 => 0
 | 1 => 3
 | _ => 1
def shO : Nat -> Nat
 | 0 => 2
 | 1 => 3
 | _ => 1
noncomputable def endJ (l : List O) (a : List An) (st : Int) (i : Nat) : MJ := ⟨i, (cJ l a i (⟨st, [], []⟩, true)).1, oneL i (opJ l) (anJ a), (cJ l a i (⟨st, [], []⟩, true)).2, askJ l a ⟨st, [], []⟩ i, shJ i⟩
theorem oneL_succ (n : Nat) (f : Nat -> O) (g : Nat -> An) : oneL (n + 1) f g = oneL n f g ++ [oneRw n (f n) (g n)] := by
 unfold oneL
 rw [List.range_succ, List.map_append]
 rfl
theorem perf_one (m : CreedM) (i : Nat) (o : O) (x : An) : perfM m (oneRw i o x) = mayM m o x := by
 unfold perfM
 rw [if_pos (show (oneRw i o x).fin = true from rfl)]
 rfl
theorem cJ_ok (l : List O) (a : List An) (st : Int) : ∀ k, COk k (cJ l a k (⟨st, [], []⟩, true)).1
 | 0 => cok0 st
 | k + 1 => by
   have ih := cJ_ok l a st k
   rw [cJ]
   cases (cJ l a k (⟨st, [], []⟩, true)).2 with
   | true =>
     have := (perf_ok (r := oneRw k (opJ l k) (anJ a k)) ih).1
     rw [perf_one] at this
     exact this
   | false => exact ⟨Nat.le_succ_of_le ih.vals, Nat.le_succ_of_le ih.pairs, ih.inv, ih.inp⟩
noncomputable def outJ (l : List O) (a : List An) (st : Int) : MJ := ⟨l.length, (cJ l a l.length (⟨st, [], []⟩, true)).1, oneL l.length (opJ l) (anJ a), (cJ l a l.length (⟨st, [], []⟩, true)).2, askJ l a ⟨st, [], []⟩ l.length, shO l.length⟩
theorem iterJ (l : List O) (a : List An) (st : Int) (h1 : l.length <= 12) (h2 : l.length <= a.length) : ∀ (k i : Nat), i + k = l.length -> iter (stepJ l a) (k + 1) (endJ l a st i) = some (.exit 0, outJ l a st) := by
 have ok : ∀ i, i <= l.length -> (decide (l.length <= 12 /\ l.length <= a.length /\ (endJ l a st i).i <= l.length /\ (endJ l a st i).rs.length = (endJ l a st i).i /\ ((endJ l a st i).sh = 1 /\ ((endJ l a st i).ask = true \/ (endJ l a st i).may = false) \/ (endJ l a st i).sh = 0 /\ (endJ l a st i).i = 0 /\ (endJ l a st i).may = true \/ (endJ l a st i).sh = 3 /\ (endJ l a st i).ask = true)) && (endJ l a st i).m.sm) = true := fun i hi => by
  have hc := cJ_ok l a st i
  have hsm : (endJ l a st i).m.sm = true := decide_eq_true ⟨by have := hc.vals; show (cJ l a i (⟨st, [], []⟩, true)).1.vals.length <= 100000; omega, by have := hc.pairs; show (cJ l a i (⟨st, [], []⟩, true)).1.pairs.length <= 100000; omega⟩
  rw [hsm, Bool.and_true]
  refine decide_eq_true ⟨h1, h2, hi, oneL_len _ _ _, ?_⟩
  show shJ i = 1 /\ (askJ l a ⟨st, [], []⟩ i = true \/ (cJ l a i (⟨st, [], []⟩, true)).2 = false) \/ shJ i = 0 /\ i = 0 /\ (cJ l a i (⟨st, [], []⟩, true)).2 = true \/ shJ i = 3 /\ askJ l a ⟨st, [], []⟩ i = true
  cases i with
  | zero => exact .inr (.inl ⟨rfl, rfl, rfl⟩)
  | succ i =>
    cases i with
    | zero => exact .inr (.inr ⟨rfl, rfl⟩)
    | succ i =>
    refine .inl ⟨rfl, ?_⟩
    show (cJ l a (i + 1) (⟨st, [], []⟩, true)).2 = true \/ _
    cases hh : (cJ l a (i + 1) (⟨st, [], []⟩, true)).2 with
    | true => exact .inl rfl
    | false =>
      have e : cJ l a (i + 1 + 1) (⟨st, [], []⟩, true) = ((cJ l a (i + 1) (⟨st, [], []⟩, true)).1, false) := by rw [cJ, hh]
      rw [e]
      exact .inr rfl
 intro k
 induction k with
 | zero =>
   intro i hk
   have e : i = l.length := by omega
   subst e
   rw [iter, stepJ, nv (ok _ (Nat.le_refl _))]
   have e : (endJ l a st l.length).i = l.length := rfl
   simp only [T.val, e, if_neg (Nat.lt_irrefl _)]
   unfold outJ endJ
   have e2 : (match shJ l.length with | 0 => 2 | k => k) = shO l.length := by
    rcases l.length with _ | _ | n <;> rfl
   rw [<- e2]
 | succ k ih =>
   intro i hk
   have hlt : i < l.length := by omega
   rw [iter, stepJ, nv (ok _ (by omega))]
   have e : (endJ l a st i).i = i := rfl
   have en : oneJ l a (endJ l a st i) = endJ l a st (i + 1) := by
    unfold oneJ endJ
    have e2 : (match shJ i with | 0 => 3 | _ => 1) = shJ (i + 1) := by
     rcases i with _ | _ | n <;> rfl
    have e3 : (cJ l a i (⟨st, [], []⟩, true)).2 = false -> 1 = shJ (i + 1) := by
     rcases i with _ | _ | n
     ·intro h; cases h
     ·intro h; rfl
     ·intro h; rfl
    simp only [cJ, oneL_succ, askJ, Nat.add_sub_cancel]
    cases hh : (cJ l a i (⟨st, [], []⟩, true)).2 with
    | true => simp only [e2]
    | false => simp only [<- e3 hh]
   simp only [T.val, e, if_pos hlt]
   rw [en]
   exact ih (i + 1) (by omega)
theorem mayAll_app (m : CreedM) : ∀ (p q : List Rw), ∃ m', mayAll m (p ++ q) = (mayAll m p && mayAll m' q)
 | [], q => ⟨m, by simp [mayAll]⟩
 | r :: p, q => by
   obtain ⟨m', h⟩ := mayAll_app (perfM m r).2 p q
   exact ⟨m', by rw [List.cons_append, mayAll, h, mayAll, Bool.and_assoc]⟩
theorem cJ_all (l : List O) (a : List An) (c : CreedM) : ∀ k, (cJ l a k (c, true)).2 = mayAll c (oneL k (opJ l) (anJ a)) /\ ((cJ l a k (c, true)).2 = true -> ∀ q, mayAll c (oneL k (opJ l) (anJ a) ++ q) = mayAll (cJ l a k (c, true)).1 q)
 | 0 => ⟨rfl, fun _ q => rfl⟩
 | k + 1 => by
   obtain ⟨h1, h2⟩ := cJ_all l a c k
   rw [oneL_succ]
   cases hm : (cJ l a k (c, true)).2 with
   | true =>
     have e : cJ l a (k + 1) (c, true) = ((mayM (cJ l a k (c, true)).1 (opJ l k) (anJ a k)).2, (mayM (cJ l a k (c, true)).1 (opJ l k) (anJ a k)).1) := by rw [cJ, hm]
     rw [e]
     refine ⟨?_, fun ht q => ?_⟩
     ·rw [h2 hm, mayAll, perf_one, mayAll, Bool.and_true]
     ·rw [List.append_assoc, h2 hm, List.singleton_append, mayAll, perf_one]
      simp only at ht
      rw [ht, Bool.true_and]
   | false =>
     have e : cJ l a (k + 1) (c, true) = ((cJ l a k (c, true)).1, false) := by rw [cJ, hm]
     rw [e]
     refine ⟨?_, fun ht => (by cases ht)⟩
     obtain ⟨m', h⟩ := mayAll_app c (oneL k (opJ l) (anJ a)) [oneRw k (opJ l k) (anJ a k)]
     rw [h, <- h1, hm]; rfl
end Go.Proofs.YtpapbhbnaalhcaaDoor
