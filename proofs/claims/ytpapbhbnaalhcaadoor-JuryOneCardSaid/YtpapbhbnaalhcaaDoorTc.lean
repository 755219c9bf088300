import Derived.Test.YtpapbhbnaalhcaaDoorTb
namespace Go.Proofs.YtpapbhbnaalhcaaDoor
open Go Go.Sx Go.Proofs
set_option linter.unusedVariables false
set_option maxRecDepth 100000
def ksK : List Nat := [6, 12, 15]
noncomputable def LK : Code := loopAt 20 (loopsOf (bodyOf Tryd.f3))
def ordI : Nat -> List N1 -> Bool
 | _, [] => true
 | i, x :: l => (x.val == (i : Int)) && ordI (i + 1) l
def stopI : Nat -> List N1 -> Nat
 | i, [] => i
 | i, x :: l => match x.val == (i : Int) with | true => stopI (i + 1) l | false => i
def stepK (o : List N1) (m : Nat × Bool) : T (Ex × (Nat × Bool)) := .need (decide (o.length <= 1000 /\ m.1 <= o.length /\ m.2 = false))
 (.leaf (if m.1 < o.length then (if (o.getD m.1 kints.dflt).val = (m.1 : Int) then (.normal, (m.1 + 1, false)) else (.ret, (m.1, true))) else (.exit 2, m)))
theorem iterK (o : List N1) (hl : o.length <= 1000) : ∀ (k i : Nat), i + k = o.length -> iter (stepK o) (k + 1) (i, false) = some (match ordI i (o.drop i) with | true => (.exit 2, (o.length, false)) | false => (.ret, (stopI i (o.drop i), true)))
 | 0, i, hk => by
   have e : i = o.length := by omega
   subst e
   simp only [iter, stepK, T.val, decide_eq_true (show o.length <= 1000 /\ o.length <= o.length /\ True from ⟨hl, Nat.le_refl _, trivial⟩), if_neg (Nat.lt_irrefl _), List.drop_length]
   rfl
 | k + 1, i, hk => by
   have hlt : i < o.length := by omega
   rw [iter]
   simp only [stepK, T.val, decide_eq_true (show o.length <= 1000 /\ i <= o.length /\ True from ⟨hl, by omega, trivial⟩), if_pos hlt]
   rw [drop_cons o kints.dflt hlt]
   by_cases h7 : (o.getD i kints.dflt).val = (i : Int)
   ·rw [if_pos h7]
    have h7' : ((o.getD i kints.dflt).val == (i : Int)) = true := by simpa using h7
    simp only [ordI, stopI, h7', Bool.true_and]
    exact iterK o hl k (i + 1) (by omega)
   ·have h7' : ((o.getD i kints.dflt).val == (i : Int)) = false := by simpa using h7
    rw [if_neg h7]
    simp only [ordI, stopI, h7', Bool.false_and]
structure XKA where
 h0 : Option (Chunk AV)
 h1 : Option (Chunk AV)
 h2 : Option (Chunk AV)
 h3 : Option (Chunk AV)
 h4 : Option (Chunk AV)
 h5 : Option (Chunk AV)
 h6 : Option (Chunk AV)
 h7 : Option (Chunk AV)
 h8 : Option (Chunk AV)
 h9 : Option (Chunk AV)
 h10 : Option (Chunk AV)
 r : Hp AV
def famKA (x : XKA) (o : List N1) (n : Nat) (x6 : SV) (i : Int) : St AV :=
 { E := only ksK [(6, x6), (12, .v (.c (.vs 11 0 n 1 false))), (15, .v (.c (.it .i64 i)))] 126,
   H := x.h0 :: x.h1 :: x.h2 :: x.h3 :: x.h4 :: x.h5 :: x.h6 :: x.h7 :: x.h8 :: x.h9 :: x.h10 :: some (.abs (.ints o)) :: x.r }
theorem runKA (σ : Sg) (x : XKA) (o : List N1) (n : Nat) (x6 : SV) (i : Int) : (xc (NV σ) (joinCal (lv (NV σ) (fun _ => none) 5)) (fun _ => none) 126 LK (famKA x o n x6 i)).map (onlyS ksK 126) =
 .ite (decide (i < (n : Int))) (.need (needA n o.length i) (.ite (!((o.getD (0 + i.toNat) kints.dflt).val == i)) (.leaf (.ret, famKA x o n (.v (.c (.bl false))) i)) (.leaf (.normal, famKA x o n x6 (IntKind.wrap .i64 (i + 1))))))
  (.leaf (.exit 2, famKA x o n x6 i)) := by kernel_rfl
def famBKA (x : XKA) (x6 : SV) (o : List N1) (m : Nat × Bool) : St AV := famKA x o o.length (match m.2 with | true => .v (.c (.bl false)) | false => x6) m.1
theorem stepKA_run (σ : Sg) (x : XKA) (x6 : SV) (o : List N1) (m : Nat × Bool) (q : Ex × (Nat × Bool)) (h : (stepK o m).val = some q) :
 ((xc (NV σ) (joinCal (lv (NV σ) (fun _ => none) 5)) (fun _ => none) 126 LK (famBKA x x6 o m)).map (onlyS ksK 126)).val = some (q.1, famBKA x x6 o q.2) := by
 replace h := need_some h
 obtain ⟨hb, h⟩ := h
 obtain ⟨h1, h2, h3⟩ := of_decide_eq_true hb
 simp only [T.val, Option.some.injEq] at h
 subst h
 obtain ⟨i, ret⟩ := m
 simp only at h2 h3
 subst h3
 have e : famBKA x x6 o (i, false) = famKA x o o.length x6 i := rfl
 rw [e, runKA]
 by_cases hlt : i < o.length
 ·have e1 : 0 + (i : Int).toNat = i := by omega
  have hw : IntKind.wrap .i64 ((i : Int) + 1) = ((i + 1 : Nat) : Int) := wrapS (by omega)
  have d2 : needA o.length o.length i = true := by
   unfold needA
   rw [decide_eq_true (show 0 <= (i : Int) /\ (i : Int) < (o.length : Int) by omega)]
   exact decide_eq_true (by omega)
  simp only [if_pos hlt]
  rw [ivT (decide_eq_true (by omega)), nv d2, e1, hw]
  by_cases h7 : (o.getD i kints.dflt).val = (i : Int)
  ·rw [ivF (by simp only [h7, beq_self_eq_true, Bool.not_true]), if_pos h7]
   rfl
  ·rw [ivT (by rw [show ((o.getD i kints.dflt).val == (i : Int)) = false by simpa using h7]; rfl), if_neg h7]
   rfl
 ·simp only [if_neg hlt]
  rw [ivF (decide_eq_false (by omega))]
  rfl
structure XKB where
 h0 : Option (Chunk AV)
 h1 : Option (Chunk AV)
 h2 : Option (Chunk AV)
 h3 : Option (Chunk AV)
 h4 : Option (Chunk AV)
 h5 : Option (Chunk AV)
 h6 : Option (Chunk AV)
 h7 : Option (Chunk AV)
 h8 : Option (Chunk AV)
 h9 : Option (Chunk AV)
 h10 : Option (Chunk AV)
 h11 : Option (Chunk AV)
 r : Hp AV
def famKB (x : XKB) (o : List N1) (n : Nat) (x6 : SV) (i : Int) : St AV :=
 { E := only ksK [(6, x6), (12, .v (.c (.vs 12 0 n 1 false))), (15, .v (.c (.it .i64 i)))] 126,
   H := x.h0 :: x.h1 :: x.h2 :: x.h3 :: x.h4 :: x.h5 :: x.h6 :: x.h7 :: x.h8 :: x.h9 :: x.h10 :: x.h11 :: some (.abs (.ints o)) :: x.r }
theorem runKB (σ : Sg) (x : XKB) (o : List N1) (n : Nat) (x6 : SV) (i : Int) : (xc (NV σ) (joinCal (lv (NV σ) (fun _ => none) 5)) (fun _ => none) 126 LK (famKB x o n x6 i)).map (onlyS ksK 126) =
 .ite (decide (i < (n : Int))) (.need (needA n o.length i) (.ite (!((o.getD (0 + i.toNat) kints.dflt).val == i)) (.leaf (.ret, famKB x o n (.v (.c (.bl false))) i)) (.leaf (.normal, famKB x o n x6 (IntKind.wrap .i64 (i + 1))))))
  (.leaf (.exit 2, famKB x o n x6 i)) := by kernel_rfl
def famBKB (x : XKB) (x6 : SV) (o : List N1) (m : Nat × Bool) : St AV := famKB x o o.length (match m.2 with | true => .v (.c (.bl false)) | false => x6) m.1
theorem stepKB_run (σ : Sg) (x : XKB) (x6 : SV) (o : List N1) (m : Nat × Bool) (q : Ex × (Nat × Bool)) (h : (stepK o m).val = some q) :
 ((xc (NV σ) (joinCal (lv (NV σ) (fun _ => none) 5)) (fun _ => none) 126 LK (famBKB x x6 o m)).map (onlyS ksK 126)).val = some (q.1, famBKB x x6 o q.2) := by
 replace h := need_some h
 obtain ⟨hb, h⟩ := h
 obtain ⟨h1, h2, h3⟩ := of_decide_eq_true hb
 simp only [T.val, Option.some.injEq] at h
 subst h
 obtain ⟨i, ret⟩ := m
 simp only at h2 h3
 subst h3
 have e : famBKB x x6 o (i, false) = famKB x o o.length x6 i := rfl
 rw [e, runKB]
 by_cases hlt : i < o.length
 ·have e1 : 0 + (i : Int).toNat = i := by omega
  have hw : IntKind.wrap .i64 ((i : Int) + 1) = ((i + 1 : Nat) : Int) := wrapS (by omega)
  have d2 : needA o.length o.length i = true := by
   unfold needA
   rw [decide_eq_true (show 0 <= (i : Int) /\ (i : Int) < (o.length : Int) by omega)]
   exact decide_eq_true (by omega)
  simp only [if_pos hlt]
  rw [ivT (decide_eq_true (by omega)), nv d2, e1, hw]
  by_cases h7 : (o.getD i kints.dflt).val = (i : Int)
  ·rw [ivF (by simp only [h7, beq_self_eq_true, Bool.not_true]), if_pos h7]
   rfl
  ·rw [ivT (by rw [show ((o.getD i kints.dflt).val == (i : Int)) = false by simpa using h7]; rfl), if_neg h7]
   rfl
 ·simp only [if_neg hlt]
  rw [ivF (decide_eq_false (by omega))]
  rfl
end Go.Proofs.YtpapbhbnaalhcaaDoor
