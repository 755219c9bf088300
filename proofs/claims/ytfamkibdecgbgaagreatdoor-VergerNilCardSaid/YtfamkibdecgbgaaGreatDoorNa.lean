/- The frame for laws that see the listed errors alone: the executor's tables of this seat, the summary of errors.Is; the summary of a function that was run on these errors. -/
import Derived.Test.YtfamkibdecgbgaaGreatDoorSxTm
import Derived.Test.YtfamkibdecgbgaaGreatDoorSxV
import Derived.Test.YtfamkibdecgbgaaGreatDoorQg
import Derived.Test.YtfamkibdecgbgaaGreatDoorEs
namespace Go.Proofs.YtfamkibdecgbgaaGreatDoor
open Go Go.Sx Go.Proofs
set_option maxRecDepth 100000
noncomputable def NS (σ : Nat → Addr) : Env Nat := { tt := tt, ft := ft, gu := gu, G := 7, F := sentF 203 28 σ, hv := hvF slT 7, mt := mtF, sl := slT }
variable {σ : Nat → Addr}
theorem okS : TblOk Tryz.prog (NS σ) := tblOk_mt (tblOk 7 (sentF 203 28 σ) (hvF slT 7) (fun _ _ => none)) rfl rfl rfl rfl
theorem lpsS : LpsOk Tryz.prog (NS σ) := fun f fn c _ _ id b _ g hg => by cases hg
theorem hvS : HvOk Tryz.prog (NS σ) := hvF_ok slOk rfl
def tabI : FuncId → Option (List SV → Hp Nat → T (SV × Hp Nat)) := fun f => match Nat.beq f 6 with
  | true => some sumIs
  | false => none
theorem tabI_ok : TabOk Tryz.prog (NS σ) tabI := by
  intro f g h
  unfold tabI at h
  split at h
  · rename_i e
    have e := (beq_iff _ _).1 e
    subst e
    cases h
    exact is_ok
  · cases h
theorem fnI (n : Nat) (f : FuncId) : FnOk Tryz.prog (NS σ) f (lv (NS σ) tabI n (.fn f)) := lv_fn okS lpsS hvS tabI_ok n f
/-- the errors that a function comes to: 'true' of the others none is at hand -/
def sentM : Nat → List Bool → Hp Nat
  | _, [] => []
  | i, true :: r => some (.abs i) :: sentM (i + 1) r
  | i, false :: r => none :: sentM (i + 1) r
def isSentB : Nat → List Bool → Hp Nat → Bool
  | _, [], [] => true
  | i, true :: m, some (.abs k) :: r => match Nat.beq k i with
    | true => isSentB (i + 1) m r
    | false => false
  | i, false :: m, none :: r => isSentB (i + 1) m r
  | _, _, _ => false
theorem isSentB_spec : ∀ {m : List Bool} {i : Nat} {H : Hp Nat}, isSentB i m H = true → H = sentM i m
  | [], _, [], _ => rfl
  | [], _, _ :: _, h => by simp [isSentB] at h
  | _ :: _, _, [], h => by simp [isSentB] at h
  | true :: m, i, none :: _, h => by simp [isSentB] at h
  | true :: m, i, some (.cells _ _) :: _, h => by simp [isSentB] at h
  | true :: m, i, some (.vec _ _ _) :: _, h => by simp [isSentB] at h
  | true :: m, i, some .dead :: _, h => by simp [isSentB] at h
  | true :: m, i, some (.abs k) :: r, h => by
    simp only [isSentB] at h
    split at h
    · rename_i e
      rw [(beq_iff _ _).1 e, isSentB_spec h]
      rfl
    · cases h
  | false :: m, i, some _ :: _, h => by simp [isSentB] at h
  | false :: m, i, none :: r, h => by
    simp only [isSentB] at h
    rw [isSentB_spec h]
    rfl
/-- a function without arguments that has come to 'true', and has left the errors -/
def sumT (M : List Bool) : List SV → Hp Nat → T (SV × Hp Nat)
  | [], H => match isSentB 0 M H with
    | true => .leaf (.v (.c (.bl true)), H)
    | false => .fail "awake: heap"
  | _, _ => .fail "awake"
theorem sumT_ok {M : List Bool} {f : FuncId} {g : List SV → Hp Nat → T (SV × Hp Nat)} (hg : FnOk Tryz.prog (NS σ) f g) (hr : (g [] (sentM 0 M)).val = some (.v (.c (.bl true)), sentM 0 M)) : FnOk Tryz.prog (NS σ) f (sumT M) := by
  intro args H v H' h
  unfold sumT at h
  split at h
  · split at h
    · rename_i e
      obtain rfl := isSentB_spec e
      simp only [T.val, Option.some.injEq, Prod.mk.injEq] at h
      obtain ⟨rfl, rfl⟩ := h
      exact hg [] _ _ _ hr
    · simp [T.val] at h
  · simp [T.val] at h
/-- the table with 'awake' -/
def tabW (aw : FuncId) (M : List Bool) : FuncId → Option (List SV → Hp Nat → T (SV × Hp Nat)) := fun f => match Nat.beq f 6 with
  | true => some sumIs
  | false => match Nat.beq f aw with
    | true => some (sumT M)
    | false => none
theorem tabW_ok {aw : FuncId} {M : List Bool} (h : FnOk Tryz.prog (NS σ) aw (sumT M)) : TabOk Tryz.prog (NS σ) (tabW aw M) := by
  intro f g hg
  unfold tabW at hg
  split at hg
  · rename_i e
    have e := (beq_iff _ _).1 e
    subst e
    cases hg
    exact is_ok
  · split at hg
    · rename_i e
      have e := (beq_iff _ _).1 e
      subst e
      cases hg
      exact h
    · cases hg
theorem fnW {aw : FuncId} {M : List Bool} (h : FnOk Tryz.prog (NS σ) aw (sumT M)) (n : Nat) (f : FuncId) : FnOk Tryz.prog (NS σ) f (lv (NS σ) (tabW aw M) n (.fn f)) := lv_fn okS lpsS hvS (tabW_ok h) n f
def it (n : Int) : Cell := .it .i64 n
theorem plIts (l : List Int) : Plain (.v (.agg (l.map it))) := by
  intro c hc
  obtain ⟨x, _, rfl⟩ := List.mem_map.1 hc
  rfl
end Go.Proofs.YtfamkibdecgbgaaGreatDoor
