/- errors.Is as a summary: a sentinel against itself, bare or wrapped once. -/
import Derived.Test.YtmdojlkmgllhnaaGreatDoorEi
import Derived.Test.YtmdojlkmgllhnaaGreatDoorSxP
namespace Go.Proofs.YtmdojlkmgllhnaaGreatDoor
open Go Go.Sx Go.Proofs
variable {AV : Type} {N : Env AV}
def sumIs : List SV → Hp AV → T (SV × Hp AV)
  | [.v (.c (.ifc te (.op i a))), .v (.c (.ifc tt (.op j b)))], H => match Nat.beq te 254, Nat.beq tt 254, Nat.beq i j with
    | true, true, true => .need (decide (a = b)) (.leaf (.v (.c (.bl true)), H))
    | _, _, _ => .fail "Is"
  | [.v (.c (.ifc tw (.ptr n 0))), .v (.c (.ifc tt (.op j b)))], H => match Nat.beq tw 221, Nat.beq tt 254, hget H n with
    | true, true, some (.cells [_, .ifc te (.op i a)] _) => match Nat.beq te 254, Nat.beq i j with
      | true, true => .need (decide (a = b)) (.leaf (.v (.c (.bl true)), H))
      | _, _ => .fail "Is"
    | _, _, _ => .fail "Is"
  | _, _ => .fail "Is"
/-- a function that leaves the world as it is -/
theorem same_ok {f : FuncId} {args : List SV} {H : Hp AV} {v : SV} (hC : ClHp N H) (hv : Plain v)
    (hc : ∀ (ρ : Nm) (w : World), Own N ρ H w → Calls Tryz.prog f (args.map (SV.den ρ)).toArray w fun e w' => e = .returned (v.den ρ) ∧ w' = w) :
    ClV H v ∧ ClHp N H ∧ ∀ (ρ : Nm) (w : World), Own N ρ H w →
      Calls Tryz.prog f (args.map (SV.den ρ)).toArray w fun e w' => ∃ ρ', e = .returned (v.den ρ') ∧ Own N ρ' H w' ∧ Evo N H.length ρ H w ρ' H w' := by
  refine ⟨hv.cl _, hC, fun ρ w hO => (hc ρ w hO).mono ?_⟩
  rintro e w' ⟨rfl, rfl⟩
  exact ⟨ρ, rfl, hO, Evo.refl _ _ _ _⟩
theorem plT : Plain (.v (.c (.bl true))) := by intro c hc; simp [V1.cells] at hc; subst hc; rfl
theorem is_ok : FnOk Tryz.prog N 7 sumIs := by
  intro args H v H' h hargs hC
  unfold sumIs at h
  split at h
  · rename_i te _ a tt _ b
    split at h
    · rename_i h1 h2 _
      have h1 := (beq_iff _ _).1 h1
      have h2 := (beq_iff _ _).1 h2
      subst h1 h2
      obtain ⟨hab, h⟩ := need_val h
      have hab := of_decide_eq_true hab
      subst hab
      simp only [T.val, Option.some.injEq, Prod.mk.injEq] at h
      obtain ⟨rfl, rfl⟩ := h
      exact same_ok hC plT fun ρ w _ => is_same a w
    · simp [T.val] at h
  · rename_i tw n tt _ b
    split at h
    · rename_i p te _ a ty h1 h2 hn
      split at h
      · rename_i h3 _
        have h1 := (beq_iff _ _).1 h1
        have h2 := (beq_iff _ _).1 h2
        have h3 := (beq_iff _ _).1 h3
        subst h1 h2 h3
        obtain ⟨hab, h⟩ := need_val h
        have hab := of_decide_eq_true hab
        subst hab
        simp only [T.val, Option.some.injEq, Prod.mk.injEq] at h
        obtain ⟨rfl, rfl⟩ := h
        refine same_ok hC plT fun ρ w hO => is_wrap_same (ρ n) 0 a w ?_
        have := cells_at hO hn 1 _ rfl
        exact this
      · simp [T.val] at h
    · simp [T.val] at h
  · simp [T.val] at h
end Go.Proofs.YtmdojlkmgllhnaaGreatDoor
