/- Trees all of whose leaves are true. -/
import Derived.Test.YtmdojlkmgllhnaaGreatDoorSxP
namespace Go.Sx
variable {AV : Type}
def T.every : T (SV × Hp AV) → Bool
  | .leaf r => svB r.1
  | .ite _ t e => t.every && e.every
  | .need b t => b && t.every
  | .fail _ => false
theorem T.every_spec : ∀ {t : T (SV × Hp AV)}, t.every = true → ∃ r, t.val = some r ∧ ∀ ρ : Nm, r.1.den ρ = .bool true
  | .leaf r, h => by
    refine ⟨r, rfl, fun ρ => ?_⟩
    simp only [T.every, svB] at h
    split at h
    · rename_i c hc
      split at h
      · rename_i b k hb
        subst h
        rw [hc]
        exact boolC_den ρ hb
      · cases h
    · cases h
  | .ite b t e, h => by
    simp only [T.every, Bool.and_eq_true] at h
    cases b with
    | true => exact T.every_spec (t := t) h.1
    | false => exact T.every_spec (t := e) h.2
  | .need b t, h => by
    simp only [T.every, Bool.and_eq_true] at h
    obtain ⟨rfl, h⟩ := h
    exact T.every_spec (t := t) h
  | .fail _, h => by simp [T.every] at h
end Go.Sx
