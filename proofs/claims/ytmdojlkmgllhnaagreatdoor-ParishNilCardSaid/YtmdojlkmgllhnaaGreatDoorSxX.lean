/- A loop's summary by a family of states: what is to be shown in all. -/
import Derived.Test.YtmdojlkmgllhnaaGreatDoorSxU
namespace Go.Sx
variable {AV : Type} {P : Program}
/-- the state at the loop says as much as a state of a family; each round leads from one state of the family to one with a smaller measure; the last ones say as much as the summary's -/
structure LoopFam (N : Env AV) (cal : Callee AV) (lp : Nat → Option (St AV → T (Ex × St AV))) (nt : Nat) (c : Code) (s s' : St AV) (ex : Ex) where
  ι : Type
  fam : ι → St AV
  ks : List Nat
  μ : ι → Nat
  i0 : ι
  says : Says nt s.E (fam i0).E
  heap : (fam i0).H = s.H
  step : ∀ i, ∃ ex1 s1, (xc N cal lp nt c (fam i)).val = some (ex1, s1) ∧ match ex1 with
    | .normal => ∃ i', μ i' < μ i ∧ ({ s1 with E := only ks s1.E nt } : St AV) = fam i'
    | e => e = ex ∧ Says nt s1.E s'.E ∧ s1.H = s'.H
/-- the closedness of the result is seen from the heap alone -/
theorem loopOk_fam {N N' : Env AV} (hF : N'.F = N.F) (hG : N'.G = N.G) (hT : TblOk P N) {cal : Callee AV} (hcal : CalOk P N cal) {lp : Nat → Option (St AV → T (Ex × St AV))} {nt : Nat} {c : Code} (hlp : LpOk P N nt c lp)
    {g : St AV → T (Ex × St AV)} (h : ∀ s s' ex, (g s).val = some (ex, s') → Nonempty (LoopFam N cal lp nt c s s' ex) ∧ s'.H = s.H ∧ (Closed N s → Closed N s')) : LoopOk P N' nt c g := by
  intro L s s' ex hg hcl hL
  obtain ⟨⟨f⟩, hh, hc'⟩ := h s s' ex hg
  obtain ⟨ι, fam, ks, μ, i0, says, heap, step⟩ := f
  have hclN : Closed N s := closed_env N hcl
  refine ⟨closed_env N' (hc' hclN), by rw [hh]; exact hL, fun {ρ a w} hat => ?_⟩
  have hatN : At N nt ρ s a w := ⟨hat.em, own_env hF.symm hG.symm hat.own⟩
  have hat0 : At N nt ρ (fam i0) a w := ⟨says.em hatN.em, by rw [heap]; exact hatN.own⟩
  have hcl0 : Closed N (fam i0) := by
    have := Says.closed (N := N) (N' := N) says hclN
    have e : fam i0 = { E := (fam i0).E, H := s.H } := by rw [← heap]
    rw [e]; exact this
  refine wp_loop_rounds (μ i0 + 1) (loop_inv hT hcal hlp fam ks μ (fun e s1 => e = ex ∧ Says nt s1.E s'.E ∧ s1.H = s'.H) (fun i => ?_) L (μ i0 + 1) i0 (by omega) hcl0 (by rw [heap]; exact hL) ρ a w hat0 _ ?_)
  · obtain ⟨ex1, s1, h1, h2⟩ := step i
    exact ⟨ex1, s1, h1, h2⟩
  · rintro ex1 s1 a' w' ⟨rfl, hs, hH⟩ _ _ ⟨⟨ρ₂, e2, o2, v2⟩, d2⟩
    refine ⟨rfl, ⟨ρ₂, hs.em e2, ?_, ?_⟩, d2⟩
    · rw [← hH]; exact own_env hF hG o2
    · rw [← hH, ← heap]; exact evo_env N' v2
end Go.Sx
