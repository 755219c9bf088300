/- From runs on explicit heaps to contracts on worlds. -/
import Derived.Test.YtambonphnojcpaaDoorMa
namespace Go.Sx
variable {AV : Type} {P : Program} {N : Env AV}

/-- names that mean: the package-level variables; one block -/
def nm1 (G b : Nat) : Nm := ⟨fun n => if n < G then ⟨n, 0, 0⟩ else ⟨b, 0, 0⟩, fun _ _ => False⟩
theorem hget_nones_at (H : Hp AV) (G : Nat) (c : Option (Chunk AV)) (n : Nat) : hget (nones AV G ++ (c :: H)) n = if n < G then none else if n = G then c else hget H (n - G - 1) := by
  rw [hget_eq]
  by_cases h : n < G
  · rw [if_pos h, List.getElem?_append_left (by rw [nones_len]; exact h), ← hget_eq]
    have := hget_nones ([] : Hp AV) G n
    simpa [hget] using this
  · rw [if_neg h, List.getElem?_append_right (by rw [nones_len]; omega), nones_len]
    by_cases e : n = G
    · subst e; simp
    · rw [if_neg e]
      obtain ⟨k, hk⟩ : ∃ k, n - G = k + 1 := ⟨n - G - 1, by omega⟩
      rw [hk, List.getElem?_cons_succ, show k + 1 - 1 = k from rfl, hget_eq]
/-- a function on one block -/
theorem obj1_calls {f : FuncId} {g : List SV → Hp AV → T (SV × Hp AV)} (hf : FnOk P N f g) {args : List SV} {l l' : List Cell} {ty : TypeId} {v : SV}
    (hrun : (g args (nones AV N.G ++ [some (.cells l ty)])).val.map normR = some (v, nones AV N.G ++ [some (.cells l' ty)]))
    (hl : ∀ c ∈ l, c.name = none) (hl' : ∀ c ∈ l', c.name = none) (hargs : ∀ x ∈ args, ClV (nones AV N.G ++ [some (.cells l ty)]) x) (hv : Plain v) (w : World) (b : Nat)
    (hb : w.heap[b]? = some (.cells (denL Nm.id l).toArray ty (0, 0))) :
    Calls P f (args.map (SV.den (nm1 N.G b))).toArray w fun e w' => e = .returned (v.den Nm.id) ∧ w'.heap[b]? = some (.cells (denL Nm.id l').toArray ty (0, 0)) ∧ Fr (fun k => k = b) (fun k => k = b) w w' := by
  obtain ⟨⟨v0, H0⟩, hr, hn⟩ := Option.map_eq_some_iff.1 hrun
  simp only [normR, Prod.mk.injEq] at hn
  obtain ⟨hn1, hn2⟩ := hn
  have hgG : ∀ n, hget (nones AV N.G ++ [some (Chunk.cells l ty)]) n = if n = N.G then some (.cells l ty) else none := fun n => by
    rw [hget_nones_at]
    by_cases h : n < N.G
    · rw [if_pos h, if_neg (by omega)]
    · rw [if_neg h]; split <;> simp [hget]
  have plain : ∀ (l : List Cell) (ρ ρ' : Nm), (∀ c ∈ l, c.name = none) → denL ρ l = denL ρ' l := fun l ρ ρ' h => by
    unfold denL
    apply List.map_congr_left
    intro c hc
    exact den_congr c fun n hn => by rw [h c hc] at hn; cases hn
  have hO : Own N (nm1 N.G b) (nones AV N.G ++ [some (.cells l ty)]) w := by
    refine ⟨fun n c h => ?_, fun n m c d hnm h h' => ?_, fun g hg => by simp [Nm.f, nm1, hg]⟩
    · rw [hgG] at h
      split at h
      · rename_i e
        subst e
        cases h
        show w.heap[(nm1 N.G b) N.G]? = _
        rw [show (nm1 N.G b) N.G = b by simp [Nm.f, nm1], plain l _ Nm.id hl]
        exact hb
      · cases h
    · rw [hgG] at h h'
      split at h
      · split at h'
        · omega
        · cases h'
      · cases h
  have hcl : ClHp N (nones AV N.G ++ [some (.cells l ty)]) := by
    refine ⟨fun n x h => ?_, trivial⟩
    rw [hgG] at h
    split at h
    · cases h
      intro c hc n hn
      rw [hl c hc] at hn
      cases hn
    · cases h
  obtain ⟨_, _, hc⟩ := hf args _ v0 H0 hr hargs hcl
  refine (hc _ w hO).mono ?_
  rintro e w' ⟨ρ', rfl, hO', hE⟩
  have hG' : ∃ c0, hget H0 N.G = some c0 ∧ normC c0 = .cells l' ty := by
    have : hget (normH H0) N.G = some (.cells l' ty) := by
      rw [hn2, hget_nones_at]; simp
    rw [normH_get] at this
    exact Option.map_eq_some_iff.1 this
  obtain ⟨c0, hc0, hc1⟩ := hG'
  obtain ⟨l0, rfl, hl0⟩ : ∃ l0, c0 = .cells l0 ty ∧ normL l0 = l' := by
    cases c0 with
    | cells l0 t0 => simp only [normC, Chunk.cells.injEq] at hc1; exact ⟨l0, by rw [hc1.2], hc1.1⟩
    | vec _ _ _ => simp [normC] at hc1
    | dead => simp [normC] at hc1
    | abs _ => simp [normC] at hc1
  have hL : ρ' N.G = b := by
    have := hE.agree N.G _ (by rw [hgG, if_pos rfl])
    simp only [Nm.f, this]
    simp [nm1]
  have hq : w'.heap[ρ' N.G]? = _ := hO'.q N.G _ hc0
  refine ⟨?_, ?_, ⟨fun k hk hne => hE.frame k hk fun n c h hfp => ?_, fun k hk => .inr hk, hE.os, hE.tape, hE.output, hE.size⟩⟩
  · rw [← normV_den ρ' v0, hn1, hv.den Nm.id ρ']
  · rw [hL] at hq
    rw [hq, ← normL_den ρ' l0, hl0, plain l' ρ' Nm.id hl']
  · rw [hgG] at h
    split at h
    · rename_i e
      subst e
      cases h
      have : k = (nm1 N.G b) N.G := hfp
      rw [show (nm1 N.G b) N.G = b by simp [Nm.f, nm1]] at this
      exact hne this
    · cases h
end Go.Sx
