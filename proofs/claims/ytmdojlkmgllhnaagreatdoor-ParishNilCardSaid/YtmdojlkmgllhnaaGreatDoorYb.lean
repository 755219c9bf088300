/- Laws run on the listed errors, in the frame with objects. -/
import Derived.Test.YtmdojlkmgllhnaaGreatDoorYa
import Derived.Test.YtmdojlkmgllhnaaGreatDoorQg
namespace Go.Proofs.YtmdojlkmgllhnaaGreatDoor
open Go Go.Sx Go.Proofs
set_option linter.unusedVariables false
variable {σ : Nat → Addr}
theorem hpO_get {n : Nat} {c : Chunk AV} (h : hget (hpO allM []) n = some c) : n < 8 ∧ c = .abs (.sent n) := by
  unfold hpO at h
  rw [show absL ([] : List AV) = [] from rfl, List.append_nil] at h
  obtain ⟨h1, h2⟩ := (sentL_get _ _ _ _ _).1 h
  have := (List.getElem?_eq_some_iff.1 h1).1
  rw [show allM.length = 8 from List.length_replicate] at this
  exact ⟨this, by rw [h2, Nat.zero_add]⟩
theorem quietV {g : List SV → Hp AV → T (SV × Hp AV)} {f : FuncId} (hf : FnOk Tryz.prog (NV σ) f g) {args : List SV} {w : World}
    (hg : ∀ n, n < 8 → w.heap[n]? = some (.cells #[.iface 254 (.pointer (some (σ n)))] 31 (0, 0)))
    (hargs : ∀ x ∈ args, Plain x) {v : SV} {H' : Hp AV} (hrun : (g args (hpO allM [])).val = some (v, H')) (hv : ∀ ρ : Nm, v.den ρ = .bool true) (h0 : ∀ n, n < 8 → hget H' n = some (.abs (.sent n))) :
    Calls Tryz.prog f (args.map (SV.den Nm.own)).toArray w fun e w' => e = .returned (.bool true) ∧ Quiet w w' := by
  have hO : Own (NV σ) Nm.own (hpO allM []) w := by
    refine ⟨fun n c h => ?_, fun n m c d hnm h h' k hk hk' => ?_, fun g _ => rfl⟩
    · obtain ⟨h1, rfl⟩ := hpO_get h
      exact (q_avF (N := NV σ) (σ := σ) rfl rfl _ _ _).2 ⟨fun k => Iff.rfl, hg n h1⟩
    · obtain ⟨h1, rfl⟩ := hpO_get h
      obtain ⟨h2, rfl⟩ := hpO_get h'
      have e1 : k = n := hk
      have e2 : k = m := hk'
      exact hnm (e1.symm.trans e2)
  obtain ⟨_, _, hc⟩ := hf args _ v H' hrun (fun x hx => (hargs x hx).cl _) (hpO_cl _ _)
  refine (hc _ w hO).mono ?_
  rintro e w' ⟨ρ', rfl, hO', hE⟩
  refine ⟨by rw [hv ρ'], ⟨fun k hk => ?_, hE.os, hE.tape, hE.output, hE.size⟩⟩
  by_cases e0 : k < 8
  · have hq := (q_avF (N := NV σ) (σ := σ) rfl rfl _ _ _).1 (hO'.q k _ (h0 k e0))
    have hr0 : ρ' k = k := hO'.glb k e0
    have this : w'.heap[ρ' k]? = some (.cells #[.iface 254 (.pointer (some (σ k)))] 31 (0, 0)) := hq.2
    rw [hr0] at this
    rw [this, hg k e0]
  · refine hE.frame k hk fun n c h hf => ?_
    obtain ⟨h1, rfl⟩ := hpO_get h
    have e1 : k = n := hf
    omega
end Go.Proofs.YtmdojlkmgllhnaaGreatDoor
