/- A function that sees the listed variables alone, each an error of its own, and leaves them as they are. The variables are abstract things, known by their numbers. -/
import Derived.Test.YtmdojlkmgllhnaaGreatDoorSxP
namespace Go.Sx
open Go
/-- error number i at its variable: te: the type of the error's pointer, ty: 'error' -/
def sentF (te ty : TypeId) (σ : Nat → Addr) : Intf Nat where
  q := fun i l S w => (∀ k, S k ↔ k = l.b) ∧ w.heap[l.b]? = some (.cells #[.iface te (.pointer (some (σ i)))] ty (0, 0))
  loc := fun a l S w w' h hq => ⟨hq.1, by rw [h l.b ((hq.1 _).2 rfl)]; exact hq.2⟩
  dom := fun a l S w k hq hk => by
    rw [(hq.1 k).1 hk]
    exact (Array.getElem?_eq_some_iff.1 hq.2).1
  row := fun _ _ _ => none
  row_nm := fun _ _ _ _ h => by cases h
  row_ok := fun _ _ _ _ _ _ _ _ h => by cases h
  upd := fun _ _ _ _ _ => none
  upd_ok := fun _ _ _ _ _ _ _ _ _ _ h => by cases h
  word := fun i => some [.ifc te (.op i (σ i))]
  word_nm := fun i cs h c hc => by
    cases h
    rw [List.mem_singleton.1 hc]
    rfl
  word_ok := fun i l S w cs hq h j c hc => by
    cases h
    match j, hc with
    | 0, hc =>
      simp only [List.getElem?_cons_zero, Option.some.injEq] at hc
      subst hc
      simp [World.cell?, hq.2, Cell.den]
  same := Nat.beq
  same_ok := fun a b h => (beq_iff a b).1 h
def sentH : Nat → Nat → Hp Nat
  | _, 0 => []
  | i, n + 1 => some (.abs i) :: sentH (i + 1) n
theorem sentH_get : ∀ {m i n : Nat} {c : Chunk Nat}, hget (sentH i m) n = some c → n < m ∧ c = .abs (i + n)
  | 0, _, n, _, h => by cases n <;> simp [sentH, hget] at h
  | m + 1, i, 0, c, h => by
    simp only [sentH, hget, Option.some.injEq] at h
    exact ⟨by omega, h.symm⟩
  | m + 1, i, n + 1, c, h => by
    simp only [sentH, hget] at h
    obtain ⟨h1, h2⟩ := sentH_get (m := m) h
    exact ⟨by omega, by rw [h2, Nat.add_right_comm, Nat.add_assoc]⟩
def Nm.own : Nm := ⟨fun n => ⟨n, 0, 0⟩, fun n k => k = n⟩
theorem quietGs {P : Program} {N : Env Nat} {te ty : TypeId} {σ : Nat → Addr} (hF : N.F = sentF te ty σ) {g : List SV → Hp Nat → T (SV × Hp Nat)} {f : FuncId} (hf : FnOk P N f g) {args : List SV} {w : World}
    (hg : ∀ n, n < N.G → w.heap[n]? = some (.cells #[.iface te (.pointer (some (σ n)))] ty (0, 0)))
    (hargs : ∀ x ∈ args, Plain x) {v : SV} {H' : Hp Nat} (hrun : (g args (sentH 0 N.G)).val = some (v, H')) (hv : ∀ ρ : Nm, v.den ρ = .bool true) (h0 : ∀ n, n < N.G → hget H' n = some (.abs n)) :
    Calls P f (args.map (SV.den Nm.own)).toArray w fun e w' => e = .returned (.bool true) ∧ Quiet w w' := by
  have hO : Own N Nm.own (sentH 0 N.G) w := by
    refine ⟨fun n c h => ?_, fun n m c d hnm h h' k hk hk' => ?_, fun g _ => rfl⟩
    · obtain ⟨h1, rfl⟩ := sentH_get h
      rw [Nat.zero_add]
      show N.F.q _ _ _ _
      rw [hF]
      exact ⟨fun k => Iff.rfl, hg n h1⟩
    · obtain ⟨h1, rfl⟩ := sentH_get h
      obtain ⟨h2, rfl⟩ := sentH_get h'
      have e1 : k = n := hk
      have e2 : k = m := hk'
      exact hnm (e1.symm.trans e2)
  have hcl : ClHp N (sentH 0 N.G) := by
    refine ⟨fun n x h => ?_, trivial⟩
    obtain ⟨_, rfl⟩ := sentH_get h
    intro c hc
    cases hc
  obtain ⟨_, _, hc⟩ := hf args _ v H' hrun (fun x hx => (hargs x hx).cl _) hcl
  refine (hc _ w hO).mono ?_
  rintro e w' ⟨ρ', rfl, hO', hE⟩
  refine ⟨by rw [hv ρ'], ⟨fun k hk => ?_, hE.os, hE.tape, hE.output, hE.size⟩⟩
  by_cases e0 : k < N.G
  · have hq : N.F.q k (ρ'.L k) (ρ'.S k) w' := hO'.q k _ (h0 k e0)
    rw [hF] at hq
    have hr0 : ρ' k = k := hO'.glb k e0
    have this : w'.heap[ρ' k]? = some (.cells #[.iface te (.pointer (some (σ k)))] ty (0, 0)) := hq.2
    rw [hr0] at this
    rw [this, hg k e0]
  · refine hE.frame k hk fun n c h hf => ?_
    obtain ⟨h1, rfl⟩ := sentH_get h
    have e1 : k = n := hf
    omega
theorem plain_den {x : SV} (h : Plain x) (ρ ρ' : Nm) : x.den ρ = x.den ρ' := by
  have one : ∀ y : V1, (∀ c ∈ y.cells, c.name = none) → y.den ρ = y.den ρ' := by
    intro y hy
    have hc : ∀ c ∈ y.cells, c.den ρ = c.den ρ' := fun c hc => den_congr c (fun m hm => by rw [hy c hc] at hm; cases hm)
    cases y with
    | c x => exact hc x (by simp [V1.cells])
    | agg l =>
      simp only [V1.den, denL]
      rw [show List.map (Cell.den ρ) l = List.map (Cell.den ρ') l from List.map_congr_left hc]
  cases x with
  | v y => exact one y h
  | tup l =>
    simp only [SV.den]
    rw [List.map_congr_left (fun y hy => one y (h y hy))]
  | unk => rfl
end Go.Sx
