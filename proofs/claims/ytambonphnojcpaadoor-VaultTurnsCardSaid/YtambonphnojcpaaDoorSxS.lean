/- Objects of one block, or of two where the first points to the second. -/
import Derived.Test.YtambonphnojcpaaDoorSxQ
namespace Go.Sx
variable {P : Program}

/-- a run's result, the first block's cells without the pointer, the second one's cells -/
def viewJ {AV : Type} (pi : Nat) (tj tw : TypeId) (r : SV × Hp AV) : Option (SV × List Cell × Option (List Cell)) :=
  match hget r.2 1 with
  | some (.cells l t) => match Nat.beq t tj with
    | false => none
    | true => match nth l pi with
      | some .pnil => some (normV r.1, normL l, none)
      | some (.ptr p 0) => match Nat.beq p 1, hget r.2 p with
        | false, some (.cells m u) => match Nat.beq u tw with
          | true => some (normV r.1, normL (lset l pi .pnil), some (normL m))
          | false => none
        | _, _ => none
      | _ => none
  | _ => none
/-- a block whose pointer (at place pi) is nil, or leads to a second block -/
def pairQ (pi : Nat) (l : List Cell) (tj : TypeId) (sub : Option (List Cell)) (tw : TypeId) (b : Nat) (S : Nat → Prop) (w : World) : Prop :=
  match sub with
  | none => w.heap[b]? = some (.cells (denL Nm.id l).toArray tj (0, 0)) ∧ ∀ k, S k ↔ k = b
  | some m => ∃ bw, bw ≠ b ∧ w.heap[b]? = some (.cells (denL (nm1 0 bw) (lset l pi (.ptr 0 0))).toArray tj (0, 0)) ∧ w.heap[bw]? = some (.cells (denL Nm.id m).toArray tw (0, 0)) ∧ ∀ k, S k ↔ k = b ∨ k = bw
def pairHp {AV : Type} (pi : Nat) (l : List Cell) (tj : TypeId) (sub : Option (List Cell)) (tw : TypeId) : Hp AV :=
  match sub with
  | none => [none, some (.cells l tj)]
  | some m => [none, some (.cells (lset l pi (.ptr 2 0)) tj), some (.cells m tw)]
theorem pairQ_loc {pi : Nat} {l : List Cell} {tj tw : TypeId} {sub : Option (List Cell)} {b : Nat} {S : Nat → Prop} {w w' : World} (hk : ∀ k, S k → w'.heap[k]? = w.heap[k]?) (h : pairQ pi l tj sub tw b S w) : pairQ pi l tj sub tw b S w' := by
  cases sub with
  | none => exact ⟨by rw [hk b ((h.2 b).2 rfl)]; exact h.1, h.2⟩
  | some m =>
    obtain ⟨bw, h1, h2, h3, h4⟩ := h
    exact ⟨bw, h1, by rw [hk b ((h4 b).2 (.inl rfl))]; exact h2, by rw [hk bw ((h4 bw).2 (.inr rfl))]; exact h3, h4⟩
theorem pairQ_dom {pi : Nat} {l : List Cell} {tj tw : TypeId} {sub : Option (List Cell)} {b : Nat} {S : Nat → Prop} {w : World} {k : Nat} (h : pairQ pi l tj sub tw b S w) (hk : S k) : k < w.heap.size := by
  cases sub with
  | none =>
    have := (h.2 k).1 hk
    subst this
    exact (Array.getElem?_eq_some_iff.1 h.1).1
  | some m =>
    obtain ⟨bw, h1, h2, h3, h4⟩ := h
    rcases (h4 k).1 hk with e | e
    · subst e; exact (Array.getElem?_eq_some_iff.1 h2).1
    · subst e; exact (Array.getElem?_eq_some_iff.1 h3).1

theorem plain_den {l : List Cell} (h : ∀ c ∈ l, c.name = none) (ρ ρ' : Nm) : denL ρ l = denL ρ' l := by
  unfold denL
  apply List.map_congr_left
  intro c hc
  exact den_congr c fun n hn => by rw [h c hc] at hn; cases hn
theorem lset_self {α : Type} : ∀ {l : List α} {i : Nat} {x : α}, nth l i = some x → lset l i x = l
  | [], _, _, h => by simp [nth] at h
  | _ :: _, 0, _, h => by simp only [nth, Option.some.injEq] at h; simp [lset, h]
  | _ :: r, n + 1, x, h => by simp only [nth] at h; simp [lset, lset_self h]
theorem lset_lset {α : Type} : ∀ (l : List α) (i : Nat) (x y : α), lset (lset l i x) i y = lset l i y
  | [], _, _, _ => by simp [lset]
  | _ :: _, 0, _, _ => by simp [lset]
  | _ :: r, n + 1, x, y => by simp [lset, lset_lset r n x y]
theorem normL_lset : ∀ (l : List Cell) (i : Nat) (c : Cell), normL (lset l i c) = lset (normL l) i (norm c)
  | [], _, _ => by simp [lset, normL]
  | _ :: _, 0, _ => by simp [lset, normL]
  | _ :: r, n + 1, c => by simp [lset, normL, normL_lset r n c]
theorem mem_lset {α : Type} : ∀ {l : List α} {i : Nat} {x y : α}, y ∈ lset l i x → y = x ∨ y ∈ l
  | [], _, _, _, h => by simp [lset] at h
  | _ :: _, 0, x, y, h => by
    simp only [lset, List.mem_cons] at h
    rcases h with h | h
    · exact .inl h
    · exact .inr (List.mem_cons_of_mem _ h)
  | z :: r, n + 1, x, y, h => by
    simp only [lset, List.mem_cons] at h
    rcases h with h | h
    · exact .inr (by rw [h]; exact List.mem_cons_self ..)
    · rcases mem_lset h with h | h
      · exact .inl h
      · exact .inr (List.mem_cons_of_mem _ h)
/-- a list in which only one place may have a name, with a pointer there -/
theorem den_lset {l : List Cell} (h : ∀ c ∈ l, c.name = none) (pi n n' : Nat) (ρ ρ' : Nm) (e : ρ n = ρ' n') : denL ρ (lset l pi (.ptr n 0)) = denL ρ' (lset l pi (.ptr n' 0)) := by
  induction l generalizing pi with
  | nil => simp [lset, denL]
  | cons c r ih =>
    cases pi with
    | zero =>
      have := plain_den (fun c hc => h c (List.mem_cons_of_mem _ hc)) ρ ρ'
      simp only [denL] at this
      simp [lset, denL, Cell.den, e, this]
    | succ k =>
      have h1 := ih (fun c hc => h c (List.mem_cons_of_mem _ hc)) k
      have h2 := plain_den (l := [c]) (fun d hd => h d (by simp at hd; subst hd; exact List.mem_cons_self ..)) ρ ρ'
      simp only [denL, List.map_cons, List.map_nil, List.cons.injEq, and_true] at h1 h2
      simp [lset, denL, h1, h2]

/-- the names: the package-level variable, the object, what it points to -/
def nm2 (b bw : Nat) : Nm := ⟨fun n => if n = 1 then ⟨b, 0, 0⟩ else if n = 2 then ⟨bw, 0, 0⟩ else ⟨n, 0, 0⟩, fun _ _ => False⟩
theorem nm2_1 (b bw : Nat) : (nm2 b bw) 1 = b := by simp [nm2, Nm.f]
theorem nm2_2 (b bw : Nat) : (nm2 b bw) 2 = bw := by simp [nm2, Nm.f]
theorem pair_get {AV : Type} {pi : Nat} {l : List Cell} {tj tw : TypeId} {sub : Option (List Cell)} {n : Nat} {c : Chunk AV} (h : hget (pairHp pi l tj sub tw) n = some c) :
    (n = 1 ∧ sub = none ∧ c = .cells l tj) ∨ (∃ m, sub = some m ∧ ((n = 1 ∧ c = .cells (lset l pi (.ptr 2 0)) tj) ∨ (n = 2 ∧ c = .cells m tw))) := by
  cases sub with
  | none =>
    match n, h with
    | 0, h => simp [pairHp, hget] at h
    | 1, h => simp only [pairHp, hget, Option.some.injEq] at h; exact .inl ⟨rfl, rfl, h.symm⟩
    | n + 2, h => simp [pairHp, hget] at h
  | some m =>
    match n, h with
    | 0, h => simp [pairHp, hget] at h
    | 1, h => simp only [pairHp, hget, Option.some.injEq] at h; exact .inr ⟨m, rfl, .inl ⟨rfl, h.symm⟩⟩
    | 2, h => simp only [pairHp, hget, Option.some.injEq] at h; exact .inr ⟨m, rfl, .inr ⟨rfl, h.symm⟩⟩
    | n + 3, h => simp [pairHp, hget] at h
theorem pair_one {AV : Type} (pi : Nat) (l : List Cell) (tj tw : TypeId) (sub : Option (List Cell)) : ∃ c : Chunk AV, hget (pairHp pi l tj sub tw) 1 = some c := by
  cases sub <;> exact ⟨_, rfl⟩
theorem pair_open {AV : Type} {N : Env AV} (hG : N.G = 1) {pi : Nat} {l : List Cell} {tj tw : TypeId} {sub : Option (List Cell)} (hl : ∀ c ∈ l, c.name = none) (hs : ∀ m, sub = some m → ∀ c ∈ m, c.name = none) {w : World} {b : Nat} {S : Nat → Prop} (hq : pairQ pi l tj sub tw b S w) :
    ∃ bw, Own N (nm2 b bw) (pairHp pi l tj sub tw) w ∧ ClHp N (pairHp (AV := AV) pi l tj sub tw) ∧ ∀ n c k, hget (pairHp (AV := AV) pi l tj sub tw) n = some c → c.fp (nm2 b bw) n k → S k := by
  have glb : ∀ bw g, g < N.G → (nm2 b bw) g = g := fun bw g hg => by
    rw [hG] at hg
    obtain rfl : g = 0 := by omega
    simp [nm2, Nm.f]
  have clo : ∀ (x : Chunk AV) n, hget (pairHp pi l tj sub tw) n = some x → ClL (pairHp (AV := AV) pi l tj sub tw) x.cellsOf := by
    intro x n h c hc k hk
    rcases pair_get h with ⟨_, _, rfl⟩ | ⟨m, hm, ⟨_, rfl⟩ | ⟨_, rfl⟩⟩
    · rw [hl c hc] at hk; cases hk
    · rcases mem_lset hc with rfl | hc
      · simp only [Cell.name, Option.some.injEq] at hk
        subst hk
        subst hm
        exact ⟨_, rfl⟩
      · rw [hl c hc] at hk; cases hk
    · rw [hs m hm c hc] at hk; cases hk
  cases hsub : sub with
  | none =>
    subst hsub
    obtain ⟨q1, q2⟩ := hq
    refine ⟨b, ⟨fun n c h => ?_, fun n m c d hnm h h' => ?_, glb b⟩, ⟨fun n x h => clo x n h, trivial⟩, fun n c k h hk => ?_⟩
    · rcases pair_get h with ⟨rfl, _, rfl⟩ | ⟨m, hm, _⟩
      · show w.heap[(nm2 b b) 1]? = _
        rw [nm2_1, plain_den hl _ Nm.id]
        exact q1
      · cases hm
    · rcases pair_get h with ⟨rfl, _, rfl⟩ | ⟨m, hm, _⟩
      · rcases pair_get h' with ⟨rfl, _, rfl⟩ | ⟨m, hm, _⟩
        · exact absurd rfl hnm
        · cases hm
      · cases hm
    · rcases pair_get h with ⟨rfl, _, rfl⟩ | ⟨m, hm, _⟩
      · have hk : k = (nm2 b b) 1 := hk
        rw [nm2_1] at hk
        exact (q2 k).2 hk
      · cases hm
  | some m =>
    subst hsub
    obtain ⟨bw, q1, q2, q3, q4⟩ := hq
    refine ⟨bw, ⟨fun n c h => ?_, fun n m' c d hnm h h' => ?_, glb bw⟩, ⟨fun n x h => clo x n h, trivial⟩, fun n c k h hk => ?_⟩
    · rcases pair_get h with ⟨_, hm, _⟩ | ⟨m', hm, ⟨rfl, rfl⟩ | ⟨rfl, rfl⟩⟩
      · cases hm
      · show w.heap[(nm2 b bw) 1]? = _
        rw [nm2_1, den_lset hl pi 2 0 (nm2 b bw) (nm1 0 bw) (by rw [nm2_2]; simp [nm1, Nm.f])]
        exact q2
      · cases hm
        show w.heap[(nm2 b bw) 2]? = _
        rw [nm2_2, plain_den (hs _ rfl) _ Nm.id]
        exact q3
    · intro k hk hk'
      rcases pair_get h with ⟨_, hm, _⟩ | ⟨_, _, ⟨rfl, rfl⟩ | ⟨rfl, rfl⟩⟩
      · cases hm
      · rcases pair_get h' with ⟨_, hm, _⟩ | ⟨_, _, ⟨rfl, rfl⟩ | ⟨rfl, rfl⟩⟩
        · cases hm
        · exact hnm rfl
        · have hk : k = (nm2 b bw) 1 := hk
          have hk' : k = (nm2 b bw) 2 := hk'
          rw [nm2_1] at hk
          rw [nm2_2] at hk'
          omega
      · rcases pair_get h' with ⟨_, hm, _⟩ | ⟨_, _, ⟨rfl, rfl⟩ | ⟨rfl, rfl⟩⟩
        · cases hm
        · have hk : k = (nm2 b bw) 2 := hk
          have hk' : k = (nm2 b bw) 1 := hk'
          rw [nm2_2] at hk
          rw [nm2_1] at hk'
          omega
        · exact hnm rfl
    · rcases pair_get h with ⟨_, hm, _⟩ | ⟨_, _, ⟨rfl, rfl⟩ | ⟨rfl, rfl⟩⟩
      · cases hm
      · have hk : k = (nm2 b bw) 1 := hk
        rw [nm2_1] at hk
        exact (q4 k).2 (.inl hk)
      · have hk : k = (nm2 b bw) 2 := hk
        rw [nm2_2] at hk
        exact (q4 k).2 (.inr hk)
/-- a method of such an object -/
theorem pair_calls {AV : Type} {N : Env AV} {f : FuncId} {g : List SV → Hp AV → T (SV × Hp AV)} (hf : FnOk P N f g) (hG : N.G = 1) {args : List SV} {pi : Nat} {l l' : List Cell} {tj tw : TypeId} {sub sub' : Option (List Cell)} {v : SV} {r : SV × Hp AV}
    (hrun : (g args (pairHp pi l tj sub tw)).val = some r) (hview : viewJ pi tj tw r = some (v, l', sub')) (hl : ∀ c ∈ l, c.name = none) (hl' : ∀ c ∈ l', c.name = none)
    (hs : ∀ m, sub = some m → ∀ c ∈ m, c.name = none) (hs' : ∀ m, sub' = some m → ∀ c ∈ m, c.name = none)
    (hargs : ∀ x ∈ args, Plain x ∨ x = .v (.c (.ptr 1 0))) (hv : Plain v) (w : World) (b : Nat) (S : Nat → Prop) (hq : pairQ pi l tj sub tw b S w) :
    Calls P f (args.map (SV.den (nm1 0 b))).toArray w fun e w' => e = .returned (v.den Nm.id) ∧ ∃ S', pairQ pi l' tj sub' tw b S' w' ∧ Fr S S' w w' := by
  obtain ⟨bw, hO, hcl, hfp⟩ := pair_open (AV := AV) hG hl hs hq
  obtain ⟨v0, H0⟩ := r
  obtain ⟨_, _, hc⟩ := hf args _ v0 H0 hrun (fun x hx => by
    rcases hargs x hx with h | rfl
    · exact h.cl _
    · intro c hc n hn
      simp [V1.cells] at hc
      subst hc
      simp only [Cell.name, Option.some.injEq] at hn
      subst hn
      exact pair_one ..) hcl
  have ha : args.map (SV.den (nm1 0 b)) = args.map (SV.den (nm2 b bw)) := by
    apply List.map_congr_left
    intro x hx
    rcases hargs x hx with h | rfl
    · exact h.den _ _
    · simp [SV.den, V1.den, Cell.den, Nm.f, nm1, nm2]
  rw [ha]
  refine (hc _ w hO).mono ?_
  rintro e w' ⟨ρ', rfl, hO', hE⟩
  have hL : ρ' 1 = b := by
    obtain ⟨c, hc⟩ := pair_one (AV := AV) pi l tj tw sub
    have := hE.agree 1 c hc
    simp only [Nm.f, this]
    simp [nm2]
  unfold viewJ at hview
  simp only at hview
  split at hview
  · rename_i lc t hc1
    split at hview
    · cases hview
    · rename_i ht
      have ht := (beq_iff _ _).1 ht
      subst ht
      have hq1 : w'.heap[ρ' 1]? = some (.cells (denL ρ' lc).toArray t (0, 0)) := hO'.q 1 _ hc1
      rw [hL] at hq1
      have frame : ∀ (S' : Nat → Prop), (∀ k, S' k → ∃ n c, hget H0 n = some c ∧ c.fp ρ' n k) → Fr S S' w w' := by
        intro S' hS'
        refine ⟨fun k hk hno => hE.frame k hk fun n c h hk' => hno (hfp n c k h hk'), fun k hk => ?_, hE.os, hE.tape, hE.output, hE.size⟩
        obtain ⟨n, c, h, hk'⟩ := hS' k hk
        rcases hE.new n c k h hk' with h1 | ⟨m, d, hd, hk''⟩
        · exact .inl h1
        · exact .inr (hfp m d k hd hk'')
      split at hview
      · -- no second block
        rename_i hp
        simp only [Option.some.injEq, Prod.mk.injEq] at hview
        obtain ⟨rfl, rfl, rfl⟩ := hview
        refine ⟨by rw [← normV_den ρ' v0, hv.den Nm.id ρ'], fun k => k = b, ⟨?_, fun k => Iff.rfl⟩, frame _ fun k hk => ⟨1, _, hc1, ?_⟩⟩
        · rw [hq1, ← normL_den ρ' lc, plain_den hl' ρ' Nm.id]
        · show k = ρ' 1
          rw [hL]; exact hk
      · rename_i p hp
        split at hview
        · rename_i mc u hp1 hc2
          have hp1 := (beq_false_iff _ _).1 hp1
          split at hview
          · rename_i hu
            have hu := (beq_iff _ _).1 hu
            subst hu
            simp only [Option.some.injEq, Prod.mk.injEq] at hview
            obtain ⟨rfl, rfl, rfl⟩ := hview
            have hq2 : w'.heap[ρ' p]? = some (.cells (denL ρ' mc).toArray u (0, 0)) := hO'.q p _ hc2
            have hne : ρ' p ≠ b := by
              intro e
              exact hO'.dis p 1 _ _ hp1 hc2 hc1 (ρ' p) rfl (by show ρ' p = ρ' 1; rw [hL, e])
            refine ⟨by rw [← normV_den ρ' v0, hv.den Nm.id ρ'], fun k => k = b ∨ k = ρ' p, ⟨ρ' p, hne, ?_, ?_, fun k => Iff.rfl⟩, frame _ fun k hk => ?_⟩
            · rw [hq1, ← normL_den ρ' lc]
              have e1 : normL lc = lset (normL (lset lc pi .pnil)) pi (.ptr p 0) := by
                have := normL_lset lc pi (.ptr p 0)
                rw [lset_self hp] at this
                rw [normL_lset, lset_lset]
                exact this
              rw [e1, den_lset hl' pi p 0 ρ' (nm1 0 (ρ' p)) (by simp [nm1, Nm.f])]
            · rw [hq2, ← normL_den ρ' mc, plain_den (hs' _ rfl) ρ' Nm.id]
            · rcases hk with rfl | rfl
              · exact ⟨1, _, hc1, by show k = ρ' 1; rw [hL]⟩
              · exact ⟨p, _, hc2, rfl⟩
          · cases hview
        · cases hview
      · cases hview
  · cases hview
end Go.Sx
