/- The symbolic executor: how its results are read: trees of bools; summaries of functions that see no memory. -/
import Derived.Test.YtmdojlkmgllhnaaGreatDoorSxM
namespace Go.Sx
variable {AV : Type} {P : Program} {N : Env AV}

/-- the Bool that a tree comes to -/
def T.bool : T (SV × Hp AV) → Bool
  | .leaf r => match r.1 with
    | .v (.c c) => match boolC c with
      | some (b, _) => b
      | none => false
    | _ => false
  | .ite b t e => match b with | true => t.bool | false => e.bool
  | .need b t => match b with | true => t.bool | false => false
  | .fail _ => false
theorem T.bool_spec : ∀ {t : T (SV × Hp AV)}, t.bool = true → ∃ r, t.val = some r ∧ ∀ ρ : Nm, r.1.den ρ = .bool true
  | .leaf r, h => by
    refine ⟨r, rfl, fun ρ => ?_⟩
    simp only [T.bool] at h
    split at h
    · rename_i c hc
      split at h
      · rename_i b k hb
        subst h
        rw [hc]
        exact boolC_den ρ hb
      · cases h
    · cases h
  | .ite true t e, h => by obtain ⟨r, h1, h2⟩ := T.bool_spec (t := t) h; exact ⟨r, h1, h2⟩
  | .ite false t e, h => by obtain ⟨r, h1, h2⟩ := T.bool_spec (t := e) h; exact ⟨r, h1, h2⟩
  | .need b t, h => by
    cases b with
    | false => simp [T.bool] at h
    | true => obtain ⟨r, h1, h2⟩ := T.bool_spec (t := t) h; exact ⟨r, h1, h2⟩
  | .fail _, h => by simp [T.bool] at h
def T.leaves {α : Type} : T α → List α
  | .leaf a => [a]
  | .ite _ t e => t.leaves ++ e.leaves
  | .need _ t => t.leaves
  | .fail _ => []
theorem T.val_mem {α : Type} : ∀ {t : T α} {a : α}, t.val = some a → a ∈ t.leaves
  | .leaf b, a, h => by cases h; simp [T.leaves]
  | .ite b t e, a, h => by
    cases b with
    | true => exact List.mem_append.2 (.inl (T.val_mem (t := t) h))
    | false => exact List.mem_append.2 (.inr (T.val_mem (t := e) h))
  | .need b t, a, h => by
    obtain ⟨_, h⟩ := need_val h
    exact T.val_mem (t := t) h
  | .fail _, a, h => by cases h
theorem T.val_leaf {α β : Type} {t : T α} {a : α} {f : α → β} {b : β} {n : Nat} (h : t.val = some a) (hl : (t.map f).leaves = List.replicate n b) : f a = b := by
  have : (t.map f).val = some (f a) := by rw [T.val_map, h]; rfl
  have := T.val_mem this
  rw [hl] at this
  exact (List.mem_replicate.1 this).2

/-- every leaf is a bool, nothing is asked -/
def T.allB : T (SV × Hp AV) → Bool
  | .leaf r => match r.1 with
    | .v (.c c) => match boolC c with
      | some _ => true
      | none => false
    | _ => false
  | .ite _ t e => match t.allB with | true => e.allB | false => false
  | .need _ _ => false
  | .fail _ => false
/-- the Bool of a value -/
def svB : SV → Bool
  | .v (.c c) => match boolC c with
    | some (b, _) => b
    | none => false
  | _ => false
/-- the Bool that a tree of values comes to -/
def T.boolV : T SV → Bool
  | .leaf v => svB v
  | .ite b t e => match b with | true => t.boolV | false => e.boolV
  | .need b t => match b with | true => t.boolV | false => false
  | .fail _ => false
theorem T.bool_map : ∀ (t : T (SV × Hp AV)), (t.map fun r => r.1).boolV = t.bool
  | .leaf r => by
    simp only [T.map, T.boolV, T.bool, svB]
  | .ite b t e => by simp only [T.map, T.boolV, T.bool]; rw [T.bool_map t, T.bool_map e]
  | .need b t => by simp only [T.map, T.boolV, T.bool]; rw [T.bool_map t]
  | .fail _ => rfl

/-- all memory that there was is as it was -/
structure Quiet (w w' : World) : Prop where
  block : ∀ k, k < w.heap.size → w'.heap[k]? = w.heap[k]?
  os : w'.os = w.os
  tape : w'.tape = w.tape
  output : w'.output = w.output
  size : w.heap.size ≤ w'.heap.size
def Plain : SV → Prop
  | .v x => ∀ c ∈ x.cells, c.name = none
  | .tup l => ∀ x ∈ l, ∀ c ∈ x.cells, c.name = none
  | .unk => True
theorem Plain.cl {v : SV} (h : Plain v) (H : Hp AV) : ClV H v := by
  cases v with
  | v x => exact clL_nil h
  | tup l => exact fun x hx => clL_nil (h x hx)
  | unk => trivial
theorem Plain.den {v : SV} (h : Plain v) (ρ ρ' : Nm) : v.den ρ' = v.den ρ := SV.den_congr (H := ([] : Hp Unit)) (h.cl _) (fun n c hc => by simp [hget] at hc)
theorem T.allB_spec : ∀ {t : T (SV × Hp AV)}, t.allB = true → ∃ r, t.val = some r ∧ Plain r.1 ∧ ∀ ρ : Nm, r.1.den ρ = .bool t.bool
  | .leaf r, h => by
    simp only [T.allB] at h
    split at h
    · rename_i c hc
      split at h
      · rename_i p hb
        obtain ⟨b, k⟩ := p
        refine ⟨r, rfl, ?_, fun ρ => ?_⟩
        · rw [hc]
          intro d hd
          simp [V1.cells] at hd
          subst hd
          cases d <;> simp [boolC] at hb <;> rfl
        · simp only [T.bool, hc, hb]
          exact boolC_den ρ hb
      · cases h
    · cases h
  | .ite b t e, h => by
    simp only [T.allB] at h
    split at h
    · rename_i ht
      cases b with
      | true => obtain ⟨r, h1, h2, h3⟩ := T.allB_spec (t := t) ht; exact ⟨r, h1, h2, h3⟩
      | false => obtain ⟨r, h1, h2, h3⟩ := T.allB_spec (t := e) h; exact ⟨r, h1, h2, h3⟩
    · cases h
  | .need _ _, h => by simp [T.allB] at h
  | .fail _, h => by simp [T.allB] at h
theorem own_nones {ρ : Nm} (hg : ∀ g, g < N.G → ρ g = g) (k : Nat) (w : World) : Own N ρ (nones AV k) w := by
  have hn : ∀ n, hget (nones AV k) n = none := fun n => by have := hget_nones ([] : Hp AV) k n; simpa [hget] using this
  exact ⟨(fun n c h => by rw [hn] at h; cases h), (fun n m c d _ h => by rw [hn] at h; cases h), hg⟩
/-- a function that sees no memory -/
theorem pure_calls {f : FuncId} {g : List SV → Hp AV → T (SV × Hp AV)} (hg' : FnOk P N f g) {k : Nat} {args : List SV} {v : SV} {H' : Hp AV} (h : (g args (nones AV k)).val = some (v, H')) (hargs : ∀ x ∈ args, Plain x) (hv : Plain v)
    (ρ : Nm) (hg : ∀ g, g < N.G → ρ g = g) (w : World) : Calls P f (args.map (SV.den ρ)).toArray w fun e w' => e = .returned (v.den ρ) ∧ Quiet w w' := by
  have hn : ∀ n, hget (nones AV k) n = none := fun n => by have := hget_nones ([] : Hp AV) k n; simpa [hget] using this
  obtain ⟨_, _, hc⟩ := hg' args (nones AV k) v H' h (fun x hx => (hargs x hx).cl _) ⟨(fun n x hh => by rw [hn] at hh; cases hh), trivial⟩
  refine (hc ρ w (own_nones hg k w)).mono ?_
  rintro e w' ⟨ρ', rfl, _, hE⟩
  refine ⟨by rw [hv.den ρ ρ'], ⟨fun k hk => hE.frame k hk (fun n c hh => (by rw [hn] at hh; cases hh)), hE.os, hE.tape, hE.output, hE.size⟩⟩
/-- a summary of a function that sees no memory -/
theorem fnOk_pure {f : FuncId} {g : List SV → Hp AV → T (SV × Hp AV)}
    (h : ∀ (args : List SV) (H : Hp AV) (v : SV) (H' : Hp AV), (g args H).val = some (v, H') → H' = H ∧ Plain v ∧ ∀ (ρ : Nm), (∀ g, g < N.G → ρ g = g) → ∀ (w : World), Calls P f (args.map (SV.den ρ)).toArray w fun e w' => e = .returned (v.den ρ) ∧ Quiet w w') :
    FnOk P N f g := by
  intro args H v H' hr hargs hC
  obtain ⟨rfl, hv, hc⟩ := h args H v H' hr
  refine ⟨hv.cl _, hC, fun ρ w hO => (hc ρ hO.glb w).mono ?_⟩
  rintro e w' ⟨rfl, hq⟩
  refine ⟨ρ, rfl, ⟨fun n c hh => q_keep (hO.q n c hh) rfl rfl rfl (fun k hk => hq.block k (hO.lt hh hk)), hO.dis, hO.glb⟩, ?_⟩
  exact ⟨fun n c hh => ⟨c, hh⟩, fun _ _ _ => rfl, fun _ _ hh => hh, Nat.le_refl _, fun k hk _ => hq.block k hk, fun n c k hh hk => .inr ⟨n, c, hh, hk⟩, hq.os, hq.tape, hq.output, hq.size⟩
end Go.Sx
