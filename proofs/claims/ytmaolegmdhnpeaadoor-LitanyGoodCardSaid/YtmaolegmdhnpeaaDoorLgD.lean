/- LitanyGood: the law's contract. -/
import Derived.Test.YtmaolegmdhnpeaaDoorLgC
namespace Go.Proofs.YtmaolegmdhnpeaaDoor
open Go Go.Sx Go.Proofs
/-- the world holds the one package-level variable -/
theorem own1 {ad : Addr} {w : World} (hg : w.heap[0]? = some (.cells #[.iface 94 (.pointer (some ad))] 44 (0, 0))) : Own N0 (fun n => n) [some (.cells [.ifc 94 (.op ad)] 44)] w := by
  refine ⟨fun n c h => ?_, fun n m c d hnm h h' => ?_, fun _ _ => rfl⟩
  · cases n with
    | zero => simp only [hget, Option.some.injEq] at h; subst h; exact hg
    | succ n => simp [hget] at h
  · cases n with
    | zero => cases m with
      | zero => exact absurd rfl hnm
      | succ m => simp [hget] at h'
    | succ n => simp [hget] at h
theorem quiet_of {ad : Addr} {args : List SV} {cnt : Nat} (hargs : ∀ x ∈ args, Plain x) (hb : ((lv N0 tab 9 4 args [some (.cells [.ifc 94 (.op ad)] 44)]).map (fun r => r.1)).boolV = true)
    (hh : ((lv N0 tab 9 4 args [some (.cells [.ifc 94 (.op ad)] 44)]).map (fun r => hget r.2 0)).leaves = List.replicate cnt (some (.cells [.ifc 94 (.op ad)] 44))) {w : World} (hg : w.heap[0]? = some (.cells #[.iface 94 (.pointer (some ad))] 44 (0, 0))) :
    Calls Tryd.prog 4 (args.map (SV.den fun n => n)).toArray w fun e w' => e = .returned (.bool true) ∧ Quiet w w' := by
  rw [T.bool_map] at hb
  obtain ⟨⟨v, H'⟩, h1, h2⟩ := T.bool_spec hb
  have h0 : hget H' 0 = some (.cells [.ifc 94 (.op ad)] 44) := T.val_leaf (f := fun r => hget r.2 0) h1 hh
  obtain ⟨_, _, hc⟩ := lv_ok ok0 tab_ok 9 4 args _ v H' h1 (fun x hx => (hargs x hx).cl _) ⟨fun n l ty h => by
    cases n with
    | zero =>
      simp only [hget, Option.some.injEq, Chunk.cells.injEq] at h
      obtain ⟨rfl, rfl⟩ := h
      exact clL_nil (by intro c hc; simp at hc; subst hc; rfl)
    | succ n => simp [hget] at h, trivial⟩
  refine (hc (fun n => n) w (own1 hg)).mono ?_
  rintro e w' ⟨ρ', rfl, hO, hE⟩
  refine ⟨by rw [h2 ρ'], ⟨fun k hk => ?_, hE.os, hE.tape, hE.output, hE.size⟩⟩
  by_cases e : k = 0
  · subst e
    have := hO.q 0 _ h0
    have hr : ρ' 0 = 0 := hO.glb 0 (by decide)
    simp only [Chunk.q, hr] at this
    rw [this, hg]
    rfl
  · refine hE.frame k hk fun n c h hf => ?_
    cases n with
    | zero => simp only [hget, Option.some.injEq] at h; subst h; exact e hf
    | succ n => simp [hget] at h
theorem law_calls (k key val tall a b c kk : Int) (ad : Addr) (w : World) (hg : w.heap[0]? = some (.cells #[.iface 94 (.pointer (some ad))] 44 (0, 0))) :
    Calls Tryd.prog 4 #[.agg #[.int .i64 k, .int .i64 key, .int .i64 val, .int .i64 tall], .agg #[.int .i64 a, .int .i64 b, .int .i64 c], .int .i64 kk] w fun e w' => e = .returned (.bool true) ∧ Quiet w w' := by
  have pl : ∀ kc : Cell, kc.name = none → ∀ x ∈ [SV.v (.agg [kc, I key, I val, I tall]), .v (.agg [I a, I b, I c]), .v (.c (I kk))], Plain x := by
    intro kc hk x hx
    simp only [List.mem_cons, List.not_mem_nil, or_false] at hx
    rcases hx with rfl | rfl | rfl <;> (intro d hd; simp [V1.cells] at hd)
    · rcases hd with rfl | rfl | rfl | rfl <;> first | exact hk | rfl
    · rcases hd with rfl | rfl | rfl <;> rfl
    · subst hd; rfl
  by_cases h6 : k = 6
  · subst h6
    exact quiet_of (pl (.il .i64 6) rfl) (by rw [run6]; exact bool6 key val tall a b c) (heap6 ad key val tall a b c kk) hg
  · by_cases h7 : k = 7
    · subst h7
      exact quiet_of (pl (.il .i64 7) rfl) (by rw [run7]; exact bool7 key val tall a b c) (heap7 ad key val tall a b c kk) hg
    · by_cases h8 : k = 8
      · subst h8
        exact quiet_of (pl (.il .i64 8) rfl) (by rw [run8]; exact bool8 key val tall a b c) (heap8 ad key val tall a b c kk) hg
      · have h : ∀ c ∈ [(6 : Int), 7, 8], (k == c) = false := by
          intro c hc
          simp at hc
          rcases hc with rfl | rfl | rfl <;> simpa
        exact quiet_of (pl (.iv .i64 k [6, 7, 8] h) rfl) (by rw [runO]; exact boolO k key val tall a b c (by simpa using h6) (by simpa using h7) (by simpa using h8)) (heapO ad k key val tall a b c kk h) hg
end Go.Proofs.YtmaolegmdhnpeaaDoor
