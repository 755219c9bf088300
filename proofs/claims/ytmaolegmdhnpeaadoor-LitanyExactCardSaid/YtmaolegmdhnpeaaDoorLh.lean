/- LitanyExact: the law's contract. -/
import Derived.Test.YtmaolegmdhnpeaaDoorLg
namespace Go.Proofs.YtmaolegmdhnpeaaDoor
open Go Go.Sx Go.Proofs
set_option maxRecDepth 100000
def nmL (b o c : Nat) : Nm := ⟨fun n => if n = 1 then ⟨b, o, c⟩ else ⟨n, 0, 0⟩, fun n k => n = 1 ∧ k = b⟩
theorem g0_nm (ad : Addr) : ∀ c ∈ [Cell.ifc 94 (.op 0 ad)], c.name = none := by intro c hc; simp at hc; subst hc; rfl
theorem H1_get {ad : Addr} {l : List Rp} {ob : Option Obj} {n : Nat} {c : Chunk LAV} (h : hget (H1 ad l ob) n = some c) : (n = 0 ∧ c = G0 ad) ∨ (n = 1 ∧ c = .abs (.reps l ob)) := by
  match n, h with
  | 0, h => simp only [H1, hget, Option.some.injEq] at h; exact .inl ⟨rfl, h.symm⟩
  | 1, h => simp only [H1, hget, Option.some.injEq] at h; exact .inr ⟨rfl, h.symm⟩
  | n + 2, h => simp [H1, hget] at h
theorem quiet1 {g : List SV → Hp LAV → T (SV × Hp LAV)} {f : FuncId} (hf : FnOk Tryd.prog N3 f g) {ad : Addr} {l : List Rp} {args : List SV} {w : World} {b o cap : Nat}
    (hg : w.heap[0]? = some (.cells #[.iface 94 (.pointer (some ad))] 44 (0, 0))) (hb : b ≠ 0) (hl : 0 < l.length)
    (hr : ∀ i, i < l.length → ∀ (j : Nat) c, (nthR l i).cells[j]? = some c → w.cell? ⟨b, o + i * 6 + j, none⟩ = some (c.den Nm.id))
    (hargs : ∀ x ∈ args, ClV (H1 ad l w.heap[b]?) x) {v : SV} {H' : Hp LAV} (hrun : (g args (H1 ad l w.heap[b]?)).val = some (v, H')) (hv : ∀ ρ : Nm, v.den ρ = .bool true) (h0 : hget H' 0 = some (G0 ad)) (h1 : hget H' 1 = some (.abs (.reps l w.heap[b]?))) :
    Calls Tryd.prog f (args.map (SV.den (nmL b o (cap + 1)))).toArray w fun e w' => e = .returned (.bool true) ∧ Quiet w w' := by
  have hO : Own N3 (nmL b o (cap + 1)) (H1 ad l w.heap[b]?) w := by
    refine ⟨fun n c h => ?_, fun n m c d hnm h h' k hk hk' => ?_, fun g hg => ?_⟩
    · rcases H1_get h with ⟨rfl, rfl⟩ | ⟨rfl, rfl⟩
      · exact hg
      · refine ⟨⟨hr, fun k hk => ⟨hk.2, hl⟩⟩, fun _ => ⟨⟨rfl, rfl⟩, rfl⟩⟩
    · rcases H1_get h with ⟨rfl, rfl⟩ | ⟨rfl, rfl⟩
      · rcases H1_get h' with ⟨rfl, rfl⟩ | ⟨rfl, rfl⟩
        · exact hnm rfl
        · have e1 : k = 0 := hk
          have e2 : k = b := hk'.2
          omega
      · rcases H1_get h' with ⟨rfl, rfl⟩ | ⟨rfl, rfl⟩
        · have e1 : k = 0 := hk'
          have e2 : k = b := hk.2
          omega
        · exact hnm rfl
    · have : g < 1 := hg
      obtain rfl : g = 0 := by omega
      rfl
  have hcl : ClHp N3 (H1 ad l w.heap[b]?) := by
    refine ⟨fun n x h => ?_, trivial⟩
    rcases H1_get h with ⟨rfl, rfl⟩ | ⟨rfl, rfl⟩
    · exact clL_nil (g0_nm ad)
    · intro c hc; cases hc
  obtain ⟨_, _, hc⟩ := hf args _ v H' hrun hargs hcl
  refine (hc _ w hO).mono ?_
  rintro e w' ⟨ρ', rfl, hO', hE⟩
  refine ⟨by rw [hv ρ'], ⟨fun k hk => ?_, hE.os, hE.tape, hE.output, hE.size⟩⟩
  by_cases e0 : k = 0
  · subst e0
    have := hO'.q 0 _ h0
    have hr0 : ρ' 0 = 0 := hO'.glb 0 (by decide)
    have this : w'.heap[ρ' 0]? = some (.cells #[.iface 94 (.pointer (some ad))] 44 (0, 0)) := this
    rw [hr0] at this
    rw [this, hg]
  · by_cases e1 : k = b
    · subst e1
      have hq := hO'.q 1 _ h1
      have hL : ρ'.L 1 = ⟨k, o, cap + 1⟩ := by
        rw [hE.agree 1 _ (rfl : hget (H1 ad l w.heap[k]?) 1 = some _)]
        rfl
      obtain ⟨_, h3⟩ : repsQ l (ρ'.L 1) (ρ'.S 1) w' ∧ (0 < l.length → ρ'.S 1 (ρ'.L 1).b ∧ w'.heap[(ρ'.L 1).b]? = w.heap[k]?) := hq
      have := (h3 hl).2
      rw [hL] at this
      exact this
    · refine hE.frame k hk fun n c h hf => ?_
      rcases H1_get h with ⟨rfl, rfl⟩ | ⟨rfl, rfl⟩
      · exact e0 hf
      · exact e1 hf.2
theorem quiet0 {g : List SV → Hp LAV → T (SV × Hp LAV)} {f : FuncId} (hf : FnOk Tryd.prog N2 f g) {ad : Addr} {args : List SV} {w : World}
    (hg : w.heap[0]? = some (.cells #[.iface 94 (.pointer (some ad))] 44 (0, 0)))
    (hargs : ∀ x ∈ args, Plain x) {v : SV} {H' : Hp LAV} (hrun : (g args [some (G0 ad)]).val = some (v, H')) (hv : ∀ ρ : Nm, v.den ρ = .bool true) (h0 : hget H' 0 = some (G0 ad)) :
    Calls Tryd.prog f (args.map (SV.den Nm.id)).toArray w fun e w' => e = .returned (.bool true) ∧ Quiet w w' := by
  have get : ∀ n c, hget ([some (G0 ad)] : Hp LAV) n = some c → n = 0 ∧ c = G0 ad := fun n c h => by
    match n, h with
    | 0, h => simp only [hget, Option.some.injEq] at h; exact ⟨rfl, h.symm⟩
    | n + 1, h => simp [hget] at h
  have hO : Own N2 Nm.id [some (G0 ad)] w := by
    refine ⟨fun n c h => ?_, fun n m c d hnm h h' k hk hk' => ?_, fun g _ => rfl⟩
    · obtain ⟨rfl, rfl⟩ := get n c h
      exact hg
    · obtain ⟨rfl, rfl⟩ := get n c h
      obtain ⟨rfl, rfl⟩ := get m d h'
      exact hnm rfl
  have hcl : ClHp N2 [some (G0 ad)] := by
    refine ⟨fun n x h => ?_, trivial⟩
    obtain ⟨rfl, rfl⟩ := get n x h
    exact clL_nil (g0_nm ad)
  obtain ⟨_, _, hc⟩ := hf args _ v H' hrun (fun x hx => (hargs x hx).cl _) hcl
  refine (hc _ w hO).mono ?_
  rintro e w' ⟨ρ', rfl, hO', hE⟩
  refine ⟨by rw [hv ρ'], ⟨fun k hk => ?_, hE.os, hE.tape, hE.output, hE.size⟩⟩
  by_cases e0 : k = 0
  · subst e0
    have := hO'.q 0 _ h0
    have hr0 : ρ' 0 = 0 := hO'.glb 0 (by decide)
    have this : w'.heap[ρ' 0]? = some (.cells #[.iface 94 (.pointer (some ad))] 44 (0, 0)) := this
    rw [hr0] at this
    rw [this, hg]
  · refine hE.frame k hk fun n c h hf => ?_
    obtain ⟨rfl, rfl⟩ := get n c h
    exact e0 hf
theorem fn3 (k : Int) (hk : k = 6 ∨ k = 7 ∨ k = 8) : FnOk Tryd.prog N3 3 (lv N3 (tab1 k) 10 (.fn 3)) := lv_fn ok3 lps3 hv3 (tab1_ok rfl rfl k hk) 10 _
theorem fn2 (k : Int) (hk : k = 6 ∨ k = 7 ∨ k = 8) : FnOk Tryd.prog N2 3 (lv N2 (tab1 k) 10 (.fn 3)) := lv_fn ok2 lps2 hv2 (tab1_ok rfl rfl k hk) 10 _
theorem law1_cl (kc : Cell) (hkc : kc.name = none) (key val tall a b : Int) (l : List Rp) (ad : Addr) (ob : Option Obj) : ∀ x ∈ law1 kc key val tall a b l, ClV (H1 ad l ob) x := by
  intro x hx
  simp only [law1, List.mem_cons, List.not_mem_nil, or_false] at hx
  rcases hx with rfl | rfl | rfl <;> intro c hc n hn <;> simp only [V1.cells, List.mem_cons, List.not_mem_nil, or_false] at hc
  · rcases hc with rfl | rfl | rfl | rfl
    · rw [hkc] at hn; cases hn
    all_goals cases hn
  · rcases hc with rfl | rfl <;> cases hn
  · subst hc
    simp only [Cell.name, Option.some.injEq] at hn
    subst hn
    exact ⟨_, rfl⟩
theorem law0_pl (kc : Cell) (hkc : kc.name = none) (key val tall a b : Int) (sa : Option Addr) (cap : Nat) : ∀ x ∈ law0 kc key val tall a b sa cap, Plain x := by
  intro x hx
  simp only [law0, List.mem_cons, List.not_mem_nil, or_false] at hx
  rcases hx with rfl | rfl | rfl <;> intro c hc <;> simp only [V1.cells, List.mem_cons, List.not_mem_nil, or_false] at hc
  · rcases hc with rfl | rfl | rfl | rfl
    · exact hkc
    all_goals rfl
  · rcases hc with rfl | rfl <;> rfl
  · subst hc; rfl
theorem use1 {g : List SV → Hp LAV → T (SV × Hp LAV)} {f : FuncId} (hf : FnOk Tryd.prog N3 f g) {ad : Addr} {l : List Rp} {w : World} {b o cap : Nat} {args : List SV} {vals : Array Value} {n : Nat}
    (hg : w.heap[0]? = some (.cells #[.iface 94 (.pointer (some ad))] 44 (0, 0))) (hb : b ≠ 0) (hl : 0 < l.length)
    (hr : ∀ i, i < l.length → ∀ (j : Nat) c, (nthR l i).cells[j]? = some c → w.cell? ⟨b, o + i * 6 + j, none⟩ = some (c.den Nm.id))
    (hargs : ∀ x ∈ args, ClV (H1 ad l w.heap[b]?) x) (hev : (g args (H1 ad l w.heap[b]?)).every = true) (hhp : ((g args (H1 ad l w.heap[b]?)).map fun r => (hget r.2 0, hget r.2 1)).leaves = List.replicate n (some (G0 ad), some (.abs (.reps l w.heap[b]?))))
    (hden : (args.map (SV.den (nmL b o (cap + 1)))).toArray = vals) : Calls Tryd.prog f vals w fun e w' => e = .returned (.bool true) ∧ Quiet w w' := by
  obtain ⟨⟨v, H'⟩, h1, h2⟩ := T.every_spec hev
  have h3 := T.val_leaf (f := fun r => (hget r.2 0, hget r.2 1)) h1 hhp
  rw [← hden]
  exact quiet1 hf hg hb hl hr hargs h1 h2 (congrArg Prod.fst h3) (congrArg Prod.snd h3)
theorem useO {g : List SV → Hp LAV → T (SV × Hp LAV)} {f : FuncId} (hf : FnOk Tryd.prog N3 f g) {ad : Addr} {l : List Rp} {w : World} {b o cap : Nat} {args : List SV} {vals : Array Value} {c : Bool}
    (hg : w.heap[0]? = some (.cells #[.iface 94 (.pointer (some ad))] 44 (0, 0))) (hb : b ≠ 0) (hl : 0 < l.length)
    (hr : ∀ i, i < l.length → ∀ (j : Nat) c, (nthR l i).cells[j]? = some c → w.cell? ⟨b, o + i * 6 + j, none⟩ = some (c.den Nm.id))
    (hargs : ∀ x ∈ args, ClV (H1 ad l w.heap[b]?) x) (hev : T.first ((g args (H1 ad l w.heap[b]?)).map fun r => (r.1, hget r.2 0, hget r.2 1)) = some (c, (.v (.c (.bl true)), some (G0 ad), some (.abs (.reps l w.heap[b]?))))) (hc : c = true)
    (hden : (args.map (SV.den (nmL b o (cap + 1)))).toArray = vals) : Calls Tryd.prog f vals w fun e w' => e = .returned (.bool true) ∧ Quiet w w' := by
  subst hc
  have hv := T.first_val hev
  rw [T.val_map] at hv
  obtain ⟨⟨v, H'⟩, h1, h2⟩ := Option.map_eq_some_iff.1 hv
  simp only [Prod.mk.injEq] at h2
  obtain ⟨rfl, h3, h4⟩ := h2
  rw [← hden]
  exact quiet1 hf hg hb hl hr hargs h1 (fun _ => rfl) h3 h4
theorem use0 {g : List SV → Hp LAV → T (SV × Hp LAV)} {f : FuncId} (hf : FnOk Tryd.prog N2 f g) {ad : Addr} {w : World} {args : List SV} {vals : Array Value} {n : Nat}
    (hg : w.heap[0]? = some (.cells #[.iface 94 (.pointer (some ad))] 44 (0, 0)))
    (hargs : ∀ x ∈ args, Plain x) (hev : (g args [some (G0 ad)]).every = true) (hhp : ((g args [some (G0 ad)]).map fun r => hget r.2 0).leaves = List.replicate n (some (G0 ad)))
    (hden : (args.map (SV.den Nm.id)).toArray = vals) : Calls Tryd.prog f vals w fun e w' => e = .returned (.bool true) ∧ Quiet w w' := by
  obtain ⟨⟨v, H'⟩, h1, h2⟩ := T.every_spec hev
  have h3 := T.val_leaf (f := fun r => hget r.2 0) h1 hhp
  rw [← hden]
  exact quiet0 hf hg hargs h1 h2 h3
theorem useO0 {g : List SV → Hp LAV → T (SV × Hp LAV)} {f : FuncId} (hf : FnOk Tryd.prog N2 f g) {ad : Addr} {w : World} {args : List SV} {vals : Array Value} {c : Bool}
    (hg : w.heap[0]? = some (.cells #[.iface 94 (.pointer (some ad))] 44 (0, 0)))
    (hargs : ∀ x ∈ args, Plain x) (hev : T.first ((g args [some (G0 ad)]).map fun r => (r.1, hget r.2 0)) = some (c, (.v (.c (.bl true)), some (G0 ad)))) (hc : c = true)
    (hden : (args.map (SV.den Nm.id)).toArray = vals) : Calls Tryd.prog f vals w fun e w' => e = .returned (.bool true) ∧ Quiet w w' := by
  subst hc
  have hv := T.first_val hev
  rw [T.val_map] at hv
  obtain ⟨⟨v, H'⟩, h1, h2⟩ := Option.map_eq_some_iff.1 hv
  simp only [Prod.mk.injEq] at h2
  obtain ⟨rfl, h3⟩ := h2
  rw [← hden]
  exact quiet0 hf hg hargs h1 (fun _ => rfl) h3
theorem den1 (kc : Cell) (k key val tall a b : Int) (l : List Rp) (bl o cap : Nat) (hkc : ∀ ρ : Nm, kc.den ρ = .int .i64 k) : ((law1 kc key val tall a b l).map (SV.den (nmL bl o (cap + 1)))).toArray = #[.agg #[.int .i64 k, .int .i64 key, .int .i64 val, .int .i64 tall], .agg #[.int .i64 a, .int .i64 b], .slice (some ⟨bl, o, none⟩) l.length cap] := by
  simp only [law1, List.map_cons, List.map_nil, SV.den, V1.den, denL, hkc, Cell.den, vsDen, nmL]
  simp
theorem den0 (kc : Cell) (k key val tall a b : Int) (sa : Option Addr) (cap : Nat) (hkc : ∀ ρ : Nm, kc.den ρ = .int .i64 k) : ((law0 kc key val tall a b sa cap).map (SV.den Nm.id)).toArray = #[.agg #[.int .i64 k, .int .i64 key, .int .i64 val, .int .i64 tall], .agg #[.int .i64 a, .int .i64 b], .slice sa 0 cap] := by
  simp only [law0, List.map_cons, List.map_nil, SV.den, V1.den, denL, hkc, Cell.den]
theorem otherH {k : Int} (h6 : k ≠ 6) (h7 : k ≠ 7) (h8 : k ≠ 8) : ∀ c ∈ [(6 : Int), 7, 8], (k == c) = false := by
  intro c hc
  simp at hc
  rcases hc with rfl | rfl | rfl <;> simpa
/-- with replies -/
theorem law_calls1 (k key val tall a b : Int) (l : List Rp) (hl : 0 < l.length) (ad : Addr) (w : World) (bl o cap : Nat) (hg : w.heap[0]? = some (.cells #[.iface 94 (.pointer (some ad))] 44 (0, 0))) (hb : bl ≠ 0)
    (hr : ∀ i, i < l.length → ∀ (j : Nat) c, (nthR l i).cells[j]? = some c → w.cell? ⟨bl, o + i * 6 + j, none⟩ = some (c.den Nm.id)) :
    Calls Tryd.prog 3 #[.agg #[.int .i64 k, .int .i64 key, .int .i64 val, .int .i64 tall], .agg #[.int .i64 a, .int .i64 b], .slice (some ⟨bl, o, none⟩) l.length cap] w fun e w' => e = .returned (.bool true) ∧ Quiet w w' := by
  by_cases h6 : k = 6
  · subst h6
    exact use1 (args := law1 (.il .i64 6) key val tall a b l) (n := 3) (fn3 6 (.inl rfl)) hg hb hl hr (law1_cl (.il .i64 6) rfl key val tall a b l ad w.heap[bl]?) ((ev6 ad key val tall a b l w.heap[bl]?).trans (needF_true 6 key val tall a b l (.inl rfl))) (hp6 ad key val tall a b l w.heap[bl]?) (den1 _ _ _ _ _ _ _ _ _ _ _ fun _ => rfl)
  · by_cases h7 : k = 7
    · subst h7
      exact use1 (args := law1 (.il .i64 7) key val tall a b l) (n := 3) (fn3 7 (.inr (.inl rfl))) hg hb hl hr (law1_cl (.il .i64 7) rfl key val tall a b l ad w.heap[bl]?) ((ev7 ad key val tall a b l w.heap[bl]?).trans (needF_true 7 key val tall a b l (.inr (.inl rfl)))) (hp7 ad key val tall a b l w.heap[bl]?) (den1 _ _ _ _ _ _ _ _ _ _ _ fun _ => rfl)
    · by_cases h8 : k = 8
      · subst h8
        exact use1 (args := law1 (.il .i64 8) key val tall a b l) (n := 3) (fn3 8 (.inr (.inr rfl))) hg hb hl hr (law1_cl (.il .i64 8) rfl key val tall a b l ad w.heap[bl]?) ((ev8 ad key val tall a b l w.heap[bl]?).trans (needF_true 8 key val tall a b l (.inr (.inr rfl)))) (hp8 ad key val tall a b l w.heap[bl]?) (den1 _ _ _ _ _ _ _ _ _ _ _ fun _ => rfl)
      · have h := otherH h6 h7 h8
        exact useO (args := law1 (.iv .i64 k [6, 7, 8] h) key val tall a b l) (fn3 6 (.inl rfl)) hg hb hl hr (law1_cl (.iv .i64 k [6, 7, 8] h) rfl key val tall a b l ad w.heap[bl]?) (evO ad k key val tall a b h l w.heap[bl]?) (otherB_true k key val tall h) (den1 _ _ _ _ _ _ _ _ _ _ _ fun _ => rfl)
/-- without any -/
theorem law_calls0 (k key val tall a b : Int) (ad : Addr) (w : World) (sa : Option Addr) (cap : Nat) (hg : w.heap[0]? = some (.cells #[.iface 94 (.pointer (some ad))] 44 (0, 0))) :
    Calls Tryd.prog 3 #[.agg #[.int .i64 k, .int .i64 key, .int .i64 val, .int .i64 tall], .agg #[.int .i64 a, .int .i64 b], .slice sa 0 cap] w fun e w' => e = .returned (.bool true) ∧ Quiet w w' := by
  by_cases h6 : k = 6
  · subst h6
    exact use0 (args := law0 (.il .i64 6) key val tall a b sa cap) (n := 3) (fn2 6 (.inl rfl)) hg (law0_pl (.il .i64 6) rfl key val tall a b sa cap) (ez6 ad key val tall a b sa cap) (hz6 ad key val tall a b sa cap) (den0 _ _ _ _ _ _ _ _ _ fun _ => rfl)
  · by_cases h7 : k = 7
    · subst h7
      exact use0 (args := law0 (.il .i64 7) key val tall a b sa cap) (n := 3) (fn2 7 (.inr (.inl rfl))) hg (law0_pl (.il .i64 7) rfl key val tall a b sa cap) (ez7 ad key val tall a b sa cap) (hz7 ad key val tall a b sa cap) (den0 _ _ _ _ _ _ _ _ _ fun _ => rfl)
    · by_cases h8 : k = 8
      · subst h8
        exact use0 (args := law0 (.il .i64 8) key val tall a b sa cap) (n := 3) (fn2 8 (.inr (.inr rfl))) hg (law0_pl (.il .i64 8) rfl key val tall a b sa cap) (ez8 ad key val tall a b sa cap) (hz8 ad key val tall a b sa cap) (den0 _ _ _ _ _ _ _ _ _ fun _ => rfl)
      · have h := otherH h6 h7 h8
        exact useO0 (args := law0 (.iv .i64 k [6, 7, 8] h) key val tall a b sa cap) (fn2 6 (.inl rfl)) hg (law0_pl (.iv .i64 k [6, 7, 8] h) rfl key val tall a b sa cap) (ezO ad k key val tall a b h sa cap) (otherB_true k key val tall h) (den0 _ _ _ _ _ _ _ _ _ fun _ => rfl)
end Go.Proofs.YtmaolegmdhnpeaaDoor
