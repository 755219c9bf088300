/- A loop's summary by its rounds, of which only some may be the last one: so a long run can be shown in parts. -/
import Derived.Test.YtmdojlkmgllhnaaGreatDoorSxX
import Derived.Test.YtmdojlkmgllhnaaGreatDoorFr
import Derived.Test.YtmdojlkmgllhnaaGreatDoorSxOc
namespace Go.Sx
variable {AV : Type} {P : Program}
/-- rounds of a loop that must end in a round from a on, below b; i: the round -/
noncomputable def roundsC (nt : Nat) (body : St AV → T (Ex × St AV)) (a b : Nat) : Nat → Nat → St AV → T (Ex × St AV)
  | 0, _, _ => .fail "loop: too many rounds"
  | n + 1, i, s => Q.bind (body s) fun r => match r.1 with
    | .normal => roundsC nt body a b n (i + 1) { r.2 with E := Q.tidy r.2.E nt }
    | e => match Nat.ble a i, Nat.blt i b with
      | true, true => .leaf (e, r.2)
      | _, _ => .fail "cut"
theorem roundsC_val {nt : Nat} {body : St AV → T (Ex × St AV)} {a b : Nat} : ∀ {n i : Nat} {s : St AV} {x : Ex × St AV}, (roundsC nt body a b n i s).val = some x → (rounds nt body n s).val = some x
  | 0, i, s, x, h => by simp [roundsC, T.val] at h
  | n + 1, i, s, x, h => by
    simp only [roundsC, Q.bind_eq] at h
    obtain ⟨⟨e, s1⟩, h1, h2⟩ := T.bind_some h
    simp only [rounds]
    rw [T.val_bind, h1]
    cases e with
    | normal =>
      simp only [Q.tidy_eq] at h2
      exact roundsC_val h2
    | exit id =>
      dsimp only at h2
      split at h2
      · exact h2
      · simp [T.val] at h2
    | ret =>
      dsimp only at h2
      split at h2
      · exact h2
      · simp [T.val] at h2
theorem loopOk_cut {N N' : Env AV} (hF : N'.F = N.F) (hG : N'.G = N.G) (hT : TblOk P N) {cal : Callee AV} (hcal : CalOk P N cal) {nt : Nat} {c : Code} {a b n : Nat} : LoopOk P N' nt c (fun s => roundsC nt (Q.xc N cal (fun _ => none) nt c) a b n 0 s) := by
  intro L s s' ex hg hcl hL
  have h := roundsC_val hg
  rw [show Q.xc N cal (fun _ => none) nt c = xc N cal (fun _ => none) nt c from funext fun s => Q.xc_eq N cal _ nt c s] at h
  obtain ⟨c1, l1, k1⟩ := rounds_wp (P := P) (N := N) (c := c) (fun s s' ex h hcl hH => xc_wp hT hcal (nt := nt) (L := L) c (fun _ _ _ g hg => by cases hg) s s' ex h hcl hH) n s s' ex h (closed_env N hcl) hL
  refine ⟨closed_env N' c1, l1, fun {ρ a w} hat => wp_loop_rounds n (k1 ⟨hat.em, own_env hF.symm hG.symm hat.own⟩ fun a' w' hl => ⟨rfl, ?_⟩)⟩
  obtain ⟨⟨ρ₂, e2, o2, v2⟩, d2⟩ := hl
  exact ⟨⟨ρ₂, e2, own_env hF hG o2, evo_env N' v2⟩, d2⟩
end Go.Sx
namespace Go.Sx
variable {AV : Type} {P : Program} {N : Env AV}
/-- the same names, of which things are told less -/
structure Wk (N : Env AV) (H H' : Hp AV) : Prop where
  len : H'.length = H.length
  no : ∀ n, hget H n = none → hget H' n = none
  so : ∀ n c, hget H n = some c → ∃ c', hget H' n = some c' ∧ (c' = c ∨ Imp N c c')
theorem Wk.back {H H' : Hp AV} (h : Wk N H H') {n : Nat} {c' : Chunk AV} (hc : hget H' n = some c') : ∃ c, hget H n = some c ∧ (c' = c ∨ Imp N c c') := by
  cases hH : hget H n with
  | none => rw [h.no n hH] at hc; cases hc
  | some c =>
    obtain ⟨d, h1, h2⟩ := h.so n c hH
    rw [hc] at h1
    cases h1
    exact ⟨c, rfl, h2⟩
theorem Wk.fp {H H' : Hp AV} (h : Wk N H H') {ρ : Nm} {w : World} (hO : Own N ρ H w) {n : Nat} {c c' : Chunk AV} (hc : hget H n = some c) (hi : c' = c ∨ Imp N c c') (k : Nat) : c'.fp ρ n k ↔ c.fp ρ n k := by
  rcases hi with rfl | hi
  · rfl
  · exact (hi.2 ρ n w (hO.q n c hc)).2 k
theorem Wk.own {H H' : Hp AV} (h : Wk N H H') {ρ : Nm} {w : World} (hO : Own N ρ H w) : Own N ρ H' w := by
  refine ⟨fun n c' hc' => ?_, fun n m c' d' hne hc' hd' k hk hk' => ?_, hO.glb⟩
  · obtain ⟨c, hc, hi⟩ := h.back hc'
    rcases hi with rfl | hi
    · exact hO.q n _ hc
    · exact (hi.2 ρ n w (hO.q n c hc)).1
  · obtain ⟨c, hc, hi⟩ := h.back hc'
    obtain ⟨d, hd, hi'⟩ := h.back hd'
    exact hO.dis n m c d hne hc hd k ((h.fp hO hc hi k).1 hk) ((h.fp hO hd hi' k).1 hk')
theorem Wk.closed {s : St AV} {H' : Hp AV} (h : Wk N s.H H') (hc : Closed N s) : Closed N { s with H := H' } := by
  have pers : ∀ n c, hget s.H n = some c → ∃ c', hget H' n = some c' := fun n c hn => (h.so n c hn).imp fun _ x => x.1
  refine ⟨fun k => (hc.E k).mono pers, fun n c' hn => ?_⟩
  obtain ⟨c, hcn, hi⟩ := h.back hn
  rcases hi with rfl | hi
  · exact (hc.H n _ hcn).mono pers
  · rw [hi.1]; intro x hx; cases hx
theorem loopOk_pre {nt : Nat} {c : Code} {g : St AV → T (Ex × St AV)} (h : LoopOk P N nt c g) {pre : Hp AV → Hp AV} (hpre : ∀ H, Wk N H (pre H)) : LoopOk P N nt c (fun s => g { s with H := pre s.H }) := by
  intro L s s' ex hg hcl hL
  have hw := hpre s.H
  obtain ⟨c1, l1, k1⟩ := h L { s with H := pre s.H } s' ex hg (hw.closed hcl) (by show L ≤ (pre s.H).length; rw [hw.len]; exact hL)
  refine ⟨c1, l1, fun {ρ a w} hat => wp_mono (k1 (ρ := ρ) (a := a) (w := w) ⟨hat.em, hw.own hat.own⟩) ?_⟩
  rintro e a' w' ⟨rfl, ⟨⟨ρ₂, e2, o2, v2⟩, d2⟩⟩
  refine ⟨rfl, ⟨ρ₂, e2, o2, ⟨fun n c hn => ?_, fun n c hn => ?_, fun n hn hno => v2.non n hn (hw.no n hno), by rw [← hw.len]; exact v2.len, fun k hk hno => v2.frame k hk fun n c' hn hf => ?_, fun n c k hn hf => ?_, v2.os, v2.tape, v2.output, v2.size⟩⟩, d2⟩
  · obtain ⟨c', h1, _⟩ := hw.so n c hn
    exact v2.pers n c' h1
  · obtain ⟨c', h1, _⟩ := hw.so n c hn
    exact v2.agree n c' h1
  · obtain ⟨c, hc, hi⟩ := hw.back hn
    exact hno n c hc ((hw.fp hat.own hc hi k).1 hf)
  · rcases v2.new n c k hn hf with h1 | ⟨m, d', h1, h2⟩
    · exact .inl h1
    · obtain ⟨d, hd, hi⟩ := hw.back h1
      exact .inr ⟨m, d, hd, (hw.fp hat.own hd hi k).1 h2⟩
end Go.Sx
