/- LitanyExact: the loops' summaries are sound. -/
import Derived.Test.YtmaolegmdhnpeaaDoorLd
namespace Go.Proofs.YtmaolegmdhnpeaaDoor
open Go Go.Sx Go.Proofs
set_option maxRecDepth 100000
def fam2 (ob : Option Obj) (x0 x2 x3 x4 : Chunk LAV) (l : List Rp) (i : Int) (j : JobM) (r : RJobM) : St LAV :=
  { E := famE 11 13 14 9 10 l i, H := [some x0, some (.abs (.reps l ob)), some x2, some x3, some x4, some .dead, some .dead, none, none, some (.abs (.job j)), some (.abs (.rjob r))] }
theorem loop2 (k : Int) (ob : Option Obj) (x0 x2 x3 x4 : Chunk LAV) (l : List Rp) (i : Int) (j : JobM) (r : RJobM) :
    (xc N2 (joinCal (lv N2 (tab1 k) 5)) (fun _ => none) 97 L2 (fam2 ob x0 x2 x3 x4 l i j r)).map (mapf [2, 3, 11, 13, 14]) = loopT l i j r 2 (fam2 ob x0 x2 x3 x4 l) := by kernel_rfl
def g2 (s : St LAV) : T (Ex × St LAV) :=
  match s.H with
  | [some x0, some (.abs (.reps l ob)), some x2, some x3, some x4, some .dead, some .dead, none, none, some (.abs (.job j)), some (.abs (.rjob r))] =>
    match Sx.look s.E 2, Sx.look s.E 3, Sx.look s.E 11, Sx.look s.E 13, Sx.look s.E 14 with
    | .v (.c (.vs 1 0 len 6 false)), .v (.c (.ptr 2 0)), .v (.c (.ptr 9 0)), .v (.c (.ptr 10 0)), .v (.c (.il .i64 0)) =>
      .need (decide (len = l.length)) (.need (relB j r) (.leaf (.exit 2, { E := only [2, 3] s.E 97, H := [some x0, some (.abs (.reps l ob)), some x2, some x3, some x4, some .dead, some .dead, none, none, some .dead, some .dead] })))
    | _, _, _, _, _ => .fail "loop 2"
  | _ => .fail "loop 2"
theorem map_val1 {α β : Type} {t : T α} {u : T β} {f : α → β} (h : t.map f = u) {b : β} (hb : u.val = some b) : ∃ a, t.val = some a ∧ f a = b := by
  rw [← h, T.val_map] at hb
  exact Option.map_eq_some_iff.1 hb
/-- rounds while there are replies, 150 at most -/
theorem loopW {k : Int} (hk : k = 6 ∨ k = 7 ∨ k = 8) {c : Code} {id : Nat} {ks : List Nat} {l : List Rp} (fam : Int → JobM → RJobM → St LAV)
    (hloop : ∀ i j r, (xc N2 (joinCal (lv N2 (tab1 k) 5)) (fun _ => none) 97 c (fam i j r)).map (mapf ks) = loopT l i j r id fam) (L : Nat) {j : JobM} {r : RJobM} (hR : JR j r) (hcl : Closed N2 (fam 0 j r)) (hL : L ≤ (fam 0 j r).H.length) (ρ : Nm) (a : Act) (w : World) (hat : At N2 97 ρ (fam 0 j r) a w) :
    (Code.loop c).wp Tryd.prog (fun e a' w' => e = .exit id ∧ ∃ i j' r', Lands N2 97 L ρ (fam 0 j r) w a (fam i j' r') a' w') a w := by
  have hcal : CalOk Tryd.prog N2 (joinCal (lv N2 (tab1 k) 5)) := joinCal_ok (lv_ok ok2 lps2 hv2 (tab1_ok rfl rfl k hk) 5)
  let ι := { p : Int × JobM × RJobM // 0 ≤ p.1 ∧ p.1 ≤ 150 ∧ JR p.2.1 p.2.2 }
  refine wp_loop_rounds 200 (loop_inv ok2 hcal (lp := fun _ => none) (fun _ _ _ g hg => by cases hg) (ι := ι) (fun p => fam p.1.1 p.1.2.1 p.1.2.2) ks (fun p => (150 - p.1.1).toNat)
    (fun ex s' => ex = .exit id ∧ ∃ i j' r', ({ s' with E := only ks s'.E 97 } : St LAV) = fam i j' r') ?_ L 200 ⟨(0, j, r), by simp, by simp, hR⟩ (by simp) hcl hL ρ a w hat _ ?_)
  · rintro ⟨⟨i, j, r⟩, h0, h1, hR⟩
    simp only at h0 h1 hR
    have htree := hloop i j r
    obtain ⟨hc, hR'⟩ := job_step hR (nthR l (0 + i.toNat))
    by_cases hcond : i < (l.length : Int) ∧ i < 150
    · have e : (loopT l i j r id fam).val = some (.normal, some (fam (IntKind.i64.wrap (i + 1)) (jobNext j (nthR l (0 + i.toNat))).1 (rjobNext r (nthR l (0 + i.toNat))).1)) := by
        have q1 : decide (i < (l.length : Int)) = true := decide_eq_true hcond.1
        have q2 : decide (i < 150) = true := decide_eq_true hcond.2
        have q3 : decide (0 ≤ i ∧ i < (l.length : Int)) = true := decide_eq_true ⟨h0, hcond.1⟩
        have q4 : decide (0 + i.toNat < l.length) = true := decide_eq_true (by omega)
        have q5 : neC (jobNext j (nthR l (0 + i.toNat))).2 (rjobNext r (nthR l (0 + i.toNat))).2 = false := by
          have : (jobNext j (nthR l (0 + i.toNat))).2 = (rjobNext r (nthR l (0 + i.toNat))).2 := hc
          rw [this]; exact neC_self _
        simp only [loopT, T.val, q1, q2, q3, q4, q5]
        rfl
      obtain ⟨⟨ex, s'⟩, h2, h3⟩ := map_val1 htree e
      have h3 : mapf ks (ex, s') = (.normal, some (fam (IntKind.i64.wrap (i + 1)) (jobNext j (nthR l (0 + i.toNat))).1 (rjobNext r (nthR l (0 + i.toNat))).1)) := h3
      cases ex with
      | normal =>
        simp only [mapf, Prod.mk.injEq, Option.some.injEq, true_and] at h3
        have hw : IntKind.i64.wrap (i + 1) = i + 1 := by
          unfold IntKind.wrap
          simp [IntKind.bits, IntKind.signed]
          omega
        rw [hw] at h3
        refine ⟨.normal, s', h2, ⟨(i + 1, (jobNext j (nthR l (0 + i.toNat))).1, (rjobNext r (nthR l (0 + i.toNat))).1), by simp only; omega, by simp only; omega, hR'⟩, by simp only; omega, h3⟩
      | ret => simp [mapf] at h3
      | exit _ => simp [mapf] at h3
    · have e : (loopT l i j r id fam).val = some (.exit id, some (fam i j r)) := by
        by_cases h : i < (l.length : Int)
        · have q1 : decide (i < (l.length : Int)) = true := decide_eq_true h
          have q2 : decide (i < 150) = false := decide_eq_false fun h' => hcond ⟨h, h'⟩
          simp only [loopT, T.val, q1, q2]
          rfl
        · have q1 : decide (i < (l.length : Int)) = false := decide_eq_false h
          simp only [loopT, T.val, q1]
          rfl
      obtain ⟨⟨ex, s'⟩, h2, h3⟩ := map_val1 htree e
      have h3 : mapf ks (ex, s') = (.exit id, some (fam i j r)) := h3
      cases ex with
      | normal => simp [mapf] at h3
      | ret => simp [mapf] at h3
      | exit n =>
        simp only [mapf, Prod.mk.injEq, Option.some.injEq, Ex.exit.injEq] at h3
        exact ⟨.exit n, s', h2, by rw [h3.1], i, j, r, h3.2⟩
  · rintro ex s' a' w' ⟨rfl, i, j', r', hs⟩ hc' _ hl
    refine ⟨rfl, i, j', r', ?_⟩
    obtain ⟨⟨ρ₂, e2, o2, v2⟩, d2⟩ := hl
    have hat2 : At N2 97 ρ₂ (fam i j' r') a' w' := by rw [← hs]; exact only_at ⟨e2, o2⟩
    have hH : (fam i j' r').H = s'.H := by rw [← hs]
    exact ⟨⟨ρ₂, hat2.em, hat2.own, by rw [hH]; exact v2⟩, d2⟩
end Go.Proofs.YtmaolegmdhnpeaaDoor
