/- LitanyExact: the executor's environment with the loops' summaries. -/
import Derived.Test.YtmaolegmdhnpeaaDoorLe
import Derived.Test.YtmaolegmdhnpeaaDoorSxU
namespace Go.Proofs.YtmaolegmdhnpeaaDoor
open Go Go.Sx Go.Proofs
set_option maxRecDepth 100000
noncomputable def lp3 : FuncId → Nat → Option (St LAV → T (Ex × St LAV)) := fun f => match Nat.beq f 3 with
  | true => fun id => match Nat.beq id 9 with
    | true => some g1
    | false => match Nat.beq id 17 with
      | true => some g2
      | false => none
  | false => fun _ => none
noncomputable def N3 : Env LAV := { tt := tt, ft := ft, gu := gu, G := 1, F := F1, lp := lp3 }
theorem ok3 : TblOk Tryd.prog N3 := tblOk 1 F1 _ _
theorem hv3 : HvOk Tryd.prog N3 := fun o args H v H' h => by simp [N3, T.val] at h
theorem g1_ok : LoopOk Tryd.prog N3 97 L1 g1 := by
  intro L s s' ex h hcl hH
  obtain ⟨E, H⟩ := s
  unfold g1 at h
  split at h
  · rename_i x0 l ob x2 x3 x4 j r hs
    simp only at hs
    subst hs
    split at h
    · rename_i len e2 e3 e8 e9 e10
      simp only at e2 e3 e8 e9 e10
      have hh := need_val h
      have hh2 := need_val hh.2
      have hlen : len = l.length := of_decide_eq_true hh.1
      have hrel := hh2.1
      have h9 := Option.some.inj hh2.2
      have q1 := congrArg Prod.fst h9
      have q2 := congrArg Prod.snd h9
      simp only at q1 q2
      clear h hh hh2 h9
      subst q1
      subst q2
      subst hlen
      have says1 : Says 97 E (famE 8 9 10 5 6 l 0) := says_only fun k hk _ => by
        simp only [List.mem_cons, List.not_mem_nil, or_false] at hk
        rcases hk with rfl | rfl | rfl | rfl | rfl
        · rw [e2]; exact .inl rfl
        · rw [e3]; exact .inl rfl
        · rw [e8]; exact .inl rfl
        · rw [e9]; exact .inl rfl
        · rw [e10]; exact .inr ⟨by simp, (by intro c hc; simp [V1.cells] at hc; subst hc; rfl), fun ρ => rfl⟩
      have hk6 : ∀ i, Says 97 (famE 8 9 10 5 6 l i) (only [2, 3] E 97) := fun i => says_only fun k hk _ => by
        simp only [List.mem_cons, List.not_mem_nil, or_false] at hk
        rcases hk with rfl | rfl
        · rw [e2]; exact .inl rfl
        · rw [e3]; exact .inl rfl
      have hcl1 : Closed N2 (fam1 ob x0 x2 x3 x4 l 0 j r) := says1.closed hcl
      have hcl2 : Closed N3 { E := only [2, 3] E 97, H := [some x0, some (.abs (.reps l ob)), some x2, some x3, some x4, some .dead, some .dead] } := closed_dead (n := 6) (closed_dead (n := 5) (Says.closed (N := N2) (N' := N3) (hk6 0) hcl1))
      refine ⟨hcl2, hH, fun {ρ a w} hat => ?_⟩
      refine wp_mono (loopW (k := 6) (.inl rfl) (fam1 ob x0 x2 x3 x4 l) (fun i j r => loop1 6 ob x0 x2 x3 x4 l i j r) L (relB_spec hrel) hcl1 hH ρ a w ⟨says1.em hat.em, own_env (N := N3) (N' := N2) rfl rfl hat.own⟩) ?_
      rintro e a' w' ⟨rfl, i, j', r', ⟨⟨ρ₂, em2, own2, ev2⟩, d2⟩⟩
      have o3 := own_env (N := N2) (N' := N3) rfl rfl own2
      obtain ⟨d1, v1⟩ := own_dead o3 (n := 5) (ck := .abs (.job j')) rfl L
      obtain ⟨d3, v3⟩ := own_dead d1 (n := 6) (ck := .abs (.rjob r')) rfl L
      exact ⟨rfl, ⟨ρ₂, (hk6 i).em em2, d3, ((evo_env N3 ev2).trans v1).trans v3⟩, d2⟩
    · simp [T.val] at h
  · simp [T.val] at h
theorem g2_ok : LoopOk Tryd.prog N3 97 L2 g2 := by
  intro L s s' ex h hcl hH
  obtain ⟨E, H⟩ := s
  unfold g2 at h
  split at h
  · rename_i x0 l ob x2 x3 x4 j r hs
    simp only at hs
    subst hs
    split at h
    · rename_i len e2 e3 e8 e9 e10
      simp only at e2 e3 e8 e9 e10
      have hh := need_val h
      have hh2 := need_val hh.2
      have hlen : len = l.length := of_decide_eq_true hh.1
      have hrel := hh2.1
      have h9 := Option.some.inj hh2.2
      have q1 := congrArg Prod.fst h9
      have q2 := congrArg Prod.snd h9
      simp only at q1 q2
      clear h hh hh2 h9
      subst q1
      subst q2
      subst hlen
      have says1 : Says 97 E (famE 11 13 14 9 10 l 0) := says_only fun k hk _ => by
        simp only [List.mem_cons, List.not_mem_nil, or_false] at hk
        rcases hk with rfl | rfl | rfl | rfl | rfl
        · rw [e2]; exact .inl rfl
        · rw [e3]; exact .inl rfl
        · rw [e8]; exact .inl rfl
        · rw [e9]; exact .inl rfl
        · rw [e10]; exact .inr ⟨by simp, (by intro c hc; simp [V1.cells] at hc; subst hc; rfl), fun ρ => rfl⟩
      have hk6 : ∀ i, Says 97 (famE 11 13 14 9 10 l i) (only [2, 3] E 97) := fun i => says_only fun k hk _ => by
        simp only [List.mem_cons, List.not_mem_nil, or_false] at hk
        rcases hk with rfl | rfl
        · rw [e2]; exact .inl rfl
        · rw [e3]; exact .inl rfl
      have hcl1 : Closed N2 (fam2 ob x0 x2 x3 x4 l 0 j r) := says1.closed hcl
      have hcl2 : Closed N3 { E := only [2, 3] E 97, H := [some x0, some (.abs (.reps l ob)), some x2, some x3, some x4, some .dead, some .dead, none, none, some .dead, some .dead] } := closed_dead (n := 10) (closed_dead (n := 9) (Says.closed (N := N2) (N' := N3) (hk6 0) hcl1))
      refine ⟨hcl2, hH, fun {ρ a w} hat => ?_⟩
      refine wp_mono (loopW (k := 6) (.inl rfl) (fam2 ob x0 x2 x3 x4 l) (fun i j r => loop2 6 ob x0 x2 x3 x4 l i j r) L (relB_spec hrel) hcl1 hH ρ a w ⟨says1.em hat.em, own_env (N := N3) (N' := N2) rfl rfl hat.own⟩) ?_
      rintro e a' w' ⟨rfl, i, j', r', ⟨⟨ρ₂, em2, own2, ev2⟩, d2⟩⟩
      have o3 := own_env (N := N2) (N' := N3) rfl rfl own2
      obtain ⟨d1, v1⟩ := own_dead o3 (n := 9) (ck := .abs (.job j')) rfl L
      obtain ⟨d3, v3⟩ := own_dead d1 (n := 10) (ck := .abs (.rjob r')) rfl L
      exact ⟨rfl, ⟨ρ₂, (hk6 i).em em2, d3, ((evo_env N3 ev2).trans v1).trans v3⟩, d2⟩
    · simp [T.val] at h
  · simp [T.val] at h

theorem body3_eq : Tryd.f3.body = some body3 := by kernel_rfl
theorem nt3 : Tryd.f3.ntmps = 97 := by kernel_rfl
theorem ft3 : ft.get 3 = some Tryd.f3 := by kernel_rfl
theorem lps3 : LpsOk Tryd.prog N3 := by
  intro f fn c hf hc id b hb g hg
  have hg : lp3 f id = some g := hg
  by_cases e : f = 3
  · subst e
    have hf : ft.get 3 = some fn := hf
    rw [ft3] at hf
    cases hf
    rw [body3_eq] at hc
    cases hc
    rw [loops3] at hb
    rw [nt3]
    simp only [List.mem_cons, List.not_mem_nil, or_false, Prod.mk.injEq] at hb
    rcases hb with ⟨rfl, rfl⟩ | ⟨rfl, rfl⟩
    · have e1 : lp3 3 9 = some g1 := rfl
      rw [e1] at hg
      cases hg; exact g1_ok
    · have e1 : lp3 3 17 = some g2 := rfl
      rw [e1] at hg
      cases hg; exact g2_ok
  · have e1 : lp3 f id = none := by
      unfold lp3
      rw [(beq_false_iff f 3).2 e]
    rw [e1] at hg
    cases hg
end Go.Proofs.YtmaolegmdhnpeaaDoor
