import Derived.Test.YthdmoahfeimdaaaGreatDoorUd
import Derived.Test.YthdmoahfeimdaaaGreatDoorWp
namespace Go.Proofs.YthdmoahfeimdaaaGreatDoor
open Go Go.Sx Go.Proofs
set_option linter.unusedVariables false
set_option maxRecDepth 100000
variable {σ : Sg} {lp : Lp}
def boE (E : Ev) : Bool := match Sx.look E 0 with
 | .v (.c (.bl b)) => b
 | .v (.c (.bt b)) => b
 | _ => false
def boT : T (Ex × St AV) -> Bool
 | .leaf r => boE r.2.E
 | .ite b t e => match b with | true => boT t | false => boT e
 | .need b t => boT t
 | .fail _ => false
def hB : Nat -> List Bool -> Hp AV -> Bool
 | _, [], [] => true
 | i, false :: M, none :: H => hB (i + 1) M H
 | i, true :: M, some (.abs (.sent j)) :: H => match Nat.beq i j with | true => hB (i + 1) M H | false => false
 | _, _, _ => false
theorem hB_spec : ∀ {M : List Bool} {i : Nat} {H : Hp AV}, hB i M H = true -> H = sentL AV.sent i M
 | [], i, [], _ => rfl
 | [], i, _ :: _, h => by cases h
 | false :: M, i, [], h => by cases h
 | false :: M, i, none :: H, h => by rw [hB_spec (M := M) (i := i + 1) (H := H) h]; rfl
 | false :: M, i, some _ :: H, h => by cases h
 | true :: M, i, [], h => by cases h
 | true :: M, i, none :: H, h => by cases h
 | true :: M, i, some (.cells _ _) :: H, h => by cases h
 | true :: M, i, some (.vec _ _ _) :: H, h => by cases h
 | true :: M, i, some .dead :: H, h => by cases h
 | true :: M, i, some (.abs a) :: H, h => by
   cases a with
   | sent j =>
     simp only [hB] at h
     split at h
     ·rename_i e
      have e := (beq_iff _ _).1 e
      subst e
      rw [hB_spec (M := M) (i := i + 1) (H := H) h]; rfl
     ·cases h
   | _ => cases h
theorem hpC_nil (M : List Bool) : hpC M [] = sentL AV.sent 0 M := by simp [hpC, chL]
def isB0 (M : List Bool) (r : Ex × St AV) : Bool := match r with
 | (.ret, ⟨[(0, .v (.c (.bl _)))], H⟩) => hB 0 M H
 | (.ret, ⟨[(0, .v (.c (.bt _)))], H⟩) => hB 0 M H
 | _ => false
def allBT (M : List Bool) : T (Ex × St AV) -> Bool
 | .leaf r => isB0 M r
 | .ite _ t e => match allBT M t with | true => allBT M e | false => false
 | .need _ _ => false
 | .fail _ => false
theorem allBT_spec {M : List Bool} : ∀ {t : T (Ex × St AV)}, allBT M t = true -> ∃ x : Cell, t.val = some (stV (.v (.c x), hpC M [])) /\ x.name = none /\ ∀ ρ : Nm, x.den ρ = .bool (boT t)
 | .leaf r, h => by
   unfold allBT isB0 at h
   split at h
   ·rename_i b H; rw [hB_spec h]; exact ⟨.bl b, by rw [hpC_nil]; rfl, rfl, fun ρ => rfl⟩
   ·rename_i b H; rw [hB_spec h]; exact ⟨.bt b, by rw [hpC_nil]; rfl, rfl, fun ρ => rfl⟩
   ·cases h
 | .ite b t e, h => by
   simp only [allBT] at h
   split at h
   ·rename_i h1
    cases b with
    | true => exact allBT_spec (t := t) h1
    | false => exact allBT_spec (t := e) h
   ·cases h
 | .need _ _, h => by cases h
 | .fail _, h => by cases h
def Fit1 (k e v l : Int) : Prop := k = 1 /\ e = 0 /\ l = 0 /\ 0 <= v /\ v <= 1073741824 \/ (k = 2 \/ k = 3) /\ e = 0 /\ v = 0 /\ l = 0
def Fit2 (k e v l : Int) : Prop := k = 4 /\ e = 0 /\ l = 0 /\ 0 <= v /\ v <= 1073741824 \/ k = 5 /\ e = 0 /\ v = 0 /\ l = 0
def Fit3 (k e v l : Int) : Prop := 0 <= e /\ e <= 255 /\ (k = 6 /\ 0 <= v /\ v <= 1073741824 /\ l = 0 \/ (k = 7 \/ k = 8) /\ v = 0 /\ l = 0)
def Fit5 (k e v l : Int) : Prop := 0 <= e /\ e <= 255 /\ (k = 6 /\ 0 <= v /\ v <= 1073741824 /\ 1 <= l /\ l <= 3 \/ (k = 7 \/ k = 8) /\ v = 0 /\ l = 0)
instance (k e v l : Int) : Decidable (Fit1 k e v l) := by unfold Fit1; infer_instance
instance (k e v l : Int) : Decidable (Fit2 k e v l) := by unfold Fit2; infer_instance
instance (k e v l : Int) : Decidable (Fit3 k e v l) := by unfold Fit3; infer_instance
instance (k e v l : Int) : Decidable (Fit5 k e v l) := by unfold Fit5; infer_instance
theorem mB (c x y : Bool) : fitP1_T.match_1 (fun _ => Bool) c (fun _ => x) (fun _ => y) = ((c && x) || (!c && y)) := by cases c <;> simp
theorem mB2 (c x y : Bool) : boT.match_1 (fun _ => Bool) c (fun _ => x) (fun _ => y) = ((c && x) || (!c && y)) := by cases c <;> simp
theorem fitP1_all (σ : Sg) (k e v l : Int) : allBT (mkF 25) (fitP1_T σ k e v l) = true := by kernel_rfl
set_option maxHeartbeats 1000000 in
theorem fitP1_bo (σ : Sg) (k e v l : Int) : boT (fitP1_T σ k e v l) = decide (Fit1 k e v l) := by
 simp only [fitP1_T, boT, boE, Sx.look, mB, mB2, Nat.beq]
 rw [Bool.eq_iff_iff]
 simp only [Bool.or_eq_true, Bool.and_eq_true, Bool.not_eq_true', beq_iff_eq, decide_eq_true_eq, decide_eq_false_iff_not, bne_iff_ne, ne_eq, Bool.not_eq_false', beq_eq_false_iff_ne, bne_eq_false_iff_eq, Bool.false_eq_true, and_false, false_or, or_false, and_true, true_and, false_and, Bool.or_eq_false_iff, Bool.and_eq_false_imp, Bool.not_eq_eq_eq_not, Bool.not_true, Bool.not_false, reduceCtorEq, imp_false, Classical.not_not, imp_true_iff]
 unfold Fit1
 rcases (by omega : k = 1 \/ k = 2 \/ k = 3 \/ k = 4 \/ k = 5 \/ k = 6 \/ k = 7 \/ k = 8 \/ (k < 1 \/ k > 8)) with rfl | rfl | rfl | rfl | rfl | rfl | rfl | rfl | hk
 all_goals first
  | omega
  | (simp; omega)
  | (simp; done)
theorem fitP2_all (σ : Sg) (k e v l : Int) : allBT (mkF 25) (fitP2_T σ k e v l) = true := by kernel_rfl
set_option maxHeartbeats 1000000 in
theorem fitP2_bo (σ : Sg) (k e v l : Int) : boT (fitP2_T σ k e v l) = decide (Fit2 k e v l) := by
 simp only [fitP2_T, boT, boE, Sx.look, mB, mB2, Nat.beq]
 rw [Bool.eq_iff_iff]
 simp only [Bool.or_eq_true, Bool.and_eq_true, Bool.not_eq_true', beq_iff_eq, decide_eq_true_eq, decide_eq_false_iff_not, bne_iff_ne, ne_eq, Bool.not_eq_false', beq_eq_false_iff_ne, bne_eq_false_iff_eq, Bool.false_eq_true, and_false, false_or, or_false, and_true, true_and, false_and, Bool.or_eq_false_iff, Bool.and_eq_false_imp, Bool.not_eq_eq_eq_not, Bool.not_true, Bool.not_false, reduceCtorEq, imp_false, Classical.not_not, imp_true_iff]
 unfold Fit2
 rcases (by omega : k = 1 \/ k = 2 \/ k = 3 \/ k = 4 \/ k = 5 \/ k = 6 \/ k = 7 \/ k = 8 \/ (k < 1 \/ k > 8)) with rfl | rfl | rfl | rfl | rfl | rfl | rfl | rfl | hk
 all_goals first
  | omega
  | (simp; omega)
  | (simp; done)
theorem fitP3_all (σ : Sg) (k e v l : Int) : allBT (mkF 25) (fitP3_T σ k e v l) = true := by kernel_rfl
set_option maxHeartbeats 1000000 in
theorem fitP3_bo (σ : Sg) (k e v l : Int) : boT (fitP3_T σ k e v l) = decide (Fit3 k e v l) := by
 simp only [fitP3_T, boT, boE, Sx.look, mB, mB2, Nat.beq]
 rw [Bool.eq_iff_iff]
 simp only [Bool.or_eq_true, Bool.and_eq_true, Bool.not_eq_true', beq_iff_eq, decide_eq_true_eq, decide_eq_false_iff_not, bne_iff_ne, ne_eq, Bool.not_eq_false', beq_eq_false_iff_ne, bne_eq_false_iff_eq, Bool.false_eq_true, and_false, false_or, or_false, and_true, true_and, false_and, Bool.or_eq_false_iff, Bool.and_eq_false_imp, Bool.not_eq_eq_eq_not, Bool.not_true, Bool.not_false, reduceCtorEq, imp_false, Classical.not_not, imp_true_iff]
 unfold Fit3
 rcases (by omega : k = 1 \/ k = 2 \/ k = 3 \/ k = 4 \/ k = 5 \/ k = 6 \/ k = 7 \/ k = 8 \/ (k < 1 \/ k > 8)) with rfl | rfl | rfl | rfl | rfl | rfl | rfl | rfl | hk
 all_goals first
  | omega
  | (simp; omega)
  | (simp; done)
theorem fitP4_all (σ : Sg) (k e v l : Int) : allBT (mkF 25) (fitP4_T σ k e v l) = true := by kernel_rfl
set_option maxHeartbeats 1000000 in
theorem fitP4_bo (σ : Sg) (k e v l : Int) : boT (fitP4_T σ k e v l) = decide (Fit3 k e v l) := by
 simp only [fitP4_T, boT, boE, Sx.look, mB, mB2, Nat.beq]
 rw [Bool.eq_iff_iff]
 simp only [Bool.or_eq_true, Bool.and_eq_true, Bool.not_eq_true', beq_iff_eq, decide_eq_true_eq, decide_eq_false_iff_not, bne_iff_ne, ne_eq, Bool.not_eq_false', beq_eq_false_iff_ne, bne_eq_false_iff_eq, Bool.false_eq_true, and_false, false_or, or_false, and_true, true_and, false_and, Bool.or_eq_false_iff, Bool.and_eq_false_imp, Bool.not_eq_eq_eq_not, Bool.not_true, Bool.not_false, reduceCtorEq, imp_false, Classical.not_not, imp_true_iff]
 unfold Fit3
 rcases (by omega : k = 1 \/ k = 2 \/ k = 3 \/ k = 4 \/ k = 5 \/ k = 6 \/ k = 7 \/ k = 8 \/ (k < 1 \/ k > 8)) with rfl | rfl | rfl | rfl | rfl | rfl | rfl | rfl | hk
 all_goals first
  | omega
  | (simp; omega)
  | (simp; done)
theorem fitP5_all (σ : Sg) (k e v l : Int) : allBT (mkF 25) (fitP5_T σ k e v l) = true := by kernel_rfl
set_option maxHeartbeats 1000000 in
theorem fitP5_bo (σ : Sg) (k e v l : Int) : boT (fitP5_T σ k e v l) = decide (Fit5 k e v l) := by
 simp only [fitP5_T, boT, boE, Sx.look, mB, mB2, Nat.beq]
 rw [Bool.eq_iff_iff]
 simp only [Bool.or_eq_true, Bool.and_eq_true, Bool.not_eq_true', beq_iff_eq, decide_eq_true_eq, decide_eq_false_iff_not, bne_iff_ne, ne_eq, Bool.not_eq_false', beq_eq_false_iff_ne, bne_eq_false_iff_eq, Bool.false_eq_true, and_false, false_or, or_false, and_true, true_and, false_and, Bool.or_eq_false_iff, Bool.and_eq_false_imp, Bool.not_eq_eq_eq_not, Bool.not_true, Bool.not_false, reduceCtorEq, imp_false, Classical.not_not, imp_true_iff]
 unfold Fit5
 rcases (by omega : k = 1 \/ k = 2 \/ k = 3 \/ k = 4 \/ k = 5 \/ k = 6 \/ k = 7 \/ k = 8 \/ (k < 1 \/ k > 8)) with rfl | rfl | rfl | rfl | rfl | rfl | rfl | rfl | hk
 all_goals first
  | omega
  | (simp; omega)
  | (simp; done)
theorem fitR1_all (σ : Sg) (k e v l : Int) : allBT (mkF 32) (fitR1_T σ k e v l) = true := by kernel_rfl
set_option maxHeartbeats 1000000 in
theorem fitR1_bo (σ : Sg) (k e v l : Int) : boT (fitR1_T σ k e v l) = decide (Fit1 k e v l) := by
 simp only [fitR1_T, boT, boE, Sx.look, mB, mB2, Nat.beq]
 rw [Bool.eq_iff_iff]
 simp only [Bool.or_eq_true, Bool.and_eq_true, Bool.not_eq_true', beq_iff_eq, decide_eq_true_eq, decide_eq_false_iff_not, bne_iff_ne, ne_eq, Bool.not_eq_false', beq_eq_false_iff_ne, bne_eq_false_iff_eq, Bool.false_eq_true, and_false, false_or, or_false, and_true, true_and, false_and, Bool.or_eq_false_iff, Bool.and_eq_false_imp, Bool.not_eq_eq_eq_not, Bool.not_true, Bool.not_false, reduceCtorEq, imp_false, Classical.not_not, imp_true_iff]
 unfold Fit1
 rcases (by omega : k = 1 \/ k = 2 \/ k = 3 \/ k = 4 \/ k = 5 \/ k = 6 \/ k = 7 \/ k = 8 \/ (k < 1 \/ k > 8)) with rfl | rfl | rfl | rfl | rfl | rfl | rfl | rfl | hk
 all_goals first
  | omega
  | (simp; omega)
  | (simp; done)
theorem fitR2_all (σ : Sg) (k e v l : Int) : allBT (mkF 32) (fitR2_T σ k e v l) = true := by kernel_rfl
set_option maxHeartbeats 1000000 in
theorem fitR2_bo (σ : Sg) (k e v l : Int) : boT (fitR2_T σ k e v l) = decide (Fit2 k e v l) := by
 simp only [fitR2_T, boT, boE, Sx.look, mB, mB2, Nat.beq]
 rw [Bool.eq_iff_iff]
 simp only [Bool.or_eq_true, Bool.and_eq_true, Bool.not_eq_true', beq_iff_eq, decide_eq_true_eq, decide_eq_false_iff_not, bne_iff_ne, ne_eq, Bool.not_eq_false', beq_eq_false_iff_ne, bne_eq_false_iff_eq, Bool.false_eq_true, and_false, false_or, or_false, and_true, true_and, false_and, Bool.or_eq_false_iff, Bool.and_eq_false_imp, Bool.not_eq_eq_eq_not, Bool.not_true, Bool.not_false, reduceCtorEq, imp_false, Classical.not_not, imp_true_iff]
 unfold Fit2
 rcases (by omega : k = 1 \/ k = 2 \/ k = 3 \/ k = 4 \/ k = 5 \/ k = 6 \/ k = 7 \/ k = 8 \/ (k < 1 \/ k > 8)) with rfl | rfl | rfl | rfl | rfl | rfl | rfl | rfl | hk
 all_goals first
  | omega
  | (simp; omega)
  | (simp; done)
theorem fitR3_all (σ : Sg) (k e v l : Int) : allBT (mkF 32) (fitR3_T σ k e v l) = true := by kernel_rfl
set_option maxHeartbeats 1000000 in
theorem fitR3_bo (σ : Sg) (k e v l : Int) : boT (fitR3_T σ k e v l) = decide (Fit3 k e v l) := by
 simp only [fitR3_T, boT, boE, Sx.look, mB, mB2, Nat.beq]
 rw [Bool.eq_iff_iff]
 simp only [Bool.or_eq_true, Bool.and_eq_true, Bool.not_eq_true', beq_iff_eq, decide_eq_true_eq, decide_eq_false_iff_not, bne_iff_ne, ne_eq, Bool.not_eq_false', beq_eq_false_iff_ne, bne_eq_false_iff_eq, Bool.false_eq_true, and_false, false_or, or_false, and_true, true_and, false_and, Bool.or_eq_false_iff, Bool.and_eq_false_imp, Bool.not_eq_eq_eq_not, Bool.not_true, Bool.not_false, reduceCtorEq, imp_false, Classical.not_not, imp_true_iff]
 unfold Fit3
 rcases (by omega : k = 1 \/ k = 2 \/ k = 3 \/ k = 4 \/ k = 5 \/ k = 6 \/ k = 7 \/ k = 8 \/ (k < 1 \/ k > 8)) with rfl | rfl | rfl | rfl | rfl | rfl | rfl | rfl | hk
 all_goals first
  | omega
  | (simp; omega)
  | (simp; done)
theorem fitR4_all (σ : Sg) (k e v l : Int) : allBT (mkF 32) (fitR4_T σ k e v l) = true := by kernel_rfl
set_option maxHeartbeats 1000000 in
theorem fitR4_bo (σ : Sg) (k e v l : Int) : boT (fitR4_T σ k e v l) = decide (Fit3 k e v l) := by
 simp only [fitR4_T, boT, boE, Sx.look, mB, mB2, Nat.beq]
 rw [Bool.eq_iff_iff]
 simp only [Bool.or_eq_true, Bool.and_eq_true, Bool.not_eq_true', beq_iff_eq, decide_eq_true_eq, decide_eq_false_iff_not, bne_iff_ne, ne_eq, Bool.not_eq_false', beq_eq_false_iff_ne, bne_eq_false_iff_eq, Bool.false_eq_true, and_false, false_or, or_false, and_true, true_and, false_and, Bool.or_eq_false_iff, Bool.and_eq_false_imp, Bool.not_eq_eq_eq_not, Bool.not_true, Bool.not_false, reduceCtorEq, imp_false, Classical.not_not, imp_true_iff]
 unfold Fit3
 rcases (by omega : k = 1 \/ k = 2 \/ k = 3 \/ k = 4 \/ k = 5 \/ k = 6 \/ k = 7 \/ k = 8 \/ (k < 1 \/ k > 8)) with rfl | rfl | rfl | rfl | rfl | rfl | rfl | rfl | hk
 all_goals first
  | omega
  | (simp; omega)
  | (simp; done)
theorem fitR5_all (σ : Sg) (k e v l : Int) : allBT (mkF 32) (fitR5_T σ k e v l) = true := by kernel_rfl
set_option maxHeartbeats 1000000 in
theorem fitR5_bo (σ : Sg) (k e v l : Int) : boT (fitR5_T σ k e v l) = decide (Fit5 k e v l) := by
 simp only [fitR5_T, boT, boE, Sx.look, mB, mB2, Nat.beq]
 rw [Bool.eq_iff_iff]
 simp only [Bool.or_eq_true, Bool.and_eq_true, Bool.not_eq_true', beq_iff_eq, decide_eq_true_eq, decide_eq_false_iff_not, bne_iff_ne, ne_eq, Bool.not_eq_false', beq_eq_false_iff_ne, bne_eq_false_iff_eq, Bool.false_eq_true, and_false, false_or, or_false, and_true, true_and, false_and, Bool.or_eq_false_iff, Bool.and_eq_false_imp, Bool.not_eq_eq_eq_not, Bool.not_true, Bool.not_false, reduceCtorEq, imp_false, Classical.not_not, imp_true_iff]
 unfold Fit5
 rcases (by omega : k = 1 \/ k = 2 \/ k = 3 \/ k = 4 \/ k = 5 \/ k = 6 \/ k = 7 \/ k = 8 \/ (k < 1 \/ k > 8)) with rfl | rfl | rfl | rfl | rfl | rfl | rfl | rfl | hk
 all_goals first
  | omega
  | (simp; omega)
  | (simp; done)
end Go.Proofs.YthdmoahfeimdaaaGreatDoor

namespace Go.Proofs.YthdmoahfeimdaaaGreatDoor
open Go Go.Sx Go.Proofs
set_option linter.unusedVariables false
set_option maxRecDepth 100000
variable {σ : Sg} {lp : Lp}
def fitsB (s k e v l : Int) : Bool := if s = 1 then decide (Fit1 k e v l) else if s = 2 then decide (Fit2 k e v l) else if s = 3 then decide (Fit3 k e v l) else if s = 4 then decide (Fit3 k e v l) else if s = 5 then decide (Fit5 k e v l) else false
abbrev FitF := Int -> Int -> Int -> Int -> Int -> Bool
def fitG (fb : FitF) (args : List SV) (ch : List (Chunk AV)) : T (SV × List (Chunk AV) × List (Chunk AV)) := match args, ch with
 | [.v (.c cs), .v (.agg [ck, .it .i64 e, .it .i64 v, .it .i64 l])], [] => match iOf cs, iOf ck with
   | some s, some k => .leaf (.v (.c (.bt (fb s k e v l))), [], [])
   | _, _ => .fail "Fits"
 | _, _ => .fail "Fits"
theorem iOf_den {c : Cell} {n : Int} (h : iOf c = some n) (ρ : Nm) : c.den ρ = .int .i64 n := by
 unfold iOf at h
 split at h <;> cases h <;> rfl
theorem iv5 {s : Int} (h1 : s ≠ 1) (h2 : s ≠ 2) (h3 : s ≠ 3) (h4 : s ≠ 4) (h5 : s ≠ 5) : ∀ c ∈ [1, 2, 3, 4, 5], (s == c) = false := by
 intro c hc
 simp only [List.mem_cons, List.not_mem_nil, or_false] at hc
 rcases hc with rfl | rfl | rfl | rfl | rfl <;> simp [h1, h2, h3, h4, h5]
theorem plBt (b : Bool) : Plain (.v (.c (.bt b))) := by intro c hc; simp [V1.cells] at hc; subst hc; rfl
theorem fit_ctr {f : FuncId} {c : Cell} {t : T (Ex × St AV)} {cs ck : Cell} {s k e v l : Int} {b : Bool} (es : iOf cs = some s) (ek : iOf ck = some k) (hc : ∀ ρ : Nm, c.den ρ = .int .i64 s) (hr : runC noLp σ (fun _ => none) f (mkF f) [.v (.c c), .v (.agg [i6 k, i6 e, i6 v, i6 l])] [] = t) (ha : allBT (mkF f) t = true) (hb : boT t = b) :
 Ctr Tryz.prog (NV σ) f [.v (.c cs), .v (.agg [ck, i6 e, i6 v, i6 l])] (hpC (mkF f) []) (.v (.c (.bt b))) (hpC (mkF f) []) := by
 obtain ⟨x, hx, hn, hd⟩ := allBT_spec ha
 rw [<- hr] at hx
 refine ctr_args (ctr_val (runC_ctr lpsV tab0_ok (mkF_len _) hx (by rintro ⟨⟩)) ((plBt b).cl _) fun ρ => ?_) fun ρ => ?_
 ·have := hd ρ
  rw [hb] at this
  exact this.symm
 ·have h1 : SV.den ρ (.v (.c cs)) = SV.den ρ (.v (.c c)) := (iOf_den es ρ).trans (hc ρ).symm
  have h2 : SV.den ρ (.v (.agg [ck, i6 e, i6 v, i6 l])) = SV.den ρ (.v (.agg [i6 k, i6 e, i6 v, i6 l])) := by simp [SV.den, V1.den, denL, iOf_den ek ρ, Cell.den]
  simp only [List.map_cons, List.map_nil, h1, h2]
theorem fitP_ok : FnOk Tryz.prog (NVl lp σ) 25 (sumC isS (mkF 25) (fitG fitsB)) := by
 refine fnOk_env (N := NV σ) (N' := NVl lp σ) rfl rfl (sumC_ok isS_ok (mkF_len _).symm fun args ch x l' nw h hlen ha hC => ?_)
 unfold fitG at h
 split at h
 ·rename_i cs ck e v l
  split at h
  rotate_left
  ·simp [T.val] at h
  rename_i s k es ek
  simp only [T.val, Option.some.injEq, Prod.mk.injEq] at h
  obtain ⟨rfl, rfl, rfl⟩ := h
  by_cases h1 : s = 1
  ·subst h1; exact fit_ctr es ek (c := .il .i64 1) (fun _ => rfl) (fitP1 σ k e v l) (fitP1_all σ k e v l) (fitP1_bo σ k e v l)
  by_cases h2 : s = 2
  ·subst h2; exact fit_ctr es ek (c := .il .i64 2) (fun _ => rfl) (fitP2 σ k e v l) (fitP2_all σ k e v l) (fitP2_bo σ k e v l)
  by_cases h3 : s = 3
  ·subst h3; exact fit_ctr es ek (c := .il .i64 3) (fun _ => rfl) (fitP3 σ k e v l) (fitP3_all σ k e v l) (fitP3_bo σ k e v l)
  by_cases h4 : s = 4
  ·subst h4; exact fit_ctr es ek (c := .il .i64 4) (fun _ => rfl) (fitP4 σ k e v l) (fitP4_all σ k e v l) (fitP4_bo σ k e v l)
  by_cases h5 : s = 5
  ·subst h5; exact fit_ctr es ek (c := .il .i64 5) (fun _ => rfl) (fitP5 σ k e v l) (fitP5_all σ k e v l) (fitP5_bo σ k e v l)
  have hv := iv5 h1 h2 h3 h4 h5
  have e0 : fitsB s k e v l = false := by unfold fitsB; rw [if_neg h1, if_neg h2, if_neg h3, if_neg h4, if_neg h5]
  rw [e0]
  exact fit_ctr es ek (c := .iv .i64 s [1, 2, 3, 4, 5] hv) (fun _ => rfl) (fitP0 σ s hv k e v l) (by kernel_rfl) rfl
 ·simp [T.val] at h
theorem fitR_ok : FnOk Tryz.prog (NVl lp σ) 32 (sumC isS (mkF 32) (fitG fitsB)) := by
 refine fnOk_env (N := NV σ) (N' := NVl lp σ) rfl rfl (sumC_ok isS_ok (mkF_len _).symm fun args ch x l' nw h hlen ha hC => ?_)
 unfold fitG at h
 split at h
 ·rename_i cs ck e v l
  split at h
  rotate_left
  ·simp [T.val] at h
  rename_i s k es ek
  simp only [T.val, Option.some.injEq, Prod.mk.injEq] at h
  obtain ⟨rfl, rfl, rfl⟩ := h
  by_cases h1 : s = 1
  ·subst h1; exact fit_ctr es ek (c := .il .i64 1) (fun _ => rfl) (fitR1 σ k e v l) (fitR1_all σ k e v l) (fitR1_bo σ k e v l)
  by_cases h2 : s = 2
  ·subst h2; exact fit_ctr es ek (c := .il .i64 2) (fun _ => rfl) (fitR2 σ k e v l) (fitR2_all σ k e v l) (fitR2_bo σ k e v l)
  by_cases h3 : s = 3
  ·subst h3; exact fit_ctr es ek (c := .il .i64 3) (fun _ => rfl) (fitR3 σ k e v l) (fitR3_all σ k e v l) (fitR3_bo σ k e v l)
  by_cases h4 : s = 4
  ·subst h4; exact fit_ctr es ek (c := .il .i64 4) (fun _ => rfl) (fitR4 σ k e v l) (fitR4_all σ k e v l) (fitR4_bo σ k e v l)
  by_cases h5 : s = 5
  ·subst h5; exact fit_ctr es ek (c := .il .i64 5) (fun _ => rfl) (fitR5 σ k e v l) (fitR5_all σ k e v l) (fitR5_bo σ k e v l)
  have hv := iv5 h1 h2 h3 h4 h5
  have e0 : fitsB s k e v l = false := by unfold fitsB; rw [if_neg h1, if_neg h2, if_neg h3, if_neg h4, if_neg h5]
  rw [e0]
  exact fit_ctr es ek (c := .iv .i64 s [1, 2, 3, 4, 5] hv) (fun _ => rfl) (fitR0 σ s hv k e v l) (by kernel_rfl) rfl
 ·simp [T.val] at h
end Go.Proofs.YthdmoahfeimdaaaGreatDoor

namespace Go.Proofs.YthdmoahfeimdaaaGreatDoor
open Go Go.Sx Go.Proofs
set_option linter.unusedVariables false
set_option maxRecDepth 100000
variable {σ : Sg} {lp : Lp}
noncomputable def tabLn (fb : FitF) : Tab := tabAdd 25 (sumC isS (mkF 25) (fitG fb)) tabT
noncomputable def mLn : List Bool := mkF 14
noncomputable abbrev runLn (σ : Sg) (fb : FitF) (s : Int) (k : Cell) (e v l : Int) : T (Ex × St AV) := runC noLp σ (tabLn fb) 14 mLn [.v (.c (i6 s)), .v (.agg [k, i6 e, i6 v, i6 l])] []
noncomputable def tabLr (db : DigF) : Tab := tabAdd 53 (sumC isS nM (digP db okP0)) fun _ => none
noncomputable abbrev runLr (σ : Sg) (db : DigF) (s : Int) (k : Cell) (e v l : Int) : T (Ex × St AV) := runC noLp σ (tabLr db) 33 (mkF 33) [.v (.c (i6 s)), .v (.agg [k, i6 e, i6 v, i6 l])] []
end Go.Proofs.YthdmoahfeimdaaaGreatDoor

namespace Go.Proofs.YthdmoahfeimdaaaGreatDoor
open Go Go.Sx Go.Proofs
set_option linter.unusedVariables false
set_option maxRecDepth 100000
def spT : ByteArray := ⟨#[32]⟩
def addP (w : ByteArray) (v : Int) : ByteArray := strCat w (strCat spT (itT v))
def okA (w : ByteArray) (v : Int) : Bool := match okI v with
 | true => match Nat.ble (strLen spT + strLen (itT v)) 9223372036854775807 with
   | true => Nat.ble (strLen w + strLen (strCat spT (itT v))) 9223372036854775807
   | false => false
 | false => false
def wdK : Nat -> ByteArray
 | 1 => txB [112, 117, 115, 104]
 | 2 => txB [112, 111, 112]
 | 3 => txB [112, 101, 101, 107]
 | 4 => txB [101, 110, 113, 117, 101, 117, 101]
 | 5 => txB [100, 101, 113, 117, 101, 117, 101]
 | 6 => txB [105, 110, 115, 101, 114, 116]
 | 7 => txB [100, 101, 108, 101, 116, 101]
 | _ => txB [103, 101, 116]
def hpL : Hp AV := [some (.abs (.sent 0)), some (.abs (.sent 1)), none, none, none, none, none, none, none, none, none, none, none, none]
def lfL (c : Cell) : T (Ex × St AV) := .leaf (stV (.tup [.c c, .c .inil], hpL))
def erL (σ : Sg) : T (Ex × St AV) := .leaf (stV (.tup [.c (.st ⟨#[]⟩), .c (.ifc 386 (.op 0 (σ.σ 0)))], hpL))
def oneL (σ : Sg) (fb : FitF) (s e v l k : Int) (w : ByteArray) (n : Int) : T (Ex × St AV) := .ite (!fb s k e v l) (erL σ) (.need (okA w n) (lfL (.sv (addP w n))))
def nonL (σ : Sg) (fb : FitF) (s e v l k : Int) (w : ByteArray) : T (Ex × St AV) := .ite (!fb s k e v l) (erL σ) (lfL (.st w))
theorem lnP1 (σ : Sg) (fb : FitF) (s e v l : Int) : runLn σ fb s (.il .i64 1) e v l = oneL σ fb s e v l 1 (wdK 1) v := by kernel_rfl
theorem lnP2 (σ : Sg) (fb : FitF) (s e v l : Int) : runLn σ fb s (.il .i64 2) e v l = nonL σ fb s e v l 2 (wdK 2) := by kernel_rfl
theorem lnP3 (σ : Sg) (fb : FitF) (s e v l : Int) : runLn σ fb s (.il .i64 3) e v l = nonL σ fb s e v l 3 (wdK 3) := by kernel_rfl
theorem lnP4 (σ : Sg) (fb : FitF) (s e v l : Int) : runLn σ fb s (.il .i64 4) e v l = oneL σ fb s e v l 4 (wdK 4) v := by kernel_rfl
theorem lnP5 (σ : Sg) (fb : FitF) (s e v l : Int) : runLn σ fb s (.il .i64 5) e v l = nonL σ fb s e v l 5 (wdK 5) := by kernel_rfl
theorem lnP7 (σ : Sg) (fb : FitF) (s e v l : Int) : runLn σ fb s (.il .i64 7) e v l = oneL σ fb s e v l 7 (wdK 7) e := by kernel_rfl
theorem lnP8 (σ : Sg) (fb : FitF) (s e v l : Int) : runLn σ fb s (.il .i64 8) e v l = oneL σ fb s e v l 8 (wdK 8) e := by kernel_rfl
theorem lnP6 (σ : Sg) (fb : FitF) (s e v l : Int) : runLn σ fb s (.il .i64 6) e v l = .ite (!fb s 6 e v l) (erL σ)
 (.ite (s == 5) (.need (okA (wdK 6) e) (.need (okA (addP (wdK 6) e) v) (.need (okA (addP (addP (wdK 6) e) v) l) (lfL (.sv (addP (addP (addP (wdK 6) e) v) l))))))
   (.need (okA (wdK 6) e) (.need (okA (addP (wdK 6) e) v) (lfL (.sv (addP (addP (wdK 6) e) v)))))) := by kernel_rfl
def sel8 (x : Int) : Bool := (match decide (x = 0) with | true => true | false => (match decide (x = 1) with | true => true | false => (match decide (x = 2) with | true => true | false => (match decide (x = 3) with | true => true | false => (match decide (x = 4) with | true => true | false => (match decide (x = 5) with | true => true | false => (match decide (x = 6) with | true => true | false => decide (x = 7))))))))
theorem lnP0' (σ : Sg) (fb : FitF) (s e v l k : Int) (h : ∀ c ∈ [1, 2, 3, 4, 5, 6, 7, 8], (k == c) = false) : runLn σ fb s (.iv .i64 k [1, 2, 3, 4, 5, 6, 7, 8] h) e v l = .ite (!fb s k e v l) (erL σ) (.need (sel8 (IntKind.wrap .i64 (k - 1))) (.fail "move")) := by kernel_rfl
theorem lnP0 (σ : Sg) (fb : FitF) (s e v l k : Int) (h : ∀ c ∈ [1, 2, 3, 4, 5, 6, 7, 8], (k == c) = false) (hf : fb s k e v l = false) : (runLn σ fb s (.iv .i64 k [1, 2, 3, 4, 5, 6, 7, 8] h) e v l).val = (erL σ).val := by
 rw [lnP0', ivT (by rw [hf]; rfl)]
abbrev dbT (db : DigF) (n : Int) : ByteArray := ⟨(db n).toArray⟩
def addR (db : DigF) (w : ByteArray) (v : Int) : ByteArray := strCat (strCat w spT) (dbT db v)
def lfR (c : Cell) : T (Ex × St AV) := .leaf (stV (.v (.c c), hpC nM []))
def oneR (db : DigF) (w : ByteArray) (n : Int) : T (Ex × St AV) := .need (match okP0 n with | true => Nat.ble (strLen (strCat w spT) + strLen (dbT db n)) 9223372036854775807 | false => false) (lfR (.sv (addR db w n)))
theorem lnR1 (σ : Sg) (db : DigF) (s e v l : Int) : runLr σ db s (.il .i64 1) e v l = oneR db (wdK 1) v := by kernel_rfl
theorem lnR2 (σ : Sg) (db : DigF) (s e v l : Int) : runLr σ db s (.il .i64 2) e v l = lfR (.st (wdK 2)) := by kernel_rfl
theorem lnR3 (σ : Sg) (db : DigF) (s e v l : Int) : runLr σ db s (.il .i64 3) e v l = lfR (.st (wdK 3)) := by kernel_rfl
theorem lnR4 (σ : Sg) (db : DigF) (s e v l : Int) : runLr σ db s (.il .i64 4) e v l = oneR db (wdK 4) v := by kernel_rfl
theorem lnR5 (σ : Sg) (db : DigF) (s e v l : Int) : runLr σ db s (.il .i64 5) e v l = lfR (.st (wdK 5)) := by kernel_rfl
theorem lnR7 (σ : Sg) (db : DigF) (s e v l : Int) : runLr σ db s (.il .i64 7) e v l = oneR db (wdK 7) e := by kernel_rfl
theorem lnR8 (σ : Sg) (db : DigF) (s e v l : Int) : runLr σ db s (.il .i64 8) e v l = oneR db (wdK 8) e := by kernel_rfl
abbrev bM (n : Nat) : Bool := Nat.ble n 9223372036854775807
theorem lnR6 (σ : Sg) (db : DigF) (s e v l : Int) : runLr σ db s (.il .i64 6) e v l =
 .need (match okP0 e with | true => (match bM (strLen (strCat (wdK 6) spT) + strLen (dbT db e)) with | true => (match bM (strLen (addR db (wdK 6) e) + strLen spT) with | true => (match okP0 v with | true => bM (strLen (strCat (addR db (wdK 6) e) spT) + strLen (dbT db v)) | false => false) | false => false) | false => false) | false => false)
  (.ite (s == 5) (.need (match bM (strLen (addR db (addR db (wdK 6) e) v) + strLen spT) with | true => (match okP0 l with | true => bM (strLen (strCat (addR db (addR db (wdK 6) e) v) spT) + strLen (dbT db l)) | false => false) | false => false) (lfR (.sv (addR db (addR db (addR db (wdK 6) e) v) l))))
    (lfR (.sv (addR db (addR db (wdK 6) e) v)))) := by kernel_rfl
end Go.Proofs.YthdmoahfeimdaaaGreatDoor

namespace Go.Proofs.YthdmoahfeimdaaaGreatDoor
open Go Go.Sx Go.Proofs
set_option linter.unusedVariables false
set_option maxRecDepth 100000
variable {σ : Sg} {lp : Lp}
def lineT (s k e v l : Int) : ByteArray := if k = 1 then addP (wdK 1) v else if k = 2 then wdK 2 else if k = 3 then wdK 3 else if k = 4 then addP (wdK 4) v else if k = 5 then wdK 5 else
 if k = 6 then (if s = 5 then addP (addP (addP (wdK 6) e) v) l else addP (addP (wdK 6) e) v) else if k = 7 then addP (wdK 7) e else addP (wdK 8) e
theorem len_cat (a b : ByteArray) : strLen (strCat a b) = strLen a + strLen b := by
 show (a.data.toList ++ b.data.toList).length = _; rw [List.length_append]; rfl
theorem len_sp : strLen spT = 1 := rfl
theorem len_it {n : Int} (h : inI n) : strLen (itT n) <= 21 := inN n h
theorem len_add {w : ByteArray} {n : Int} (h : inI n) : strLen (addP w n) <= strLen w + 22 := by
 have := len_it h
 unfold addP; rw [len_cat, len_cat, len_sp]; omega
theorem len_wd (k : Nat) : strLen (wdK k) <= 7 := by
 unfold wdK
 split <;> decide
theorem okA_of {w : ByteArray} {n : Int} (h : inI n) (hw : strLen w <= 1000) : okA w n = true := by
 have := len_it h
 unfold okA
 rw [show okI n = true from decide_eq_true h]
 simp only
 rw [bleT (show strLen spT + strLen (itT n) <= 9223372036854775807 by rw [len_sp]; omega)]
 exact bleT (by rw [len_cat, len_sp]; omega)
theorem hpL_is : hpL = hpC mLn [] := by kernel_rfl
theorem fits_k {s k e v l : Int} (h : fitsB s k e v l = true) : 1 <= k /\ k <= 8 /\ 0 <= e /\ e <= 255 /\ 0 <= v /\ v <= 1073741824 /\ 0 <= l /\ l <= 3 := by
 unfold fitsB at h
 repeat' split at h
 all_goals first
  | (cases h; done)
  | (have h := of_decide_eq_true h; unfold Fit1 at h; omega)
  | (have h := of_decide_eq_true h; unfold Fit2 at h; omega)
  | (have h := of_decide_eq_true h; unfold Fit3 at h; omega)
  | (have h := of_decide_eq_true h; unfold Fit5 at h; omega)
abbrev LineF := Int -> Int -> Int -> Int -> Int -> ByteArray
def lnSum (σ : Sg) (fb : FitF) (lt : LineF) (args : List SV) (ch : List (Chunk AV)) : T (SV × List (Chunk AV) × List (Chunk AV)) := match args, ch with
 | [.v (.c (.it .i64 s)), .v (.agg [.it .i64 k, .it .i64 e, .it .i64 v, .it .i64 l])], [] => .need (decide (inI e /\ inI v /\ inI l)) (.ite (fb s k e v l) (.leaf (.tup [.c (.sv (lt s k e v l)), .c .inil], [], []))
     (.leaf (.tup [.c (.st ⟨#[]⟩), .c (.ifc 386 (.op 0 (σ.σ 0)))], [], [])))
 | _, _ => .fail "Line"
def okL (σ : Sg) (s k e v l : Int) (t : T (Ex × St AV)) : Prop := ∃ x : Cell, x.name = none /\ match fitsB s k e v l with
 | true => t.val = some (stV (.tup [.c x, .c .inil], hpL)) /\ ∀ ρ : Nm, x.den ρ = .string (lineT s k e v l)
 | false => t.val = (erL σ).val
theorem one_ok {s e v l k : Int} {w : ByteArray} {n : Int} (hn : inI n) (hw : strLen w <= 1000) (hl : fitsB s k e v l = true -> lineT s k e v l = addP w n) : okL σ s k e v l (oneL σ fitsB s e v l k w n) := by
 refine ⟨.sv (addP w n), rfl, ?_⟩
 unfold oneL
 cases hf : fitsB s k e v l with
 | true => exact ⟨by rw [ivF (show (!true) = false from rfl), nv (okA_of hn hw)]; rfl, fun ρ => by rw [hl hf]; rfl⟩
 | false => show (T.ite (!false) _ _).val = _; rw [ivT (show (!false) = true from rfl)]
theorem non_ok {s e v l k : Int} {w : ByteArray} (hl : fitsB s k e v l = true -> lineT s k e v l = w) : okL σ s k e v l (nonL σ fitsB s e v l k w) := by
 refine ⟨.st w, rfl, ?_⟩
 unfold nonL
 cases hf : fitsB s k e v l with
 | true => exact ⟨by rw [ivF (show (!true) = false from rfl)]; rfl, fun ρ => by rw [hl hf]; rfl⟩
 | false => show (T.ite (!false) _ _).val = _; rw [ivT (show (!false) = true from rfl)]
theorem line_run {s k e v l : Int} (he : inI e) (hv : inI v) (hl : inI l) : ∃ c : Cell, (∀ ρ : Nm, c.den ρ = .int .i64 k) /\ okL σ s k e v l (runLn σ fitsB s c e v l) := by
 have w := len_wd
 by_cases h1 : k = 1
 ·subst h1; exact ⟨.il .i64 1, fun _ => rfl, by rw [lnP1]; exact one_ok hv (by have := w 1; omega) fun _ => rfl⟩
 by_cases h2 : k = 2
 ·subst h2; exact ⟨.il .i64 2, fun _ => rfl, by rw [lnP2]; exact non_ok fun _ => rfl⟩
 by_cases h3 : k = 3
 ·subst h3; exact ⟨.il .i64 3, fun _ => rfl, by rw [lnP3]; exact non_ok fun _ => rfl⟩
 by_cases h4 : k = 4
 ·subst h4; exact ⟨.il .i64 4, fun _ => rfl, by rw [lnP4]; exact one_ok hv (by have := w 4; omega) fun _ => rfl⟩
 by_cases h5 : k = 5
 ·subst h5; exact ⟨.il .i64 5, fun _ => rfl, by rw [lnP5]; exact non_ok fun _ => rfl⟩
 by_cases h6 : k = 6
 ·subst h6
  have w6 := w 6
  have a1 := len_add (w := wdK 6) he
  have a2 := len_add (w := addP (wdK 6) e) hv
  refine ⟨.il .i64 6, fun _ => rfl, ?_⟩
  rw [lnP6]
  by_cases hs : s = 5
  ·refine ⟨.sv (addP (addP (addP (wdK 6) e) v) l), rfl, ?_⟩
   cases hf : fitsB s 6 e v l with
   | true =>
     refine ⟨by rw [ivF (show (!true) = false from rfl), ivT (by simp [hs]), nv (okA_of he (by omega)), nv (okA_of hv (by omega)), nv (okA_of hl (by omega))]; rfl, fun ρ => ?_⟩
     show Value.string _ = Value.string (lineT s 6 e v l)
     unfold lineT
     rw [if_neg (by decide), if_neg (by decide), if_neg (by decide), if_neg (by decide), if_neg (by decide), if_pos rfl, if_pos hs]
   | false => show (T.ite (!false) _ _).val = _; rw [ivT (show (!false) = true from rfl)]
  ·refine ⟨.sv (addP (addP (wdK 6) e) v), rfl, ?_⟩
   cases hf : fitsB s 6 e v l with
   | true =>
     refine ⟨by rw [ivF (show (!true) = false from rfl), ivF (by simp [hs]), nv (okA_of he (by omega)), nv (okA_of hv (by omega))]; rfl, fun ρ => ?_⟩
     show Value.string _ = Value.string (lineT s 6 e v l)
     unfold lineT
     rw [if_neg (by decide), if_neg (by decide), if_neg (by decide), if_neg (by decide), if_neg (by decide), if_pos rfl, if_neg hs]
   | false => show (T.ite (!false) _ _).val = _; rw [ivT (show (!false) = true from rfl)]
 by_cases h7 : k = 7
 ·subst h7; exact ⟨.il .i64 7, fun _ => rfl, by rw [lnP7]; exact one_ok he (by have := w 7; omega) fun _ => rfl⟩
 by_cases h8 : k = 8
 ·subst h8; exact ⟨.il .i64 8, fun _ => rfl, by rw [lnP8]; exact one_ok he (by have := w 8; omega) fun _ => rfl⟩
 have hf : fitsB s k e v l = false := by
  cases h : fitsB s k e v l with
  | false => rfl
  | true => have := fits_k h; omega
 have hv8 : ∀ c ∈ [1, 2, 3, 4, 5, 6, 7, 8], (k == c) = false := by
  intro c hc
  simp only [List.mem_cons, List.not_mem_nil, or_false] at hc
  rcases hc with rfl | rfl | rfl | rfl | rfl | rfl | rfl | rfl <;> simp [h1, h2, h3, h4, h5, h6, h7, h8]
 refine ⟨.iv .i64 k _ hv8, fun _ => rfl, .inil, rfl, ?_⟩
 rw [hf]
 exact lnP0 σ fitsB s e v l k hv8 hf
theorem tabLn_ok (ht : TabR σ) : TabOk Tryz.prog (NVl lp σ) (tabLn fitsB) := tabAdd_ok fitP_ok (tabT_ok ht)
theorem line_ok (ht : TabR σ) : FnOk Tryz.prog (NVl lp σ) 14 (sumC isS mLn (lnSum σ fitsB lineT)) := by
 refine fnOk_env (N := NV σ) (N' := NVl lp σ) rfl rfl (sumC_ok isS_ok (mkF_len _).symm fun args ch x l' nw h hlen ha hC => ?_)
 unfold lnSum at h
 split at h
 ·rename_i s k e v l
  replace h := need_some h
  obtain ⟨hb, h⟩ := h
  obtain ⟨he, hv, hl⟩ := of_decide_eq_true hb
  obtain ⟨c, hc, y, hn, hx⟩ := line_run (σ := σ) (s := s) (k := k) he hv hl
  have hargs : ∀ ρ, [.v (.c (i6 s)), .v (.agg [i6 k, i6 e, i6 v, i6 l])].map (SV.den ρ) = [.v (.c (i6 s)), .v (.agg [c, i6 e, i6 v, i6 l])].map (SV.den ρ) := fun ρ => by
   have : SV.den ρ (.v (.agg [i6 k, i6 e, i6 v, i6 l])) = SV.den ρ (.v (.agg [c, i6 e, i6 v, i6 l])) := by simp [SV.den, V1.den, denL, hc ρ, Cell.den]
   simp only [List.map_cons, List.map_nil, this]
  cases hf : fitsB s k e v l with
  | true =>
    rw [hf] at h hx
    simp only [T.val, Option.some.injEq, Prod.mk.injEq] at h
    obtain ⟨rfl, rfl, rfl⟩ := h
    obtain ⟨g1, g2⟩ := hx
    rw [hpL_is] at g1
    refine ctr_args (ctr_val (runC_ctr lpsV (tabLn_ok ht) (mkF_len _) g1 (by rintro ⟨⟩)) ?_ fun ρ => ?_) hargs
    ·intro z hz
     simp only [List.mem_cons, List.not_mem_nil, or_false] at hz
     rcases hz with rfl | rfl <;> · intro c hc m hm; simp [V1.cells] at hc; subst hc; cases hm
    ·simp [SV.den, V1.den, g2 ρ, Cell.den]
  | false =>
    rw [hf] at h hx
    simp only [T.val, Option.some.injEq, Prod.mk.injEq] at h
    obtain ⟨rfl, rfl, rfl⟩ := h
    have g1 : (runLn σ fitsB s c e v l).val = some (stV (.tup [.c (.st ⟨#[]⟩), .c (.ifc 386 (.op 0 (σ.σ 0)))], hpC mLn [])) := by
     have hx : (runLn σ fitsB s c e v l).val = (erL σ).val := hx
     rw [hx, <- hpL_is]; rfl
    exact ctr_args (runC_ctr lpsV (tabLn_ok ht) (mkF_len _) g1 (by rintro ⟨⟩)) hargs
 ·simp [T.val] at h
end Go.Proofs.YthdmoahfeimdaaaGreatDoor

namespace Go.Proofs.YthdmoahfeimdaaaGreatDoor
open Go Go.Sx Go.Proofs
set_option linter.unusedVariables false
set_option maxRecDepth 100000
variable {σ : Sg} {lp : Lp}
theorem addR_eq (w : ByteArray) (n : Int) : addR itoL w n = addP w n := by
 unfold addR addP strCat
 show (⟨⟨(w.data.toList ++ [32]) ++ itoL n⟩⟩ : ByteArray) = ⟨⟨w.data.toList ++ ([32] ++ Lib.itoa n)⟩⟩
 rw [List.append_assoc]; rfl
theorem okP0_of {n : Int} (h : 0 <= n /\ n <= 1073741824) : okP0 n = true := decide_eq_true ⟨h.1, by omega⟩
theorem len_db {n : Int} (h : 0 <= n /\ n <= 1073741824) : strLen (dbT itoL n) <= 21 := inN n (by constructor <;> omega)
theorem in_of {n : Int} (h : 0 <= n /\ n <= 1073741824) : inI n := by constructor <;> omega
theorem oneR_val {w : ByteArray} {n : Int} (h : 0 <= n /\ n <= 1073741824) (hw : strLen w <= 1000) : (oneR itoL w n).val = some (stV (.v (.c (.sv (addP w n))), hpC nM [])) := by
 unfold oneR
 have := len_db h
 rw [nv (by rw [okP0_of h]; exact bleT (by rw [len_cat, len_sp]; omega)), addR_eq]; rfl
theorem nM_is : hpC nM [] = hpC (mkF 33) [] := by kernel_rfl
theorem lineT6 (s e v l : Int) : lineT s 6 e v l = if s = 5 then addP (addP (addP (wdK 6) e) v) l else addP (addP (wdK 6) e) v := by
 unfold lineT
 rw [if_neg (by decide), if_neg (by decide), if_neg (by decide), if_neg (by decide), if_neg (by decide), if_pos rfl]
theorem line21_run {s k e v l : Int} (hf : fitsB s k e v l = true) : ∃ c x : Cell, (∀ ρ : Nm, c.den ρ = .int .i64 k) /\ (runLr σ itoL s c e v l).val = some (stV (.v (.c x), hpC nM [])) /\ x.name = none /\ ∀ ρ : Nm, x.den ρ = .string (lineT s k e v l) := by
 have w := len_wd
 obtain ⟨hk0, hk8, he0, he1, hv0, hv1, hl0, hl1⟩ := fits_k hf
 have he : 0 <= e /\ e <= 1073741824 := by omega
 have hv : 0 <= v /\ v <= 1073741824 := by omega
 have hl : 0 <= l /\ l <= 1073741824 := by omega
 rcases (by omega : k = 1 \/ k = 2 \/ k = 3 \/ k = 4 \/ k = 5 \/ k = 6 \/ k = 7 \/ k = 8) with rfl | rfl | rfl | rfl | rfl | rfl | rfl | rfl
 ·exact ⟨.il .i64 1, _, fun _ => rfl, by rw [lnR1]; exact oneR_val hv (by have := w 1; omega), rfl, fun _ => rfl⟩
 ·exact ⟨.il .i64 2, _, fun _ => rfl, by rw [lnR2]; rfl, rfl, fun _ => rfl⟩
 ·exact ⟨.il .i64 3, _, fun _ => rfl, by rw [lnR3]; rfl, rfl, fun _ => rfl⟩
 ·exact ⟨.il .i64 4, _, fun _ => rfl, by rw [lnR4]; exact oneR_val hv (by have := w 4; omega), rfl, fun _ => rfl⟩
 ·exact ⟨.il .i64 5, _, fun _ => rfl, by rw [lnR5]; rfl, rfl, fun _ => rfl⟩
 ·have w6 := w 6
  have a1 := len_add (w := wdK 6) (in_of he)
  have a2 := len_add (w := addP (wdK 6) e) (in_of hv)
  have d1 := len_db he
  have d2 := len_db hv
  have d3 := len_db hl
  refine ⟨.il .i64 6, if s = 5 then .sv (addP (addP (addP (wdK 6) e) v) l) else .sv (addP (addP (wdK 6) e) v), fun _ => rfl, ?_, by split <;> rfl, fun ρ => ?_⟩
  ·rw [lnR6, nv ?_]
   ·by_cases hs : s = 5
    ·rw [ivT (by simp [hs]), nv ?_, if_pos hs]
     ·rw [addR_eq, addR_eq, addR_eq]; rfl
     ·rw [addR_eq, addR_eq]
      rw [show bM (strLen (addP (addP (wdK 6) e) v) + strLen spT) = true from bleT (by rw [len_sp]; omega)]
      simp only
      rw [okP0_of hl]
      exact bleT (by rw [len_cat, len_sp]; omega)
    ·rw [ivF (by simp [hs]), if_neg hs, addR_eq, addR_eq]; rfl
   ·rw [okP0_of he]
    simp only
    rw [show bM (strLen (strCat (wdK 6) spT) + strLen (dbT itoL e)) = true from bleT (by rw [len_cat, len_sp]; omega)]
    simp only
    rw [addR_eq, show bM (strLen (addP (wdK 6) e) + strLen spT) = true from bleT (by rw [len_sp]; omega)]
    simp only
    rw [okP0_of hv]
    exact bleT (by rw [len_cat, len_sp]; omega)
  ·rw [lineT6]
   split <;> rfl
 ·exact ⟨.il .i64 7, _, fun _ => rfl, by rw [lnR7]; exact oneR_val he (by have := w 7; omega), rfl, fun _ => rfl⟩
 ·exact ⟨.il .i64 8, _, fun _ => rfl, by rw [lnR8]; exact oneR_val he (by have := w 8; omega), rfl, fun _ => rfl⟩
def ln21 (fb : FitF) (lt : LineF) (args : List SV) (ch : List (Chunk AV)) : T (SV × List (Chunk AV) × List (Chunk AV)) := match args, ch with
 | [.v (.c (.it .i64 s)), .v (.agg [.it .i64 k, .it .i64 e, .it .i64 v, .it .i64 l])], [] => .need (fb s k e v l) (.leaf (.v (.c (.sv (lt s k e v l))), [], []))
 | _, _ => .fail "Line"
theorem plSv (b : ByteArray) : Plain (.v (.c (.sv b))) := by intro c hc; simp [V1.cells] at hc; subst hc; rfl
theorem line21_ok : FnOk Tryz.prog (NVl lp σ) 33 (sumC isS (mkF 33) (ln21 fitsB lineT)) := by
 refine fnOk_env (N := NV σ) (N' := NVl lp σ) rfl rfl (sumC_ok isS_ok (mkF_len _).symm fun args ch x l' nw h hlen ha hC => ?_)
 unfold ln21 at h
 split at h
 ·rename_i s k e v l
  replace h := need_some h
  obtain ⟨hf, h⟩ := h
  simp only [T.val, Option.some.injEq, Prod.mk.injEq] at h
  obtain ⟨rfl, rfl, rfl⟩ := h
  obtain ⟨c, x, hc, hx, hn, hd⟩ := line21_run (σ := σ) hf
  have hargs : ∀ ρ, [.v (.c (i6 s)), .v (.agg [i6 k, i6 e, i6 v, i6 l])].map (SV.den ρ) = [.v (.c (i6 s)), .v (.agg [c, i6 e, i6 v, i6 l])].map (SV.den ρ) := fun ρ => by
   have : SV.den ρ (.v (.agg [i6 k, i6 e, i6 v, i6 l])) = SV.den ρ (.v (.agg [c, i6 e, i6 v, i6 l])) := by simp [SV.den, V1.den, denL, hc ρ, Cell.den]
   simp only [List.map_cons, List.map_nil, this]
  rw [nM_is] at hx
  exact ctr_args (ctr_val (runC_ctr lpsV (tabAdd_ok dig21_ok tab0_ok) (mkF_len _) hx (by rintro ⟨⟩)) ((plSv _).cl _) fun ρ => (hd ρ).symm) hargs
 ·simp [T.val] at h
def wordQ (wb : WordF) (args : List SV) (ch : List (Chunk AV)) : T (SV × List (Chunk AV) × List (Chunk AV)) := match args, ch with
 | [.v (.agg [.it .i64 c, .it .i64 v])], [] => .need (match okS0 c with | true => okS0 v | false => false) (.leaf (.v (.c (.sv ⟨(wb c v).toArray⟩)), [], []))
 | _, _ => .fail "Word"
noncomputable def tabD0 (db : DigF) : Tab := tabAdd 31 (sumC isS nM (digP db okS0)) fun _ => none
noncomputable def tabRw (db : DigF) (fb : FitF) (lt : LineF) (wb : WordF) : Tab := tabAdd 32 (sumC isS (mkF 32) (fitG fb)) (tabAdd 33 (sumC isS (mkF 33) (ln21 fb lt)) (tabAdd 34 (sumC isS nM (wordQ wb)) (tabD0 db)))
end Go.Proofs.YthdmoahfeimdaaaGreatDoor

namespace Go.Proofs.YthdmoahfeimdaaaGreatDoor
open Go Go.Sx Go.Proofs
set_option linter.unusedVariables false
set_option maxRecDepth 100000
variable {σ : Sg} {lp : Lp}
def ysT : ByteArray := ⟨#[121, 101, 115, 32]⟩
theorem word22R (σ : Sg) (db : DigF) (c v : Int) : runC noLp σ (tabD0 db) 34 nM [.v (.agg [i6 c, i6 v])] [] =
 .ite (c == 1) (.need (match okS0 v with | true => bM (strLen ysT + strLen (dbT db v)) | false => false) (lfR (.sv (strCat ysT (dbT db v)))))
  (.ite (c == 2) (lfR (.st ⟨#[101, 109, 112, 116, 121]⟩)) (.ite (c == 3) (lfR (.st ⟨#[104, 97, 100]⟩)) (.ite (c == 4) (lfR (.st ⟨#[102, 117, 108, 108]⟩))
    (.need (match okS0 c with | true => (match bM (strLen (dbT db c) + strLen spT) with | true => (match okS0 v with | true => bM (strLen (strCat (dbT db c) spT) + strLen (dbT db v)) | false => false) | false => false) | false => false)
      (lfR (.sv (strCat (strCat (dbT db c) spT) (dbT db v)))))))) := by kernel_rfl
def opT : ByteArray := ⟨#[111, 112, 32]⟩
def nlT : ByteArray := ⟨#[10]⟩
def onT : ByteArray := ⟨#[32, 111, 112, 101, 110, 10]⟩
def rwC (db : DigF) (B : ByteArray) (f : Int) : ByteArray := strCat (strCat B spT) (dbT db f)
def rwD (db : DigF) (w B : ByteArray) (f o : Int) : ByteArray := strCat (strCat (strCat (strCat (rwC db B f) spT) (dbT db o)) spT) w
def bc (b x : Bool) : Bool := match b with | true => x | false => false
def rwO (db : DigF) (wb : WordF) (B : ByteArray) (a b f o : Int) (d : Bool) : T (Ex × St AV) :=
 .need (bc (bM (strLen B + strLen spT)) (bc (okS0 f) (bM (strLen (strCat B spT) + strLen (dbT db f)))))
  (.ite d (.need (bc (bM (strLen (rwC db B f) + strLen spT)) (bc (okS0 o) (bc (bM (strLen (strCat (rwC db B f) spT) + strLen (dbT db o))) (bc (bM (strLen (strCat (strCat (rwC db B f) spT) (dbT db o)) + strLen spT))
    (bc (bc (okS0 a) (okS0 b)) (bc (bM (strLen (strCat (strCat (strCat (rwC db B f) spT) (dbT db o)) spT) + strLen (⟨(wb a b).toArray⟩ : ByteArray))) (bM (strLen (rwD db ⟨(wb a b).toArray⟩ B f o) + strLen nlT)))))))) (lfR (.sv (strCat (rwD db ⟨(wb a b).toArray⟩ B f o) nlT))))
    (.need (bM (strLen (rwC db B f) + strLen onT)) (lfR (.sv (strCat (rwC db B f) onT)))))
theorem row22R (σ : Sg) (db : DigF) (fb : FitF) (lt : LineF) (wb : WordF) (s t k e v l a b f o : Int) (d : Bool) : runC noLp σ (tabRw db fb lt wb) 18 nM [.v (.c (i6 s)), .v (.agg [i6 t, i6 k, i6 e, i6 v, i6 l, i6 a, i6 b, i6 f, i6 o, .bt d])] [] =
 .need (match okS0 t with | true => bM (strLen (dbT db t) + strLen spT) | false => false) (.ite (fb s k e v l)
  (.need (match fb s k e v l with | true => bM (strLen (strCat (dbT db t) spT) + strLen (lt s k e v l)) | false => false) (rwO db wb (strCat (strCat (dbT db t) spT) (lt s k e v l)) a b f o d))
  (.need (match bM (strLen (strCat (dbT db t) spT) + strLen opT) with | true => (match okS0 k with | true => bM (strLen (strCat (strCat (dbT db t) spT) opT) + strLen (dbT db k)) | false => false) | false => false)
    (rwO db wb (strCat (strCat (strCat (dbT db t) spT) opT) (dbT db k)) a b f o d))) := by kernel_rfl
theorem bcT {a b : Bool} (h1 : a = true) (h2 : b = true) : bc a b = true := by rw [h1, h2]; rfl
abbrev smI (n : Int) : Prop := -9223372036854775808 < n /\ n <= 9223372036854775807
theorem okS_of {n : Int} (h : smI n) : okS0 n = true := decide_eq_true h
theorem sm_in {n : Int} (h : smI n) : inI n := by constructor <;> omega
theorem len_ds {n : Int} (h : smI n) : strLen (dbT itoL n) <= 21 := inN n (sm_in h)
theorem bmT {n : Nat} (h : n <= 1000000) : bM n = true := bleT (by omega)
theorem txEq {a : ByteArray} {l : List UInt8} (h : a.data.toList = l) : a = ⟨l.toArray⟩ := by subst h; rfl
theorem word22_val {c v : Int} (hc : smI c) (hv : smI v) : ∃ x : Cell, (runC noLp σ (tabD0 itoL) 34 nM [.v (.agg [i6 c, i6 v])] []).val = some (stV (.v (.c x), hpC nM [])) /\ ∀ ρ : Nm, x.den ρ = .string ⟨(wordB c v).toArray⟩ := by
 have d1 := len_ds hc
 have d2 := len_ds hv
 rw [word22R]
 by_cases h1 : c = 1
 ·rw [ivT (by simp [h1]), nv (by rw [okS_of hv]; exact bmT (by show 4 + _ <= _; omega))]
  exact ⟨_, rfl, fun ρ => by rw [wordB, if_pos h1]; rfl⟩
 rw [ivF (by simp [h1])]
 by_cases h2 : c = 2
 ·rw [ivT (by simp [h2])]
  exact ⟨_, rfl, fun ρ => by rw [wordB, if_neg h1, if_pos h2]; rfl⟩
 rw [ivF (by simp [h2])]
 by_cases h3 : c = 3
 ·rw [ivT (by simp [h3])]
  exact ⟨_, rfl, fun ρ => by rw [wordB, if_neg h1, if_neg h2, if_pos h3]; rfl⟩
 rw [ivF (by simp [h3])]
 by_cases h4 : c = 4
 ·rw [ivT (by simp [h4])]
  exact ⟨_, rfl, fun ρ => by rw [wordB, if_neg h1, if_neg h2, if_neg h3, if_pos h4]; rfl⟩
 rw [ivF (by simp [h4]), nv ?_]
 ·refine ⟨_, rfl, fun ρ => ?_⟩
  rw [wordB, if_neg h1, if_neg h2, if_neg h3, if_neg h4]
  show Value.string _ = Value.string _
  congr 1
  refine txEq ?_
  show (itoL c ++ [32]) ++ itoL v = Lib.itoa c ++ 32 :: Lib.itoa v
  rw [List.append_assoc]; rfl
 ·rw [okS_of hc]
  simp only
  rw [show bM (strLen (dbT itoL c) + strLen spT) = true from bmT (by rw [len_sp]; omega)]
  simp only
  rw [okS_of hv]
  exact bmT (by rw [len_cat, len_sp]; omega)
theorem word22_ok : FnOk Tryz.prog (NVl lp σ) 34 (sumC isS nM (wordQ wordB)) := by
 refine fnOk_env (N := NVl noLp σ) (N' := NVl lp σ) rfl rfl (sumC_ok isS_ok rfl fun args ch v l' nw h hlen ha hC => ?_)
 unfold wordQ at h
 split at h
 ·rename_i c v
  replace h := need_some h
  obtain ⟨hb, h⟩ := h
  have hc : okS0 c = true := by
   cases e : okS0 c with
   | true => rfl
   | false => rw [e] at hb; cases hb
  rw [hc] at hb
  have hc := of_decide_eq_true hc
  have hv := of_decide_eq_true hb
  simp only [T.val, Option.some.injEq, Prod.mk.injEq] at h
  obtain ⟨rfl, rfl, rfl⟩ := h
  obtain ⟨x, hx, hd⟩ := word22_val (σ := σ) hc hv
  exact ctr_val (runC_ctr lpsV (tabAdd_ok dig22_ok tab0_ok) rfl hx (by rintro ⟨⟩)) ((plSv _).cl _) fun ρ => (hd ρ).symm
 ·simp [T.val] at h
def opTx (s k e v l : Int) : ByteArray := match fitsB s k e v l with | true => lineT s k e v l | false => strCat opT (itT k)
def endL (a b f o : Int) (d : Bool) : List UInt8 := 32 :: (itoL f ++ (match d with | true => 32 :: (itoL o ++ 32 :: (wordB a b ++ [10])) | false => [32, 111, 112, 101, 110, 10]))
def rowL (s t k e v l a b f o : Int) (d : Bool) : List UInt8 :=
 itoL t ++ 32 :: ((opTx s k e v l).data.toList ++ endL a b f o d)
theorem len_line {s k e v l : Int} (he : inI e) (hv : inI v) (hl : inI l) : strLen (lineT s k e v l) <= 80 := by
 have w := len_wd
 have g := fun n => w n
 have a1 := len_add (w := wdK 1) hv
 have a4 := len_add (w := wdK 4) hv
 have a7 := len_add (w := wdK 7) he
 have a8 := len_add (w := wdK 8) he
 have b1 := len_add (w := wdK 6) he
 have b2 := len_add (w := addP (wdK 6) e) hv
 have b3 := len_add (w := addP (addP (wdK 6) e) v) hl
 have := w 1; have := w 2; have := w 3; have := w 4; have := w 5; have := w 6; have := w 7; have := w 8
 unfold lineT
 repeat' split
 all_goals omega
theorem rwO_val {B : ByteArray} {a b f o : Int} (hB : strLen B <= 200) (ha : smI a) (hb : smI b) (hf : smI f) (ho : smI o) (d : Bool) : (rwO itoL wordB B a b f o d).val = some (stV (.v (.c (.sv ⟨(B.data.toList ++ endL a b f o d).toArray⟩)), hpC nM [])) := by
 have df := len_ds hf
 have d0 := len_ds ho
 have dw : strLen (⟨(wordB a b).toArray⟩ : ByteArray) <= 100 := word_le (sm_in ha) (sm_in hb)
 have lC : strLen (rwC itoL B f) <= 300 := by unfold rwC; rw [len_cat, len_cat, len_sp]; omega
 unfold rwO
 rw [nv (bcT (bmT (by rw [len_sp]; omega)) (bcT (okS_of hf) (bmT (by rw [len_cat, len_sp]; omega))))]
 cases d with
 | true =>
   rw [ivT rfl, nv (bcT (bmT (by rw [len_sp]; omega)) (bcT (okS_of ho) (bcT (bmT (by rw [len_cat, len_sp]; omega)) (bcT (bmT (by rw [len_cat, len_cat, len_sp]; omega)) (bcT (bcT (okS_of ha) (okS_of hb)) (bcT (bmT (by rw [len_cat, len_cat, len_cat, len_sp]; omega)) (bmT (by unfold rwD; rw [len_cat, len_cat, len_cat, len_cat, len_sp]; have : strLen nlT = 1 := rfl; omega))))))))]
   have e : strCat (rwD itoL ⟨(wordB a b).toArray⟩ B f o) nlT = ⟨(B.data.toList ++ endL a b f o true).toArray⟩ := txEq (by
    show ((((((B.data.toList ++ [32]) ++ itoL f) ++ [32]) ++ itoL o) ++ [32]) ++ wordB a b) ++ [10] = _
    simp [endL])
   rw [e]; rfl
 | false =>
   rw [ivF rfl, nv (bmT (by have : strLen onT = 6 := rfl; omega))]
   have e : strCat (rwC itoL B f) onT = ⟨(B.data.toList ++ endL a b f o false).toArray⟩ := txEq (by
    show ((B.data.toList ++ [32]) ++ itoL f) ++ [32, 111, 112, 101, 110, 10] = _
    simp [endL])
   rw [e]; rfl
theorem row22_val {s t k e v l a b f o : Int} (ht : smI t) (hk : smI k) (ha : smI a) (hb : smI b) (hf : smI f) (ho : smI o) (d : Bool) : (runC noLp σ (tabRw itoL fitsB lineT wordB) 18 nM [.v (.c (i6 s)), .v (.agg [i6 t, i6 k, i6 e, i6 v, i6 l, i6 a, i6 b, i6 f, i6 o, .bt d])] []).val = some (stV (.v (.c (.sv ⟨(rowL s t k e v l a b f o d).toArray⟩)), hpC nM [])) := by
 have dt := len_ds ht
 have dk := len_ds hk
 rw [row22R, nv (by rw [okS_of ht]; exact bmT (by rw [len_sp]; omega))]
 unfold rowL opTx
 cases hfit : fitsB s k e v l with
 | true =>
   obtain ⟨_, _, g1, g2, g3, g4, g5, g6⟩ := fits_k hfit
   have hl := len_line (s := s) (k := k) (e := e) (v := v) (l := l) (by constructor <;> omega) (by constructor <;> omega) (by constructor <;> omega)
   rw [ivT rfl, nv (bmT (by rw [len_cat, len_sp]; omega)), rwO_val (by rw [len_cat, len_cat, len_sp]; omega) ha hb hf ho d]
   congr 8
   show ((itoL t ++ [32]) ++ (lineT s k e v l).data.toList) ++ _ = _
   simp
 | false =>
   have hop : strLen opT = 3 := rfl
   rw [ivF rfl, nv ?_, rwO_val (by rw [len_cat, len_cat, len_cat, len_sp, hop]; omega) ha hb hf ho d]
   ·congr 8
    show (((itoL t ++ [32]) ++ [111, 112, 32]) ++ itoL k) ++ _ = itoL t ++ 32 :: (([111, 112, 32] ++ itoL k) ++ _)
    simp
   ·rw [show bM (strLen (strCat (dbT itoL t) spT) + strLen opT) = true from bmT (by rw [len_cat, len_sp, hop]; omega)]
    simp only
    rw [okS_of hk]
    exact bmT (by rw [len_cat, len_cat, len_sp, hop]; omega)
end Go.Proofs.YthdmoahfeimdaaaGreatDoor

namespace Go.Proofs.YthdmoahfeimdaaaGreatDoor
open Go Go.Sx Go.Proofs
set_option linter.unusedVariables false
set_option maxRecDepth 100000
variable {σ : Sg} {lp : Lp}
abbrev RowF := Int -> Int -> Int -> Int -> Int -> Int -> Int -> Int -> Int -> Int -> Bool -> List UInt8
def smR (t k a b f o : Int) : Bool := decide (smI t /\ smI k /\ smI a /\ smI b /\ smI f /\ smI o)
def rowP (rb : RowF) (args : List SV) (ch : List (Chunk AV)) : T (SV × List (Chunk AV) × List (Chunk AV)) := match args, ch with
 | [.v (.c (.it .i64 s)), .v (.agg [.it .i64 t, .it .i64 k, .it .i64 e, .it .i64 v, .it .i64 l, .it .i64 a, .it .i64 b, .it .i64 f, .it .i64 o, .bt d])], [] => .need (smR t k a b f o) (.leaf (.v (.c (.sv ⟨(rb s t k e v l a b f o d).toArray⟩)), [], []))
 | _, _ => .fail "Row"
theorem row22_ok : FnOk Tryz.prog (NVl lp σ) 18 (sumC isS nM (rowP rowL)) := by
 refine fnOk_env (N := NVl noLp σ) (N' := NVl lp σ) rfl rfl (sumC_ok isS_ok rfl fun args ch x l' nw h hlen ha hC => ?_)
 unfold rowP at h
 split at h
 ·rename_i s t k e v l a b f o d
  replace h := need_some h
  obtain ⟨hb0, h⟩ := h
  obtain ⟨ht, hk, ha', hb, hf, ho⟩ := of_decide_eq_true hb0
  simp only [T.val, Option.some.injEq, Prod.mk.injEq] at h
  obtain ⟨rfl, rfl, rfl⟩ := h
  exact runC_ctr lpsV (tabAdd_ok fitR_ok (tabAdd_ok line21_ok (tabAdd_ok word22_ok (tabAdd_ok dig22_ok tab0_ok)))) rfl (row22_val ht hk ha' hb hf ho d) (by rintro ⟨⟩)
 ·simp [T.val] at h
noncomputable def tabHs (db : DigF) : Tab := tabD0 db
end Go.Proofs.YthdmoahfeimdaaaGreatDoor

namespace Go.Proofs.YthdmoahfeimdaaaGreatDoor
open Go Go.Sx Go.Proofs
set_option linter.unusedVariables false
set_option maxRecDepth 100000
variable {σ : Sg} {lp : Lp}
end Go.Proofs.YthdmoahfeimdaaaGreatDoor

namespace Go.Proofs.YthdmoahfeimdaaaGreatDoor
open Go Go.Sx Go.Proofs
set_option linter.unusedVariables false
set_option maxRecDepth 100000
variable {σ : Sg} {lp : Lp}
def lenS : List UInt8 -> Nat
 | [] => 0
 | c :: r => if c = 10 then 0 else lenS r + 1
theorem enter_ks {N : Env AV} {nt : Nat} {E E' : Ev} {H : Hp AV} {ks : List Nat} (hE : ∀ k ∈ ks, Sx.look E' k = Sx.look E k \/ (Sx.look E k ≠ .unk /\ Plain (Sx.look E' k) /\ ∀ ρ, (Sx.look E' k).den ρ = (Sx.look E k).den ρ)) : Enter N nt { E := E, H := H } { E := only ks E' nt, H := H } := by
 refine enter_says ⟨fun k hk => ?_, fun k hk => ?_⟩ rfl
 ·show Sx.look (only ks E' nt) k = _ \/ Sx.look (only ks E' nt) k = _ \/ _
  simp only [only_look, if_pos hk]
  cases hh : hasN ks k with
  | false => exact .inl rfl
  | true =>
    rcases hE k ((hasN_iff _ _).1 hh) with e | ⟨e0, e1, e2⟩
    ·exact .inr (.inl e)
    ·exact .inr (.inr ⟨e0, e1, e2⟩)
 ·show Sx.look (only ks E' nt) k = _
  rw [only_look, if_neg (by omega)]
end Go.Proofs.YthdmoahfeimdaaaGreatDoor
