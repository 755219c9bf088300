/- LitanyGood: every run of the law comes to true. -/
import Derived.Test.YtmaolegmdhnpeaaDoorLgB
namespace Go.Proofs.YtmaolegmdhnpeaaDoor
open Go Go.Sx Go.Proofs
theorem ge_not (x y : Int) : decide (x ≥ y) = !decide (x < y) := by
  by_cases h : x < y <;> simp [h] <;> omega
theorem gt_not (x y : Int) : decide (x > y) = !decide (x ≤ y) := by
  by_cases h : x ≤ y <;> simp [h] <;> omega
theorem le_flip (x y : Int) : decide (x ≤ y) = !decide (y < x) := by
  by_cases h : y < x <;> simp [h] <;> omega
theorem bool6 (key val tall a b c : Int) : (tr6 key val tall a b c).boolV = true := by
  unfold tr6
  simp only [T.boolV, svB, boolC, goodB, bne]
  have k0 : ((6 : Int) == 6) = true := rfl
  rw [ge_not key 0, ge_not val 0, ge_not tall 0, gt_not key 255, k0]
  generalize decide (key < 0) = p1
  generalize decide (key ≤ 255) = p2
  generalize decide (val < 0) = p3
  generalize decide (val ≤ 1073741824) = p4
  generalize decide (tall < 0) = p5
  generalize decide (tall ≤ 3) = p6
  generalize (tall == 0) = z
  cases p1 <;> cases p2 <;> cases p3 <;> cases p4 <;> cases p5 <;> cases p6 <;> cases z <;> rfl
theorem bool7 (key val tall a b c : Int) : (tr7 key val tall a b c).boolV = true := by
  unfold tr7
  simp only [T.boolV, svB, boolC, goodB, bne]
  rw [ge_not key 0, gt_not key 255]
  have ha : (a == a) = true := by simp
  have hb : (b == b) = true := by simp
  have hc : (c == c) = true := by simp
  try rw [ha, hb, hc]
  generalize decide (key < 0) = p1
  generalize decide (key ≤ 255) = p2
  generalize (val == 0) = y
  generalize (tall == 0) = z
  cases p1 <;> cases p2 <;> cases y <;> cases z <;> rfl
theorem bool8 (key val tall a b c : Int) : (tr8 key val tall a b c).boolV = true := by
  unfold tr8
  simp only [T.boolV, svB, boolC, goodB, bne]
  rw [ge_not key 0, gt_not key 255]
  have ha : (a == a) = true := by simp
  have hb : (b == b) = true := by simp
  have hc : (c == c) = true := by simp
  try rw [ha, hb, hc]
  generalize decide (key < 0) = p1
  generalize decide (key ≤ 255) = p2
  generalize (val == 0) = y
  generalize (tall == 0) = z
  cases p1 <;> cases p2 <;> cases y <;> cases z <;> rfl
theorem boolO (k key val tall a b c : Int) (h6 : (k == 6) = false) (h7 : (k == 7) = false) (h8 : (k == 8) = false) : (trO k key val tall a b c).boolV = true := by
  unfold trO
  simp only [T.boolV, svB, boolC, goodB, bne]
  rw [ge_not key 0, gt_not key 255, h6, h7, h8]
  generalize decide (key < 0) = p1
  generalize decide (key ≤ 255) = p2
  generalize (tall == 0) = z
  cases p1 <;> cases p2 <;> cases z <;> rfl
end Go.Proofs.YtmaolegmdhnpeaaDoor
