/- VergerNil: the law's run as a plain tree, which is true at every input; the law's contract. -/
import Derived.Test.YtfamkibdecgbgaaGreatDoorNb
namespace Go.Proofs.YtfamkibdecgbgaaGreatDoor
open Go Go.Sx Go.Proofs
set_option maxRecDepth 100000
noncomputable def lawN (σ : Nat → Addr) (x0 x1 x2 x3 x4 k key val tall : Int) := lv (NS σ) (tabW 4 MA) 15 (.fn 3) [.v (.agg ([x0, x1, x2, x3, x4].map it)), .v (.agg ([k, key, val, tall].map it))] (sentH 0 7)
def canB (x0 x1 x2 x3 x4 : Int) : Bool := match decide (x0 ≥ 1) == true with | true => (match decide (x0 ≤ 5) == true with | true => (match decide (x1 ≥ 1) == true with | true => (match decide (x1 ≤ 5) == true with | true => (match decide (x3 ≥ 1) == true with | true => (match decide (x3 ≤ 6) == true with | true => (match decide (x2 ≥ 0) == true with | true => (match decide (x2 < x3) == true with | true => (match decide (x4 ≥ 1) == true with | true => decide (x4 ≤ 64) | false => false) | false => false) | false => false) | false => false) | false => false) | false => false) | false => false) | false => false) | false => false
def aB (x0 : Int) : Bool := match decide (x0 < 1) == false with | true => decide (x0 > 5) | false => true
def bB (x1 x2 x3 x4 : Int) : Bool := match decide (x1 < 1) == false with | true => (match decide (x1 > 5) == false with | true => (match decide (x3 < 1) == false with | true => (match decide (x3 > 6) == false with | true => (match decide (x2 < 0) == false with | true => (match decide (x2 ≥ x3) == false with | true => (match decide (x4 < 1) == false with | true => decide (x4 > 64) | false => true) | false => true) | false => true) | false => true) | false => true) | false => true) | false => true
def treeN (σ : Nat → Addr) (x0 x1 x2 x3 x4 : Int) : T (SV × Hp Nat) :=
  T.ite (aB x0) (T.need (match (!false == canB x0 x1 x2 x3 x4) == false with | true => (match (!(!true) == canB x0 x1 x2 x3 x4) == false with | true => decide (σ 0 = σ 0) | false => true) | false => true) (T.ite (match (!false == canB x0 x1 x2 x3 x4) == false with | true => (match (!(!true) == canB x0 x1 x2 x3 x4) == false with | true => !true | false => true) | false => true) (T.leaf (SV.v (V1.c (Cell.bl false)), sentH 0 7)) (T.need (decide (σ 1 = σ 1)) (T.need (decide (σ 1 = σ 1)) (T.need (decide (σ 1 = σ 1)) (T.ite (!(canB x0 x1 x2 x3 x4)) (T.leaf (SV.v (V1.c (Cell.bl true)), sentH 0 7)) (T.need (match decide (σ 1 = σ 2) with | true => decide (σ 1 = σ 1) | false => false) (T.leaf (SV.v (V1.c (Cell.bl true)), sentH 0 7))))))))) (T.ite (bB x1 x2 x3 x4) (T.need (match (!false == canB x0 x1 x2 x3 x4) == false with | true => (match (!(!true) == canB x0 x1 x2 x3 x4) == false with | true => decide (σ 0 = σ 0) | false => true) | false => true) (T.ite (match (!false == canB x0 x1 x2 x3 x4) == false with | true => (match (!(!true) == canB x0 x1 x2 x3 x4) == false with | true => !true | false => true) | false => true) (T.leaf (SV.v (V1.c (Cell.bl false)), sentH 0 7)) (T.need (decide (σ 1 = σ 1)) (T.need (decide (σ 1 = σ 1)) (T.need (decide (σ 1 = σ 1)) (T.ite (!(canB x0 x1 x2 x3 x4)) (T.leaf (SV.v (V1.c (Cell.bl true)), sentH 0 7)) (T.need (match decide (σ 1 = σ 2) with | true => decide (σ 1 = σ 1) | false => false) (T.leaf (SV.v (V1.c (Cell.bl true)), sentH 0 7))))))))) (T.ite (match (!true == canB x0 x1 x2 x3 x4) == false with | true => (match (!(!false) == canB x0 x1 x2 x3 x4) == false with | true => false | false => true) | false => true) (T.leaf (SV.v (V1.c (Cell.bl false)), sentH 0 7)) (T.need (decide (σ 1 = σ 1)) (T.need (decide (σ 1 = σ 1)) (T.need (decide (σ 1 = σ 1)) (T.ite (!(canB x0 x1 x2 x3 x4)) (T.leaf (SV.v (V1.c (Cell.bl true)), sentH 0 7)) (T.need (match decide (σ 2 = σ 2) with | true => decide (σ 1 = σ 1) | false => false) (T.leaf (SV.v (V1.c (Cell.bl true)), sentH 0 7)))))))))
theorem run_law (σ : Nat → Addr) (x0 x1 x2 x3 x4 k key val tall : Int) : lawN σ x0 x1 x2 x3 x4 k key val tall = treeN σ x0 x1 x2 x3 x4 := by kernel_rfl
theorem canB_eq (x0 x1 x2 x3 x4 : Int) : canB x0 x1 x2 x3 x4 = (!aB x0 && !bB x1 x2 x3 x4) := by
  unfold canB aB bB
  by_cases h0 : x0 < 1
  · have e : (x0 ≥ 1) = False := eq_false (by omega)
    have h : (x0 < 1) = True := eq_true h0
    simp only [h, e, decide_true, decide_false]
    rfl
  have f0 : (x0 < 1) = False := eq_false h0
  have t0 : (x0 ≥ 1) = True := eq_true (by omega)
  by_cases h1 : x0 > 5
  · have e : (x0 ≤ 5) = False := eq_false (by omega)
    have h : (x0 > 5) = True := eq_true h1
    simp only [f0, t0, h, e, decide_true, decide_false]
    rfl
  have f1 : (x0 > 5) = False := eq_false h1
  have t1 : (x0 ≤ 5) = True := eq_true (by omega)
  by_cases h2 : x1 < 1
  · have e : (x1 ≥ 1) = False := eq_false (by omega)
    have h : (x1 < 1) = True := eq_true h2
    simp only [f0, t0, f1, t1, h, e, decide_true, decide_false]
    rfl
  have f2 : (x1 < 1) = False := eq_false h2
  have t2 : (x1 ≥ 1) = True := eq_true (by omega)
  by_cases h3 : x1 > 5
  · have e : (x1 ≤ 5) = False := eq_false (by omega)
    have h : (x1 > 5) = True := eq_true h3
    simp only [f0, t0, f1, t1, f2, t2, h, e, decide_true, decide_false]
    rfl
  have f3 : (x1 > 5) = False := eq_false h3
  have t3 : (x1 ≤ 5) = True := eq_true (by omega)
  by_cases h4 : x3 < 1
  · have e : (x3 ≥ 1) = False := eq_false (by omega)
    have h : (x3 < 1) = True := eq_true h4
    simp only [f0, t0, f1, t1, f2, t2, f3, t3, h, e, decide_true, decide_false]
    rfl
  have f4 : (x3 < 1) = False := eq_false h4
  have t4 : (x3 ≥ 1) = True := eq_true (by omega)
  by_cases h5 : x3 > 6
  · have e : (x3 ≤ 6) = False := eq_false (by omega)
    have h : (x3 > 6) = True := eq_true h5
    simp only [f0, t0, f1, t1, f2, t2, f3, t3, f4, t4, h, e, decide_true, decide_false]
    rfl
  have f5 : (x3 > 6) = False := eq_false h5
  have t5 : (x3 ≤ 6) = True := eq_true (by omega)
  by_cases h6 : x2 < 0
  · have e : (x2 ≥ 0) = False := eq_false (by omega)
    have h : (x2 < 0) = True := eq_true h6
    simp only [f0, t0, f1, t1, f2, t2, f3, t3, f4, t4, f5, t5, h, e, decide_true, decide_false]
    rfl
  have f6 : (x2 < 0) = False := eq_false h6
  have t6 : (x2 ≥ 0) = True := eq_true (by omega)
  by_cases h7 : x2 ≥ x3
  · have e : (x2 < x3) = False := eq_false (by omega)
    have h : (x2 ≥ x3) = True := eq_true h7
    simp only [f0, t0, f1, t1, f2, t2, f3, t3, f4, t4, f5, t5, f6, t6, h, e, decide_true, decide_false]
    rfl
  have f7 : (x2 ≥ x3) = False := eq_false h7
  have t7 : (x2 < x3) = True := eq_true (by omega)
  by_cases h8 : x4 < 1
  · have e : (x4 ≥ 1) = False := eq_false (by omega)
    have h : (x4 < 1) = True := eq_true h8
    simp only [f0, t0, f1, t1, f2, t2, f3, t3, f4, t4, f5, t5, f6, t6, f7, t7, h, e, decide_true, decide_false]
    rfl
  have f8 : (x4 < 1) = False := eq_false h8
  have t8 : (x4 ≥ 1) = True := eq_true (by omega)
  by_cases h9 : x4 > 64
  · have e : (x4 ≤ 64) = False := eq_false (by omega)
    have h : (x4 > 64) = True := eq_true h9
    simp only [f0, t0, f1, t1, f2, t2, f3, t3, f4, t4, f5, t5, f6, t6, f7, t7, f8, t8, h, e, decide_true, decide_false]
    rfl
  have f9 : (x4 > 64) = False := eq_false h9
  have t9 : (x4 ≤ 64) = True := eq_true (by omega)
  simp only [f0, t0, f1, t1, f2, t2, f3, t3, f4, t4, f5, t5, f6, t6, f7, t7, f8, t8, f9, t9, decide_true, decide_false]
  rfl
theorem treeN_val (σ : Nat → Addr) (x0 x1 x2 x3 x4 : Int) : (treeN σ x0 x1 x2 x3 x4).val = some (.v (.c (.bl true)), sentH 0 7) := by
  have hc := canB_eq x0 x1 x2 x3 x4
  unfold treeN
  cases ha : aB x0 <;> cases hb : bB x1 x2 x3 x4 <;> simp only [ha, hb, Bool.not_true, Bool.not_false, Bool.and_true, Bool.and_false, Bool.true_and, Bool.false_and] at hc <;> simp [T.val, hc, sentH]
theorem vergerNil_calls (x0 x1 x2 x3 x4 k key val tall : Int) (σ : Nat → Addr) (w : World) (hg : ∀ n, n < 7 → w.heap[n]? = some (.cells #[.iface 203 (.pointer (some (σ n)))] 28 (0, 0))) :
    Calls Tryz.prog 3 #[.agg #[.int .i64 x0, .int .i64 x1, .int .i64 x2, .int .i64 x3, .int .i64 x4], .agg #[.int .i64 k, .int .i64 key, .int .i64 val, .int .i64 tall]] w fun e w' => e = .returned (.bool true) ∧ Quiet w w' := by
  have h1 : (lawN σ x0 x1 x2 x3 x4 k key val tall).val = some (.v (.c (.bl true)), sentH 0 7) := by rw [run_law]; exact treeN_val σ x0 x1 x2 x3 x4
  delta lawN at h1
  refine quietGs (N := NS σ) (te := 203) (ty := 28) (σ := σ) rfl (fnW (awake_ok σ) 15 3) (args := [.v (.agg ([x0, x1, x2, x3, x4].map it)), .v (.agg ([k, key, val, tall].map it))]) hg ?_ h1 (fun ρ => rfl) ?_
  · intro x hx
    simp only [List.mem_cons, List.not_mem_nil, or_false] at hx
    rcases hx with rfl | rfl
    · exact plIts _
    · exact plIts _
  · intro n hn
    have hn : n < 7 := hn
    match n, hn with
    | 0, _ => rfl
    | 1, _ => rfl
    | 2, _ => rfl
    | 3, _ => rfl
    | 4, _ => rfl
    | 5, _ => rfl
    | 6, _ => rfl
end Go.Proofs.YtfamkibdecgbgaaGreatDoor
