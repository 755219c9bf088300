/- ParishNil: the law's run as a plain tree, which is true at every input; the law's contract. -/
import Derived.Test.YtmdojlkmgllhnaaGreatDoorYc
namespace Go.Proofs.YtmdojlkmgllhnaaGreatDoor
open Go Go.Sx Go.Proofs
set_option maxRecDepth 100000
set_option maxHeartbeats 0
abbrev R := T (SV × Hp AV)
noncomputable def lawN (σ : Nat → Addr) (a b : Nat) (x k key val tall many : Int) : R := Q.lv (NL σ a b) (tabL σ) 14 (.fn 3) [.v (.c (.it .i64 x)), .v (.agg [.it .i64 k, .it .i64 key, .it .i64 val, .it .i64 tall]), .v (.c (.it .i64 many))] (hpO allM [])
def leafC (c : Cell) : R := .leaf (.v (.c c), hpO allM [])
def cutT (a b i : Nat) (t : R) : R := match Nat.ble a i, Nat.blt i b with
  | true, true => t
  | _, _ => .fail "cut"
def tailT (σ : Nat → Addr) (c : Cell) : R := .need (decide (σ 2 = σ 2)) (leafC c)
/-- a round in which there is room, or none -/
def roundT (σ : Nat → Addr) (a b : Nat) (F : Bool) (i : Nat) (t : R) : R := match Nat.blt i 63 with
  | true => .ite (!F) (cutT a b i (leafC (.bl false))) (.need true t)
  | false => .ite (!F) (.fail "Is") (.need (decide (σ 1 = σ 1)) t)
def exitT (σ : Nat → Addr) (a b i : Nat) : R := cutT a b i (tailT σ (match i with | 0 => .bl true | _ + 1 => .bt true))
def roundsT (σ : Nat → Addr) (a b : Nat) (F : Bool) (n : Int) : Nat → Nat → Int → R
  | 0, i, _ => match Nat.blt i 79 with
    | true => .fail "loop: too many rounds"
    | false => exitT σ a b i
  | fu + 1, i, ii => .ite (match decide (ii < n) == true with | true => true | false => false) (roundT σ a b F i (roundsT σ a b F n fu (i + 1) (IntKind.i64.wrap (ii + 1)))) (exitT σ a b i)
def c24 (s : Int) : Bool := match (s == 2) == false with
  | true => s == 4
  | false => true
def fullT (σ : Nat → Addr) (s : Int) : R := .ite (c24 s) (.need (decide (σ 1 = σ 1)) (leafC (.bl true))) (leafC (.bl false))
def treeN (σ : Nat → Addr) (a b : Nat) (s n : Int) (F : Bool) : R :=
  .need (decide (σ 0 = σ 0)) (.need (decide (σ 0 = σ 0)) (.need (decide (σ 0 = σ 0)) (.ite (s == 2) (fullT σ s) (.ite (s == 4) (fullT σ s) (.ite (c24 s) (leafC (.bl false))
    (.ite (!F) (cutT a b 0 (tailT σ (.bl true))) (roundsT σ a b F n (match Nat.blt b 79 with | true => b | false => 79) 0 0)))))))
def sN (x : Int) : Int := 1 + (IntKind.u64.wrap x).tmod 5
def nN (many : Int) : Int := (IntKind.u64.wrap many).tmod 80
theorem roundsT_val {σ : Nat → Addr} {a b : Nat} {n : Int} (h0 : 0 ≤ n) (ha : a ≤ n.toNat) (hb : n.toNat < b) : ∀ (fu i : Nat) (ii : Int), ii = (i : Int) → (i : Int) ≤ n → (n < (i : Int) + fu ∨ n ≤ (i : Int) + fu ∧ i + fu = 79) → n < 1000 → ∃ c : Cell, (roundsT σ a b true n fu i ii).val = some (.v (.c c), hpO allM []) ∧ ∀ ρ : Nm, c.den ρ = .bool true
  | fu, i, ii, hii, hi, hn, hm => by
    have ex : n = (i : Int) → ∃ c : Cell, (exitT σ a b i).val = some (.v (.c c), hpO allM []) ∧ ∀ ρ : Nm, c.den ρ = .bool true := fun e => by
      have e1 : Nat.ble a i = true := by rw [Nat.ble_eq]; omega
      have e2 : Nat.blt i b = true := by rw [Nat.blt_eq]; omega
      unfold exitT cutT
      rw [e1, e2]
      refine ⟨_, by simp only [tailT, T.val, leafC, decide_true]; rfl, fun ρ => ?_⟩
      cases i <;> rfl
    cases fu with
    | zero =>
      have h79 : i = 79 := by omega
      subst h79
      have e := ex (by omega)
      unfold roundsT
      exact e
    | succ fu =>
      unfold roundsT
      by_cases h : ii < n
      · have hw : IntKind.i64.wrap (ii + 1) = ((i + 1 : Nat) : Int) := by rw [wrap_in (by omega)]; omega
        rw [hw]
        obtain ⟨c, h1, h2⟩ := roundsT_val (σ := σ) h0 ha hb fu (i + 1) ((i + 1 : Nat) : Int) rfl (by omega) (by omega) hm
        refine ⟨c, ?_, h2⟩
        generalize ((i + 1 : Nat) : Int) = q at h1 ⊢
        have e1 : decide (ii < n) = true := decide_eq_true h
        simp only [T.val, e1, roundT]
        cases Nat.blt i 63 <;> simp [T.val, h1]
      · have e1 : decide (ii < n) = false := decide_eq_false h
        obtain ⟨c, h1, h2⟩ := ex (by omega)
        exact ⟨c, by simp [T.val, e1, h1], h2⟩
theorem treeN_val {σ : Nat → Addr} {a b : Nat} {s n : Int} {F : Bool} (h0 : 0 ≤ n) (hn : n < 80) (hF : F = false → a = 0 ∧ 0 < b) (hT : F = true → a ≤ n.toNat ∧ n.toNat < b) : ∃ c : Cell, (treeN σ a b s n F).val = some (.v (.c c), hpO allM []) ∧ ∀ ρ : Nm, c.den ρ = .bool true := by
  unfold treeN
  simp only [T.val, decide_true]
  by_cases h2 : s = 2
  · subst h2
    exact ⟨.bl true, by simp [T.val, fullT, c24, leafC], fun ρ => rfl⟩
  · have e2 : (s == 2) = false := by simpa using h2
    by_cases h4 : s = 4
    · subst h4
      exact ⟨.bl true, by simp [T.val, fullT, c24, leafC], fun ρ => rfl⟩
    · have e4 : (s == 4) = false := by simpa using h4
      have ec : c24 s = false := by unfold c24; rw [e2]; exact e4
      cases F with
      | false =>
        obtain ⟨rfl, hb⟩ := hF rfl
        have e1 : Nat.blt 0 b = true := by rw [Nat.blt_eq]; omega
        exact ⟨.bl true, by simp [T.val, e2, e4, ec, cutT, e1, tailT, leafC], fun ρ => rfl⟩
      | true =>
        obtain ⟨h5, h6⟩ := hT rfl
        obtain ⟨c, h7, h8⟩ := roundsT_val (σ := σ) h0 h5 h6 (match Nat.blt b 79 with | true => b | false => 79) 0 0 rfl (by omega) (by cases hb : Nat.blt b 79 <;> simp <;> omega) (by omega)
        exact ⟨c, by simp [T.val, e2, e4, ec, h7], h8⟩
theorem nN_rng (many : Int) : 0 ≤ nN many ∧ nN many < 80 := rem_rng (wrapU_rng many) (by decide)
end Go.Proofs.YtmdojlkmgllhnaaGreatDoor
