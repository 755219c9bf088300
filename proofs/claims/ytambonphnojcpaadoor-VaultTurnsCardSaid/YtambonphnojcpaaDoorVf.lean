/- VaultTurns: the law's run as a plain tree, which is true at all numbers; the law's contract. -/
import Derived.Test.YtambonphnojcpaaDoorVe
namespace Go.Proofs.YtambonphnojcpaaDoor
open Go Go.Sx Go.Proofs
set_option maxRecDepth 100000
def red (a : Int) : Int := IntKind.i64.wrap ((IntKind.u64.wrap a).tmod 256)
def treeT (x y : Int) (ad : Addr) : T SV :=
  T.need true
    (T.need (decide (ad = ad))
      (T.need true
        (T.need true
          (T.need true
            (T.need
              (match (!keyB (ordP x)) == false with
              | true =>
                match
                  (keyP (ordP x) !=
                      x) ==
                    false with
                | true =>
                  match keyB (bordP (y.tmod 8)) == false with
                  | true =>
                    match
                      (!(ordP x ==
                              ordP y) ==
                            (x ==
                              y)) ==
                        false with
                    | true =>
                      match (8 : Int) != 0 with
                      | true =>
                        match
                          (ordP x ==
                              bordP (y.tmod 8)) ==
                            false with
                        | true =>
                          match (8 : Int) != 0 with
                          | true =>
                            match (8 : Int) != 0 with
                            | true =>
                              match (8 : Int) != 0 with
                              | true => (8 : Int) != 0
                              | false => false
                            | false => false
                          | false => false
                        | false => true
                      | false => false
                    | false => true
                  | false => true
                | false => true
              | false => true)
              (T.ite
                (match (!keyB (ordP x)) == false with
                | true =>
                  match
                    (keyP (ordP x) !=
                        x) ==
                      false with
                  | true =>
                    match keyB (bordP (y.tmod 8)) == false with
                    | true =>
                      match
                        (!(ordP x ==
                                ordP y) ==
                              (x ==
                                y)) ==
                          false with
                      | true =>
                        match
                          (ordP x ==
                              bordP (y.tmod 8)) ==
                            false with
                        | true =>
                          !(bordP (x.tmod 8) ==
                                bordP (y.tmod 8)) ==
                              (x.tmod 8 ==
                                y.tmod 8)
                        | false => true
                      | false => true
                    | false => true
                  | false => true
                | false => true)
                (T.leaf (SV.v (V1.c (Cell.bl false))))
                (T.need true
                  (T.ite
                    (match
                      decide
                          (ordP x ≤
                            bordP (x.tmod 1)) ==
                        false with
                    | true =>
                      decide
                        (ordP x ≥
                          nx (bordP (x.tmod 1)) (Int.toNat 1) 512 0)
                    | false => true)
                    (T.leaf (SV.v (V1.c (Cell.bl false))))
                    (T.need true
                      (T.ite
                        (match
                          decide
                              (ordP x ≤
                                bordP
                                  (x.tmod
                                    2)) ==
                            false with
                        | true =>
                          decide
                            (ordP x ≥
                              nx
                                (bordP
                                  (x.tmod 2))
                                (Int.toNat 2) 512 0)
                        | false => true)
                        (T.leaf (SV.v (V1.c (Cell.bl false))))
                        (T.need true
                          (T.ite
                            (match
                              decide
                                  (ordP x ≤
                                    bordP
                                      (x.tmod
                                        4)) ==
                                false with
                            | true =>
                              decide
                                (ordP x ≥
                                  nx
                                    (bordP
                                      (x.tmod
                                        4))
                                    (Int.toNat 4) 512 0)
                            | false => true)
                            (T.leaf (SV.v (V1.c (Cell.bl false))))
                            (T.need true
                              (T.ite
                                (match
                                  decide
                                      (ordP x ≤
                                        bordP
                                          (x.tmod
                                            8)) ==
                                    false with
                                | true =>
                                  decide
                                    (ordP x ≥
                                      nx
                                        (bordP
                                          (x.tmod
                                            8))
                                        (Int.toNat 8)
                                        512 0)
                                | false => true)
                                (T.leaf (SV.v (V1.c (Cell.bl false))))
                                (T.leaf (SV.v (V1.c (Cell.bl true))))))))))))))))))
theorem run_lawW (a b : Int) (ad : Addr) : (lawW a b ad).map (fun r => r.1) = treeT (red a) (red b) ad := by kernel_rfl
theorem leaves_lawW (a b : Int) (ad : Addr) : ((lawW a b ad).map fun r => hget r.2 0).leaves = List.replicate 6 (some (G0 ad)) := by kernel_rfl
theorem red_range (a : Int) : 0 ≤ red a ∧ red a < 256 := by
  have h0 : 0 ≤ IntKind.u64.wrap a := by
    unfold IntKind.wrap
    simp [IntKind.bits, IntKind.signed]
    omega
  have h1 : (IntKind.u64.wrap a).tmod 256 = IntKind.u64.wrap a % 256 := Int.tmod_eq_emod_of_nonneg h0
  have h2 : 0 ≤ IntKind.u64.wrap a % 256 ∧ IntKind.u64.wrap a % 256 < 256 := by omega
  unfold red
  rw [h1]
  generalize IntKind.u64.wrap a % 256 = z at h2
  have : IntKind.i64.wrap z = z := by
    unfold IntKind.wrap
    simp [IntKind.bits, IntKind.signed]
    omega
  rw [this]; exact h2
def okA (x : Int) : Bool := keyB (ordP x) && (keyP (ordP x) == x) && (ordP x % 2 == 1) && [(1 : Int), 2, 4, 8].all fun s => !(decide (ordP x ≤ bordP (x.tmod s))) && !(decide (ordP x ≥ nx (bordP (x.tmod s)) s.toNat 512 0))
def okB (y : Int) : Bool := !keyB (bordP y) && (bordP y % 2 == 0) && (rev (bordP y / 2) == y)
theorem chk_A : checkI okA 256 = true := by kernel_rfl
theorem chk_B : checkI okB 8 = true := by kernel_rfl
theorem treeT_true (x y : Int) (ad : Addr) (hx : 0 ≤ x ∧ x < 256) (hy : 0 ≤ y ∧ y < 256) : (treeT x y ad).boolV = true := by
  have hA := checkI_spec chk_A x hx.1 hx.2
  have hA' := checkI_spec chk_A y hy.1 hy.2
  have r8 : ∀ z : Int, 0 ≤ z → 0 ≤ z.tmod 8 ∧ z.tmod 8 < 8 := fun z hz => by
    rw [Int.tmod_eq_emod_of_nonneg hz]; omega
  have hB := checkI_spec chk_B (y.tmod 8) (r8 y hy.1).1 (r8 y hy.1).2
  have hB' := checkI_spec chk_B (x.tmod 8) (r8 x hx.1).1 (r8 x hx.1).2
  simp only [okA, List.all_cons, List.all_nil, Bool.and_true, Bool.and_eq_true, beq_iff_eq, Bool.not_eq_true', decide_eq_false_iff_not] at hA hA'
  simp only [okB, Bool.and_eq_true, beq_iff_eq, Bool.not_eq_true'] at hB hB'
  obtain ⟨⟨⟨a1, a2⟩, a3⟩, ⟨c1, d1⟩, ⟨c2, d2⟩, ⟨c4, d4⟩, ⟨c8, d8⟩⟩ := hA
  obtain ⟨⟨⟨_, b2⟩, b3⟩, _⟩ := hA'
  obtain ⟨⟨e1, e2⟩, e3⟩ := hB
  obtain ⟨⟨_, f2⟩, f3⟩ := hB'
  have k1 : (ordP x == ordP y) = (x == y) := by
    by_cases e : x = y
    · subst e; simp
    · have : ordP x ≠ ordP y := fun h => e (by rw [← a2, ← b2, h])
      rw [beq_eq_false_iff_ne.2 this, beq_eq_false_iff_ne.2 e]
  have k2 : (ordP x == bordP (y.tmod 8)) = false := by
    apply beq_eq_false_iff_ne.2
    intro h
    rw [h] at a3
    omega
  have k3 : (bordP (x.tmod 8) == bordP (y.tmod 8)) = (x.tmod 8 == y.tmod 8) := by
    by_cases e : x.tmod 8 = y.tmod 8
    · rw [e]; simp
    · have : bordP (x.tmod 8) ≠ bordP (y.tmod 8) := fun h => e (by rw [← f3, ← e3, h])
      rw [beq_eq_false_iff_ne.2 this, beq_eq_false_iff_ne.2 e]
  have k4 : (keyP (ordP x) != x) = false := by rw [a2]; simp
  unfold treeT
  simp only [T.boolV, k1, k2, k3, k4, a1, e1, decide_eq_false c1, decide_eq_false d1, decide_eq_false c2, decide_eq_false d2, decide_eq_false c4, decide_eq_false d4, decide_eq_false c8, decide_eq_false d8, decide_true]
  simp [svB, boolC]
theorem vaultTurns_calls (a b : Int) (ad : Addr) (w : World) (hg : w.heap[0]? = some (.cells #[.iface 117 (.pointer (some ad))] 31 (0, 0))) :
    Calls Tryd.prog 4 #[.int .i64 a, .int .i64 b] w fun e w' => e = .returned (.bool true) ∧ Quiet w w' := by
  have hb : (lawW a b ad).bool = true := by rw [← T.bool_map, run_lawW]; exact treeT_true _ _ ad (red_range a) (red_range b)
  obtain ⟨⟨v, H'⟩, h1, h2⟩ := T.bool_spec hb
  have h3 := T.val_leaf (t := lawW a b ad) (f := fun (r : SV × Hp Empty) => hget r.2 0) (b := some (G0 ad)) (n := 6) h1 (leaves_lawW a b ad)
  have hpl : ∀ x ∈ [SV.v (.c (I a)), SV.v (.c (I b))], Plain x := fun x hx => by
    simp only [List.mem_cons, List.not_mem_nil, or_false] at hx
    rcases hx with rfl | rfl
    · exact plI a false
    · exact plI b false
  have e : lawW a b ad = lv N1 tabW 16 (.fn 4) [.v (.c (I a)), .v (.c (I b))] [some (.cells [.ifc 117 (.op 0 ad)] 31)] := by delta lawW; delta G0; exact Eq.refl _
  rw [e] at h1
  exact quietG (N := N1) rfl (fnW 16 4) (ad := ad) (args := [SV.v (.c (I a)), SV.v (.c (I b))]) hg hpl h1 h2 h3
end Go.Proofs.YtambonphnojcpaaDoor
