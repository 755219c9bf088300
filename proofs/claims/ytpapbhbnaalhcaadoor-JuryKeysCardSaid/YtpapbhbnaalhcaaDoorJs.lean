import Derived.Test.YtpapbhbnaalhcaaDoorJp
namespace Go.Proofs.YtpapbhbnaalhcaaDoor
open Go Go.Sx Go.Proofs
set_option linter.unusedVariables false
set_option linter.unusedSimpArgs false
set_option maxRecDepth 100000
def chgM (m : CreedM) (o : O) (a : An) : CreedM :=
 if a.code ≠ 1 then m
 else if o.kind = 1 \/ o.kind = 4 then ⟨m.st, m.vals ++ [⟨o.val⟩], m.pairs⟩
 else if o.kind = 2 then ⟨m.st, m.vals.take (m.vals.length - 1), m.pairs⟩
 else if o.kind = 5 then ⟨m.st, m.vals.drop 1, m.pairs⟩
 else if o.kind = 6 then ⟨m.st, m.vals, m.pairs.take (fN m.pairs o.key) ++ (⟨o.key, o.val⟩ :: m.pairs.drop (fN m.pairs o.key))⟩
 else if o.kind = 7 then ⟨m.st, m.vals, m.pairs.take (fN m.pairs o.key) ++ m.pairs.drop (fN m.pairs o.key + 1)⟩
 else m
def fullK (o : O) (a : An) : Prop := a = ⟨4, 0⟩ /\ (o.kind = 1 \/ o.kind = 4 \/ o.kind = 6)
instance (o : O) (a : An) : Decidable (fullK o a) := by unfold fullK; infer_instance
noncomputable def mayM (m : CreedM) (o : O) (a : An) : Bool × CreedM :=
 if fitsM m.st o = true then (if fullK o a then (true, m) else if ansM m o = a then (true, chgM m o a) else (false, m)) else (false, m)
theorem mayM_no {m : CreedM} {o : O} {a : An} (h : fitsM m.st o = false) : mayM m o a = (false, m) := by unfold mayM; rw [h]; rfl
theorem mayM_full {m : CreedM} {o : O} {a : An} (h : fitsM m.st o = true) (hf : fullK o a) : mayM m o a = (true, m) := by unfold mayM; rw [if_pos h, if_pos hf]
theorem mayM_ne {m : CreedM} {o : O} {a : An} (h : fitsM m.st o = true) (hf : ¬ fullK o a) (hn : ansM m o ≠ a) : mayM m o a = (false, m) := by unfold mayM; rw [if_pos h, if_neg hf, if_neg hn]
theorem mayM_yes {m : CreedM} {o : O} {a : An} (h : fitsM m.st o = true) (hf : ¬ fullK o a) (hn : ansM m o = a) : mayM m o a = (true, chgM m o a) := by unfold mayM; rw [if_pos h, if_neg hf, if_pos hn]
theorem anEq (c v : Int) (a : An) : (c == a.code && v == a.val) = decide ((⟨c, v⟩ : An) = a) := by
 cases a with
 | mk x y =>
   by_cases h : (⟨c, v⟩ : An) = ⟨x, y⟩
   ·cases h; simp
   ·rw [decide_eq_false h]
    simp only [An.mk.injEq, not_and] at h
    by_cases h1 : c = x
    ·simp [h1, h h1]
    ·simp [h1]
theorem anFull (a : An) : (a.code == 4 && a.val == 0) = decide (a = ⟨4, 0⟩) := by
 cases a with
 | mk x y =>
   by_cases h : (⟨x, y⟩ : An) = ⟨4, 0⟩
   ·cases h; simp
   ·rw [decide_eq_false h]
    simp only [An.mk.injEq, not_and] at h
    by_cases h1 : x = 4
    ·simp [h1, h h1]
    ·simp [h1]
theorem fN_le (p : List Pr) (key : Int) : fN p key <= p.length := bsI_le _ _ _ _ _ (Nat.zero_le _)
noncomputable def doM (m : CreedM) (o : O) : Option An × CreedM := if fitsM m.st o = true then (some (ansM m o), chgM m o (ansM m o)) else (none, m)
theorem doM_no {m : CreedM} {o : O} (h : fitsM m.st o = false) : doM m o = (none, m) := by unfold doM; rw [h]; rfl
theorem doM_yes {m : CreedM} {o : O} (h : fitsM m.st o = true) : doM m o = (some (ansM m o), chgM m o (ansM m o)) := by unfold doM; rw [if_pos h]
def doQ (σ : Sg) (r : Option An) (v : SV) : Prop := match r with
 | none => v = .tup [.agg [.il .i64 0, .il .i64 0], .c (.ifc 189 (.op 0 (σ 0)))]
 | some a => ∃ c0 c1, v = .tup [.agg [c0, c1], .c .inil] /\ c0.name = none /\ c1.name = none /\ ∀ ρ : Nm, c0.den ρ = .int .i64 a.code /\ c1.den ρ = .int .i64 a.val
theorem may1_val (σ : Sg) (m : CreedM) (o : O) (a : An) (hv : m.vals.length <= 100000) (hp : m.pairs.length <= 100000) : ∃ v, (may1_T σ m o a).val = some (v, [creedV (mayM m (⟨1, o.key, o.val, o.tall⟩ : O) a).2], []) /\ v = .v (.c (.bl (mayM m (⟨1, o.key, o.val, o.tall⟩ : O) a).1)) := by
 have lP : ∀ p, (F2 σ).len (AV.pairs p) = p.length := fun _ => rfl
 have lI : ∀ p, (F2 σ).len (AV.ints p) = p.length := fun _ => rfl
 have hbig : decide (m.pairs.length < 4611686018427387904) = true := decide_eq_true (by omega)
 cases hf : fitsM m.st (⟨1, o.key, o.val, o.tall⟩ : O) with
 | false =>
   rw [mayM_no hf]
   simp only [may1_T, T.val, lP, lI, true_and, and_true, decide_true, hbig, Bool.not_true, Bool.not_false, Nat.zero_add, Nat.sub_zero, List.drop_zero, Int.toNat_natCast, anEq, anFull, beq_self_eq_true, Bool.and_self, hf]
   exact ⟨_, rfl, rfl⟩
 | true =>
   have d1 : decide ((m.vals.length + 1) * (SI.bytes si39 + 1) <= lim) = true := decide_eq_true (by show (m.vals.length + 1) * (8 + 1) <= 1099511627776; omega)
   have d2 : decide (m.vals.length + 1 = (m.vals ++ [(⟨o.val⟩ : N1)]).length) = true := decide_eq_true (by simp)
   have ha : ansM m (⟨1, o.key, o.val, o.tall⟩ : O) = ⟨1, 0⟩ := by unfold ansM; simp []
   by_cases he : (⟨1, 0⟩ : An) = a
   ·subst he
    have hc : chgM m (⟨1, o.key, o.val, o.tall⟩ : O) ⟨1, 0⟩ = ⟨m.st, m.vals ++ [⟨o.val⟩], m.pairs⟩ := by simp [chgM]
    rw [mayM_yes hf (fun hh => absurd (show (1 : Int) = 4 from congrArg An.code hh.1) (by decide)) ha, hc]
    simp only [may1_T, T.val, lP, lI, true_and, and_true, decide_true, hbig, Bool.not_true, Bool.not_false, Nat.zero_add, Nat.sub_zero, List.drop_zero, Int.toNat_natCast, anEq, anFull, beq_self_eq_true, Bool.and_self, hf, d1, d2, show ((1 : Int) != 1) = false from rfl, show ((2 : Int) != 1) = true from rfl, show ((3 : Int) != 1) = true from rfl, show ((⟨1, 0⟩ : An) = ⟨4, 0⟩) = False from by simp, show ((⟨3, 0⟩ : An) = ⟨4, 0⟩) = False from by simp, decide_false]
    exact ⟨_, rfl, rfl⟩
   ·by_cases hu : a = ⟨4, 0⟩
    ·rw [mayM_full hf ⟨hu, by simp⟩]
     simp only [may1_T, T.val, lP, lI, true_and, and_true, decide_true, hbig, Bool.not_true, Bool.not_false, Nat.zero_add, Nat.sub_zero, List.drop_zero, Int.toNat_natCast, anEq, anFull, beq_self_eq_true, Bool.and_self, hf, d1, d2, decide_eq_true hu]
     exact ⟨_, rfl, rfl⟩
    ·rw [mayM_ne hf (fun hh => hu hh.1) (by rw [ha]; exact he)]
     simp only [may1_T, T.val, lP, lI, true_and, and_true, decide_true, hbig, Bool.not_true, Bool.not_false, Nat.zero_add, Nat.sub_zero, List.drop_zero, Int.toNat_natCast, anEq, anFull, beq_self_eq_true, Bool.and_self, hf, d1, d2, decide_eq_false hu, decide_eq_false he]
     exact ⟨_, rfl, rfl⟩
theorem may2_val (σ : Sg) (m : CreedM) (o : O) (a : An) (hv : m.vals.length <= 100000) (hp : m.pairs.length <= 100000) : ∃ v, (may2_T σ m o a).val = some (v, [creedV (mayM m (⟨2, o.key, o.val, o.tall⟩ : O) a).2], []) /\ v = .v (.c (.bl (mayM m (⟨2, o.key, o.val, o.tall⟩ : O) a).1)) := by
 have lP : ∀ p, (F2 σ).len (AV.pairs p) = p.length := fun _ => rfl
 have lI : ∀ p, (F2 σ).len (AV.ints p) = p.length := fun _ => rfl
 have hbig : decide (m.pairs.length < 4611686018427387904) = true := decide_eq_true (by omega)
 cases hf : fitsM m.st (⟨2, o.key, o.val, o.tall⟩ : O) with
 | false =>
   rw [mayM_no hf]
   simp only [may2_T, T.val, lP, lI, true_and, and_true, decide_true, hbig, Bool.not_true, Bool.not_false, Nat.zero_add, Nat.sub_zero, List.drop_zero, Int.toNat_natCast, anEq, anFull, beq_self_eq_true, Bool.and_self, hf]
   exact ⟨_, rfl, rfl⟩
 | true =>
   by_cases h0 : 0 < m.vals.length
   ·
    have hw : IntKind.wrap .i64 ((m.vals.length : Int) - 1) = ((m.vals.length - 1 : Nat) : Int) := by rw [wrap_in (by omega)]; omega
    have d1 : decide (0 <= ((m.vals.length - 1 : Nat) : Int) /\ ((m.vals.length - 1 : Nat) : Int) < (m.vals.length : Int)) = true := decide_eq_true (by omega)
    have d2 : decide (m.vals.length - 1 < m.vals.length) = true := decide_eq_true (by omega)
    have d3 : decide ((m.vals.length : Int) > 0) = true := decide_eq_true (by omega)
    have d4 : decide (0 <= ((m.vals.length - 1 : Nat) : Int) /\ ((m.vals.length - 1 : Nat) : Int) <= (m.vals.length : Int)) = true := decide_eq_true (by omega)
    have d5 : decide (m.vals.length - 1 = (m.vals.take (m.vals.length - 1)).length) = true := decide_eq_true (by simp)
    have d6 : decide ((0 : Int) <= 0 /\ 0 <= ((m.vals.length - 1 : Nat) : Int) /\ ((m.vals.length - 1 : Nat) : Int) <= (m.vals.length : Int)) = true := decide_eq_true (by omega)
    have ha : ansM m (⟨2, o.key, o.val, o.tall⟩ : O) = ⟨1, (m.vals.getD (m.vals.length - 1) kints.dflt).val⟩ := by unfold ansM; simp [h0]
    by_cases he : (⟨1, (m.vals.getD (m.vals.length - 1) kints.dflt).val⟩ : An) = a
    ·subst he
     have hc : chgM m (⟨2, o.key, o.val, o.tall⟩ : O) ⟨1, (m.vals.getD (m.vals.length - 1) kints.dflt).val⟩ = ⟨m.st, m.vals.take (m.vals.length - 1), m.pairs⟩ := by simp [chgM]
     rw [mayM_yes hf (fun hh => absurd (show (1 : Int) = 4 from congrArg An.code hh.1) (by decide)) ha, hc]
     simp only [may2_T, T.val, lP, lI, true_and, and_true, decide_true, hbig, Bool.not_true, Bool.not_false, Nat.zero_add, Nat.sub_zero, List.drop_zero, Int.toNat_natCast, anEq, anFull, beq_self_eq_true, Bool.and_self, hf, hw, d1, d2, d3, d4, d5, d6, show ((1 : Int) != 1) = false from rfl, show ((2 : Int) != 1) = true from rfl, show ((3 : Int) != 1) = true from rfl, show ((⟨1, 0⟩ : An) = ⟨4, 0⟩) = False from by simp, show ((⟨3, 0⟩ : An) = ⟨4, 0⟩) = False from by simp, decide_false]
     exact ⟨_, rfl, rfl⟩
    ·rw [mayM_ne hf (fun hh => by have h2 := hh.2; simp at h2) (by rw [ha]; exact he)]
     simp only [may2_T, T.val, lP, lI, true_and, and_true, decide_true, hbig, Bool.not_true, Bool.not_false, Nat.zero_add, Nat.sub_zero, List.drop_zero, Int.toNat_natCast, anEq, anFull, beq_self_eq_true, Bool.and_self, hf, hw, d1, d2, d3, d4, d5, d6, decide_eq_false he]
     exact ⟨_, rfl, rfl⟩
   ·
    have d3 : decide ((m.vals.length : Int) > 0) = false := decide_eq_false (by omega)
    have ha : ansM m (⟨2, o.key, o.val, o.tall⟩ : O) = ⟨2, 0⟩ := by unfold ansM; simp [h0]
    by_cases he : (⟨2, 0⟩ : An) = a
    ·subst he
     have hc : chgM m (⟨2, o.key, o.val, o.tall⟩ : O) ⟨2, 0⟩ = m := by simp [chgM]
     rw [mayM_yes hf (fun hh => absurd (show (2 : Int) = 4 from congrArg An.code hh.1) (by decide)) ha, hc]
     simp only [may2_T, T.val, lP, lI, true_and, and_true, decide_true, hbig, Bool.not_true, Bool.not_false, Nat.zero_add, Nat.sub_zero, List.drop_zero, Int.toNat_natCast, anEq, anFull, beq_self_eq_true, Bool.and_self, hf, d3, show ((1 : Int) != 1) = false from rfl, show ((2 : Int) != 1) = true from rfl, show ((3 : Int) != 1) = true from rfl, show ((⟨1, 0⟩ : An) = ⟨4, 0⟩) = False from by simp, show ((⟨3, 0⟩ : An) = ⟨4, 0⟩) = False from by simp, decide_false]
     exact ⟨_, rfl, rfl⟩
    ·rw [mayM_ne hf (fun hh => by have h2 := hh.2; simp at h2) (by rw [ha]; exact he)]
     simp only [may2_T, T.val, lP, lI, true_and, and_true, decide_true, hbig, Bool.not_true, Bool.not_false, Nat.zero_add, Nat.sub_zero, List.drop_zero, Int.toNat_natCast, anEq, anFull, beq_self_eq_true, Bool.and_self, hf, d3, decide_eq_false he]
     exact ⟨_, rfl, rfl⟩
theorem may3_val (σ : Sg) (m : CreedM) (o : O) (a : An) (hv : m.vals.length <= 100000) (hp : m.pairs.length <= 100000) : ∃ v, (may3_T σ m o a).val = some (v, [creedV (mayM m (⟨3, o.key, o.val, o.tall⟩ : O) a).2], []) /\ v = .v (.c (.bl (mayM m (⟨3, o.key, o.val, o.tall⟩ : O) a).1)) := by
 have lP : ∀ p, (F2 σ).len (AV.pairs p) = p.length := fun _ => rfl
 have lI : ∀ p, (F2 σ).len (AV.ints p) = p.length := fun _ => rfl
 have hbig : decide (m.pairs.length < 4611686018427387904) = true := decide_eq_true (by omega)
 cases hf : fitsM m.st (⟨3, o.key, o.val, o.tall⟩ : O) with
 | false =>
   rw [mayM_no hf]
   simp only [may3_T, T.val, lP, lI, true_and, and_true, decide_true, hbig, Bool.not_true, Bool.not_false, Nat.zero_add, Nat.sub_zero, List.drop_zero, Int.toNat_natCast, anEq, anFull, beq_self_eq_true, Bool.and_self, hf]
   exact ⟨_, rfl, rfl⟩
 | true =>
   by_cases h0 : 0 < m.vals.length
   ·
    have hw : IntKind.wrap .i64 ((m.vals.length : Int) - 1) = ((m.vals.length - 1 : Nat) : Int) := by rw [wrap_in (by omega)]; omega
    have d1 : decide (0 <= ((m.vals.length - 1 : Nat) : Int) /\ ((m.vals.length - 1 : Nat) : Int) < (m.vals.length : Int)) = true := decide_eq_true (by omega)
    have d2 : decide (m.vals.length - 1 < m.vals.length) = true := decide_eq_true (by omega)
    have d3 : decide ((m.vals.length : Int) > 0) = true := decide_eq_true (by omega)
    have ha : ansM m (⟨3, o.key, o.val, o.tall⟩ : O) = ⟨1, (m.vals.getD (m.vals.length - 1) kints.dflt).val⟩ := by unfold ansM; simp [h0]
    by_cases he : (⟨1, (m.vals.getD (m.vals.length - 1) kints.dflt).val⟩ : An) = a
    ·subst he
     have hc : chgM m (⟨3, o.key, o.val, o.tall⟩ : O) ⟨1, (m.vals.getD (m.vals.length - 1) kints.dflt).val⟩ = m := by simp [chgM]
     rw [mayM_yes hf (fun hh => absurd (show (1 : Int) = 4 from congrArg An.code hh.1) (by decide)) ha, hc]
     simp only [may3_T, T.val, lP, lI, true_and, and_true, decide_true, hbig, Bool.not_true, Bool.not_false, Nat.zero_add, Nat.sub_zero, List.drop_zero, Int.toNat_natCast, anEq, anFull, beq_self_eq_true, Bool.and_self, hf, hw, d1, d2, d3, show ((1 : Int) != 1) = false from rfl, show ((2 : Int) != 1) = true from rfl, show ((3 : Int) != 1) = true from rfl, show ((⟨1, 0⟩ : An) = ⟨4, 0⟩) = False from by simp, show ((⟨3, 0⟩ : An) = ⟨4, 0⟩) = False from by simp, decide_false]
     exact ⟨_, rfl, rfl⟩
    ·rw [mayM_ne hf (fun hh => by have h2 := hh.2; simp at h2) (by rw [ha]; exact he)]
     simp only [may3_T, T.val, lP, lI, true_and, and_true, decide_true, hbig, Bool.not_true, Bool.not_false, Nat.zero_add, Nat.sub_zero, List.drop_zero, Int.toNat_natCast, anEq, anFull, beq_self_eq_true, Bool.and_self, hf, hw, d1, d2, d3, decide_eq_false he]
     exact ⟨_, rfl, rfl⟩
   ·
    have d3 : decide ((m.vals.length : Int) > 0) = false := decide_eq_false (by omega)
    have ha : ansM m (⟨3, o.key, o.val, o.tall⟩ : O) = ⟨2, 0⟩ := by unfold ansM; simp [h0]
    by_cases he : (⟨2, 0⟩ : An) = a
    ·subst he
     have hc : chgM m (⟨3, o.key, o.val, o.tall⟩ : O) ⟨2, 0⟩ = m := by simp [chgM]
     rw [mayM_yes hf (fun hh => absurd (show (2 : Int) = 4 from congrArg An.code hh.1) (by decide)) ha, hc]
     simp only [may3_T, T.val, lP, lI, true_and, and_true, decide_true, hbig, Bool.not_true, Bool.not_false, Nat.zero_add, Nat.sub_zero, List.drop_zero, Int.toNat_natCast, anEq, anFull, beq_self_eq_true, Bool.and_self, hf, d3, show ((1 : Int) != 1) = false from rfl, show ((2 : Int) != 1) = true from rfl, show ((3 : Int) != 1) = true from rfl, show ((⟨1, 0⟩ : An) = ⟨4, 0⟩) = False from by simp, show ((⟨3, 0⟩ : An) = ⟨4, 0⟩) = False from by simp, decide_false]
     exact ⟨_, rfl, rfl⟩
    ·rw [mayM_ne hf (fun hh => by have h2 := hh.2; simp at h2) (by rw [ha]; exact he)]
     simp only [may3_T, T.val, lP, lI, true_and, and_true, decide_true, hbig, Bool.not_true, Bool.not_false, Nat.zero_add, Nat.sub_zero, List.drop_zero, Int.toNat_natCast, anEq, anFull, beq_self_eq_true, Bool.and_self, hf, d3, decide_eq_false he]
     exact ⟨_, rfl, rfl⟩
theorem may4_val (σ : Sg) (m : CreedM) (o : O) (a : An) (hv : m.vals.length <= 100000) (hp : m.pairs.length <= 100000) : ∃ v, (may4_T σ m o a).val = some (v, [creedV (mayM m (⟨4, o.key, o.val, o.tall⟩ : O) a).2], []) /\ v = .v (.c (.bl (mayM m (⟨4, o.key, o.val, o.tall⟩ : O) a).1)) := by
 have lP : ∀ p, (F2 σ).len (AV.pairs p) = p.length := fun _ => rfl
 have lI : ∀ p, (F2 σ).len (AV.ints p) = p.length := fun _ => rfl
 have hbig : decide (m.pairs.length < 4611686018427387904) = true := decide_eq_true (by omega)
 cases hf : fitsM m.st (⟨4, o.key, o.val, o.tall⟩ : O) with
 | false =>
   rw [mayM_no hf]
   simp only [may4_T, T.val, lP, lI, true_and, and_true, decide_true, hbig, Bool.not_true, Bool.not_false, Nat.zero_add, Nat.sub_zero, List.drop_zero, Int.toNat_natCast, anEq, anFull, beq_self_eq_true, Bool.and_self, hf]
   exact ⟨_, rfl, rfl⟩
 | true =>
   have d1 : decide ((m.vals.length + 1) * (SI.bytes si39 + 1) <= lim) = true := decide_eq_true (by show (m.vals.length + 1) * (8 + 1) <= 1099511627776; omega)
   have d2 : decide (m.vals.length + 1 = (m.vals ++ [(⟨o.val⟩ : N1)]).length) = true := decide_eq_true (by simp)
   have ha : ansM m (⟨4, o.key, o.val, o.tall⟩ : O) = ⟨1, 0⟩ := by unfold ansM; simp []
   by_cases he : (⟨1, 0⟩ : An) = a
   ·subst he
    have hc : chgM m (⟨4, o.key, o.val, o.tall⟩ : O) ⟨1, 0⟩ = ⟨m.st, m.vals ++ [⟨o.val⟩], m.pairs⟩ := by simp [chgM]
    rw [mayM_yes hf (fun hh => absurd (show (1 : Int) = 4 from congrArg An.code hh.1) (by decide)) ha, hc]
    simp only [may4_T, T.val, lP, lI, true_and, and_true, decide_true, hbig, Bool.not_true, Bool.not_false, Nat.zero_add, Nat.sub_zero, List.drop_zero, Int.toNat_natCast, anEq, anFull, beq_self_eq_true, Bool.and_self, hf, d1, d2, show ((1 : Int) != 1) = false from rfl, show ((2 : Int) != 1) = true from rfl, show ((3 : Int) != 1) = true from rfl, show ((⟨1, 0⟩ : An) = ⟨4, 0⟩) = False from by simp, show ((⟨3, 0⟩ : An) = ⟨4, 0⟩) = False from by simp, decide_false]
    exact ⟨_, rfl, rfl⟩
   ·by_cases hu : a = ⟨4, 0⟩
    ·rw [mayM_full hf ⟨hu, by simp⟩]
     simp only [may4_T, T.val, lP, lI, true_and, and_true, decide_true, hbig, Bool.not_true, Bool.not_false, Nat.zero_add, Nat.sub_zero, List.drop_zero, Int.toNat_natCast, anEq, anFull, beq_self_eq_true, Bool.and_self, hf, d1, d2, decide_eq_true hu]
     exact ⟨_, rfl, rfl⟩
    ·rw [mayM_ne hf (fun hh => hu hh.1) (by rw [ha]; exact he)]
     simp only [may4_T, T.val, lP, lI, true_and, and_true, decide_true, hbig, Bool.not_true, Bool.not_false, Nat.zero_add, Nat.sub_zero, List.drop_zero, Int.toNat_natCast, anEq, anFull, beq_self_eq_true, Bool.and_self, hf, d1, d2, decide_eq_false hu, decide_eq_false he]
     exact ⟨_, rfl, rfl⟩
theorem may5_val (σ : Sg) (m : CreedM) (o : O) (a : An) (hv : m.vals.length <= 100000) (hp : m.pairs.length <= 100000) : ∃ v, (may5_T σ m o a).val = some (v, [creedV (mayM m (⟨5, o.key, o.val, o.tall⟩ : O) a).2], []) /\ v = .v (.c (.bl (mayM m (⟨5, o.key, o.val, o.tall⟩ : O) a).1)) := by
 have lP : ∀ p, (F2 σ).len (AV.pairs p) = p.length := fun _ => rfl
 have lI : ∀ p, (F2 σ).len (AV.ints p) = p.length := fun _ => rfl
 have hbig : decide (m.pairs.length < 4611686018427387904) = true := decide_eq_true (by omega)
 cases hf : fitsM m.st (⟨5, o.key, o.val, o.tall⟩ : O) with
 | false =>
   rw [mayM_no hf]
   simp only [may5_T, T.val, lP, lI, true_and, and_true, decide_true, hbig, Bool.not_true, Bool.not_false, Nat.zero_add, Nat.sub_zero, List.drop_zero, Int.toNat_natCast, anEq, anFull, beq_self_eq_true, Bool.and_self, hf]
   exact ⟨_, rfl, rfl⟩
 | true =>
   by_cases h0 : 0 < m.vals.length
   ·
    have d3 : decide ((m.vals.length : Int) > 0) = true := decide_eq_true (by omega)
    have d4 : decide ((0 : Int) <= 0 /\ (0 : Int) < (m.vals.length : Int)) = true := decide_eq_true (by omega)
    have d5 : decide (0 < m.vals.length) = true := decide_eq_true h0
    have d6 : decide ((0 : Int) <= 1 /\ (1 : Int) <= (m.vals.length : Int) /\ (m.vals.length : Int) <= (m.vals.length : Int)) = true := decide_eq_true (by omega)
    have d7 : decide (m.vals.length - 1 = (m.vals.drop 1).length) = true := decide_eq_true (by simp)
    have d8 : m.vals.take m.vals.length = m.vals := List.take_length
    have d9 : decide ((1 : Nat) <= m.vals.length) = true := decide_eq_true h0
    have ha : ansM m (⟨5, o.key, o.val, o.tall⟩ : O) = ⟨1, (m.vals.getD 0 kints.dflt).val⟩ := by unfold ansM; simp [h0]
    by_cases he : (⟨1, (m.vals.getD 0 kints.dflt).val⟩ : An) = a
    ·subst he
     have hc : chgM m (⟨5, o.key, o.val, o.tall⟩ : O) ⟨1, (m.vals.getD 0 kints.dflt).val⟩ = ⟨m.st, m.vals.drop 1, m.pairs⟩ := by simp [chgM]
     rw [mayM_yes hf (fun hh => absurd (show (1 : Int) = 4 from congrArg An.code hh.1) (by decide)) ha, hc]
     simp only [may5_T, T.val, lP, lI, true_and, and_true, decide_true, hbig, Bool.not_true, Bool.not_false, Nat.zero_add, Nat.sub_zero, List.drop_zero, Int.toNat_natCast, anEq, anFull, beq_self_eq_true, Bool.and_self, hf, d3, d4, d5, d6, d7, d8, d9, show ((1 : Int) != 1) = false from rfl, show ((2 : Int) != 1) = true from rfl, show ((3 : Int) != 1) = true from rfl, show ((⟨1, 0⟩ : An) = ⟨4, 0⟩) = False from by simp, show ((⟨3, 0⟩ : An) = ⟨4, 0⟩) = False from by simp, decide_false]
     exact ⟨_, rfl, rfl⟩
    ·rw [mayM_ne hf (fun hh => by have h2 := hh.2; simp at h2) (by rw [ha]; exact he)]
     simp only [may5_T, T.val, lP, lI, true_and, and_true, decide_true, hbig, Bool.not_true, Bool.not_false, Nat.zero_add, Nat.sub_zero, List.drop_zero, Int.toNat_natCast, anEq, anFull, beq_self_eq_true, Bool.and_self, hf, d3, d4, d5, d6, d7, d8, d9, decide_eq_false he]
     exact ⟨_, rfl, rfl⟩
   ·
    have d3 : decide ((m.vals.length : Int) > 0) = false := decide_eq_false (by omega)
    have ha : ansM m (⟨5, o.key, o.val, o.tall⟩ : O) = ⟨2, 0⟩ := by unfold ansM; simp [h0]
    by_cases he : (⟨2, 0⟩ : An) = a
    ·subst he
     have hc : chgM m (⟨5, o.key, o.val, o.tall⟩ : O) ⟨2, 0⟩ = m := by simp [chgM]
     rw [mayM_yes hf (fun hh => absurd (show (2 : Int) = 4 from congrArg An.code hh.1) (by decide)) ha, hc]
     simp only [may5_T, T.val, lP, lI, true_and, and_true, decide_true, hbig, Bool.not_true, Bool.not_false, Nat.zero_add, Nat.sub_zero, List.drop_zero, Int.toNat_natCast, anEq, anFull, beq_self_eq_true, Bool.and_self, hf, d3, show ((1 : Int) != 1) = false from rfl, show ((2 : Int) != 1) = true from rfl, show ((3 : Int) != 1) = true from rfl, show ((⟨1, 0⟩ : An) = ⟨4, 0⟩) = False from by simp, show ((⟨3, 0⟩ : An) = ⟨4, 0⟩) = False from by simp, decide_false]
     exact ⟨_, rfl, rfl⟩
    ·rw [mayM_ne hf (fun hh => by have h2 := hh.2; simp at h2) (by rw [ha]; exact he)]
     simp only [may5_T, T.val, lP, lI, true_and, and_true, decide_true, hbig, Bool.not_true, Bool.not_false, Nat.zero_add, Nat.sub_zero, List.drop_zero, Int.toNat_natCast, anEq, anFull, beq_self_eq_true, Bool.and_self, hf, d3, decide_eq_false he]
     exact ⟨_, rfl, rfl⟩
theorem may6_val (σ : Sg) (m : CreedM) (o : O) (a : An) (hv : m.vals.length <= 100000) (hp : m.pairs.length <= 100000) : ∃ v, (may6_T σ m o a).val = some (v, [creedV (mayM m (⟨6, o.key, o.val, o.tall⟩ : O) a).2], []) /\ v = .v (.c (.bl (mayM m (⟨6, o.key, o.val, o.tall⟩ : O) a).1)) := by
 have lP : ∀ p, (F2 σ).len (AV.pairs p) = p.length := fun _ => rfl
 have lI : ∀ p, (F2 σ).len (AV.ints p) = p.length := fun _ => rfl
 have hbig : decide (m.pairs.length < 4611686018427387904) = true := decide_eq_true (by omega)
 cases hf : fitsM m.st (⟨6, o.key, o.val, o.tall⟩ : O) with
 | false =>
   rw [mayM_no hf]
   simp only [may6_T, T.val, lP, lI, true_and, and_true, decide_true, hbig, Bool.not_true, Bool.not_false, Nat.zero_add, Nat.sub_zero, List.drop_zero, Int.toNat_natCast, anEq, anFull, beq_self_eq_true, Bool.and_self, hf]
   exact ⟨_, rfl, rfl⟩
 | true =>
   cases hb : fB m.pairs o.key with
   | true =>
     have hl := fN_le m.pairs o.key
     have ha : ansM m (⟨6, o.key, o.val, o.tall⟩ : O) = ⟨3, 0⟩ := by unfold ansM; simp [hb]
     by_cases he : (⟨3, 0⟩ : An) = a
     ·subst he
      have hc : chgM m (⟨6, o.key, o.val, o.tall⟩ : O) ⟨3, 0⟩ = m := by simp [chgM]
      rw [mayM_yes hf (fun hh => absurd (show (3 : Int) = 4 from congrArg An.code hh.1) (by decide)) ha, hc]
      simp only [may6_T, T.val, lP, lI, true_and, and_true, decide_true, hbig, Bool.not_true, Bool.not_false, Nat.zero_add, Nat.sub_zero, List.drop_zero, Int.toNat_natCast, anEq, anFull, beq_self_eq_true, Bool.and_self, hf, hb, show ((1 : Int) != 1) = false from rfl, show ((2 : Int) != 1) = true from rfl, show ((3 : Int) != 1) = true from rfl, show ((⟨1, 0⟩ : An) = ⟨4, 0⟩) = False from by simp, show ((⟨3, 0⟩ : An) = ⟨4, 0⟩) = False from by simp, decide_false]
      exact ⟨_, rfl, rfl⟩
     ·by_cases hu : a = ⟨4, 0⟩
      ·rw [mayM_full hf ⟨hu, by simp⟩]
       simp only [may6_T, T.val, lP, lI, true_and, and_true, decide_true, hbig, Bool.not_true, Bool.not_false, Nat.zero_add, Nat.sub_zero, List.drop_zero, Int.toNat_natCast, anEq, anFull, beq_self_eq_true, Bool.and_self, hf, hb, decide_eq_true hu]
       exact ⟨_, rfl, rfl⟩
      ·rw [mayM_ne hf (fun hh => hu hh.1) (by rw [ha]; exact he)]
       simp only [may6_T, T.val, lP, lI, true_and, and_true, decide_true, hbig, Bool.not_true, Bool.not_false, Nat.zero_add, Nat.sub_zero, List.drop_zero, Int.toNat_natCast, anEq, anFull, beq_self_eq_true, Bool.and_self, hf, hb, decide_eq_false hu, decide_eq_false he]
       exact ⟨_, rfl, rfl⟩
   | false =>
     have hl := fN_le m.pairs o.key
     have d1 : decide (m.pairs.length <= 100000 /\ 0 <= ((fN m.pairs o.key : Nat) : Int) /\ ((fN m.pairs o.key : Nat) : Int) <= (m.pairs.length : Int)) = true := decide_eq_true (by omega)
     have d2 : decide (m.pairs.length + 1 = (m.pairs.take (fN m.pairs o.key) ++ ((⟨o.key, o.val⟩ : Pr) :: m.pairs.drop (fN m.pairs o.key))).length) = true := decide_eq_true (by simp; omega)
     have ha : ansM m (⟨6, o.key, o.val, o.tall⟩ : O) = ⟨1, 0⟩ := by unfold ansM; simp [hb]
     by_cases he : (⟨1, 0⟩ : An) = a
     ·subst he
      have hc : chgM m (⟨6, o.key, o.val, o.tall⟩ : O) ⟨1, 0⟩ = ⟨m.st, m.vals, m.pairs.take (fN m.pairs o.key) ++ (⟨o.key, o.val⟩ :: m.pairs.drop (fN m.pairs o.key))⟩ := by simp [chgM]
      rw [mayM_yes hf (fun hh => absurd (show (1 : Int) = 4 from congrArg An.code hh.1) (by decide)) ha, hc]
      simp only [may6_T, T.val, lP, lI, true_and, and_true, decide_true, hbig, Bool.not_true, Bool.not_false, Nat.zero_add, Nat.sub_zero, List.drop_zero, Int.toNat_natCast, anEq, anFull, beq_self_eq_true, Bool.and_self, hf, hb, d1, d2, show ((1 : Int) != 1) = false from rfl, show ((2 : Int) != 1) = true from rfl, show ((3 : Int) != 1) = true from rfl, show ((⟨1, 0⟩ : An) = ⟨4, 0⟩) = False from by simp, show ((⟨3, 0⟩ : An) = ⟨4, 0⟩) = False from by simp, decide_false]
      exact ⟨_, rfl, rfl⟩
     ·by_cases hu : a = ⟨4, 0⟩
      ·rw [mayM_full hf ⟨hu, by simp⟩]
       simp only [may6_T, T.val, lP, lI, true_and, and_true, decide_true, hbig, Bool.not_true, Bool.not_false, Nat.zero_add, Nat.sub_zero, List.drop_zero, Int.toNat_natCast, anEq, anFull, beq_self_eq_true, Bool.and_self, hf, hb, d1, d2, decide_eq_true hu]
       exact ⟨_, rfl, rfl⟩
      ·rw [mayM_ne hf (fun hh => hu hh.1) (by rw [ha]; exact he)]
       simp only [may6_T, T.val, lP, lI, true_and, and_true, decide_true, hbig, Bool.not_true, Bool.not_false, Nat.zero_add, Nat.sub_zero, List.drop_zero, Int.toNat_natCast, anEq, anFull, beq_self_eq_true, Bool.and_self, hf, hb, d1, d2, decide_eq_false hu, decide_eq_false he]
       exact ⟨_, rfl, rfl⟩
theorem may7_val (σ : Sg) (m : CreedM) (o : O) (a : An) (hv : m.vals.length <= 100000) (hp : m.pairs.length <= 100000) : ∃ v, (may7_T σ m o a).val = some (v, [creedV (mayM m (⟨7, o.key, o.val, o.tall⟩ : O) a).2], []) /\ v = .v (.c (.bl (mayM m (⟨7, o.key, o.val, o.tall⟩ : O) a).1)) := by
 have lP : ∀ p, (F2 σ).len (AV.pairs p) = p.length := fun _ => rfl
 have lI : ∀ p, (F2 σ).len (AV.ints p) = p.length := fun _ => rfl
 have hbig : decide (m.pairs.length < 4611686018427387904) = true := decide_eq_true (by omega)
 cases hf : fitsM m.st (⟨7, o.key, o.val, o.tall⟩ : O) with
 | false =>
   rw [mayM_no hf]
   simp only [may7_T, T.val, lP, lI, true_and, and_true, decide_true, hbig, Bool.not_true, Bool.not_false, Nat.zero_add, Nat.sub_zero, List.drop_zero, Int.toNat_natCast, anEq, anFull, beq_self_eq_true, Bool.and_self, hf]
   exact ⟨_, rfl, rfl⟩
 | true =>
   cases hb : fB m.pairs o.key with
   | true =>
     have hl := fB_lt hb
     have d1 : decide (0 <= ((fN m.pairs o.key : Nat) : Int) /\ ((fN m.pairs o.key : Nat) : Int) < (m.pairs.length : Int)) = true := decide_eq_true (by omega)
     have d2 : decide (fN m.pairs o.key < m.pairs.length) = true := decide_eq_true hl
     have hw : IntKind.wrap .i64 (((fN m.pairs o.key : Nat) : Int) + 1) = ((fN m.pairs o.key : Nat) : Int) + 1 := wrap_in (by omega)
     have d3 : decide (m.pairs.length <= 100000 /\ 0 <= ((fN m.pairs o.key : Nat) : Int) /\ ((fN m.pairs o.key : Nat) : Int) < (m.pairs.length : Int)) = true := decide_eq_true (by omega)
     have d4 : decide (m.pairs.length - 1 = (m.pairs.take (fN m.pairs o.key) ++ m.pairs.drop (fN m.pairs o.key + 1)).length) = true := decide_eq_true (by simp; omega)
     have ha : ansM m (⟨7, o.key, o.val, o.tall⟩ : O) = ⟨1, (m.pairs.getD (fN m.pairs o.key) kpairs.dflt).val⟩ := by unfold ansM; simp [hb]
     by_cases he : (⟨1, (m.pairs.getD (fN m.pairs o.key) kpairs.dflt).val⟩ : An) = a
     ·subst he
      have hc : chgM m (⟨7, o.key, o.val, o.tall⟩ : O) ⟨1, (m.pairs.getD (fN m.pairs o.key) kpairs.dflt).val⟩ = ⟨m.st, m.vals, m.pairs.take (fN m.pairs o.key) ++ m.pairs.drop (fN m.pairs o.key + 1)⟩ := by simp [chgM]
      rw [mayM_yes hf (fun hh => absurd (show (1 : Int) = 4 from congrArg An.code hh.1) (by decide)) ha, hc]
      simp only [may7_T, T.val, lP, lI, true_and, and_true, decide_true, hbig, Bool.not_true, Bool.not_false, Nat.zero_add, Nat.sub_zero, List.drop_zero, Int.toNat_natCast, anEq, anFull, beq_self_eq_true, Bool.and_self, hf, hb, d1, d2, hw, d3, d4, show ((1 : Int) != 1) = false from rfl, show ((2 : Int) != 1) = true from rfl, show ((3 : Int) != 1) = true from rfl, show ((⟨1, 0⟩ : An) = ⟨4, 0⟩) = False from by simp, show ((⟨3, 0⟩ : An) = ⟨4, 0⟩) = False from by simp, decide_false]
      exact ⟨_, rfl, rfl⟩
     ·rw [mayM_ne hf (fun hh => by have h2 := hh.2; simp at h2) (by rw [ha]; exact he)]
      simp only [may7_T, T.val, lP, lI, true_and, and_true, decide_true, hbig, Bool.not_true, Bool.not_false, Nat.zero_add, Nat.sub_zero, List.drop_zero, Int.toNat_natCast, anEq, anFull, beq_self_eq_true, Bool.and_self, hf, hb, d1, d2, hw, d3, d4, decide_eq_false he]
      exact ⟨_, rfl, rfl⟩
   | false =>
     have hl := fN_le m.pairs o.key
     have ha : ansM m (⟨7, o.key, o.val, o.tall⟩ : O) = ⟨2, 0⟩ := by unfold ansM; simp [hb]
     by_cases he : (⟨2, 0⟩ : An) = a
     ·subst he
      have hc : chgM m (⟨7, o.key, o.val, o.tall⟩ : O) ⟨2, 0⟩ = m := by simp [chgM]
      rw [mayM_yes hf (fun hh => absurd (show (2 : Int) = 4 from congrArg An.code hh.1) (by decide)) ha, hc]
      simp only [may7_T, T.val, lP, lI, true_and, and_true, decide_true, hbig, Bool.not_true, Bool.not_false, Nat.zero_add, Nat.sub_zero, List.drop_zero, Int.toNat_natCast, anEq, anFull, beq_self_eq_true, Bool.and_self, hf, hb, show ((1 : Int) != 1) = false from rfl, show ((2 : Int) != 1) = true from rfl, show ((3 : Int) != 1) = true from rfl, show ((⟨1, 0⟩ : An) = ⟨4, 0⟩) = False from by simp, show ((⟨3, 0⟩ : An) = ⟨4, 0⟩) = False from by simp, decide_false]
      exact ⟨_, rfl, rfl⟩
     ·rw [mayM_ne hf (fun hh => by have h2 := hh.2; simp at h2) (by rw [ha]; exact he)]
      simp only [may7_T, T.val, lP, lI, true_and, and_true, decide_true, hbig, Bool.not_true, Bool.not_false, Nat.zero_add, Nat.sub_zero, List.drop_zero, Int.toNat_natCast, anEq, anFull, beq_self_eq_true, Bool.and_self, hf, hb, decide_eq_false he]
      exact ⟨_, rfl, rfl⟩
theorem may8_val (σ : Sg) (m : CreedM) (o : O) (a : An) (hv : m.vals.length <= 100000) (hp : m.pairs.length <= 100000) : ∃ v, (may8_T σ m o a).val = some (v, [creedV (mayM m (⟨8, o.key, o.val, o.tall⟩ : O) a).2], []) /\ v = .v (.c (.bl (mayM m (⟨8, o.key, o.val, o.tall⟩ : O) a).1)) := by
 have lP : ∀ p, (F2 σ).len (AV.pairs p) = p.length := fun _ => rfl
 have lI : ∀ p, (F2 σ).len (AV.ints p) = p.length := fun _ => rfl
 have hbig : decide (m.pairs.length < 4611686018427387904) = true := decide_eq_true (by omega)
 cases hf : fitsM m.st (⟨8, o.key, o.val, o.tall⟩ : O) with
 | false =>
   rw [mayM_no hf]
   simp only [may8_T, T.val, lP, lI, true_and, and_true, decide_true, hbig, Bool.not_true, Bool.not_false, Nat.zero_add, Nat.sub_zero, List.drop_zero, Int.toNat_natCast, anEq, anFull, beq_self_eq_true, Bool.and_self, hf]
   exact ⟨_, rfl, rfl⟩
 | true =>
   cases hb : fB m.pairs o.key with
   | true =>
     have hl := fB_lt hb
     have d1 : decide (0 <= ((fN m.pairs o.key : Nat) : Int) /\ ((fN m.pairs o.key : Nat) : Int) < (m.pairs.length : Int)) = true := decide_eq_true (by omega)
     have d2 : decide (fN m.pairs o.key < m.pairs.length) = true := decide_eq_true hl
     have ha : ansM m (⟨8, o.key, o.val, o.tall⟩ : O) = ⟨1, (m.pairs.getD (fN m.pairs o.key) kpairs.dflt).val⟩ := by unfold ansM; simp [hb]
     by_cases he : (⟨1, (m.pairs.getD (fN m.pairs o.key) kpairs.dflt).val⟩ : An) = a
     ·subst he
      have hc : chgM m (⟨8, o.key, o.val, o.tall⟩ : O) ⟨1, (m.pairs.getD (fN m.pairs o.key) kpairs.dflt).val⟩ = m := by simp [chgM]
      rw [mayM_yes hf (fun hh => absurd (show (1 : Int) = 4 from congrArg An.code hh.1) (by decide)) ha, hc]
      simp only [may8_T, T.val, lP, lI, true_and, and_true, decide_true, hbig, Bool.not_true, Bool.not_false, Nat.zero_add, Nat.sub_zero, List.drop_zero, Int.toNat_natCast, anEq, anFull, beq_self_eq_true, Bool.and_self, hf, hb, d1, d2, show ((1 : Int) != 1) = false from rfl, show ((2 : Int) != 1) = true from rfl, show ((3 : Int) != 1) = true from rfl, show ((⟨1, 0⟩ : An) = ⟨4, 0⟩) = False from by simp, show ((⟨3, 0⟩ : An) = ⟨4, 0⟩) = False from by simp, decide_false]
      exact ⟨_, rfl, rfl⟩
     ·rw [mayM_ne hf (fun hh => by have h2 := hh.2; simp at h2) (by rw [ha]; exact he)]
      simp only [may8_T, T.val, lP, lI, true_and, and_true, decide_true, hbig, Bool.not_true, Bool.not_false, Nat.zero_add, Nat.sub_zero, List.drop_zero, Int.toNat_natCast, anEq, anFull, beq_self_eq_true, Bool.and_self, hf, hb, d1, d2, decide_eq_false he]
      exact ⟨_, rfl, rfl⟩
   | false =>
     have hl := fN_le m.pairs o.key
     have ha : ansM m (⟨8, o.key, o.val, o.tall⟩ : O) = ⟨2, 0⟩ := by unfold ansM; simp [hb]
     by_cases he : (⟨2, 0⟩ : An) = a
     ·subst he
      have hc : chgM m (⟨8, o.key, o.val, o.tall⟩ : O) ⟨2, 0⟩ = m := by simp [chgM]
      rw [mayM_yes hf (fun hh => absurd (show (2 : Int) = 4 from congrArg An.code hh.1) (by decide)) ha, hc]
      simp only [may8_T, T.val, lP, lI, true_and, and_true, decide_true, hbig, Bool.not_true, Bool.not_false, Nat.zero_add, Nat.sub_zero, List.drop_zero, Int.toNat_natCast, anEq, anFull, beq_self_eq_true, Bool.and_self, hf, hb, show ((1 : Int) != 1) = false from rfl, show ((2 : Int) != 1) = true from rfl, show ((3 : Int) != 1) = true from rfl, show ((⟨1, 0⟩ : An) = ⟨4, 0⟩) = False from by simp, show ((⟨3, 0⟩ : An) = ⟨4, 0⟩) = False from by simp, decide_false]
      exact ⟨_, rfl, rfl⟩
     ·rw [mayM_ne hf (fun hh => by have h2 := hh.2; simp at h2) (by rw [ha]; exact he)]
      simp only [may8_T, T.val, lP, lI, true_and, and_true, decide_true, hbig, Bool.not_true, Bool.not_false, Nat.zero_add, Nat.sub_zero, List.drop_zero, Int.toNat_natCast, anEq, anFull, beq_self_eq_true, Bool.and_self, hf, hb, decide_eq_false he]
      exact ⟨_, rfl, rfl⟩
theorem mayX_val (σ : Sg) (m : CreedM) (o : O) (h : ∀ c ∈ [(1 : Int), 2, 3, 4, 5, 6, 7, 8], (o.kind == c) = false) (a : An) (hv : m.vals.length <= 100000) (hp : m.pairs.length <= 100000) : ∃ v, (mayX_T σ m o h a).val = some (v, [creedV (mayM m (⟨o.kind, o.key, o.val, o.tall⟩ : O) a).2], []) /\ v = .v (.c (.bl (mayM m (⟨o.kind, o.key, o.val, o.tall⟩ : O) a).1)) := by
 have lP : ∀ p, (F2 σ).len (AV.pairs p) = p.length := fun _ => rfl
 have lI : ∀ p, (F2 σ).len (AV.ints p) = p.length := fun _ => rfl
 have hbig : decide (m.pairs.length < 4611686018427387904) = true := decide_eq_true (by omega)
 have n1 : o.kind ≠ 1 /\ o.kind ≠ 2 /\ o.kind ≠ 3 /\ o.kind ≠ 4 /\ o.kind ≠ 5 /\ o.kind ≠ 6 /\ o.kind ≠ 7 /\ o.kind ≠ 8 := by
  refine ⟨?_, ?_, ?_, ?_, ?_, ?_, ?_, ?_⟩ <;> intro e <;> (first | (have := h 1 (by simp); rw [e] at this; cases this; done) | (have := h 2 (by simp); rw [e] at this; cases this; done) | (have := h 3 (by simp); rw [e] at this; cases this; done) | (have := h 4 (by simp); rw [e] at this; cases this; done) | (have := h 5 (by simp); rw [e] at this; cases this; done) | (have := h 6 (by simp); rw [e] at this; cases this; done) | (have := h 7 (by simp); rw [e] at this; cases this; done) | (have := h 8 (by simp); rw [e] at this; cases this; done))
 obtain ⟨q1, q2, q3, q4, q5, q6, q7, q8⟩ := n1
 cases hf : fitsM m.st (⟨o.kind, o.key, o.val, o.tall⟩ : O) with
 | false =>
   rw [mayM_no hf]
   simp only [mayX_T, T.val, lP, lI, true_and, and_true, decide_true, hbig, Bool.not_true, Bool.not_false, Nat.zero_add, Nat.sub_zero, List.drop_zero, Int.toNat_natCast, anEq, anFull, beq_self_eq_true, Bool.and_self, hf]
   exact ⟨_, rfl, rfl⟩
 | true =>
   have ha : ansM m (⟨o.kind, o.key, o.val, o.tall⟩ : O) = ⟨1, 0⟩ := by unfold ansM; simp [q1, q2, q3, q4, q5, q6, q7, q8]
   by_cases he : (⟨1, 0⟩ : An) = a
   ·subst he
    have hc : chgM m (⟨o.kind, o.key, o.val, o.tall⟩ : O) ⟨1, 0⟩ = m := by simp [chgM, q1, q2, q3, q4, q5, q6, q7, q8]
    rw [mayM_yes hf (fun hh => absurd (show (1 : Int) = 4 from congrArg An.code hh.1) (by decide)) ha, hc]
    simp only [mayX_T, T.val, lP, lI, true_and, and_true, decide_true, hbig, Bool.not_true, Bool.not_false, Nat.zero_add, Nat.sub_zero, List.drop_zero, Int.toNat_natCast, anEq, anFull, beq_self_eq_true, Bool.and_self, hf, show ((1 : Int) != 1) = false from rfl, show ((2 : Int) != 1) = true from rfl, show ((3 : Int) != 1) = true from rfl, show ((⟨1, 0⟩ : An) = ⟨4, 0⟩) = False from by simp, show ((⟨3, 0⟩ : An) = ⟨4, 0⟩) = False from by simp, decide_false]
    exact ⟨_, rfl, rfl⟩
   ·rw [mayM_ne hf (fun hh => by rcases hh.2 with h2 | h2 | h2 <;> contradiction) (by rw [ha]; exact he)]
    simp only [mayX_T, T.val, lP, lI, true_and, and_true, decide_true, hbig, Bool.not_true, Bool.not_false, Nat.zero_add, Nat.sub_zero, List.drop_zero, Int.toNat_natCast, anEq, anFull, beq_self_eq_true, Bool.and_self, hf, decide_eq_false he]
    exact ⟨_, rfl, rfl⟩
theorem do1_val (σ : Sg) (m : CreedM) (o : O) (hv : m.vals.length <= 100000) (hp : m.pairs.length <= 100000) : ∃ v, (do1_T σ m o).val = some (v, [creedV (doM m (⟨1, o.key, o.val, o.tall⟩ : O)).2], []) /\ doQ σ (doM m (⟨1, o.key, o.val, o.tall⟩ : O)).1 v := by
 have lP : ∀ p, (F2 σ).len (AV.pairs p) = p.length := fun _ => rfl
 have lI : ∀ p, (F2 σ).len (AV.ints p) = p.length := fun _ => rfl
 have hbig : decide (m.pairs.length < 4611686018427387904) = true := decide_eq_true (by omega)
 cases hf : fitsM m.st (⟨1, o.key, o.val, o.tall⟩ : O) with
 | false =>
   rw [doM_no hf]
   simp only [do1_T, T.val, lP, lI, true_and, and_true, decide_true, hbig, Bool.not_true, Bool.not_false, Nat.zero_add, Nat.sub_zero, List.drop_zero, Int.toNat_natCast, anEq, anFull, beq_self_eq_true, Bool.and_self, hf]
   exact ⟨_, rfl, rfl⟩
 | true =>
   have d1 : decide ((m.vals.length + 1) * (SI.bytes si39 + 1) <= lim) = true := decide_eq_true (by show (m.vals.length + 1) * (8 + 1) <= 1099511627776; omega)
   have d2 : decide (m.vals.length + 1 = (m.vals ++ [(⟨o.val⟩ : N1)]).length) = true := decide_eq_true (by simp)
   have ha : ansM m (⟨1, o.key, o.val, o.tall⟩ : O) = ⟨1, 0⟩ := by unfold ansM; simp []
   have hc : chgM m (⟨1, o.key, o.val, o.tall⟩ : O) ⟨1, 0⟩ = ⟨m.st, m.vals ++ [⟨o.val⟩], m.pairs⟩ := by simp [chgM]
   rw [doM_yes hf, ha, hc]
   simp only [do1_T, T.val, lP, lI, true_and, and_true, decide_true, hbig, Bool.not_true, Bool.not_false, Nat.zero_add, Nat.sub_zero, List.drop_zero, Int.toNat_natCast, anEq, anFull, beq_self_eq_true, Bool.and_self, hf, d1, d2]
   exact ⟨_, rfl, _, _, rfl, rfl, rfl, fun ρ => ⟨rfl, rfl⟩⟩
theorem do2_val (σ : Sg) (m : CreedM) (o : O) (hv : m.vals.length <= 100000) (hp : m.pairs.length <= 100000) : ∃ v, (do2_T σ m o).val = some (v, [creedV (doM m (⟨2, o.key, o.val, o.tall⟩ : O)).2], []) /\ doQ σ (doM m (⟨2, o.key, o.val, o.tall⟩ : O)).1 v := by
 have lP : ∀ p, (F2 σ).len (AV.pairs p) = p.length := fun _ => rfl
 have lI : ∀ p, (F2 σ).len (AV.ints p) = p.length := fun _ => rfl
 have hbig : decide (m.pairs.length < 4611686018427387904) = true := decide_eq_true (by omega)
 cases hf : fitsM m.st (⟨2, o.key, o.val, o.tall⟩ : O) with
 | false =>
   rw [doM_no hf]
   simp only [do2_T, T.val, lP, lI, true_and, and_true, decide_true, hbig, Bool.not_true, Bool.not_false, Nat.zero_add, Nat.sub_zero, List.drop_zero, Int.toNat_natCast, anEq, anFull, beq_self_eq_true, Bool.and_self, hf]
   exact ⟨_, rfl, rfl⟩
 | true =>
   by_cases h0 : 0 < m.vals.length
   ·
    have hw : IntKind.wrap .i64 ((m.vals.length : Int) - 1) = ((m.vals.length - 1 : Nat) : Int) := by rw [wrap_in (by omega)]; omega
    have d1 : decide (0 <= ((m.vals.length - 1 : Nat) : Int) /\ ((m.vals.length - 1 : Nat) : Int) < (m.vals.length : Int)) = true := decide_eq_true (by omega)
    have d2 : decide (m.vals.length - 1 < m.vals.length) = true := decide_eq_true (by omega)
    have d3 : decide ((m.vals.length : Int) > 0) = true := decide_eq_true (by omega)
    have d4 : decide (0 <= ((m.vals.length - 1 : Nat) : Int) /\ ((m.vals.length - 1 : Nat) : Int) <= (m.vals.length : Int)) = true := decide_eq_true (by omega)
    have d5 : decide (m.vals.length - 1 = (m.vals.take (m.vals.length - 1)).length) = true := decide_eq_true (by simp)
    have d6 : decide ((0 : Int) <= 0 /\ 0 <= ((m.vals.length - 1 : Nat) : Int) /\ ((m.vals.length - 1 : Nat) : Int) <= (m.vals.length : Int)) = true := decide_eq_true (by omega)
    have ha : ansM m (⟨2, o.key, o.val, o.tall⟩ : O) = ⟨1, (m.vals.getD (m.vals.length - 1) kints.dflt).val⟩ := by unfold ansM; simp [h0]
    have hc : chgM m (⟨2, o.key, o.val, o.tall⟩ : O) ⟨1, (m.vals.getD (m.vals.length - 1) kints.dflt).val⟩ = ⟨m.st, m.vals.take (m.vals.length - 1), m.pairs⟩ := by simp [chgM]
    rw [doM_yes hf, ha, hc]
    simp only [do2_T, T.val, lP, lI, true_and, and_true, decide_true, hbig, Bool.not_true, Bool.not_false, Nat.zero_add, Nat.sub_zero, List.drop_zero, Int.toNat_natCast, anEq, anFull, beq_self_eq_true, Bool.and_self, hf, hw, d1, d2, d3, d4, d5, d6]
    exact ⟨_, rfl, _, _, rfl, rfl, rfl, fun ρ => ⟨rfl, rfl⟩⟩
   ·
    have d3 : decide ((m.vals.length : Int) > 0) = false := decide_eq_false (by omega)
    have ha : ansM m (⟨2, o.key, o.val, o.tall⟩ : O) = ⟨2, 0⟩ := by unfold ansM; simp [h0]
    have hc : chgM m (⟨2, o.key, o.val, o.tall⟩ : O) ⟨2, 0⟩ = m := by simp [chgM]
    rw [doM_yes hf, ha, hc]
    simp only [do2_T, T.val, lP, lI, true_and, and_true, decide_true, hbig, Bool.not_true, Bool.not_false, Nat.zero_add, Nat.sub_zero, List.drop_zero, Int.toNat_natCast, anEq, anFull, beq_self_eq_true, Bool.and_self, hf, d3]
    exact ⟨_, rfl, _, _, rfl, rfl, rfl, fun ρ => ⟨rfl, rfl⟩⟩
theorem do3_val (σ : Sg) (m : CreedM) (o : O) (hv : m.vals.length <= 100000) (hp : m.pairs.length <= 100000) : ∃ v, (do3_T σ m o).val = some (v, [creedV (doM m (⟨3, o.key, o.val, o.tall⟩ : O)).2], []) /\ doQ σ (doM m (⟨3, o.key, o.val, o.tall⟩ : O)).1 v := by
 have lP : ∀ p, (F2 σ).len (AV.pairs p) = p.length := fun _ => rfl
 have lI : ∀ p, (F2 σ).len (AV.ints p) = p.length := fun _ => rfl
 have hbig : decide (m.pairs.length < 4611686018427387904) = true := decide_eq_true (by omega)
 cases hf : fitsM m.st (⟨3, o.key, o.val, o.tall⟩ : O) with
 | false =>
   rw [doM_no hf]
   simp only [do3_T, T.val, lP, lI, true_and, and_true, decide_true, hbig, Bool.not_true, Bool.not_false, Nat.zero_add, Nat.sub_zero, List.drop_zero, Int.toNat_natCast, anEq, anFull, beq_self_eq_true, Bool.and_self, hf]
   exact ⟨_, rfl, rfl⟩
 | true =>
   by_cases h0 : 0 < m.vals.length
   ·
    have hw : IntKind.wrap .i64 ((m.vals.length : Int) - 1) = ((m.vals.length - 1 : Nat) : Int) := by rw [wrap_in (by omega)]; omega
    have d1 : decide (0 <= ((m.vals.length - 1 : Nat) : Int) /\ ((m.vals.length - 1 : Nat) : Int) < (m.vals.length : Int)) = true := decide_eq_true (by omega)
    have d2 : decide (m.vals.length - 1 < m.vals.length) = true := decide_eq_true (by omega)
    have d3 : decide ((m.vals.length : Int) > 0) = true := decide_eq_true (by omega)
    have ha : ansM m (⟨3, o.key, o.val, o.tall⟩ : O) = ⟨1, (m.vals.getD (m.vals.length - 1) kints.dflt).val⟩ := by unfold ansM; simp [h0]
    have hc : chgM m (⟨3, o.key, o.val, o.tall⟩ : O) ⟨1, (m.vals.getD (m.vals.length - 1) kints.dflt).val⟩ = m := by simp [chgM]
    rw [doM_yes hf, ha, hc]
    simp only [do3_T, T.val, lP, lI, true_and, and_true, decide_true, hbig, Bool.not_true, Bool.not_false, Nat.zero_add, Nat.sub_zero, List.drop_zero, Int.toNat_natCast, anEq, anFull, beq_self_eq_true, Bool.and_self, hf, hw, d1, d2, d3]
    exact ⟨_, rfl, _, _, rfl, rfl, rfl, fun ρ => ⟨rfl, rfl⟩⟩
   ·
    have d3 : decide ((m.vals.length : Int) > 0) = false := decide_eq_false (by omega)
    have ha : ansM m (⟨3, o.key, o.val, o.tall⟩ : O) = ⟨2, 0⟩ := by unfold ansM; simp [h0]
    have hc : chgM m (⟨3, o.key, o.val, o.tall⟩ : O) ⟨2, 0⟩ = m := by simp [chgM]
    rw [doM_yes hf, ha, hc]
    simp only [do3_T, T.val, lP, lI, true_and, and_true, decide_true, hbig, Bool.not_true, Bool.not_false, Nat.zero_add, Nat.sub_zero, List.drop_zero, Int.toNat_natCast, anEq, anFull, beq_self_eq_true, Bool.and_self, hf, d3]
    exact ⟨_, rfl, _, _, rfl, rfl, rfl, fun ρ => ⟨rfl, rfl⟩⟩
theorem do4_val (σ : Sg) (m : CreedM) (o : O) (hv : m.vals.length <= 100000) (hp : m.pairs.length <= 100000) : ∃ v, (do4_T σ m o).val = some (v, [creedV (doM m (⟨4, o.key, o.val, o.tall⟩ : O)).2], []) /\ doQ σ (doM m (⟨4, o.key, o.val, o.tall⟩ : O)).1 v := by
 have lP : ∀ p, (F2 σ).len (AV.pairs p) = p.length := fun _ => rfl
 have lI : ∀ p, (F2 σ).len (AV.ints p) = p.length := fun _ => rfl
 have hbig : decide (m.pairs.length < 4611686018427387904) = true := decide_eq_true (by omega)
 cases hf : fitsM m.st (⟨4, o.key, o.val, o.tall⟩ : O) with
 | false =>
   rw [doM_no hf]
   simp only [do4_T, T.val, lP, lI, true_and, and_true, decide_true, hbig, Bool.not_true, Bool.not_false, Nat.zero_add, Nat.sub_zero, List.drop_zero, Int.toNat_natCast, anEq, anFull, beq_self_eq_true, Bool.and_self, hf]
   exact ⟨_, rfl, rfl⟩
 | true =>
   have d1 : decide ((m.vals.length + 1) * (SI.bytes si39 + 1) <= lim) = true := decide_eq_true (by show (m.vals.length + 1) * (8 + 1) <= 1099511627776; omega)
   have d2 : decide (m.vals.length + 1 = (m.vals ++ [(⟨o.val⟩ : N1)]).length) = true := decide_eq_true (by simp)
   have ha : ansM m (⟨4, o.key, o.val, o.tall⟩ : O) = ⟨1, 0⟩ := by unfold ansM; simp []
   have hc : chgM m (⟨4, o.key, o.val, o.tall⟩ : O) ⟨1, 0⟩ = ⟨m.st, m.vals ++ [⟨o.val⟩], m.pairs⟩ := by simp [chgM]
   rw [doM_yes hf, ha, hc]
   simp only [do4_T, T.val, lP, lI, true_and, and_true, decide_true, hbig, Bool.not_true, Bool.not_false, Nat.zero_add, Nat.sub_zero, List.drop_zero, Int.toNat_natCast, anEq, anFull, beq_self_eq_true, Bool.and_self, hf, d1, d2]
   exact ⟨_, rfl, _, _, rfl, rfl, rfl, fun ρ => ⟨rfl, rfl⟩⟩
theorem do5_val (σ : Sg) (m : CreedM) (o : O) (hv : m.vals.length <= 100000) (hp : m.pairs.length <= 100000) : ∃ v, (do5_T σ m o).val = some (v, [creedV (doM m (⟨5, o.key, o.val, o.tall⟩ : O)).2], []) /\ doQ σ (doM m (⟨5, o.key, o.val, o.tall⟩ : O)).1 v := by
 have lP : ∀ p, (F2 σ).len (AV.pairs p) = p.length := fun _ => rfl
 have lI : ∀ p, (F2 σ).len (AV.ints p) = p.length := fun _ => rfl
 have hbig : decide (m.pairs.length < 4611686018427387904) = true := decide_eq_true (by omega)
 cases hf : fitsM m.st (⟨5, o.key, o.val, o.tall⟩ : O) with
 | false =>
   rw [doM_no hf]
   simp only [do5_T, T.val, lP, lI, true_and, and_true, decide_true, hbig, Bool.not_true, Bool.not_false, Nat.zero_add, Nat.sub_zero, List.drop_zero, Int.toNat_natCast, anEq, anFull, beq_self_eq_true, Bool.and_self, hf]
   exact ⟨_, rfl, rfl⟩
 | true =>
   by_cases h0 : 0 < m.vals.length
   ·
    have d3 : decide ((m.vals.length : Int) > 0) = true := decide_eq_true (by omega)
    have d4 : decide ((0 : Int) <= 0 /\ (0 : Int) < (m.vals.length : Int)) = true := decide_eq_true (by omega)
    have d5 : decide (0 < m.vals.length) = true := decide_eq_true h0
    have d6 : decide ((0 : Int) <= 1 /\ (1 : Int) <= (m.vals.length : Int) /\ (m.vals.length : Int) <= (m.vals.length : Int)) = true := decide_eq_true (by omega)
    have d7 : decide (m.vals.length - 1 = (m.vals.drop 1).length) = true := decide_eq_true (by simp)
    have d8 : m.vals.take m.vals.length = m.vals := List.take_length
    have d9 : decide ((1 : Nat) <= m.vals.length) = true := decide_eq_true h0
    have ha : ansM m (⟨5, o.key, o.val, o.tall⟩ : O) = ⟨1, (m.vals.getD 0 kints.dflt).val⟩ := by unfold ansM; simp [h0]
    have hc : chgM m (⟨5, o.key, o.val, o.tall⟩ : O) ⟨1, (m.vals.getD 0 kints.dflt).val⟩ = ⟨m.st, m.vals.drop 1, m.pairs⟩ := by simp [chgM]
    rw [doM_yes hf, ha, hc]
    simp only [do5_T, T.val, lP, lI, true_and, and_true, decide_true, hbig, Bool.not_true, Bool.not_false, Nat.zero_add, Nat.sub_zero, List.drop_zero, Int.toNat_natCast, anEq, anFull, beq_self_eq_true, Bool.and_self, hf, d3, d4, d5, d6, d7, d8, d9]
    exact ⟨_, rfl, _, _, rfl, rfl, rfl, fun ρ => ⟨rfl, rfl⟩⟩
   ·
    have d3 : decide ((m.vals.length : Int) > 0) = false := decide_eq_false (by omega)
    have ha : ansM m (⟨5, o.key, o.val, o.tall⟩ : O) = ⟨2, 0⟩ := by unfold ansM; simp [h0]
    have hc : chgM m (⟨5, o.key, o.val, o.tall⟩ : O) ⟨2, 0⟩ = m := by simp [chgM]
    rw [doM_yes hf, ha, hc]
    simp only [do5_T, T.val, lP, lI, true_and, and_true, decide_true, hbig, Bool.not_true, Bool.not_false, Nat.zero_add, Nat.sub_zero, List.drop_zero, Int.toNat_natCast, anEq, anFull, beq_self_eq_true, Bool.and_self, hf, d3]
    exact ⟨_, rfl, _, _, rfl, rfl, rfl, fun ρ => ⟨rfl, rfl⟩⟩
theorem do6_val (σ : Sg) (m : CreedM) (o : O) (hv : m.vals.length <= 100000) (hp : m.pairs.length <= 100000) : ∃ v, (do6_T σ m o).val = some (v, [creedV (doM m (⟨6, o.key, o.val, o.tall⟩ : O)).2], []) /\ doQ σ (doM m (⟨6, o.key, o.val, o.tall⟩ : O)).1 v := by
 have lP : ∀ p, (F2 σ).len (AV.pairs p) = p.length := fun _ => rfl
 have lI : ∀ p, (F2 σ).len (AV.ints p) = p.length := fun _ => rfl
 have hbig : decide (m.pairs.length < 4611686018427387904) = true := decide_eq_true (by omega)
 cases hf : fitsM m.st (⟨6, o.key, o.val, o.tall⟩ : O) with
 | false =>
   rw [doM_no hf]
   simp only [do6_T, T.val, lP, lI, true_and, and_true, decide_true, hbig, Bool.not_true, Bool.not_false, Nat.zero_add, Nat.sub_zero, List.drop_zero, Int.toNat_natCast, anEq, anFull, beq_self_eq_true, Bool.and_self, hf]
   exact ⟨_, rfl, rfl⟩
 | true =>
   cases hb : fB m.pairs o.key with
   | true =>
     have hl := fN_le m.pairs o.key
     have ha : ansM m (⟨6, o.key, o.val, o.tall⟩ : O) = ⟨3, 0⟩ := by unfold ansM; simp [hb]
     have hc : chgM m (⟨6, o.key, o.val, o.tall⟩ : O) ⟨3, 0⟩ = m := by simp [chgM]
     rw [doM_yes hf, ha, hc]
     simp only [do6_T, T.val, lP, lI, true_and, and_true, decide_true, hbig, Bool.not_true, Bool.not_false, Nat.zero_add, Nat.sub_zero, List.drop_zero, Int.toNat_natCast, anEq, anFull, beq_self_eq_true, Bool.and_self, hf, hb]
     exact ⟨_, rfl, _, _, rfl, rfl, rfl, fun ρ => ⟨rfl, rfl⟩⟩
   | false =>
     have hl := fN_le m.pairs o.key
     have d1 : decide (m.pairs.length <= 100000 /\ 0 <= ((fN m.pairs o.key : Nat) : Int) /\ ((fN m.pairs o.key : Nat) : Int) <= (m.pairs.length : Int)) = true := decide_eq_true (by omega)
     have d2 : decide (m.pairs.length + 1 = (m.pairs.take (fN m.pairs o.key) ++ ((⟨o.key, o.val⟩ : Pr) :: m.pairs.drop (fN m.pairs o.key))).length) = true := decide_eq_true (by simp; omega)
     have ha : ansM m (⟨6, o.key, o.val, o.tall⟩ : O) = ⟨1, 0⟩ := by unfold ansM; simp [hb]
     have hc : chgM m (⟨6, o.key, o.val, o.tall⟩ : O) ⟨1, 0⟩ = ⟨m.st, m.vals, m.pairs.take (fN m.pairs o.key) ++ (⟨o.key, o.val⟩ :: m.pairs.drop (fN m.pairs o.key))⟩ := by simp [chgM]
     rw [doM_yes hf, ha, hc]
     simp only [do6_T, T.val, lP, lI, true_and, and_true, decide_true, hbig, Bool.not_true, Bool.not_false, Nat.zero_add, Nat.sub_zero, List.drop_zero, Int.toNat_natCast, anEq, anFull, beq_self_eq_true, Bool.and_self, hf, hb, d1, d2]
     exact ⟨_, rfl, _, _, rfl, rfl, rfl, fun ρ => ⟨rfl, rfl⟩⟩
theorem do7_val (σ : Sg) (m : CreedM) (o : O) (hv : m.vals.length <= 100000) (hp : m.pairs.length <= 100000) : ∃ v, (do7_T σ m o).val = some (v, [creedV (doM m (⟨7, o.key, o.val, o.tall⟩ : O)).2], []) /\ doQ σ (doM m (⟨7, o.key, o.val, o.tall⟩ : O)).1 v := by
 have lP : ∀ p, (F2 σ).len (AV.pairs p) = p.length := fun _ => rfl
 have lI : ∀ p, (F2 σ).len (AV.ints p) = p.length := fun _ => rfl
 have hbig : decide (m.pairs.length < 4611686018427387904) = true := decide_eq_true (by omega)
 cases hf : fitsM m.st (⟨7, o.key, o.val, o.tall⟩ : O) with
 | false =>
   rw [doM_no hf]
   simp only [do7_T, T.val, lP, lI, true_and, and_true, decide_true, hbig, Bool.not_true, Bool.not_false, Nat.zero_add, Nat.sub_zero, List.drop_zero, Int.toNat_natCast, anEq, anFull, beq_self_eq_true, Bool.and_self, hf]
   exact ⟨_, rfl, rfl⟩
 | true =>
   cases hb : fB m.pairs o.key with
   | true =>
     have hl := fB_lt hb
     have d1 : decide (0 <= ((fN m.pairs o.key : Nat) : Int) /\ ((fN m.pairs o.key : Nat) : Int) < (m.pairs.length : Int)) = true := decide_eq_true (by omega)
     have d2 : decide (fN m.pairs o.key < m.pairs.length) = true := decide_eq_true hl
     have hw : IntKind.wrap .i64 (((fN m.pairs o.key : Nat) : Int) + 1) = ((fN m.pairs o.key : Nat) : Int) + 1 := wrap_in (by omega)
     have d3 : decide (m.pairs.length <= 100000 /\ 0 <= ((fN m.pairs o.key : Nat) : Int) /\ ((fN m.pairs o.key : Nat) : Int) < (m.pairs.length : Int)) = true := decide_eq_true (by omega)
     have d4 : decide (m.pairs.length - 1 = (m.pairs.take (fN m.pairs o.key) ++ m.pairs.drop (fN m.pairs o.key + 1)).length) = true := decide_eq_true (by simp; omega)
     have ha : ansM m (⟨7, o.key, o.val, o.tall⟩ : O) = ⟨1, (m.pairs.getD (fN m.pairs o.key) kpairs.dflt).val⟩ := by unfold ansM; simp [hb]
     have hc : chgM m (⟨7, o.key, o.val, o.tall⟩ : O) ⟨1, (m.pairs.getD (fN m.pairs o.key) kpairs.dflt).val⟩ = ⟨m.st, m.vals, m.pairs.take (fN m.pairs o.key) ++ m.pairs.drop (fN m.pairs o.key + 1)⟩ := by simp [chgM]
     rw [doM_yes hf, ha, hc]
     simp only [do7_T, T.val, lP, lI, true_and, and_true, decide_true, hbig, Bool.not_true, Bool.not_false, Nat.zero_add, Nat.sub_zero, List.drop_zero, Int.toNat_natCast, anEq, anFull, beq_self_eq_true, Bool.and_self, hf, hb, d1, d2, hw, d3, d4]
     exact ⟨_, rfl, _, _, rfl, rfl, rfl, fun ρ => ⟨rfl, rfl⟩⟩
   | false =>
     have hl := fN_le m.pairs o.key
     have ha : ansM m (⟨7, o.key, o.val, o.tall⟩ : O) = ⟨2, 0⟩ := by unfold ansM; simp [hb]
     have hc : chgM m (⟨7, o.key, o.val, o.tall⟩ : O) ⟨2, 0⟩ = m := by simp [chgM]
     rw [doM_yes hf, ha, hc]
     simp only [do7_T, T.val, lP, lI, true_and, and_true, decide_true, hbig, Bool.not_true, Bool.not_false, Nat.zero_add, Nat.sub_zero, List.drop_zero, Int.toNat_natCast, anEq, anFull, beq_self_eq_true, Bool.and_self, hf, hb]
     exact ⟨_, rfl, _, _, rfl, rfl, rfl, fun ρ => ⟨rfl, rfl⟩⟩
theorem do8_val (σ : Sg) (m : CreedM) (o : O) (hv : m.vals.length <= 100000) (hp : m.pairs.length <= 100000) : ∃ v, (do8_T σ m o).val = some (v, [creedV (doM m (⟨8, o.key, o.val, o.tall⟩ : O)).2], []) /\ doQ σ (doM m (⟨8, o.key, o.val, o.tall⟩ : O)).1 v := by
 have lP : ∀ p, (F2 σ).len (AV.pairs p) = p.length := fun _ => rfl
 have lI : ∀ p, (F2 σ).len (AV.ints p) = p.length := fun _ => rfl
 have hbig : decide (m.pairs.length < 4611686018427387904) = true := decide_eq_true (by omega)
 cases hf : fitsM m.st (⟨8, o.key, o.val, o.tall⟩ : O) with
 | false =>
   rw [doM_no hf]
   simp only [do8_T, T.val, lP, lI, true_and, and_true, decide_true, hbig, Bool.not_true, Bool.not_false, Nat.zero_add, Nat.sub_zero, List.drop_zero, Int.toNat_natCast, anEq, anFull, beq_self_eq_true, Bool.and_self, hf]
   exact ⟨_, rfl, rfl⟩
 | true =>
   cases hb : fB m.pairs o.key with
   | true =>
     have hl := fB_lt hb
     have d1 : decide (0 <= ((fN m.pairs o.key : Nat) : Int) /\ ((fN m.pairs o.key : Nat) : Int) < (m.pairs.length : Int)) = true := decide_eq_true (by omega)
     have d2 : decide (fN m.pairs o.key < m.pairs.length) = true := decide_eq_true hl
     have ha : ansM m (⟨8, o.key, o.val, o.tall⟩ : O) = ⟨1, (m.pairs.getD (fN m.pairs o.key) kpairs.dflt).val⟩ := by unfold ansM; simp [hb]
     have hc : chgM m (⟨8, o.key, o.val, o.tall⟩ : O) ⟨1, (m.pairs.getD (fN m.pairs o.key) kpairs.dflt).val⟩ = m := by simp [chgM]
     rw [doM_yes hf, ha, hc]
     simp only [do8_T, T.val, lP, lI, true_and, and_true, decide_true, hbig, Bool.not_true, Bool.not_false, Nat.zero_add, Nat.sub_zero, List.drop_zero, Int.toNat_natCast, anEq, anFull, beq_self_eq_true, Bool.and_self, hf, hb, d1, d2]
     exact ⟨_, rfl, _, _, rfl, rfl, rfl, fun ρ => ⟨rfl, rfl⟩⟩
   | false =>
     have hl := fN_le m.pairs o.key
     have ha : ansM m (⟨8, o.key, o.val, o.tall⟩ : O) = ⟨2, 0⟩ := by unfold ansM; simp [hb]
     have hc : chgM m (⟨8, o.key, o.val, o.tall⟩ : O) ⟨2, 0⟩ = m := by simp [chgM]
     rw [doM_yes hf, ha, hc]
     simp only [do8_T, T.val, lP, lI, true_and, and_true, decide_true, hbig, Bool.not_true, Bool.not_false, Nat.zero_add, Nat.sub_zero, List.drop_zero, Int.toNat_natCast, anEq, anFull, beq_self_eq_true, Bool.and_self, hf, hb]
     exact ⟨_, rfl, _, _, rfl, rfl, rfl, fun ρ => ⟨rfl, rfl⟩⟩
theorem doX_val (σ : Sg) (m : CreedM) (o : O) (h : ∀ c ∈ [(1 : Int), 2, 3, 4, 5, 6, 7, 8], (o.kind == c) = false) (hv : m.vals.length <= 100000) (hp : m.pairs.length <= 100000) : ∃ v, (doX_T σ m o h).val = some (v, [creedV (doM m (⟨o.kind, o.key, o.val, o.tall⟩ : O)).2], []) /\ doQ σ (doM m (⟨o.kind, o.key, o.val, o.tall⟩ : O)).1 v := by
 have lP : ∀ p, (F2 σ).len (AV.pairs p) = p.length := fun _ => rfl
 have lI : ∀ p, (F2 σ).len (AV.ints p) = p.length := fun _ => rfl
 have hbig : decide (m.pairs.length < 4611686018427387904) = true := decide_eq_true (by omega)
 have n1 : o.kind ≠ 1 /\ o.kind ≠ 2 /\ o.kind ≠ 3 /\ o.kind ≠ 4 /\ o.kind ≠ 5 /\ o.kind ≠ 6 /\ o.kind ≠ 7 /\ o.kind ≠ 8 := by
  refine ⟨?_, ?_, ?_, ?_, ?_, ?_, ?_, ?_⟩ <;> intro e <;> (first | (have := h 1 (by simp); rw [e] at this; cases this; done) | (have := h 2 (by simp); rw [e] at this; cases this; done) | (have := h 3 (by simp); rw [e] at this; cases this; done) | (have := h 4 (by simp); rw [e] at this; cases this; done) | (have := h 5 (by simp); rw [e] at this; cases this; done) | (have := h 6 (by simp); rw [e] at this; cases this; done) | (have := h 7 (by simp); rw [e] at this; cases this; done) | (have := h 8 (by simp); rw [e] at this; cases this; done))
 obtain ⟨q1, q2, q3, q4, q5, q6, q7, q8⟩ := n1
 cases hf : fitsM m.st (⟨o.kind, o.key, o.val, o.tall⟩ : O) with
 | false =>
   rw [doM_no hf]
   simp only [doX_T, T.val, lP, lI, true_and, and_true, decide_true, hbig, Bool.not_true, Bool.not_false, Nat.zero_add, Nat.sub_zero, List.drop_zero, Int.toNat_natCast, anEq, anFull, beq_self_eq_true, Bool.and_self, hf]
   exact ⟨_, rfl, rfl⟩
 | true =>
   have ha : ansM m (⟨o.kind, o.key, o.val, o.tall⟩ : O) = ⟨1, 0⟩ := by unfold ansM; simp [q1, q2, q3, q4, q5, q6, q7, q8]
   have hc : chgM m (⟨o.kind, o.key, o.val, o.tall⟩ : O) ⟨1, 0⟩ = m := by simp [chgM, q1, q2, q3, q4, q5, q6, q7, q8]
   rw [doM_yes hf, ha, hc]
   simp only [doX_T, T.val, lP, lI, true_and, and_true, decide_true, hbig, Bool.not_true, Bool.not_false, Nat.zero_add, Nat.sub_zero, List.drop_zero, Int.toNat_natCast, anEq, anFull, beq_self_eq_true, Bool.and_self, hf]
   exact ⟨_, rfl, _, _, rfl, rfl, rfl, fun ρ => ⟨rfl, rfl⟩⟩
end Go.Proofs.YtpapbhbnaalhcaaDoor
