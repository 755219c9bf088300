/- The symbolic executor: every operation that looks at no memory is sound. -/
import Derived.Test.YtmdojlkmgllhnaaGreatDoorSxE
namespace Go.Sx
variable {AV : Type} {P : Program} {N : Env AV} {ρ : Nm} {H : Hp AV} {ev : Operand → Option SV} {e : Operand → Value}

theorem guardT_val {α : Type} {k b : Bool} {a x : α} (h : (guardT k b a).val = some x) : b = true ∧ a = x := by
  cases k <;> cases b <;> simp [guardT, T.val] at h <;> exact ⟨rfl, h⟩
theorem need_val {α : Type} {b : Bool} {t : T α} {x : α} (h : (T.need b t).val = some x) : b = true ∧ t.val = some x := by
  cases b with
  | false => simp [T.val] at h
  | true => exact ⟨rfl, h⟩
theorem evlP_den (hev : EvOk ρ H ev e) : ∀ {l : List (Nat × Operand)} {ps : List (Nat × V1)}, evlP ev l = some ps →
    (l.map fun p => (p.1, e p.2)) = (ps.map fun p => (p.1, p.2.den ρ)) ∧ ∀ p ∈ ps, ClV1 H p.2
  | [], ps, h => by cases h; simp
  | (i, x) :: r, ps, h => by
    simp only [evlP] at h
    split at h
    · rename_i v hx
      split at h
      · rename_i l hl
        cases h
        have ih := evlP_den hev hl
        have hd := hev.den x _ hx
        have hc := hev.cl x _ hx
        refine ⟨by simp [ih.1, hd, SV.den], fun p hp => ?_⟩
        rcases List.mem_cons.1 hp with rfl | hp
        · exact hc
        · exact ih.2 p hp
      · cases h
    · cases h
theorem equal_succ (t : TypeId) (x y : Value) : Op.equal t x y = Op.equalIn (9999 + 1) t x y := rfl
theorem bothI_den (ρ : Nm) {x y : V1} {k k' : IntKind} {a b : Int} {ka kb : Bool} (h : bothI x y = some (k, a, ka, k', b, kb)) : x.den ρ = .int k a ∧ y.den ρ = .int k' b := by
  unfold bothI at h
  split at h
  · split at h
    · rename_i h1
      split at h
      · rename_i h2
        cases h
        exact ⟨intC_den ρ h1, intC_den ρ h2⟩
      · cases h
    · cases h
  · cases h
theorem binI_run {op : BinOp} {t : TypeId} {k : IntKind} {a b : Int} {lit : Bool} {r : V1} (h : (binI op k a b lit).val = some r) (hs : isShift op = false) (x y : Operand) (w : World) :
    (do eqGuard op t x y (.int k a) (.int k b); binOp op t (.int k a) (.int k b)).run P w = .ok (r.den ρ) w ∧ ClV1 H r := by
  cases op <;> simp only [binI] at h <;> (first | (simp [isShift] at hs; done) | (simp only [T.val, Option.some.injEq] at h; subst h) | (obtain ⟨hb, h⟩ := need_val h; simp only [T.val, Option.some.injEq] at h; subst h; have hb' : ¬ b = 0 := by simpa using hb) | (simp [T.val] at h; done)) <;>
    (refine ⟨?_, by first | exact mkI_cl _ _ _ | exact mkB_cl _ _⟩; rw [Sem.run_bind]; simp [eqGuard, binOp, Op.intArith, Op.intCmp, Op.intDiv, Op.intBits, bitI, mkI_den, mkB_den, *])
theorem shift_run {op : BinOp} {t : TypeId} {k k' : IntKind} {a b : Int} (hs : isShift op = true) (hk : ¬ b < 0) {x y : Operand} {w : World} :
    (do eqGuard op t x y (.int k a) (.int k' b); binOp op t (.int k a) (.int k' b)).run P w = .ok (.int k (shI op k a b)) w := by
  cases op <;> simp [isShift] at hs
  · rw [Sem.run_bind]; simp [eqGuard, binOp, Op.shift, hk, shI]
  · rw [Sem.run_bind]; simp [eqGuard, binOp, Op.shift, hk, shI]
theorem eqV_run (hT : TblOk P N) {t : TypeId} {x y : Operand} {a b : V1} {r k : Bool} (h : eqV N t (match Sx.isConst x with | true => true | false => Sx.isConst y) a b = some (r, k)) (w : World) :
    (∀ op, (op = .eql ∨ op = .neq) → (eqGuard op t x y (a.den ρ) (b.den ρ)).run P w = .ok () w) ∧ (Op.equal t (a.den ρ) (b.den ρ)).run P w = .ok r w ∧ (∀ k n, a.den ρ ≠ .int k n) ∧ (∀ s, a.den ρ ≠ .string s) ∧ (∀ k s, a.den ρ ≠ .float k s) ∧ (∀ k s z, a.den ρ ≠ .complex k s z) := by
  unfold eqV at h
  split at h
  · -- structs
    rename_i xs ys
    split at h
    · rename_i fs0 s0 z0 ks ht
      split at h
      · cases h
      rename_i hkd
      obtain ⟨inf, h1, h2, h3, h4, h5⟩ := mkTI_parts (hT.ty t _ ht)
      simp only at h5
      cases hg : P.eqGuardType P.depth t with
      | true => simp [hg] at h5
      | false =>
        simp only [hg] at h5
        split at h
        · cases h
        · rename_i kx
          split at h
          · cases h
          · rename_i ky
            have hfl := h5.symm
            obtain ⟨ag, hag⟩ := flat_agg hfl
            have hag' := isAggT_kd h2
            rw [hag'] at hag
            cases hag
            · have hag := hag'
              simp only [hkd] at hag
              have sx : Shaped P t (.agg xs) := .inl ⟨hag, xs, rfl⟩
              have sy : Shaped P t (.agg ys) := .inl ⟨hag, ys, rfl⟩
              have e1 := equal_run (ρ := ρ) (P := P) w 12 Op.maxDepth (by decide) t ks (.agg xs) (.agg ys) hfl sx sy kx ky
              refine ⟨fun op hop => ?_, ?_, by simp [V1.den], by simp [V1.den], by simp [V1.den], by simp [V1.den]⟩
              · rcases hop with rfl | rfl <;> simp [eqGuard, V1.den, program, Sem.run, hg]
              · rw [eqL_den ρ h]
                exact e1
    · cases h
  · -- single cells
    rename_i x' y'
    split at h
    · -- bools
      rename_i ht
      have hk := kd_bool (tbl_kd hT ht)
      split at h
      · rename_i a1 ka b1 kb h1 h2
        cases h
        have e1 := boolC_den ρ h1
        have e2 := boolC_den ρ h2
        refine ⟨fun op hop => ?_, ?_, by simp [V1.den, e1], by simp [V1.den, e1], by simp [V1.den, e1], by simp [V1.den, e1]⟩
        · rcases hop with rfl | rfl <;> simp [eqGuard, V1.den, e1, e2]
        · rw [equal_succ, Op.equalIn]; simp [V1.den, e1, e2, under_run hk]
      · cases h
    · -- pointers
      rename_i ht
      obtain ⟨el, hk⟩ := kd_ptr (tbl_kd hT ht)
      split at h <;> cases h <;>
        (refine ⟨fun op hop => ?_, ?_, by simp [V1.den, Cell.den], by simp [V1.den, Cell.den], by simp [V1.den, Cell.den], by simp [V1.den, Cell.den]⟩
         · rcases hop with rfl | rfl <;> simp [eqGuard, V1.den, Cell.den]
         · rw [equal_succ, Op.equalIn]; simp [V1.den, Cell.den, under_run hk])
    · -- interface values
      rename_i ht
      obtain ⟨ms, hk⟩ := kd_iface (tbl_kd hT ht)
      split at h
      · split at h
        · rename_i hcst
          cases h
          refine ⟨fun op hop => ?_, ?_, by simp [V1.den, Cell.den], by simp [V1.den, Cell.den], by simp [V1.den, Cell.den], by simp [V1.den, Cell.den]⟩
          · rcases hop with rfl | rfl <;> cases x <;> cases y <;> first | (exact absurd hcst (by decide)) | (simp [Sx.isConst] at hcst; done) | simp [eqGuard, V1.den, Cell.den]
          · rw [equal_succ, Op.equalIn]; simp [V1.den, Cell.den, under_run hk]
        · cases h
      · cases h
        refine ⟨fun op hop => ?_, ?_, by simp [V1.den, Cell.den], by simp [V1.den, Cell.den], by simp [V1.den, Cell.den], by simp [V1.den, Cell.den]⟩
        · rcases hop with rfl | rfl <;> simp [eqGuard, V1.den, Cell.den]
        · rw [equal_succ, Op.equalIn]; simp [V1.den, Cell.den, under_run hk]
      · cases h
        refine ⟨fun op hop => ?_, ?_, by simp [V1.den, Cell.den], by simp [V1.den, Cell.den], by simp [V1.den, Cell.den], by simp [V1.den, Cell.den]⟩
        · rcases hop with rfl | rfl <;> simp [eqGuard, V1.den, Cell.den]
        · rw [equal_succ, Op.equalIn]; simp [V1.den, Cell.den, under_run hk]
      · cases h
    · -- slices
      rename_i ht
      obtain ⟨el, hk, _⟩ := kd_slice (tbl_kd hT ht)
      split at h
      · rename_i b hb
        cases h
        unfold nilS at hb
        split at hb <;> cases hb <;>
          (refine ⟨fun op hop => ?_, ?_, by simp [V1.den, Cell.den, vsDen], by simp [V1.den, Cell.den, vsDen], by simp [V1.den, Cell.den, vsDen], by simp [V1.den, Cell.den, vsDen]⟩
           · rcases hop with rfl | rfl <;> simp [eqGuard, V1.den, Cell.den, vsDen]
           · rw [equal_succ, Op.equalIn]; simp [V1.den, Cell.den, vsDen, under_run hk])
      · cases h
    · cases h
  · cases h

theorem rngC_spec {x : V1} {l h : Int} (e : rngC x = some (l, h)) : ∃ k n b, intC (match x with | .c c => c | _ => .pnil) = some (k, n, b) ∧ l ≤ n ∧ n < h ∧ ∃ c, x = .c c := by
  unfold rngC at e
  split at e
  · cases e; exact ⟨_, _, _, rfl, by omega, by omega, _, rfl⟩
  · rename_i k n lo hi hh
    cases e; exact ⟨_, _, _, rfl, hh.1, hh.2, _, rfl⟩
  · cases e
theorem twoB_spec {t f b : Bool} (h : twoB t f = some b) : (b = true ∧ t = true) ∨ (b = false ∧ f = true) := by
  unfold twoB at h
  cases t <;> cases f <;> simp at h <;> simp [← h]
theorem cmpR_val {op : BinOp} {l1 h1 l2 h2 a b : Int} {k : IntKind} {bb : Bool} (hc : cmpR op l1 h1 l2 h2 = some bb) (p1 : l1 ≤ a) (p2 : a < h1) (q1 : l2 ≤ b) (q2 : b < h2) (lit : Bool) : (binI op k a b lit).val = some (mkB bb lit) := by
  unfold cmpR at hc
  split at hc
  · by_cases hA : h1 ≤ l2
    · have h3 : a < b := by omega
      simp [twoB, hA] at hc; subst hc; simp [binI, T.val, h3]
    · by_cases hB : h2 ≤ l1 + 1
      · have h3 : ¬ a < b := by omega
        simp [twoB, hA, hB] at hc; subst hc; simp [binI, T.val, h3]
      · simp [twoB, hA, hB] at hc
  · by_cases hA : h1 ≤ l2 + 1
    · have h3 : a ≤ b := by omega
      simp [twoB, hA] at hc; subst hc; simp [binI, T.val, h3]
    · by_cases hB : h2 ≤ l1
      · have h3 : ¬ a ≤ b := by omega
        simp [twoB, hA, hB] at hc; subst hc; simp [binI, T.val, h3]
      · simp [twoB, hA, hB] at hc
  · by_cases hA : h2 ≤ l1
    · have h3 : a > b := by omega
      simp [twoB, hA] at hc; subst hc; simp [binI, T.val, h3]
    · by_cases hB : h1 ≤ l2 + 1
      · have h3 : ¬ a > b := by omega
        simp [twoB, hA, hB] at hc; subst hc; simp only [binI, T.val, h3, decide_false]
      · simp [twoB, hA, hB] at hc
  · by_cases hA : h2 ≤ l1 + 1
    · have h3 : a ≥ b := by omega
      simp [twoB, hA] at hc; subst hc; simp only [binI, T.val, h3, decide_true]
    · by_cases hB : h1 ≤ l2
      · have h3 : ¬ a ≥ b := by omega
        simp [twoB, hA, hB] at hc; subst hc; simp only [binI, T.val, h3, decide_false]
      · simp [twoB, hA, hB] at hc
  · by_cases hA : h1 ≤ l2
    · have h3 : (a == b) = false := by simp; omega
      simp [twoB, hA] at hc; subst hc; simp [binI, T.val, h3]
    · by_cases hB : h2 ≤ l1
      · have h3 : (a == b) = false := by simp; omega
        simp [twoB, hA, hB] at hc; subst hc; simp [binI, T.val, h3]
      · simp [twoB, hA, hB] at hc
  · by_cases hA : h1 ≤ l2
    · have h3 : (a != b) = true := by simp; omega
      simp [twoB, hA] at hc; subst hc; simp [binI, T.val, h3]
    · by_cases hB : h2 ≤ l1
      · have h3 : (a != b) = true := by simp; omega
        simp [twoB, hA, hB] at hc; subst hc; simp [binI, T.val, h3]
      · simp [twoB, hA, hB] at hc
  · cases hc
theorem irOp_val {op : BinOp} {x y r : V1} (h : irOp op x y = some r) {k k' : IntKind} {a b : Int} {ka kb : Bool} (hb : bothI x y = some (k, a, ka, k', b, kb)) (lit : Bool) : ∃ r0, (binI op k a b lit).val = some r0 ∧ (∀ ρ : Nm, r.den ρ = r0.den ρ) ∧ ClV1 H r := by
  have hx : ∃ cx cy, x = .c cx ∧ y = .c cy ∧ intC cx = some (k, a, ka) ∧ intC cy = some (k', b, kb) := by
    unfold bothI at hb
    split at hb
    · rename_i cx cy
      split at hb
      · rename_i h1
        split at hb
        · rename_i h2
          cases hb
          exact ⟨cx, cy, rfl, rfl, h1, h2⟩
        · cases hb
      · cases hb
    · cases hb
  obtain ⟨cx, cy, rfl, rfl, i1, i2⟩ := hx
  have main : ∀ r, (match ariR op (.c cx) (.c cy) with
    | some r => some r
    | none => match rngC (.c cx), rngC (.c cy) with
      | some (l1, h1), some (l2, h2) => match cmpR op l1 h1 l2 h2 with
        | some b => some (.c (.bl b))
        | none => none
      | _, _ => none) = some r → ∃ r0, (binI op k a b lit).val = some r0 ∧ (∀ ρ : Nm, r.den ρ = r0.den ρ) ∧ ClV1 H r := by
    intro r h
    split at h
    · rename_i r' ha
      cases h
      unfold ariR at ha
      split at ha
      · rename_i k1 a1 lo hi hh k2 m e1 e2
        cases e1; cases e2
        simp only [intC, Option.some.injEq, Prod.mk.injEq] at i1 i2
        obtain ⟨rfl, rfl, rfl⟩ := i1
        obtain ⟨rfl, rfl, rfl⟩ := i2
        split at ha
        · split at ha
          · split at ha
            · rename_i h0
              cases ha
              have hm : (m != 0) = true := by simp; omega
              refine ⟨mkI k1 (a1.tmod m) lit, by simp [binI, hm, T.val], fun ρ => ?_, cl1_nil rfl⟩
              rw [mkI_den]; rfl
            · cases ha
          · cases ha
        · cases ha
      · rename_i k1 c k2 n lo hi hh e1 e2
        cases e1; cases e2
        simp only [intC, Option.some.injEq, Prod.mk.injEq] at i1 i2
        obtain ⟨rfl, rfl, rfl⟩ := i1
        obtain ⟨rfl, rfl, rfl⟩ := i2
        split at ha
        · split at ha
          · rename_i hd
            have hd := of_decide_eq_true hd
            cases ha
            refine ⟨mkI .i64 (IntKind.i64.wrap (c + n)) lit, by simp [binI, T.val], fun ρ => ?_, cl1_nil rfl⟩
            rw [mkI_den, wrap_in (by omega)]; rfl
          · cases ha
        · cases ha
      · cases ha
    · split at h
      · rename_i l1 h1 l2 h2 r1 r2
        split at h
        · rename_i bb hc
          cases h
          obtain ⟨_, n1, _, j1, p1, p2, _⟩ := rngC_spec r1
          obtain ⟨_, n2, _, j2, q1, q2, _⟩ := rngC_spec r2
          simp only at j1 j2
          rw [i1] at j1
          rw [i2] at j2
          simp only [Option.some.injEq, Prod.mk.injEq] at j1 j2
          obtain ⟨rfl, rfl, rfl⟩ := j1
          obtain ⟨rfl, rfl, rfl⟩ := j2
          exact ⟨_, cmpR_val hc p1 p2 q1 q2 lit, fun ρ => by rw [mkB_den]; rfl, cl1_nil rfl⟩
        · cases h
      · cases h
  unfold irOp at h
  split at h
  · cases h
  · exact main r h
theorem bin_run (hT : TblOk P N) {op : BinOp} {t : TypeId} {x y : Operand} {a b r : V1} (h : (bin N op t (match Sx.isConst x with | true => true | false => Sx.isConst y) a b).val = some r) (hs : isShift op = false) (w : World) :
    (do eqGuard op t x y (a.den ρ) (b.den ρ); binOp op t (a.den ρ) (b.den ρ)).run P w = .ok (r.den ρ) w ∧ ClV1 H r := by
  unfold bin at h
  split at h
  · rename_i k a' ka k' b' kb hb
    obtain ⟨e1, e2⟩ := bothI_den ρ hb
    split at h
    · rename_i hk
      have hk := of_decide_eq_true hk
      subst hk
      split at h
      · rename_i r' hiv
        simp only [T.val, Option.some.injEq] at h
        subst h
        unfold ivEq at hiv
        split at hiv
        · rename_i k1 n1 cs h1 k2 c2
          simp only [V1.den, Cell.den, Value.int.injEq] at e1 e2
          obtain ⟨rfl, rfl⟩ := e1
          obtain ⟨rfl, rfl⟩ := e2
          split at hiv
          · cases hiv
          · rename_i hin
            have hmem : ∀ (l : List Int) (m : Int), hasI l m = true → m ∈ l := by
              intro l
              induction l with
              | nil => intro m hm; simp [hasI] at hm
              | cons y l ih =>
                intro m hm
                simp only [hasI] at hm
                split at hm
                · rename_i hd; rw [of_decide_eq_true hd]; simp
                · exact List.mem_cons_of_mem _ (ih m hm)
            have hne := h1 c2 (hmem cs c2 hin)
            have hne' : ¬ n1 = c2 := by simpa using hne
            split at hiv
            · cases hiv
              refine ⟨?_, cl1_nil rfl⟩
              rw [Sem.run_bind]
              simp [eqGuard, binOp, Op.intCmp, V1.den, Cell.den, hne']
            · cases hiv
              refine ⟨?_, cl1_nil rfl⟩
              rw [Sem.run_bind]
              simp [eqGuard, binOp, Op.intCmp, V1.den, Cell.den, hne']
            · cases hiv
        · cases hiv
      · split at h
        · rename_i r' hir
          simp only [T.val, Option.some.injEq] at h
          subst h
          rw [e1, e2]
          obtain ⟨r0, h0, h1, h2⟩ := irOp_val hir hb (match ka with | true => kb | false => false)
          obtain ⟨g1, g2⟩ := binI_run (ρ := ρ) (H := H) (t := t) h0 hs x y w
          exact ⟨by rw [g1, h1 ρ], h2⟩
        · rw [e1, e2]
          exact binI_run h hs x y w
    · simp [T.val] at h
  · split at h
    · -- ==
      unfold ofEq at h
      split at h
      · rename_i r' k' he
        simp only [T.val, Option.some.injEq] at h
        subst h
        obtain ⟨hg, heq, n1, n2, n3, n4⟩ := eqV_run (ρ := ρ) hT he w
        refine ⟨?_, mkB_cl _ _⟩
        rw [Sem.run_bind, hg .eql (.inl rfl), Result.andThen_ok]
        have : binOp .eql t (a.den ρ) (b.den ρ) = (do pure (.bool (← Op.equal t (a.den ρ) (b.den ρ)))) := by
          cases hv : a.den ρ <;> simp_all [binOp]
        rw [this, Sem.run_bind, heq]
        simp [mkB_den]
      · simp [T.val] at h
    · unfold ofNe at h
      split at h
      · rename_i r' k' he
        simp only [T.val, Option.some.injEq] at h
        subst h
        obtain ⟨hg, heq, n1, n2, n3, n4⟩ := eqV_run (ρ := ρ) hT he w
        refine ⟨?_, mkB_cl _ _⟩
        rw [Sem.run_bind, hg .neq (.inr rfl), Result.andThen_ok]
        have : binOp .neq t (a.den ρ) (b.den ρ) = (do pure (.bool (!(← Op.equal t (a.den ρ) (b.den ρ))))) := by
          cases hv : a.den ρ <;> simp_all [binOp]
        rw [this, Sem.run_bind, heq]
        simp [mkB_den]
      · simp [T.val] at h
    · simp [T.val] at h
end Go.Sx
