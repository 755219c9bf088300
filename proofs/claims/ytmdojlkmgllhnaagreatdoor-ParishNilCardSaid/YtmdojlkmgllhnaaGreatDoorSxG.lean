/- The symbolic executor: every operation that looks at no memory is sound: the theorem. -/
import Derived.Test.YtmdojlkmgllhnaaGreatDoorSxF
namespace Go.Sx
variable {AV : Type} {P : Program} {N : Env AV} {ρ : Nm} {H : Hp AV} {ev : Operand → Option SV} {e : Operand → Value}

theorem cl_name {H : Hp AV} {c d : Cell} (h : ClV H (.v (.c c))) (hn : d.name = c.name) : ClV H (.v (.c d)) := by
  intro x hx n hxn
  simp [V1.cells] at hx
  subst hx
  exact h c (by simp [V1.cells]) n (by rw [← hn]; exact hxn)

theorem build_run (hT : TblOk P N) (hev : EvOk ρ H ev e) {t : TypeId} {parts : Array (Nat × Operand)} {fs : List FdI} {sz : Nat} {z l : List Cell} {fl : Option (List (Option IntKind))} {ps : List (Nat × V1)}
    (ht : N.tt.get t = some ⟨.struct fs, sz, some z, fl⟩) (hp : evlP ev parts.toList = some ps) (hf : fillP fs z ps = some l) (w : World) :
    (Instr.build t (parts.map fun (i, x) => (i, e x))).run P w = .ok (.agg (denL ρ l).toArray) w ∧ ClL H l := by
  obtain ⟨a, hu, hfd⟩ := kd_struct (tbl_kd hT ht)
  obtain ⟨v, hz, hzc, hzn⟩ := tbl_zero hT ht rfl ρ
  obtain ⟨hp1, hp2⟩ := evlP_den hev hp
  -- the places of the fields
  have hpl : ∀ (r : List Field) (q : List FdI), fdsT P r = some q → ∀ w, (r.mapM (fun (f : Field) => do pure (f.offset, ← sizeOf f.type)) : Sem (List (Nat × Nat))).run P w = .ok (q.map fun f => (f.off, f.size)) w := by
    intro r
    induction r with
    | nil => intro q h w; cases h; simp
    | cons g r ih =>
      intro q h w
      simp only [fdsT] at h
      split at h
      · rename_i n ag q' h1 h2 h3
        cases h
        have := ih q' h3 w
        simp only [List.mapM_cons, Sem.run_bind, sizeOf_run h1 w, Result.andThen_ok, Sem.run_pure, this, List.map_cons]
      · cases h
  have hpl' := hpl a.toList fs hfd w
  have hmap : (a.mapM (fun (f : Field) => do pure (f.offset, ← sizeOf f.type)) : Sem (Array (Nat × Nat))) = (fun l => l.toArray) <$> (a.toList.mapM (fun (f : Field) => do pure (f.offset, ← sizeOf f.type)) : Sem (List (Nat × Nat))) := by
    rw [← Array.toArray_toList (xs := a), List.mapM_toArray]
  have hfill := fill_den (P := P) (ρ := ρ) (H := H) (fs := a.toList) (l := fs) hfd (fun i => ((fs.map fun f => (f.off, f.size)).toArray)[i]?) (by
    intro i f hi
    have := nth_some hi
    simp [this]) ps z l hf (clL_nil hzn) hp2
  refine ⟨?_, hfill.2⟩
  have hzc' : v.cells = (denL ρ z).toArray := by rw [← hzc]
  have hparts : (parts.map fun (x : Nat × Operand) => match x with | (i, x) => (i, e x)).toList = ps.map fun p => (p.1, p.2.den ρ) := by
    rw [← hp1]
    simp
  unfold Instr.build
  simp only [Sem.run_bind, hz, Result.andThen_ok, under_run hu, hmap, Sem.run_map, hpl']
  rw [hzc']
  have h3 := hfill.1
  rw [← hparts] at h3
  simp only [h3]
  rfl

theorem buildA_run (hT : TblOk P N) (hev : EvOk ρ H ev e) {t : TypeId} {parts : Array (Nat × Operand)} {len esz sz : Nat} {z l : List Cell} {fl : Option (List (Option IntKind))} {ps : List (Nat × V1)}
    (ht : N.tt.get t = some ⟨.arr len esz, sz, some z, fl⟩) (hp : evlP ev parts.toList = some ps) (hf : fillA esz z ps = some l) (w : World) :
    (Instr.build t (parts.map fun (i, x) => (i, e x))).run P w = .ok (.agg (denL ρ l).toArray) w ∧ ClL H l := by
  obtain ⟨el, hu, hsz⟩ := kd_arr (tbl_kd hT ht)
  obtain ⟨v, hz, hzc, hzn⟩ := tbl_zero hT ht rfl ρ
  obtain ⟨hp1, hp2⟩ := evlP_den hev hp
  have hfill := fillA_den (ρ := ρ) (H := H) esz ps z l hf (clL_nil hzn) hp2
  refine ⟨?_, hfill.2⟩
  have hzc' : v.cells = (denL ρ z).toArray := by rw [← hzc]
  have hparts : (parts.map fun (x : Nat × Operand) => match x with | (i, x) => (i, e x)).toList = ps.map fun p => (p.1, p.2.den ρ) := by
    rw [← hp1]
    simp
  unfold Instr.build
  simp only [Sem.run_bind, hz, Result.andThen_ok, under_run hu, sizeOf_run hsz]
  rw [hzc']
  have h3 := hfill.1
  rw [← hparts] at h3
  simp only [h3]
  rfl

theorem pure_sound (hT : TblOk P N) (hev : EvOk ρ H ev e) {o : Oper} {t : T SV} {v : SV} (h : pureOp N ev o.op = some t) (hv : t.val = some v) (w : World) :
    (execOp e o).run P w = .ok (.value (v.den ρ)) w ∧ ClV H v := by
  obtain ⟨dst, op, ty, pos, after, guard⟩ := o
  simp only at h
  unfold pureOp at h
  split at h
  · -- move
    cases h
    split at hv
    · rename_i x v' hx
      simp only [T.val, Option.some.injEq] at hv
      subst hv
      exact ⟨by simp [execOp, hev.den _ _ hx], hev.cl _ _ hx⟩
    · simp [T.val] at hv
  · -- assign
    cases h
    split at hv
    · rename_i x v' hx
      simp only [T.val, Option.some.injEq] at hv
      subst hv
      exact ⟨by simp [execOp, hev.den _ _ hx], hev.cl _ _ hx⟩
    · simp [T.val] at hv
  · -- pick
    cases h
    split at hv
    · rename_i c x y h1 h2 h3
      have e1 := hev.den _ _ h1
      have e2 := hev.den _ _ h2
      have e3 := hev.den _ _ h3
      split at hv
      · rename_i t' hb
        have hb' := boolC_den ρ hb
        split at hv
        · simp only [T.val, Option.some.injEq] at hv; subst hv
          exact ⟨by simp [execOp, e1, e2, SV.den, V1.den, hb', asBool], hev.cl _ _ h2⟩
        · simp only [T.val, Option.some.injEq] at hv; subst hv
          exact ⟨by simp [execOp, e1, e3, SV.den, V1.den, hb', asBool], hev.cl _ _ h3⟩
      · rename_i t' hb
        have hb' := boolC_den ρ hb
        cases t' with
        | true => simp only [T.val, Option.some.injEq] at hv; subst hv; exact ⟨by simp [execOp, e1, e2, SV.den, V1.den, hb', asBool], hev.cl _ _ h2⟩
        | false => simp only [T.val, Option.some.injEq] at hv; subst hv; exact ⟨by simp [execOp, e1, e3, SV.den, V1.den, hb', asBool], hev.cl _ _ h3⟩
      · simp [T.val] at hv
    · simp [T.val] at hv
  · -- build
    cases h
    split at hv
    · rename_i fs sz z fl ps h1 h2
      split at hv
      · rename_i l hl
        simp only [T.val, Option.some.injEq] at hv
        subst hv
        obtain ⟨b1, b2⟩ := build_run hT hev h1 h2 hl w
        refine ⟨?_, b2⟩
        simp only [execOp, Sem.run_bind]
        erw [b1]
        rfl
      · simp [T.val] at hv
    · rename_i len esz sz z fl ps h1 h2
      split at hv
      · rename_i l hl
        simp only [T.val, Option.some.injEq] at hv
        subst hv
        obtain ⟨b1, b2⟩ := buildA_run hT hev h1 h2 hl w
        refine ⟨?_, b2⟩
        simp only [execOp, Sem.run_bind]
        erw [b1]
        rfl
      · simp [T.val] at hv
    · simp [T.val] at hv
  · -- nilCheck
    cases h
    split at hv
    · rename_i n off h1
      simp only [T.val, Option.some.injEq] at hv; subst hv
      exact ⟨by simp [execOp, hev.den _ _ h1, SV.den, V1.den, Cell.den], hev.cl _ _ h1⟩
    · rename_i h1
      simp only [T.val, Option.some.injEq] at hv; subst hv
      exact ⟨by simp [execOp, hev.den _ _ h1, SV.den, V1.den, Cell.den], hev.cl _ _ h1⟩
    · rename_i h1
      simp only [T.val, Option.some.injEq] at hv; subst hv
      exact ⟨by simp [execOp, hev.den _ _ h1, SV.den, V1.den, Cell.den], hev.cl _ _ h1⟩
    · simp [T.val] at hv
  · -- fieldAddr
    rename_i t0 x0 i0
    cases h
    have hfs : ∀ {t : TypeId} {fs : List FdI}, fieldsT N t = some fs → ∃ a, P.underlying t = some (.struct a) ∧ fdsT P a.toList = some fs := by
      intro t fs hf
      unfold fieldsT at hf
      split at hf
      · rename_i ht; cases hf; exact kd_struct (tbl_kd hT ht)
      · cases hf
    split at hv
    · rename_i n off fs h1 h2
      obtain ⟨a, hu, hfd⟩ := hfs h2
      split at hv
      · rename_i f hf
        obtain ⟨g, hg, ho, hsz, _⟩ := fds_nth hfd hf
        split at hv
        · rename_i hz
          have hz := (beq_false_iff _ _).1 hz
          simp only [T.val, Option.some.injEq] at hv; subst hv
          refine ⟨?_, cl_name (hev.cl _ _ h1) rfl⟩
          have hg' : a[i0]? = some g := by simpa using hg
          simp only [execOp, Sem.run_bind, Instr.fieldAt, under_run hu, Result.andThen_ok, hg', hev.den _ _ h1, SV.den, V1.den, Cell.den, Instr.sureAddr, Sem.run_pure, fieldPlace, sizeOf_run hsz, if_neg hz]
          simp only [Addr.add]
          split
          · rename_i h0; simp [ho, h0]
          · simp [ho]
        · simp [T.val] at hv
      · simp [T.val] at hv
    · rename_i n o' k' es off fs h1 h2
      obtain ⟨a, hu, hfd⟩ := hfs h2
      split at hv
      · rename_i f hf
        obtain ⟨g, hg, ho, hsz, _⟩ := fds_nth hfd hf
        split at hv
        · rename_i hz
          have hz := (beq_false_iff _ _).1 hz
          simp only [T.val, Option.some.injEq] at hv; subst hv
          refine ⟨?_, cl_name (hev.cl _ _ h1) rfl⟩
          have hg' : a[i0]? = some g := by simpa using hg
          simp only [execOp, Sem.run_bind, Instr.fieldAt, under_run hu, Result.andThen_ok, hg', hev.den _ _ h1, SV.den, V1.den, Cell.den, Instr.sureAddr, Sem.run_pure, fieldPlace, sizeOf_run hsz, if_neg hz]
          simp only [Addr.add]
          split
          · rename_i h0; simp [ho, h0]
          · simp [ho, Nat.add_assoc]
        · simp [T.val] at hv
      · simp [T.val] at hv
    · simp [T.val] at hv
  · -- field
    rename_i t0 x0 i0
    cases h
    split at hv
    · rename_i l fs h1 h2
      unfold fieldsT at h2
      split at h2
      · rename_i ht
        cases h2
        obtain ⟨a, hu, hfd⟩ := kd_struct (tbl_kd hT ht)
        split at hv
        · rename_i f hf
          obtain ⟨g, hg, ho, hsz, hag⟩ := fds_nth hfd hf
          unfold one at hv
          split at hv
          · rename_i x hx
            simp only [T.val, Option.some.injEq] at hv; subst hv
            have hpr := part_run (ρ := ρ) hag hsz hx w
            refine ⟨?_, part1_cl hx (hev.cl _ _ h1)⟩
            have hg' : a[i0]? = some g := by simpa using hg
            simp only [execOp, Sem.run_bind, Instr.field, under_run hu, Result.andThen_ok, hg', hev.den _ _ h1, SV.den, V1.den, asAgg, Sem.run_pure, ← ho, hpr]
          · simp [T.val] at hv
        · simp [T.val] at hv
      · cases h2
    · simp [T.val] at hv
  · -- binOp
    cases h
    split at hv
    · rename_i a b h1 h2
      split at hv
      · rename_i hs
        rw [T.val_map] at hv
        obtain ⟨r, hr, rfl⟩ := Option.map_eq_some_iff.1 hv
        unfold shiftT at hr
        split at hr
        · rename_i k' a' ka kk b' kb hb
          obtain ⟨e1, e2⟩ := bothI_den ρ hb
          obtain ⟨hk, rfl⟩ := guardT_val hr
          have hk : ¬ b' < 0 := by have := of_decide_eq_true hk; omega
          refine ⟨?_, mkI_cl _ _ _⟩
          simp only [execOp, hev.den _ _ h1, hev.den _ _ h2, SV.den, e1, e2]
          rw [Sem.run_bind, shift_run hs hk, mkI_den]
          rfl
        · simp [T.val] at hr
      · rename_i hs
        rw [T.val_map] at hv
        obtain ⟨r, hr, rfl⟩ := Option.map_eq_some_iff.1 hv
        obtain ⟨b1, b2⟩ := bin_run (ρ := ρ) (H := H) hT hr hs w
        refine ⟨?_, b2⟩
        simp only [execOp, hev.den _ _ h1, hev.den _ _ h2, SV.den]
        rw [Sem.run_bind, b1]
        rfl
    · simp [T.val] at hv
  · -- not
    cases h
    split at hv
    · rename_i c h1
      split at hv
      · rename_i b k hb
        simp only [T.val, Option.some.injEq] at hv; subst hv
        refine ⟨?_, mkB_cl _ _⟩
        have e1 : e _ = .bool b := (hev.den _ _ h1).trans (boolC_den ρ hb)
        simp [execOp, e1, Op.unary, SV.den, mkB_den]
      · simp [T.val] at hv
    · simp [T.val] at hv
  · -- extract
    cases h
    split at hv
    · rename_i l h1
      split at hv
      · rename_i x hx
        simp only [T.val, Option.some.injEq] at hv; subst hv
        have := nth_some hx
        refine ⟨?_, (hev.cl _ _ h1) x (List.mem_of_getElem? this)⟩
        simp [execOp, hev.den _ _ h1, SV.den, Instr.extract, this]
      · simp [T.val] at hv
    · simp [T.val] at hv
  · -- makeInterface
    cases h
    split at hv
    · rename_i c k _ _ _ h1 h2
      split at hv
      · simp [T.val] at hv
      · rename_i hne
        simp only [T.val, Option.some.injEq] at hv; subst hv
        obtain ⟨d, hd, hno⟩ := kd_not_iface (tbl_kd hT h2) (fun hk => hne hk)
        refine ⟨?_, cl_name (hev.cl _ _ h1) rfl⟩
        simp only [execOp, Sem.run_bind, Instr.makeInterface, under_run hd, Result.andThen_ok, hev.den _ _ h1, SV.den, V1.den, Cell.den]
        cases d <;> first | rfl | exact absurd rfl (hno _)
    · simp [T.val] at hv
  · -- indexAddr
    cases h
    split at hv
    · rename_i n off kk k len sz _ _ _ h1 h2 h3
      obtain ⟨el, hu, hsz⟩ := kd_arr (tbl_kd hT h3)
      split at hv
      · rename_i hk
        have hk := of_decide_eq_true hk
        simp only [T.val, Option.some.injEq] at hv; subst hv
        refine ⟨?_, cl_name (hev.cl _ _ h1) rfl⟩
        simp only [execOp, Sem.run_bind, Instr.indexAt, hev.den _ _ h1, hev.den _ _ h2, SV.den, V1.den, Cell.den, asIntOf, Sem.run_pure, Result.andThen_ok, under_run hu, Instr.sureAddr, hk, and_self, if_true, sizeOf_run hsz]
        simp only [Addr.add]
        split
        · rename_i h0; simp [h0]
        · rfl
      · simp [T.val] at hv
    · rename_i n k0 e0 off kk k len sz _ _ _ h1 h2 h3
      obtain ⟨el, hu, hsz⟩ := kd_arr (tbl_kd hT h3)
      split at hv
      · rename_i hk
        have hk := of_decide_eq_true hk
        simp only [T.val, Option.some.injEq] at hv; subst hv
        refine ⟨?_, cl_name (hev.cl _ _ h1) rfl⟩
        simp only [execOp, Sem.run_bind, Instr.indexAt, hev.den _ _ h1, hev.den _ _ h2, SV.den, V1.den, Cell.den, asIntOf, Sem.run_pure, Result.andThen_ok, under_run hu, Instr.sureAddr, hk, and_self, if_true, sizeOf_run hsz]
        simp only [Addr.add]
        split
        · rename_i h0; simp [h0]
        · simp [Nat.add_assoc]
      · simp [T.val] at hv
    · rename_i n o' len cp kk k sz _ _ _ h1 h2 h3
      obtain ⟨el, hu, hsz⟩ := kd_slice (tbl_kd hT h3)
      split at hv
      · rename_i hk
        have hk := of_decide_eq_true hk
        simp only [T.val, Option.some.injEq] at hv; subst hv
        refine ⟨?_, cl_name (hev.cl _ _ h1) rfl⟩
        simp only [execOp, Sem.run_bind, Instr.indexAt, hev.den _ _ h1, hev.den _ _ h2, SV.den, V1.den, Cell.den, asIntOf, Sem.run_pure, Result.andThen_ok, under_run hu, hk, and_self, if_true, sizeOf_run hsz]
        simp only [Addr.add]
        split
        · rename_i h0; simp [h0]
        · rfl
      · simp [T.val] at hv
    · rename_i n o' len es kn ix sz _ _ _ h1 h2 h3
      obtain ⟨el, hu, hsz⟩ := kd_slice (tbl_kd hT h3)
      split at hv
      · rename_i hes
        have hes := (beq_iff _ _).1 hes
        subst hes
        split at hv
        · rename_i kk k lit hi
          obtain ⟨hk, hv⟩ := guardT_val hv
          have hk := of_decide_eq_true hk
          subst hv
          refine ⟨?_, cl_name (hev.cl _ _ h1) rfl⟩
          have hl0 : ¬ (len = 0 ∧ (ρ.L n).c = 0) := by omega
          simp only [execOp, Sem.run_bind, Instr.indexAt, hev.den _ _ h1, hev.den _ _ h2, SV.den, V1.den, Cell.den, vsDen, if_neg hl0, intC_den ρ hi, asIntOf, Sem.run_pure, Result.andThen_ok, under_run hu, hk, and_self, if_true, sizeOf_run hsz]
          simp only [Addr.add, Nat.add_mul]
          split
          · rename_i h0; simp [h0, Nm.f]
          · simp [Nm.f, Nat.add_assoc]
        · simp [T.val] at hv
      · simp [T.val] at hv
    · rename_i n off ix len sz _ _ _ _ h1 h2 h3
      obtain ⟨el, hu, hsz⟩ := kd_arr (tbl_kd hT h3)
      split at hv
      · rename_i kk k lit hi _
        rw [T.val_map] at hv
        obtain ⟨j, hj, rfl⟩ := Option.map_eq_some_iff.1 hv
        obtain ⟨rfl, _, hlt⟩ := forkI_spec hj
        have hk : (0 : Int) ≤ (j : Int) ∧ (j : Int) < (len : Int) := by omega
        refine ⟨?_, cl_name (hev.cl _ _ h1) rfl⟩
        simp only [execOp, Sem.run_bind, Instr.indexAt, hev.den _ _ h1, hev.den _ _ h2, SV.den, V1.den, Cell.den, intC_den ρ hi, asIntOf, Sem.run_pure, Result.andThen_ok, under_run hu, Instr.sureAddr, hk, and_self, if_true, sizeOf_run hsz]
        simp only [Addr.add, Int.toNat_natCast]
        split
        · rename_i h0; simp [h0]
        · rfl
      · simp [T.val] at hv
    · rename_i n k0 e0 off ix len sz _ _ _ _ h1 h2 h3
      obtain ⟨el, hu, hsz⟩ := kd_arr (tbl_kd hT h3)
      split at hv
      · rename_i kk k lit hi _
        rw [T.val_map] at hv
        obtain ⟨j, hj, rfl⟩ := Option.map_eq_some_iff.1 hv
        obtain ⟨rfl, _, hlt⟩ := forkI_spec hj
        have hk : (0 : Int) ≤ (j : Int) ∧ (j : Int) < (len : Int) := by omega
        refine ⟨?_, cl_name (hev.cl _ _ h1) rfl⟩
        simp only [execOp, Sem.run_bind, Instr.indexAt, hev.den _ _ h1, hev.den _ _ h2, SV.den, V1.den, Cell.den, intC_den ρ hi, asIntOf, Sem.run_pure, Result.andThen_ok, under_run hu, Instr.sureAddr, hk, and_self, if_true, sizeOf_run hsz]
        simp only [Addr.add, Int.toNat_natCast]
        split
        · rename_i h0; simp [h0]
        · simp [Nat.add_assoc]
      · simp [T.val] at hv
    · simp [T.val] at hv
  · -- convert
    cases h
    split at hv
    · rename_i c i0 k sz z fl h1 h2 h3
      split at hv
      · rename_i kk n lit hi
        simp only [T.val, Option.some.injEq] at hv; subst hv
        obtain ⟨d0, hd0⟩ := kd_some (tbl_kd hT h2)
        have hd1 := kd_int (tbl_kd hT h3)
        refine ⟨?_, convI_cl _ _ _ _⟩
        simp only [execOp, Sem.run_bind, convert, under_run hd0, under_run hd1, Result.andThen_ok, hev.den _ _ h1, SV.den, V1.den, intC_den ρ hi, Conv.intToInt, Sem.run_pure]
        exact congrArg (fun v => Result.ok (Next.value v) w) (convI_den ρ hi).symm
      · simp [T.val] at hv
    · simp [T.val] at hv
  · -- index
    cases h
    split at hv
    · rename_i s ix sz z fl h1 h2 h3
      split at hv
      · rename_i kk n lit hi
        rw [T.val_map] at hv
        obtain ⟨v', hv', rfl⟩ := Option.map_eq_some_iff.1 hv
        obtain ⟨hk, rfl⟩ := guardT_val hv'
        have hk := of_decide_eq_true hk
        have hd := kd_str (tbl_kd hT h3)
        refine ⟨?_, mkI_cl _ _ _⟩
        have hlt : n.toNat < s.data.toList.length := by omega
        have e1 : s[n.toNat]? = some (s.data.toList[n.toNat]) := by
          have hlt' := hlt
          rw [Array.length_toList] at hlt'
          have : n.toNat < s.size := hlt'
          rw [getElem?_pos s n.toNat this]
          rfl
        have e2 : byteI s n = ((s.data.toList[n.toNat]).toNat : Int) := by
          unfold byteI
          rw [nth_eq, List.getElem?_eq_getElem hlt]
        simp only [execOp, Sem.run_bind, Instr.index, hev.den _ _ h1, hev.den _ _ h2, SV.den, V1.den, Cell.den, intC_den ρ hi, asIntOf, Sem.run_pure, Result.andThen_ok, under_run hd, hk.1, if_true, e1, e2]
        cases lit <;> rfl
      · simp [T.val] at hv
    · simp [T.val] at hv
  · -- len
    rename_i c
    split at h
    · rename_i hcal
      cases h
      obtain ⟨cal, args, tys⟩ := c
      simp only at hcal hv
      subst hcal
      split at hv
      · rename_i x t hx ht
        obtain rfl : args = #[x] := by cases args; simp at hx; simp [hx]
        obtain rfl : tys = #[t] := by cases tys; simp at ht; simp [ht]
        split at hv
        · rename_i len _ _ _ _ _ h1 h2
          obtain ⟨el, hu, _⟩ := kd_slice (tbl_kd hT h2)
          simp only [T.val, Option.some.injEq] at hv; subst hv
          refine ⟨?_, cl1_nil rfl⟩
          simp [execOp, resolve, invoke, builtin, Builtin.len_, hev.den _ _ h1, SV.den, V1.den, Cell.den, under_run hu, goInt]
        · rename_i h1 h2
          obtain ⟨el, hu, _⟩ := kd_slice (tbl_kd hT h2)
          simp only [T.val, Option.some.injEq] at hv; subst hv
          refine ⟨?_, cl1_nil rfl⟩
          simp [execOp, resolve, invoke, builtin, Builtin.len_, hev.den _ _ h1, SV.den, V1.den, Cell.den, under_run hu, goInt]
        · rename_i h1 h2
          obtain ⟨el, hu, _⟩ := kd_slice (tbl_kd hT h2)
          simp only [T.val, Option.some.injEq] at hv; subst hv
          refine ⟨?_, cl1_nil rfl⟩
          simp [execOp, resolve, invoke, builtin, Builtin.len_, hev.den _ _ h1, SV.den, V1.den, Cell.den, under_run hu, goInt]
        · rename_i n0 o0 es0 z0 f0 p0 _ _ _ _ h1 h2
          obtain ⟨el, hu, _⟩ := kd_slice (tbl_kd hT h2)
          simp only [T.val, Option.some.injEq] at hv; subst hv
          refine ⟨?_, cl1_nil rfl⟩
          have hbc : ∃ b c, vsDen (f0 (ρ.L n0)) 0 0 es0 = .slice b 0 c := by
            unfold vsDen
            split
            · exact ⟨_, _, rfl⟩
            · exact ⟨_, _, rfl⟩
          obtain ⟨b, c, hbc⟩ := hbc
          simp [execOp, resolve, invoke, builtin, Builtin.len_, hev.den _ _ h1, SV.den, V1.den, Cell.den, hbc, under_run hu, goInt]
        · rename_i n0 o0 len es0 kn _ _ _ _ h1 h2
          obtain ⟨el, hu, _⟩ := kd_slice (tbl_kd hT h2)
          simp only [T.val, Option.some.injEq] at hv; subst hv
          refine ⟨?_, by cases kn <;> exact cl1_nil rfl⟩
          have : ∀ l : Loc, ∀ o e, ∃ b c, vsDen l o len e = .slice b len c := by
            intro l o e
            unfold vsDen
            split
            · rename_i h0; rw [h0.1]; exact ⟨_, _, rfl⟩
            · exact ⟨_, _, rfl⟩
          obtain ⟨b, c, hbc⟩ := this (ρ.L n0) o0 es0
          cases kn <;> simp [execOp, resolve, invoke, builtin, Builtin.len_, hev.den _ _ h1, SV.den, V1.den, Cell.den, hbc, mkI, under_run hu, goInt]
        · simp [T.val] at hv
      · simp [T.val] at hv
    · cases h
  · cases h
end Go.Sx
