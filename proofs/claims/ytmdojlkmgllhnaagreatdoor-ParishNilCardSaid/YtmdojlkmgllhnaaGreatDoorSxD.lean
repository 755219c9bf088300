/- The symbolic executor: operations that look at no memory are sound, case by case. -/
import Derived.Test.YtmdojlkmgllhnaaGreatDoorSxC
namespace Go.Sx
section parts
variable {AV : Type}
theorem nth_some {α : Type} {l : List α} {n : Nat} {x : α} (h : nth l n = some x) : l[n]? = some x := by rwa [nth_eq] at h
theorem part1_shape {agg : Bool} {n : Nat} {l : List Cell} {off : Nat} {x : V1} (h : part1 agg n l off = some x) :
    (agg = true → off + n ≤ l.length ∧ x = .agg ((l.drop off).take n)) ∧ (agg = false → ∃ c, l[off]? = some c ∧ x = .c c) := by
  unfold part1 at h
  cases agg with
  | true =>
    simp only at h
    cases hl : lsub l off n with
    | none => simp [hl] at h
    | some r =>
      simp only [hl, Option.some.injEq] at h
      subst h
      have := lsub_eq hl
      exact ⟨fun _ => ⟨this.2, by rw [this.1]⟩, (fun h => by cases h)⟩
  | false =>
    simp only at h
    cases hl : nth l off with
    | none => simp [hl] at h
    | some r =>
      simp only [hl, Option.some.injEq] at h
      subst h
      exact ⟨(fun h => by cases h), fun _ => ⟨r, nth_some hl, rfl⟩⟩
theorem part1_cl {H : Hp AV} {agg : Bool} {n : Nat} {l : List Cell} {off : Nat} {x : V1} (h : part1 agg n l off = some x) (hc : ClL H l) : ClV1 H x := by
  obtain ⟨h1, h2⟩ := part1_shape h
  cases agg with
  | true =>
    obtain ⟨_, rfl⟩ := h1 rfl
    exact fun c hm => hc c (List.mem_of_mem_drop (List.mem_of_mem_take hm))
  | false =>
    obtain ⟨c, hl, rfl⟩ := h2 rfl
    intro d hd
    simp [V1.cells] at hd
    subst hd
    exact hc d (List.mem_of_getElem? hl)
theorem extract_den (ρ : Nm) (l : List Cell) (off n : Nat) : ((denL ρ l).toArray).extract off (off + n) = (denL ρ ((l.drop off).take n)).toArray := by
  simp [denL, List.map_take, List.map_drop, List.extract_eq_take_drop]
theorem part_run {P : Program} {ρ : Nm} {t : TypeId} {agg : Bool} {n : Nat} {l : List Cell} {off : Nat} {x : V1} (ha : isAggT P t = some agg) (hs : sizeT P t = some n)
    (h : part1 agg n l off = some x) (w : World) : (part t (denL ρ l).toArray off).run P w = .ok (x.den ρ) w := by
  obtain ⟨h1, h2⟩ := part1_shape h
  unfold part
  cases agg with
  | true =>
    obtain ⟨_, rfl⟩ := h1 rfl
    simp only [Sem.run_bind, aggT_run ha w, Result.andThen_ok, if_true, sizeOf_run hs w, Sem.run_pure, V1.den, extract_den]
  | false =>
    obtain ⟨c, hl, rfl⟩ := h2 rfl
    simp [aggT_run ha w, V1.den, denL, hl]
theorem fds_nth {P : Program} : ∀ {fs : List Field} {l : List FdI} {i : Nat} {f : FdI}, fdsT P fs = some l → nth l i = some f →
    ∃ g, fs[i]? = some g ∧ f.off = g.offset ∧ sizeT P g.type = some f.size ∧ isAggT P g.type = some f.agg
  | [], l, i, f, h, hn => by cases h; simp [nth] at hn
  | g :: r, l, i, f, h, hn => by
    simp only [fdsT] at h
    split at h
    · rename_i n a l' h1 h2 h3
      cases h
      cases i with
      | zero => simp only [nth, Option.some.injEq] at hn; subst hn; exact ⟨g, rfl, rfl, h1, h2⟩
      | succ i => simp only [nth] at hn; exact fds_nth (fs := r) h3 hn
    · cases h
theorem fds_len {P : Program} : ∀ {fs : List Field} {l : List FdI}, fdsT P fs = some l → l.length = fs.length
  | [], l, h => by cases h; rfl
  | g :: r, l, h => by
    simp only [fdsT] at h
    split at h
    · rename_i n a l' h1 h2 h3
      cases h
      simp [fds_len h3]
    · cases h
theorem isAggT_kd {P : Program} {t : TypeId} {k : Kd} (h : kdT P t = some k) : isAggT P t = some (isAggK k) := by
  unfold kdT at h
  unfold isAggT
  cases hu : P.underlying t with
  | none => simp [hu] at h
  | some d => cases d <;> simp only [hu] at h <;> (first | (cases h; rfl) | (split at h <;> (first | (cases h; done) | (cases h; rfl))))
theorem tbl_size {P : Program} {N : Env AV} (hT : TblOk P N) {t : TypeId} {i : TI} (h : N.tt.get t = some i) : sizeT P t = some i.size := by
  obtain ⟨inf, h1, _, h2, _⟩ := mkTI_parts (hT.ty t i h)
  rw [sizeT_of h1, h2]
theorem tbl_kd {P : Program} {N : Env AV} (hT : TblOk P N) {t : TypeId} {i : TI} (h : N.tt.get t = some i) : kdT P t = some i.kd := by
  obtain ⟨inf, _, h1, _⟩ := mkTI_parts (hT.ty t i h)
  exact h1
theorem tbl_zero {P : Program} {N : Env AV} (hT : TblOk P N) {t : TypeId} {i : TI} {z : List Cell} (h : N.tt.get t = some i) (hz : i.zero = some z) (ρ : Nm) :
    ∃ v, (∀ w, (zeroValue t).run P w = .ok v w) ∧ v.cells.toList = denL ρ z ∧ ∀ c ∈ z, c.name = none := by
  obtain ⟨inf, h1, _, _, h2, _⟩ := mkTI_parts (hT.ty t i h)
  rw [h2] at hz
  cases hv : inf.zero with
  | none => simp [hv] at hz
  | some v =>
    simp only [hv] at hz
    have := ofValues_den ρ hz
    exact ⟨v, fun w => by simp [zeroValue, typeInfo, program, Sem.run, h1, hv], this.1.symm, this.2⟩
end parts

section build
/-- laying a row of values over another -/
theorem foldl_splice (off : Nat) : ∀ (vs : List Value) (k : Nat) (cur : Array Value), off + k + vs.length ≤ cur.size →
    (vs.zipIdx k).foldl (fun cs (p : Value × Nat) => cs.setIfInBounds (off + p.2) p.1) cur = (cur.toList.take (off + k) ++ vs ++ cur.toList.drop (off + k + vs.length)).toArray
  | [], k, cur, _ => by simp
  | v :: rest, k, cur, h => by
    simp only [List.zipIdx_cons, List.foldl_cons]
    rw [foldl_splice off rest (k + 1) _ (by simp at h ⊢; omega)]
    have e := list_seg_step cur.toList (off + k) v rest (by simp at h ⊢; omega)
    simp only [Array.toList_setIfInBounds]
    simpa [Nat.add_assoc, Nat.add_comm 1] using e
variable {AV : Type}
theorem fill_den {P : Program} {ρ : Nm} {H : Hp AV} {fs : List Field} {l : List FdI} (hf : fdsT P fs = some l) (pl : Nat → Option (Nat × Nat))
    (hpl : ∀ (i : Nat) (f : FdI), nth l i = some f → pl i = some (f.off, f.size)) :
    ∀ (ps : List (Nat × V1)) (z r : List Cell), fillP l z ps = some r → ClL H z → (∀ p ∈ ps, ClV1 H p.2) →
      Instr.fill pl (denL ρ z).toArray (ps.map fun p => (p.1, p.2.den ρ)) = some (denL ρ r).toArray ∧ ClL H r
  | [], z, r, h, hz, _ => by
    simp only [fillP, Option.some.injEq] at h
    subst h
    exact ⟨rfl, hz⟩
  | (i, x) :: ps, z, r, h, hz, hp => by
    simp only [fillP] at h
    cases hn : nth l i with
    | none => simp [hn] at h
    | some f =>
      simp only [hn] at h
      cases hb : Nat.beq f.size x.cells.length with
      | false => simp [hb] at h
      | true =>
        simp only [hb] at h
        cases hl : lput z f.off x.cells with
        | none => simp [hl] at h
        | some z' =>
          simp only [hl] at h
          have hsz : f.size = x.cells.length := (beq_iff _ _).1 hb
          obtain ⟨e1, e2⟩ := lput_eq hl
          have hx := hp (i, x) (by simp)
          have hz' : ClL H z' := by
            intro c hc
            rw [e1] at hc
            rcases List.mem_append.1 hc with hc | hc
            · rcases List.mem_append.1 hc with hc | hc
              · exact hz c (List.mem_of_mem_take hc)
              · exact hx c hc
            · exact hz c (List.mem_of_mem_drop hc)
          obtain ⟨ih1, ih2⟩ := fill_den hf pl hpl ps z' r h hz' (fun p hm => hp p (by simp [hm]))
          refine ⟨?_, ih2⟩
          have hcl : (x.den ρ).cells.toList = denL ρ x.cells := V1.den_cells ρ x
          have hcs : (x.den ρ).cells.size = x.cells.length := by rw [← Array.length_toList, hcl, denL_length]
          simp only [List.map_cons, Instr.fill, hpl i f hn]
          rw [if_neg (by simp [hcs, hsz, denL_length]; omega)]
          rw [← ih1]
          congr 1
          have := foldl_splice f.off (denL ρ x.cells) 0 (denL ρ z).toArray (by simp [denL_length]; omega)
          rw [← hcl] at this
          rw [← Array.foldl_toList, Array.toList_zipIdx]
          refine this.trans ?_
          rw [hcl, e1]
          simp [denL, List.map_append, List.map_take, List.map_drop]
theorem fillA_den {ρ : Nm} {H : Hp AV} (esz : Nat) :
    ∀ (ps : List (Nat × V1)) (z r : List Cell), fillA esz z ps = some r → ClL H z → (∀ p ∈ ps, ClV1 H p.2) →
      Instr.fill (fun i => some (i * esz, esz)) (denL ρ z).toArray (ps.map fun p => (p.1, p.2.den ρ)) = some (denL ρ r).toArray ∧ ClL H r
  | [], z, r, h, hz, _ => by
    simp only [fillA, Option.some.injEq] at h
    subst h
    exact ⟨rfl, hz⟩
  | (i, x) :: ps, z, r, h, hz, hp => by
    simp only [fillA] at h
    cases hb : Nat.beq esz x.cells.length with
    | false => simp [hb] at h
    | true =>
      simp only [hb] at h
      cases hl : lput z (i * esz) x.cells with
      | none => simp [hl] at h
      | some z' =>
        simp only [hl] at h
        have hsz : esz = x.cells.length := (beq_iff _ _).1 hb
        obtain ⟨e1, e2⟩ := lput_eq hl
        have hx := hp (i, x) (by simp)
        have hz' : ClL H z' := by
          intro c hc
          rw [e1] at hc
          rcases List.mem_append.1 hc with hc | hc
          · rcases List.mem_append.1 hc with hc | hc
            · exact hz c (List.mem_of_mem_take hc)
            · exact hx c hc
          · exact hz c (List.mem_of_mem_drop hc)
        obtain ⟨ih1, ih2⟩ := fillA_den esz ps z' r h hz' (fun p hm => hp p (by simp [hm]))
        refine ⟨?_, ih2⟩
        have hcl : (x.den ρ).cells.toList = denL ρ x.cells := V1.den_cells ρ x
        have hcs : (x.den ρ).cells.size = x.cells.length := by rw [← Array.length_toList, hcl, denL_length]
        simp only [List.map_cons, Instr.fill]
        rw [if_neg (by simp [hcs, hsz, denL_length]; rw [← hsz]; omega)]
        rw [← ih1]
        congr 1
        have := foldl_splice (i * esz) (denL ρ x.cells) 0 (denL ρ z).toArray (by simp [denL_length]; omega)
        rw [← hcl] at this
        rw [← Array.foldl_toList, Array.toList_zipIdx]
        refine this.trans ?_
        rw [hcl, e1]
        simp [denL, List.map_append, List.map_take, List.map_drop]
end build
end Go.Sx
