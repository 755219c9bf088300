/- The symbolic executor: two operations that touch different blocks may change places. -/
import Derived.Test.YtfamkibdecgbgaaGreatDoorSxL1
namespace Go.Sx
variable {AV : Type} {N : Env AV}

theorem hasN_iff : ∀ (l : List Nat) (n : Nat), hasN l n = true ↔ n ∈ l
  | [], n => by simp [hasN]
  | x :: r, n => by
    simp only [hasN]
    split
    · rename_i h; simp [(beq_iff _ _).1 h]
    · rename_i h
      have := (beq_false_iff _ _).1 h
      rw [hasN_iff r n]
      simp [Ne.symm this]
theorem reach_acc (H : Hp AV) : ∀ (f : Nat) (todo acc : List Nat) (n : Nat), n ∈ acc → n ∈ reach H f todo acc
  | 0, _, _, _, h => by simpa [reach] using h
  | _ + 1, [], _, _, h => by simpa [reach] using h
  | f + 1, m :: r, acc, n, h => by
    simp only [reach]
    split
    · exact reach_acc H f r acc n h
    · split
      · exact reach_acc H f _ _ n (List.mem_cons_of_mem _ h)
      · exact reach_acc H f _ _ n (List.mem_cons_of_mem _ h)
      · exact reach_acc H f _ _ n (List.mem_cons_of_mem _ h)
/-- a block that is not come to does not matter -/
theorem reach_same {H H2 : Hp AV} {m : Nat} (hd : ∀ n, n ≠ m → hget H2 n = hget H n) : ∀ (f : Nat) (todo acc : List Nat), m ∉ reach H f todo acc → reach H2 f todo acc = reach H f todo acc
  | 0, _, _, _ => rfl
  | _ + 1, [], _, _ => rfl
  | f + 1, n :: r, acc, h => by
    simp only [reach] at h ⊢
    cases ha : hasN acc n with
    | true => simp only [ha] at h ⊢; exact reach_same hd f r acc h
    | false =>
      simp only [ha] at h ⊢
      have hn : n ≠ m := by
        intro e
        subst e
        split at h
        · exact h (reach_acc H f _ _ n (by simp))
        · exact h (reach_acc H f _ _ n (by simp))
        · exact h (reach_acc H f _ _ n (by simp))
      rw [hd n hn]
      cases hl : hget H n with
      | none => simp only [hl] at h ⊢; exact reach_same hd f _ _ h
      | some c =>
        cases c with
        | cells l ty => simp only [hl] at h ⊢; exact reach_same hd f _ _ h
        | vec l es ty => simp only [hl] at h ⊢; exact reach_same hd f _ _ h
        | dead => simp only [hl] at h ⊢; exact reach_same hd f _ _ h
        | abs a => simp only [hl] at h ⊢; exact reach_same hd f _ _ h
theorem not_sees {R : List Nat} {n : Nat} (h : sees R n = false) : n ∉ R := by
  unfold sees at h
  intro hm; rw [(hasN_iff R n).2 hm] at h; cases h
theorem mask_lset {R : List Nat} {n : Nat} (h : sees R n = false) (x : Option (Chunk AV)) : ∀ (H : Hp AV) (i k : Nat), i + k = n → maskH R i (lset H k x) = maskH R i H
  | [], _, _, _ => by simp [lset]
  | y :: r, i, 0, e => by
    simp only [lset, maskH]
    have : i = n := by omega
    rw [this, h]
  | y :: r, i, k + 1, e => by
    simp only [lset, maskH]
    rw [mask_lset h x r (i + 1) k (by omega)]
theorem merge_lset {R : List Nat} {n : Nat} (h : sees R n = false) (c : Chunk AV) : ∀ (H B : Hp AV) (i k : Nat), i + k = n → k < H.length → H.length ≤ B.length → mergeH R i (lset H k (some c)) B = lset (mergeH R i H B) k (some c)
  | [], _, _, _, _, hk, _ => by simp at hk
  | y :: r, [], i, k, _, _, hl => by simp at hl
  | y :: r, b :: q, i, 0, e, _, _ => by
    have : i = n := by omega
    cases y <;> simp [lset, mergeH, this, h]
  | y :: r, b :: q, i, k + 1, e, hk, hl => by
    have ih := merge_lset h c r q (i + 1) k (by omega) (by simpa using hk) (by simpa using hl)
    cases y <;> simp [lset, mergeH, ih]
theorem merge_keep {R : List Nat} {H B : Hp AV} {n : Nat} (h : sees R n = false) (hn : n < H.length) (hl : H.length ≤ B.length) : hget (mergeH R 0 H B) n = hget H n := by
  rw [hget_merge _ _ _ _ _ hl, if_pos hn, Nat.zero_add, h]
  cases hget H n <;> simp
theorem lset_comm {α : Type} (l : List α) {n m : Nat} (x y : α) (h : n ≠ m) : lset (lset l n x) m y = lset (lset l m y) n x := by
  simp only [lset_eq]; exact List.set_comm _ _ h
theorem compat_symm {a b : Ent} (h : compatE a b = true) : compatE b a = true := by
  cases a <;> cases b <;> simp_all [compatE] <;> exact (beq_false_iff _ _).2 (Ne.symm ((beq_false_iff _ _).1 h))

/-- what is asked of one of the two: the names that it reads are there, the name of the block that it makes lies in the heap -/
structure Fits (N : Env AV) (o : Op) (nm : Nat) (ev : Operand → Option SV) (H : Hp AV) : Prop where
  cl : ∀ x ∈ o.operands, ∀ v, ev x = some v → ClV H v
  room : (makes o = true) → nm < H.length

theorem upd_len (H : Hp AV) (u : Option (Nat × Chunk AV)) : (updH H u).length = H.length := by
  cases u with
  | none => rfl
  | some p => simp [updH, length_lset]

/-- what an operation that is no call touches lies in the heap -/
theorem ent_in {cal : Callee AV} {W : Bool} {nm : Nat} {o : Op} {ev : Operand → Option SV} {H H0 H' : Hp AV} {v : SV} {en : Ent} (hf : Fits N o nm ev H0) (h : eff N cal W nm o ev H = some (v, H', en)) (n : Nat) (hn : en = .rd n ∨ en = .wr n) : n < H0.length := by
  unfold eff at h
  cases W with
  | false =>
    simp only [Option.some.injEq, Prod.mk.injEq] at h
    obtain ⟨_, _, rfl⟩ := h
    rcases hn with hn | hn <;> cases hn
  | true =>
    simp only at h
    have hen : ∃ H3, entOf N nm ev H H3 o = en := by
      split at h
      · obtain ⟨r, _, he⟩ := Option.map_eq_some_iff.1 h; cases he; exact ⟨_, rfl⟩
      · cases h
      · obtain ⟨r, _, he⟩ := Option.map_eq_some_iff.1 h; cases he; exact ⟨_, rfl⟩
    obtain ⟨H3, hen⟩ := hen
    rw [← hen] at hn
    unfold entOf at hn
    split at hn
    · rcases hn with hn | hn <;> cases hn
    · rcases hn with hn | hn <;> cases hn
    · have ptrIn : ∀ x ∈ o.operands, ∀ c m, ev x = some (.v (.c c)) → c.name = some m → m < H0.length := by
        intro x hx c m hev hm
        obtain ⟨y, hy⟩ := hf.cl x hx _ hev c (by simp [V1.cells]) m hm
        exact hget_lt hy
      rename_i hcc
      clear h hen hcc
      cases o <;> simp only [] at hn <;> (try (rcases hn with hn | hn <;> cases hn; done))
      case alloc t =>
        rcases hn with hn | hn <;> cases hn
        exact hf.room rfl
      case box t x =>
        rcases hn with hn | hn <;> cases hn
        exact hf.room rfl
      case makeSlice t x y =>
        rcases hn with hn | hn <;> cases hn
        exact hf.room rfl
      case buildSlice t len parts =>
        rcases hn with hn | hn <;> cases hn
        exact hf.room rfl
      case load t x =>
        split at hn
        · rename_i m off hx
          rcases hn with hn | hn <;> cases hn
          exact ptrIn x (by simp [Op.operands]) _ _ hx rfl
        · rename_i hx
          rcases hn with hn | hn <;> cases hn
          exact ptrIn x (by simp [Op.operands]) _ _ hx rfl
        · rcases hn with hn | hn <;> cases hn
      case store t x y =>
        split at hn
        · rename_i m off hx
          rcases hn with hn | hn <;> cases hn
          exact ptrIn x (by simp [Op.operands]) _ _ hx rfl
        · rename_i hx
          rcases hn with hn | hn <;> cases hn
          exact ptrIn x (by simp [Op.operands]) _ _ hx rfl
        · rcases hn with hn | hn <;> cases hn

theorem sees_false {R : List Nat} {n : Nat} (h : (!sees R n) = true) : sees R n = false := by
  cases hs : sees R n <;> simp_all

/-- THE TWO MAY CHANGE PLACES. -/
theorem eff_comm {cal : Callee AV} {Wi Wj : Bool} {ni nj : Nat} {oi oj : Op} {evi evj : Operand → Option SV} {H Hi Hij : Hp AV} {vi vj : SV} {ei ej : Ent}
    (fi : Fits N oi ni evi H) (fj : Fits N oj nj evj H)
    (h1 : eff N cal Wi ni oi evi H = some (vi, Hi, ei)) (h2 : eff N cal Wj nj oj evj Hi = some (vj, Hij, ej)) (hc : compatE ei ej = true) :
    ∃ Hj, eff N cal Wj nj oj evj H = some (vj, Hj, ej) ∧ eff N cal Wi ni oi evi Hj = some (vi, Hij, ei) := by
  cases hi : isCall ei with
  | false =>
    obtain ⟨ui, rfl, hui, _, ki⟩ := eff_light h1 hi
    have leni : (updH H ui).length = H.length := upd_len H ui
    cases hj : isCall ej with
    | false =>
      obtain ⟨uj, rfl, huj, _, kj⟩ := eff_light h2 hj
      have nj_in := ent_in fj h2
      -- j at H
      have e1 : eff N cal Wj nj oj evj H = some (vj, updH H uj, ej) := by
        refine kj H (fun n hn => ?_) (fun hm => fj.room hm)
        rcases hui with rfl | ⟨m, c, rfl, hwr, hlt⟩
        · rfl
        · have hne : m ≠ n := by
            intro e
            subst e
            subst hwr
            rcases hn with rfl | rfl <;> simp [compatE, Nat.beq_refl] at hc
          simp only [updH]
          rw [hget_lset_ne _ hne]
      refine ⟨_, e1, ?_⟩
      have e2 : eff N cal Wi ni oi evi (updH H uj) = some (vi, updH (updH H uj) ui, ei) := by
        refine ki _ (fun n hn => ?_) (fun hm => by rw [upd_len]; exact fi.room hm)
        rcases huj with rfl | ⟨m, c, rfl, hwr, hlt⟩
        · rfl
        · have hne : m ≠ n := by
            intro e
            subst e
            subst hwr
            rcases hn with rfl | rfl <;> simp [compatE, Nat.beq_refl] at hc
          simp only [updH]
          rw [hget_lset_ne _ hne]
      rw [e2]
      congr 3
      rcases hui with rfl | ⟨m, c, rfl, hwr, hlt⟩
      · rfl
      · rcases huj with rfl | ⟨m', c', rfl, hwr', hlt'⟩
        · rfl
        · subst hwr hwr'
          have hne : m ≠ m' := by
            intro e; subst e; simp [compatE, Nat.beq_refl] at hc
          simp only [updH]
          exact (lset_comm H _ _ hne).symm
    | true =>
      cases ej with
      | pure => cases hj
      | rd _ => cases hj
      | wr _ => cases hj
      | call R U =>
        obtain ⟨l, B, hR, hlen, rfl, _, hU, kj⟩ := eff_call h2
        rw [leni] at hlen
        have ni_in := ent_in fi h1
        -- what i writes j does not see; what i reads j leaves
        have hns : ∀ n, ei = .wr n → sees R n = false := by
          intro n hn
          subst hn
          exact sees_false hc
        have hkp : ∀ n, (ei = .rd n ∨ ei = .wr n) → hget (mergeH R 0 H B) n = hget H n := by
          intro n hn
          cases hs : sees R n with
          | false => exact merge_keep hs (ni_in n hn) hlen
          | true =>
            rcases hn with rfl | rfl
            · rcases hui with rfl | ⟨m, c, rfl, hwr, hlt⟩
              · refine hU n ?_
                simpa [compatE, hs] using hc
              · cases hwr
            · rw [hns n rfl] at hs; cases hs
        have e1 : eff N cal Wj nj oj evj H = some (vj, mergeH R 0 H B, .call R U) := by
          rcases hui with rfl | ⟨m, c, rfl, hwr, hlt⟩
          · exact kj H hR.symm rfl
          · have hm := hns m hwr
            refine kj H ?_ ?_
            · rw [hR] at hm ⊢
              refine reach_same (m := m) (fun n hn => ?_) _ _ _ (not_sees hm)
              simp only [updH]; rw [hget_lset_ne _ (Ne.symm hn)]
            · simp only [updH]; exact (mask_lset hm _ H 0 m (by omega)).symm
        refine ⟨_, e1, ?_⟩
        have e2 : eff N cal Wi ni oi evi (mergeH R 0 H B) = some (vi, updH (mergeH R 0 H B) ui, ei) := by
          refine ki _ (fun n hn => hkp n hn) (fun hm => ?_)
          rw [merge_len _ _ _ _ hlen]
          exact Nat.lt_of_lt_of_le (fi.room hm) hlen
        rw [e2]
        congr 3
        rcases hui with rfl | ⟨m, c, rfl, hwr, hlt⟩
        · rfl
        · simp only [updH]
          exact (merge_lset (hns m hwr) c H B 0 m (by omega) hlt hlen).symm
  | true =>
    cases ei with
    | pure => cases hi
    | rd _ => cases hi
    | wr _ => cases hi
    | call R U =>
      obtain ⟨l, B, hR, hlen, rfl, _, hU, ki⟩ := eff_call h1
      cases hj : isCall ej with
      | true =>
        cases ej with
        | call R' U' => simp [compatE] at hc
        | pure => cases hj
        | rd _ => cases hj
        | wr _ => cases hj
      | false =>
        obtain ⟨uj, rfl, huj, _, kj⟩ := eff_light h2 hj
        have nj_in := ent_in fj h2
        have hns : ∀ n, ej = .wr n → sees R n = false := by
          intro n hn
          subst hn
          exact sees_false hc
        have hkp : ∀ n, (ej = .rd n ∨ ej = .wr n) → hget H n = hget (mergeH R 0 H B) n := by
          intro n hn
          cases hs : sees R n with
          | false => exact (merge_keep hs (nj_in n hn) hlen).symm
          | true =>
            rcases hn with rfl | rfl
            · refine (hU n ?_).symm
              simpa [compatE, hs] using hc
            · rw [hns n rfl] at hs; cases hs
        have e1 : eff N cal Wj nj oj evj H = some (vj, updH H uj, ej) :=
          kj H (fun n hn => hkp n hn) (fun hm => fj.room hm)
        refine ⟨_, e1, ?_⟩
        have e2 : eff N cal Wi ni oi evi (updH H uj) = some (vi, mergeH R 0 (updH H uj) B, .call R U) := by
          rcases huj with rfl | ⟨m, c, rfl, hwr, hlt⟩
          · exact ki H hR.symm rfl
          · have hm := hns m hwr
            refine ki _ ?_ ?_
            · rw [hR] at hm ⊢
              refine reach_same (m := m) (fun n hn => ?_) _ _ _ (not_sees hm)
              simp only [updH]; rw [hget_lset_ne _ (Ne.symm hn)]
            · simp only [updH]; exact mask_lset hm _ H 0 m (by omega)
        rw [e2]
        congr 3
        rcases huj with rfl | ⟨m, c, rfl, hwr, hlt⟩
        · rfl
        · simp only [updH]
          exact merge_lset (hns m hwr) c H B 0 m (by omega) (nj_in m (.inr hwr)) hlen
end Go.Sx
