/- The symbolic executor: loads, stores and new blocks are sound. -/
import Derived.Test.YtfamkibdecgbgaaGreatDoorSxG
namespace Go.Sx
variable {AV : Type} {P : Program} {N : Env AV} {ρ : Nm} {H : Hp AV} {w : World}

/-- a heap is closed -/
def ClHp (_N : Env AV) (H : Hp AV) : Prop := (∀ n x, hget H n = some x → ClL H x.cellsOf) ∧ True

theorem Own.lt (h : Own N ρ H w) {n : Nat} {c : Chunk AV} {k : Nat} (hc : hget H n = some c) (hk : c.fp ρ n k) : k < w.heap.size := by
  have := h.q n c hc
  cases c with
  | cells l ty =>
    have hk' : k = ρ n := hk
    subst hk'
    exact (Array.getElem?_eq_some_iff.1 this).1
  | vec l es ty =>
    rcases this with ⟨_, _, h0⟩ | ⟨_, h1, row, h2, _⟩
    · exact absurd hk (h0 k)
    · have := (h1 k).1 hk
      subst this
      exact (Array.getElem?_eq_some_iff.1 h2).1
  | dead => exact hk.elim
  | abs a => exact N.F.dom a (ρ.L n) (ρ.S n) w k this hk

/-- the block of a chunk that stands in both worlds alike -/
theorem q_keep {ρ' : Nm} {w' : World} {n : Nat} {c : Chunk AV} (hq : c.q N ρ n w) (hn : ρ'.L n = ρ.L n) (hS : ρ'.S n = ρ.S n) (hl : denL ρ' c.cellsOf = denL ρ c.cellsOf)
    (hk : ∀ k, c.fp ρ n k → w'.heap[k]? = w.heap[k]?) : c.q N ρ' n w' := by
  cases c with
  | cells l ty =>
    have hf : ρ' n = ρ n := by simp only [Nm.f, hn]
    show w'.heap[ρ' n]? = _
    have hl' : denL ρ' l = denL ρ l := hl
    rw [hf, hl', hk (ρ n) rfl]
    exact hq
  | vec l es ty =>
    show vecQ (ρ'.L n) (ρ'.S n) (denL ρ' l) es ty w'
    have hl' : denL ρ' l = denL ρ l := hl
    rw [hn, hS, hl']
    exact vecQ_keep hq hk
  | dead => trivial
  | abs a =>
    show N.F.q a (ρ'.L n) (ρ'.S n) w'
    rw [hn, hS]
    exact N.F.loc a (ρ.L n) (ρ.S n) w w' hk hq
theorem fp_congr {ρ' : Nm} {n : Nat} {c : Chunk AV} (hn : ρ'.L n = ρ.L n) (hS : ρ'.S n = ρ.S n) : c.fp ρ' n = c.fp ρ n := by
  cases c <;> simp [Chunk.fp, Nm.f, hn, hS]
/-- a name gets a meaning -/
def Nm.set (ρ : Nm) (nm : Nat) (l : Loc) (S : Nat → Prop) : Nm := ⟨fun m => if m = nm then l else ρ.L m, fun m => if m = nm then S else ρ.S m⟩
theorem Nm.set_self (ρ : Nm) (nm : Nat) (l : Loc) (S : Nat → Prop) : (ρ.set nm l S).L nm = l ∧ (ρ.set nm l S).S nm = S := by simp [Nm.set]
theorem Nm.set_ne (ρ : Nm) {nm n : Nat} (l : Loc) (S : Nat → Prop) (h : n ≠ nm) : (ρ.set nm l S).L n = ρ.L n ∧ (ρ.set nm l S).S n = ρ.S n := by simp [Nm.set, h]

/-- a new block, whatever lies in it -/
theorem own_new (hO : Own N ρ H w) (hC : ClHp N H) {nm : Nat} (hn : hget H nm = none) (hlt : nm < H.length) (hG : ¬ nm < N.G) {ck : Chunk AV} (hl : ClL H ck.cellsOf) {L : Nat} (hL : L ≤ nm) {w' : World} {lc : Loc} {S : Nat → Prop}
    (hheap : ∀ k, k < w.heap.size → w'.heap[k]? = w.heap[k]?) (hos : w'.os = w.os) (htp : w'.tape = w.tape) (hout : w'.output = w.output) (hsz : w.heap.size ≤ w'.heap.size)
    (hq : ck.q N (ρ.set nm lc S) nm w') (hfp : ∀ k, ck.fp (ρ.set nm lc S) nm k → w.heap.size ≤ k) :
    Own N (ρ.set nm lc S) (lset H nm (some ck)) w' ∧ Evo N L ρ H w (ρ.set nm lc S) (lset H nm (some ck)) w' ∧ ClHp N (lset H nm (some ck)) := by
  have hne : ∀ n c, hget H n = some c → n ≠ nm := fun n c h e => by subst e; rw [hn] at h; cases h
  have hag : ∀ n c, hget H n = some c → (ρ.set nm lc S).L n = ρ.L n := fun n c h => (ρ.set_ne lc S (hne n c h)).1
  have hagS : ∀ n c, hget H n = some c → (ρ.set nm lc S).S n = ρ.S n := fun n c h => (ρ.set_ne lc S (hne n c h)).2
  have hold : ∀ n c, n ≠ nm → hget (lset H nm (some ck)) n = some c → hget H n = some c := fun n c h e => by rwa [hget_lset_ne _ (Ne.symm h)] at e
  have hnew : ∀ c, hget (lset H nm (some ck)) nm = some c → c = ck := fun c h => by rw [hget_lset_self _ hlt] at h; exact (Option.some.inj h).symm
  have pers : ∀ n c, hget H n = some c → ∃ c', hget (lset H nm (some ck)) n = some c' := fun n c h => ⟨c, by rw [hget_lset_ne _ (Ne.symm (hne n c h))]; exact h⟩
  refine ⟨⟨?_, ?_, ?_⟩, ⟨pers, hag, ?_, ?_, ?_, ?_, hos, htp, hout, hsz⟩, ?_, ?_⟩
  · intro n c hc
    by_cases e : n = nm
    · subst e
      rw [hnew c hc]
      exact hq
    · have hc' := hold n c e hc
      exact q_keep (hO.q n c hc') (hag n c hc') (hagS n c hc') (denL_congr (hC.1 n c hc') hag) (fun k hk => hheap k (hO.lt hc' hk))
  · intro n m c d hnm hc hd k hk hk'
    by_cases e : n = nm
    · subst e
      rw [hnew c hc] at hk
      have hk := hfp k hk
      have hd' := hold m d (Ne.symm hnm) hd
      rw [fp_congr (hag m d hd') (hagS m d hd')] at hk'
      have := hO.lt hd' hk'
      omega
    · have hc' := hold n c e hc
      rw [fp_congr (hag n c hc') (hagS n c hc')] at hk
      by_cases e' : m = nm
      · subst e'
        rw [hnew d hd] at hk'
        have hk'' := hfp k hk'
        have := hO.lt hc' hk
        omega
      · have hd' := hold m d e' hd
        rw [fp_congr (hag m d hd') (hagS m d hd')] at hk'
        exact hO.dis n m c d hnm hc' hd' k hk hk'
  · intro g hg
    have : g ≠ nm := fun e => hG (e ▸ hg)
    have h2 := (ρ.set_ne lc S this).1
    simp only [Nm.f, h2]
    exact hO.glb g hg
  · intro n hnL hh
    have : n ≠ nm := by omega
    rw [hget_lset_ne _ (Ne.symm this)]; exact hh
  · simp [length_lset]
  · intro k hk _; exact hheap k hk
  · intro n c k hc hk
    by_cases e : n = nm
    · subst e
      rw [hnew c hc] at hk
      exact .inl (hfp k hk)
    · have hc' := hold n c e hc
      rw [fp_congr (hag n c hc') (hagS n c hc')] at hk
      exact .inr ⟨n, c, hc', hk⟩
  · intro n x hc
    by_cases e : n = nm
    · subst e
      rw [hnew x hc]
      exact hl.mono pers
    · exact (hC.1 n x (hold n _ e hc)).mono pers
  · trivial
theorem own_alloc (hO : Own N ρ H w) (hC : ClHp N H) {nm : Nat} (hn : hget H nm = none) (hlt : nm < H.length) (hG : ¬ nm < N.G) {l : List Cell} (ty : TypeId) (hl : ClL H l) {L : Nat} (hL : L ≤ nm) :
    Own N (ρ.set nm ⟨w.heap.size, 0, 0⟩ fun _ => False) (lset H nm (some (.cells l ty))) (w.alloc (.cells (denL ρ l).toArray ty)) ∧
    Evo N L ρ H w (ρ.set nm ⟨w.heap.size, 0, 0⟩ fun _ => False) (lset H nm (some (.cells l ty))) (w.alloc (.cells (denL ρ l).toArray ty)) ∧
    ClHp N (lset H nm (some (.cells l ty))) := by
  have hne : ∀ n c, hget H n = some c → n ≠ nm := fun n c h e => by subst e; rw [hn] at h; cases h
  have hag : ∀ n c, hget H n = some c → (ρ.set nm ⟨w.heap.size, 0, 0⟩ fun _ => False).L n = ρ.L n := fun n c h => (ρ.set_ne _ _ (hne n c h)).1
  refine own_new hO hC hn hlt hG (ck := .cells l ty) hl hL (fun k hk => ?_) rfl rfl rfl ?_ ?_ ?_
  · show (w.heap.push _)[k]? = _
    rw [Array.getElem?_push, if_neg (by omega)]
  · show w.heap.size ≤ (w.heap.push _).size; simp
  · show (w.heap.push _)[(ρ.set nm _ _) nm]? = _
    have : (ρ.set nm ⟨w.heap.size, 0, 0⟩ fun _ => False) nm = w.heap.size := by simp [Nm.f, Nm.set]
    rw [this, denL_congr hl hag]
    simp
  · intro k hk
    have hk : k = (ρ.set nm ⟨w.heap.size, 0, 0⟩ fun _ => False) nm := hk
    simp [Nm.f, Nm.set] at hk
    omega

/-- a thing in one block is written -/
theorem own_write (hO : Own N ρ H w) (hC : ClHp N H) {n : Nat} {ck ck' : Chunk AV} (hn : hget H n = some ck) (hl : ClL H ck'.cellsOf) (L : Nat) {row : Array Value}
    (hfp : ck.fp ρ n (ρ n)) (hsame : ∀ k, ck'.fp ρ n k → ck.fp ρ n k) (hq : ck'.q N ρ n (w.setRow (ρ n) row)) :
    Own N ρ (lset H n (some ck')) (w.setRow (ρ n) row) ∧ Evo N L ρ H w ρ (lset H n (some ck')) (w.setRow (ρ n) row) ∧ ClHp N (lset H n (some ck')) := by
  have hlt := hget_lt hn
  have hself := hget_lset_self (H := H) ck' hlt
  have hold : ∀ m c, m ≠ n → hget (lset H n (some ck')) m = some c → hget H m = some c := fun m c h e => by rwa [hget_lset_ne _ (Ne.symm h)] at e
  have pers : ∀ m c, hget H m = some c → ∃ c', hget (lset H n (some ck')) m = some c' := fun m c h => by
    by_cases e : m = n
    · subst e; exact ⟨_, hself⟩
    · exact ⟨c, by rw [hget_lset_ne _ (Ne.symm e)]; exact h⟩
  have hfp' : ∀ m c, hget (lset H n (some ck')) m = some c → ∃ d, hget H m = some d ∧ ∀ k, c.fp ρ m k → d.fp ρ m k := fun m c h => by
    by_cases e : m = n
    · subst e
      rw [hself] at h
      cases h
      exact ⟨_, hn, hsame⟩
    · exact ⟨c, hold m c e h, fun _ h => h⟩
  refine ⟨⟨?_, ?_, hO.glb⟩, ⟨pers, fun _ _ _ => rfl, ?_, ?_, ?_, ?_, rfl, rfl, rfl, ?_⟩, ?_, ?_⟩
  · intro m c hc
    by_cases e : m = n
    · subst e
      rw [hself] at hc
      cases hc
      exact hq
    · have hc' := hold m c e hc
      refine q_keep (hO.q m c hc') rfl rfl rfl (fun k hk => setRow_other w (ρ n) k _ ?_)
      intro hkn
      subst hkn
      exact hO.dis m n c _ e hc' hn _ hk hfp
  · intro m m' c d hmm hc hd k hk hk'
    obtain ⟨c', h1, e1⟩ := hfp' m c hc
    obtain ⟨d', h2, e2⟩ := hfp' m' d hd
    exact hO.dis m m' c' d' hmm h1 h2 k (e1 k hk) (e2 k hk')
  · intro m _ hh
    by_cases e : m = n
    · subst e; rw [hn] at hh; cases hh
    · rw [hget_lset_ne _ (Ne.symm e)]; exact hh
  · simp [length_lset]
  · intro k _ hk
    exact setRow_other w (ρ n) k _ (fun e => hk n _ hn (e ▸ hfp))
  · intro m c k hc hk
    obtain ⟨d, h1, e1⟩ := hfp' m c hc
    exact .inr ⟨m, d, h1, e1 k hk⟩
  · simp
  · intro m x hc
    by_cases e : m = n
    · subst e
      rw [hself] at hc
      cases hc
      exact hl.mono pers
    · exact (hC.1 m x (hold m _ e hc)).mono pers
  · trivial
theorem own_store (hO : Own N ρ H w) (hC : ClHp N H) {n : Nat} {l l' : List Cell} {ty : TypeId} (hn : hget H n = some (.cells l ty)) (hl : ClL H l') (L : Nat) :
    Own N ρ (lset H n (some (.cells l' ty))) (w.setRow (ρ n) (denL ρ l').toArray) ∧
    Evo N L ρ H w ρ (lset H n (some (.cells l' ty))) (w.setRow (ρ n) (denL ρ l').toArray) ∧ ClHp N (lset H n (some (.cells l' ty))) := by
  have hblk : w.heap[ρ n]? = some (.cells (denL ρ l).toArray ty (0, 0)) := hO.q n _ hn
  exact own_write hO hC hn (ck' := .cells l' ty) hl L rfl (fun _ h => h) (setRow_heap w (ρ n) _ _ ty (0, 0) hblk)

/-- reading a part of a row of cells that lie at an address -/
theorem loadVar_run (hT : TblOk P N) {t : TypeId} {l : List Cell} {off : Nat} {x : V1} (h : partV N t l off = some x) (b o : Nat) (hcell : ∀ j c, l[j]? = some c → w.cell? ⟨b, o + j, none⟩ = some (c.den ρ)) :
    (loadVar t ⟨b, o + off, none⟩).run P w = .ok (x.den ρ) w := by
  unfold partV at h
  split at h
  · rename_i i ht
    have hk := tbl_kd hT ht
    have hs := tbl_size hT ht
    obtain ⟨h1, h2⟩ := part1_shape h
    unfold loadVar
    simp only [Sem.run_bind, isAgg_run hk, Result.andThen_ok]
    cases ha : isAggK i.kd with
    | true =>
      obtain ⟨hle, rfl⟩ := h1 ha
      have hlen : (denL ρ ((l.drop off).take i.size)).length = i.size := by simp [denL]; omega
      have := run_loadCells_list (P := P) w ⟨b, o + off, none⟩ (denL ρ ((l.drop off).take i.size)) (by
        intro j v hj
        have hadd : (⟨b, o + off, none⟩ : Addr).add j = ⟨b, o + (off + j), none⟩ := by unfold Addr.add; split <;> simp_all [Nat.add_assoc]
        rw [hadd]
        simp only [denL, List.getElem?_map, Option.map_eq_some_iff] at hj
        obtain ⟨c, hc, rfl⟩ := hj
        refine hcell (off + j) c ?_
        rw [List.getElem?_take] at hc
        split at hc
        · rwa [List.getElem?_drop] at hc
        · cases hc)
      rw [hlen] at this
      simp only [if_true, Sem.run_bind, sizeOf_run hs, Result.andThen_ok, this, Sem.run_pure, V1.den]
    | false =>
      obtain ⟨c, hc, rfl⟩ := h2 ha
      simp only [Bool.false_eq_true, if_false, run_load, hcell off c hc, V1.den]
  · cases h
theorem cells_at (hO : Own N ρ H w) {n : Nat} {l : List Cell} {ty : TypeId} (hn : hget H n = some (.cells l ty)) (j : Nat) (c : Cell) (hc : l[j]? = some c) : w.cell? ⟨ρ n, j, none⟩ = some (c.den ρ) := by
  have : w.heap[ρ n]? = some (.cells (denL ρ l).toArray ty (0, 0)) := hO.q n _ hn
  simp [World.cell?, this, denL, hc]
theorem one_val {t : Option V1} {why : String} {v : SV} (h : (one t why).val = some v) : ∃ x, t = some x ∧ v = .v x := by
  unfold one at h
  split at h
  · simp only [T.val, Option.some.injEq] at h; exact ⟨_, rfl, h.symm⟩
  · simp [T.val] at h
theorem partV_cl {t : TypeId} {l : List Cell} {off : Nat} {x : V1} (h : partV N t l off = some x) (hc : ClL H l) : ClV1 H x := by
  unfold partV at h
  split at h
  · exact part1_cl h hc
  · cases h
theorem vec_at (hO : Own N ρ H w) {n : Nat} {l : List Cell} {es : Nat} {ty : TypeId} (hn : hget H n = some (.vec l es ty)) (j : Nat) (c : Cell) (hc : l[j]? = some c) : w.cell? ⟨ρ n, (ρ.L n).o + j, none⟩ = some (c.den ρ) := by
  rcases hO.q n _ hn with ⟨_, h0, _⟩ | ⟨_, _, row, h2, _, _, h5⟩
  · have : l = [] := by simpa [denL] using h0
    rw [this] at hc; simp at hc
  · have := h5 j (c.den ρ) (by simp [denL, hc])
    simp only [World.cell?, Nm.f, h2]
    simpa using this
theorem load_run (hT : TblOk P N) (hO : Own N ρ H w) (hC : ClHp N H) {t : TypeId} {p v : SV} (h : (loadV N t H p).val = some v) :
    (Instr.loadAt t (p.den ρ)).run P w = .ok (v.den ρ) w ∧ ClV H v := by
  unfold loadV at h
  split at h
  · rename_i n off
    split at h
    · rename_i l ty hn
      obtain ⟨x, hx, rfl⟩ := one_val h
      have := loadVar_run (ρ := ρ) (w := w) hT hx (ρ n) 0 (fun j c hc => by rw [Nat.zero_add]; exact cells_at hO hn j c hc)
      rw [Nat.zero_add] at this
      refine ⟨?_, partV_cl hx (hC.1 n _ hn)⟩
      simp only [Instr.loadAt, SV.den, V1.den, Cell.den, Instr.sureAddr, Sem.run_bind, Sem.run_pure, Result.andThen_ok]
      exact this
    · rename_i a hn
      split at h
      · rename_i l hw
        obtain ⟨x, hx, rfl⟩ := one_val h
        have hq : N.F.q a (ρ.L n) (ρ.S n) w := hO.q n _ hn
        have hrow := N.F.word_ok a (ρ.L n) (ρ.S n) w l hq hw
        have := loadVar_run (ρ := ρ) (w := w) hT hx (ρ n) 0 (fun j c hc => by
          have h2 := hrow j c hc
          have h1 := N.F.word_nm a l hw c (List.mem_of_getElem? hc)
          rw [Nat.zero_add, show ρ n = (ρ.L n).b from rfl, h2, den_congr c (ρ := Nm.id) (ρ' := ρ) (fun m hm => by rw [h1] at hm; cases hm)])
        rw [Nat.zero_add] at this
        refine ⟨?_, partV_cl hx (clL_nil fun c hc => ?_)⟩
        · simp only [Instr.loadAt, SV.den, V1.den, Cell.den, Instr.sureAddr, Sem.run_bind, Sem.run_pure, Result.andThen_ok]
          exact this
        · exact N.F.word_nm a l hw c hc
      · simp [T.val] at h
    · simp [T.val] at h
  · rename_i n idx es off
    split at h
    · rename_i a hn
      split at h
      · rename_i b l hr
        obtain ⟨rfl, h⟩ := need_val h
        obtain ⟨x, hx, rfl⟩ := one_val h
        have hq : N.F.q a (ρ.L n) (ρ.S n) w := hO.q n _ hn
        have hrow := N.F.row_ok a (ρ.L n) (ρ.S n) w idx es l hq hr
        have := loadVar_run (ρ := ρ) (w := w) hT hx (ρ n) ((ρ.L n).o + idx * es) (fun j c hc => by
          have h2 := hrow j c hc
          have h1 := N.F.row_nm a idx es l hr c (List.mem_of_getElem? hc)
          rw [show ρ n = (ρ.L n).b from rfl, h2, den_congr c (ρ := Nm.id) (ρ' := ρ) (fun m hm => by rw [h1] at hm; cases hm)])
        refine ⟨?_, partV_cl hx (clL_nil fun c hc => ?_)⟩
        · simp only [Instr.loadAt, SV.den, V1.den, Cell.den, Instr.sureAddr, Sem.run_bind, Sem.run_pure, Result.andThen_ok]
          exact this
        · exact N.F.row_nm a idx es l hr c hc
      · simp [T.val] at h
    · rename_i l _ ty hn
      obtain ⟨x, hx, rfl⟩ := one_val h
      have := loadVar_run (ρ := ρ) (w := w) hT hx (ρ n) (ρ.L n).o (fun j c hc => vec_at hO hn j c hc)
      refine ⟨?_, partV_cl hx (hC.1 n _ hn)⟩
      simp only [Instr.loadAt, SV.den, V1.den, Cell.den, Instr.sureAddr, Sem.run_bind, Sem.run_pure, Result.andThen_ok]
      rw [Nat.add_assoc]
      exact this
    · simp [T.val] at h
  · simp [T.val] at h
/-- writing a part of a row of cells -/
theorem storeRow_run (hT : TblOk P N) {t : TypeId} {i : TI} {b off : Nat} {row : List Value} {ty : TypeId} {v : V1} (hblk : w.heap[b]? = some (.cells row.toArray ty (0, 0))) (ht : N.tt.get t = some i) (hs : i.size = v.cells.length)
    (hle : off + v.cells.length ≤ row.length) : (Instr.storeAt t (.pointer (some ⟨b, off, none⟩)) (v.den ρ)).run P w = .ok () (w.setRow b (row.take off ++ (denL ρ v.cells ++ row.drop (off + v.cells.length))).toArray) := by
  have hcl : (v.den ρ).cells.toList = denL ρ v.cells := V1.den_cells ρ v
  have hcs : (v.den ρ).cells.size = i.size := by rw [← Array.length_toList, hcl, denL_length, hs]
  have := run_storeCells_at P b off ty (denL ρ v.cells) 0 row.toArray w hblk (by simp [denL_length]; omega) (by
    intro x hx
    simp only [denL, List.mem_map] at hx
    obtain ⟨c, _, rfl⟩ := hx
    exact den_one ρ c)
  simp only [Instr.storeAt, Instr.sureAddr, Sem.run_bind, Sem.run_pure, Result.andThen_ok, storeVar, sizeOf_run (tbl_size hT ht), hcs, ne_eq, not_true_eq_false, if_false, hcl]
  erw [this]
  congr 3
  simp [denL]
theorem store_run (hT : TblOk P N) (hO : Own N ρ H w) {t : TypeId} {i : TI} {n off : Nat} {l l' : List Cell} {ty : TypeId} {v : V1} (hn : hget H n = some (.cells l ty)) (ht : N.tt.get t = some i) (hs : i.size = v.cells.length)
    (hl : lput l off v.cells = some l') : (Instr.storeAt t (.pointer (some ⟨ρ n, off, none⟩)) (v.den ρ)).run P w = .ok () (w.setRow (ρ n) (denL ρ l').toArray) := by
  have hblk : w.heap[ρ n]? = some (.cells (denL ρ l).toArray ty (0, 0)) := hO.q n _ hn
  obtain ⟨e1, e2⟩ := lput_eq hl
  have hcl : (v.den ρ).cells.toList = denL ρ v.cells := V1.den_cells ρ v
  have hcs : (v.den ρ).cells.size = i.size := by rw [← Array.length_toList, hcl, denL_length, hs]
  have := run_storeCells_at P (ρ n) off ty (denL ρ v.cells) 0 (denL ρ l).toArray w hblk (by simp [denL_length]; omega) (by
    intro x hx
    simp only [denL, List.mem_map] at hx
    obtain ⟨c, _, rfl⟩ := hx
    exact den_one ρ c)
  simp only [Instr.storeAt, Instr.sureAddr, Sem.run_bind, Sem.run_pure, Result.andThen_ok, storeVar, sizeOf_run (tbl_size hT ht), hcs, ne_eq, not_true_eq_false, if_false, hcl]
  erw [this]
  congr 3
  rw [e1]
  simp [denL, List.map_append, List.map_take, List.map_drop]
end Go.Sx
