/- The symbolic executor: loads, stores and new blocks are sound. -/
import Derived.Test.YtmdojlkmgllhnaaGreatDoorSxG
import Derived.Laws.MakeOwn
namespace Go.Sx
variable {AV : Type} {P : Program} {N : Env AV} {ρ : Nm} {H : Hp AV} {w : World}

/-- a heap is closed -/
def ClHp (_N : Env AV) (H : Hp AV) : Prop := (∀ n x, hget H n = some x → ClL H x.cellsOf) ∧ True

theorem Own.lt (h : Own N ρ H w) {n : Nat} {c : Chunk AV} {k : Nat} (hc : hget H n = some c) (hk : c.fp ρ n k) : k < w.heap.size := by
  have := h.q n c hc
  cases c with
  | cells l ty =>
    have hk' : k = ρ n := hk
    subst hk'
    exact (Array.getElem?_eq_some_iff.1 this).1
  | vec l es ty =>
    rcases this with ⟨_, _, h0⟩ | ⟨_, h1, row, h2, _⟩
    · exact absurd hk (h0 k)
    · have := (h1 k).1 hk
      subst this
      exact (Array.getElem?_eq_some_iff.1 h2).1
  | dead => exact hk.elim
  | abs a => exact N.F.dom a (ρ.L n) (ρ.S n) w k this hk

/-- the block of a chunk that stands in both worlds alike -/
theorem q_keep {ρ' : Nm} {w' : World} {n : Nat} {c : Chunk AV} (hq : c.q N ρ n w) (hn : ρ'.L n = ρ.L n) (hS : ρ'.S n = ρ.S n) (hl : denL ρ' c.cellsOf = denL ρ c.cellsOf)
    (hk : ∀ k, c.fp ρ n k → w'.heap[k]? = w.heap[k]?) : c.q N ρ' n w' := by
  cases c with
  | cells l ty =>
    have hf : ρ' n = ρ n := by simp only [Nm.f, hn]
    show w'.heap[ρ' n]? = _
    have hl' : denL ρ' l = denL ρ l := hl
    rw [hf, hl', hk (ρ n) rfl]
    exact hq
  | vec l es ty =>
    show vecQ (ρ'.L n) (ρ'.S n) (denL ρ' l) es ty w'
    have hl' : denL ρ' l = denL ρ l := hl
    rw [hn, hS, hl']
    exact vecQ_keep hq hk
  | dead => trivial
  | abs a =>
    show N.F.q a (ρ'.L n) (ρ'.S n) w'
    rw [hn, hS]
    exact N.F.loc a (ρ.L n) (ρ.S n) w w' hk hq
theorem fp_congr {ρ' : Nm} {n : Nat} {c : Chunk AV} (hn : ρ'.L n = ρ.L n) (hS : ρ'.S n = ρ.S n) : c.fp ρ' n = c.fp ρ n := by
  cases c <;> simp [Chunk.fp, Nm.f, hn, hS]
/-- a name gets a meaning -/
def Nm.set (ρ : Nm) (nm : Nat) (l : Loc) (S : Nat → Prop) : Nm := ⟨fun m => if m = nm then l else ρ.L m, fun m => if m = nm then S else ρ.S m⟩
theorem Nm.set_self (ρ : Nm) (nm : Nat) (l : Loc) (S : Nat → Prop) : (ρ.set nm l S).L nm = l ∧ (ρ.set nm l S).S nm = S := by simp [Nm.set]
theorem Nm.set_ne (ρ : Nm) {nm n : Nat} (l : Loc) (S : Nat → Prop) (h : n ≠ nm) : (ρ.set nm l S).L n = ρ.L n ∧ (ρ.set nm l S).S n = ρ.S n := by simp [Nm.set, h]

/-- a new block, whatever lies in it -/
theorem own_new (hO : Own N ρ H w) (hC : ClHp N H) {nm : Nat} (hn : hget H nm = none) (hlt : nm < H.length) (hG : ¬ nm < N.G) {ck : Chunk AV} (hl : ClL H ck.cellsOf) {L : Nat} (hL : L ≤ nm) {w' : World} {lc : Loc} {S : Nat → Prop}
    (hheap : ∀ k, k < w.heap.size → w'.heap[k]? = w.heap[k]?) (hos : w'.os = w.os) (htp : w'.tape = w.tape) (hout : w'.output = w.output) (hsz : w.heap.size ≤ w'.heap.size)
    (hq : ck.q N (ρ.set nm lc S) nm w') (hfp : ∀ k, ck.fp (ρ.set nm lc S) nm k → w.heap.size ≤ k) :
    Own N (ρ.set nm lc S) (lset H nm (some ck)) w' ∧ Evo N L ρ H w (ρ.set nm lc S) (lset H nm (some ck)) w' ∧ ClHp N (lset H nm (some ck)) := by
  have hne : ∀ n c, hget H n = some c → n ≠ nm := fun n c h e => by subst e; rw [hn] at h; cases h
  have hag : ∀ n c, hget H n = some c → (ρ.set nm lc S).L n = ρ.L n := fun n c h => (ρ.set_ne lc S (hne n c h)).1
  have hagS : ∀ n c, hget H n = some c → (ρ.set nm lc S).S n = ρ.S n := fun n c h => (ρ.set_ne lc S (hne n c h)).2
  have hold : ∀ n c, n ≠ nm → hget (lset H nm (some ck)) n = some c → hget H n = some c := fun n c h e => by rwa [hget_lset_ne _ (Ne.symm h)] at e
  have hnew : ∀ c, hget (lset H nm (some ck)) nm = some c → c = ck := fun c h => by rw [hget_lset_self _ hlt] at h; exact (Option.some.inj h).symm
  have pers : ∀ n c, hget H n = some c → ∃ c', hget (lset H nm (some ck)) n = some c' := fun n c h => ⟨c, by rw [hget_lset_ne _ (Ne.symm (hne n c h))]; exact h⟩
  refine ⟨⟨?_, ?_, ?_⟩, ⟨pers, hag, ?_, ?_, ?_, ?_, hos, htp, hout, hsz⟩, ?_, ?_⟩
  · intro n c hc
    by_cases e : n = nm
    · subst e
      rw [hnew c hc]
      exact hq
    · have hc' := hold n c e hc
      exact q_keep (hO.q n c hc') (hag n c hc') (hagS n c hc') (denL_congr (hC.1 n c hc') hag) (fun k hk => hheap k (hO.lt hc' hk))
  · intro n m c d hnm hc hd k hk hk'
    by_cases e : n = nm
    · subst e
      rw [hnew c hc] at hk
      have hk := hfp k hk
      have hd' := hold m d (Ne.symm hnm) hd
      rw [fp_congr (hag m d hd') (hagS m d hd')] at hk'
      have := hO.lt hd' hk'
      omega
    · have hc' := hold n c e hc
      rw [fp_congr (hag n c hc') (hagS n c hc')] at hk
      by_cases e' : m = nm
      · subst e'
        rw [hnew d hd] at hk'
        have hk'' := hfp k hk'
        have := hO.lt hc' hk
        omega
      · have hd' := hold m d e' hd
        rw [fp_congr (hag m d hd') (hagS m d hd')] at hk'
        exact hO.dis n m c d hnm hc' hd' k hk hk'
  · intro g hg
    have : g ≠ nm := fun e => hG (e ▸ hg)
    have h2 := (ρ.set_ne lc S this).1
    simp only [Nm.f, h2]
    exact hO.glb g hg
  · intro n hnL hh
    have : n ≠ nm := by omega
    rw [hget_lset_ne _ (Ne.symm this)]; exact hh
  · simp [length_lset]
  · intro k hk _; exact hheap k hk
  · intro n c k hc hk
    by_cases e : n = nm
    · subst e
      rw [hnew c hc] at hk
      exact .inl (hfp k hk)
    · have hc' := hold n c e hc
      rw [fp_congr (hag n c hc') (hagS n c hc')] at hk
      exact .inr ⟨n, c, hc', hk⟩
  · intro n x hc
    by_cases e : n = nm
    · subst e
      rw [hnew x hc]
      exact hl.mono pers
    · exact (hC.1 n x (hold n _ e hc)).mono pers
  · trivial
theorem own_alloc (hO : Own N ρ H w) (hC : ClHp N H) {nm : Nat} (hn : hget H nm = none) (hlt : nm < H.length) (hG : ¬ nm < N.G) {l : List Cell} (ty : TypeId) (hl : ClL H l) {L : Nat} (hL : L ≤ nm) :
    Own N (ρ.set nm ⟨w.heap.size, 0, 0⟩ fun _ => False) (lset H nm (some (.cells l ty))) (w.alloc (.cells (denL ρ l).toArray ty)) ∧
    Evo N L ρ H w (ρ.set nm ⟨w.heap.size, 0, 0⟩ fun _ => False) (lset H nm (some (.cells l ty))) (w.alloc (.cells (denL ρ l).toArray ty)) ∧
    ClHp N (lset H nm (some (.cells l ty))) := by
  have hne : ∀ n c, hget H n = some c → n ≠ nm := fun n c h e => by subst e; rw [hn] at h; cases h
  have hag : ∀ n c, hget H n = some c → (ρ.set nm ⟨w.heap.size, 0, 0⟩ fun _ => False).L n = ρ.L n := fun n c h => (ρ.set_ne _ _ (hne n c h)).1
  refine own_new hO hC hn hlt hG (ck := .cells l ty) hl hL (fun k hk => ?_) rfl rfl rfl ?_ ?_ ?_
  · show (w.heap.push _)[k]? = _
    rw [Array.getElem?_push, if_neg (by omega)]
  · show w.heap.size ≤ (w.heap.push _).size; simp
  · show (w.heap.push _)[(ρ.set nm _ _) nm]? = _
    have : (ρ.set nm ⟨w.heap.size, 0, 0⟩ fun _ => False) nm = w.heap.size := by simp [Nm.f, Nm.set]
    rw [this, denL_congr hl hag]
    simp
  · intro k hk
    have hk : k = (ρ.set nm ⟨w.heap.size, 0, 0⟩ fun _ => False) nm := hk
    simp [Nm.f, Nm.set] at hk
    omega

/-- a thing in one block is written -/
theorem own_write (hO : Own N ρ H w) (hC : ClHp N H) {n : Nat} {ck ck' : Chunk AV} (hn : hget H n = some ck) (hl : ClL H ck'.cellsOf) (L : Nat) {row : Array Value}
    (hfp : ck.fp ρ n (ρ n)) (hsame : ∀ k, ck'.fp ρ n k → ck.fp ρ n k) (hq : ck'.q N ρ n (w.setRow (ρ n) row)) :
    Own N ρ (lset H n (some ck')) (w.setRow (ρ n) row) ∧ Evo N L ρ H w ρ (lset H n (some ck')) (w.setRow (ρ n) row) ∧ ClHp N (lset H n (some ck')) := by
  have hlt := hget_lt hn
  have hself := hget_lset_self (H := H) ck' hlt
  have hold : ∀ m c, m ≠ n → hget (lset H n (some ck')) m = some c → hget H m = some c := fun m c h e => by rwa [hget_lset_ne _ (Ne.symm h)] at e
  have pers : ∀ m c, hget H m = some c → ∃ c', hget (lset H n (some ck')) m = some c' := fun m c h => by
    by_cases e : m = n
    · subst e; exact ⟨_, hself⟩
    · exact ⟨c, by rw [hget_lset_ne _ (Ne.symm e)]; exact h⟩
  have hfp' : ∀ m c, hget (lset H n (some ck')) m = some c → ∃ d, hget H m = some d ∧ ∀ k, c.fp ρ m k → d.fp ρ m k := fun m c h => by
    by_cases e : m = n
    · subst e
      rw [hself] at h
      cases h
      exact ⟨_, hn, hsame⟩
    · exact ⟨c, hold m c e h, fun _ h => h⟩
  refine ⟨⟨?_, ?_, hO.glb⟩, ⟨pers, fun _ _ _ => rfl, ?_, ?_, ?_, ?_, rfl, rfl, rfl, ?_⟩, ?_, ?_⟩
  · intro m c hc
    by_cases e : m = n
    · subst e
      rw [hself] at hc
      cases hc
      exact hq
    · have hc' := hold m c e hc
      refine q_keep (hO.q m c hc') rfl rfl rfl (fun k hk => setRow_other w (ρ n) k _ ?_)
      intro hkn
      subst hkn
      exact hO.dis m n c _ e hc' hn _ hk hfp
  · intro m m' c d hmm hc hd k hk hk'
    obtain ⟨c', h1, e1⟩ := hfp' m c hc
    obtain ⟨d', h2, e2⟩ := hfp' m' d hd
    exact hO.dis m m' c' d' hmm h1 h2 k (e1 k hk) (e2 k hk')
  · intro m _ hh
    by_cases e : m = n
    · subst e; rw [hn] at hh; cases hh
    · rw [hget_lset_ne _ (Ne.symm e)]; exact hh
  · simp [length_lset]
  · intro k _ hk
    exact setRow_other w (ρ n) k _ (fun e => hk n _ hn (e ▸ hfp))
  · intro m c k hc hk
    obtain ⟨d, h1, e1⟩ := hfp' m c hc
    exact .inr ⟨m, d, h1, e1 k hk⟩
  · simp
  · intro m x hc
    by_cases e : m = n
    · subst e
      rw [hself] at hc
      cases hc
      exact hl.mono pers
    · exact (hC.1 m x (hold m _ e hc)).mono pers
  · trivial
theorem own_store (hO : Own N ρ H w) (hC : ClHp N H) {n : Nat} {l l' : List Cell} {ty : TypeId} (hn : hget H n = some (.cells l ty)) (hl : ClL H l') (L : Nat) :
    Own N ρ (lset H n (some (.cells l' ty))) (w.setRow (ρ n) (denL ρ l').toArray) ∧
    Evo N L ρ H w ρ (lset H n (some (.cells l' ty))) (w.setRow (ρ n) (denL ρ l').toArray) ∧ ClHp N (lset H n (some (.cells l' ty))) := by
  have hblk : w.heap[ρ n]? = some (.cells (denL ρ l).toArray ty (0, 0)) := hO.q n _ hn
  exact own_write hO hC hn (ck' := .cells l' ty) hl L rfl (fun _ h => h) (setRow_heap w (ρ n) _ _ ty (0, 0) hblk)

/-- reading a part of a row of cells that lie at an address -/
theorem loadVar_run (hT : TblOk P N) {t : TypeId} {l : List Cell} {off : Nat} {x : V1} (h : partV N t l off = some x) (b o : Nat) (hcell : ∀ j c, l[j]? = some c → w.cell? ⟨b, o + j, none⟩ = some (c.den ρ)) :
    (loadVar t ⟨b, o + off, none⟩).run P w = .ok (x.den ρ) w := by
  unfold partV at h
  split at h
  · rename_i i ht
    have hk := tbl_kd hT ht
    have hs := tbl_size hT ht
    obtain ⟨h1, h2⟩ := part1_shape h
    unfold loadVar
    simp only [Sem.run_bind, isAgg_run hk, Result.andThen_ok]
    cases ha : isAggK i.kd with
    | true =>
      obtain ⟨hle, rfl⟩ := h1 ha
      have hlen : (denL ρ ((l.drop off).take i.size)).length = i.size := by simp [denL]; omega
      have := run_loadCells_list (P := P) w ⟨b, o + off, none⟩ (denL ρ ((l.drop off).take i.size)) (by
        intro j v hj
        have hadd : (⟨b, o + off, none⟩ : Addr).add j = ⟨b, o + (off + j), none⟩ := by unfold Addr.add; split <;> simp_all [Nat.add_assoc]
        rw [hadd]
        simp only [denL, List.getElem?_map, Option.map_eq_some_iff] at hj
        obtain ⟨c, hc, rfl⟩ := hj
        refine hcell (off + j) c ?_
        rw [List.getElem?_take] at hc
        split at hc
        · rwa [List.getElem?_drop] at hc
        · cases hc)
      rw [hlen] at this
      simp only [if_true, Sem.run_bind, sizeOf_run hs, Result.andThen_ok, this, Sem.run_pure, V1.den]
    | false =>
      obtain ⟨c, hc, rfl⟩ := h2 ha
      simp only [Bool.false_eq_true, if_false, run_load, hcell off c hc, V1.den]
  · cases h
theorem cells_at (hO : Own N ρ H w) {n : Nat} {l : List Cell} {ty : TypeId} (hn : hget H n = some (.cells l ty)) (j : Nat) (c : Cell) (hc : l[j]? = some c) : w.cell? ⟨ρ n, j, none⟩ = some (c.den ρ) := by
  have : w.heap[ρ n]? = some (.cells (denL ρ l).toArray ty (0, 0)) := hO.q n _ hn
  simp [World.cell?, this, denL, hc]
theorem one_val {t : Option V1} {why : String} {v : SV} (h : (one t why).val = some v) : ∃ x, t = some x ∧ v = .v x := by
  unfold one at h
  split at h
  · simp only [T.val, Option.some.injEq] at h; exact ⟨_, rfl, h.symm⟩
  · simp [T.val] at h
theorem partV_cl {t : TypeId} {l : List Cell} {off : Nat} {x : V1} (h : partV N t l off = some x) (hc : ClL H l) : ClV1 H x := by
  unfold partV at h
  split at h
  · exact part1_cl h hc
  · cases h
theorem vec_at (hO : Own N ρ H w) {n : Nat} {l : List Cell} {es : Nat} {ty : TypeId} (hn : hget H n = some (.vec l es ty)) (j : Nat) (c : Cell) (hc : l[j]? = some c) : w.cell? ⟨ρ n, (ρ.L n).o + j, none⟩ = some (c.den ρ) := by
  rcases hO.q n _ hn with ⟨_, h0, _⟩ | ⟨_, _, row, h2, _, _, h5⟩
  · have : l = [] := by simpa [denL] using h0
    rw [this] at hc; simp at hc
  · have := h5 j (c.den ρ) (by simp [denL, hc])
    simp only [World.cell?, Nm.f, h2]
    simpa using this
theorem load_run (hT : TblOk P N) (hO : Own N ρ H w) (hC : ClHp N H) {t : TypeId} {p v : SV} (h : (loadV N t H p).val = some v) :
    (Instr.loadAt t (p.den ρ)).run P w = .ok (v.den ρ) w ∧ ClV H v := by
  unfold loadV at h
  split at h
  · rename_i n off
    split at h
    · rename_i l ty hn
      obtain ⟨x, hx, rfl⟩ := one_val h
      have := loadVar_run (ρ := ρ) (w := w) hT hx (ρ n) 0 (fun j c hc => by rw [Nat.zero_add]; exact cells_at hO hn j c hc)
      rw [Nat.zero_add] at this
      refine ⟨?_, partV_cl hx (hC.1 n _ hn)⟩
      simp only [Instr.loadAt, SV.den, V1.den, Cell.den, Instr.sureAddr, Sem.run_bind, Sem.run_pure, Result.andThen_ok]
      exact this
    · rename_i a hn
      split at h
      · rename_i l hw
        obtain ⟨x, hx, rfl⟩ := one_val h
        have hq : N.F.q a (ρ.L n) (ρ.S n) w := hO.q n _ hn
        have hrow := N.F.word_ok a (ρ.L n) (ρ.S n) w l hq hw
        have := loadVar_run (ρ := ρ) (w := w) hT hx (ρ n) 0 (fun j c hc => by
          have h2 := hrow j c hc
          have h1 := N.F.word_nm a l hw c (List.mem_of_getElem? hc)
          rw [Nat.zero_add, show ρ n = (ρ.L n).b from rfl, h2, den_congr c (ρ := Nm.id) (ρ' := ρ) (fun m hm => by rw [h1] at hm; cases hm)])
        rw [Nat.zero_add] at this
        refine ⟨?_, partV_cl hx (clL_nil fun c hc => ?_)⟩
        · simp only [Instr.loadAt, SV.den, V1.den, Cell.den, Instr.sureAddr, Sem.run_bind, Sem.run_pure, Result.andThen_ok]
          exact this
        · exact N.F.word_nm a l hw c hc
      · simp [T.val] at h
    · simp [T.val] at h
  · rename_i n idx es off
    split at h
    · rename_i a hn
      split at h
      · rename_i b l hr
        obtain ⟨rfl, h⟩ := need_val h
        obtain ⟨x, hx, rfl⟩ := one_val h
        have hq : N.F.q a (ρ.L n) (ρ.S n) w := hO.q n _ hn
        have hrow := N.F.row_ok a (ρ.L n) (ρ.S n) w idx es l hq hr
        have := loadVar_run (ρ := ρ) (w := w) hT hx (ρ n) ((ρ.L n).o + idx * es) (fun j c hc => by
          have h2 := hrow j c hc
          have h1 := N.F.row_nm a idx es l hr c (List.mem_of_getElem? hc)
          rw [show ρ n = (ρ.L n).b from rfl, h2, den_congr c (ρ := Nm.id) (ρ' := ρ) (fun m hm => by rw [h1] at hm; cases hm)])
        refine ⟨?_, partV_cl hx (clL_nil fun c hc => ?_)⟩
        · simp only [Instr.loadAt, SV.den, V1.den, Cell.den, Instr.sureAddr, Sem.run_bind, Sem.run_pure, Result.andThen_ok]
          exact this
        · exact N.F.row_nm a idx es l hr c hc
      · simp [T.val] at h
    · rename_i l _ ty hn
      obtain ⟨x, hx, rfl⟩ := one_val h
      have := loadVar_run (ρ := ρ) (w := w) hT hx (ρ n) (ρ.L n).o (fun j c hc => vec_at hO hn j c hc)
      refine ⟨?_, partV_cl hx (hC.1 n _ hn)⟩
      simp only [Instr.loadAt, SV.den, V1.den, Cell.den, Instr.sureAddr, Sem.run_bind, Sem.run_pure, Result.andThen_ok]
      rw [Nat.add_assoc]
      exact this
    · simp [T.val] at h
  · simp [T.val] at h
/-- writing a part of a row of cells -/
theorem storeRow_run (hT : TblOk P N) {t : TypeId} {i : TI} {b off : Nat} {row : List Value} {ty : TypeId} {v : V1} (hblk : w.heap[b]? = some (.cells row.toArray ty (0, 0))) (ht : N.tt.get t = some i) (hs : i.size = v.cells.length)
    (hle : off + v.cells.length ≤ row.length) : (Instr.storeAt t (.pointer (some ⟨b, off, none⟩)) (v.den ρ)).run P w = .ok () (w.setRow b (row.take off ++ (denL ρ v.cells ++ row.drop (off + v.cells.length))).toArray) := by
  have hcl : (v.den ρ).cells.toList = denL ρ v.cells := V1.den_cells ρ v
  have hcs : (v.den ρ).cells.size = i.size := by rw [← Array.length_toList, hcl, denL_length, hs]
  have := run_storeCells_at P b off ty (denL ρ v.cells) 0 row.toArray w hblk (by simp [denL_length]; omega) (by
    intro x hx
    simp only [denL, List.mem_map] at hx
    obtain ⟨c, _, rfl⟩ := hx
    exact den_one ρ c)
  simp only [Instr.storeAt, Instr.sureAddr, Sem.run_bind, Sem.run_pure, Result.andThen_ok, storeVar, sizeOf_run (tbl_size hT ht), hcs, ne_eq, not_true_eq_false, if_false, hcl]
  erw [this]
  congr 3
  simp [denL]
theorem store_run (hT : TblOk P N) (hO : Own N ρ H w) {t : TypeId} {i : TI} {n off : Nat} {l l' : List Cell} {ty : TypeId} {v : V1} (hn : hget H n = some (.cells l ty)) (ht : N.tt.get t = some i) (hs : i.size = v.cells.length)
    (hl : lput l off v.cells = some l') : (Instr.storeAt t (.pointer (some ⟨ρ n, off, none⟩)) (v.den ρ)).run P w = .ok () (w.setRow (ρ n) (denL ρ l').toArray) := by
  have hblk : w.heap[ρ n]? = some (.cells (denL ρ l).toArray ty (0, 0)) := hO.q n _ hn
  obtain ⟨e1, e2⟩ := lput_eq hl
  have hcl : (v.den ρ).cells.toList = denL ρ v.cells := V1.den_cells ρ v
  have hcs : (v.den ρ).cells.size = i.size := by rw [← Array.length_toList, hcl, denL_length, hs]
  have := run_storeCells_at P (ρ n) off ty (denL ρ v.cells) 0 (denL ρ l).toArray w hblk (by simp [denL_length]; omega) (by
    intro x hx
    simp only [denL, List.mem_map] at hx
    obtain ⟨c, _, rfl⟩ := hx
    exact den_one ρ c)
  simp only [Instr.storeAt, Instr.sureAddr, Sem.run_bind, Sem.run_pure, Result.andThen_ok, storeVar, sizeOf_run (tbl_size hT ht), hcs, ne_eq, not_true_eq_false, if_false, hcl]
  erw [this]
  congr 3
  rw [e1]
  simp [denL, List.map_append, List.map_take, List.map_drop]
end Go.Sx

namespace Go.Sx
variable {AV : Type} {P : Program} {N : Env AV}
theorem mkSI_spec {t : TypeId} {si : SI} (h : mkSI P t = some si) : P.underlying t = some (.slice si.e) ∧ ∃ (i : TypeInfo) (z : Value), P.info? si.e = some i ∧ i.zero = some z ∧ i.size = si.size ∧ i.bytes = si.bytes ∧ 0 < si.size ∧ si.zero.length = si.size ∧
    (∀ ρ : Nm, denL ρ si.zero = z.cells.toList) ∧ ∀ c ∈ si.zero, c.name = none := by
  unfold mkSI at h
  split at h
  · rename_i e he
    split at h
    · rename_i i hi
      split at h
      · rename_i z hz
        split at h
        · rename_i l hl
          split at h
          · rename_i h1 h2
            cases h
            have hp : 1 ≤ i.size := by simpa [Nat.blt] using h2
            exact ⟨he, i, z, hi, hz, rfl, rfl, hp, (beq_iff _ _).1 h1, fun ρ => (ofValues_den ρ hl).1, (ofValues_den Nm.id hl).2⟩
          · cases h
        · cases h
      · cases h
    · cases h
  · cases h
theorem repsL_len (z : List Cell) : ∀ n, (repsL z n).length = n * z.length
  | 0 => by simp [repsL]
  | n + 1 => by simp [repsL, repsL_len z n, Nat.succ_mul]; omega
theorem repsL_mem {z : List Cell} : ∀ {n : Nat} {c : Cell}, c ∈ repsL z n → c ∈ z
  | 0, c, h => by cases h
  | n + 1, c, h => by
    rcases List.mem_append.1 h with h | h
    · exact h
    · exact repsL_mem h
theorem repsL_get (z : List Cell) (hz : 0 < z.length) : ∀ (n j : Nat), j < n * z.length → (repsL z n)[j]? = z[j % z.length]?
  | 0, j, h => by omega
  | n + 1, j, h => by
    simp only [repsL]
    rcases Nat.lt_or_ge j z.length with hj | hj
    · rw [List.getElem?_append_left hj, Nat.mod_eq_of_lt hj]
    · rw [List.getElem?_append_right hj, repsL_get z hz n (j - z.length) (by rw [Nat.succ_mul] at h; omega), ← Nat.mod_eq_sub_mod hj]
theorem den_len (ρ : Nm) (l : List Cell) : (denL ρ l).length = l.length := by simp [denL]
theorem den_get (ρ : Nm) (l : List Cell) (j : Nat) (v : Value) (h : (denL ρ l)[j]? = some v) : ∃ c, l[j]? = some c ∧ v = c.den ρ := by
  simp only [denL, List.getElem?_map, Option.map_eq_some_iff] at h
  obtain ⟨c, hc, rfl⟩ := h
  exact ⟨c, hc, rfl⟩
theorem set_L (ρ : Nm) (n : Nat) (l : Loc) (S : Nat → Prop) : (ρ.set n l S).L n = l ∧ (ρ.set n l S).S n = S := ρ.set_self n l S

/-- a new array at a name -/
theorem own_arr {ρ : Nm} {H : Hp AV} {w : World} (hO : Own N ρ H w) (hC : ClHp N H) {nm : Nat} (hn : hget H nm = none) (hlt : nm < H.length) (hG : ¬ nm < N.G) {l : List Cell} {es cap : Nat} {e : TypeId} (hl : ClL H l) {L : Nat} (hL : L ≤ nm) {row : Array Value}
    (hsize : row.size = cap * es) (hle : l.length ≤ cap * es) (hrow : ∀ (j : Nat) v, (denL ρ l)[j]? = some v → row[j]? = some v) :
    Own N (ρ.set nm ⟨w.heap.size, 0, cap + 1⟩ fun k => k = w.heap.size) (lset H nm (some (.vec l es e))) (w.alloc (.cells row e)) ∧
    Evo N L ρ H w (ρ.set nm ⟨w.heap.size, 0, cap + 1⟩ fun k => k = w.heap.size) (lset H nm (some (.vec l es e))) (w.alloc (.cells row e)) ∧
    ClHp N (lset H nm (some (.vec l es e))) := by
  have hne : ∀ n c, hget H n = some c → n ≠ nm := fun n c h e => by subst e; rw [hn] at h; cases h
  have hden : denL (ρ.set nm ⟨w.heap.size, 0, cap + 1⟩ fun k => k = w.heap.size) l = denL ρ l := denL_congr hl fun n c h => (ρ.set_ne _ _ (hne n c h)).1
  refine own_new hO hC hn hlt hG (ck := .vec l es e) hl hL (fun k hk => ?_) rfl rfl rfl ?_ ?_ ?_
  · show (w.heap.push _)[k]? = _
    rw [Array.getElem?_push, if_neg (by omega)]
  · show w.heap.size ≤ (w.heap.push _).size; simp
  · show vecQ _ _ _ _ _ _
    rw [(set_L _ _ _ _).1, (set_L _ _ _ _).2, hden]
    refine .inr ⟨by simp, fun k => Iff.rfl, row.toList, ?_, ?_, ?_, ?_⟩
    · show (w.heap.push _)[w.heap.size]? = _
      simp
    · simp [hsize]
    · rw [den_len]; simpa using hle
    · intro j v hv
      have := hrow j v hv
      simpa using this
  · intro k hk
    have hk : (ρ.set nm ⟨w.heap.size, 0, cap + 1⟩ fun k => k = w.heap.size).S nm k := hk
    rw [(set_L _ _ _ _).2] at hk
    omega
theorem vs_den_new {ρ : Nm} {nm len cap es b : Nat} {S : Nat → Prop} : (SV.v (.c (.vs nm 0 len es true))).den (ρ.set nm ⟨b, 0, cap + 1⟩ S) = .slice (some ⟨b, 0, none⟩) len cap := by
  simp only [SV.den, V1.den, Cell.den, vsDen, (set_L _ _ _ _).1]
  rw [if_neg (by omega)]
  simp
theorem made_eq (ρ : Nm) {z : Value} {si : SI} (hzd : denL ρ si.zero = z.cells.toList) (hzl : si.zero.length = si.size) (hpos : 0 < si.size) (n : Nat) : (Array.range (n * si.size)).map (z.cells[· % z.cells.size]!) = (denL ρ (repsL si.zero n)).toArray := by
  have hsz : z.cells.size = si.size := by
    have := congrArg List.length hzd
    rw [den_len] at this
    simp at this
    omega
  apply Array.ext'
  apply List.ext_getElem?
  intro j
  rw [hsz]
  by_cases hj : j < n * si.size
  · have hlt : j % si.size < z.cells.size := by rw [hsz]; exact Nat.mod_lt _ hpos
    have h1 : (denL ρ (repsL si.zero n))[j]? = z.cells.toList[j % si.size]? := by
      rw [← hzd]
      simp only [denL, List.getElem?_map]
      rw [repsL_get si.zero (by omega) n j (by rw [hzl]; exact hj), hzl]
    simp only [List.getElem?_toArray, h1]
    rw [Array.getElem?_toList, Array.getElem?_map, Array.getElem?_range, if_pos hj]
    simp only [Option.map_some]
    rw [getElem!_pos z.cells (j % si.size) hlt, Array.getElem?_toList, Array.getElem?_eq_getElem hlt]
  · rw [List.getElem?_eq_none (by simp; omega), List.getElem?_eq_none (by simp [den_len, repsL_len, hzl]; omega)]
/-- 'buildSlice', in the world -/
theorem bslice_run (hT : TblOk P N) {ρ : Nm} {H : Hp AV} {ev : Operand → Option SV} {e : Operand → Value} (hev : EvOk ρ H ev e) {t : TypeId} {len : Nat} {parts : Array (Nat × Operand)} {arr : Arr} (h : mkBuild N t len (evlP ev parts.toList) = some arr) (w : World) : ClL H arr.1 ∧ ∃ row cap,
    (Instr.buildSlice t len (parts.map fun (i, x) => (i, e x))).run P w = .ok (.slice (some ⟨w.heap.size, 0, none⟩) arr.2.2.2 cap) (w.alloc (.cells row arr.2.2.1)) ∧ row.size = cap * arr.2.1 ∧ arr.1.length ≤ cap * arr.2.1 ∧ ∀ (j : Nat) v, (denL ρ arr.1)[j]? = some v → row[j]? = some v := by
  unfold mkBuild at h
  split at h
  · rename_i si ps hs hp
    split at h
    · rename_i l hl hb
      cases h
      obtain ⟨hu, i, z, hi, hz, e1, e2, hpos, hzl, hzd, hzn⟩ := mkSI_spec (hT.sl t si hs)
      obtain ⟨hp1, hp2⟩ := evlP_den hev hp
      have hcl0 : ClL H (repsL si.zero len) := clL_nil fun c hc => hzn c (repsL_mem hc)
      have hfill := fillA_den (ρ := ρ) (H := H) si.size ps (repsL si.zero len) l hl hcl0 hp2
      have hlen : l.length = len * si.size := by
        have h1 : ∀ (ps : List (Nat × V1)) (z r : List Cell), fillA si.size z ps = some r → r.length = z.length := by
          intro ps
          induction ps with
          | nil => intro z r h; simp only [fillA, Option.some.injEq] at h; rw [h]
          | cons p ps ih =>
            intro z r h
            obtain ⟨i, x⟩ := p
            simp only [fillA] at h
            split at h
            · split at h
              · rename_i z' hz'
                rw [ih z' r h]
                obtain ⟨q1, q2⟩ := lput_eq hz'
                rw [q1]
                simp
                omega
              · cases h
            · cases h
        rw [h1 ps _ l hl, repsL_len, hzl]
      have hle := Nat.le_of_ble_eq_true hb
      refine ⟨hfill.2, (denL ρ l).toArray, len, ?_, by simp [den_len, hlen], by simp [hlen], fun j v hv => by simpa using hv⟩
      have h3 := hfill.1
      rw [← hp1] at h3
      have hm := made_eq ρ (hzd ρ) hzl hpos len
      unfold Instr.buildSlice
      simp only [Sem.run_bind, run_underlying hu, sizeOf, typeInfo, program, Sem.run, hi, Result.andThen_ok, Sem.run_pure, e1]
      rw [if_neg (by omega)]
      by_cases h0 : len * si.size = 0
      · have : len = 0 := by
          rcases Nat.mul_eq_zero.1 h0 with h | h
          · exact h
          · omega
        subst this
        have h3' : Instr.fill (fun i => some (i * si.size, si.size)) #[] (parts.toList.map fun p => (p.1, e p.2)) = some (denL ρ l).toArray := h3
        have hr0 : (Array.range 0) = #[] := rfl
        simp [h3', hr0, newRow, newObj, Sem.run]
      · have hm' : (Array.range (len * si.size)).map (fun x => z.cells[x % z.cells.size]!) = (denL ρ (repsL si.zero len)).toArray := hm
        simp only [if_neg h0, zeroValue, typeInfo, program, Sem.run_bind, Sem.run, hi, hz, Result.andThen_ok, Sem.run_pure]
        simp only [hm']
        simp [h3, newRow, newObj, Sem.run]
    · cases h
  · cases h
/-- 'make', in the world -/
theorem make_run (hT : TblOk P N) {t : TypeId} {a b : Option SV} {arr : Arr} (h : mkMake N t a b = some arr) (w : World) (ρ : Nm) : ∃ kl kc n c, a = some (.v (.c (.il kl n))) ∧ b = some (.v (.c (.il kc c))) ∧ (∀ x ∈ arr.1, x.name = none) ∧ ∃ row cap,
    (Instr.makeSlice t (.int kl n) (.int kc c)).run P w = .ok (.slice (some ⟨w.heap.size, 0, none⟩) arr.2.2.2 cap) (w.alloc (.cells row arr.2.2.1)) ∧ row.size = cap * arr.2.1 ∧ arr.1.length ≤ cap * arr.2.1 ∧ ∀ (j : Nat) v, (denL ρ arr.1)[j]? = some v → row[j]? = some v := by
  unfold mkMake at h
  split at h
  · rename_i si kl n kc c hs
    split at h
    · rename_i hb
      cases h
      obtain ⟨h0, h1, h2⟩ := of_decide_eq_true hb
      obtain ⟨hu, i, z, hi, hz, e1, e2, hpos, hzl, hzd, hzn⟩ := mkSI_spec (hT.sl t si hs)
      have hcb : c.toNat * si.bytes ≤ lim := Nat.le_trans (Nat.mul_le_mul_left _ (Nat.le_succ _)) h2
      have hcn : c.toNat ≤ lim := by
        have : c.toNat * 1 ≤ c.toNat * (si.bytes + 1) := Nat.mul_le_mul_left _ (by omega)
        omega
      have hc0 : (c.toNat : Int) = c := by omega
      have hr := run_make (P := P) w t si.e i z hu hi hz kl kc n c h0 h1 (by
        rw [e2, ← hc0, ← Int.natCast_mul, Nat.mul_comm]
        simp only [lim] at hcb
        omega) (by simp only [lim] at hcn; omega)
      have hsz : z.cells.size = si.size := by
        have := congrArg List.length (hzd Nm.id)
        rw [den_len] at this
        simp at this
        omega
      refine ⟨kl, kc, n, c, rfl, rfl, fun x hx => hzn x (repsL_mem hx), _, c.toNat, hr, by rw [size_madeCells, e1], by rw [repsL_len, hzl]; exact Nat.le_refl _, fun j v hv => ?_⟩
      obtain ⟨cc, hcc, rfl⟩ := den_get ρ _ j v hv
      have hj : j < c.toNat * si.size := by
        have := (List.getElem?_eq_some_iff.1 hcc).1
        rw [repsL_len, hzl] at this
        exact this
      rw [repsL_get si.zero (by omega) _ j (by rw [hzl]; exact hj), hzl] at hcc
      have hzj : z.cells.toList[j % si.size]? = some (cc.den ρ) := by
        rw [← hzd ρ]
        simp [denL, hcc]
      simp only [madeCells, Array.getElem?_map, e1]
      rw [Array.getElem?_range]
      rw [if_pos hj]
      simp only [Option.map_some, hsz]
      have hlt : j % si.size < z.cells.size := by rw [hsz]; exact Nat.mod_lt _ hpos
      rw [getElem!_pos z.cells (j % si.size) hlt]
      rw [Array.getElem?_toList, Array.getElem?_eq_getElem hlt] at hzj
      exact hzj
    · cases h
  · cases h
end Go.Sx

namespace Go.Sx
variable {AV : Type} {P : Program} {N : Env AV}

theorem look_put (E : Ev) (d : Nat) (v : SV) (k : Nat) : look (putE E (some d) v) k = if d = k then v else look E k := by
  simp only [putE, look]
  by_cases h : d = k
  · subst h; simp [Nat.beq_refl]
  · rw [(beq_false_iff d k).2 h, if_neg h]
theorem EM.put {ρ ρ' : Nm} {nt : Nat} {E : Ev} {a : Act} (h : EM ρ nt E a) {dst : Option Nat} (hd : ∀ d, dst = some d → d < nt) {H : Hp AV} (hc : ∀ k, ClV H (look E k)) (ha : ∀ n c, hget H n = some c → ρ'.L n = ρ.L n) (v : SV) :
    EM ρ' nt (putE E dst v) (a.put dst (v.den ρ')) := by
  cases dst with
  | none => exact ⟨h.size, fun k hk => by rw [show (look (putE E none v) k) = look E k from rfl, SV.den_congr (hc k) ha]; exact h.get k hk⟩
  | some d =>
    refine ⟨by simp [Act.put, h.size], fun k hk => ?_⟩
    rw [look_put] at hk ⊢
    have hlt : d < a.tmps.size := by rw [h.size]; exact hd d rfl
    by_cases e : d = k
    · subst e
      simp [Act.put, hlt]
    · rw [if_neg e] at hk
      rw [if_neg e, SV.den_congr (hc k) ha, ← h.get k hk]
      simp [Act.put, Array.getElem?_setIfInBounds_ne e]
theorem cl_put {s : St AV} {H' : Hp AV} (hE : ∀ k, ClV s.H (look s.E k)) (hp : ∀ n c, hget s.H n = some c → ∃ c', hget H' n = some c') {dst : Option Nat} {v : SV} (hv : ClV H' v) : ∀ k, ClV H' (look (putE s.E dst v) k) := by
  intro k
  cases dst with
  | none => exact (hE k).mono hp
  | some d =>
    rw [look_put]
    split
    · exact hv
    · exact (hE k).mono hp
theorem undef_cl (H : Hp AV) : ClV H undefV := by intro x hx; cases hx

/-- what is known behind a step -/
structure Lands (N : Env AV) (nt L : Nat) (ρ : Nm) (s : St AV) (w : World) (a : Act) (s' : St AV) (a' : Act) (w' : World) : Prop where
  ex : ∃ ρ', EM ρ' nt s'.E a' ∧ Own N ρ' s'.H w' ∧ Evo N L ρ s.H w ρ' s'.H w'
  df : a'.defers = a.defers

/-- what is known of the state at hand -/
structure At (N : Env AV) (nt : Nat) (ρ : Nm) (s : St AV) (a : Act) (w : World) : Prop where
  em : EM ρ nt s.E a
  own : Own N ρ s.H w

/-- a row in which a part was written, read within -/
theorem splice_get (row l ys : List Value) (o k j : Nat) (u : Value) (hl : o + l.length ≤ row.length) (hk : k + ys.length ≤ l.length) (h : ∀ (j : Nat) v, l[j]? = some v → row[o + j]? = some v)
    (hj : (l.take k ++ (ys ++ l.drop (k + ys.length)))[j]? = some u) : (row.take (o + k) ++ (ys ++ row.drop (o + k + ys.length)))[o + j]? = some u := by
  by_cases h1 : j < k
  · rw [List.getElem?_append_left (by simp; omega), List.getElem?_take, if_pos h1] at hj
    rw [List.getElem?_append_left (by simp; omega), List.getElem?_take, if_pos (by omega)]
    exact h j u hj
  · rw [List.getElem?_append_right (by simp; omega)] at hj ⊢
    have e1 : (l.take k).length = k := by simp; omega
    have e2 : (row.take (o + k)).length = o + k := by simp; omega
    rw [e1] at hj
    rw [e2, show o + j - (o + k) = j - k by omega]
    by_cases h2 : j - k < ys.length
    · rw [List.getElem?_append_left h2] at hj ⊢
      exact hj
    · rw [List.getElem?_append_right (by omega)] at hj ⊢
      rw [List.getElem?_drop] at hj ⊢
      have := h _ _ hj
      rw [← this]
      congr 1
      omega

theorem closed_hp {s : St AV} (h : Closed N s) : ClHp N s.H := ⟨h.H, trivial⟩

/-- a new array -/
theorem arr_wp {nt L nm : Nat} {o : Oper} {s : St AV} {arr : Option Arr} {r : SV × Option (Nat × Chunk AV)} (h : (lightArr N nm s.H arr).val = some r) (hcl : Closed N s) (hL : L ≤ nm) (hd : ∀ d, o.dst = some d → d < nt)
    (hrun : ∀ a, arr = some a → ClL s.H a.1 ∧ ∀ (ρ : Nm) (act : Act) (w : World), At N nt ρ s act w → ∃ row cap, (execOp act.eval o).run P w = .ok (.value (.slice (some ⟨w.heap.size, 0, none⟩) a.2.2.2 cap)) (w.alloc (.cells row a.2.2.1)) ∧ row.size = cap * a.2.1 ∧ a.1.length ≤ cap * a.2.1 ∧ ∀ (j : Nat) v, (denL ρ a.1)[j]? = some v → row[j]? = some v) :
    Closed N { E := putE s.E o.dst r.1, H := updH s.H r.2 } ∧
    ∀ {ρ : Nm} {a : Act} {w : World}, At N nt ρ s a w → ∀ {K : Act → World → Prop} {Q : Exit → Act → World → Prop},
      (∀ a' w', Lands N nt L ρ s w a { E := putE s.E o.dst r.1, H := updH s.H r.2 } a' w' → K a' w') → o.wp P a w K Q := by
  have hC := closed_hp hcl
  unfold lightArr at h
  split at h
  · rename_i l es e len
    split at h
    · rename_i h2 h3 h4
      simp only [T.val, Option.some.injEq] at h
      subst h
      obtain ⟨hl, hrun⟩ := hrun _ rfl
      simp only at hl hrun
      have hlt := (blt_iff _ _).1 h3
      have hG := (blt_false_iff _ _).1 h4
      have pers : ∀ n c, hget s.H n = some c → ∃ c', hget (lset s.H nm (some (.vec l es e))) n = some c' := fun n c h => ⟨c, by rw [hget_lset_ne _ (fun e => by subst e; rw [h2] at h; cases h)]; exact h⟩
      have hself := hget_lset_self (H := s.H) (.vec l es e) hlt
      have clv : ClV (lset s.H nm (some (.vec l es e))) (.v (.c (.vs nm 0 len es true))) := by
        intro c hc n hn
        simp [V1.cells] at hc; subst hc
        simp [Cell.name] at hn; subst hn
        exact ⟨_, hself⟩
      constructor
      · refine ⟨cl_put hcl.E pers clv, ?_⟩
        intro n x hc
        by_cases e : n = nm
        · subst e
          simp only [updH] at hc ⊢
          rw [hself] at hc
          cases hc
          exact hl.mono pers
        · simp only [updH] at hc ⊢
          rw [hget_lset_ne _ (Ne.symm e)] at hc
          exact (hcl.H n x hc).mono pers
      intro ρ a w hat K Q hK
      obtain ⟨row, cap, hr, q1, q2, q3⟩ := hrun ρ a w hat
      obtain ⟨o1, o2, _⟩ := own_arr (es := es) (cap := cap) (e := e) (row := row) hat.own hC h2 hlt hG hl hL q1 q2 q3
      unfold Oper.wp
      rw [hr]
      refine hK _ _ ⟨⟨_, ?_, o1, o2⟩, by cases o.dst <;> rfl⟩
      have := hat.em.put (ρ' := ρ.set nm ⟨w.heap.size, 0, cap + 1⟩ fun k => k = w.heap.size) hd hcl.E o2.agree (.v (.c (.vs nm 0 len es true)))
      rw [vs_den_new] at this
      exact this
    · simp [T.val] at h
  · simp [T.val] at h
theorem light_wp (hT : TblOk P N) {nt L nm : Nat} {o : Oper} {s : St AV} {r : SV × Option (Nat × Chunk AV)} (h : (light N nm (evl N.G s.H s.E) s.H o.op).val = some r) (hcl : Closed N s) (hL : L ≤ nm) (hd : ∀ d, o.dst = some d → d < nt) :
    Closed N { E := putE s.E o.dst r.1, H := updH s.H r.2 } ∧
    ∀ {ρ : Nm} {a : Act} {w : World}, At N nt ρ s a w → ∀ {K : Act → World → Prop} {Q : Exit → Act → World → Prop},
      (∀ a' w', Lands N nt L ρ s w a { E := putE s.E o.dst r.1, H := updH s.H r.2 } a' w' → K a' w') → o.wp P a w K Q := by
  have hC := closed_hp hcl
  unfold light at h
  split at h
  · -- looks at no memory
    rename_i t ht
    rw [T.val_map] at h
    obtain ⟨v, hv, rfl⟩ := Option.map_eq_some_iff.1 h
    have cl : ClV s.H v := by
      -- closedness does not hang on the world: ask it of any reading
      have hev : EvOk Nm.id s.H (evl N.G s.H s.E) (fun x => match evl N.G s.H s.E x with | some v => v.den Nm.id | none => undef) :=
        ⟨fun x v hx => by simp [hx], fun x v hx => evl_cl hcl hx⟩
      exact (pure_sound (P := P) hT hev (o := o) ht hv default).2
    refine ⟨⟨cl_put hcl.E (fun n c h => ⟨c, h⟩) cl, hcl.H⟩, ?_⟩
    intro ρ a w hat K Q hK
    have hev := evOk_of hat.em hcl hat.own.glb
    have hr := (pure_sound (P := P) hT hev (o := o) ht hv w).1
    unfold Oper.wp
    rw [hr]
    exact hK _ _ ⟨⟨ρ, hat.em.put hd hcl.E (fun _ _ _ => rfl) v, hat.own, Evo.refl _ _ _ _⟩, by cases o.dst <;> rfl⟩
  · split at h
    · -- alloc
      rename_i t hop
      split at h
      · rename_i kd sz z fl h1 h2 h3 h4
        simp only [T.val, Option.some.injEq] at h
        subst h
        have hlt := (blt_iff _ _).1 h3
        have hG := (blt_false_iff _ _).1 h4
        obtain ⟨v0, hz, hzc, hzn⟩ := tbl_zero hT h1 rfl Nm.id
        have hzl : ClL s.H z := clL_nil hzn
        have pers : ∀ n c, hget s.H n = some c → ∃ c', hget (lset s.H nm (some (.cells z t))) n = some c' := fun n c h => ⟨c, by rw [hget_lset_ne _ (fun e => by subst e; rw [h2] at h; cases h)]; exact h⟩
        have hself := hget_lset_self (H := s.H) (.cells z t) hlt
        have clv : ClV (lset s.H nm (some (.cells z t))) (.v (.c (.ptr nm 0))) := by
          intro c hc n hn
          simp [V1.cells] at hc; subst hc
          simp [Cell.name] at hn; subst hn
          exact ⟨_, hself⟩
        constructor
        · refine ⟨cl_put hcl.E pers clv, ?_⟩
          · intro n x hc
            by_cases e : n = nm
            · subst e
              simp only [updH] at hc ⊢
              rw [hself] at hc
              cases hc
              exact hzl.mono pers
            · simp only [updH] at hc ⊢
              rw [hget_lset_ne _ (Ne.symm e)] at hc
              exact (hcl.H n x hc).mono pers
        intro ρ a w hat K Q hK
        obtain ⟨v0, hz, hzc, _⟩ := tbl_zero hT h1 rfl ρ
        obtain ⟨o1, o2, _⟩ := own_alloc hat.own hC h2 hlt hG t hzl hL
        have hr : (execOp a.eval o).run P w = .ok (.value (.pointer (some ⟨w.heap.size, 0, none⟩))) (w.alloc (.cells (denL ρ z).toArray t)) := by
          obtain ⟨dst, op, ty, pos, after, guard⟩ := o
          simp only at hop
          subst hop
          have hzc' : v0.cells = (denL ρ z).toArray := by rw [← hzc]
          simp [execOp, Instr.alloc, hz, newVar, newRow, newObj, Sem.run, hzc']
        unfold Oper.wp
        rw [hr]
        refine hK _ _ ⟨⟨_, ?_, o1, o2⟩, by cases o.dst <;> rfl⟩
        have := hat.em.put (ρ' := ρ.set nm ⟨w.heap.size, 0, 0⟩ fun _ => False) hd hcl.E o2.agree (.v (.c (.ptr nm 0)))
        simpa [SV.den, V1.den, Cell.den, Nm.f, Nm.set] using this
      · simp [T.val] at h
    · -- box
      rename_i t x hop
      split at h
      · rename_i v h1 h2 h3 h4
        simp only [T.val, Option.some.injEq] at h
        subst h
        have hlt := (blt_iff _ _).1 h3
        have hG := (blt_false_iff _ _).1 h4
        have hvl : ClL s.H v.cells := evl_cl hcl h1
        have pers : ∀ n c, hget s.H n = some c → ∃ c', hget (lset s.H nm (some (.cells v.cells t))) n = some c' := fun n c h => ⟨c, by rw [hget_lset_ne _ (fun e => by subst e; rw [h2] at h; cases h)]; exact h⟩
        have hself := hget_lset_self (H := s.H) (.cells v.cells t) hlt
        have clv : ClV (lset s.H nm (some (.cells v.cells t))) (.v (.c (.ptr nm 0))) := by
          intro c hc n hn
          simp [V1.cells] at hc; subst hc
          simp [Cell.name] at hn; subst hn
          exact ⟨_, hself⟩
        constructor
        · refine ⟨cl_put hcl.E pers clv, ?_⟩
          · intro n x hc
            by_cases e : n = nm
            · subst e
              simp only [updH] at hc ⊢
              rw [hself] at hc
              cases hc
              exact hvl.mono pers
            · simp only [updH] at hc ⊢
              rw [hget_lset_ne _ (Ne.symm e)] at hc
              exact (hcl.H n x hc).mono pers
        intro ρ a w hat K Q hK
        have hev := evOk_of hat.em hcl hat.own.glb
        obtain ⟨o1, o2, _⟩ := own_alloc hat.own hC h2 hlt hG t hvl hL
        have hr : (execOp a.eval o).run P w = .ok (.value (.pointer (some ⟨w.heap.size, 0, none⟩))) (w.alloc (.cells (denL ρ v.cells).toArray t)) := by
          obtain ⟨dst, op, ty, pos, after, guard⟩ := o
          simp only at hop
          subst hop
          have hcl' : (v.den ρ).cells = (denL ρ v.cells).toArray := by rw [← V1.den_cells ρ v]
          simp [execOp, Instr.box, hev.den _ _ h1, SV.den, newVar, newRow, newObj, Sem.run, hcl']
        unfold Oper.wp
        rw [hr]
        refine hK _ _ ⟨⟨_, ?_, o1, o2⟩, by cases o.dst <;> rfl⟩
        have := hat.em.put (ρ' := ρ.set nm ⟨w.heap.size, 0, 0⟩ fun _ => False) hd hcl.E o2.agree (.v (.c (.ptr nm 0)))
        simpa [SV.den, V1.den, Cell.den, Nm.f, Nm.set] using this
      · simp [T.val] at h
    · -- load
      rename_i t x hop
      split at h
      · rename_i p h1
        rw [T.val_map] at h
        obtain ⟨v, hv, rfl⟩ := Option.map_eq_some_iff.1 h
        have cl : ClV s.H v := by
          unfold loadV at hv
          split at hv
          · split at hv
            · rename_i hn
              obtain ⟨x', hx, rfl⟩ := one_val hv
              exact partV_cl hx (hcl.H _ _ hn)
            · rename_i a hn
              split at hv
              · rename_i l hw
                obtain ⟨x', hx, rfl⟩ := one_val hv
                exact partV_cl hx (clL_nil fun c hc => N.F.word_nm _ _ hw c hc)
              · simp [T.val] at hv
            · simp [T.val] at hv
          · split at hv
            · rename_i a hn
              split at hv
              · rename_i b l hr
                obtain ⟨rfl, hv⟩ := need_val hv
                obtain ⟨x', hx, rfl⟩ := one_val hv
                refine partV_cl hx (clL_nil fun c hc => ?_)
                exact N.F.row_nm _ _ _ _ hr c hc
              · simp [T.val] at hv
            · rename_i hn
              obtain ⟨x', hx, rfl⟩ := one_val hv
              exact partV_cl hx (hcl.H _ _ hn)
            · simp [T.val] at hv
          · simp [T.val] at hv
        refine ⟨⟨cl_put hcl.E (fun n c h => ⟨c, h⟩) cl, hcl.H⟩, ?_⟩
        intro ρ a w hat K Q hK
        have hev := evOk_of hat.em hcl hat.own.glb
        have hr := (load_run (P := P) hT hat.own hC hv).1
        have hr' : (execOp a.eval o).run P w = .ok (.value (v.den ρ)) w := by
          obtain ⟨dst, op, ty, pos, after, guard⟩ := o
          simp only at hop
          subst hop
          simp only [execOp, Sem.run_bind, hev.den _ _ h1, hr, Result.andThen_ok, Sem.run_pure]
        unfold Oper.wp
        rw [hr']
        exact hK _ _ ⟨⟨ρ, hat.em.put hd hcl.E (fun _ _ _ => rfl) v, hat.own, Evo.refl _ _ _ _⟩, by cases o.dst <;> rfl⟩
      · simp [T.val] at h
    · -- store
      rename_i t x y hop
      split at h
      · rename_i n off v h1 h2
        split at h
        · rename_i l ty i h3 h4
          split at h
          · rename_i h5
            split at h
            · rename_i l' h6
              simp only [T.val, Option.some.injEq] at h
              subst h
              have h5 := (beq_iff _ _).1 h5
              have hvl : ClL s.H v.cells := evl_cl hcl h2
              have hl' : ClL s.H l' := by
                intro c hc
                rw [(lput_eq h6).1] at hc
                rcases List.mem_append.1 hc with hc | hc
                · rcases List.mem_append.1 hc with hc | hc
                  · exact hcl.H n _ h3 c (List.mem_of_mem_take hc)
                  · exact hvl c hc
                · exact hcl.H n _ h3 c (List.mem_of_mem_drop hc)
              have hself := hget_lset_self (H := s.H) (.cells l' ty) (hget_lt h3)
              have pers : ∀ m c, hget s.H m = some c → ∃ c', hget (lset s.H n (some (.cells l' ty))) m = some c' := fun m c h => by
                by_cases e : m = n
                · subst e; exact ⟨_, hself⟩
                · exact ⟨c, by rw [hget_lset_ne _ (Ne.symm e)]; exact h⟩
              constructor
              · refine ⟨cl_put hcl.E pers (undef_cl _), ?_⟩
                · intro m x2 hc
                  simp only [updH] at hc ⊢
                  by_cases e : m = n
                  · subst e
                    rw [hself] at hc
                    cases hc
                    exact hl'.mono pers
                  · rw [hget_lset_ne _ (Ne.symm e)] at hc
                    exact (hcl.H m x2 hc).mono pers
              intro ρ a w hat K Q hK
              have hev := evOk_of hat.em hcl hat.own.glb
              obtain ⟨o1, o2, _⟩ := own_store hat.own hC h3 hl' L
              have hr := store_run (P := P) (v := v) hT hat.own h3 h4 h5 h6
              have hr' : (execOp a.eval o).run P w = .ok .skip (w.setRow (ρ n) (denL ρ l').toArray) := by
                obtain ⟨dst, op, ty, pos, after, guard⟩ := o
                simp only at hop
                subst hop
                simp only [execOp, Sem.run_bind, hev.den _ _ h1, hev.den _ _ h2, SV.den, V1.den, Cell.den]
                erw [hr]
                rfl
              unfold Oper.wp
              rw [hr']
              exact hK _ _ ⟨⟨ρ, hat.em.put hd hcl.E (fun _ _ _ => rfl) undefV, o1, o2⟩, by cases o.dst <;> rfl⟩
            · simp [T.val] at h
          · simp [T.val] at h
        · simp [T.val] at h
      · -- an array's element
        rename_i n idx es off v h1 h2
        have hvl : ClL s.H v.cells := evl_cl hcl h2
        -- whatever chunk is written: closedness
        have shut : ∀ ck ck' : Chunk AV, hget s.H n = some ck → ClL s.H ck'.cellsOf → Closed N { E := putE s.E o.dst undefV, H := updH s.H (some (n, ck')) } := by
          intro ck ck' h3 hl'
          have hself := hget_lset_self (H := s.H) ck' (hget_lt h3)
          have pers : ∀ m c, hget s.H m = some c → ∃ c', hget (lset s.H n (some ck')) m = some c' := fun m c h => by
            by_cases e : m = n
            · subst e; exact ⟨_, hself⟩
            · exact ⟨c, by rw [hget_lset_ne _ (Ne.symm e)]; exact h⟩
          refine ⟨cl_put hcl.E pers (undef_cl _), ?_⟩
          intro m x2 hc
          simp only [updH] at hc ⊢
          by_cases e : m = n
          · subst e
            rw [hself] at hc
            cases hc
            exact hl'.mono pers
          · rw [hget_lset_ne _ (Ne.symm e)] at hc
            exact (hcl.H m x2 hc).mono pers
        split at h
        · rename_i l ve ty i h3 h4
          split at h
          · rename_i h5
            have h5 := (beq_iff _ _).1 h5
            split at h
            · simp [T.val] at h
            rename_i h50
            have h50 := (beq_false_iff _ _).1 h50
            split at h
            · rename_i l' h6
              simp only [T.val, Option.some.injEq] at h
              subst h
              obtain ⟨e1, e2⟩ := lput_eq h6
              have hl' : ClL s.H l' := by
                intro c hc
                rw [e1] at hc
                rcases List.mem_append.1 hc with hc | hc
                · rcases List.mem_append.1 hc with hc | hc
                  · exact hcl.H n _ h3 c (List.mem_of_mem_take hc)
                  · exact hvl c hc
                · exact hcl.H n _ h3 c (List.mem_of_mem_drop hc)
              refine ⟨shut _ (.vec l' ve ty) h3 hl', ?_⟩
              intro ρ a w hat K Q hK
              have hev := evOk_of hat.em hcl hat.own.glb
              have hq := hat.own.q n _ h3
              rcases hq with ⟨_, h0, _⟩ | ⟨q1, q2, row, q3, q4, q5, q6⟩
              · have hl0 : l = [] := by simpa [denL] using h0
                subst hl0
                have e2' : idx * es + off + v.cells.length ≤ 0 := e2
                omega
              · have hll : l.length ≤ ((ρ.L n).c - 1) * ve := by simpa [denL] using q5
                have hr := storeRow_run (P := P) (ρ := ρ) (off := (ρ.L n).o + (idx * es + off)) (v := v) hT q3 h4 h5 (by omega)
                have hlen : l'.length = l.length := by rw [e1]; simp; omega
                obtain ⟨o1, o2, _⟩ := own_write hat.own hC h3 (ck' := .vec l' ve ty) hl' L (row := (row.take ((ρ.L n).o + (idx * es + off)) ++ (denL ρ v.cells ++ row.drop ((ρ.L n).o + (idx * es + off) + v.cells.length))).toArray) ((q2 _).2 rfl) (fun _ h => h) (by
                  refine .inr ⟨q1, q2, _, setRow_heap w (ρ n) _ _ ty (0, 0) q3, ?_, ?_, ?_⟩
                  · simp [denL_length]; omega
                  · rw [denL_length, hlen]; exact hll
                  · intro j u hj
                    rw [e1] at hj
                    simp only [denL, List.map_append, List.map_take, List.map_drop] at hj
                    have hlr : (ρ.L n).o + l.length ≤ row.length := by omega
                    rw [List.append_assoc] at hj
                    have := splice_get row (denL ρ l) (denL ρ v.cells) (ρ.L n).o (idx * es + off) j u (by simpa [denL] using hlr) (by simpa [denL] using e2) q6 (by simpa [denL] using hj)
                    simpa [denL_length] using this)
                have hr' : (execOp a.eval o).run P w = .ok .skip (w.setRow (ρ n) (row.take ((ρ.L n).o + (idx * es + off)) ++ (denL ρ v.cells ++ row.drop ((ρ.L n).o + (idx * es + off) + v.cells.length))).toArray) := by
                  obtain ⟨dst, op, ty, pos, after, guard⟩ := o
                  simp only at hop
                  subst hop
                  have e0 : (ρ.L n).o + idx * es + off = (ρ.L n).o + (idx * es + off) := by omega
                  simp only [execOp, Sem.run_bind, hev.den _ _ h1, hev.den _ _ h2, SV.den, V1.den, Cell.den, e0]
                  erw [hr]
                  rfl
                unfold Oper.wp
                rw [hr']
                exact hK _ _ ⟨⟨ρ, hat.em.put hd hcl.E (fun _ _ _ => rfl) undefV, o1, o2⟩, by cases o.dst <;> rfl⟩
            · simp [T.val] at h
          · simp [T.val] at h
        · rename_i a i h3 h4
          split at h
          · rename_i h5
            have h5 := (beq_iff _ _).1 h5
            split at h
            · rename_i b a' h6
              obtain ⟨rfl, h⟩ := need_val h
              simp only [T.val, Option.some.injEq] at h
              subst h
              refine ⟨shut _ (.abs a') h3 (by intro c hc; cases hc), ?_⟩
              intro ρ act w hat K Q hK
              have hev := evOk_of hat.em hcl hat.own.glb
              have hq : N.F.q a (ρ.L n) (ρ.S n) w := hat.own.q n _ h3
              obtain ⟨u1, u2, row, ty, u3, u4, u5⟩ := N.F.upd_ok a (ρ.L n) (ρ.S n) w idx es off v.cells a' hq h6
              have hden : denL ρ v.cells = denL Nm.id v.cells := by
                unfold denL
                apply List.map_congr_left
                intro c hc
                exact den_congr c fun m hm => by rw [u1 c hc] at hm; cases hm
              have hr := storeRow_run (P := P) (ρ := ρ) (off := (ρ.L n).o + idx * es + off) (v := v) hT u3 h4 h5 u4
              rw [hden] at hr
              obtain ⟨o1, o2, _⟩ := own_write hat.own hC h3 (ck' := .abs a') (by intro c hc; cases hc) L u2 (fun _ h => h) u5
              have hr' : (execOp act.eval o).run P w = .ok .skip (w.setRow (ρ n) (row.take ((ρ.L n).o + idx * es + off) ++ (denL Nm.id v.cells ++ row.drop ((ρ.L n).o + idx * es + off + v.cells.length))).toArray) := by
                obtain ⟨dst, op, ty, pos, after, guard⟩ := o
                simp only at hop
                subst hop
                simp only [execOp, Sem.run_bind, hev.den _ _ h1, hev.den _ _ h2, SV.den, V1.den, Cell.den]
                erw [hr]
                rfl
              unfold Oper.wp
              rw [hr']
              exact hK _ _ ⟨⟨ρ, hat.em.put hd hcl.E (fun _ _ _ => rfl) undefV, o1, o2⟩, by cases o.dst <;> rfl⟩
            · simp [T.val] at h
          · simp [T.val] at h
        · simp [T.val] at h
      · simp [T.val] at h
    · -- make
      rename_i t x y hop
      refine arr_wp (P := P) h hcl hL hd fun arr harr => ?_
      obtain ⟨_, _, _, _, _, _, hnm, _⟩ := make_run (P := P) hT harr default Nm.id
      refine ⟨clL_nil hnm, fun ρ act w hat => ?_⟩
      obtain ⟨kl, kc, n, c, h1, h2, _, row, cap, hr, q⟩ := make_run (P := P) hT harr w ρ
      have hev := evOk_of hat.em hcl hat.own.glb
      refine ⟨row, cap, ?_, q⟩
      obtain ⟨dst, op, ty, pos, after, guard⟩ := o
      simp only at hop
      subst hop
      simp only [execOp, hev.den _ _ h1, hev.den _ _ h2, SV.den, V1.den, Cell.den, Sem.run_bind, hr, Result.andThen_ok, Sem.run_pure]
    · -- the building of a slice
      rename_i t len parts hop
      refine arr_wp (P := P) h hcl hL hd fun arr harr => ?_
      have hev0 : EvOk Nm.id s.H (evl N.G s.H s.E) (fun x => match evl N.G s.H s.E x with | some v => v.den Nm.id | none => undef) :=
        ⟨fun x v hx => by simp [hx], fun x v hx => evl_cl hcl hx⟩
      refine ⟨(bslice_run (P := P) hT hev0 harr default).1, fun ρ act w hat => ?_⟩
      have hev := evOk_of hat.em hcl hat.own.glb
      obtain ⟨_, row, cap, hr, q⟩ := bslice_run (P := P) hT hev harr w
      refine ⟨row, cap, ?_, q⟩
      obtain ⟨dst, op, ty, pos, after, guard⟩ := o
      simp only at hop
      subst hop
      simp only [execOp, Sem.run_bind]
      erw [hr]
      rfl
    · simp [T.val] at h
end Go.Sx
