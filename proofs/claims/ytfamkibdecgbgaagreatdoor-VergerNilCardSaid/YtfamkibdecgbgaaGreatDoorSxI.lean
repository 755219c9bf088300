/- The symbolic executor: one operation is sound; calls. -/
import Derived.Test.YtfamkibdecgbgaaGreatDoorSxHa
namespace Go.Sx
variable {AV : Type} {P : Program} {N : Env AV}

theorem look_put (E : Ev) (d : Nat) (v : SV) (k : Nat) : look (putE E (some d) v) k = if d = k then v else look E k := by
  simp only [putE, look]
  by_cases h : d = k
  · subst h; simp [Nat.beq_refl]
  · rw [(beq_false_iff d k).2 h, if_neg h]
theorem EM.put {ρ ρ' : Nm} {nt : Nat} {E : Ev} {a : Act} (h : EM ρ nt E a) {dst : Option Nat} (hd : ∀ d, dst = some d → d < nt) {H : Hp AV} (hc : ∀ k, ClV H (look E k)) (ha : ∀ n c, hget H n = some c → ρ'.L n = ρ.L n) (v : SV) :
    EM ρ' nt (putE E dst v) (a.put dst (v.den ρ')) := by
  cases dst with
  | none => exact ⟨h.size, fun k hk => by rw [show (look (putE E none v) k) = look E k from rfl, SV.den_congr (hc k) ha]; exact h.get k hk⟩
  | some d =>
    refine ⟨by simp [Act.put, h.size], fun k hk => ?_⟩
    rw [look_put] at hk ⊢
    have hlt : d < a.tmps.size := by rw [h.size]; exact hd d rfl
    by_cases e : d = k
    · subst e
      simp [Act.put, hlt]
    · rw [if_neg e] at hk
      rw [if_neg e, SV.den_congr (hc k) ha, ← h.get k hk]
      simp [Act.put, Array.getElem?_setIfInBounds_ne e]
theorem cl_put {s : St AV} {H' : Hp AV} (hE : ∀ k, ClV s.H (look s.E k)) (hp : ∀ n c, hget s.H n = some c → ∃ c', hget H' n = some c') {dst : Option Nat} {v : SV} (hv : ClV H' v) : ∀ k, ClV H' (look (putE s.E dst v) k) := by
  intro k
  cases dst with
  | none => exact (hE k).mono hp
  | some d =>
    rw [look_put]
    split
    · exact hv
    · exact (hE k).mono hp
theorem undef_cl (H : Hp AV) : ClV H undefV := by intro x hx; cases hx

/-- what is known behind a step -/
structure Lands (N : Env AV) (nt L : Nat) (ρ : Nm) (s : St AV) (w : World) (a : Act) (s' : St AV) (a' : Act) (w' : World) : Prop where
  ex : ∃ ρ', EM ρ' nt s'.E a' ∧ Own N ρ' s'.H w' ∧ Evo N L ρ s.H w ρ' s'.H w'
  df : a'.defers = a.defers

/-- what is known of the state at hand -/
structure At (N : Env AV) (nt : Nat) (ρ : Nm) (s : St AV) (a : Act) (w : World) : Prop where
  em : EM ρ nt s.E a
  own : Own N ρ s.H w

/-- a row in which a part was written, read within -/
theorem splice_get (row l ys : List Value) (o k j : Nat) (u : Value) (hl : o + l.length ≤ row.length) (hk : k + ys.length ≤ l.length) (h : ∀ (j : Nat) v, l[j]? = some v → row[o + j]? = some v)
    (hj : (l.take k ++ (ys ++ l.drop (k + ys.length)))[j]? = some u) : (row.take (o + k) ++ (ys ++ row.drop (o + k + ys.length)))[o + j]? = some u := by
  by_cases h1 : j < k
  · rw [List.getElem?_append_left (by simp; omega), List.getElem?_take, if_pos h1] at hj
    rw [List.getElem?_append_left (by simp; omega), List.getElem?_take, if_pos (by omega)]
    exact h j u hj
  · rw [List.getElem?_append_right (by simp; omega)] at hj ⊢
    have e1 : (l.take k).length = k := by simp; omega
    have e2 : (row.take (o + k)).length = o + k := by simp; omega
    rw [e1] at hj
    rw [e2, show o + j - (o + k) = j - k by omega]
    by_cases h2 : j - k < ys.length
    · rw [List.getElem?_append_left h2] at hj ⊢
      exact hj
    · rw [List.getElem?_append_right (by omega)] at hj ⊢
      rw [List.getElem?_drop] at hj ⊢
      have := h _ _ hj
      rw [← this]
      congr 1
      omega

theorem closed_hp {s : St AV} (h : Closed N s) : ClHp N s.H := ⟨h.H, trivial⟩

/-- a new array -/
theorem arr_wp {nt L nm : Nat} {o : Oper} {s : St AV} {arr : Option Arr} {r : SV × Option (Nat × Chunk AV)} (h : (lightArr N nm s.H arr).val = some r) (hcl : Closed N s) (hL : L ≤ nm) (hd : ∀ d, o.dst = some d → d < nt)
    (hrun : ∀ a, arr = some a → ClL s.H a.1 ∧ ∀ (ρ : Nm) (act : Act) (w : World), At N nt ρ s act w → ∃ row cap, (execOp act.eval o).run P w = .ok (.value (.slice (some ⟨w.heap.size, 0, none⟩) a.2.2.2 cap)) (w.alloc (.cells row a.2.2.1)) ∧ row.size = cap * a.2.1 ∧ a.1.length ≤ cap * a.2.1 ∧ ∀ (j : Nat) v, (denL ρ a.1)[j]? = some v → row[j]? = some v) :
    Closed N { E := putE s.E o.dst r.1, H := updH s.H r.2 } ∧
    ∀ {ρ : Nm} {a : Act} {w : World}, At N nt ρ s a w → ∀ {K : Act → World → Prop} {Q : Exit → Act → World → Prop},
      (∀ a' w', Lands N nt L ρ s w a { E := putE s.E o.dst r.1, H := updH s.H r.2 } a' w' → K a' w') → o.wp P a w K Q := by
  have hC := closed_hp hcl
  unfold lightArr at h
  split at h
  · rename_i l es e len
    split at h
    · rename_i h2 h3 h4
      simp only [T.val, Option.some.injEq] at h
      subst h
      obtain ⟨hl, hrun⟩ := hrun _ rfl
      simp only at hl hrun
      have hlt := (blt_iff _ _).1 h3
      have hG := (blt_false_iff _ _).1 h4
      have pers : ∀ n c, hget s.H n = some c → ∃ c', hget (lset s.H nm (some (.vec l es e))) n = some c' := fun n c h => ⟨c, by rw [hget_lset_ne _ (fun e => by subst e; rw [h2] at h; cases h)]; exact h⟩
      have hself := hget_lset_self (H := s.H) (.vec l es e) hlt
      have clv : ClV (lset s.H nm (some (.vec l es e))) (.v (.c (.vs nm 0 len es true))) := by
        intro c hc n hn
        simp [V1.cells] at hc; subst hc
        simp [Cell.name] at hn; subst hn
        exact ⟨_, hself⟩
      constructor
      · refine ⟨cl_put hcl.E pers clv, ?_⟩
        intro n x hc
        by_cases e : n = nm
        · subst e
          simp only [updH] at hc ⊢
          rw [hself] at hc
          cases hc
          exact hl.mono pers
        · simp only [updH] at hc ⊢
          rw [hget_lset_ne _ (Ne.symm e)] at hc
          exact (hcl.H n x hc).mono pers
      intro ρ a w hat K Q hK
      obtain ⟨row, cap, hr, q1, q2, q3⟩ := hrun ρ a w hat
      obtain ⟨o1, o2, _⟩ := own_arr (es := es) (cap := cap) (e := e) (row := row) hat.own hC h2 hlt hG hl hL q1 q2 q3
      unfold Oper.wp
      rw [hr]
      refine hK _ _ ⟨⟨_, ?_, o1, o2⟩, by cases o.dst <;> rfl⟩
      have := hat.em.put (ρ' := ρ.set nm ⟨w.heap.size, 0, cap + 1⟩ fun k => k = w.heap.size) hd hcl.E o2.agree (.v (.c (.vs nm 0 len es true)))
      rw [vs_den_new] at this
      exact this
    · simp [T.val] at h
  · simp [T.val] at h
theorem light_wp (hT : TblOk P N) {nt L nm : Nat} {o : Oper} {s : St AV} {r : SV × Option (Nat × Chunk AV)} (h : (light N nm (evl N.G s.H s.E) s.H o.op).val = some r) (hcl : Closed N s) (hL : L ≤ nm) (hd : ∀ d, o.dst = some d → d < nt) :
    Closed N { E := putE s.E o.dst r.1, H := updH s.H r.2 } ∧
    ∀ {ρ : Nm} {a : Act} {w : World}, At N nt ρ s a w → ∀ {K : Act → World → Prop} {Q : Exit → Act → World → Prop},
      (∀ a' w', Lands N nt L ρ s w a { E := putE s.E o.dst r.1, H := updH s.H r.2 } a' w' → K a' w') → o.wp P a w K Q := by
  have hC := closed_hp hcl
  unfold light at h
  split at h
  · -- looks at no memory
    rename_i t ht
    rw [T.val_map] at h
    obtain ⟨v, hv, rfl⟩ := Option.map_eq_some_iff.1 h
    have cl : ClV s.H v := by
      -- closedness does not hang on the world: ask it of any reading
      have hev : EvOk Nm.id s.H (evl N.G s.H s.E) (fun x => match evl N.G s.H s.E x with | some v => v.den Nm.id | none => undef) :=
        ⟨fun x v hx => by simp [hx], fun x v hx => evl_cl hcl hx⟩
      exact (pure_sound (P := P) hT hev (o := o) ht hv default).2
    refine ⟨⟨cl_put hcl.E (fun n c h => ⟨c, h⟩) cl, hcl.H⟩, ?_⟩
    intro ρ a w hat K Q hK
    have hev := evOk_of hat.em hcl hat.own.glb
    have hr := (pure_sound (P := P) hT hev (o := o) ht hv w).1
    unfold Oper.wp
    rw [hr]
    exact hK _ _ ⟨⟨ρ, hat.em.put hd hcl.E (fun _ _ _ => rfl) v, hat.own, Evo.refl _ _ _ _⟩, by cases o.dst <;> rfl⟩
  · split at h
    · -- alloc
      rename_i t hop
      split at h
      · rename_i kd sz z fl h1 h2 h3 h4
        simp only [T.val, Option.some.injEq] at h
        subst h
        have hlt := (blt_iff _ _).1 h3
        have hG := (blt_false_iff _ _).1 h4
        obtain ⟨v0, hz, hzc, hzn⟩ := tbl_zero hT h1 rfl Nm.id
        have hzl : ClL s.H z := clL_nil hzn
        have pers : ∀ n c, hget s.H n = some c → ∃ c', hget (lset s.H nm (some (.cells z t))) n = some c' := fun n c h => ⟨c, by rw [hget_lset_ne _ (fun e => by subst e; rw [h2] at h; cases h)]; exact h⟩
        have hself := hget_lset_self (H := s.H) (.cells z t) hlt
        have clv : ClV (lset s.H nm (some (.cells z t))) (.v (.c (.ptr nm 0))) := by
          intro c hc n hn
          simp [V1.cells] at hc; subst hc
          simp [Cell.name] at hn; subst hn
          exact ⟨_, hself⟩
        constructor
        · refine ⟨cl_put hcl.E pers clv, ?_⟩
          · intro n x hc
            by_cases e : n = nm
            · subst e
              simp only [updH] at hc ⊢
              rw [hself] at hc
              cases hc
              exact hzl.mono pers
            · simp only [updH] at hc ⊢
              rw [hget_lset_ne _ (Ne.symm e)] at hc
              exact (hcl.H n x hc).mono pers
        intro ρ a w hat K Q hK
        obtain ⟨v0, hz, hzc, _⟩ := tbl_zero hT h1 rfl ρ
        obtain ⟨o1, o2, _⟩ := own_alloc hat.own hC h2 hlt hG t hzl hL
        have hr : (execOp a.eval o).run P w = .ok (.value (.pointer (some ⟨w.heap.size, 0, none⟩))) (w.alloc (.cells (denL ρ z).toArray t)) := by
          obtain ⟨dst, op, ty, pos, after, guard⟩ := o
          simp only at hop
          subst hop
          have hzc' : v0.cells = (denL ρ z).toArray := by rw [← hzc]
          simp [execOp, Instr.alloc, hz, newVar, newRow, newObj, Sem.run, hzc']
        unfold Oper.wp
        rw [hr]
        refine hK _ _ ⟨⟨_, ?_, o1, o2⟩, by cases o.dst <;> rfl⟩
        have := hat.em.put (ρ' := ρ.set nm ⟨w.heap.size, 0, 0⟩ fun _ => False) hd hcl.E o2.agree (.v (.c (.ptr nm 0)))
        simpa [SV.den, V1.den, Cell.den, Nm.f, Nm.set] using this
      · simp [T.val] at h
    · -- box
      rename_i t x hop
      split at h
      · rename_i v h1 h2 h3 h4
        simp only [T.val, Option.some.injEq] at h
        subst h
        have hlt := (blt_iff _ _).1 h3
        have hG := (blt_false_iff _ _).1 h4
        have hvl : ClL s.H v.cells := evl_cl hcl h1
        have pers : ∀ n c, hget s.H n = some c → ∃ c', hget (lset s.H nm (some (.cells v.cells t))) n = some c' := fun n c h => ⟨c, by rw [hget_lset_ne _ (fun e => by subst e; rw [h2] at h; cases h)]; exact h⟩
        have hself := hget_lset_self (H := s.H) (.cells v.cells t) hlt
        have clv : ClV (lset s.H nm (some (.cells v.cells t))) (.v (.c (.ptr nm 0))) := by
          intro c hc n hn
          simp [V1.cells] at hc; subst hc
          simp [Cell.name] at hn; subst hn
          exact ⟨_, hself⟩
        constructor
        · refine ⟨cl_put hcl.E pers clv, ?_⟩
          · intro n x hc
            by_cases e : n = nm
            · subst e
              simp only [updH] at hc ⊢
              rw [hself] at hc
              cases hc
              exact hvl.mono pers
            · simp only [updH] at hc ⊢
              rw [hget_lset_ne _ (Ne.symm e)] at hc
              exact (hcl.H n x hc).mono pers
        intro ρ a w hat K Q hK
        have hev := evOk_of hat.em hcl hat.own.glb
        obtain ⟨o1, o2, _⟩ := own_alloc hat.own hC h2 hlt hG t hvl hL
        have hr : (execOp a.eval o).run P w = .ok (.value (.pointer (some ⟨w.heap.size, 0, none⟩))) (w.alloc (.cells (denL ρ v.cells).toArray t)) := by
          obtain ⟨dst, op, ty, pos, after, guard⟩ := o
          simp only at hop
          subst hop
          have hcl' : (v.den ρ).cells = (denL ρ v.cells).toArray := by rw [← V1.den_cells ρ v]
          simp [execOp, Instr.box, hev.den _ _ h1, SV.den, newVar, newRow, newObj, Sem.run, hcl']
        unfold Oper.wp
        rw [hr]
        refine hK _ _ ⟨⟨_, ?_, o1, o2⟩, by cases o.dst <;> rfl⟩
        have := hat.em.put (ρ' := ρ.set nm ⟨w.heap.size, 0, 0⟩ fun _ => False) hd hcl.E o2.agree (.v (.c (.ptr nm 0)))
        simpa [SV.den, V1.den, Cell.den, Nm.f, Nm.set] using this
      · simp [T.val] at h
    · -- load
      rename_i t x hop
      split at h
      · rename_i p h1
        rw [T.val_map] at h
        obtain ⟨v, hv, rfl⟩ := Option.map_eq_some_iff.1 h
        have cl : ClV s.H v := by
          unfold loadV at hv
          split at hv
          · split at hv
            · rename_i hn
              obtain ⟨x', hx, rfl⟩ := one_val hv
              exact partV_cl hx (hcl.H _ _ hn)
            · rename_i a hn
              split at hv
              · rename_i l hw
                obtain ⟨x', hx, rfl⟩ := one_val hv
                exact partV_cl hx (clL_nil fun c hc => N.F.word_nm _ _ hw c hc)
              · simp [T.val] at hv
            · simp [T.val] at hv
          · split at hv
            · rename_i a hn
              split at hv
              · rename_i b l hr
                obtain ⟨rfl, hv⟩ := need_val hv
                obtain ⟨x', hx, rfl⟩ := one_val hv
                refine partV_cl hx (clL_nil fun c hc => ?_)
                exact N.F.row_nm _ _ _ _ hr c hc
              · simp [T.val] at hv
            · rename_i hn
              obtain ⟨x', hx, rfl⟩ := one_val hv
              exact partV_cl hx (hcl.H _ _ hn)
            · simp [T.val] at hv
          · simp [T.val] at hv
        refine ⟨⟨cl_put hcl.E (fun n c h => ⟨c, h⟩) cl, hcl.H⟩, ?_⟩
        intro ρ a w hat K Q hK
        have hev := evOk_of hat.em hcl hat.own.glb
        have hr := (load_run (P := P) hT hat.own hC hv).1
        have hr' : (execOp a.eval o).run P w = .ok (.value (v.den ρ)) w := by
          obtain ⟨dst, op, ty, pos, after, guard⟩ := o
          simp only at hop
          subst hop
          simp only [execOp, Sem.run_bind, hev.den _ _ h1, hr, Result.andThen_ok, Sem.run_pure]
        unfold Oper.wp
        rw [hr']
        exact hK _ _ ⟨⟨ρ, hat.em.put hd hcl.E (fun _ _ _ => rfl) v, hat.own, Evo.refl _ _ _ _⟩, by cases o.dst <;> rfl⟩
      · simp [T.val] at h
    · -- store
      rename_i t x y hop
      split at h
      · rename_i n off v h1 h2
        split at h
        · rename_i l ty i h3 h4
          split at h
          · rename_i h5
            split at h
            · rename_i l' h6
              simp only [T.val, Option.some.injEq] at h
              subst h
              have h5 := (beq_iff _ _).1 h5
              have hvl : ClL s.H v.cells := evl_cl hcl h2
              have hl' : ClL s.H l' := by
                intro c hc
                rw [(lput_eq h6).1] at hc
                rcases List.mem_append.1 hc with hc | hc
                · rcases List.mem_append.1 hc with hc | hc
                  · exact hcl.H n _ h3 c (List.mem_of_mem_take hc)
                  · exact hvl c hc
                · exact hcl.H n _ h3 c (List.mem_of_mem_drop hc)
              have hself := hget_lset_self (H := s.H) (.cells l' ty) (hget_lt h3)
              have pers : ∀ m c, hget s.H m = some c → ∃ c', hget (lset s.H n (some (.cells l' ty))) m = some c' := fun m c h => by
                by_cases e : m = n
                · subst e; exact ⟨_, hself⟩
                · exact ⟨c, by rw [hget_lset_ne _ (Ne.symm e)]; exact h⟩
              constructor
              · refine ⟨cl_put hcl.E pers (undef_cl _), ?_⟩
                · intro m x2 hc
                  simp only [updH] at hc ⊢
                  by_cases e : m = n
                  · subst e
                    rw [hself] at hc
                    cases hc
                    exact hl'.mono pers
                  · rw [hget_lset_ne _ (Ne.symm e)] at hc
                    exact (hcl.H m x2 hc).mono pers
              intro ρ a w hat K Q hK
              have hev := evOk_of hat.em hcl hat.own.glb
              obtain ⟨o1, o2, _⟩ := own_store hat.own hC h3 hl' L
              have hr := store_run (P := P) (v := v) hT hat.own h3 h4 h5 h6
              have hr' : (execOp a.eval o).run P w = .ok .skip (w.setRow (ρ n) (denL ρ l').toArray) := by
                obtain ⟨dst, op, ty, pos, after, guard⟩ := o
                simp only at hop
                subst hop
                simp only [execOp, Sem.run_bind, hev.den _ _ h1, hev.den _ _ h2, SV.den, V1.den, Cell.den]
                erw [hr]
                rfl
              unfold Oper.wp
              rw [hr']
              exact hK _ _ ⟨⟨ρ, hat.em.put hd hcl.E (fun _ _ _ => rfl) undefV, o1, o2⟩, by cases o.dst <;> rfl⟩
            · simp [T.val] at h
          · simp [T.val] at h
        · simp [T.val] at h
      · -- an array's element
        rename_i n idx es off v h1 h2
        have hvl : ClL s.H v.cells := evl_cl hcl h2
        -- whatever chunk is written: closedness
        have shut : ∀ ck ck' : Chunk AV, hget s.H n = some ck → ClL s.H ck'.cellsOf → Closed N { E := putE s.E o.dst undefV, H := updH s.H (some (n, ck')) } := by
          intro ck ck' h3 hl'
          have hself := hget_lset_self (H := s.H) ck' (hget_lt h3)
          have pers : ∀ m c, hget s.H m = some c → ∃ c', hget (lset s.H n (some ck')) m = some c' := fun m c h => by
            by_cases e : m = n
            · subst e; exact ⟨_, hself⟩
            · exact ⟨c, by rw [hget_lset_ne _ (Ne.symm e)]; exact h⟩
          refine ⟨cl_put hcl.E pers (undef_cl _), ?_⟩
          intro m x2 hc
          simp only [updH] at hc ⊢
          by_cases e : m = n
          · subst e
            rw [hself] at hc
            cases hc
            exact hl'.mono pers
          · rw [hget_lset_ne _ (Ne.symm e)] at hc
            exact (hcl.H m x2 hc).mono pers
        split at h
        · rename_i l ve ty i h3 h4
          split at h
          · rename_i h5
            have h5 := (beq_iff _ _).1 h5
            split at h
            · simp [T.val] at h
            rename_i h50
            have h50 := (beq_false_iff _ _).1 h50
            split at h
            · rename_i l' h6
              simp only [T.val, Option.some.injEq] at h
              subst h
              obtain ⟨e1, e2⟩ := lput_eq h6
              have hl' : ClL s.H l' := by
                intro c hc
                rw [e1] at hc
                rcases List.mem_append.1 hc with hc | hc
                · rcases List.mem_append.1 hc with hc | hc
                  · exact hcl.H n _ h3 c (List.mem_of_mem_take hc)
                  · exact hvl c hc
                · exact hcl.H n _ h3 c (List.mem_of_mem_drop hc)
              refine ⟨shut _ (.vec l' ve ty) h3 hl', ?_⟩
              intro ρ a w hat K Q hK
              have hev := evOk_of hat.em hcl hat.own.glb
              have hq := hat.own.q n _ h3
              rcases hq with ⟨_, h0, _⟩ | ⟨q1, q2, row, q3, q4, q5, q6⟩
              · have hl0 : l = [] := by simpa [denL] using h0
                subst hl0
                have e2' : idx * es + off + v.cells.length ≤ 0 := e2
                omega
              · have hll : l.length ≤ ((ρ.L n).c - 1) * ve := by simpa [denL] using q5
                have hr := storeRow_run (P := P) (ρ := ρ) (off := (ρ.L n).o + (idx * es + off)) (v := v) hT q3 h4 h5 (by omega)
                have hlen : l'.length = l.length := by rw [e1]; simp; omega
                obtain ⟨o1, o2, _⟩ := own_write hat.own hC h3 (ck' := .vec l' ve ty) hl' L (row := (row.take ((ρ.L n).o + (idx * es + off)) ++ (denL ρ v.cells ++ row.drop ((ρ.L n).o + (idx * es + off) + v.cells.length))).toArray) ((q2 _).2 rfl) (fun _ h => h) (by
                  refine .inr ⟨q1, q2, _, setRow_heap w (ρ n) _ _ ty (0, 0) q3, ?_, ?_, ?_⟩
                  · simp [denL_length]; omega
                  · rw [denL_length, hlen]; exact hll
                  · intro j u hj
                    rw [e1] at hj
                    simp only [denL, List.map_append, List.map_take, List.map_drop] at hj
                    have hlr : (ρ.L n).o + l.length ≤ row.length := by omega
                    rw [List.append_assoc] at hj
                    have := splice_get row (denL ρ l) (denL ρ v.cells) (ρ.L n).o (idx * es + off) j u (by simpa [denL] using hlr) (by simpa [denL] using e2) q6 (by simpa [denL] using hj)
                    simpa [denL_length] using this)
                have hr' : (execOp a.eval o).run P w = .ok .skip (w.setRow (ρ n) (row.take ((ρ.L n).o + (idx * es + off)) ++ (denL ρ v.cells ++ row.drop ((ρ.L n).o + (idx * es + off) + v.cells.length))).toArray) := by
                  obtain ⟨dst, op, ty, pos, after, guard⟩ := o
                  simp only at hop
                  subst hop
                  have e0 : (ρ.L n).o + idx * es + off = (ρ.L n).o + (idx * es + off) := by omega
                  simp only [execOp, Sem.run_bind, hev.den _ _ h1, hev.den _ _ h2, SV.den, V1.den, Cell.den, e0]
                  erw [hr]
                  rfl
                unfold Oper.wp
                rw [hr']
                exact hK _ _ ⟨⟨ρ, hat.em.put hd hcl.E (fun _ _ _ => rfl) undefV, o1, o2⟩, by cases o.dst <;> rfl⟩
            · simp [T.val] at h
          · simp [T.val] at h
        · rename_i a i h3 h4
          split at h
          · rename_i h5
            have h5 := (beq_iff _ _).1 h5
            split at h
            · rename_i b a' h6
              obtain ⟨rfl, h⟩ := need_val h
              simp only [T.val, Option.some.injEq] at h
              subst h
              refine ⟨shut _ (.abs a') h3 (by intro c hc; cases hc), ?_⟩
              intro ρ act w hat K Q hK
              have hev := evOk_of hat.em hcl hat.own.glb
              have hq : N.F.q a (ρ.L n) (ρ.S n) w := hat.own.q n _ h3
              obtain ⟨u1, u2, row, ty, u3, u4, u5⟩ := N.F.upd_ok a (ρ.L n) (ρ.S n) w idx es off v.cells a' hq h6
              have hden : denL ρ v.cells = denL Nm.id v.cells := by
                unfold denL
                apply List.map_congr_left
                intro c hc
                exact den_congr c fun m hm => by rw [u1 c hc] at hm; cases hm
              have hr := storeRow_run (P := P) (ρ := ρ) (off := (ρ.L n).o + idx * es + off) (v := v) hT u3 h4 h5 u4
              rw [hden] at hr
              obtain ⟨o1, o2, _⟩ := own_write hat.own hC h3 (ck' := .abs a') (by intro c hc; cases hc) L u2 (fun _ h => h) u5
              have hr' : (execOp act.eval o).run P w = .ok .skip (w.setRow (ρ n) (row.take ((ρ.L n).o + idx * es + off) ++ (denL Nm.id v.cells ++ row.drop ((ρ.L n).o + idx * es + off + v.cells.length))).toArray) := by
                obtain ⟨dst, op, ty, pos, after, guard⟩ := o
                simp only at hop
                subst hop
                simp only [execOp, Sem.run_bind, hev.den _ _ h1, hev.den _ _ h2, SV.den, V1.den, Cell.den]
                erw [hr]
                rfl
              unfold Oper.wp
              rw [hr']
              exact hK _ _ ⟨⟨ρ, hat.em.put hd hcl.E (fun _ _ _ => rfl) undefV, o1, o2⟩, by cases o.dst <;> rfl⟩
            · simp [T.val] at h
          · simp [T.val] at h
        · simp [T.val] at h
      · simp [T.val] at h
    · -- make
      rename_i t x y hop
      refine arr_wp (P := P) h hcl hL hd fun arr harr => ?_
      obtain ⟨_, _, _, _, _, _, hnm, _⟩ := make_run (P := P) hT harr default Nm.id
      refine ⟨clL_nil hnm, fun ρ act w hat => ?_⟩
      obtain ⟨kl, kc, n, c, h1, h2, _, row, cap, hr, q⟩ := make_run (P := P) hT harr w ρ
      have hev := evOk_of hat.em hcl hat.own.glb
      refine ⟨row, cap, ?_, q⟩
      obtain ⟨dst, op, ty, pos, after, guard⟩ := o
      simp only at hop
      subst hop
      simp only [execOp, hev.den _ _ h1, hev.den _ _ h2, SV.den, V1.den, Cell.den, Sem.run_bind, hr, Result.andThen_ok, Sem.run_pure]
    · -- the building of a slice
      rename_i t len parts hop
      refine arr_wp (P := P) h hcl hL hd fun arr harr => ?_
      have hev0 : EvOk Nm.id s.H (evl N.G s.H s.E) (fun x => match evl N.G s.H s.E x with | some v => v.den Nm.id | none => undef) :=
        ⟨fun x v hx => by simp [hx], fun x v hx => evl_cl hcl hx⟩
      refine ⟨(bslice_run (P := P) hT hev0 harr default).1, fun ρ act w hat => ?_⟩
      have hev := evOk_of hat.em hcl hat.own.glb
      obtain ⟨_, row, cap, hr, q⟩ := bslice_run (P := P) hT hev harr w
      refine ⟨row, cap, ?_, q⟩
      obtain ⟨dst, op, ty, pos, after, guard⟩ := o
      simp only at hop
      subst hop
      simp only [execOp, Sem.run_bind]
      erw [hr]
      rfl
    · simp [T.val] at h
end Go.Sx
