/- The jobs of an ordered list as abstract objects: summaries of their makers and of Next. -/
import Derived.Test.YtmaolegmdhnpeaaDoorLa
namespace Go.Proofs.YtmaolegmdhnpeaaDoor
open Go Go.Sx Go.Proofs
set_option maxRecDepth 100000
inductive LAV where
  | job (j : JobM) | rjob (j : RJobM) | reps (l : List Rp) (ob : Option Obj)
def Rp.zero : Rp := ⟨.zero, false⟩
def nthR : List Rp → Nat → Rp
  | [], _ => Rp.zero
  | x :: _, 0 => x
  | _ :: r, n + 1 => nthR r n
theorem nthR_eq : ∀ (l : List Rp) (i : Nat), i < l.length → l[i]? = some (nthR l i)
  | [], _, h => by simp at h
  | _ :: _, 0, _ => by simp [nthR]
  | _ :: r, n + 1, h => by simp only [nthR, List.getElem?_cons_succ]; exact nthR_eq r n (by simpa using h)
theorem Rp.nm (x : Rp) : ∀ c ∈ x.cells, c.name = none := by
  intro c hc
  simp only [Rp.cells, List.mem_cons, List.not_mem_nil, or_false] at hc
  rcases hc with rfl | rfl | rfl | rfl | rfl | rfl <;> rfl
def repsQ (l : List Rp) (lc : Sx.Loc) (S : Nat → Prop) (w : World) : Prop :=
  (∀ i, i < l.length → ∀ (j : Nat) c, (nthR l i).cells[j]? = some c → w.cell? ⟨lc.b, lc.o + i * 6 + j, none⟩ = some (c.den Nm.id)) ∧ ∀ k, S k → k = lc.b ∧ 0 < l.length
def F1 : Intf LAV where
  q := fun a lc S w => match a with
    | .job j => pairQ 27 (j.cells .pnil) 58 (j.walk.map WalkM.cells) 72 lc.b S w
    | .rjob j => pairQ 15 (j.cells .pnil) 61 (j.walk.map RWalkM.cells) 63 lc.b S w
    | .reps l ob => repsQ l lc S w ∧ (0 < l.length → S lc.b ∧ w.heap[lc.b]? = ob)
  loc := fun a l S w w' hk h => by
    cases a with
    | job j => exact pairQ_loc hk h
    | rjob j => exact pairQ_loc hk h
    | reps r ob =>
      obtain ⟨⟨h1, h2⟩, h3⟩ := h
      refine ⟨⟨fun i hi j c hc => ?_, h2⟩, fun hl => ⟨(h3 hl).1, by rw [hk l.b (h3 hl).1]; exact (h3 hl).2⟩⟩
      have := h1 i hi j c hc
      simp only [World.cell?, hk l.b (h3 (by omega)).1]
      exact this
  dom := fun a l S w k h hk => by
    cases a with
    | job j => exact pairQ_dom h hk
    | rjob j => exact pairQ_dom h hk
    | reps r ob =>
      obtain ⟨⟨h1, h2⟩, h3⟩ := h
      obtain ⟨rfl, hl⟩ := h2 k hk
      have := h1 0 hl 0 (I (nthR r 0).w.slot) rfl
      simp only [World.cell?] at this
      rcases Nat.lt_or_ge l.b w.heap.size with h' | h'
      · exact h'
      · rw [Array.getElem?_eq_none h'] at this; cases this
  row := fun a idx es => match a with
    | .reps l _ => match Nat.beq es 6 with
      | true => some (decide (idx < l.length), (nthR l idx).cells)
      | false => none
    | _ => none
  row_nm := fun a idx es cs h => by
    cases a with
    | job j => cases h
    | rjob j => cases h
    | reps r ob =>
      simp only at h
      split at h
      · simp only [Option.some.injEq, Prod.mk.injEq] at h; rw [← h.2]; exact Rp.nm _
      · cases h
  row_ok := fun a l S w idx es cs hq h j c hc => by
    cases a with
    | job j => cases h
    | rjob j => cases h
    | reps r ob =>
      simp only at h
      split at h
      · rename_i he
        have he := (beq_iff _ _).1 he
        subst he
        simp only [Option.some.injEq, Prod.mk.injEq, decide_eq_true_eq] at h
        obtain ⟨hi, rfl⟩ := h
        exact hq.1.1 idx hi j c hc
      · cases h
  upd := fun _ _ _ _ _ => none
  upd_ok := fun a l S w idx es off cs a' hq h => by cases h
/-- the cells of jobs bear no names -/
theorem cellsAll (l : List Cell) (h : (l.all fun c => c.name.isNone) = true) : ∀ c ∈ l, c.name = none := by
  intro c hc
  have := List.all_eq_true.1 h c hc
  simpa using this
theorem job_nm (j : JobM) : ∀ c ∈ j.cells .pnil, c.name = none := cellsAll _ rfl
theorem walk_nm (m : WalkM) : ∀ c ∈ m.cells, c.name = none := cellsAll _ rfl
theorem rjob_nm (j : RJobM) : ∀ c ∈ j.cells .pnil, c.name = none := cellsAll _ rfl
theorem rwalk_nm (m : RWalkM) : ∀ c ∈ m.cells, c.name = none := cellsAll _ rfl
theorem call_nm (c : C) : ∀ d ∈ c.cells, d.name = none := cellsAll _ rfl

/-- what the models' trees come to -/
def jobNext (j : JobM) (x : Rp) : JobM × C := (jobNextT j x).get (j, C.zero)
def rjobNext (j : RJobM) (x : Rp) : RJobM × C := (rjobNextT j x).get (j, C.zero)
theorem job_sure (pc : Int) (last : C) (start : A) (key : Int) (op : O) (node : W) (val : Int) (x : Rp) : ∀ wk : Option WalkM, (jobNextT ⟨pc, last, start, key, op, wk, node, val⟩ x).sure = true
  | none => by kernel_rfl
  | some m => by kernel_rfl
theorem rjob_sure (op : O) (start : A) (key line : Int) (node : W) (num : Int) (prev : A) (cur next : W) (fin : C) (x : Rp) : ∀ wk : Option RWalkM, (rjobNextT ⟨op, start, key, line, node, num, wk, prev, cur, next, fin⟩ x).sure = true
  | none => by kernel_rfl
  | some m => by kernel_rfl
theorem map_val {α β γ : Type} {t : T α} {u : T β} {f : α → γ} {g : β → γ} (h : t.map f = u.map g) {b : β} (hb : u.val = some b) : ∃ a, t.val = some a ∧ f a = g b := by
  have : (t.map f).val = (u.map g).val := by rw [h]
  rw [T.val_map, T.val_map, hb, Option.map_some] at this
  exact Option.map_eq_some_iff.1 this
theorem argsPl (x : Rp) : ∀ y ∈ [SV.v (.c (.ptr 1 0)), .v (.agg x.cells)], Plain y ∨ y = .v (.c (.ptr 1 0)) := by
  intro y hy
  simp only [List.mem_cons, List.not_mem_nil, or_false] at hy
  rcases hy with rfl | rfl
  · exact .inr rfl
  · exact .inl (Rp.nm x)
/-- Next of the program's job -/
theorem job_calls (j : JobM) (x : Rp) (w : World) (b : Nat) (S : Nat → Prop) (hq : pairQ 27 (j.cells .pnil) 58 (j.walk.map WalkM.cells) 72 b S w) :
    Calls Tryd.prog 9 #[.pointer (some ⟨b, 0, none⟩), .agg (denL Nm.id x.cells).toArray] w fun e w' => e = .returned (.agg (denL Nm.id (jobNext j x).2.cells).toArray) ∧
      ∃ S', pairQ 27 ((jobNext j x).1.cells .pnil) 58 ((jobNext j x).1.walk.map WalkM.cells) 72 b S' w' ∧ Fr S S' w w' := by
  have hval : (jobNextT j x).val = some (jobNext j x) := T.val_get _ (by obtain ⟨pc, last, start, key, op, wk, node, val⟩ := j; exact job_sure ..)
  have hrun : ∃ r, (lv N0 (fun _ => none) 8 (.fn 9) [.v (.c (.ptr 1 0)), .v (.agg x.cells)] (pairHp 27 (j.cells .pnil) 58 (j.walk.map WalkM.cells) 72)).val = some r ∧ viewJ 27 58 72 r = jres (jobNext j x) := by
    obtain ⟨pc, last, start, key, op, wk, node, val⟩ := j
    cases wk with
    | none => exact map_val (job_none pc last start key op node val x) hval
    | some m => exact map_val (job_some pc last start key op m node val x) hval
  obtain ⟨r, h1, h2⟩ := hrun
  have := pair_calls (fn0 8 _) rfl h1 h2 (job_nm j) (job_nm _) (fun m hm c hc => by
    cases hw : j.walk with
    | none => rw [hw] at hm; cases hm
    | some k => rw [hw] at hm; cases hm; exact walk_nm k c hc) (fun m hm c hc => by
    cases hw : (jobNext j x).1.walk with
    | none => rw [hw] at hm; cases hm
    | some k => rw [hw] at hm; cases hm; exact walk_nm k c hc) (argsPl x) (call_nm _) w b S hq
  have e : ([SV.v (.c (.ptr 1 0)), .v (.agg x.cells)].map (SV.den (nm1 0 b))).toArray = #[.pointer (some ⟨b, 0, none⟩), .agg (denL Nm.id x.cells).toArray] := by
    simp only [List.map_cons, List.map_nil, SV.den, V1.den, Cell.den, plain_den (Rp.nm x) (nm1 0 b) Nm.id]
    rfl
  rw [e] at this
  exact this
/-- Next of the document's job -/
theorem rjob_calls (j : RJobM) (x : Rp) (w : World) (b : Nat) (S : Nat → Prop) (hq : pairQ 15 (j.cells .pnil) 61 (j.walk.map RWalkM.cells) 63 b S w) :
    Calls Tryd.prog 10 #[.pointer (some ⟨b, 0, none⟩), .agg (denL Nm.id x.cells).toArray] w fun e w' => e = .returned (.agg (denL Nm.id (rjobNext j x).2.cells).toArray) ∧
      ∃ S', pairQ 15 ((rjobNext j x).1.cells .pnil) 61 ((rjobNext j x).1.walk.map RWalkM.cells) 63 b S' w' ∧ Fr S S' w w' := by
  have hval : (rjobNextT j x).val = some (rjobNext j x) := T.val_get _ (by obtain ⟨op, start, key, line, node, num, wk, prev, cur, next, fin⟩ := j; exact rjob_sure ..)
  have hrun : ∃ r, (lv N0 (fun _ => none) 8 (.fn 10) [.v (.c (.ptr 1 0)), .v (.agg x.cells)] (pairHp 15 (j.cells .pnil) 61 (j.walk.map RWalkM.cells) 63)).val = some r ∧ viewJ 15 61 63 r = rjres (rjobNext j x) := by
    obtain ⟨op, start, key, line, node, num, wk, prev, cur, next, fin⟩ := j
    cases wk with
    | none => exact map_val (rjob_none op start key line node num prev cur next fin x) hval
    | some m => exact map_val (rjob_some op start key line node num m prev cur next fin x) hval
  obtain ⟨r, h1, h2⟩ := hrun
  have := pair_calls (fn0 8 _) rfl h1 h2 (rjob_nm j) (rjob_nm _) (fun m hm c hc => by
    cases hw : j.walk with
    | none => rw [hw] at hm; cases hm
    | some k => rw [hw] at hm; cases hm; exact rwalk_nm k c hc) (fun m hm c hc => by
    cases hw : (rjobNext j x).1.walk with
    | none => rw [hw] at hm; cases hm
    | some k => rw [hw] at hm; cases hm; exact rwalk_nm k c hc) (argsPl x) (call_nm _) w b S hq
  have e : ([SV.v (.c (.ptr 1 0)), .v (.agg x.cells)].map (SV.den (nm1 0 b))).toArray = #[.pointer (some ⟨b, 0, none⟩), .agg (denL Nm.id x.cells).toArray] := by
    simp only [List.map_cons, List.map_nil, SV.den, V1.den, Cell.den, plain_den (Rp.nm x) (nm1 0 b) Nm.id]
    rfl
  rw [e] at this
  exact this
end Go.Proofs.YtmaolegmdhnpeaaDoor
