/- LitanyExact: the summaries of the jobs' makers and of Next, as the executor uses them. -/
import Derived.Test.YtmaolegmdhnpeaaDoorLb
namespace Go.Proofs.YtmaolegmdhnpeaaDoor
open Go Go.Sx Go.Proofs
set_option maxRecDepth 100000
def A.of : List Cell → Option A
  | [a, b, c] => match toI a, toI b, toI c with
    | some a, some b, some c => some ⟨a, b, c⟩
    | _, _, _ => none
  | _ => none
def O.of : List Cell → Option O
  | [a, b, c, d] => match toI a, toI b, toI c, toI d with
    | some a, some b, some c, some d => some ⟨a, b, c, d⟩
    | _, _, _, _ => none
  | _ => none
theorem A.of_den {l : List Cell} {x : A} (h : A.of l = some x) (ρ : Nm) : denL ρ l = denL ρ x.cells := by
  unfold A.of at h
  split at h
  · split at h
    · rename_i ha hb hc
      cases h
      simp only [denL, List.map_cons, List.map_nil, A.cells, toI_den ha ρ, toI_den hb ρ, toI_den hc ρ]
    · cases h
  · cases h
theorem O.of_den {l : List Cell} {x : O} (h : O.of l = some x) (ρ : Nm) : denL ρ l = denL ρ x.cells := by
  unfold O.of at h
  split at h
  · split at h
    · rename_i ha hb hc hd
      cases h
      simp only [denL, List.map_cons, List.map_nil, O.cells, toI_den ha ρ, toI_den hb ρ, toI_den hc ρ, toI_den hd ρ]
    · cases h
  · cases h
theorem A.nm (x : A) : ∀ c ∈ x.cells, c.name = none := cellsAll _ rfl
theorem O.nm (x : O) : ∀ c ∈ x.cells, c.name = none := cellsAll _ rfl

def JobM.new (s : A) (key : Int) (op : O) : JobM := ⟨0, C.zero, s, key, op, none, .zero, 0⟩
def RJobM.new (s : A) (key : Int) (op : O) : RJobM := ⟨op, s, key, 0, .zero, 0, none, .zero, .zero, .zero, C.zero⟩
def zeroL : List Cell := [.il .i64 0, .il .i64 0, .il .i64 0, .il .i64 0, .il .i64 0, .il .i64 0, .il .i64 0, .il .i64 0, .bl false, .il .i64 0, .il .i64 0, .il .i64 0, .il .i64 0, .bl false, .il .i64 0, .il .i64 0, .il .i64 0, .il .i64 0]
def sumNext : List SV → Hp LAV → T (SV × Hp LAV)
  | [.v (.c .pnil), .v (.agg l)], H => match Rp.of l with
    | some _ => .leaf (.v (.agg zeroL), H)
    | none => .fail "Next"
  | [.v (.c (.ptr n 0)), .v (.agg l)], H => match hget H n, Rp.of l with
    | some (.abs (.job j)), some x => .leaf (.v (.agg (jobNext j x).2.cells), lset H n (some (.abs (.job (jobNext j x).1))))
    | _, _ => .fail "Next"
  | _, _ => .fail "Next"
def sumRNext : List SV → Hp LAV → T (SV × Hp LAV)
  | [.v (.c (.ptr n 0)), .v (.agg l)], H => match hget H n, Rp.of l with
    | some (.abs (.rjob j)), some x => .leaf (.v (.agg (rjobNext j x).2.cells), lset H n (some (.abs (.rjob (rjobNext j x).1))))
    | _, _ => .fail "Next"
  | _, _ => .fail "Next"
def sumFrom (k : Int) : List SV → Hp LAV → T (SV × Hp LAV)
  | [.v (.agg s), .v (.c key), .v (.agg op)], H => match A.of s, toI key, O.of op, Nat.ble 1 H.length with
    | some s, some key, some op, true => .need (op.kind == k) (.leaf (.v (.c (.ptr H.length 0)), H ++ [some (.abs (.job (JobM.new s key op)))]))
    | _, _, _, _ => .fail "From"
  | _, _ => .fail "From"
def sumRFrom : List SV → Hp LAV → T (SV × Hp LAV)
  | [.v (.agg s), .v (.c key), .v (.agg op)], H => match A.of s, toI key, O.of op, Nat.ble 1 H.length with
    | some s, some key, some op, true => .leaf (.v (.c (.ptr H.length 0)), H ++ [some (.abs (.rjob (RJobM.new s key op)))])
    | _, _, _, _ => .fail "From"
  | _, _ => .fail "From"
def tab1 (k : Int) : FuncId → Option (List SV → Hp LAV → T (SV × Hp LAV)) := fun f =>
  match Nat.beq f 9 with
  | true => some sumNext
  | false => match Nat.beq f 10 with
    | true => some sumRNext
    | false => match Nat.beq f 7 with
      | true => some (sumFrom k)
      | false => match Nat.beq f 8 with
        | true => some sumRFrom
        | false => none

/-- the block that a maker made -/
def mkView (r : SV × Hp Empty) : Option (List Cell × TypeId) :=
  match r.1 with
  | .v (.c (.ptr p 0)) => match hget r.2 p with
    | some (.cells l t) => some (normL l, t)
    | _ => none
  | _ => none
/-- a maker of one block -/
theorem mk_calls {f : FuncId} {g : List SV → Hp Empty → T (SV × Hp Empty)} (hf : FnOk Tryd.prog N0 f g) {args : List SV} {l : List Cell} {tj : TypeId}
    (hrun : (g args [none]).val.map mkView = some (some (l, tj))) (hl : ∀ c ∈ l, c.name = none) (hargs : ∀ x ∈ args, Plain x) (ρ : Nm) (w : World) :
    Calls Tryd.prog f (args.map (SV.den ρ)).toArray w fun e w' => ∃ b S', e = .returned (.pointer (some ⟨b, 0, none⟩)) ∧ (w'.heap[b]? = some (.cells (denL Nm.id l).toArray tj (0, 0)) ∧ ∀ k, S' k ↔ k = b) ∧ Fr (fun _ => False) S' w w' := by
  obtain ⟨⟨v0, H0⟩, hr, hn⟩ := Option.map_eq_some_iff.1 hrun
  have hno : ∀ n, hget ([none] : Hp Empty) n = none := fun n => by cases n <;> simp [hget]
  obtain ⟨hcl1, hcl2, hc⟩ := hf args [none] v0 H0 hr (fun x hx => (hargs x hx).cl _) ⟨(fun n x h => by rw [hno] at h; cases h), trivial⟩
  have ha : args.map (SV.den ρ) = args.map (SV.den Nm.id) := List.map_congr_left fun x hx => (hargs x hx).den _ _
  rw [ha]
  refine (hc Nm.id w ⟨(fun n c h => by rw [hno] at h; cases h), (fun n m c d _ h => by rw [hno] at h; cases h), fun g hg => rfl⟩).mono ?_
  rintro e w' ⟨ρ', rfl, hO', hE⟩
  unfold mkView at hn
  simp only at hn
  split at hn
  · rename_i p
    split at hn
    · rename_i l0 t0 hc0
      simp only [Option.some.injEq, Prod.mk.injEq] at hn
      obtain ⟨hl0, rfl⟩ := hn
      have hq : w'.heap[ρ' p]? = some (.cells (denL ρ' l0).toArray t0 (0, 0)) := hO'.q p _ hc0
      refine ⟨ρ' p, fun k => k = ρ' p, rfl, ⟨?_, fun k => Iff.rfl⟩, ⟨fun k hk _ => hE.frame k hk fun n c h => (by rw [hno] at h; cases h), fun k hk => ?_, hE.os, hE.tape, hE.output, hE.size⟩⟩
      · rw [hq, ← normL_den ρ' l0, hl0, plain_den hl ρ' Nm.id]
      · rcases hE.new p _ k hc0 hk with h | ⟨m, d, hd, _⟩
        · exact .inl h
        · rw [hno] at hd; cases hd
    · cases hn
  · cases hn
theorem nil_run (x : Rp) : (lv N0 (fun _ => none) 3 (.fn 9) [.v (.c .pnil), .v (.agg x.cells)] [none]).val.map (fun r => r.1) = some (.v (.agg zeroL)) := by kernel_rfl
theorem zeroL_nm : ∀ c ∈ zeroL, c.name = none := cellsAll _ rfl
theorem nil_calls (x : Rp) (ρ : Nm) (hg : ∀ g, g < 1 → ρ g = g) (w : World) : Calls Tryd.prog 9 ([SV.v (.c .pnil), .v (.agg x.cells)].map (SV.den ρ)).toArray w fun e w' => e = .returned ((SV.v (.agg zeroL)).den ρ) ∧ Quiet w w' := by
  obtain ⟨⟨v0, H0⟩, hr, hn⟩ := Option.map_eq_some_iff.1 (nil_run x)
  simp only at hn
  subst hn
  exact pure_calls (N := N0) (k := 1) (fn0 3 _) hr (by
    intro y hy
    simp only [List.mem_cons, List.not_mem_nil, or_false] at hy
    rcases hy with rfl | rfl
    · intro c hc; simp [V1.cells] at hc; subst hc; rfl
    · exact Rp.nm x) zeroL_nm ρ hg w
theorem from_run (s : A) (key : Int) (k : Int) (hk : k = 6 ∨ k = 7 ∨ k = 8) (a b c : Int) : (lv N0 (fun _ => none) 3 (.fn 7) [.v (.agg s.cells), .v (.c (I key)), .v (.agg (O.cells ⟨k, a, b, c⟩))] [none]).val.map mkView =
    some (some ((JobM.new s key ⟨k, a, b, c⟩).cells .pnil, 58)) := by
  rcases hk with rfl | rfl | rfl <;> kernel_rfl
theorem rfrom_run (s : A) (key : Int) (op : O) : (lv N0 (fun _ => none) 3 (.fn 8) [.v (.agg s.cells), .v (.c (I key)), .v (.agg op.cells)] [none]).val.map mkView =
    some (some ((RJobM.new s key op).cells .pnil, 61)) := by kernel_rfl
theorem argsPl3 (s : A) (key : Int) (op : O) : ∀ y ∈ [SV.v (.agg s.cells), .v (.c (I key)), .v (.agg op.cells)], Plain y := by
  intro y hy
  simp only [List.mem_cons, List.not_mem_nil, or_false] at hy
  rcases hy with rfl | rfl | rfl
  · exact A.nm s
  · intro c hc; simp [V1.cells] at hc; subst hc; rfl
  · exact O.nm op
section
variable {N : Env LAV} (hF : N.F = F1) (hG : N.G = 1)
include hF hG in
theorem next_ok : FnOk Tryd.prog N 9 sumNext := by
  intro args H v H' h hargs hC
  unfold sumNext at h
  split at h
  · rename_i l
    split at h
    · rename_i x hx
      refine fnOk_pure (N := N) (f := 9) (g := fun args H => match args with | [.v (.c .pnil), .v (.agg l)] => (match Rp.of l with | some _ => .leaf (.v (.agg zeroL), H) | none => .fail "Next") | _ => .fail "Next") ?_ [.v (.c .pnil), .v (.agg l)] H v H' (by simp only [hx]; exact h) hargs hC
      intro args H v H' h
      split at h
      · split at h
        · rename_i x hx
          simp only [T.val, Option.some.injEq, Prod.mk.injEq] at h
          obtain ⟨rfl, rfl⟩ := h
          refine ⟨rfl, zeroL_nm, fun ρ hg w => ?_⟩
          have := nil_calls x ρ (by rw [hG] at hg; exact hg) w
          simp only [List.map_cons, List.map_nil, SV.den, V1.den, Cell.den, (Rp.of_den hx ρ).1] at this ⊢
          exact this
        · simp [T.val] at h
      · simp [T.val] at h
    · simp [T.val] at h
  · rename_i n l
    split at h
    · rename_i j x hn hx
      simp only [T.val, Option.some.injEq, Prod.mk.injEq] at h
      obtain ⟨rfl, rfl⟩ := h
      refine method_ok hC hn (call_nm _) fun ρ w hq _ => ?_
      rw [hF] at hq ⊢
      have := job_calls j x w (ρ n) (ρ.S n) hq
      simp only [List.map_cons, List.map_nil, SV.den, V1.den, Cell.den, (Rp.of_den hx ρ).1, plain_den (Rp.nm x) ρ Nm.id, plain_den (call_nm _) ρ Nm.id]
      exact this
    · simp [T.val] at h
  · simp [T.val] at h
include hF in
theorem rnext_ok : FnOk Tryd.prog N 10 sumRNext := by
  intro args H v H' h hargs hC
  unfold sumRNext at h
  split at h
  · rename_i n l
    split at h
    · rename_i j x hn hx
      simp only [T.val, Option.some.injEq, Prod.mk.injEq] at h
      obtain ⟨rfl, rfl⟩ := h
      refine method_ok hC hn (call_nm _) fun ρ w hq _ => ?_
      rw [hF] at hq ⊢
      have := rjob_calls j x w (ρ n) (ρ.S n) hq
      simp only [List.map_cons, List.map_nil, SV.den, V1.den, Cell.den, (Rp.of_den hx ρ).1, plain_den (Rp.nm x) ρ Nm.id, plain_den (call_nm _) ρ Nm.id]
      exact this
    · simp [T.val] at h
  · simp [T.val] at h
include hF hG in
theorem from_ok (k : Int) (hk : k = 6 ∨ k = 7 ∨ k = 8) : FnOk Tryd.prog N 7 (sumFrom k) := by
  intro args H v H' h hargs hC
  unfold sumFrom at h
  split at h
  · rename_i sc kc oc
    split at h
    · rename_i s key op hs hkey hop hle
      obtain ⟨hkk, h⟩ := need_val h
      have hkk : op.kind = k := by simpa using hkk
      simp only [T.val, Option.some.injEq, Prod.mk.injEq] at h
      obtain ⟨rfl, rfl⟩ := h
      refine maker_ok hC (by rw [hG]; exact Nat.le_of_ble_eq_true hle) fun ρ w _ => ?_
      rw [hF]
      obtain ⟨ok, oa, ob, oc'⟩ := op
      simp only at hkk
      subst hkk
      have := mk_calls (fn0 3 _) (from_run s key ok hk oa ob oc') (job_nm _) (argsPl3 s key ⟨ok, oa, ob, oc'⟩) ρ w
      simp only [List.map_cons, List.map_nil, SV.den, V1.den, A.of_den hs ρ, O.of_den hop ρ, (toI_den hkey ρ).1] at this ⊢
      exact this
    · simp [T.val] at h
  · simp [T.val] at h
include hF hG in
theorem rfrom_ok : FnOk Tryd.prog N 8 sumRFrom := by
  intro args H v H' h hargs hC
  unfold sumRFrom at h
  split at h
  · rename_i sc kc oc
    split at h
    · rename_i s key op hs hkey hop hle
      simp only [T.val, Option.some.injEq, Prod.mk.injEq] at h
      obtain ⟨rfl, rfl⟩ := h
      refine maker_ok hC (by rw [hG]; exact Nat.le_of_ble_eq_true hle) fun ρ w _ => ?_
      rw [hF]
      have := mk_calls (fn0 3 _) (rfrom_run s key op) (rjob_nm _) (argsPl3 s key op) ρ w
      simp only [List.map_cons, List.map_nil, SV.den, V1.den, A.of_den hs ρ, O.of_den hop ρ, (toI_den hkey ρ).1] at this ⊢
      exact this
    · simp [T.val] at h
  · simp [T.val] at h
include hF hG in
theorem tab1_ok (k : Int) (hk : k = 6 ∨ k = 7 ∨ k = 8) : TabOk Tryd.prog N (tab1 k) := by
  intro f g h
  unfold tab1 at h
  split at h
  · rename_i e; cases h; rw [(beq_iff _ _).1 e]; exact next_ok hF hG
  · split at h
    · rename_i e; cases h; rw [(beq_iff _ _).1 e]; exact rnext_ok hF
    · split at h
      · rename_i e; cases h; rw [(beq_iff _ _).1 e]; exact from_ok hF hG k hk
      · split at h
        · rename_i e; cases h; rw [(beq_iff _ _).1 e]; exact rfrom_ok hF hG
        · cases h
end
end Go.Proofs.YtmaolegmdhnpeaaDoor
