/- Heaps as objects: their layout, how they are read off a heap; the frame with objects. -/
import Derived.Test.YtmdojlkmgllhnaaGreatDoorAv
import Derived.Test.YtmdojlkmgllhnaaGreatDoorSxOg
import Derived.Test.YtmdojlkmgllhnaaGreatDoorFr
namespace Go.Proofs.YtmdojlkmgllhnaaGreatDoor
open Go Go.Sx Go.Proofs
set_option linter.unusedVariables false
def tPlot : Nat := 167
def tWoe : Nat := 223
def tWoeP : Nat := 221
def tErrP : Nat := 254
def faultC : Option (Int × Nat) → Cell
  | none => .inil
  | some _ => .ifc tWoeP (.ptr 4 0)
def faultH (σ : Nat → Addr) : Option (Int × Nat) → Hp AV
  | none => []
  | some (k, i) => [some (.cells [.it .i64 k, .ifc tErrP (.op i (σ i))] tWoe)]
def layP (σ : Nat → Addr) (m : PlotM) : Hp AV := some (.cells [.vs 1 0 m.board.length 5 false, .vs 2 0 m.slots.length 52 false, .vs 3 0 m.free.length 1 false, .it .i64 m.steps, .it .i64 m.made, faultC m.fault] tPlot) ::
  some (.abs (.words m.board)) :: some (.abs (.slots m.slots)) :: some (.abs (.ints m.free)) :: faultH σ m.fault
def lay1 (σ : Nat → Addr) : AV → Option (Hp AV)
  | .plot m => some (layP σ m)
  | _ => none
theorem lay1_ok (σ : Nat → Addr) : LayOk (avF σ) (lay1 σ) where
  arr := fun a x h => by cases a <;> first | rfl | cases h
  row := fun a i e x h => by cases a <;> first | rfl | cases h
  upd := fun a i e o cs b a' h => by
    have h : a.upd i e o cs = some (b, a') := h
    unfold AV.upd at h
    split at h
    all_goals first
      | (cases h; done)
      | (split at h
         · simp only [Option.some.injEq, Prod.mk.injEq] at h
           have h := h.2
           subst h
           exact ⟨rfl, rfl⟩
         · cases h)
  word := fun a cs h => by cases a <;> first | rfl | cases h
def F1 (σ : Nat → Addr) : Intf AV := (avF σ).obj (lay1 σ) (lay1_ok σ)
def exW : AV → Option (List W) | .words l => some l | _ => none
def exS : AV → Option (List Sl) | .slots l => some l | _ => none
def exI : AV → Option (List N1) | .ints l => some l | _ => none
def nodupB : List Nat → Bool
  | [] => true
  | x :: r => match hasN r x with | true => false | false => nodupB r
theorem nodupB_spec : ∀ {l : List Nat}, nodupB l = true → l.Nodup
  | [], _ => List.nodup_nil
  | x :: r, h => by
    simp only [nodupB] at h
    split at h
    · cases h
    · rename_i hx
      exact List.nodup_cons.2 ⟨(fun e => by rw [(hasN_iff _ _).2 e] at hx; cases hx), nodupB_spec h⟩
def faultAt (σ : Nat → Addr) (H : Hp AV) : Cell → Option (Option (Int × Nat) × Bool × Option Nat)
  | .inil => some (none, true, none)
  | .ifc t (.ptr m 0) => match hget H m with
    | some (.cells [c, .ifc t2 (.op i a)] ty) => match iOf c, Nat.beq t tWoeP, Nat.beq t2 tErrP, Nat.beq ty tWoe with
      | some k, true, true, true => some (some (k, i), decide (a = σ i), some m)
      | _, _, _, _ => none
    | _ => none
  | _ => none
/-- what must hold of what was read -/
def backP (lb ls lf : Nat) (m : PlotM) (ok : Bool) (ns : List Nat) : T (AV × List Nat) :=
  .need (decide (lb = m.board.length)) <| .need (decide (ls = m.slots.length)) <| .need (decide (lf = m.free.length)) <| .need ok <| .leaf (.plot m, ns)
def viewP (σ : Nat → Addr) (H : Hp AV) (n : Nat) : T (AV × List Nat) := match hget H n with
  | some (.cells [c0, c1, c2, c3, c4, c5] ty) => match Nat.beq ty tPlot, arrAt kwords exW H c0, arrAt kslots exS H c1, arrAt kints exI H c2, iOf c3, iOf c4, faultAt σ H c5 with
    | true, some (b, lb, nb), some (s, ls, ns), some (f, lf, nf), some st, some md, some (ft, ok, nk) => match nodupB (n :: namesO [nb, ns, nf, nk]) with
      | true => backP lb ls lf ⟨b, s, f, st, md, ft⟩ ok (namesO [nb, ns, nf, nk])
      | false => .fail "plot: names"
    | _, _, _, _, _, _, _ => .fail "plot: parts"
  | _ => .fail "plot"
theorem layP_flat {σ : Nat → Addr} {m : PlotM} {i : Nat} {a : AV} (h : hget (layP σ m) i = some (.abs a)) : lay1 σ a = none := by
  match i, h with
  | 0, h => simp [layP, hget] at h
  | 1, h => simp only [layP, hget, Option.some.injEq, Chunk.abs.injEq] at h; subst h; rfl
  | 2, h => simp only [layP, hget, Option.some.injEq, Chunk.abs.injEq] at h; subst h; rfl
  | 3, h => simp only [layP, hget, Option.some.injEq, Chunk.abs.injEq] at h; subst h; rfl
  | i + 4, h =>
    simp only [layP, hget] at h
    cases hf : m.fault with
    | none => rw [hf] at h; cases i <;> simp [hget, faultH] at h
    | some x => rw [hf] at h; cases i with
      | zero => simp [hget, faultH] at h
      | succ i => cases i <;> simp [hget, faultH] at h
variable {N : Env AV}
theorem q_avF {σ : Nat → Addr} (hF : N.F = F1 σ) {a : AV} (h : lay1 σ a = none) (l : Sx.Loc) (S : Nat → Prop) (w : World) : N.F.q a l S w ↔ AV.q σ a l S w := by
  rw [hF]; exact objF_none h l S w
theorem iOf_den {c : Cell} {n : Int} (h : iOf c = some n) (ρ : Nm) : c.den ρ = .int .i64 n := by
  obtain ⟨h1, h2⟩ := iOf_spec h
  rw [← h1]
  exact den_congr c fun m hm => by rw [h2] at hm; cases hm
theorem viewP_ok {σ : Nat → Addr} (hF : N.F = F1 σ) : ViewOk N (viewP σ) := by
  intro H n a ns0 h ρ w hO
  unfold viewP at h
  split at h
  · rename_i c0 c1 c2 c3 c4 c5 ty hH
    split at h
    · rename_i b lb nb s ls ns f lf nf st md ft ok nk hty h0 h1 h2 h3 h4 h5
      split at h
      · rename_i hnd
        have hnd := nodupB_spec hnd
        unfold backP at h
        obtain ⟨e1, h⟩ := need_some h
        obtain ⟨e2, h⟩ := need_some h
        obtain ⟨e3, h⟩ := need_some h
        obtain ⟨e4, h⟩ := need_some h
        simp only [T.val, Option.some.injEq, Prod.mk.injEq] at h
        obtain ⟨rfl, rfl⟩ := h
        have hty := (beq_iff _ _).1 hty
        subst hty
        obtain ⟨l1, S1, d1, q1, p1⟩ := arrAt_ok (N := N) (fun a l ha lc S w hq => by cases a <;> first | (cases ha; done) | (cases ha; exact (q_avF hF rfl _ _ _).1 hq)) h0 (of_decide_eq_true e1) hO
        obtain ⟨l2, S2, d2, q2, p2⟩ := arrAt_ok (N := N) (fun a l ha lc S w hq => by cases a <;> first | (cases ha; done) | (cases ha; exact (q_avF hF rfl _ _ _).1 hq)) h1 (of_decide_eq_true e2) hO
        obtain ⟨l3, S3, d3, q3, p3⟩ := arrAt_ok (N := N) (fun a l ha lc S w hq => by cases a <;> first | (cases ha; done) | (cases ha; exact (q_avF hF rfl _ _ _).1 hq)) h2 (of_decide_eq_true e3) hO
        have hn0 := hO.q n _ hH
        -- the fault
        have hk : ∃ l4 : Sx.Loc, ∃ S4 : Nat → Prop, c5.den ρ = (faultC ft).den ⟨fun _ => l4, fun _ _ => False⟩ ∧ (∀ k i, ft = some (k, i) → w.heap[l4.b]? = some (.cells (denL ρ [.it .i64 k, .ifc tErrP (.op i (σ i))]).toArray tWoe (0, 0)) ∧ ∃ m d, nk = some m ∧ hget H m = some d ∧ (∀ k, k = l4.b ↔ d.fp ρ m k)) ∧ (ft = none → nk = none) := by
          unfold faultAt at h5
          split at h5
          · cases h5
            exact ⟨⟨0, 0, 0⟩, fun _ => False, rfl, fun k i e => (by cases e), fun _ => rfl⟩
          · rename_i t m
            split at h5
            · rename_i c t2 i ad ty2 hm
              split at h5
              · rename_i k hk1 ht1 ht2 ht3
                have ht1 := (beq_iff _ _).1 ht1
                have ht2 := (beq_iff _ _).1 ht2
                have ht3 := (beq_iff _ _).1 ht3
                subst ht1 ht2 ht3
                simp only [Option.some.injEq, Prod.mk.injEq] at h5
                obtain ⟨rfl, rfl, rfl⟩ := h5
                have ead := of_decide_eq_true e4
                subst ead
                have hm0 := hO.q m _ hm
                refine ⟨ρ.L m, fun k => k = (ρ.L m).b, rfl, fun k' i' e => ?_, fun e => by cases e⟩
                cases e
                refine ⟨?_, m, _, rfl, hm, fun k => Iff.rfl⟩
                have hm0 : w.heap[ρ m]? = some (.cells (denL ρ [c, .ifc tErrP (.op i (σ i))]).toArray tWoe (0, 0)) := hm0
                rw [hm0]
                simp only [denL, List.map_cons, List.map_nil, iOf_den hk1 ρ]
                rfl
              · cases h5
            · cases h5
          · cases h5
        obtain ⟨l4, S4, d4, f1, f2⟩ := hk
        have hq : objQ N (layP σ ⟨b, s, f, st, md, ft⟩) (ρ.L n) (partsF ρ H n (namesO [nb, ns, nf, nk])) w := by
          let ρ0 : Nm := ⟨fun i => match i with | 0 => ρ.L n | 1 => l1 | 2 => l2 | 3 => l3 | _ => l4, fun i => match i with | 1 => S1 | 2 => S2 | 3 => S3 | _ => fun _ => False⟩
          have hfc : (faultC ft).den ρ0 = c5.den ρ := by
            rw [d4]
            cases ft with
            | none => rfl
            | some x => rfl
          refine objQ_list hO ρ0 hnd (fun i m hi => ?_) (fun i c hc => ?_)
          · match i, hi with
            | 0, _ => exact ⟨_, rfl⟩
            | 1, _ => exact ⟨_, rfl⟩
            | 2, _ => exact ⟨_, rfl⟩
            | 3, _ => exact ⟨_, rfl⟩
            | 4, hi =>
              have hi : nk = some m := by simpa using hi
              cases ft with
              | none => rw [f2 rfl] at hi; cases hi
              | some x => exact ⟨_, rfl⟩
            | i + 5, hi => simp at hi
          · match i, hc with
            | 0, hc =>
              simp only [layP, hget, Option.some.injEq] at hc
              subst hc
              refine ⟨?_, some n, rfl, _, hH, fun k => Iff.rfl⟩
              have hn0 : w.heap[ρ n]? = some (.cells (denL ρ [c0, c1, c2, c3, c4, c5]).toArray tPlot (0, 0)) := hn0
              show w.heap[ρ n]? = some (.cells (denL ρ0 [.vs 1 0 b.length 5 false, .vs 2 0 s.length 52 false, .vs 3 0 f.length 1 false, .it .i64 st, .it .i64 md, faultC ft]).toArray tPlot (0, 0))
              rw [hn0]
              simp only [denL, List.map_cons, List.map_nil, iOf_den h3 ρ, iOf_den h4 ρ, hfc, d1, d2, d3]
              rfl
            | 1, hc =>
              simp only [layP, hget, Option.some.injEq] at hc
              subst hc
              exact ⟨(q_avF hF rfl _ _ _).2 q1, nb, rfl, p1⟩
            | 2, hc =>
              simp only [layP, hget, Option.some.injEq] at hc
              subst hc
              exact ⟨(q_avF hF rfl _ _ _).2 q2, ns, rfl, p2⟩
            | 3, hc =>
              simp only [layP, hget, Option.some.injEq] at hc
              subst hc
              exact ⟨(q_avF hF rfl _ _ _).2 q3, nf, rfl, p3⟩
            | i + 4, hc =>
              cases ft with
              | none => cases i <;> simp [layP, hget, faultH] at hc
              | some x =>
                obtain ⟨k, j⟩ := x
                obtain ⟨g1, m, d, g2, g3, g4⟩ := f1 k j rfl
                cases i with
                | succ i => cases i <;> simp [layP, hget, faultH] at hc
                | zero =>
                  simp only [layP, hget, faultH, Option.some.injEq] at hc
                  subst hc
                  exact ⟨g1, some m, by rw [← g2]; rfl, d, g3, g4⟩
        exact (obj_q (h := lay1_ok σ) (a := .plot ⟨b, s, f, st, md, ft⟩) hF rfl (fun i a ha => layP_flat ha) (ρ.L n) (partsF ρ H n (namesO [nb, ns, nf, nk])) w).2 hq
      · simp [T.val] at h
    · simp [T.val] at h
  · simp [T.val] at h
end Go.Proofs.YtmdojlkmgllhnaaGreatDoor
