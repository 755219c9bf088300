/- LitanyExact: the loops. -/
import Derived.Test.YtmaolegmdhnpeaaDoorLc
import Derived.Test.YtmaolegmdhnpeaaDoorMc
namespace Go.Proofs.YtmaolegmdhnpeaaDoor
open Go Go.Sx Go.Proofs
set_option maxRecDepth 100000
noncomputable def N2 : Env LAV := { tt := tt, ft := ft, gu := gu, G := 1, F := F1 }
theorem ok2 : TblOk Tryd.prog N2 := tblOk 1 F1 _ _
theorem lps2 : LpsOk Tryd.prog N2 := fun f fn c _ _ id b _ g hg => by cases hg
theorem hv2 : HvOk Tryd.prog N2 := fun o args H v H' h => by simp [N2, T.val] at h
noncomputable def body3 : Code := match Tryd.f3.body with | some c => c | none => .skip
noncomputable def L1 : Code := match loopsOf body3 with | (_, c) :: _ => c | _ => .skip
noncomputable def L2 : Code := match loopsOf body3 with | _ :: (_, c) :: _ => c | _ => .skip
theorem loops3 : loopsOf body3 = [(9, L1), (17, L2)] := by kernel_rfl
/-- the state at the loop: which temporaries hold the two jobs and the counter, which names the jobs have -/
def famE (tj tr tc nj nr : Nat) (l : List Rp) (i : Int) : Ev := only [2, 3, tj, tr, tc] [(2, .v (.c (.vs 1 0 l.length 6 false))), (3, .v (.c (.ptr 2 0))), (tj, .v (.c (.ptr nj 0))), (tr, .v (.c (.ptr nr 0))), (tc, .v (.c (I i)))] 97
def fam1 (ob : Option Obj) (x0 x2 x3 x4 : Chunk LAV) (l : List Rp) (i : Int) (j : JobM) (r : RJobM) : St LAV :=
  { E := famE 8 9 10 5 6 l i, H := [some x0, some (.abs (.reps l ob)), some x2, some x3, some x4, some (.abs (.job j)), some (.abs (.rjob r))] }
def mapf (ks : List Nat) (r : Ex × St LAV) : Ex × Option (St LAV) := match r.1 with
  | .ret => (.ret, none)
  | e => (e, some { r.2 with E := only ks r.2.E 97 })
/-- the calls differ -/
def neC (a b : C) : Bool := !((a.kind == b.kind) && ((a.ad.slot == b.ad.slot) && ((a.ad.gen == b.ad.gen) && ((a.ad.field == b.ad.field) && ((a.old.slot == b.old.slot) && ((a.old.gen == b.old.gen) && ((a.old.tag == b.old.tag) && ((a.old.num == b.old.num) && ((a.old.mark == b.old.mark) &&
  ((a.new.slot == b.new.slot) && ((a.new.gen == b.new.gen) && ((a.new.tag == b.new.tag) && ((a.new.num == b.new.num) && ((a.new.mark == b.new.mark) && ((a.i == b.i) && ((a.j == b.j) && ((a.code == b.code) && (a.val == b.val))))))))))))))))))
theorem neC_self (a : C) : neC a a = false := by simp [neC]
def loopT (l : List Rp) (i : Int) (j : JobM) (r : RJobM) (id : Nat) (fam : Int → JobM → RJobM → St LAV) : T (Ex × Option (St LAV)) :=
  .ite (match decide (i < (l.length : Int)) == true with | true => decide (i < 150) | false => false)
    (.need (decide (0 ≤ i ∧ i < (l.length : Int))) <| .need (decide (0 + i.toNat < l.length)) <| .need (decide (0 ≤ i ∧ i < (l.length : Int))) <| .need (decide (0 + i.toNat < l.length)) <|
      .ite (neC (jobNext j (nthR l (0 + i.toNat))).2 (rjobNext r (nthR l (0 + i.toNat))).2) (.leaf (.ret, none)) (.leaf (.normal, some (fam (IntKind.i64.wrap (i + 1)) (jobNext j (nthR l (0 + i.toNat))).1 (rjobNext r (nthR l (0 + i.toNat))).1))))
    (.leaf (.exit id, some (fam i j r)))
theorem loop1 (k : Int) (ob : Option Obj) (x0 x2 x3 x4 : Chunk LAV) (l : List Rp) (i : Int) (j : JobM) (r : RJobM) :
    (xc N2 (joinCal (lv N2 (tab1 k) 5)) (fun _ => none) 97 L1 (fam1 ob x0 x2 x3 x4 l i j r)).map (mapf [2, 3, 8, 9, 10]) = loopT l i j r 0 (fam1 ob x0 x2 x3 x4 l) := by kernel_rfl
/-- two jobs that have just been made, alike -/
def relB (j : JobM) (r : RJobM) : Bool :=
  (j.pc == 0) && ((r.line == 0) && (r.walk.isNone && (((j.op.kind == 6) || ((j.op.kind == 7) || (j.op.kind == 8))) && ((j.op.kind == r.op.kind) && ((j.op.key == r.op.key) && ((j.op.val == r.op.val) && ((j.op.tall == r.op.tall) &&
    ((j.key == r.key) && ((j.start.slot == r.start.slot) && ((j.start.gen == r.start.gen) && (j.start.field == r.start.field)))))))))))
theorem relB_spec {j : JobM} {r : RJobM} (h : relB j r = true) : JR j r := by
  obtain ⟨pc, last, ⟨s1, s2, s3⟩, key, ⟨o1, o2, o3, o4⟩, wk, node, val⟩ := j
  obtain ⟨⟨p1, p2, p3, p4⟩, ⟨t1, t2, t3⟩, rkey, line, rnode, num, rw, prev, cur, next, fin⟩ := r
  simp only [relB, Bool.and_eq_true, Bool.or_eq_true, beq_iff_eq, Option.isNone_iff_eq_none] at h
  obtain ⟨rfl, rfl, rfl, hk, rfl, rfl, rfl, rfl, rfl, rfl, rfl, rfl⟩ := h
  exact .zero _ _ _ _ hk ..
def g1 (s : St LAV) : T (Ex × St LAV) :=
  match s.H with
  | [some x0, some (.abs (.reps l ob)), some x2, some x3, some x4, some (.abs (.job j)), some (.abs (.rjob r))] =>
    match Sx.look s.E 2, Sx.look s.E 3, Sx.look s.E 8, Sx.look s.E 9, Sx.look s.E 10 with
    | .v (.c (.vs 1 0 len 6 false)), .v (.c (.ptr 2 0)), .v (.c (.ptr 5 0)), .v (.c (.ptr 6 0)), .v (.c (.il .i64 0)) =>
      .need (decide (len = l.length)) (.need (relB j r) (.leaf (.exit 0, { E := only [2, 3] s.E 97, H := [some x0, some (.abs (.reps l ob)), some x2, some x3, some x4, some .dead, some .dead] })))
    | _, _, _, _, _ => .fail "loop 1"
  | _ => .fail "loop 1"
end Go.Proofs.YtmaolegmdhnpeaaDoor
