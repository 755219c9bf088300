/- The jobs of an ordered list (the program's and the document's): each run is its model's tree. -/
import Derived.Test.YtmaolegmdhnpeaaDoorSxT
import Derived.Test.YtmaolegmdhnpeaaDoorMb
import Derived.Test.YtmaolegmdhnpeaaDoorSxS
namespace Go.Proofs.YtmaolegmdhnpeaaDoor
open Go Go.Sx Go.Proofs
set_option maxRecDepth 100000
def F0 : Intf Empty where
  q := fun a => nomatch a
  loc := fun a => nomatch a
  dom := fun a => nomatch a
  row := fun a => nomatch a
  row_nm := fun a => nomatch a
  row_ok := fun a => nomatch a
  upd := fun a => nomatch a
  upd_ok := fun a => nomatch a
noncomputable def N0 : Env Empty := { tt := tt, ft := ft, gu := gu, G := 1, F := F0 }
theorem ok0 : TblOk Tryd.prog N0 := tblOk 1 F0 _ _
theorem lps0 : LpsOk Tryd.prog N0 := fun f fn c _ _ id b _ g hg => by cases hg
theorem hv0 : HvOk Tryd.prog N0 := fun o args H v H' h => by simp [N0, T.val] at h
theorem fn0 (n : Nat) (f : FuncId) : FnOk Tryd.prog N0 f (lv N0 (fun _ => none) n (.fn f)) := lv_fn ok0 lps0 hv0 (tab_none _ _) n f

def jobHp (j : JobM) : Hp Empty := match j.walk with
  | none => [none, some (.cells (j.cells .pnil) 58)]
  | some m => [none, some (.cells (j.cells (.ptr 2 0)) 58), some (.cells m.cells 72)]
def jres (r : JobM × C) : Option (SV × List Cell × Option (List Cell)) := some (.v (.agg r.2.cells), r.1.cells .pnil, r.1.walk.map WalkM.cells)
theorem job_none (pc : Int) (last : C) (start : A) (key : Int) (op : O) (node : W) (val : Int) (x : Rp) :
    (lv N0 (fun _ => none) 8 (.fn 9) [.v (.c (.ptr 1 0)), .v (.agg x.cells)] (jobHp ⟨pc, last, start, key, op, none, node, val⟩)).map (viewJ 27 58 72) = (jobNextT ⟨pc, last, start, key, op, none, node, val⟩ x).map jres := by kernel_rfl
theorem job_some (pc : Int) (last : C) (start : A) (key : Int) (op : O) (m : WalkM) (node : W) (val : Int) (x : Rp) :
    (lv N0 (fun _ => none) 8 (.fn 9) [.v (.c (.ptr 1 0)), .v (.agg x.cells)] (jobHp ⟨pc, last, start, key, op, some m, node, val⟩)).map (viewJ 27 58 72) = (jobNextT ⟨pc, last, start, key, op, some m, node, val⟩ x).map jres := by kernel_rfl
def rjobHp (j : RJobM) : Hp Empty := match j.walk with
  | none => [none, some (.cells (j.cells .pnil) 61)]
  | some m => [none, some (.cells (j.cells (.ptr 2 0)) 61), some (.cells m.cells 63)]
def rjres (r : RJobM × C) : Option (SV × List Cell × Option (List Cell)) := some (.v (.agg r.2.cells), r.1.cells .pnil, r.1.walk.map RWalkM.cells)
theorem rjob_none (op : O) (start : A) (key line : Int) (node : W) (num : Int) (prev : A) (cur next : W) (fin : C) (x : Rp) :
    (lv N0 (fun _ => none) 8 (.fn 10) [.v (.c (.ptr 1 0)), .v (.agg x.cells)] (rjobHp ⟨op, start, key, line, node, num, none, prev, cur, next, fin⟩)).map (viewJ 15 61 63) = (rjobNextT ⟨op, start, key, line, node, num, none, prev, cur, next, fin⟩ x).map rjres := by kernel_rfl
theorem rjob_some (op : O) (start : A) (key line : Int) (node : W) (num : Int) (m : RWalkM) (prev : A) (cur next : W) (fin : C) (x : Rp) :
    (lv N0 (fun _ => none) 8 (.fn 10) [.v (.c (.ptr 1 0)), .v (.agg x.cells)] (rjobHp ⟨op, start, key, line, node, num, some m, prev, cur, next, fin⟩)).map (viewJ 15 61 63) = (rjobNextT ⟨op, start, key, line, node, num, some m, prev, cur, next, fin⟩ x).map rjres := by kernel_rfl
end Go.Proofs.YtmaolegmdhnpeaaDoor
