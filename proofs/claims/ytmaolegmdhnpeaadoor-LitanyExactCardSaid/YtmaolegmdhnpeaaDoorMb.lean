/- Plain models of an ordered list's walk and job (litany), and of the document's: as trees of decisions. -/
import Derived.Test.YtmaolegmdhnpeaaDoorSxQ
namespace Go.Sx
/-- what a tree without conditions comes to -/
def T.get {α : Type} (d : α) : T α → α
  | .leaf a => a
  | .ite b t e => match b with | true => t.get d | false => e.get d
  | .need _ t => t.get d
  | .fail _ => d
def T.sure {α : Type} : T α → Bool
  | .leaf _ => true
  | .ite _ t e => match t.sure with | true => e.sure | false => false
  | .need _ _ => false
  | .fail _ => false
theorem T.val_get {α : Type} (d : α) : ∀ {t : T α}, t.sure = true → t.val = some (t.get d)
  | .leaf a, _ => rfl
  | .ite b t e, h => by
    simp only [T.sure] at h
    split at h
    · rename_i ht
      cases b
      · exact T.val_get (t := e) d h
      · exact T.val_get (t := t) d ht
    · cases h
  | .need _ _, h => by cases h
  | .fail _, h => by cases h
def iteK {α : Type} (kn b : Bool) (t e : T α) : T α :=
  match kn with
  | true => match b with | true => t | false => e
  | false => .ite b t e

structure WalkM where
  pc : Int
  start : A
  key : Int
  prev : A
  cur : W
  next : W
  k : Int
  found : Bool
def WalkM.new (s : A) (key : Int) : WalkM := ⟨0, s, key, s, .zero, .zero, 0, false⟩
/-- the walk, the call, whether it goes on, whether it is known what was found -/
abbrev WalkR := WalkM × C × Bool × Bool
def WalkM.again (m : WalkM) : WalkR := ({ m with pc := 1, prev := m.start }, cProtect m.start 1, true, false)
def WalkM.behind (m : WalkM) : WalkR := ({ m with pc := 2 }, cProtect (m.cur.at 2) 0, true, false)
def WalkM.finish (m : WalkM) (f kn : Bool) : WalkR := ({ m with pc := -1, found := f }, C.zero, false, kn)
def WalkM.onT (m : WalkM) : T WalkR := .ite (m.cur.slot == 0) (.leaf (m.finish false true)) (.leaf ({ m with pc := 8 }, cHold 1 0, true, false))
def walkNextT (m : WalkM) (x : Rp) : T WalkR :=
  .ite (m.pc == 1) (.ite x.w.mark (.leaf m.again) (.ite (x.w.slot == 0) (.leaf (WalkM.finish { m with cur := x.w } false true)) (.leaf (WalkM.behind { m with cur := x.w })))) <|
  .ite (m.pc == 2) (.leaf ({ m with pc := 3, next := x.w }, cLoad (m.cur.at 0), true, false)) <|
  .ite (m.pc == 3) (.leaf ({ m with pc := 4, k := x.w.num }, cLoad m.prev, true, false)) <|
  .ite (m.pc == 4) (.ite (!(x.w.same m.cur)) (.leaf m.again) <| .ite m.next.mark (.leaf ({ m with pc := 5 }, cSwap m.prev m.cur (m.cur.to m.next), true, false)) <|
    .ite (decide (m.k ≥ m.key)) (.leaf (m.finish (m.k == m.key) false)) (.leaf ({ m with pc := 7, prev := m.cur.at 2 }, cHold 2 1, true, false))) <|
  .ite (m.pc == 5) (.ite x.ok (.leaf ({ m with pc := 6 }, cRetire m.cur, true, false)) (.leaf m.again)) <|
  .ite (m.pc == 0) (.leaf m.again) <|
  .ite (m.pc == 6) (WalkM.onT { m with cur := m.cur.to m.next }) <|
  .ite (m.pc == 7) (WalkM.onT { m with cur := m.next }) <|
  .ite (m.pc == 8) (.leaf m.behind) (.leaf (m, C.zero, false, false))
def WalkM.cells (m : WalkM) : List Cell := I m.pc :: (C.zero.cells ++ (m.start.cells ++ (I m.key :: (m.prev.cells ++ (m.cur.cells ++ (m.next.cells ++ [I m.k, B m.found]))))))

structure JobM where
  pc : Int
  last : C
  start : A
  key : Int
  op : O
  walk : Option WalkM
  node : W
  val : Int
def JobM.cells (j : JobM) (p : Cell) : List Cell := I j.pc :: (j.last.cells ++ (j.start.cells ++ (I j.key :: (j.op.cells ++ (p :: (j.node.cells ++ [I j.val]))))))
def JobM.ask (j : JobM) (step : Int) (c : C) : JobM × C := ({ j with pc := step }, c)
def JobM.done (j : JobM) (code val : Int) : JobM × C := ({ j with pc := -1, last := cDone code val }, cDone code val)
/-- a walk begins -/
def JobM.seek (j : JobM) (step : Int) : JobM × C := ({ j with pc := step, walk := some (WalkM.new j.start j.key).again.1 }, cProtect j.start 1)
def wNum (n : Int) : W := ⟨0, 0, 0, n, false⟩
def oPrev : Option WalkM → A
  | none => .zero
  | some m => m.prev
def oCur : Option WalkM → W
  | none => .zero
  | some m => m.cur
def oNext : Option WalkM → W
  | none => .zero
  | some m => m.next
/-- the walk goes on; at its end: what then, if it has found -/
def JobM.walkT (j : JobM) (x : Rp) (yes no : JobM → JobM × C) : T (JobM × C) :=
  match j.walk with
  | none => .leaf (no j)
  | some m => (walkNextT m x).bind fun r => match r.2.2.1 with
    | true => .leaf ({ j with walk := some r.1 }, r.2.1)
    | false => iteK r.2.2.2 r.1.found (.leaf (yes { j with walk := some r.1 })) (.leaf (no { j with walk := some r.1 }))
def JobM.walkN (j : JobM) (x : Rp) (yes no : JobM → JobM × C) : T (JobM × C) :=
  match j.walk with
  | none => .leaf (no j)
  | some m => (walkNextT m x).bind fun r => match r.2.2.1 with
    | true => .leaf ({ j with walk := some r.1 }, r.2.1)
    | false => iteK r.2.2.2 (!r.1.found) (.leaf (no { j with walk := some r.1 })) (.leaf (yes { j with walk := some r.1 }))
def insEnd (j : JobM) : JobM × C := j.ask 6 (cStore (j.node.at 2) (oCur j.walk).ref)
def insertT (j : JobM) (x : Rp) : T (JobM × C) :=
  .ite (j.pc == 0) (.leaf (j.ask 1 cAlloc)) <|
  .ite (j.pc == 1) (.ite (!x.ok) (.leaf (j.done 4 0)) (.leaf (JobM.ask { j with node := x.w } 2 (cStore (x.w.at 0) (wNum j.key))))) <|
  .ite (j.pc == 2) (.leaf (j.ask 3 (cStore (j.node.at 1) (wNum j.op.val)))) <|
  .ite (j.pc == 7) (.ite x.ok (.leaf (j.done 1 0)) (.leaf (j.seek 4))) <|
  .ite (j.pc == 3) (.leaf (j.seek 4)) <|
  .ite (j.pc == 4) (j.walkT x (fun j => j.ask 5 (cDrop j.node)) insEnd) <|
  .ite (j.pc == 5) (.leaf (j.done 3 0)) <|
  .ite (j.pc == 6) (.leaf (j.ask 7 (cSwap (oPrev j.walk) (oCur j.walk) ((oCur j.walk).to j.node)))) (.leaf (j, j.last))
def removeT (j : JobM) (x : Rp) : T (JobM × C) :=
  .ite (j.pc == 3) (.ite x.ok (.leaf (j.ask 4 (cSwap (oPrev j.walk) (oCur j.walk) ((oCur j.walk).to (oNext j.walk))))) (.leaf (j.seek 1))) <|
  .ite (j.pc == 0) (.leaf (j.seek 1)) <|
  .ite (j.pc == 1) (j.walkN x (fun j => j.ask 2 (cLoad ((oCur j.walk).at 1))) (fun j => j.done 2 0)) <|
  .ite (j.pc == 2) (.leaf (JobM.ask { j with val := x.w.num } 3 (cSwap ((oCur j.walk).at 2) (oNext j.walk) (oNext j.walk).marked))) <|
  .ite (j.pc == 4) (.ite x.ok (.leaf (j.ask 5 (cRetire (oCur j.walk)))) (.leaf (j.seek 6))) <|
  .ite (j.pc == 6) (match j.walk with
    | none => .leaf (j.done 1 j.val)
    | some m => (walkNextT m x).bind fun r => match r.2.2.1 with
      | true => .leaf ({ j with walk := some r.1 }, r.2.1)
      | false => .leaf (JobM.done { j with walk := some r.1 } 1 j.val)) <|
  .ite (j.pc == 5) (.leaf (j.done 1 j.val)) (.leaf (j, j.last))
def getT (j : JobM) (x : Rp) : T (JobM × C) :=
  .ite (j.pc == 0) (.leaf (j.seek 1)) <|
  .ite (j.pc == 1) (j.walkN x (fun j => j.ask 2 (cLoad ((oCur j.walk).at 1))) (fun j => j.done 2 0)) <|
  .ite (j.pc == 2) (.leaf (j.done 1 x.w.num)) (.leaf (j, j.last))
def jobNextT (j : JobM) (x : Rp) : T (JobM × C) :=
  .ite (j.op.kind == 6) (insertT j x) (.ite (j.op.kind == 7) (removeT j x) (getT j x))

/- the document's -/
structure RWalkM where
  line : Int
  start : A
  key : Int
  prev : A
  cur : W
  next : W
  k : Int
  found : Bool
def RWalkM.cells (m : RWalkM) : List Cell := I m.line :: (m.start.cells ++ (I m.key :: (m.prev.cells ++ (m.cur.cells ++ (m.next.cells ++ [I m.k, B m.found])))))
abbrev RWalkR := RWalkM × C × Bool × Bool
def RWalkM.first (m : RWalkM) : RWalkR := ({ m with line := 1, prev := m.start }, cProtect m.start 1, true, false)
def RWalkM.over (m : RWalkM) (f kn : Bool) : RWalkR := ({ m with line := 9, found := f }, C.zero, false, kn)
def RWalkM.second (m : RWalkM) : RWalkR := ({ m with line := 2 }, cProtect (m.cur.at 2) 0, true, false)
def RWalkM.eighthT (m : RWalkM) (c : W) : T RWalkR := .ite (c.slot == 0) (.leaf (RWalkM.over { m with cur := c } false true)) (.leaf ({ m with cur := c, line := 8 }, cHold 1 0, true, false))
def rwalkNextT (m : RWalkM) (x : Rp) : T RWalkR :=
  .ite (m.line == 9) (.leaf (m, C.zero, false, false)) <|
  .ite (m.line == 1) (.ite x.w.mark (.leaf m.first) (.ite (x.w.slot == 0) (.leaf (RWalkM.over { m with cur := x.w } false true)) (.leaf (RWalkM.second { m with cur := x.w })))) <|
  .ite (m.line == 2) (.leaf ({ m with line := 3, next := x.w }, cLoad (m.cur.at 0), true, false)) <|
  .ite (m.line == 3) (.leaf ({ m with line := 4, k := x.w.num }, cLoad m.prev, true, false)) <|
  .ite (m.line == 4) (.ite (!(x.w.same m.cur)) (.leaf m.first) <| .ite m.next.mark (.leaf ({ m with line := 5 }, cSwap m.prev m.cur (m.cur.to m.next), true, false)) <|
    .ite (decide (m.k ≥ m.key)) (.leaf (m.over (m.k == m.key) false)) (.leaf ({ m with line := 7, prev := m.cur.at 2 }, cHold 2 1, true, false))) <|
  .ite (m.line == 5) (.ite (!x.ok) (.leaf m.first) (.leaf ({ m with line := 6 }, cRetire m.cur, true, false))) <|
  .ite (m.line == 6) (m.eighthT (m.cur.to m.next)) <|
  .ite (m.line == 7) (m.eighthT m.next) <|
  .ite (m.line == 8) (.leaf m.second) (.leaf m.first)
structure RJobM where
  op : O
  start : A
  key : Int
  line : Int
  node : W
  num : Int
  walk : Option RWalkM
  prev : A
  cur : W
  next : W
  fin : C
def RJobM.cells (j : RJobM) (p : Cell) : List Cell := j.op.cells ++ (j.start.cells ++ (I j.key :: I j.line :: (j.node.cells ++ (I j.num :: p :: (j.prev.cells ++ (j.cur.cells ++ (j.next.cells ++ j.fin.cells)))))))
def RJobM.done (j : RJobM) (code val : Int) : RJobM × C := ({ j with line := 9, fin := cDone code val }, cDone code val)
def RJobM.seek (j : RJobM) (l : Int) : RJobM × C := ({ j with line := l, walk := some ⟨1, j.start, j.key, j.start, .zero, .zero, 0, false⟩ }, cProtect j.start 1)
def rinsertT (j : RJobM) (x : Rp) (kn found : Bool) : T (RJobM × C) :=
  .ite (j.line == 0) (.leaf ({ j with line := pl j.line 1 }, cAlloc)) <|
  .ite (j.line == 1) (.ite (!x.ok) (.leaf (j.done 4 0)) (.leaf ({ j with line := pl j.line 1, node := x.w }, cStore (x.w.at 0) (wNum j.key)))) <|
  .ite (j.line == 2) (.leaf ({ j with line := pl j.line 1 }, cStore (j.node.at 1) (wNum j.op.val))) <|
  .ite (j.line == 4) (iteK kn found (.leaf ({ j with line := pl j.line 1 }, cDrop j.node)) (.leaf ({ j with line := 6 }, cStore (j.node.at 2) j.cur.ref))) <|
  .ite (j.line == 5) (.leaf (j.done 3 0)) <|
  .ite (j.line == 6) (.leaf ({ j with line := pl j.line 1 }, cSwap j.prev j.cur (j.cur.to j.node))) <|
  .ite (j.line == 7) (.ite x.ok (.leaf (j.done 1 0)) (.leaf (j.seek 4))) (.leaf (j.seek 4))
def rremoveT (j : RJobM) (x : Rp) (kn found : Bool) : T (RJobM × C) :=
  .ite (j.line == 1) (iteK kn (!found) (.leaf (j.done 2 0)) (.leaf ({ j with line := pl j.line 1 }, cLoad (j.cur.at 1)))) <|
  .ite (j.line == 2) (.leaf ({ j with line := pl j.line 1, num := x.w.num }, cSwap (j.cur.at 2) j.next j.next.marked)) <|
  .ite (j.line == 3) (.ite x.ok (.leaf ({ j with line := pl j.line 1 }, cSwap j.prev j.cur (j.cur.to j.next))) (.leaf (j.seek 1))) <|
  .ite (j.line == 4) (.ite (!x.ok) (.leaf (j.seek 6)) (.leaf ({ j with line := pl j.line 1 }, cRetire j.cur))) <|
  .ite (j.line == 5) (.ite (j.line == 5) (.leaf (j.done 1 j.num)) (.leaf (j.seek 1))) <|
  .ite (j.line == 6) (.leaf (j.done 1 j.num)) (.leaf (j.seek 1))
def rgetT (j : RJobM) (x : Rp) (kn found : Bool) : T (RJobM × C) :=
  .ite (j.line == 0) (.leaf (j.seek 1)) <|
  .ite (j.line == 1) (iteK kn (!found) (.leaf (j.done 2 0)) (.leaf ({ j with line := 2 }, cLoad (j.cur.at 1)))) (.leaf (j.done 1 x.w.num))
def rswitchT (j : RJobM) (x : Rp) (kn found : Bool) : T (RJobM × C) :=
  .ite (j.op.kind == 6) (rinsertT j x kn found) (.ite (j.op.kind == 7) (rremoveT j x kn found) (rgetT j x kn found))
def rjobNextT (j : RJobM) (x : Rp) : T (RJobM × C) :=
  .ite (j.line == 9) (.leaf (j, j.fin)) <|
  match j.walk with
  | none => rswitchT j x true false
  | some m => (rwalkNextT m x).bind fun r => match r.2.2.1 with
    | true => .leaf ({ j with walk := some r.1 }, r.2.1)
    | false => rswitchT { j with prev := r.1.prev, cur := r.1.cur, next := r.1.next, walk := none } x r.2.2.2 r.1.found
end Go.Sx
