/- The plain law of LitanyExact: the program's job and the document's make the same calls. -/
import Derived.Test.YtmaolegmdhnpeaaDoorMb
namespace Go.Sx
theorem T.get_sure {α : Type} (d d' : α) : ∀ {t : T α}, t.sure = true → t.get d = t.get d'
  | .leaf _, _ => rfl
  | .ite b t e, h => by
    simp only [T.sure] at h
    split at h
    · rename_i ht
      cases b
      · exact T.get_sure (t := e) d d' h
      · exact T.get_sure (t := t) d d' ht
    · cases h
  | .need _ _, h => by cases h
  | .fail _, h => by cases h
theorem T.get_bind {α β : Type} (d : β) (d' : α) (f : α → T β) : ∀ {t : T α}, t.sure = true → (t.bind f).get d = (f (t.get d')).get d
  | .leaf _, _ => rfl
  | .ite b t e, h => by
    simp only [T.sure] at h
    split at h
    · rename_i ht
      cases b
      · exact T.get_bind (t := e) d d' f h
      · exact T.get_bind (t := t) d d' f ht
    · cases h
  | .need _ _, h => by cases h
  | .fail _, h => by cases h
theorem iteK_get {α : Type} (kn b : Bool) (t e : T α) (d : α) : (iteK kn b t e).get d = match b with | true => t.get d | false => e.get d := by
  cases kn <;> cases b <;> rfl

/-- two walks that are at the same place -/
def WR (m : WalkM) (n : RWalkM) : Prop := m.pc = n.line ∧ (1 ≤ m.pc ∧ m.pc ≤ 8) ∧ m.start = n.start ∧ m.key = n.key ∧ m.prev = n.prev ∧ m.cur = n.cur ∧ m.next = n.next ∧ m.k = n.k
def wNext (m : WalkM) (x : Rp) : WalkR := (walkNextT m x).get (m, C.zero, false, false)
def rNext (m : RWalkM) (x : Rp) : RWalkR := (rwalkNextT m x).get (m, C.zero, false, false)
theorem walk_sure (m : WalkM) (x : Rp) : (walkNextT m x).sure = true := rfl
theorem rwalk_sure (m : RWalkM) (x : Rp) : (rwalkNextT m x).sure = true := rfl
theorem walk_step (m : WalkM) (n : RWalkM) (x : Rp) (h : WR m n) : (wNext m x).2.1 = (rNext n x).2.1 ∧ (wNext m x).2.2.1 = (rNext n x).2.2.1 ∧
    ((wNext m x).2.2.1 = true → WR (wNext m x).1 (rNext n x).1) ∧
    ((wNext m x).2.2.1 = false → (wNext m x).1.prev = (rNext n x).1.prev ∧ (wNext m x).1.cur = (rNext n x).1.cur ∧ (wNext m x).1.next = (rNext n x).1.next ∧ (wNext m x).1.found = (rNext n x).1.found) := by
  obtain ⟨pc, start, key, prev, cur, next, k, found⟩ := m
  obtain ⟨line, start', key', prev', cur', next', k', found'⟩ := n
  obtain ⟨h1, h2, h3, h4, h5, h6, h7, h8⟩ := h
  simp only at h1 h2 h3 h4 h5 h6 h7 h8
  subst h1 h3 h4 h5 h6 h7 h8
  have hp : pc = 1 ∨ pc = 2 ∨ pc = 3 ∨ pc = 4 ∨ pc = 5 ∨ pc = 6 ∨ pc = 7 ∨ pc = 8 := by omega
  rcases hp with rfl | rfl | rfl | rfl | rfl | rfl | rfl | rfl
  · cases hm : x.w.mark <;> cases hs : x.w.slot == 0 <;> simp [wNext, rNext, walkNextT, rwalkNextT, T.get, hm, hs, WalkM.again, RWalkM.first, WalkM.finish, RWalkM.over, WalkM.behind, RWalkM.second, WR]
  · simp [wNext, rNext, walkNextT, rwalkNextT, T.get, WR]
  · simp [wNext, rNext, walkNextT, rwalkNextT, T.get, WR]
  · cases hm : x.w.same cur <;> cases hn : next.mark <;> cases hk : decide (k ≥ key) <;> simp [wNext, rNext, walkNextT, rwalkNextT, T.get, hm, hn, hk, WalkM.again, RWalkM.first, WalkM.finish, RWalkM.over, WR]
  · cases ho : x.ok <;> simp [wNext, rNext, walkNextT, rwalkNextT, T.get, ho, WalkM.again, RWalkM.first, WR]
  · cases hs : (cur.to next).slot == 0 <;> simp [wNext, rNext, walkNextT, rwalkNextT, T.get, hs, WalkM.onT, RWalkM.eighthT, WalkM.finish, RWalkM.over, WR]
  · cases hs : next.slot == 0 <;> simp [wNext, rNext, walkNextT, rwalkNextT, T.get, hs, WalkM.onT, RWalkM.eighthT, WalkM.finish, RWalkM.over, WR]
  · simp [wNext, rNext, walkNextT, rwalkNextT, T.get, WalkM.behind, RWalkM.second, WR]

/-- two jobs that are at the same place -/
inductive JR : JobM → RJobM → Prop where
  | over (last : C) (s : A) (k : Int) (op : O) (wk : Option WalkM) (node : W) (val : Int) (rnode : W) (num : Int) (rw : Option RWalkM) (prev : A) (cur next : W) :
      JR ⟨-1, last, s, k, op, wk, node, val⟩ ⟨op, s, k, 9, rnode, num, rw, prev, cur, next, last⟩
  | zero (last : C) (s : A) (k : Int) (op : O) (hop : op.kind = 6 ∨ op.kind = 7 ∨ op.kind = 8) (wk : Option WalkM) (node : W) (val : Int) (rnode : W) (num : Int) (prev : A) (cur next : W) (fin : C) :
      JR ⟨0, last, s, k, op, wk, node, val⟩ ⟨op, s, k, 0, rnode, num, none, prev, cur, next, fin⟩
  | ins (pc : Int) (hpc : pc = 2 ∨ pc = 3 ∨ pc = 5) (last : C) (s : A) (k a b c : Int) (wk : Option WalkM) (node : W) (val num : Int) (prev : A) (cur next : W) (fin : C) :
      JR ⟨pc, last, s, k, ⟨6, a, b, c⟩, wk, node, val⟩ ⟨⟨6, a, b, c⟩, s, k, pc, node, num, none, prev, cur, next, fin⟩
  | ins1 (last : C) (s : A) (k a b c : Int) (wk : Option WalkM) (node : W) (val : Int) (rnode : W) (num : Int) (prev : A) (cur next : W) (fin : C) :
      JR ⟨1, last, s, k, ⟨6, a, b, c⟩, wk, node, val⟩ ⟨⟨6, a, b, c⟩, s, k, 1, rnode, num, none, prev, cur, next, fin⟩
  | insW (m : WalkM) (n : RWalkM) (h : WR m n) (last : C) (s : A) (k a b c : Int) (node : W) (val num : Int) (prev : A) (cur next : W) (fin : C) :
      JR ⟨4, last, s, k, ⟨6, a, b, c⟩, some m, node, val⟩ ⟨⟨6, a, b, c⟩, s, k, 4, node, num, some n, prev, cur, next, fin⟩
  | insP (pc : Int) (hpc : pc = 6 ∨ pc = 7) (m : WalkM) (last : C) (s : A) (k a b c : Int) (node : W) (val num : Int) (next : W) (fin : C) :
      JR ⟨pc, last, s, k, ⟨6, a, b, c⟩, some m, node, val⟩ ⟨⟨6, a, b, c⟩, s, k, pc, node, num, none, m.prev, m.cur, next, fin⟩
  | remW (pc : Int) (m : WalkM) (n : RWalkM) (h : WR m n) (last : C) (s : A) (k a b c : Int) (node : W) (val : Int) (rnode : W) (num : Int) (hpc : pc = 1 ∨ pc = 6 ∧ val = num) (prev : A) (cur next : W) (fin : C) :
      JR ⟨pc, last, s, k, ⟨7, a, b, c⟩, some m, node, val⟩ ⟨⟨7, a, b, c⟩, s, k, pc, rnode, num, some n, prev, cur, next, fin⟩
  | remP (pc : Int) (m : WalkM) (last : C) (s : A) (k a b c : Int) (node : W) (val : Int) (rnode : W) (num : Int) (hpc : pc = 2 ∨ (pc = 3 ∨ pc = 4 ∨ pc = 5) ∧ val = num) (fin : C) :
      JR ⟨pc, last, s, k, ⟨7, a, b, c⟩, some m, node, val⟩ ⟨⟨7, a, b, c⟩, s, k, pc, rnode, num, none, m.prev, m.cur, m.next, fin⟩
  | getW (m : WalkM) (n : RWalkM) (h : WR m n) (last : C) (s : A) (k a b c : Int) (node : W) (val : Int) (rnode : W) (num : Int) (prev : A) (cur next : W) (fin : C) :
      JR ⟨1, last, s, k, ⟨8, a, b, c⟩, some m, node, val⟩ ⟨⟨8, a, b, c⟩, s, k, 1, rnode, num, some n, prev, cur, next, fin⟩
  | get2 (last : C) (s : A) (k a b c : Int) (wk : Option WalkM) (node : W) (val : Int) (rnode : W) (num : Int) (prev : A) (cur next : W) (fin : C) :
      JR ⟨2, last, s, k, ⟨8, a, b, c⟩, wk, node, val⟩ ⟨⟨8, a, b, c⟩, s, k, 2, rnode, num, none, prev, cur, next, fin⟩
def jNext (j : JobM) (x : Rp) : JobM × C := (jobNextT j x).get (j, C.zero)
def rjNext (j : RJobM) (x : Rp) : RJobM × C := (rjobNextT j x).get (j, C.zero)
theorem pl1 (n : Int) (h : 0 ≤ n ∧ n < 100) : pl n 1 = n + 1 := by
  unfold pl
  have : IntKind.i64.wrap (n + 1) = n + 1 := by
    unfold IntKind.wrap
    simp [IntKind.bits, IntKind.signed]
    omega
  exact this
/-- a walk that has just begun -/
theorem wr_new (s : A) (k : Int) : WR (WalkM.new s k).again.1 ⟨1, s, k, s, .zero, .zero, 0, false⟩ := by simp [WR, WalkM.again, WalkM.new]
theorem wNext_get (m : WalkM) (x : Rp) (d : WalkR) : (walkNextT m x).get d = wNext m x := T.get_sure _ _ (walk_sure m x)
theorem rNext_get (m : RWalkM) (x : Rp) (d : RWalkR) : (rwalkNextT m x).get d = rNext m x := T.get_sure _ _ (rwalk_sure m x)
/-- THE PLAIN LAW: the same call, and then again at the same place. -/
theorem job_step {j : JobM} {r : RJobM} (h : JR j r) (x : Rp) : (jNext j x).2 = (rjNext r x).2 ∧ JR (jNext j x).1 (rjNext r x).1 := by
  cases h with
  | over last s k op wk node val rnode num rw prev cur next =>
    have e2 : rjNext ⟨op, s, k, 9, rnode, num, rw, prev, cur, next, last⟩ x = (⟨op, s, k, 9, rnode, num, rw, prev, cur, next, last⟩, last) := rfl
    have e1 : jNext ⟨-1, last, s, k, op, wk, node, val⟩ x = (⟨-1, last, s, k, op, wk, node, val⟩, last) := by
      unfold jNext jobNextT
      cases op.kind == 6 <;> cases op.kind == 7 <;> rfl
    rw [e1, e2]
    exact ⟨rfl, .over ..⟩
  | zero last s k op hop wk node val rnode num prev cur next fin =>
    obtain ⟨kind, a, b, c⟩ := op
    simp only at hop
    rcases hop with rfl | rfl | rfl
    · exact ⟨rfl, .ins1 ..⟩
    · exact ⟨rfl, .remW 1 _ _ (wr_new s k) _ _ _ _ _ _ _ _ _ _ (.inl rfl) _ _ _ _⟩
    · exact ⟨rfl, .getW _ _ (wr_new s k) ..⟩
  | ins pc hpc last s k a b c wk node val num prev cur next fin =>
    rcases hpc with rfl | rfl | rfl
    · exact ⟨rfl, .ins 3 (.inr (.inl rfl)) ..⟩
    · exact ⟨rfl, .insW _ _ (wr_new s k) ..⟩
    · exact ⟨rfl, .over ..⟩
  | ins1 last s k a b c wk node val rnode num prev cur next fin =>
    cases ho : x.ok
    · have e1 : jNext ⟨1, last, s, k, ⟨6, a, b, c⟩, wk, node, val⟩ x = JobM.done ⟨1, last, s, k, ⟨6, a, b, c⟩, wk, node, val⟩ 4 0 := by simp [jNext, jobNextT, insertT, T.get, ho]
      have e2 : rjNext ⟨⟨6, a, b, c⟩, s, k, 1, rnode, num, none, prev, cur, next, fin⟩ x = RJobM.done ⟨⟨6, a, b, c⟩, s, k, 1, rnode, num, none, prev, cur, next, fin⟩ 4 0 := by simp [rjNext, rjobNextT, rswitchT, rinsertT, T.get, ho]
      rw [e1, e2]
      exact ⟨rfl, .over ..⟩
    · have e1 : jNext ⟨1, last, s, k, ⟨6, a, b, c⟩, wk, node, val⟩ x = (⟨2, last, s, k, ⟨6, a, b, c⟩, wk, x.w, val⟩, cStore (x.w.at 0) (wNum k)) := by simp [jNext, jobNextT, insertT, T.get, ho, JobM.ask]
      have e2 : rjNext ⟨⟨6, a, b, c⟩, s, k, 1, rnode, num, none, prev, cur, next, fin⟩ x = (⟨⟨6, a, b, c⟩, s, k, 2, x.w, num, none, prev, cur, next, fin⟩, cStore (x.w.at 0) (wNum k)) := by simp [rjNext, rjobNextT, rswitchT, rinsertT, T.get, ho, pl1]
      rw [e1, e2]
      exact ⟨rfl, .ins 2 (.inl rfl) ..⟩
  | insW m n h last s k a b c node val num prev cur next fin =>
    obtain ⟨h1, h2, h3, h4⟩ := walk_step m n x h
    have e1 : jNext ⟨4, last, s, k, ⟨6, a, b, c⟩, some m, node, val⟩ x = (match (wNext m x).2.2.1 with
        | true => (⟨4, last, s, k, ⟨6, a, b, c⟩, some (wNext m x).1, node, val⟩, (wNext m x).2.1)
        | false => match (wNext m x).1.found with
          | true => (⟨5, last, s, k, ⟨6, a, b, c⟩, some (wNext m x).1, node, val⟩, cDrop node)
          | false => (⟨6, last, s, k, ⟨6, a, b, c⟩, some (wNext m x).1, node, val⟩, cStore (node.at 2) (wNext m x).1.cur.ref)) := by
      simp only [jNext, jobNextT, insertT, T.get, JobM.walkT]
      rw [T.get_bind _ (m, C.zero, false, false) _ (walk_sure m x), wNext_get]
      simp only [show ((4 : Int) == 0) = false from rfl, show ((4 : Int) == 1) = false from rfl, show ((4 : Int) == 2) = false from rfl, show ((4 : Int) == 7) = false from rfl, show ((4 : Int) == 3) = false from rfl, show ((4 : Int) == 4) = true from rfl, show ((6 : Int) == 6) = true from rfl]
      cases (wNext m x).2.2.1
      · simp only [iteK_get]
        cases (wNext m x).1.found <;> rfl
      · rfl
    have e2 : rjNext ⟨⟨6, a, b, c⟩, s, k, 4, node, num, some n, prev, cur, next, fin⟩ x = (match (rNext n x).2.2.1 with
        | true => (⟨⟨6, a, b, c⟩, s, k, 4, node, num, some (rNext n x).1, prev, cur, next, fin⟩, (rNext n x).2.1)
        | false => match (rNext n x).1.found with
          | true => (⟨⟨6, a, b, c⟩, s, k, 5, node, num, none, (rNext n x).1.prev, (rNext n x).1.cur, (rNext n x).1.next, fin⟩, cDrop node)
          | false => (⟨⟨6, a, b, c⟩, s, k, 6, node, num, none, (rNext n x).1.prev, (rNext n x).1.cur, (rNext n x).1.next, fin⟩, cStore (node.at 2) (rNext n x).1.cur.ref)) := by
      simp only [rjNext, rjobNextT, T.get]
      rw [T.get_bind _ (n, C.zero, false, false) _ (rwalk_sure n x), rNext_get]
      simp only [show ((4 : Int) == 9) = false from rfl]
      cases (rNext n x).2.2.1
      · simp only [rswitchT, rinsertT, T.get, iteK_get, show ((4 : Int) == 0) = false from rfl, show ((4 : Int) == 1) = false from rfl, show ((4 : Int) == 2) = false from rfl, show ((4 : Int) == 4) = true from rfl, show ((6 : Int) == 6) = true from rfl]
        cases (rNext n x).1.found <;> rfl
      · rfl
    rw [e1, e2, ← h2]
    cases ho : (wNext m x).2.2.1
    · obtain ⟨p1, p2, p3, p4⟩ := h4 ho
      simp only
      rw [← p4, ← p1, ← p2, ← p3]
      cases (wNext m x).1.found
      · exact ⟨rfl, .insP 6 (.inl rfl) (wNext m x).1 ..⟩
      · exact ⟨rfl, .ins 5 (.inr (.inr rfl)) ..⟩
    · exact ⟨h1, .insW _ _ (h3 ho) ..⟩
  | insP pc hpc m last s k a b c node val num next fin =>
    rcases hpc with rfl | rfl
    · exact ⟨rfl, .insP 7 (.inr rfl) m ..⟩
    · cases ho : x.ok
      · have e1 : jNext ⟨7, last, s, k, ⟨6, a, b, c⟩, some m, node, val⟩ x = JobM.seek ⟨7, last, s, k, ⟨6, a, b, c⟩, some m, node, val⟩ 4 := by simp [jNext, jobNextT, insertT, T.get, ho]
        have e2 : rjNext ⟨⟨6, a, b, c⟩, s, k, 7, node, num, none, m.prev, m.cur, next, fin⟩ x = RJobM.seek ⟨⟨6, a, b, c⟩, s, k, 7, node, num, none, m.prev, m.cur, next, fin⟩ 4 := by simp [rjNext, rjobNextT, rswitchT, rinsertT, T.get, ho]
        rw [e1, e2]
        exact ⟨rfl, .insW _ _ (wr_new s k) ..⟩
      · have e1 : jNext ⟨7, last, s, k, ⟨6, a, b, c⟩, some m, node, val⟩ x = JobM.done ⟨7, last, s, k, ⟨6, a, b, c⟩, some m, node, val⟩ 1 0 := by simp [jNext, jobNextT, insertT, T.get, ho]
        have e2 : rjNext ⟨⟨6, a, b, c⟩, s, k, 7, node, num, none, m.prev, m.cur, next, fin⟩ x = RJobM.done ⟨⟨6, a, b, c⟩, s, k, 7, node, num, none, m.prev, m.cur, next, fin⟩ 1 0 := by simp [rjNext, rjobNextT, rswitchT, rinsertT, T.get, ho]
        rw [e1, e2]
        exact ⟨rfl, .over ..⟩
  | remW pc m n h last s k a b c node val rnode num hpc prev cur next fin =>
    obtain ⟨h1, h2, h3, h4⟩ := walk_step m n x h
    rcases hpc with rfl | ⟨rfl, rfl⟩
    · have e1 : jNext ⟨1, last, s, k, ⟨7, a, b, c⟩, some m, node, val⟩ x = (match (wNext m x).2.2.1 with
          | true => (⟨1, last, s, k, ⟨7, a, b, c⟩, some (wNext m x).1, node, val⟩, (wNext m x).2.1)
          | false => match (wNext m x).1.found with
            | true => (⟨2, last, s, k, ⟨7, a, b, c⟩, some (wNext m x).1, node, val⟩, cLoad ((wNext m x).1.cur.at 1))
            | false => (⟨-1, cDone 2 0, s, k, ⟨7, a, b, c⟩, some (wNext m x).1, node, val⟩, cDone 2 0)) := by
        simp only [jNext, jobNextT, removeT, T.get, JobM.walkN]
        rw [T.get_bind _ (m, C.zero, false, false) _ (walk_sure m x), wNext_get]
        simp only [show ((1 : Int) == 3) = false from rfl, show ((1 : Int) == 0) = false from rfl, show ((1 : Int) == 1) = true from rfl, show ((7 : Int) == 6) = false from rfl, show ((7 : Int) == 7) = true from rfl]
        cases (wNext m x).2.2.1
        · simp only [iteK_get]
          cases (wNext m x).1.found <;> rfl
        · rfl
      have e2 : rjNext ⟨⟨7, a, b, c⟩, s, k, 1, rnode, num, some n, prev, cur, next, fin⟩ x = (match (rNext n x).2.2.1 with
          | true => (⟨⟨7, a, b, c⟩, s, k, 1, rnode, num, some (rNext n x).1, prev, cur, next, fin⟩, (rNext n x).2.1)
          | false => match (rNext n x).1.found with
            | true => (⟨⟨7, a, b, c⟩, s, k, 2, rnode, num, none, (rNext n x).1.prev, (rNext n x).1.cur, (rNext n x).1.next, fin⟩, cLoad ((rNext n x).1.cur.at 1))
            | false => (⟨⟨7, a, b, c⟩, s, k, 9, rnode, num, none, (rNext n x).1.prev, (rNext n x).1.cur, (rNext n x).1.next, cDone 2 0⟩, cDone 2 0)) := by
        simp only [rjNext, rjobNextT, T.get]
        rw [T.get_bind _ (n, C.zero, false, false) _ (rwalk_sure n x), rNext_get]
        simp only [show ((1 : Int) == 9) = false from rfl]
        cases (rNext n x).2.2.1
        · simp only [rswitchT, rremoveT, T.get, iteK_get, show ((1 : Int) == 1) = true from rfl, show ((7 : Int) == 6) = false from rfl, show ((7 : Int) == 7) = true from rfl]
          cases (rNext n x).1.found <;> rfl
        · rfl
      rw [e1, e2, ← h2]
      cases ho : (wNext m x).2.2.1
      · obtain ⟨p1, p2, p3, p4⟩ := h4 ho
        simp only
        rw [← p4, ← p1, ← p2, ← p3]
        cases (wNext m x).1.found
        · exact ⟨rfl, .over ..⟩
        · exact ⟨rfl, .remP 2 (wNext m x).1 _ _ _ _ _ _ _ _ _ _ (.inl rfl) _⟩
      · exact ⟨h1, .remW 1 _ _ (h3 ho) _ _ _ _ _ _ _ _ _ _ (.inl rfl) _ _ _ _⟩
    · have e1 : jNext ⟨6, last, s, k, ⟨7, a, b, c⟩, some m, node, val⟩ x = (match (wNext m x).2.2.1 with
          | true => (⟨6, last, s, k, ⟨7, a, b, c⟩, some (wNext m x).1, node, val⟩, (wNext m x).2.1)
          | false => (⟨-1, cDone 1 val, s, k, ⟨7, a, b, c⟩, some (wNext m x).1, node, val⟩, cDone 1 val)) := by
        simp only [jNext, jobNextT, removeT, T.get]
        rw [T.get_bind _ (m, C.zero, false, false) _ (walk_sure m x), wNext_get]
        simp only [show ((6 : Int) == 3) = false from rfl, show ((6 : Int) == 0) = false from rfl, show ((6 : Int) == 1) = false from rfl, show ((6 : Int) == 2) = false from rfl, show ((6 : Int) == 4) = false from rfl, show ((6 : Int) == 6) = true from rfl, show ((7 : Int) == 6) = false from rfl, show ((7 : Int) == 7) = true from rfl]
        cases (wNext m x).2.2.1 <;> rfl
      have e2 : rjNext ⟨⟨7, a, b, c⟩, s, k, 6, rnode, val, some n, prev, cur, next, fin⟩ x = (match (rNext n x).2.2.1 with
          | true => (⟨⟨7, a, b, c⟩, s, k, 6, rnode, val, some (rNext n x).1, prev, cur, next, fin⟩, (rNext n x).2.1)
          | false => (⟨⟨7, a, b, c⟩, s, k, 9, rnode, val, none, (rNext n x).1.prev, (rNext n x).1.cur, (rNext n x).1.next, cDone 1 val⟩, cDone 1 val)) := by
        simp only [rjNext, rjobNextT, T.get]
        rw [T.get_bind _ (n, C.zero, false, false) _ (rwalk_sure n x), rNext_get]
        simp only [show ((6 : Int) == 9) = false from rfl]
        cases (rNext n x).2.2.1 <;> rfl
      rw [e1, e2, ← h2]
      cases ho : (wNext m x).2.2.1
      · exact ⟨rfl, .over ..⟩
      · exact ⟨h1, .remW 6 _ _ (h3 ho) _ _ _ _ _ _ _ _ _ _ (.inr ⟨rfl, rfl⟩) _ _ _ _⟩
  | remP pc m last s k a b c node val rnode num hpc fin =>
    rcases hpc with rfl | ⟨rfl | rfl | rfl, rfl⟩
    · exact ⟨rfl, .remP 3 m _ _ _ _ _ _ _ _ _ _ (.inr ⟨.inl rfl, rfl⟩) _⟩
    · cases ho : x.ok
      · have e1 : jNext ⟨3, last, s, k, ⟨7, a, b, c⟩, some m, node, val⟩ x = JobM.seek ⟨3, last, s, k, ⟨7, a, b, c⟩, some m, node, val⟩ 1 := by simp [jNext, jobNextT, removeT, T.get, ho]
        have e2 : rjNext ⟨⟨7, a, b, c⟩, s, k, 3, rnode, val, none, m.prev, m.cur, m.next, fin⟩ x = RJobM.seek ⟨⟨7, a, b, c⟩, s, k, 3, rnode, val, none, m.prev, m.cur, m.next, fin⟩ 1 := by simp [rjNext, rjobNextT, rswitchT, rremoveT, T.get, ho]
        rw [e1, e2]
        exact ⟨rfl, .remW 1 _ _ (wr_new s k) _ _ _ _ _ _ _ _ _ _ (.inl rfl) _ _ _ _⟩
      · have e1 : jNext ⟨3, last, s, k, ⟨7, a, b, c⟩, some m, node, val⟩ x = JobM.ask ⟨3, last, s, k, ⟨7, a, b, c⟩, some m, node, val⟩ 4 (cSwap m.prev m.cur (m.cur.to m.next)) := by simp [jNext, jobNextT, removeT, T.get, ho, oPrev, oCur, oNext]
        have e2 : rjNext ⟨⟨7, a, b, c⟩, s, k, 3, rnode, val, none, m.prev, m.cur, m.next, fin⟩ x = (⟨⟨7, a, b, c⟩, s, k, 4, rnode, val, none, m.prev, m.cur, m.next, fin⟩, cSwap m.prev m.cur (m.cur.to m.next)) := by simp [rjNext, rjobNextT, rswitchT, rremoveT, T.get, ho, pl1]
        rw [e1, e2]
        exact ⟨rfl, .remP 4 m _ _ _ _ _ _ _ _ _ _ (.inr ⟨.inr (.inl rfl), rfl⟩) _⟩
    · cases ho : x.ok
      · have e1 : jNext ⟨4, last, s, k, ⟨7, a, b, c⟩, some m, node, val⟩ x = JobM.seek ⟨4, last, s, k, ⟨7, a, b, c⟩, some m, node, val⟩ 6 := by simp [jNext, jobNextT, removeT, T.get, ho]
        have e2 : rjNext ⟨⟨7, a, b, c⟩, s, k, 4, rnode, val, none, m.prev, m.cur, m.next, fin⟩ x = RJobM.seek ⟨⟨7, a, b, c⟩, s, k, 4, rnode, val, none, m.prev, m.cur, m.next, fin⟩ 6 := by simp [rjNext, rjobNextT, rswitchT, rremoveT, T.get, ho]
        rw [e1, e2]
        exact ⟨rfl, .remW 6 _ _ (wr_new s k) _ _ _ _ _ _ _ _ _ _ (.inr ⟨rfl, rfl⟩) _ _ _ _⟩
      · have e1 : jNext ⟨4, last, s, k, ⟨7, a, b, c⟩, some m, node, val⟩ x = JobM.ask ⟨4, last, s, k, ⟨7, a, b, c⟩, some m, node, val⟩ 5 (cRetire m.cur) := by simp [jNext, jobNextT, removeT, T.get, ho, oCur]
        have e2 : rjNext ⟨⟨7, a, b, c⟩, s, k, 4, rnode, val, none, m.prev, m.cur, m.next, fin⟩ x = (⟨⟨7, a, b, c⟩, s, k, 5, rnode, val, none, m.prev, m.cur, m.next, fin⟩, cRetire m.cur) := by simp [rjNext, rjobNextT, rswitchT, rremoveT, T.get, ho, pl1]
        rw [e1, e2]
        exact ⟨rfl, .remP 5 m _ _ _ _ _ _ _ _ _ _ (.inr ⟨.inr (.inr rfl), rfl⟩) _⟩
    · exact ⟨rfl, .over ..⟩
  | getW m n h last s k a b c node val rnode num prev cur next fin =>
    obtain ⟨h1, h2, h3, h4⟩ := walk_step m n x h
    have e1 : jNext ⟨1, last, s, k, ⟨8, a, b, c⟩, some m, node, val⟩ x = (match (wNext m x).2.2.1 with
        | true => (⟨1, last, s, k, ⟨8, a, b, c⟩, some (wNext m x).1, node, val⟩, (wNext m x).2.1)
        | false => match (wNext m x).1.found with
          | true => (⟨2, last, s, k, ⟨8, a, b, c⟩, some (wNext m x).1, node, val⟩, cLoad ((wNext m x).1.cur.at 1))
          | false => (⟨-1, cDone 2 0, s, k, ⟨8, a, b, c⟩, some (wNext m x).1, node, val⟩, cDone 2 0)) := by
      simp only [jNext, jobNextT, getT, T.get, JobM.walkN]
      rw [T.get_bind _ (m, C.zero, false, false) _ (walk_sure m x), wNext_get]
      simp only [show ((1 : Int) == 0) = false from rfl, show ((1 : Int) == 1) = true from rfl, show ((8 : Int) == 6) = false from rfl, show ((8 : Int) == 7) = false from rfl]
      cases (wNext m x).2.2.1
      · simp only [iteK_get]
        cases (wNext m x).1.found <;> rfl
      · rfl
    have e2 : rjNext ⟨⟨8, a, b, c⟩, s, k, 1, rnode, num, some n, prev, cur, next, fin⟩ x = (match (rNext n x).2.2.1 with
        | true => (⟨⟨8, a, b, c⟩, s, k, 1, rnode, num, some (rNext n x).1, prev, cur, next, fin⟩, (rNext n x).2.1)
        | false => match (rNext n x).1.found with
          | true => (⟨⟨8, a, b, c⟩, s, k, 2, rnode, num, none, (rNext n x).1.prev, (rNext n x).1.cur, (rNext n x).1.next, fin⟩, cLoad ((rNext n x).1.cur.at 1))
          | false => (⟨⟨8, a, b, c⟩, s, k, 9, rnode, num, none, (rNext n x).1.prev, (rNext n x).1.cur, (rNext n x).1.next, cDone 2 0⟩, cDone 2 0)) := by
      simp only [rjNext, rjobNextT, T.get]
      rw [T.get_bind _ (n, C.zero, false, false) _ (rwalk_sure n x), rNext_get]
      simp only [show ((1 : Int) == 9) = false from rfl]
      cases (rNext n x).2.2.1
      · simp only [rswitchT, rgetT, T.get, iteK_get, show ((1 : Int) == 1) = true from rfl, show ((1 : Int) == 0) = false from rfl, show ((8 : Int) == 6) = false from rfl, show ((8 : Int) == 7) = false from rfl]
        cases (rNext n x).1.found <;> rfl
      · rfl
    rw [e1, e2, ← h2]
    cases ho : (wNext m x).2.2.1
    · obtain ⟨p1, p2, p3, p4⟩ := h4 ho
      simp only
      rw [← p4, ← p1, ← p2, ← p3]
      cases (wNext m x).1.found
      · exact ⟨rfl, .over ..⟩
      · exact ⟨rfl, .get2 ..⟩
    · exact ⟨h1, .getW _ _ (h3 ho) ..⟩
  | get2 last s k a b c wk node val rnode num prev cur next fin => exact ⟨rfl, .over ..⟩
end Go.Sx
