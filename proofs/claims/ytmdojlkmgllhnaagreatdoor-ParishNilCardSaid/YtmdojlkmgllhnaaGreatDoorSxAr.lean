/- Arrays of plain things: one kind of elements, written as cells. -/
import Derived.Test.YtmdojlkmgllhnaaGreatDoorSxOb
namespace Go.Sx
/-- a kind of elements: how many cells, which type, what cells; what is read back of cells -/
structure AK (α : Type) where
  es : Nat
  pos : 0 < es
  ty : TypeId
  enc : α → List Cell
  len : ∀ a, (enc a).length = es
  nm : ∀ a, ∀ c ∈ enc a, c.name = none
  dec : List Cell → Option α
  dec_ok : ∀ cs a, dec cs = some a → denL Nm.id (enc a) = denL Nm.id cs ∧ ∀ c ∈ cs, c.name = none
  dflt : α
namespace AK
variable {α : Type} (K : AK α)
def vals (l : List α) : List Value := l.flatMap fun a => denL Nm.id (K.enc a)
theorem vals_len (l : List α) : (K.vals l).length = l.length * K.es := by
  induction l with
  | nil => simp [vals]
  | cons a l ih =>
    have h1 := K.len a
    simp only [vals, List.flatMap_cons, List.length_append, den_len, h1, List.length_cons] at ih ⊢
    rw [ih, Nat.add_mul, Nat.one_mul, Nat.add_comm]
theorem vals_one (l : List α) : ∀ v ∈ K.vals l, v.oneCell' = true := by
  intro v hv
  obtain ⟨a, _, h⟩ := List.mem_flatMap.1 hv
  obtain ⟨c, _, rfl⟩ := List.mem_map.1 h
  exact den_one _ c
theorem vals_append (l r : List α) : K.vals (l ++ r) = K.vals l ++ K.vals r := by simp [vals]
theorem vals_take (l : List α) (n : Nat) : (K.vals l).take (n * K.es) = K.vals (l.take n) := by
  induction l generalizing n with
  | nil => simp [vals]
  | cons a l ih =>
    cases n with
    | zero => simp [vals]
    | succ n =>
      have h1 : (denL Nm.id (K.enc a)).length = K.es := by rw [den_len, K.len a]
      simp only [vals, List.flatMap_cons, List.take_succ_cons] at ih ⊢
      rw [List.take_append, h1, Nat.add_mul, Nat.one_mul, Nat.add_sub_cancel, ih n, List.take_of_length_le (by omega)]
theorem vals_drop (l : List α) (n : Nat) : (K.vals l).drop (n * K.es) = K.vals (l.drop n) := by
  induction l generalizing n with
  | nil => simp [vals]
  | cons a l ih =>
    cases n with
    | zero => simp [vals]
    | succ n =>
      have h1 : (denL Nm.id (K.enc a)).length = K.es := by rw [den_len, K.len a]
      simp only [vals, List.flatMap_cons, List.drop_succ_cons] at ih ⊢
      rw [List.drop_append, h1, Nat.add_mul, Nat.one_mul, Nat.add_sub_cancel, ih n, List.drop_of_length_le (by omega), List.nil_append]
/-- the cells of an element -/
theorem vals_get (l : List α) (i j : Nat) (hi : i < l.length) (hj : j < K.es) : (K.vals l)[i * K.es + j]? = (denL Nm.id (K.enc (l.getD i K.dflt)))[j]? := by
  induction l generalizing i with
  | nil => simp at hi
  | cons a l ih =>
    have h1 : (denL Nm.id (K.enc a)).length = K.es := by rw [den_len, K.len a]
    have e : K.vals (a :: l) = denL Nm.id (K.enc a) ++ K.vals l := by simp [vals]
    rw [e]
    cases i with
    | zero => simp [List.getElem?_append_left (show j < (denL Nm.id (K.enc a)).length by omega)]
    | succ i =>
      rw [List.getElem?_append_right (by rw [h1, Nat.add_mul]; omega), h1]
      have := ih i (by simpa using hi)
      rw [show (i + 1) * K.es + j - K.es = i * K.es + j by rw [Nat.add_mul]; omega, this]
      simp
theorem vals_set (l : List α) (i : Nat) (a : α) (hi : i < l.length) : K.vals (l.set i a) = (K.vals l).take (i * K.es) ++ (denL Nm.id (K.enc a) ++ (K.vals l).drop (i * K.es + K.es)) := by
  rw [List.set_eq_take_append_cons_drop, if_pos hi, vals_append, vals_take]
  have e : i * K.es + K.es = (i + 1) * K.es := by rw [Nat.add_mul, Nat.one_mul]
  rw [e, vals_drop]
  simp [vals]
def row (l : List α) (idx es : Nat) : Option (Bool × List Cell) := match Nat.beq es K.es with
  | true => some (decide (idx < l.length), K.enc (l.getD idx K.dflt))
  | false => none
def upd (l : List α) (idx es off : Nat) (cs : List Cell) : Option (Bool × List α) := match Nat.beq es K.es with
  | false => none
  | true => match lput (K.enc (l.getD idx K.dflt)) off cs with
    | none => none
    | some r => match K.dec r with
      | some a => some (decide (idx < l.length), l.set idx a)
      | none => none
def arr (l : List α) : Option (Nat × TypeId × List Value) := some (K.es, K.ty, K.vals l)
def q (l : List α) (lc : Loc) (S : Nat → Prop) (w : World) : Prop := vecQ lc S (K.vals l) K.es K.ty w
/-- rows of cells read back -/
def decs : Nat → List Cell → Option (List α)
  | 0, [] => some []
  | 0, _ :: _ => none
  | n + 1, cs => match ltake cs K.es with
    | none => none
    | some r => match K.dec r, decs n (cs.drop K.es) with
      | some a, some l => some (a :: l)
      | _, _ => none
def app (l : List α) (cs : List Cell) : Option (List α) := match K.decs (cs.length / K.es) cs with
  | some r => some (l ++ r)
  | none => none
theorem q_loc {l : List α} {lc : Loc} {S : Nat → Prop} {w w' : World} (h : ∀ k, S k → w'.heap[k]? = w.heap[k]?) (hq : K.q l lc S w) : K.q l lc S w' := vecQ_keep hq h
theorem q_dom {l : List α} {lc : Loc} {S : Nat → Prop} {w : World} {k : Nat} (hq : K.q l lc S w) (hk : S k) : k < w.heap.size := by
  rcases hq with ⟨_, _, h⟩ | ⟨_, h, row, h2, _⟩
  · exact absurd hk (h k)
  · rw [(h k).1 hk]
    exact (Array.getElem?_eq_some_iff.1 h2).1
theorem row_nm {l : List α} {idx es : Nat} {b : Bool} {cs : List Cell} (h : K.row l idx es = some (b, cs)) : ∀ c ∈ cs, c.name = none := by
  unfold row at h
  split at h
  · cases h; exact K.nm _
  · cases h
theorem row_ok {l : List α} {lc : Loc} {S : Nat → Prop} {w : World} {idx es : Nat} {cs : List Cell} (hq : K.q l lc S w) (h : K.row l idx es = some (true, cs)) (j : Nat) (c : Cell) (hc : cs[j]? = some c) : w.cell? ⟨lc.b, lc.o + idx * es + j, none⟩ = some (c.den Nm.id) := by
  unfold row at h
  split at h
  · rename_i he
    have he := (beq_iff _ _).1 he
    subst he
    simp only [Option.some.injEq, Prod.mk.injEq, decide_eq_true_eq] at h
    obtain ⟨hi, rfl⟩ := h
    have hj : j < K.es := by
      have := (List.getElem?_eq_some_iff.1 hc).1
      rw [K.len] at this; exact this
    have := vecQ_at hq (idx * K.es + j) (c.den Nm.id) (by rw [K.vals_get l idx j hi hj]; unfold denL; rw [List.getElem?_map, hc]; rfl)
    have e : (⟨lc.b, lc.o, none⟩ : Addr).add (idx * K.es + j) = ⟨lc.b, lc.o + idx * K.es + j, none⟩ := by
      unfold Addr.add
      by_cases h0 : idx * K.es + j = 0
      · simp [h0]; omega
      · simp [h0, Nat.add_assoc]
    rw [← e]; exact this
  · cases h
theorem lput_spec : ∀ {l : List Cell} {off : Nat} {ys r : List Cell}, lput l off ys = some r → off + ys.length ≤ l.length ∧ r = l.take off ++ (ys ++ l.drop (off + ys.length))
  | l, 0, [], r, h => by simp only [lput, Option.some.injEq] at h; subst h; simp
  | [], 0, y :: ys, r, h => by simp [lput] at h
  | x :: l, 0, y :: ys, r, h => by
    simp only [lput] at h
    split at h
    · rename_i q hq
      cases h
      obtain ⟨h1, h2⟩ := lput_spec hq
      simp only [Nat.zero_add, List.take_zero, List.nil_append] at h1 h2
      refine ⟨by simp; omega, ?_⟩
      simp [h2]
    · cases h
  | [], n + 1, ys, r, h => by simp [lput] at h
  | x :: l, n + 1, ys, r, h => by
    simp only [lput] at h
    split at h
    · rename_i q hq
      cases h
      obtain ⟨h1, h2⟩ := lput_spec hq
      refine ⟨by simp; omega, ?_⟩
      rw [h2, show n + 1 + ys.length = (n + ys.length) + 1 by omega]
      simp
    · cases h
theorem upd_ok {l l' : List α} {lc : Loc} {S : Nat → Prop} {w : World} {idx es off : Nat} {cs : List Cell} (hq : K.q l lc S w) (h : K.upd l idx es off cs = some (true, l')) : (∀ c ∈ cs, c.name = none) ∧ S lc.b ∧ ∃ (row : List Value) (ty : TypeId), w.heap[lc.b]? = some (.cells row.toArray ty (0, 0)) ∧ lc.o + idx * es + off + cs.length ≤ row.length ∧
    K.q l' lc S (w.setRow lc.b (row.take (lc.o + idx * es + off) ++ (denL Nm.id cs ++ row.drop (lc.o + idx * es + off + cs.length))).toArray) := by
  unfold upd at h
  split at h
  · cases h
  · rename_i he
    have he := (beq_iff _ _).1 he
    subst he
    split at h
    · cases h
    · rename_i r hr
      split at h
      · rename_i a ha
        simp only [Option.some.injEq, Prod.mk.injEq, decide_eq_true_eq] at h
        obtain ⟨hi, rfl⟩ := h
        obtain ⟨p1, p2⟩ := lput_spec hr
        obtain ⟨d1, d2⟩ := K.dec_ok r a ha
        rw [K.len] at p1
        have hnm : ∀ c ∈ cs, c.name = none := fun c hc => d2 c (by rw [p2]; simp [hc])
        rcases hq with ⟨_, h0, _⟩ | ⟨hcp, hS, row, hrow, hrl, hll, hat⟩
        · have := congrArg List.length h0
          rw [K.vals_len] at this
          rcases Nat.mul_eq_zero.1 this with h | h
          · omega
          · have := K.pos; omega
        · have hvl := K.vals_len l
          have hmul : (idx + 1) * K.es ≤ l.length * K.es := Nat.mul_le_mul_right _ hi
          rw [Nat.add_mul, Nat.one_mul] at hmul
          have hfit : lc.o + idx * K.es + off + cs.length ≤ row.length := by omega
          refine ⟨hnm, (hS _).2 rfl, row, K.ty, hrow, hfit, .inr ⟨hcp, hS, _, setRow_heap w lc.b _ _ K.ty (0, 0) hrow, ?_, ?_, ?_⟩⟩
          · simp only [List.length_append, List.length_take, List.length_drop, den_len]
            omega
          · rw [K.vals_len, List.length_set, ← K.vals_len]; exact hll
          · intro j v hv
            have e1 : row.take (lc.o + idx * K.es + off) ++ (denL Nm.id cs ++ row.drop (lc.o + idx * K.es + off + cs.length)) = row.take (lc.o + idx * K.es + off) ++ denL Nm.id cs ++ row.drop (lc.o + idx * K.es + off + (denL Nm.id cs).length) := by rw [den_len, List.append_assoc]
            rw [e1, seg_row (by rw [den_len]; exact hfit), den_len]
            -- the new element's cells
            have hnew : ∀ j, j < K.es → (denL Nm.id (K.enc a))[j]? = if j < off then (denL Nm.id (K.enc (l.getD idx K.dflt)))[j]? else if j < off + cs.length then (denL Nm.id cs)[j - off]? else (denL Nm.id (K.enc (l.getD idx K.dflt)))[j]? := by
              intro j hj
              rw [d1, p2]
              have e2 : denL Nm.id ((K.enc (l.getD idx K.dflt)).take off ++ (cs ++ (K.enc (l.getD idx K.dflt)).drop (off + cs.length))) = (denL Nm.id (K.enc (l.getD idx K.dflt))).take off ++ denL Nm.id cs ++ (denL Nm.id (K.enc (l.getD idx K.dflt))).drop (off + (denL Nm.id cs).length) := by
                rw [den_len]
                simp [denL, List.map_take, List.map_drop]
              rw [e2, seg_row (by rw [den_len, den_len, K.len]; exact p1), den_len]
            rw [K.vals_set l idx a hi] at hv
            have hl1 : ((K.vals l).take (idx * K.es)).length = idx * K.es := by rw [List.length_take]; omega
            have hl2 : (denL Nm.id (K.enc a)).length = K.es := by rw [den_len, K.len]
            by_cases c1 : j < idx * K.es
            · rw [List.getElem?_append_left (by omega), List.getElem?_take, if_pos c1] at hv
              rw [if_pos (by omega)]
              exact hat j v hv
            · rw [List.getElem?_append_right (by omega), hl1] at hv
              by_cases c2 : j - idx * K.es < K.es
              · rw [List.getElem?_append_left (by omega), hnew _ c2] at hv
                have back : ∀ u, (denL Nm.id (K.enc (l.getD idx K.dflt)))[j - idx * K.es]? = some u → row[lc.o + j]? = some u := fun u hu => by
                  have := K.vals_get l idx (j - idx * K.es) hi c2
                  rw [show idx * K.es + (j - idx * K.es) = j by omega] at this
                  exact hat j u (by rw [this]; exact hu)
                by_cases c3 : j - idx * K.es < off
                · rw [if_pos c3] at hv
                  rw [if_pos (by omega)]
                  exact back v hv
                · rw [if_neg c3] at hv
                  rw [if_neg (by omega)]
                  by_cases c4 : j - idx * K.es < off + cs.length
                  · rw [if_pos c4] at hv
                    rw [if_pos (by omega), ← hv]
                    congr 1
                    omega
                  · rw [if_neg c4] at hv
                    rw [if_neg (by omega)]
                    exact back v hv
              · rw [List.getElem?_append_right (by omega), hl2, List.getElem?_drop] at hv
                rw [if_neg (by omega), if_neg (by omega)]
                refine hat j v ?_
                rw [← hv]
                congr 1
                omega
      · cases h
theorem decs_ok : ∀ {n : Nat} {cs : List Cell} {l : List α}, K.decs n cs = some l → K.vals l = denL Nm.id cs ∧ ∀ c ∈ cs, c.name = none
  | 0, [], l, h => by simp only [decs, Option.some.injEq] at h; subst h; simp [vals, denL]
  | 0, _ :: _, l, h => by simp [decs] at h
  | n + 1, cs, l, h => by
    simp only [decs] at h
    split at h
    · cases h
    · rename_i r hr
      split at h
      · rename_i a l' ha hl
        cases h
        obtain ⟨d1, d2⟩ := K.dec_ok r a ha
        obtain ⟨q1, q2⟩ := decs_ok hl
        have hrl := ltake_spec hr
        have hle := ltake_le hr
        have er : r = cs.take K.es := by
          apply List.ext_getElem?
          intro j
          rw [List.getElem?_take]
          by_cases hj : j < K.es
          · rw [if_pos hj]
            have hjr : j < r.length := by rw [hrl.1]; exact hj
            have := hrl.2 j r[j] (List.getElem?_eq_getElem hjr)
            rw [this, List.getElem?_eq_getElem hjr]
          · rw [if_neg hj, List.getElem?_eq_none (by rw [hrl.1]; omega)]
        have ecs : cs = r ++ cs.drop K.es := by rw [er, List.take_append_drop]
        refine ⟨?_, fun c hc => ?_⟩
        · have : K.vals (a :: l') = denL Nm.id (K.enc a) ++ K.vals l' := by simp [vals]
          rw [this, d1, q1]
          conv => rhs; rw [ecs]
          simp [denL]
        · rw [ecs] at hc
          rcases List.mem_append.1 hc with h | h
          · exact d2 c h
          · exact q2 c h
      · cases h
theorem app_ok {l l' : List α} {cs : List Cell} (h : K.app l cs = some l') : (∀ x ∈ cs, x.name = none) ∧ K.vals l' = K.vals l ++ denL Nm.id cs := by
  unfold app at h
  split at h
  · rename_i r hr
    cases h
    obtain ⟨h1, h2⟩ := K.decs_ok hr
    exact ⟨h2, by rw [K.vals_append, h1]⟩
  · cases h
theorem cut_ok (l : List α) (i j : Nat) : K.vals ((l.take j).drop i) = ((K.vals l).take (j * K.es)).drop (i * K.es) := by
  rw [K.vals_take, K.vals_drop]
end AK
end Go.Sx
