/- Printed by mkarr.py: elements of arrays, as records. -/
import Derived.Test.YtmdojlkmgllhnaaGreatDoorSxAr
namespace Go.Sx
set_option linter.unusedVariables false
def iOf : Cell → Option Int
  | .il .i64 n => some n
  | .it .i64 n => some n
  | .iv .i64 n _ _ => some n
  | .ir .i64 n _ _ _ => some n
  | _ => none
def bOf : Cell → Option Bool
  | .bl b => some b
  | .bt b => some b
  | _ => none
theorem iOf_spec {c : Cell} {n : Int} (h : iOf c = some n) : c.den Nm.id = .int .i64 n ∧ c.name = none := by
  unfold iOf at h
  split at h <;> cases h <;> exact ⟨rfl, rfl⟩
theorem bOf_spec {c : Cell} {n : Bool} (h : bOf c = some n) : c.den Nm.id = .bool n ∧ c.name = none := by
  unfold bOf at h
  split at h <;> cases h <;> exact ⟨rfl, rfl⟩
structure W where
  slot : Int
  gen : Int
  tag : Int
  num : Int
  mark : Bool
deriving DecidableEq, Inhabited
def W.enc (a : W) : List Cell := [.it .i64 a.slot, .it .i64 a.gen, .it .i64 a.tag, .it .i64 a.num, .bt a.mark]
def W.dec : List Cell → Option W
  | [c0, c1, c2, c3, c4] => (iOf c0).bind fun x0 => (iOf c1).bind fun x1 => (iOf c2).bind fun x2 => (iOf c3).bind fun x3 => (bOf c4).bind fun x4 => some ⟨x0, x1, x2, x3, x4⟩
  | _ => none
theorem W.dec_ok (cs : List Cell) (a : W) (h : W.dec cs = some a) : denL Nm.id a.enc = denL Nm.id cs ∧ ∀ c ∈ cs, c.name = none := by
  unfold W.dec at h
  split at h
  · rename_i c0 c1 c2 c3 c4
    obtain ⟨x0, h0, h⟩ := Option.bind_eq_some_iff.1 h
    have h0 := iOf_spec h0
    obtain ⟨x1, h1, h⟩ := Option.bind_eq_some_iff.1 h
    have h1 := iOf_spec h1
    obtain ⟨x2, h2, h⟩ := Option.bind_eq_some_iff.1 h
    have h2 := iOf_spec h2
    obtain ⟨x3, h3, h⟩ := Option.bind_eq_some_iff.1 h
    have h3 := iOf_spec h3
    obtain ⟨x4, h4, h⟩ := Option.bind_eq_some_iff.1 h
    have h4 := bOf_spec h4
    cases h
    refine ⟨by simp [W.enc, denL, Cell.den, h0.1, h1.1, h2.1, h3.1, h4.1], fun c hc => ?_⟩
    simp only [List.mem_cons, List.not_mem_nil, or_false] at hc
    rcases hc with rfl | rfl | rfl | rfl | rfl
    · exact h0.2
    · exact h1.2
    · exact h2.2
    · exact h3.2
    · exact h4.2
  · cases h
def W.ak (ty : TypeId) : AK W := ⟨5, by decide, ty, W.enc, fun _ => rfl, fun a c hc => (by simp only [W.enc, List.mem_cons, List.not_mem_nil, or_false] at hc; rcases hc with rfl | rfl | rfl | rfl | rfl <;> rfl), W.dec, W.dec_ok, ⟨0, 0, 0, 0, false⟩⟩
structure N1 where
  val : Int
deriving DecidableEq, Inhabited
def N1.enc (a : N1) : List Cell := [.it .i64 a.val]
def N1.dec : List Cell → Option N1
  | [c0] => (iOf c0).bind fun x0 => some ⟨x0⟩
  | _ => none
theorem N1.dec_ok (cs : List Cell) (a : N1) (h : N1.dec cs = some a) : denL Nm.id a.enc = denL Nm.id cs ∧ ∀ c ∈ cs, c.name = none := by
  unfold N1.dec at h
  split at h
  · rename_i c0
    obtain ⟨x0, h0, h⟩ := Option.bind_eq_some_iff.1 h
    have h0 := iOf_spec h0
    cases h
    refine ⟨by simp [N1.enc, denL, Cell.den, h0.1], fun c hc => ?_⟩
    simp only [List.mem_cons, List.not_mem_nil, or_false] at hc
    subst hc
    exact h0.2
  · cases h
def N1.ak (ty : TypeId) : AK N1 := ⟨1, by decide, ty, N1.enc, fun _ => rfl, fun a c hc => (by simp only [N1.enc, List.mem_cons, List.not_mem_nil, or_false] at hc; subst hc; rfl), N1.dec, N1.dec_ok, ⟨0⟩⟩
structure Nt where
  slot : Int
  gen : Int
  tag : Int
  num : Int
  mark : Bool
  birth : Int
  death : Int
deriving DecidableEq, Inhabited
def Nt.enc (a : Nt) : List Cell := [.it .i64 a.slot, .it .i64 a.gen, .it .i64 a.tag, .it .i64 a.num, .bt a.mark, .it .i64 a.birth, .it .i64 a.death]
def Nt.dec : List Cell → Option Nt
  | [c0, c1, c2, c3, c4, c5, c6] => (iOf c0).bind fun x0 => (iOf c1).bind fun x1 => (iOf c2).bind fun x2 => (iOf c3).bind fun x3 => (bOf c4).bind fun x4 => (iOf c5).bind fun x5 => (iOf c6).bind fun x6 => some ⟨x0, x1, x2, x3, x4, x5, x6⟩
  | _ => none
theorem Nt.dec_ok (cs : List Cell) (a : Nt) (h : Nt.dec cs = some a) : denL Nm.id a.enc = denL Nm.id cs ∧ ∀ c ∈ cs, c.name = none := by
  unfold Nt.dec at h
  split at h
  · rename_i c0 c1 c2 c3 c4 c5 c6
    obtain ⟨x0, h0, h⟩ := Option.bind_eq_some_iff.1 h
    have h0 := iOf_spec h0
    obtain ⟨x1, h1, h⟩ := Option.bind_eq_some_iff.1 h
    have h1 := iOf_spec h1
    obtain ⟨x2, h2, h⟩ := Option.bind_eq_some_iff.1 h
    have h2 := iOf_spec h2
    obtain ⟨x3, h3, h⟩ := Option.bind_eq_some_iff.1 h
    have h3 := iOf_spec h3
    obtain ⟨x4, h4, h⟩ := Option.bind_eq_some_iff.1 h
    have h4 := bOf_spec h4
    obtain ⟨x5, h5, h⟩ := Option.bind_eq_some_iff.1 h
    have h5 := iOf_spec h5
    obtain ⟨x6, h6, h⟩ := Option.bind_eq_some_iff.1 h
    have h6 := iOf_spec h6
    cases h
    refine ⟨by simp [Nt.enc, denL, Cell.den, h0.1, h1.1, h2.1, h3.1, h4.1, h5.1, h6.1], fun c hc => ?_⟩
    simp only [List.mem_cons, List.not_mem_nil, or_false] at hc
    rcases hc with rfl | rfl | rfl | rfl | rfl | rfl | rfl
    · exact h0.2
    · exact h1.2
    · exact h2.2
    · exact h3.2
    · exact h4.2
    · exact h5.2
    · exact h6.2
  · cases h
def Nt.ak (ty : TypeId) : AK Nt := ⟨7, by decide, ty, Nt.enc, fun _ => rfl, fun a c hc => (by simp only [Nt.enc, List.mem_cons, List.not_mem_nil, or_false] at hc; rcases hc with rfl | rfl | rfl | rfl | rfl | rfl | rfl <;> rfl), Nt.dec, Nt.dec_ok, ⟨0, 0, 0, 0, false, 0, 0⟩⟩
structure O where
  kind : Int
  key : Int
  val : Int
  tall : Int
deriving DecidableEq, Inhabited
def O.enc (a : O) : List Cell := [.it .i64 a.kind, .it .i64 a.key, .it .i64 a.val, .it .i64 a.tall]
def O.dec : List Cell → Option O
  | [c0, c1, c2, c3] => (iOf c0).bind fun x0 => (iOf c1).bind fun x1 => (iOf c2).bind fun x2 => (iOf c3).bind fun x3 => some ⟨x0, x1, x2, x3⟩
  | _ => none
theorem O.dec_ok (cs : List Cell) (a : O) (h : O.dec cs = some a) : denL Nm.id a.enc = denL Nm.id cs ∧ ∀ c ∈ cs, c.name = none := by
  unfold O.dec at h
  split at h
  · rename_i c0 c1 c2 c3
    obtain ⟨x0, h0, h⟩ := Option.bind_eq_some_iff.1 h
    have h0 := iOf_spec h0
    obtain ⟨x1, h1, h⟩ := Option.bind_eq_some_iff.1 h
    have h1 := iOf_spec h1
    obtain ⟨x2, h2, h⟩ := Option.bind_eq_some_iff.1 h
    have h2 := iOf_spec h2
    obtain ⟨x3, h3, h⟩ := Option.bind_eq_some_iff.1 h
    have h3 := iOf_spec h3
    cases h
    refine ⟨by simp [O.enc, denL, Cell.den, h0.1, h1.1, h2.1, h3.1], fun c hc => ?_⟩
    simp only [List.mem_cons, List.not_mem_nil, or_false] at hc
    rcases hc with rfl | rfl | rfl | rfl
    · exact h0.2
    · exact h1.2
    · exact h2.2
    · exact h3.2
  · cases h
def O.ak (ty : TypeId) : AK O := ⟨4, by decide, ty, O.enc, fun _ => rfl, fun a c hc => (by simp only [O.enc, List.mem_cons, List.not_mem_nil, or_false] at hc; rcases hc with rfl | rfl | rfl | rfl <;> rfl), O.dec, O.dec_ok, ⟨0, 0, 0, 0⟩⟩
structure Bt where
  thread : Int
  begins : Bool
  kind : Int
  key : Int
  val : Int
  tall : Int
  real : Bool
  ends : Bool
  code : Int
  aval : Int
deriving DecidableEq, Inhabited
def Bt.enc (a : Bt) : List Cell := [.it .i64 a.thread, .bt a.begins, .it .i64 a.kind, .it .i64 a.key, .it .i64 a.val, .it .i64 a.tall, .bt a.real, .bt a.ends, .it .i64 a.code, .it .i64 a.aval]
def Bt.dec : List Cell → Option Bt
  | [c0, c1, c2, c3, c4, c5, c6, c7, c8, c9] => (iOf c0).bind fun x0 => (bOf c1).bind fun x1 => (iOf c2).bind fun x2 => (iOf c3).bind fun x3 => (iOf c4).bind fun x4 => (iOf c5).bind fun x5 => (bOf c6).bind fun x6 => (bOf c7).bind fun x7 => (iOf c8).bind fun x8 => (iOf c9).bind fun x9 => some ⟨x0, x1, x2, x3, x4, x5, x6, x7, x8, x9⟩
  | _ => none
theorem Bt.dec_ok (cs : List Cell) (a : Bt) (h : Bt.dec cs = some a) : denL Nm.id a.enc = denL Nm.id cs ∧ ∀ c ∈ cs, c.name = none := by
  unfold Bt.dec at h
  split at h
  · rename_i c0 c1 c2 c3 c4 c5 c6 c7 c8 c9
    obtain ⟨x0, h0, h⟩ := Option.bind_eq_some_iff.1 h
    have h0 := iOf_spec h0
    obtain ⟨x1, h1, h⟩ := Option.bind_eq_some_iff.1 h
    have h1 := bOf_spec h1
    obtain ⟨x2, h2, h⟩ := Option.bind_eq_some_iff.1 h
    have h2 := iOf_spec h2
    obtain ⟨x3, h3, h⟩ := Option.bind_eq_some_iff.1 h
    have h3 := iOf_spec h3
    obtain ⟨x4, h4, h⟩ := Option.bind_eq_some_iff.1 h
    have h4 := iOf_spec h4
    obtain ⟨x5, h5, h⟩ := Option.bind_eq_some_iff.1 h
    have h5 := iOf_spec h5
    obtain ⟨x6, h6, h⟩ := Option.bind_eq_some_iff.1 h
    have h6 := bOf_spec h6
    obtain ⟨x7, h7, h⟩ := Option.bind_eq_some_iff.1 h
    have h7 := bOf_spec h7
    obtain ⟨x8, h8, h⟩ := Option.bind_eq_some_iff.1 h
    have h8 := iOf_spec h8
    obtain ⟨x9, h9, h⟩ := Option.bind_eq_some_iff.1 h
    have h9 := iOf_spec h9
    cases h
    refine ⟨by simp [Bt.enc, denL, Cell.den, h0.1, h1.1, h2.1, h3.1, h4.1, h5.1, h6.1, h7.1, h8.1, h9.1], fun c hc => ?_⟩
    simp only [List.mem_cons, List.not_mem_nil, or_false] at hc
    rcases hc with rfl | rfl | rfl | rfl | rfl | rfl | rfl | rfl | rfl | rfl
    · exact h0.2
    · exact h1.2
    · exact h2.2
    · exact h3.2
    · exact h4.2
    · exact h5.2
    · exact h6.2
    · exact h7.2
    · exact h8.2
    · exact h9.2
  · cases h
def Bt.ak (ty : TypeId) : AK Bt := ⟨10, by decide, ty, Bt.enc, fun _ => rfl, fun a c hc => (by simp only [Bt.enc, List.mem_cons, List.not_mem_nil, or_false] at hc; rcases hc with rfl | rfl | rfl | rfl | rfl | rfl | rfl | rfl | rfl | rfl <;> rfl), Bt.dec, Bt.dec_ok, ⟨0, false, 0, 0, 0, 0, false, false, 0, 0⟩⟩
structure Sp where
  is : Bool
  low : Int
  high : Int
deriving DecidableEq, Inhabited
def Sp.enc (a : Sp) : List Cell := [.bt a.is, .it .i64 a.low, .it .i64 a.high]
def Sp.dec : List Cell → Option Sp
  | [c0, c1, c2] => (bOf c0).bind fun x0 => (iOf c1).bind fun x1 => (iOf c2).bind fun x2 => some ⟨x0, x1, x2⟩
  | _ => none
theorem Sp.dec_ok (cs : List Cell) (a : Sp) (h : Sp.dec cs = some a) : denL Nm.id a.enc = denL Nm.id cs ∧ ∀ c ∈ cs, c.name = none := by
  unfold Sp.dec at h
  split at h
  · rename_i c0 c1 c2
    obtain ⟨x0, h0, h⟩ := Option.bind_eq_some_iff.1 h
    have h0 := bOf_spec h0
    obtain ⟨x1, h1, h⟩ := Option.bind_eq_some_iff.1 h
    have h1 := iOf_spec h1
    obtain ⟨x2, h2, h⟩ := Option.bind_eq_some_iff.1 h
    have h2 := iOf_spec h2
    cases h
    refine ⟨by simp [Sp.enc, denL, Cell.den, h0.1, h1.1, h2.1], fun c hc => ?_⟩
    simp only [List.mem_cons, List.not_mem_nil, or_false] at hc
    rcases hc with rfl | rfl | rfl
    · exact h0.2
    · exact h1.2
    · exact h2.2
  · cases h
def Sp.ak (ty : TypeId) : AK Sp := ⟨3, by decide, ty, Sp.enc, fun _ => rfl, fun a c hc => (by simp only [Sp.enc, List.mem_cons, List.not_mem_nil, or_false] at hc; rcases hc with rfl | rfl | rfl <;> rfl), Sp.dec, Sp.dec_ok, ⟨false, 0, 0⟩⟩
structure Pr where
  key : Int
  val : Int
deriving DecidableEq, Inhabited
def Pr.enc (a : Pr) : List Cell := [.it .i64 a.key, .it .i64 a.val]
def Pr.dec : List Cell → Option Pr
  | [c0, c1] => (iOf c0).bind fun x0 => (iOf c1).bind fun x1 => some ⟨x0, x1⟩
  | _ => none
theorem Pr.dec_ok (cs : List Cell) (a : Pr) (h : Pr.dec cs = some a) : denL Nm.id a.enc = denL Nm.id cs ∧ ∀ c ∈ cs, c.name = none := by
  unfold Pr.dec at h
  split at h
  · rename_i c0 c1
    obtain ⟨x0, h0, h⟩ := Option.bind_eq_some_iff.1 h
    have h0 := iOf_spec h0
    obtain ⟨x1, h1, h⟩ := Option.bind_eq_some_iff.1 h
    have h1 := iOf_spec h1
    cases h
    refine ⟨by simp [Pr.enc, denL, Cell.den, h0.1, h1.1], fun c hc => ?_⟩
    simp only [List.mem_cons, List.not_mem_nil, or_false] at hc
    rcases hc with rfl | rfl
    · exact h0.2
    · exact h1.2
  · cases h
def Pr.ak (ty : TypeId) : AK Pr := ⟨2, by decide, ty, Pr.enc, fun _ => rfl, fun a c hc => (by simp only [Pr.enc, List.mem_cons, List.not_mem_nil, or_false] at hc; rcases hc with rfl | rfl <;> rfl), Pr.dec, Pr.dec_ok, ⟨0, 0⟩⟩
/-- a slot of the heap -/
structure Sl where
  gen : Int
  used : Bool
  cells : List W
deriving DecidableEq, Inhabited
def W.zero : W := ⟨0, 0, 0, 0, false⟩
def Sl.at (a : Sl) (i : Nat) : W := a.cells.getD i W.zero
def Sl.enc (a : Sl) : List Cell := .it .i64 a.gen :: .bt a.used :: ((a.at 0).enc ++ ((a.at 1).enc ++ ((a.at 2).enc ++ ((a.at 3).enc ++ ((a.at 4).enc ++ ((a.at 5).enc ++ ((a.at 6).enc ++ ((a.at 7).enc ++ ((a.at 8).enc ++ ((a.at 9).enc ++ []))))))))))
def Sl.dec : List Cell → Option Sl
  | c0 :: c1 :: r => (iOf c0).bind fun g => (bOf c1).bind fun u => ((W.ak 0).decs 10 r).bind fun l => some ⟨g, u, l⟩
  | _ => none
theorem decs_len {α : Type} (K : AK α) : ∀ {n : Nat} {cs : List Cell} {l : List α}, K.decs n cs = some l → l.length = n
  | 0, [], l, h => by simp only [AK.decs, Option.some.injEq] at h; subst h; rfl
  | 0, _ :: _, l, h => by simp [AK.decs] at h
  | n + 1, cs, l, h => by
    simp only [AK.decs] at h
    split at h
    · cases h
    · split at h
      · rename_i hl
        cases h
        simp [decs_len K hl]
      · cases h
theorem Sl.enc_eq (g : Int) (u : Bool) (l : List W) (hl : l.length = 10) : denL Nm.id (Sl.enc ⟨g, u, l⟩) = .int .i64 g :: .bool u :: (W.ak 0).vals l := by
  match l, hl with
  | [w0, w1, w2, w3, w4, w5, w6, w7, w8, w9], _ => rfl
theorem Sl.dec_ok (cs : List Cell) (a : Sl) (h : Sl.dec cs = some a) : denL Nm.id a.enc = denL Nm.id cs ∧ ∀ c ∈ cs, c.name = none := by
  unfold Sl.dec at h
  split at h
  · rename_i c0 c1 r
    obtain ⟨x0, h0, h⟩ := Option.bind_eq_some_iff.1 h
    have h0 := iOf_spec h0
    obtain ⟨x1, h1, h⟩ := Option.bind_eq_some_iff.1 h
    have h1 := bOf_spec h1
    obtain ⟨l, h2, h⟩ := Option.bind_eq_some_iff.1 h
    cases h
    obtain ⟨v1, v2⟩ := (W.ak 0).decs_ok h2
    refine ⟨?_, fun c hc => ?_⟩
    · rw [Sl.enc_eq _ _ _ (decs_len _ h2), v1]
      simp [denL, h0.1, h1.1]
    · simp only [List.mem_cons] at hc
      rcases hc with rfl | rfl | hc
      · exact h0.2
      · exact h1.2
      · exact v2 c hc
  · cases h
theorem W.enc_nm (w : W) : ∀ c ∈ w.enc, c.name = none := (W.ak 0).nm w
theorem Sl.enc_nm (a : Sl) : ∀ c ∈ a.enc, c.name = none := by
  intro c hc
  simp only [Sl.enc, List.mem_cons, List.mem_append, List.not_mem_nil, or_false] at hc
  rcases hc with rfl | rfl | h | h | h | h | h | h | h | h | h | h
  · rfl
  · rfl
  all_goals exact W.enc_nm _ c h
def Sl.ak (ty : TypeId) : AK Sl := ⟨52, by decide, ty, Sl.enc, fun _ => rfl, Sl.enc_nm, Sl.dec, Sl.dec_ok, ⟨0, false, []⟩⟩
end Go.Sx
