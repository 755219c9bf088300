/- LitanyExact: the law's runs and its contract. -/
import Derived.Test.YtmaolegmdhnpeaaDoorLf
import Derived.Test.YtmaolegmdhnpeaaDoorSxV
namespace Go.Proofs.YtmaolegmdhnpeaaDoor
open Go Go.Sx Go.Proofs
set_option maxRecDepth 100000
def G0 (ad : Addr) : Chunk LAV := .cells [.ifc 94 (.op 0 ad)] 44
def opC (k key val tall : Int) : O := ⟨k, key, val, tall⟩
def law1 (kc : Cell) (key val tall a b : Int) (l : List Rp) : List SV := [.v (.agg [kc, I key, I val, I tall]), .v (.agg [I a, I b]), .v (.c (.vs 1 0 l.length 6 false))]
def law0 (kc : Cell) (key val tall a b : Int) (sa : Option Addr) (cap : Nat) : List SV := [.v (.agg [kc, I key, I val, I tall]), .v (.agg [I a, I b]), .v (.c (.sx sa cap))]
def H1 (ad : Addr) (l : List Rp) (ob : Option Obj) : Hp LAV := [some (G0 ad), some (.abs (.reps l ob))]
def needF (k key val tall a b : Int) (l : List Rp) : Bool :=
  decide (l.length = l.length) && (relB (JobM.new ⟨0, 0, a⟩ b ⟨k, key, val, tall⟩) (RJobM.new ⟨0, 0, a⟩ b ⟨k, key, val, tall⟩) &&
    (decide (l.length = l.length) && (relB (JobM.new ⟨0, 0, 0⟩ key ⟨k, key, val, tall⟩) (RJobM.new ⟨0, 0, 0⟩ key ⟨k, key, val, tall⟩) && true)))
theorem needF_true (k key val tall a b : Int) (l : List Rp) (hk : k = 6 ∨ k = 7 ∨ k = 8) : needF k key val tall a b l = true := by
  rcases hk with rfl | rfl | rfl <;> simp [needF, relB, JobM.new, RJobM.new]
theorem ev6 (ad : Addr) (key val tall a b : Int) (l : List Rp) (ob : Option Obj) : (lv N3 (tab1 6) 10 (.fn 3) (law1 (.il .i64 6) key val tall a b l) (H1 ad l ob)).every = needF 6 key val tall a b l := by kernel_rfl
theorem ev7 (ad : Addr) (key val tall a b : Int) (l : List Rp) (ob : Option Obj) : (lv N3 (tab1 7) 10 (.fn 3) (law1 (.il .i64 7) key val tall a b l) (H1 ad l ob)).every = needF 7 key val tall a b l := by kernel_rfl
theorem ev8 (ad : Addr) (key val tall a b : Int) (l : List Rp) (ob : Option Obj) : (lv N3 (tab1 8) 10 (.fn 3) (law1 (.il .i64 8) key val tall a b l) (H1 ad l ob)).every = needF 8 key val tall a b l := by kernel_rfl
theorem hp6 (ad : Addr) (key val tall a b : Int) (l : List Rp) (ob : Option Obj) : ((lv N3 (tab1 6) 10 (.fn 3) (law1 (.il .i64 6) key val tall a b l) (H1 ad l ob)).map fun r => (hget r.2 0, hget r.2 1)).leaves = List.replicate 3 (some (G0 ad), some (.abs (.reps l ob))) := by kernel_rfl
theorem hp7 (ad : Addr) (key val tall a b : Int) (l : List Rp) (ob : Option Obj) : ((lv N3 (tab1 7) 10 (.fn 3) (law1 (.il .i64 7) key val tall a b l) (H1 ad l ob)).map fun r => (hget r.2 0, hget r.2 1)).leaves = List.replicate 3 (some (G0 ad), some (.abs (.reps l ob))) := by kernel_rfl
theorem hp8 (ad : Addr) (key val tall a b : Int) (l : List Rp) (ob : Option Obj) : ((lv N3 (tab1 8) 10 (.fn 3) (law1 (.il .i64 8) key val tall a b l) (H1 ad l ob)).map fun r => (hget r.2 0, hget r.2 1)).leaves = List.replicate 3 (some (G0 ad), some (.abs (.reps l ob))) := by kernel_rfl
theorem ez6 (ad : Addr) (key val tall a b : Int) (sa : Option Addr) (cap : Nat) : (lv N2 (tab1 6) 10 (.fn 3) (law0 (.il .i64 6) key val tall a b sa cap) [some (G0 ad)]).every = true := by kernel_rfl
theorem ez7 (ad : Addr) (key val tall a b : Int) (sa : Option Addr) (cap : Nat) : (lv N2 (tab1 7) 10 (.fn 3) (law0 (.il .i64 7) key val tall a b sa cap) [some (G0 ad)]).every = true := by kernel_rfl
theorem ez8 (ad : Addr) (key val tall a b : Int) (sa : Option Addr) (cap : Nat) : (lv N2 (tab1 8) 10 (.fn 3) (law0 (.il .i64 8) key val tall a b sa cap) [some (G0 ad)]).every = true := by kernel_rfl
theorem hz6 (ad : Addr) (key val tall a b : Int) (sa : Option Addr) (cap : Nat) : ((lv N2 (tab1 6) 10 (.fn 3) (law0 (.il .i64 6) key val tall a b sa cap) [some (G0 ad)]).map fun r => hget r.2 0).leaves = List.replicate 3 (some (G0 ad)) := by kernel_rfl
theorem hz7 (ad : Addr) (key val tall a b : Int) (sa : Option Addr) (cap : Nat) : ((lv N2 (tab1 7) 10 (.fn 3) (law0 (.il .i64 7) key val tall a b sa cap) [some (G0 ad)]).map fun r => hget r.2 0).leaves = List.replicate 3 (some (G0 ad)) := by kernel_rfl
theorem hz8 (ad : Addr) (key val tall a b : Int) (sa : Option Addr) (cap : Nat) : ((lv N2 (tab1 8) 10 (.fn 3) (law0 (.il .i64 8) key val tall a b sa cap) [some (G0 ad)]).map fun r => hget r.2 0).leaves = List.replicate 3 (some (G0 ad)) := by kernel_rfl
/-- the first decision, where its first way is a leaf -/
def T.first {α : Type} : T α → Option (Bool × α)
  | .ite b (.leaf a) _ => some (b, a)
  | _ => none
theorem T.first_val {α : Type} {t : T α} {a : α} (h : T.first t = some (true, a)) : t.val = some a := by
  unfold T.first at h
  split at h
  · cases h; rfl
  · cases h
/-- an operation of another kind is not good -/
def otherB (kk key val tall : Int) : Bool :=
  !match (match decide (kk < 6) == false with
      | true => match decide (kk > 8) == false with
        | true => match decide (key < 0) == false with
          | true => decide (key > 255)
          | false => true
        | false => true
      | false => true) with
    | true => false
    | false => match (val == 0) == true with
      | true => tall == 0
      | false => false
theorem otherB_true (kk key val tall : Int) (h : ∀ c ∈ [(6 : Int), 7, 8], (kk == c) = false) : otherB kk key val tall = true := by
  have h6 := h 6 (by simp)
  have h7 := h 7 (by simp)
  have h8 := h 8 (by simp)
  simp only [beq_eq_false_iff_ne, ne_eq] at h6 h7 h8
  unfold otherB
  by_cases a : kk < 6
  · simp [a]
  · have b : kk > 8 := by omega
    simp [a, b]
theorem evO (ad : Addr) (kk key val tall a b : Int) (h : ∀ c ∈ [(6 : Int), 7, 8], (kk == c) = false) (l : List Rp) (ob : Option Obj) :
    T.first ((lv N3 (tab1 6) 10 (.fn 3) (law1 (.iv .i64 kk [6, 7, 8] h) key val tall a b l) (H1 ad l ob)).map fun r => (r.1, hget r.2 0, hget r.2 1)) = some (otherB kk key val tall, (.v (.c (.bl true)), some (G0 ad), some (.abs (.reps l ob)))) := by kernel_rfl
theorem ezO (ad : Addr) (kk key val tall a b : Int) (h : ∀ c ∈ [(6 : Int), 7, 8], (kk == c) = false) (sa : Option Addr) (cap : Nat) :
    T.first ((lv N2 (tab1 6) 10 (.fn 3) (law0 (.iv .i64 kk [6, 7, 8] h) key val tall a b sa cap) [some (G0 ad)]).map fun r => (r.1, hget r.2 0)) = some (otherB kk key val tall, (.v (.c (.bl true)), some (G0 ad))) := by kernel_rfl
end Go.Proofs.YtmaolegmdhnpeaaDoor
