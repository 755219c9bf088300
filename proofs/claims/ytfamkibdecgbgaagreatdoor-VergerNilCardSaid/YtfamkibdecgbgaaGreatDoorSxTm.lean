/- The tables of slice types and of methods of this seat, by program (wip/tools/mkmore.py); each row is held against the program by the kernel. -/
import Derived.Test.YtfamkibdecgbgaaGreatDoorSxZ
import Derived.Test.YtfamkibdecgbgaaGreatDoorSxT
namespace Go.Proofs.YtfamkibdecgbgaaGreatDoor
open Go Go.Sx Go.Proofs
set_option maxRecDepth 100000
def si44 : SI := (SI.mk 147 7 56 [Cell.il IntKind.i64 (Int.ofNat 0), Cell.il IntKind.i64 (Int.ofNat 0), Cell.il IntKind.i64 (Int.ofNat 0), Cell.il IntKind.i64 (Int.ofNat 0), Cell.bl false, Cell.il IntKind.i64 (Int.ofNat 0), Cell.il IntKind.i64 (Int.ofNat 0)])
def si87 : SI := (SI.mk 54 5 40 [Cell.il IntKind.i64 (Int.ofNat 0), Cell.il IntKind.i64 (Int.ofNat 0), Cell.il IntKind.i64 (Int.ofNat 0), Cell.il IntKind.i64 (Int.ofNat 0), Cell.bl false])
def si103 : SI := (SI.mk 28 1 16 [Cell.inil])
def si105 : SI := (SI.mk 115 52 416 [Cell.il IntKind.i64 (Int.ofNat 0), Cell.bl false, Cell.il IntKind.i64 (Int.ofNat 0), Cell.il IntKind.i64 (Int.ofNat 0), Cell.il IntKind.i64 (Int.ofNat 0), Cell.il IntKind.i64 (Int.ofNat 0), Cell.bl false, Cell.il IntKind.i64 (Int.ofNat 0), Cell.il IntKind.i64 (Int.ofNat 0), Cell.il IntKind.i64 (Int.ofNat 0), Cell.il IntKind.i64 (Int.ofNat 0), Cell.bl false, Cell.il IntKind.i64 (Int.ofNat 0), Cell.il IntKind.i64 (Int.ofNat 0), Cell.il IntKind.i64 (Int.ofNat 0), Cell.il IntKind.i64 (Int.ofNat 0), Cell.bl false, Cell.il IntKind.i64 (Int.ofNat 0), Cell.il IntKind.i64 (Int.ofNat 0), Cell.il IntKind.i64 (Int.ofNat 0), Cell.il IntKind.i64 (Int.ofNat 0), Cell.bl false, Cell.il IntKind.i64 (Int.ofNat 0), Cell.il IntKind.i64 (Int.ofNat 0), Cell.il IntKind.i64 (Int.ofNat 0), Cell.il IntKind.i64 (Int.ofNat 0), Cell.bl false, Cell.il IntKind.i64 (Int.ofNat 0), Cell.il IntKind.i64 (Int.ofNat 0), Cell.il IntKind.i64 (Int.ofNat 0), Cell.il IntKind.i64 (Int.ofNat 0), Cell.bl false, Cell.il IntKind.i64 (Int.ofNat 0), Cell.il IntKind.i64 (Int.ofNat 0), Cell.il IntKind.i64 (Int.ofNat 0), Cell.il IntKind.i64 (Int.ofNat 0), Cell.bl false, Cell.il IntKind.i64 (Int.ofNat 0), Cell.il IntKind.i64 (Int.ofNat 0), Cell.il IntKind.i64 (Int.ofNat 0), Cell.il IntKind.i64 (Int.ofNat 0), Cell.bl false, Cell.il IntKind.i64 (Int.ofNat 0), Cell.il IntKind.i64 (Int.ofNat 0), Cell.il IntKind.i64 (Int.ofNat 0), Cell.il IntKind.i64 (Int.ofNat 0), Cell.bl false, Cell.il IntKind.i64 (Int.ofNat 0), Cell.il IntKind.i64 (Int.ofNat 0), Cell.il IntKind.i64 (Int.ofNat 0), Cell.il IntKind.i64 (Int.ofNat 0), Cell.bl false])
def si106 : SI := (SI.mk 3 1 8 [Cell.il IntKind.i64 (Int.ofNat 0)])
def si164 : SI := (SI.mk 92 3 24 [Cell.bl false, Cell.il IntKind.i64 (Int.ofNat 0), Cell.il IntKind.i64 (Int.ofNat 0)])
def si277 : SI := (SI.mk 280 4 16 [Cell.il IntKind.i32 (Int.ofNat 0), Cell.il IntKind.i32 (Int.ofNat 0), Cell.il IntKind.i32 (Int.ofNat 0), Cell.il IntKind.i32 (Int.ofNat 0)])
def slT : Tr SI := (.nd none (.nd none (.nd none (.nd none .lf (.nd none (.nd none .lf (.nd (some si103) .lf .lf)) (.nd none (.nd (some si87) .lf .lf) .lf))) .lf) (.nd none (.nd none .lf (.nd none (.nd none .lf (.nd (some si105) .lf .lf)) .lf)) (.nd none (.nd none .lf (.nd none (.nd none (.nd none (.nd (some si277) .lf .lf) .lf) .lf) .lf)) .lf))) (.nd none (.nd none .lf (.nd none (.nd none (.nd none .lf (.nd none (.nd (some si164) .lf .lf) .lf)) .lf) (.nd none (.nd (some si44) .lf .lf) .lf))) (.nd none (.nd none .lf (.nd none (.nd none .lf (.nd (some si106) .lf .lf)) .lf)) .lf)))
theorem sk44 : mkSI Tryz.prog 44 = some si44 := by kernel_rfl
theorem sk87 : mkSI Tryz.prog 87 = some si87 := by kernel_rfl
theorem sk103 : mkSI Tryz.prog 103 = some si103 := by kernel_rfl
theorem sk105 : mkSI Tryz.prog 105 = some si105 := by kernel_rfl
theorem sk106 : mkSI Tryz.prog 106 = some si106 := by kernel_rfl
theorem sk164 : mkSI Tryz.prog 164 = some si164 := by kernel_rfl
theorem sk277 : mkSI Tryz.prog 277 = some si277 := by kernel_rfl
theorem slAll : Tr.All (fun t i => mkSI Tryz.prog t = some i) slT (fun n => n) := ⟨(fun a h => by cases h), ⟨(fun a h => by cases h), ⟨(fun a h => by cases h), ⟨(fun a h => by cases h), trivial, ⟨(fun a h => by cases h), ⟨(fun a h => by cases h), trivial, ⟨(fun a h => by cases h; exact sk103), trivial, trivial⟩⟩, ⟨(fun a h => by cases h), ⟨(fun a h => by cases h; exact sk87), trivial, trivial⟩, trivial⟩⟩⟩, trivial⟩, ⟨(fun a h => by cases h), ⟨(fun a h => by cases h), trivial, ⟨(fun a h => by cases h), ⟨(fun a h => by cases h), trivial, ⟨(fun a h => by cases h; exact sk105), trivial, trivial⟩⟩, trivial⟩⟩, ⟨(fun a h => by cases h), ⟨(fun a h => by cases h), trivial, ⟨(fun a h => by cases h), ⟨(fun a h => by cases h), ⟨(fun a h => by cases h), ⟨(fun a h => by cases h; exact sk277), trivial, trivial⟩, trivial⟩, trivial⟩, trivial⟩⟩, trivial⟩⟩⟩, ⟨(fun a h => by cases h), ⟨(fun a h => by cases h), trivial, ⟨(fun a h => by cases h), ⟨(fun a h => by cases h), ⟨(fun a h => by cases h), trivial, ⟨(fun a h => by cases h), ⟨(fun a h => by cases h; exact sk164), trivial, trivial⟩, trivial⟩⟩, trivial⟩, ⟨(fun a h => by cases h), ⟨(fun a h => by cases h; exact sk44), trivial, trivial⟩, trivial⟩⟩⟩, ⟨(fun a h => by cases h), ⟨(fun a h => by cases h), trivial, ⟨(fun a h => by cases h), ⟨(fun a h => by cases h), trivial, ⟨(fun a h => by cases h; exact sk106), trivial, trivial⟩⟩, trivial⟩⟩, trivial⟩⟩⟩
theorem slOk : SlOk Tryz.prog slT := fun t i h => Tr.all_get slAll t i h
def mtF (t : TypeId) (m : String) : Option FuncId := match decide (m = "Next") with
  | true => match Nat.beq t 129 with | true => some 129 | false => match Nat.beq t 132 with | true => some 139 | false => match Nat.beq t 135 with | true => some 148 | false => match Nat.beq t 138 with | true => some 170 | false => match Nat.beq t 141 with | true => some 189 | false => none
  | false => none
theorem mk129 (v : Value) (w : World) : (Go.method (Tryz.prog.types.size + Made.depth) 129 v "Next").run Tryz.prog w = .ok (129, v) w := by kernel_rfl
theorem mk139 (v : Value) (w : World) : (Go.method (Tryz.prog.types.size + Made.depth) 132 v "Next").run Tryz.prog w = .ok (139, v) w := by kernel_rfl
theorem mk148 (v : Value) (w : World) : (Go.method (Tryz.prog.types.size + Made.depth) 135 v "Next").run Tryz.prog w = .ok (148, v) w := by kernel_rfl
theorem mk170 (v : Value) (w : World) : (Go.method (Tryz.prog.types.size + Made.depth) 138 v "Next").run Tryz.prog w = .ok (170, v) w := by kernel_rfl
theorem mk189 (v : Value) (w : World) : (Go.method (Tryz.prog.types.size + Made.depth) 141 v "Next").run Tryz.prog w = .ok (189, v) w := by kernel_rfl
theorem mtOk : ∀ t m g, mtF t m = some g → ∀ (v : Value) (w : World), (Go.method (Tryz.prog.types.size + Made.depth) t v m).run Tryz.prog w = .ok (g, v) w := by
  intro t m g h v w
  unfold mtF at h
  split at h
  · rename_i hm
    have hm := of_decide_eq_true hm
    subst hm
    split at h
    · rename_i e
      have e := (beq_iff _ _).1 e
      subst e
      cases h
      exact mk129 v w
    split at h
    · rename_i e
      have e := (beq_iff _ _).1 e
      subst e
      cases h
      exact mk139 v w
    split at h
    · rename_i e
      have e := (beq_iff _ _).1 e
      subst e
      cases h
      exact mk148 v w
    split at h
    · rename_i e
      have e := (beq_iff _ _).1 e
      subst e
      cases h
      exact mk170 v w
    split at h
    · rename_i e
      have e := (beq_iff _ _).1 e
      subst e
      cases h
      exact mk189 v w
    cases h
  · cases h
theorem tblOk_mt {AV : Type} {N N' : Env AV} (h : TblOk Tryz.prog N) (ht : N'.tt = N.tt) (hf : N'.ft = N.ft) (hs : N'.sl = slT) (hm : N'.mt = mtF) : TblOk Tryz.prog N' :=
  ⟨fun t i e => h.ty t i (by rw [← ht]; exact e), fun f g e => h.fn f g (by rw [← hf]; exact e), h.mix, fun t si e => slOk t si (by rw [← hs]; exact e), fun t m g e => mtOk t m g (by rw [← hm]; exact e)⟩
end Go.Proofs.YtfamkibdecgbgaaGreatDoor
