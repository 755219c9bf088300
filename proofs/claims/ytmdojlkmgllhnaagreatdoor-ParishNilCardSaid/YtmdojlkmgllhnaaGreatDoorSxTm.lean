/- The tables of slice types and of methods of this seat, by program (wip/tools/mkmore.py); each row is held against the program by the kernel. -/
import Derived.Test.YtmdojlkmgllhnaaGreatDoorSxZ
import Derived.Test.YtmdojlkmgllhnaaGreatDoorSxT
namespace Go.Proofs.YtmdojlkmgllhnaaGreatDoor
open Go Go.Sx Go.Proofs
set_option maxRecDepth 100000
def si34 : SI := (SI.mk 91 5 40 [Cell.il IntKind.i64 (Int.ofNat 0), Cell.il IntKind.i64 (Int.ofNat 0), Cell.il IntKind.i64 (Int.ofNat 0), Cell.il IntKind.i64 (Int.ofNat 0), Cell.bl false])
def si43 : SI := (SI.mk 29 10 72 [Cell.il IntKind.i64 (Int.ofNat 0), Cell.bl false, Cell.il IntKind.i64 (Int.ofNat 0), Cell.il IntKind.i64 (Int.ofNat 0), Cell.il IntKind.i64 (Int.ofNat 0), Cell.il IntKind.i64 (Int.ofNat 0), Cell.bl false, Cell.bl false, Cell.il IntKind.i64 (Int.ofNat 0), Cell.il IntKind.i64 (Int.ofNat 0)])
def si45 : SI := (SI.mk 217 7 56 [Cell.il IntKind.i64 (Int.ofNat 0), Cell.il IntKind.i64 (Int.ofNat 0), Cell.il IntKind.i64 (Int.ofNat 0), Cell.il IntKind.i64 (Int.ofNat 0), Cell.bl false, Cell.il IntKind.i64 (Int.ofNat 0), Cell.il IntKind.i64 (Int.ofNat 0)])
def si47 : SI := (SI.mk 3 1 8 [Cell.il IntKind.i64 (Int.ofNat 0)])
def si49 : SI := (SI.mk 188 2 16 [Cell.il IntKind.i64 (Int.ofNat 0), Cell.il IntKind.i64 (Int.ofNat 0)])
def si60 : SI := (SI.mk 23 4 32 [Cell.il IntKind.i64 (Int.ofNat 0), Cell.il IntKind.i64 (Int.ofNat 0), Cell.il IntKind.i64 (Int.ofNat 0), Cell.il IntKind.i64 (Int.ofNat 0)])
def si63 : SI := (SI.mk 62 4 48 [Cell.pnil, Cell.snil, Cell.il IntKind.i64 (Int.ofNat 0), Cell.il IntKind.i64 (Int.ofNat 0)])
def si131 : SI := (SI.mk 31 1 16 [Cell.inil])
def si165 : SI := (SI.mk 173 52 416 [Cell.il IntKind.i64 (Int.ofNat 0), Cell.bl false, Cell.il IntKind.i64 (Int.ofNat 0), Cell.il IntKind.i64 (Int.ofNat 0), Cell.il IntKind.i64 (Int.ofNat 0), Cell.il IntKind.i64 (Int.ofNat 0), Cell.bl false, Cell.il IntKind.i64 (Int.ofNat 0), Cell.il IntKind.i64 (Int.ofNat 0), Cell.il IntKind.i64 (Int.ofNat 0), Cell.il IntKind.i64 (Int.ofNat 0), Cell.bl false, Cell.il IntKind.i64 (Int.ofNat 0), Cell.il IntKind.i64 (Int.ofNat 0), Cell.il IntKind.i64 (Int.ofNat 0), Cell.il IntKind.i64 (Int.ofNat 0), Cell.bl false, Cell.il IntKind.i64 (Int.ofNat 0), Cell.il IntKind.i64 (Int.ofNat 0), Cell.il IntKind.i64 (Int.ofNat 0), Cell.il IntKind.i64 (Int.ofNat 0), Cell.bl false, Cell.il IntKind.i64 (Int.ofNat 0), Cell.il IntKind.i64 (Int.ofNat 0), Cell.il IntKind.i64 (Int.ofNat 0), Cell.il IntKind.i64 (Int.ofNat 0), Cell.bl false, Cell.il IntKind.i64 (Int.ofNat 0), Cell.il IntKind.i64 (Int.ofNat 0), Cell.il IntKind.i64 (Int.ofNat 0), Cell.il IntKind.i64 (Int.ofNat 0), Cell.bl false, Cell.il IntKind.i64 (Int.ofNat 0), Cell.il IntKind.i64 (Int.ofNat 0), Cell.il IntKind.i64 (Int.ofNat 0), Cell.il IntKind.i64 (Int.ofNat 0), Cell.bl false, Cell.il IntKind.i64 (Int.ofNat 0), Cell.il IntKind.i64 (Int.ofNat 0), Cell.il IntKind.i64 (Int.ofNat 0), Cell.il IntKind.i64 (Int.ofNat 0), Cell.bl false, Cell.il IntKind.i64 (Int.ofNat 0), Cell.il IntKind.i64 (Int.ofNat 0), Cell.il IntKind.i64 (Int.ofNat 0), Cell.il IntKind.i64 (Int.ofNat 0), Cell.bl false, Cell.il IntKind.i64 (Int.ofNat 0), Cell.il IntKind.i64 (Int.ofNat 0), Cell.il IntKind.i64 (Int.ofNat 0), Cell.il IntKind.i64 (Int.ofNat 0), Cell.bl false])
def si194 : SI := (SI.mk 4 1 1 [Cell.bl false])
def si231 : SI := (SI.mk 161 3 24 [Cell.bl false, Cell.il IntKind.i64 (Int.ofNat 0), Cell.il IntKind.i64 (Int.ofNat 0)])
def si325 : SI := (SI.mk 328 4 16 [Cell.il IntKind.i32 (Int.ofNat 0), Cell.il IntKind.i32 (Int.ofNat 0), Cell.il IntKind.i32 (Int.ofNat 0), Cell.il IntKind.i32 (Int.ofNat 0)])
def slT : Tr SI := (.nd none (.nd none (.nd none (.nd none (.nd none (.nd none (.nd (some si63) .lf .lf) .lf) (.nd (some si47) .lf .lf)) (.nd none (.nd none .lf (.nd none .lf (.nd (some si231) .lf .lf))) .lf)) (.nd none (.nd none (.nd none (.nd none (.nd (some si131) .lf .lf) .lf) .lf) .lf) (.nd none (.nd (some si43) .lf .lf) .lf))) (.nd none (.nd none (.nd none .lf (.nd (some si49) .lf .lf)) .lf) (.nd none (.nd none (.nd none (.nd none .lf (.nd none (.nd (some si325) .lf .lf) .lf)) (.nd none (.nd (some si165) .lf .lf) .lf)) .lf) (.nd none (.nd (some si45) .lf .lf) .lf)))) (.nd none (.nd none .lf (.nd none .lf (.nd none .lf (.nd (some si60) .lf .lf)))) (.nd none (.nd none (.nd none (.nd (some si34) (.nd none .lf (.nd (some si194) .lf .lf)) .lf) .lf) .lf) .lf)))
theorem sk34 : mkSI Tryz.prog 34 = some si34 := by kernel_rfl
theorem sk43 : mkSI Tryz.prog 43 = some si43 := by kernel_rfl
theorem sk45 : mkSI Tryz.prog 45 = some si45 := by kernel_rfl
theorem sk47 : mkSI Tryz.prog 47 = some si47 := by kernel_rfl
theorem sk49 : mkSI Tryz.prog 49 = some si49 := by kernel_rfl
theorem sk60 : mkSI Tryz.prog 60 = some si60 := by kernel_rfl
theorem sk63 : mkSI Tryz.prog 63 = some si63 := by kernel_rfl
theorem sk131 : mkSI Tryz.prog 131 = some si131 := by kernel_rfl
theorem sk165 : mkSI Tryz.prog 165 = some si165 := by kernel_rfl
theorem sk194 : mkSI Tryz.prog 194 = some si194 := by kernel_rfl
theorem sk231 : mkSI Tryz.prog 231 = some si231 := by kernel_rfl
theorem sk325 : mkSI Tryz.prog 325 = some si325 := by kernel_rfl
theorem slAll : Tr.All (fun t i => mkSI Tryz.prog t = some i) slT (fun n => n) := ⟨(fun a h => by cases h), ⟨(fun a h => by cases h), ⟨(fun a h => by cases h), ⟨(fun a h => by cases h), ⟨(fun a h => by cases h), ⟨(fun a h => by cases h), ⟨(fun a h => by cases h; exact sk63), trivial, trivial⟩, trivial⟩, ⟨(fun a h => by cases h; exact sk47), trivial, trivial⟩⟩, ⟨(fun a h => by cases h), ⟨(fun a h => by cases h), trivial, ⟨(fun a h => by cases h), trivial, ⟨(fun a h => by cases h; exact sk231), trivial, trivial⟩⟩⟩, trivial⟩⟩, ⟨(fun a h => by cases h), ⟨(fun a h => by cases h), ⟨(fun a h => by cases h), ⟨(fun a h => by cases h), ⟨(fun a h => by cases h; exact sk131), trivial, trivial⟩, trivial⟩, trivial⟩, trivial⟩, ⟨(fun a h => by cases h), ⟨(fun a h => by cases h; exact sk43), trivial, trivial⟩, trivial⟩⟩⟩, ⟨(fun a h => by cases h), ⟨(fun a h => by cases h), ⟨(fun a h => by cases h), trivial, ⟨(fun a h => by cases h; exact sk49), trivial, trivial⟩⟩, trivial⟩, ⟨(fun a h => by cases h), ⟨(fun a h => by cases h), ⟨(fun a h => by cases h), ⟨(fun a h => by cases h), trivial, ⟨(fun a h => by cases h), ⟨(fun a h => by cases h; exact sk325), trivial, trivial⟩, trivial⟩⟩, ⟨(fun a h => by cases h), ⟨(fun a h => by cases h; exact sk165), trivial, trivial⟩, trivial⟩⟩, trivial⟩, ⟨(fun a h => by cases h), ⟨(fun a h => by cases h; exact sk45), trivial, trivial⟩, trivial⟩⟩⟩⟩, ⟨(fun a h => by cases h), ⟨(fun a h => by cases h), trivial, ⟨(fun a h => by cases h), trivial, ⟨(fun a h => by cases h), trivial, ⟨(fun a h => by cases h; exact sk60), trivial, trivial⟩⟩⟩⟩, ⟨(fun a h => by cases h), ⟨(fun a h => by cases h), ⟨(fun a h => by cases h), ⟨(fun a h => by cases h; exact sk34), ⟨(fun a h => by cases h), trivial, ⟨(fun a h => by cases h; exact sk194), trivial, trivial⟩⟩, trivial⟩, trivial⟩, trivial⟩, trivial⟩⟩⟩
theorem slOk : SlOk Tryz.prog slT := fun t i h => Tr.all_get slAll t i h
def mtF (t : TypeId) (m : String) : Option FuncId := match decide (m = "Next") with
  | true => match Nat.beq t 133 with | true => some 164 | false => match Nat.beq t 136 with | true => some 173 | false => match Nat.beq t 139 with | true => some 182 | false => match Nat.beq t 142 with | true => some 204 | false => match Nat.beq t 145 with | true => some 221 | false => none
  | false => none
theorem mk164 (v : Value) (w : World) : (Go.method (Tryz.prog.types.size + Made.depth) 133 v "Next").run Tryz.prog w = .ok (164, v) w := by kernel_rfl
theorem mk173 (v : Value) (w : World) : (Go.method (Tryz.prog.types.size + Made.depth) 136 v "Next").run Tryz.prog w = .ok (173, v) w := by kernel_rfl
theorem mk182 (v : Value) (w : World) : (Go.method (Tryz.prog.types.size + Made.depth) 139 v "Next").run Tryz.prog w = .ok (182, v) w := by kernel_rfl
theorem mk204 (v : Value) (w : World) : (Go.method (Tryz.prog.types.size + Made.depth) 142 v "Next").run Tryz.prog w = .ok (204, v) w := by kernel_rfl
theorem mk221 (v : Value) (w : World) : (Go.method (Tryz.prog.types.size + Made.depth) 145 v "Next").run Tryz.prog w = .ok (221, v) w := by kernel_rfl
theorem mtOk : ∀ t m g, mtF t m = some g → ∀ (v : Value) (w : World), (Go.method (Tryz.prog.types.size + Made.depth) t v m).run Tryz.prog w = .ok (g, v) w := by
  intro t m g h v w
  unfold mtF at h
  split at h
  · rename_i hm
    have hm := of_decide_eq_true hm
    subst hm
    split at h
    · rename_i e
      have e := (beq_iff _ _).1 e
      subst e
      cases h
      exact mk164 v w
    split at h
    · rename_i e
      have e := (beq_iff _ _).1 e
      subst e
      cases h
      exact mk173 v w
    split at h
    · rename_i e
      have e := (beq_iff _ _).1 e
      subst e
      cases h
      exact mk182 v w
    split at h
    · rename_i e
      have e := (beq_iff _ _).1 e
      subst e
      cases h
      exact mk204 v w
    split at h
    · rename_i e
      have e := (beq_iff _ _).1 e
      subst e
      cases h
      exact mk221 v w
    cases h
  · cases h
theorem tblOk_mt {AV : Type} {N N' : Env AV} (h : TblOk Tryz.prog N) (ht : N'.tt = N.tt) (hf : N'.ft = N.ft) (hs : N'.sl = slT) (hm : N'.mt = mtF) : TblOk Tryz.prog N' :=
  ⟨fun t i e => h.ty t i (by rw [← ht]; exact e), fun f g e => h.fn f g (by rw [← hf]; exact e), h.mix, fun t si e => slOk t si (by rw [← hs]; exact e), fun t m g e => mtOk t m g (by rw [← hm]; exact e)⟩
end Go.Proofs.YtmdojlkmgllhnaaGreatDoor
