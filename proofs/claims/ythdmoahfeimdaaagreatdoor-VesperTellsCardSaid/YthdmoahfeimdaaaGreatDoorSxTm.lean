import Derived.Test.YthdmoahfeimdaaaGreatDoorSxZ
import Derived.Test.YthdmoahfeimdaaaGreatDoorSxT
namespace Go.Proofs.YthdmoahfeimdaaaGreatDoor
open Go Go.Sx Go.Proofs
set_option maxRecDepth 100000
def si22 : SI := (SI.mk 38 10 80 [Cell.il IntKind.i64 (Int.ofNat 0), Cell.il IntKind.i64 (Int.ofNat 0), Cell.il IntKind.i64 (Int.ofNat 0), Cell.il IntKind.i64 (Int.ofNat 0), Cell.il IntKind.i64 (Int.ofNat 0), Cell.il IntKind.i64 (Int.ofNat 0), Cell.il IntKind.i64 (Int.ofNat 0), Cell.il IntKind.i64 (Int.ofNat 0), Cell.il IntKind.i64 (Int.ofNat 0), Cell.bl false])
def si23 : SI := (SI.mk 3 1 8 [Cell.il IntKind.i64 (Int.ofNat 0)])
def si24 : SI := (SI.mk 49 2 16 [Cell.il IntKind.i64 (Int.ofNat 0), Cell.il IntKind.i64 (Int.ofNat 0)])
def si51 : SI := (SI.mk 5 1 1 [Cell.il IntKind.u8 (Int.ofNat 0)])
def si58 : SI := (SI.mk 9 1 16 [Cell.st (ByteArray.mk (Array.mk []))])
def si67 : SI := (SI.mk 123 5 40 [Cell.il IntKind.i64 (Int.ofNat 0), Cell.il IntKind.i64 (Int.ofNat 0), Cell.il IntKind.i64 (Int.ofNat 0), Cell.il IntKind.i64 (Int.ofNat 0), Cell.il IntKind.i64 (Int.ofNat 0)])
def si78 : SI := (SI.mk 81 1 8 [Cell.pnil])
def si92 : SI := (SI.mk 208 10 72 [Cell.il IntKind.i64 (Int.ofNat 0), Cell.bl false, Cell.il IntKind.i64 (Int.ofNat 0), Cell.il IntKind.i64 (Int.ofNat 0), Cell.il IntKind.i64 (Int.ofNat 0), Cell.il IntKind.i64 (Int.ofNat 0), Cell.bl false, Cell.bl false, Cell.il IntKind.i64 (Int.ofNat 0), Cell.il IntKind.i64 (Int.ofNat 0)])
def si146 : SI := (SI.mk 236 8 64 [Cell.il IntKind.i64 (Int.ofNat 0), Cell.bl false, Cell.il IntKind.i64 (Int.ofNat 0), Cell.il IntKind.i64 (Int.ofNat 0), Cell.il IntKind.i64 (Int.ofNat 0), Cell.il IntKind.i64 (Int.ofNat 0), Cell.il IntKind.i64 (Int.ofNat 0), Cell.il IntKind.i64 (Int.ofNat 0)])
def si211 : SI := (SI.mk 296 7 56 [Cell.il IntKind.i64 (Int.ofNat 0), Cell.il IntKind.i64 (Int.ofNat 0), Cell.il IntKind.i64 (Int.ofNat 0), Cell.il IntKind.i64 (Int.ofNat 0), Cell.bl false, Cell.il IntKind.i64 (Int.ofNat 0), Cell.il IntKind.i64 (Int.ofNat 0)])
def si213 : SI := (SI.mk 224 4 48 [Cell.pnil, Cell.snil, Cell.il IntKind.i64 (Int.ofNat 0), Cell.il IntKind.i64 (Int.ofNat 0)])
def si216 : SI := (SI.mk 158 5 40 [Cell.il IntKind.i64 (Int.ofNat 0), Cell.il IntKind.i64 (Int.ofNat 0), Cell.il IntKind.i64 (Int.ofNat 0), Cell.il IntKind.i64 (Int.ofNat 0), Cell.bl false])
def si217 : SI := (SI.mk 299 52 416 [Cell.il IntKind.i64 (Int.ofNat 0), Cell.bl false, Cell.il IntKind.i64 (Int.ofNat 0), Cell.il IntKind.i64 (Int.ofNat 0), Cell.il IntKind.i64 (Int.ofNat 0), Cell.il IntKind.i64 (Int.ofNat 0), Cell.bl false, Cell.il IntKind.i64 (Int.ofNat 0), Cell.il IntKind.i64 (Int.ofNat 0), Cell.il IntKind.i64 (Int.ofNat 0), Cell.il IntKind.i64 (Int.ofNat 0), Cell.bl false, Cell.il IntKind.i64 (Int.ofNat 0), Cell.il IntKind.i64 (Int.ofNat 0), Cell.il IntKind.i64 (Int.ofNat 0), Cell.il IntKind.i64 (Int.ofNat 0), Cell.bl false, Cell.il IntKind.i64 (Int.ofNat 0), Cell.il IntKind.i64 (Int.ofNat 0), Cell.il IntKind.i64 (Int.ofNat 0), Cell.il IntKind.i64 (Int.ofNat 0), Cell.bl false, Cell.il IntKind.i64 (Int.ofNat 0), Cell.il IntKind.i64 (Int.ofNat 0), Cell.il IntKind.i64 (Int.ofNat 0), Cell.il IntKind.i64 (Int.ofNat 0), Cell.bl false, Cell.il IntKind.i64 (Int.ofNat 0), Cell.il IntKind.i64 (Int.ofNat 0), Cell.il IntKind.i64 (Int.ofNat 0), Cell.il IntKind.i64 (Int.ofNat 0), Cell.bl false, Cell.il IntKind.i64 (Int.ofNat 0), Cell.il IntKind.i64 (Int.ofNat 0), Cell.il IntKind.i64 (Int.ofNat 0), Cell.il IntKind.i64 (Int.ofNat 0), Cell.bl false, Cell.il IntKind.i64 (Int.ofNat 0), Cell.il IntKind.i64 (Int.ofNat 0), Cell.il IntKind.i64 (Int.ofNat 0), Cell.il IntKind.i64 (Int.ofNat 0), Cell.bl false, Cell.il IntKind.i64 (Int.ofNat 0), Cell.il IntKind.i64 (Int.ofNat 0), Cell.il IntKind.i64 (Int.ofNat 0), Cell.il IntKind.i64 (Int.ofNat 0), Cell.bl false, Cell.il IntKind.i64 (Int.ofNat 0), Cell.il IntKind.i64 (Int.ofNat 0), Cell.il IntKind.i64 (Int.ofNat 0), Cell.il IntKind.i64 (Int.ofNat 0), Cell.bl false])
def si222 : SI := (SI.mk 36 4 32 [Cell.il IntKind.i64 (Int.ofNat 0), Cell.il IntKind.i64 (Int.ofNat 0), Cell.il IntKind.i64 (Int.ofNat 0), Cell.il IntKind.i64 (Int.ofNat 0)])
def si248 : SI := (SI.mk 43 1 16 [Cell.inil])
def si348 : SI := (SI.mk 4 1 1 [Cell.bl false])
def si362 : SI := (SI.mk 326 3 24 [Cell.bl false, Cell.il IntKind.i64 (Int.ofNat 0), Cell.il IntKind.i64 (Int.ofNat 0)])
def si449 : SI := (SI.mk 452 4 16 [Cell.il IntKind.i32 (Int.ofNat 0), Cell.il IntKind.i32 (Int.ofNat 0), Cell.il IntKind.i32 (Int.ofNat 0), Cell.il IntKind.i32 (Int.ofNat 0)])
def slT : Tr SI := (.nd none (.nd none (.nd none (.nd none .lf (.nd (some si23) .lf .lf)) (.nd none (.nd none (.nd none (.nd (some si67) .lf .lf) .lf) (.nd (some si51) (.nd none .lf (.nd (some si211) .lf .lf)) .lf)) .lf)) (.nd none (.nd none (.nd none (.nd none (.nd none .lf (.nd none .lf (.nd (some si449) .lf .lf))) .lf) .lf) (.nd none .lf (.nd none (.nd none .lf (.nd (some si217) .lf .lf)) .lf))) (.nd none (.nd none .lf (.nd none (.nd none .lf (.nd (some si213) .lf .lf)) .lf)) .lf))) (.nd none (.nd none (.nd none .lf (.nd (some si24) .lf (.nd none (.nd none .lf (.nd (some si216) .lf .lf)) (.nd none .lf (.nd (some si248) .lf .lf))))) (.nd none .lf (.nd none .lf (.nd none (.nd (some si92) .lf (.nd none (.nd (some si348) .lf .lf) .lf)) .lf)))) (.nd none (.nd none (.nd none .lf (.nd none (.nd none (.nd (some si146) .lf .lf) .lf) .lf)) (.nd none (.nd none .lf (.nd none .lf (.nd none (.nd (some si362) .lf .lf) .lf))) (.nd (some si58) .lf .lf))) (.nd none (.nd (some si22) .lf .lf) (.nd none (.nd none (.nd (some si78) .lf .lf) .lf) (.nd none (.nd none .lf (.nd (some si222) .lf .lf)) .lf))))))
theorem sk22 : mkSI Tryz.prog 22 = some si22 := by kernel_rfl
theorem sk23 : mkSI Tryz.prog 23 = some si23 := by kernel_rfl
theorem sk24 : mkSI Tryz.prog 24 = some si24 := by kernel_rfl
theorem sk51 : mkSI Tryz.prog 51 = some si51 := by kernel_rfl
theorem sk58 : mkSI Tryz.prog 58 = some si58 := by kernel_rfl
theorem sk67 : mkSI Tryz.prog 67 = some si67 := by kernel_rfl
theorem sk78 : mkSI Tryz.prog 78 = some si78 := by kernel_rfl
theorem sk92 : mkSI Tryz.prog 92 = some si92 := by kernel_rfl
theorem sk146 : mkSI Tryz.prog 146 = some si146 := by kernel_rfl
theorem sk211 : mkSI Tryz.prog 211 = some si211 := by kernel_rfl
theorem sk213 : mkSI Tryz.prog 213 = some si213 := by kernel_rfl
theorem sk216 : mkSI Tryz.prog 216 = some si216 := by kernel_rfl
theorem sk217 : mkSI Tryz.prog 217 = some si217 := by kernel_rfl
theorem sk222 : mkSI Tryz.prog 222 = some si222 := by kernel_rfl
theorem sk248 : mkSI Tryz.prog 248 = some si248 := by kernel_rfl
theorem sk348 : mkSI Tryz.prog 348 = some si348 := by kernel_rfl
theorem sk362 : mkSI Tryz.prog 362 = some si362 := by kernel_rfl
theorem sk449 : mkSI Tryz.prog 449 = some si449 := by kernel_rfl
theorem slAll : Tr.All (fun t i => mkSI Tryz.prog t = some i) slT (fun n => n) := ⟨(fun a h => by cases h), ⟨(fun a h => by cases h), ⟨(fun a h => by cases h), ⟨(fun a h => by cases h), trivial, ⟨(fun a h => by cases h; exact sk23), trivial, trivial⟩⟩, ⟨(fun a h => by cases h), ⟨(fun a h => by cases h), ⟨(fun a h => by cases h), ⟨(fun a h => by cases h; exact sk67), trivial, trivial⟩, trivial⟩, ⟨(fun a h => by cases h; exact sk51), ⟨(fun a h => by cases h), trivial, ⟨(fun a h => by cases h; exact sk211), trivial, trivial⟩⟩, trivial⟩⟩, trivial⟩⟩, ⟨(fun a h => by cases h), ⟨(fun a h => by cases h), ⟨(fun a h => by cases h), ⟨(fun a h => by cases h), ⟨(fun a h => by cases h), trivial, ⟨(fun a h => by cases h), trivial, ⟨(fun a h => by cases h; exact sk449), trivial, trivial⟩⟩⟩, trivial⟩, trivial⟩, ⟨(fun a h => by cases h), trivial, ⟨(fun a h => by cases h), ⟨(fun a h => by cases h), trivial, ⟨(fun a h => by cases h; exact sk217), trivial, trivial⟩⟩, trivial⟩⟩⟩, ⟨(fun a h => by cases h), ⟨(fun a h => by cases h), trivial, ⟨(fun a h => by cases h), ⟨(fun a h => by cases h), trivial, ⟨(fun a h => by cases h; exact sk213), trivial, trivial⟩⟩, trivial⟩⟩, trivial⟩⟩⟩, ⟨(fun a h => by cases h), ⟨(fun a h => by cases h), ⟨(fun a h => by cases h), trivial, ⟨(fun a h => by cases h; exact sk24), trivial, ⟨(fun a h => by cases h), ⟨(fun a h => by cases h), trivial, ⟨(fun a h => by cases h; exact sk216), trivial, trivial⟩⟩, ⟨(fun a h => by cases h), trivial, ⟨(fun a h => by cases h; exact sk248), trivial, trivial⟩⟩⟩⟩⟩, ⟨(fun a h => by cases h), trivial, ⟨(fun a h => by cases h), trivial, ⟨(fun a h => by cases h), ⟨(fun a h => by cases h; exact sk92), trivial, ⟨(fun a h => by cases h), ⟨(fun a h => by cases h; exact sk348), trivial, trivial⟩, trivial⟩⟩, trivial⟩⟩⟩⟩, ⟨(fun a h => by cases h), ⟨(fun a h => by cases h), ⟨(fun a h => by cases h), trivial, ⟨(fun a h => by cases h), ⟨(fun a h => by cases h), ⟨(fun a h => by cases h; exact sk146), trivial, trivial⟩, trivial⟩, trivial⟩⟩, ⟨(fun a h => by cases h), ⟨(fun a h => by cases h), trivial, ⟨(fun a h => by cases h), trivial, ⟨(fun a h => by cases h), ⟨(fun a h => by cases h; exact sk362), trivial, trivial⟩, trivial⟩⟩⟩, ⟨(fun a h => by cases h; exact sk58), trivial, trivial⟩⟩⟩, ⟨(fun a h => by cases h), ⟨(fun a h => by cases h; exact sk22), trivial, trivial⟩, ⟨(fun a h => by cases h), ⟨(fun a h => by cases h), ⟨(fun a h => by cases h; exact sk78), trivial, trivial⟩, trivial⟩, ⟨(fun a h => by cases h), ⟨(fun a h => by cases h), trivial, ⟨(fun a h => by cases h; exact sk222), trivial, trivial⟩⟩, trivial⟩⟩⟩⟩⟩⟩
theorem slOk : SlOk Tryz.prog slT := fun t i h => Tr.all_get slAll t i h
def mtF (t : TypeId) (m : String) : Option FuncId := match decide (m = "Next") with
 | true => match Nat.beq t 95 with | true => some 247 | false => match Nat.beq t 98 with | true => some 256 | false => match Nat.beq t 101 with | true => some 265 | false => match Nat.beq t 104 with | true => some 287 | false => match Nat.beq t 107 with | true => some 303 | false => none
 | false => none
theorem mk247 (v : Value) (w : World) : (Go.method (Tryz.prog.types.size + Made.depth) 95 v "Next").run Tryz.prog w = .ok (247, v) w := by kernel_rfl
theorem mk256 (v : Value) (w : World) : (Go.method (Tryz.prog.types.size + Made.depth) 98 v "Next").run Tryz.prog w = .ok (256, v) w := by kernel_rfl
theorem mk265 (v : Value) (w : World) : (Go.method (Tryz.prog.types.size + Made.depth) 101 v "Next").run Tryz.prog w = .ok (265, v) w := by kernel_rfl
theorem mk287 (v : Value) (w : World) : (Go.method (Tryz.prog.types.size + Made.depth) 104 v "Next").run Tryz.prog w = .ok (287, v) w := by kernel_rfl
theorem mk303 (v : Value) (w : World) : (Go.method (Tryz.prog.types.size + Made.depth) 107 v "Next").run Tryz.prog w = .ok (303, v) w := by kernel_rfl
theorem mtOk : ∀ t m g, mtF t m = some g -> ∀ (v : Value) (w : World), (Go.method (Tryz.prog.types.size + Made.depth) t v m).run Tryz.prog w = .ok (g, v) w := by
 intro t m g h v w
 unfold mtF at h
 split at h
 ·rename_i hm
  have hm := of_decide_eq_true hm
  subst hm
  split at h
  ·rename_i e
   have e := (beq_iff _ _).1 e
   subst e
   cases h
   exact mk247 v w
  split at h
  ·rename_i e
   have e := (beq_iff _ _).1 e
   subst e
   cases h
   exact mk256 v w
  split at h
  ·rename_i e
   have e := (beq_iff _ _).1 e
   subst e
   cases h
   exact mk265 v w
  split at h
  ·rename_i e
   have e := (beq_iff _ _).1 e
   subst e
   cases h
   exact mk287 v w
  split at h
  ·rename_i e
   have e := (beq_iff _ _).1 e
   subst e
   cases h
   exact mk303 v w
  cases h
 ·cases h
theorem tblOk_mt {AV : Type} {N N' : Env AV} (h : TblOk Tryz.prog N) (ht : N'.tt = N.tt) (hf : N'.ft = N.ft) (hs : N'.sl = slT) (hm : N'.mt = mtF) : TblOk Tryz.prog N' :=
 ⟨fun t i e => h.ty t i (by rw [<- ht]; exact e), fun f g e => h.fn f g (by rw [<- hf]; exact e), h.mix, fun t si e => slOk t si (by rw [<- hs]; exact e), fun t m g e => mtOk t m g (by rw [<- hm]; exact e)⟩
end Go.Proofs.YthdmoahfeimdaaaGreatDoor

namespace Go.Sx
variable {AV : Type} {P : Program} {N : Env AV}
theorem run_append_none (w : World) (t ty e : TypeId) (i : TypeInfo) (hu : P.underlying t = some (.slice e)) (hi : P.info? e = some i) {a b : Option Addr} {n cap cap2 : Nat} (hle : n <= cap) :
 (Builtin.append_ #[t, t] ty #[.slice a n cap, .slice b 0 cap2]).run P w = .ok (.slice a n cap) w := by
 have hf : (Builtin.firstCells i.size 0 (.slice b 0 cap2)).run P w = .ok #[] w := by
  cases b with
  | none => simp [Builtin.firstCells]
  | some q => simp only [Builtin.firstCells, Nat.zero_mul]; exact load_none q w
 cases a with
 | none => simp [Builtin.append_, run_underlying hu, sizeOf, typeInfo, hi, Builtin.lenOf, hle, hf]
 | some q => simp [Builtin.append_, run_underlying hu, sizeOf, typeInfo, hi, Builtin.lenOf, hle, hf, storeCells]
theorem vecQ_at {l : Loc} {S : Nat -> Prop} {cs : List Value} {es : Nat} {ty : TypeId} {w : World} (h : vecQ l S cs es ty w) (j : Nat) (v : Value) (hv : cs[j]? = some v) : w.cell? ((⟨l.b, l.o, none⟩ : Addr).add j) = some v := by
 have e : (⟨l.b, l.o, none⟩ : Addr).add j = ⟨l.b, l.o + j, none⟩ := by
  unfold Addr.add
  by_cases hj : j = 0 <;> simp [hj]
 rw [e]
 rcases h with ⟨_, h0, _⟩ | ⟨_, _, row, h2, _, _, h5⟩
 ·rw [h0] at hv; simp at hv
 ·have := h5 j v hv
  simp only [World.cell?, h2]
  simpa using this
theorem vecQ_read {l : Loc} {S : Nat -> Prop} {cs : List Value} {es : Nat} {ty : TypeId} {w : World} (h : vecQ l S cs es ty w) : readQ l cs es w := by
 refine ⟨?_, vecQ_at h⟩
 rcases h with ⟨_, h0, _⟩ | ⟨_, _, row, _, _, hc, _⟩
 ·rw [h0]; exact Nat.zero_le _
 ·exact hc
theorem vecQ_fit {l : Loc} {S : Nat -> Prop} {cs : List Value} {es : Nat} {ty : TypeId} {w : World} (h : vecQ l S cs es ty w) (hes : 0 < es) {n : Nat} (hn : cs.length = n * es) : n <= l.c - 1 := by
 rcases h with ⟨_, h0, _⟩ | ⟨_, _, row, _, _, hc, _⟩
 ·rw [h0] at hn
  rcases Nat.mul_eq_zero.1 (show n * es = 0 from hn.symm) with h0 | h0 <;> omega
 ·rw [hn] at hc
  exact Nat.le_of_mul_le_mul_right hc hes
theorem vsDen_eq (l : Loc) (len es : Nat) : vsDen l 0 len es = if len = 0 /\ l.c = 0 then .slice none 0 0 else .slice (some ⟨l.b, l.o, none⟩) len (l.c - 1) := by
 simp [vsDen]
theorem app_core {t e : TypeId} {i : TypeInfo} {z : Value} (hu : P.underlying t = some (.slice e)) (hi : P.info? e = some i) (hz : i.zero = some z) (hzs : z.cells.size = i.size) (hpos : 0 < i.size)
 {w : World} {l1 : Loc} {S1 : Nat -> Prop} {vs : List Value} (h1 : vecQ l1 S1 vs i.size e w) {len : Nat} (hlen : vs.length = len * i.size)
 {l2 : Loc} {us : List Value} (h2 : readQ l2 us i.size w) {k : Nat} (hk : us.length = k * i.size) (hone : ∀ u ∈ us, u.oneCell' = true)
 (hfit : (len + k) * (i.bytes + 1) <= lim) (ty : TypeId) :
 ∃ r w', (Builtin.append_ #[t, t] ty #[vsDen l1 0 len i.size, vsDen l2 0 k i.size]).run P w = .ok r w' /\ ∃ lc S', r = vsDen lc 0 (len + k) i.size /\ vecQ lc S' (vs ++ us) i.size e w' /\ Fr S1 S' w w' := by
 have f1 := vecQ_fit h1 hpos hlen
 have f2 : k <= l2.c - 1 := Nat.le_of_mul_le_mul_right (by rw [<- hk]; exact h2.1) hpos
 have hgrown : ∀ (w : World) (need old : Nat), (Builtin.zeroCells z.cells (grownCap w need old e - need)).size = (grownCap w need old e - need) * i.size := fun w need old => by rw [size_zeroCells, hzs]
 have hkb : (len + k) * i.bytes <= lim := Nat.le_trans (Nat.mul_le_mul_left _ (Nat.le_succ _)) hfit
 have hkn : len + k <= lim := by
  have : (len + k) * 1 <= (len + k) * (i.bytes + 1) := Nat.mul_le_mul_left _ (by omega)
  omega
 simp only [lim] at hkb hkn
 have fresh : ∀ old, ∃ lc S', Value.slice (some ⟨w.heap.size, 0, none⟩) (len + k) (grownCap w (len + k) old e) = vsDen lc 0 (len + k) i.size /\
  vecQ lc S' (vs ++ us) i.size e (w.drew.alloc (.cells (vs.toArray ++ us.toArray ++ Builtin.zeroCells z.cells (grownCap w (len + k) old e - (len + k))) e)) /\
  Fr S1 S' w (w.drew.alloc (.cells (vs.toArray ++ us.toArray ++ Builtin.zeroCells z.cells (grownCap w (len + k) old e - (len + k))) e)) := by
  intro old
  have hge := grownCap_ge w (len + k) old e
  refine ⟨⟨w.heap.size, 0, grownCap w (len + k) old e + 1⟩, fun k => k = w.heap.size, by rw [vsDen_eq]; simp, .inr ⟨by simp, fun k => Iff.rfl, (vs.toArray ++ us.toArray ++ Builtin.zeroCells z.cells (grownCap w (len + k) old e - (len + k))).toList, ?_, ?_, ?_, ?_⟩, ?_⟩
  ·show (w.drew.heap.push _)[w.heap.size]? = _
   have hh : w.drew.heap = w.heap := rfl
   rw [hh, Array.getElem?_push_size, Array.toArray_toList]
  ·simp only [Array.length_toList, Array.size_append, hgrown, List.size_toArray, hlen, hk, Nat.zero_add, Nat.add_sub_cancel]
   rw [<- Nat.add_mul, <- Nat.add_mul]
   exact Nat.mul_le_mul_right _ (by omega)
  ·simp only [List.length_append, hlen, hk, Nat.add_sub_cancel]
   rw [<- Nat.add_mul]
   exact Nat.mul_le_mul_right _ hge
  ·intro j v hv
   have hj := (List.getElem?_eq_some_iff.1 hv).1
   simp only [Nat.zero_add, Array.toList_append]
   rw [List.getElem?_append_left (by simpa using hj)]
   simpa using hv
  ·refine ⟨fun b hb _ => ?_, fun b hb => .inl (by show w.heap.size <= b; rw [show b = w.heap.size from hb]; omega), rfl, rfl, rfl, ?_⟩
   ·show (w.drew.heap.push _)[b]? = _
    rw [Array.getElem?_push]
    have : w.drew.heap = w.heap := rfl
    rw [this, if_neg (by omega)]
   ·show w.heap.size <= (w.drew.heap.push _).size
    have : w.drew.heap = w.heap := rfl
    rw [this]; simp
 rcases Nat.eq_zero_or_pos k with rfl | hkp
 ·-- nothing is appended
  have hu0 : us = [] := List.length_eq_zero_iff.1 (by rw [hk]; simp)
  have hx : ∃ b c2, vsDen l2 0 0 i.size = .slice b 0 c2 := by rw [vsDen_eq]; split <;> exact ⟨_, _, rfl⟩
  obtain ⟨b, c2, hx⟩ := hx
  refine ⟨vsDen l1 0 len i.size, w, ?_, l1, S1, by simp, by rw [hu0, List.append_nil]; exact h1, ⟨fun _ _ _ => rfl, fun _ h => .inr h, rfl, rfl, rfl, Nat.le_refl _⟩⟩
  rw [hx, vsDen_eq]
  split
  ·rename_i h0; rw [run_append_none w t ty e i hu hi (Nat.le_refl 0)]
  ·rw [run_append_none w t ty e i hu hi f1]
 ·have hc2 : l2.c ≠ 0 := by omega
  have hx : vsDen l2 0 k i.size = .slice (some ⟨l2.b, l2.o, none⟩) k (l2.c - 1) := by rw [vsDen_eq, if_neg (by omega)]
  have hcells := h2.2
  by_cases hc1 : l1.c = 0
  ·have hl0 : len = 0 := by omega
   subst hl0
   have hv0 : vs = [] := List.length_eq_zero_iff.1 (by rw [hlen]; simp)
   subst hv0
   simp only [Nat.zero_add] at hkb hkn ⊢
   have hr := run_append_nil (P := P) w t ty e i z hu hi hz ⟨l2.b, l2.o, none⟩ k (l2.c - 1) us hk hcells hkp (by omega) (by omega)
   obtain ⟨lc, S', g1, g2, g3⟩ := fresh 0
   simp only [Nat.zero_add] at g1 g2 g3
   refine ⟨_, _, by rw [hx, vsDen_eq, if_pos ⟨rfl, hc1⟩]; exact hr, lc, S', g1, ?_, ?_⟩
   ·simpa using g2
   ·simpa using g3
  ·have hs : vsDen l1 0 len i.size = .slice (some ⟨l1.b, l1.o, none⟩) len (l1.c - 1) := by rw [vsDen_eq, if_neg (fun h => hc1 h.2)]
   by_cases hroom : len + k <= l1.c - 1
   ·-- there is room
    rcases h1 with ⟨h0, _⟩ | ⟨hcp, hS, row, hrow, hrl, hll, hat⟩
    ·omega
    ·have hmul : len * i.size + k * i.size <= (l1.c - 1) * i.size := by
      rw [<- Nat.add_mul]; exact Nat.mul_le_mul_right _ hroom
     have hp : l1.o + len * i.size + us.length <= row.length := by rw [hk]; omega
     have hr := run_append_at (P := P) w t ty e i hu hi l1.b l1.o len (l1.c - 1) row.toArray e hrow ⟨l2.b, l2.o, none⟩ k (l2.c - 1) us hk hcells hone hroom (by simpa using hp)
     simp only at hr
     refine ⟨_, _, by rw [hx, hs]; exact hr, l1, S1, by rw [vsDen_eq, if_neg (by omega)], .inr ⟨hcp, hS, _, setRow_heap w l1.b _ _ e (0, 0) hrow, ?_, ?_, ?_⟩, ⟨fun b hb hn => setRow_other w l1.b b _ (fun e => hn ((hS b).2 e)), fun b hb => .inr hb, rfl, rfl, rfl, by simp [World.setRow]⟩⟩
     ·simp only [List.length_append, List.length_take, List.length_drop]
      omega
     ·simp only [List.length_append, hlen, hk]; omega
     ·intro j v hv
      rw [seg_row hp]
      by_cases hj : j < len * i.size
      ·rw [if_pos (by omega)]
       rw [List.getElem?_append_left (by omega)] at hv
       exact hat j v hv
      ·rw [if_neg (by omega)]
       rw [List.getElem?_append_right (by omega)] at hv
       have hj2 := (List.getElem?_eq_some_iff.1 hv).1
       rw [if_pos (by omega), <- hv]
       congr 1
       omega
   ·have hr := run_append_grow (P := P) w t ty e i z hu hi hz ⟨l1.b, l1.o, none⟩ len (l1.c - 1) vs hlen (vecQ_at h1) ⟨l2.b, l2.o, none⟩ k (l2.c - 1) us hk hcells (by omega) (by omega) (growslice_fits (by omega) (by omega))
    obtain ⟨lc, S', g1, g2, g3⟩ := fresh (l1.c - 1)
    exact ⟨_, _, by rw [hx, hs]; exact hr, lc, S', g1, g2, g3⟩
def absOf (F : Intf AV) (si : SI) (H : Hp AV) : Cell -> Option (Nat × AV × Nat)
 | .vs n o len es _ => match Nat.beq o 0, Nat.beq es si.size, hget H n with
   | true, true, some (.abs a) => match F.arr a with
     | some (e1, ty, _) => match Nat.beq e1 si.size, Nat.beq ty si.e with
       | true, true => some (n, a, len)
       | _, _ => none
     | none => none
   | _, _, _ => none
 | _ => none
def absSrc (F : Intf AV) (si : SI) (H : Hp AV) : Cell -> Option (Nat × AV × Nat)
 | .vs n o len es _ => match Nat.beq o 0, Nat.beq es si.size, hget H n with
   | true, true, some (.abs a) => match F.src a with
     | some b => match F.arr b with
       | some (e1, ty, _) => match Nat.beq e1 si.size, Nat.beq ty si.e with
         | true, true => some (n, b, len)
         | _, _ => none
       | none => none
     | none => none
   | _, _, _ => none
 | _ => none
def voidOf (si : SI) (H : Hp AV) : Cell -> Option (Option Nat)
 | .snil => some none
 | .sf _ _ es true _ _ => match Nat.beq es si.size with | true => some none | false => none
 | .vs n o len es true => match Nat.beq o 0, Nat.beq len 0, Nat.beq es si.size, hget H n with
   | true, true, true, some (.vec _ es' ty) => match Nat.beq es' si.size, Nat.beq ty si.e with
     | true, true => some (some n)
     | _, _ => none
   | _, _, _, _ => none
 | _ => none
def isName (d : Option Nat) (n : Nat) : Bool := match d with | some m => Nat.beq m n | none => false
def appG (F : Intf AV) (si : SI) (G : Nat) (s x : Cell) (H : Hp AV) : T (SV × Hp AV) :=
 match Nat.ble G H.length, absOf F si H s, absSrc F si H x with
 | true, some (n1, a, len), some (n2, b, k) => match Nat.beq n1 n2, F.cat a b with
   | false, some c => .need (decide (len = F.len a /\ k = F.len b /\ (len + k) * (si.bytes + 1) <= lim)) (.leaf (.v (.c (.vs H.length 0 (len + k) si.size false)), killO H (some n1) ++ [some (.abs c)]))
   | _, _ => .fail "append: arrays"
 | true, none, some (n2, b, k) => match voidOf si H s with
   | some d => match isName d n2 with
     | false => .need (decide (k = F.len b /\ k * (si.bytes + 1) <= lim)) (.leaf (.v (.c (.vs H.length 0 k si.size false)), killO H d ++ [some (.abs b)]))
     | true => .fail "append: arrays"
   | none => .fail "append: arrays"
 | true, some (n1, a, len), none => match emptyX x with
   | true => .need (decide (len <= F.len a)) (.leaf (.v (.c s), H))
   | false => match x with
     | .vs n2 o2 k es true => match sliceCells H si.size (.vs n2 o2 k es true), Nat.beq n1 n2 with
       | some news, false => match F.app a news with
         | some c => .need (decide (len = F.len a /\ (len + k) * (si.bytes + 1) <= lim)) (.leaf (.v (.c (.vs H.length 0 (len + k) si.size false)), killO H (some n1) ++ [some (.abs c)]))
         | none => .fail "append: arrays"
       | _, _ => .fail "append: arrays"
     | _ => .fail "append: arrays"
 | _, _, _ => .fail "append: arrays"
theorem absSrc_spec {F : Intf AV} {si : SI} {H : Hp AV} {x : Cell} {n len : Nat} {b : AV} (h : absSrc F si H x = some (n, b, len)) : ∃ kn a vs, x = .vs n 0 len si.size kn /\ hget H n = some (.abs a) /\ F.src a = some b /\ F.arr b = some (si.size, si.e, vs) := by
 unfold absSrc at h
 split at h
 ·split at h
  ·split at h
   ·split at h
    ·split at h
     ·rename_i h1 h2 h3 _ _ h7 _ _ _ _ h4 _ _ h5 h6
      have h1 := (beq_iff _ _).1 h1
      have h2 := (beq_iff _ _).1 h2
      have h5 := (beq_iff _ _).1 h5
      have h6 := (beq_iff _ _).1 h6
      subst h1 h2 h5 h6
      simp only [Option.some.injEq, Prod.mk.injEq] at h
      obtain ⟨rfl, rfl, rfl⟩ := h
      exact ⟨_, _, _, rfl, h3, h7, h4⟩
     ·cases h
    ·cases h
   ·cases h
  ·cases h
 ·cases h
theorem absOf_spec {F : Intf AV} {si : SI} {H : Hp AV} {x : Cell} {n len : Nat} {a : AV} (h : absOf F si H x = some (n, a, len)) : ∃ kn vs, x = .vs n 0 len si.size kn /\ hget H n = some (.abs a) /\ F.arr a = some (si.size, si.e, vs) := by
 unfold absOf at h
 split at h
 ·split at h
  ·split at h
   ·split at h
    ·rename_i h1 h2 h3 _ _ _ _ h4 _ _ h5 h6
     have h1 := (beq_iff _ _).1 h1
     have h2 := (beq_iff _ _).1 h2
     have h5 := (beq_iff _ _).1 h5
     have h6 := (beq_iff _ _).1 h6
     subst h1 h2 h5 h6
     simp only [Option.some.injEq, Prod.mk.injEq] at h
     obtain ⟨rfl, rfl, rfl⟩ := h
     exact ⟨_, _, rfl, h3, h4⟩
    ·cases h
   ·cases h
  ·cases h
 ·cases h
theorem arr_swap {ρ : Nm} {H : Hp AV} {w w' : World} (hO : Own N ρ H w) (hC : ClHp N H) (hG : N.G <= H.length) {d : Option Nat} (hd : ∀ n, d = some n -> ∃ c, hget H n = some c) {c : AV} {es : Nat} {ty : TypeId} {vs : List Value} (hc : N.F.arr c = some (es, ty, vs))
 {lc : Loc} {S S' : Nat -> Prop} (hS : ∀ k, S k -> ∃ n x, d = some n /\ hget H n = some x /\ x.fp ρ n k) (hv : vecQ lc S' vs es ty w') (hf : Fr S S' w w') :
 Own N (ρ.set H.length lc S') (killO H d ++ [some (.abs c)]) w' /\ Evo N H.length ρ H w (ρ.set H.length lc S') (killO H d ++ [some (.abs c)]) w' := by
 have := own_swap (w' := w') hO hC hG (d := d) (ck := .abs c) hd (fun x hx => by cases hx) (lc := lc) (S := S')
  (fun k hk hno => hf.frame k hk fun hs => by
    obtain ⟨n, x, h1, h2, h3⟩ := hS k hs
    exact hno n x h1 h2 h3) hf.os hf.tape hf.output hf.size
  (by
    show N.F.q c _ _ _
    rw [(set_L _ _ _ _).1, (set_L _ _ _ _).2]
    exact ((N.F.arr_q c es ty vs hc).2 _ _ _).2 hv)
  (fun k hk => by
    have hk : (ρ.set H.length lc S').S H.length k := hk
    rw [(set_L _ _ _ _).2] at hk
    rcases hf.new k hk with h | h
    ·exact .inl h
    ·exact .inr (hS k h))
 exact ⟨this.1, this.2.1⟩
theorem den_vs0 {ρ : Nm} {n len es : Nat} {kn : Bool} : (Cell.vs n 0 len es kn).den ρ = vsDen (ρ.L n) 0 len es := rfl
theorem cl_abs {H : Hp AV} (hC : ClHp N H) {d : Option Nat} (hd : ∀ n, d = some n -> ∃ c, hget H n = some c) (c : AV) : ClHp N (killO H d ++ [some (.abs c)]) := cl_swap hC hd (fun x hx => by cases hx)
theorem vecQ_none {l : Loc} {S : Nat -> Prop} {cs : List Value} {es : Nat} {ty : TypeId} {w : World} (h : vecQ l S cs es ty w) : vecQ l S [] es ty w := by
 rcases h with ⟨h1, _, h3⟩ | ⟨h1, h2, row, h3, h4, h5, h6⟩
 ·exact .inl ⟨h1, rfl, h3⟩
 ·exact .inr ⟨h1, h2, row, h3, h4, Nat.zero_le _, fun j v h => by simp at h⟩
theorem voidOf_spec {si : SI} {H : Hp AV} {x : Cell} {d : Option Nat} (h : voidOf si H x = some d) : (∀ n, d = some n -> ∃ c, hget H n = some c) /\ ∀ (ρ : Nm) (w : World), Own N ρ H w -> ∃ l S, x.den ρ = vsDen l 0 0 si.size /\ vecQ l S [] si.size si.e w /\ ∀ k, S k -> ∃ n x, d = some n /\ hget H n = some x /\ x.fp ρ n k := by
 unfold voidOf at h
 split at h
 ·cases h
  exact ⟨fun n h => (by cases h), fun ρ w _ => ⟨⟨0, 0, 0⟩, fun _ => False, rfl, .inl ⟨Nat.zero_le _, rfl, fun _ h => h⟩, fun k h => h.elim⟩⟩
 ·rename_i n o es f p
  split at h
  ·rename_i h1
   have h1 := (beq_iff _ _).1 h1
   subst h1
   cases h
   refine ⟨fun n h => (by cases h), fun ρ w _ => ⟨f.ap (ρ.L n), fun _ => False, rfl, .inl ⟨?_, rfl, fun _ h => h⟩, fun k h => h.elim⟩⟩
   rcases p (ρ.L n) with h | ⟨h, _⟩
   ·exact h
   ·cases h
  ·cases h
 ·rename_i n o len es
  split at h
  ·rename_i l es' ty h1 h2 h3 h4
   split at h
   ·rename_i h5 h6
    have h1 := (beq_iff _ _).1 h1
    have h2 := (beq_iff _ _).1 h2
    have h3 := (beq_iff _ _).1 h3
    have h5 := (beq_iff _ _).1 h5
    have h6 := (beq_iff _ _).1 h6
    subst h1 h2 h3 h5 h6
    cases h
    refine ⟨fun m h => (by cases h; exact ⟨_, h4⟩), fun ρ w hO => ⟨ρ.L n, ρ.S n, rfl, vecQ_none (hO.q n _ h4), fun k hk => ⟨n, _, rfl, h4, hk⟩⟩⟩
   ·cases h
  ·cases h
 ·cases h
theorem need_some {α : Type} {b : Bool} {t : T α} {x : α} (h : (T.need b t).val = some x) : b = true /\ t.val = some x := need_val h
theorem appG_ok {si : SI} {i : TypeInfo} {z : Value} {t : TypeId} (hu : P.underlying t = some (.slice si.e)) (hi : P.info? si.e = some i) (hz : i.zero = some z) (e1 : i.size = si.size) (e2 : i.bytes = si.bytes) (hpos : 0 < si.size) (hzs : z.cells.size = si.size)
 {H H' : Hp AV} {v : SV} {s x : Cell} (hC : ClHp N H) (hcs : ClV H (.v (.c s))) (h : (appG N.F si N.G s x H).val = some (v, H')) : ClV H' v /\ ClHp N H' /\ ∀ (ρ : Nm) (w : World), Own N ρ H w -> ∀ ty, ∃ r w', (Builtin.append_ #[t, t] ty #[s.den ρ, x.den ρ]).run P w = .ok r w' /\
   ∃ ρ', r = v.den ρ' /\ Own N ρ' H' w' /\ Evo N H.length ρ H w ρ' H' w' := by
 have hpos' : 0 < i.size := by omega
 have hzs' : z.cells.size = i.size := by omega
 have fin : ∀ (d : Option Nat) (c : AV) (m : Nat) (vs : List Value), (∀ n, d = some n -> ∃ c, hget H n = some c) -> N.G <= H.length -> N.F.arr c = some (si.size, si.e, vs) ->
  v = .v (.c (.vs H.length 0 m si.size false)) -> H' = killO H d ++ [some (.abs c)] ->
  (∀ (ρ : Nm) (w : World), Own N ρ H w -> ∀ ty, ∃ r w' S, (Builtin.append_ #[t, t] ty #[s.den ρ, x.den ρ]).run P w = .ok r w' /\ (∀ k, S k -> ∃ n x, d = some n /\ hget H n = some x /\ x.fp ρ n k) /\ ∃ lc S', r = vsDen lc 0 m i.size /\ vecQ lc S' vs i.size si.e w' /\ Fr S S' w w') ->
  ClV H' v /\ ClHp N H' /\ ∀ (ρ : Nm) (w : World), Own N ρ H w -> ∀ ty, ∃ r w', (Builtin.append_ #[t, t] ty #[s.den ρ, x.den ρ]).run P w = .ok r w' /\
   ∃ ρ', r = v.den ρ' /\ Own N ρ' H' w' /\ Evo N H.length ρ H w ρ' H' w' := by
  rintro d c m vs hd hG hc rfl rfl hr
  refine ⟨cl_new hd 0 _ _ _, cl_abs hC hd c, fun ρ w hO ty => ?_⟩
  obtain ⟨r, w', S, g1, g2, lc, S', g3, g4, g5⟩ := hr ρ w hO ty
  rw [e1] at g4
  obtain ⟨o1, o2⟩ := arr_swap hO hC hG hd hc g2 g4 g5
  refine ⟨r, w', g1, _, ?_, o1, o2⟩
  rw [g3, e1]
  simp only [SV.den, V1.den, Cell.den, (set_L _ _ _ _).1]
 unfold appG at h
 split at h
 ·-- two arrays
  rename_i n1 a len n2 b k hG hs hx
  split at h
  ·rename_i c hne hcat
   obtain ⟨hb, h⟩ := need_some h
   simp only [T.val, Option.some.injEq, Prod.mk.injEq] at h
   obtain ⟨k1, k2, k3⟩ := of_decide_eq_true hb
   obtain ⟨kn1, vs, rfl, p2, p3⟩ := absOf_spec hs
   obtain ⟨kn2, a2, us, rfl, q2, qs, q3⟩ := absSrc_spec hx
   obtain ⟨es', ty1, ty2, vs', us', r1, r2, r3⟩ := N.F.cat_ok a b c hcat
   rw [p3] at r1
   simp only [Option.some.injEq, Prod.mk.injEq] at r1
   obtain ⟨rfl, rfl, rfl⟩ := r1
   rw [q3] at r2
   simp only [Option.some.injEq, Prod.mk.injEq] at r2
   obtain ⟨_, rfl, rfl⟩ := r2
   refine fin (some n1) c (len + k) _ (fun n h => by cases h; exact ⟨_, p2⟩) (Nat.le_of_ble_eq_true hG) r3 h.1.symm h.2.symm fun ρ w hO ty => ?_
   have A1 := ((N.F.arr_q a _ _ _ p3).2 _ _ _).1 (hO.q n1 _ p2)
   have A2 := N.F.src_ok a2 b _ _ _ qs q3 _ _ _ hO.ro.1 (hO.q n2 _ q2)
   have L1 := N.F.len_ok a _ _ _ p3
   have L2 := N.F.len_ok b _ _ _ q3
   rw [<- e1] at A1 A2 L1 L2
   rw [<- k1] at L1
   rw [<- k2] at L2
   obtain ⟨r, w', g1, lc, S', g2, g3, g4⟩ := app_core hu hi hz hzs' hpos' A1 L1 A2 L2 (N.F.arr_q b _ _ _ q3).1 (by rw [e2]; exact k3) ty
   rw [den_vs0, den_vs0, <- e1]
   exact ⟨r, w', ρ.S n1, g1, fun k hk => ⟨n1, _, rfl, p2, hk⟩, lc, S', g2, g3, g4⟩
  ·simp [T.val] at h
 ·-- a copy
  rename_i n2 b k hG hs hx
  split at h
  ·rename_i d hvd
   split at h
   ·rename_i hne
    obtain ⟨hb, h⟩ := need_some h
    simp only [T.val, Option.some.injEq, Prod.mk.injEq] at h
    obtain ⟨k2, k3⟩ := of_decide_eq_true hb
    obtain ⟨kn2, a2, us, rfl, q2, qs, q3⟩ := absSrc_spec hx
    obtain ⟨hd, hv⟩ := voidOf_spec (N := N) hvd
    refine fin d b k us hd (Nat.le_of_ble_eq_true hG) q3 h.1.symm h.2.symm fun ρ w hO ty => ?_
    obtain ⟨l, S, v1, v2, v3⟩ := hv ρ w hO
    have A2 := N.F.src_ok a2 b _ _ _ qs q3 _ _ _ hO.ro.1 (hO.q n2 _ q2)
    have L2 := N.F.len_ok b _ _ _ q3
    rw [<- e1] at A2 L2 v2
    rw [<- k2] at L2
    obtain ⟨r, w', g1, lc, S', g2, g3, g4⟩ := app_core hu hi hz hzs' hpos' v2 (len := 0) (by simp) A2 L2 (N.F.arr_q b _ _ _ q3).1 (by rw [e2, Nat.zero_add]; exact k3) ty
    rw [v1, den_vs0, <- e1]
    simp only [Nat.zero_add, List.nil_append] at g2 g3
    exact ⟨r, w', S, g1, v3, lc, S', g2, g3, g4⟩
   ·simp [T.val] at h
  ·simp [T.val] at h
 ·rename_i n1 a len hG hs hx
  obtain ⟨kn1, vs, rfl, p2, p3⟩ := absOf_spec hs
  have L1 := N.F.len_ok a _ _ _ p3
  split at h
  ·-- nothing
   rename_i he
   obtain ⟨hb, h⟩ := need_some h
   simp only [T.val, Option.some.injEq, Prod.mk.injEq] at h
   obtain ⟨rfl, rfl⟩ := h
   have hb := of_decide_eq_true hb
   refine ⟨hcs, hC, fun ρ w hO ty => ?_⟩
   obtain ⟨b, cap2, hxd⟩ := empty_den he ρ
   have A1 := ((N.F.arr_q a _ _ _ p3).2 _ _ _).1 (hO.q n1 _ p2)
   have f1 := vecQ_fit A1 hpos L1
   have f1 : len <= (ρ.L n1).c - 1 := Nat.le_trans hb f1
   refine ⟨(Cell.vs n1 0 len si.size kn1).den ρ, w, ?_, ρ, rfl, hO, Evo.refl _ _ _ _⟩
   rw [hxd, den_vs0, vsDen_eq]
   split
   ·exact run_append_none w t ty si.e i hu hi (Nat.le_refl 0)
   ·exact run_append_none w t ty si.e i hu hi f1
  ·split at h
   ·rename_i n2 o2 k es _
    split at h
    ·rename_i news hn hne
     split at h
     ·rename_i c hc
      obtain ⟨hb, h⟩ := need_some h
      simp only [T.val, Option.some.injEq, Prod.mk.injEq] at h
      obtain ⟨k1, k3⟩ := of_decide_eq_true hb
      obtain ⟨hnm, es', ty1, vs', r1, r3⟩ := N.F.app_ok a news c hc
      rw [p3] at r1
      simp only [Option.some.injEq, Prod.mk.injEq] at r1
      obtain ⟨rfl, rfl, rfl⟩ := r1
      obtain ⟨l2, ty2, g1, g2, g3, g4, g5⟩ := sliceCells_spec hn
      subst g2
      refine fin (some n1) c (len + k) _ (fun n h => by cases h; exact ⟨_, p2⟩) (Nat.le_of_ble_eq_true hG) r3 h.1.symm h.2.symm fun ρ w hO ty => ?_
      have A1 := ((N.F.arr_q a _ _ _ p3).2 _ _ _).1 (hO.q n1 _ p2)
      rw [<- k1] at L1
      have hdn : denL Nm.id news = denL ρ news := by
       unfold denL
       exact List.map_congr_left fun y hy => den_congr y (fun m hm => by rw [hnm y hy] at hm; cases hm)
      have A2 : vecQ ⟨(ρ.L n2).b, (ρ.L n2).o + o2 * si.size, if k = 0 then 1 else (ρ.L n2).c - o2⟩ (if k = 0 then fun _ => False else ρ.S n2) (denL ρ news) si.size ty2 w := by
       rcases Nat.eq_zero_or_pos k with rfl | hk
       ·refine .inl ⟨by simp, ?_, fun b => by simp⟩
        exact List.length_eq_zero_iff.1 (by rw [den_len, g3]; simp)
       ·rw [if_neg (by omega), if_neg (by omega)]
        have hf := vs_fits hO hpos hn
        rcases hO.q n2 _ g1 with ⟨h0, _⟩ | ⟨hcp, hS, row, hrow, hrl, hll, hat⟩
        ·omega
        ·refine .inr ⟨by show 0 < (ρ.L n2).c - o2; omega, hS, row, hrow, ?_, ?_, ?_⟩
         ·show (ρ.L n2).o + o2 * si.size + ((ρ.L n2).c - o2 - 1) * si.size <= row.length
          rw [Nat.add_assoc, <- Nat.add_mul, show o2 + ((ρ.L n2).c - o2 - 1) = (ρ.L n2).c - 1 by omega]
          exact hrl
         ·show (denL ρ news).length <= ((ρ.L n2).c - o2 - 1) * si.size
          rw [den_len, g3]
          exact Nat.mul_le_mul_right _ (by omega)
         ·intro j y hy
          obtain ⟨cc, hcc, rfl⟩ := den_get ρ news j y hy
          have := hat (o2 * si.size + j) (cc.den ρ) (by simp [denL, g5 j cc hcc])
          rw [<- Nat.add_assoc] at this
          exact this
      have L2 : (denL ρ news).length = k * si.size := by rw [den_len, g3]
      rw [<- e1] at A1 L1 L2
      have A2' := vecQ_read A2
      rw [<- e1] at A2'
      obtain ⟨r, w', g1', lc, S', g2', g3', g4'⟩ := app_core hu hi hz hzs' hpos' A1 L1 A2' L2 (fun y hy => by
       obtain ⟨cc, _, rfl⟩ := List.mem_map.1 hy
       exact den_one ρ cc) (by rw [e2]; exact k3) ty
      rw [hdn]
      refine ⟨r, w', ρ.S n1, ?_, fun k hk => ⟨n1, _, rfl, p2, hk⟩, lc, S', g2', g3', g4'⟩
      rw [den_vs0, <- e1]
      have hk0 : k ≠ 0 := by
       rename_i he
       intro hk
       subst hk
       simp [emptyX] at he
      have hx2 : (Cell.vs n2 o2 k si.size true).den ρ = vsDen ⟨(ρ.L n2).b, (ρ.L n2).o + o2 * i.size, if k = 0 then 1 else (ρ.L n2).c - o2⟩ 0 k i.size := by
       simp only [Cell.den, vsDen, if_neg hk0]
       rw [if_neg (fun h => hk0 h.1), if_neg (fun h => hk0 h.1), e1]
       simp only [Nat.zero_mul, Nat.add_zero]
       congr 1
       omega
      rw [e1] at hx2 ⊢
      rw [hx2, <- e1]
      exact g1'
     ·simp [T.val] at h
    ·simp [T.val] at h
   ·simp [T.val] at h
 ·simp [T.val] at h
def bndN : SV -> Option Int
 | .v (.c c) => match intC c with
   | some (_, n, _) => some n
   | none => none
 | _ => none
theorem bndN_spec {x : SV} {n : Int} (h : bndN x = some n) (ρ : Nm) : ∃ k, x.den ρ = .int k n := by
 unfold bndN at h
 split at h
 ·rename_i c
  split at h
  ·rename_i k m b hc
   cases h
   exact ⟨k, by simp only [SV.den, V1.den]; exact intC_den ρ hc⟩
  ·cases h
 ·cases h
def cutG (F : Intf AV) (si : SI) (G : Nat) (s : Cell) (lo hi : Int) (H : Hp AV) : T (SV × Hp AV) :=
 match Nat.ble G H.length, absOf F si H s with
 | true, some (n, a, len) => match F.cut a lo.toNat hi.toNat with
   | some c => .need (decide (0 <= lo /\ lo <= hi /\ hi <= (len : Int) /\ len = F.len a)) (.leaf (.v (.c (.vs H.length 0 (hi.toNat - lo.toNat) si.size false)), killO H (some n) ++ [some (.abs c)]))
   | none => .fail "slice: arrays"
 | _, _ => .fail "slice: arrays"
def lenG : Cell -> Int
 | .vs _ _ len _ _ => len
 | _ => 0
def noneG (F : Intf AV) (si : SI) (s : Cell) (H : Hp AV) : T (SV × Hp AV) :=
 match absOf F si H s with
 | some (n, a, len) => .need (decide (len <= F.len a)) (.leaf (.v (.c (.sf n 0 si.size true (headF 0 si.size) (noneF_ok _ 0 si.size))), H))
 | none => .fail "slice: arrays"
def sliceG (F : Intf AV) (sl : Tr SI) (G : Nat) (t : TypeId) (lo hi mx : Bool) (args : List SV) (H : Hp AV) : T (SV × Hp AV) :=
 match sl.get t with
 | none => .fail "slice: arrays"
 | some si => match lo, hi, mx, args with
   | true, false, false, [.v (.c s), l] => match bndN l with
     | some l => cutG F si G s l (lenG s) H
     | _ => .fail "slice: arrays"
   | false, true, false, [.v (.c s), h] => match bndN h with
     | some h => cutG F si G s 0 h H
     | none => .fail "slice: arrays"
   | true, true, false, [.v (.c s), l, h] => match bndN l, bndN h with
     | some l, some h => cutG F si G s l h H
     | _, _ => .fail "slice: arrays"
   | false, true, true, [.v (.c s), h, m] => match litN h, litN m with
     | some 0, some 0 => noneG F si s H
     | _, _ => .fail "slice: arrays"
   | _, _, _, _ => .fail "slice: arrays"
def isArr (F : Intf AV) (sl : Tr SI) (H : Hp AV) (t : TypeId) : List SV -> Bool
 | [] => false
 | .v (.c x) :: r => match sl.get t with
   | some si => match absSrc F si H x with
     | some _ => true
     | none => isArr F sl H t r
   | none => false
 | _ :: r => isArr F sl H t r
def hvG (F : Intf AV) (sl : Tr SI) (G : Nat) (o : Op) (args : List SV) (H : Hp AV) : T (SV × Hp AV) :=
 match o with
 | .call c => match c.callee with
   | .builtin .append => match args, c.argTypes.toList with
     | [.v (.c s), .v (.c x)], [t, t'] => match isArr F sl H t [.v (.c s), .v (.c x)], Nat.beq t t', sl.get t with
       | true, true, some si => appG F si G s x H
       | true, _, _ => .fail "append: arrays"
       | false, _, _ => hvF sl G o args H
     | _, _ => .fail "append: arrays"
   | _ => hvF sl G o args H
 | .slice t _ lo hi mx => match isArr F sl H t args with
   | true => sliceG F sl G t lo.isSome hi.isSome mx.isSome args H
   | false => hvF sl G o args H
 | _ => hvF sl G o args H
theorem cutG_ok {si : SI} (hpos : 0 < si.size) {H H' : Hp AV} {v : SV} {s : Cell} {lo hi : Int} (hC : ClHp N H) (h : (cutG N.F si N.G s lo hi H).val = some (v, H')) : ClV H' v /\ ClHp N H' /\ ∀ (ρ : Nm) (w : World), Own N ρ H w ->
 ∃ a len cap, s.den ρ = .slice a len cap /\ 0 <= lo /\ lo <= hi /\ hi <= (len : Int) /\ len <= cap /\ lenG s = len /\ ∃ ρ', v.den ρ' = sliced a lo.toNat hi.toNat cap si.size /\ Own N ρ' H' w /\ Evo N H.length ρ H w ρ' H' w := by
 unfold cutG at h
 split at h
 ·rename_i n a len hG hs
  split at h
  ·rename_i c hcut
   obtain ⟨hb, h⟩ := need_some h
   simp only [T.val, Option.some.injEq, Prod.mk.injEq] at h
   obtain ⟨rfl, rfl⟩ := h
   obtain ⟨k0, k1, k2, k3⟩ := of_decide_eq_true hb
   obtain ⟨kn, vs, rfl, p2, p3⟩ := absOf_spec hs
   obtain ⟨es', ty', vs', r1, r2⟩ := N.F.cut_ok a _ _ c hcut
   rw [p3] at r1
   simp only [Option.some.injEq, Prod.mk.injEq] at r1
   obtain ⟨rfl, rfl, rfl⟩ := r1
   have L1 := N.F.len_ok a _ _ _ p3
   rw [<- k3] at L1
   obtain ⟨l, rfl⟩ := Int.eq_ofNat_of_zero_le k0
   obtain ⟨m, rfl⟩ := Int.eq_ofNat_of_zero_le (Int.le_trans k0 k1)
   simp only [Int.toNat_natCast] at *
   have k1 : l <= m := by omega
   have k2 : m <= len := by omega
   have hd : ∀ x, (some n : Option Nat) = some x -> ∃ c, hget H x = some c := fun x h => by cases h; exact ⟨_, p2⟩
   refine ⟨cl_new hd 0 _ _ _, cl_abs hC hd c, fun ρ w hO => ?_⟩
   have A1 := ((N.F.arr_q a _ _ _ p3).2 _ _ _).1 (hO.q n _ p2)
   have f1 := vecQ_fit A1 hpos L1
   have hcut0 : l = m -> (vs.take (m * si.size)).drop (l * si.size) = [] := fun e => by
    subst e
    apply List.drop_eq_nil_of_le
    simp
    omega
   have go : ∀ (lc : Loc) (S' : Nat -> Prop), vecQ lc S' ((vs.take (m * si.size)).drop (l * si.size)) si.size si.e w -> (∀ k, S' k -> ρ.S n k) -> ∀ b, vsDen lc 0 (m - l) si.size = b ->
    ∃ ρ', SV.den ρ' (.v (.c (.vs H.length 0 (m - l) si.size false))) = b /\ Own N ρ' (killO H (some n) ++ [some (.abs c)]) w /\ Evo N H.length ρ H w ρ' (killO H (some n) ++ [some (.abs c)]) w := by
    intro lc S' hv hS b hb
    obtain ⟨o1, o2⟩ := arr_swap (w' := w) (S := ρ.S n) hO hC (Nat.le_of_ble_eq_true hG) hd r2 (fun k hk => ⟨n, _, rfl, p2, hk⟩) hv ⟨fun _ _ _ => rfl, fun k hk => .inr (hS k hk), rfl, rfl, rfl, Nat.le_refl _⟩
    refine ⟨_, ?_, o1, o2⟩
    simp only [SV.den, V1.den, Cell.den, (set_L _ _ _ _).1]
    exact hb
   by_cases hc : (ρ.L n).c = 0
   ·have hl0 : len = 0 := by omega
    have hm0 : m = 0 := by omega
    have hz0 : l = 0 := by omega
    subst hl0 hm0 hz0
    refine ⟨none, 0, 0, by rw [den_vs0, vsDen_eq, if_pos ⟨rfl, hc⟩], by omega, by omega, by omega, by omega, rfl, ?_⟩
    exact go ⟨0, 0, 0⟩ (fun _ => False) (.inl ⟨Nat.zero_le _, hcut0 rfl, fun _ h => h⟩) (fun _ h => h.elim) _ (by simp [vsDen, sliced])
   ·refine ⟨some ⟨(ρ.L n).b, (ρ.L n).o, none⟩, len, (ρ.L n).c - 1, by rw [den_vs0, vsDen_eq, if_neg (fun h => hc h.2)], by omega, by omega, by omega, f1, rfl, ?_⟩
    by_cases hcap : (ρ.L n).c - 1 = l
    ·have hml : m = l := by omega
     subst hml
     refine go ⟨(ρ.L n).b, (ρ.L n).o, 1⟩ (fun _ => False) (.inl ⟨Nat.le_refl _, hcut0 rfl, fun _ h => h⟩) (fun _ h => h.elim) _ ?_
     simp [vsDen, sliced, hcap]
    ·rcases A1 with ⟨h0, h1, _⟩ | ⟨hcp, hS, row, hrow, hrl, hll, hat⟩
     ·omega
     ·refine go ⟨(ρ.L n).b, (ρ.L n).o + l * si.size, (ρ.L n).c - l⟩ (ρ.S n) (.inr ⟨by show 0 < (ρ.L n).c - l; omega, hS, row, hrow, ?_, ?_, ?_⟩) (fun _ h => h) _ ?_
      ·show (ρ.L n).o + l * si.size + ((ρ.L n).c - l - 1) * si.size <= row.length
       rw [Nat.add_assoc, <- Nat.add_mul, show l + ((ρ.L n).c - l - 1) = (ρ.L n).c - 1 by omega]
       exact hrl
      ·show _ <= ((ρ.L n).c - l - 1) * si.size
       rw [List.length_drop, List.length_take]
       have : m * si.size <= ((ρ.L n).c - 1) * si.size := Nat.mul_le_mul_right _ (by omega)
       have e : ((ρ.L n).c - l - 1) * si.size = ((ρ.L n).c - 1) * si.size - l * si.size := by
        rw [<- Nat.sub_mul]; congr 1; omega
       rw [e]
       omega
      ·intro j v hv
       rw [List.getElem?_drop, List.getElem?_take] at hv
       split at hv
       ·have := hat _ v hv
        rw [<- Nat.add_assoc] at this
        exact this
       ·cases hv
      ·have hne : ¬ ((ρ.L n).c - l = 0) := by omega
       simp only [vsDen, sliced, if_neg hcap]
       rw [if_neg (fun h => hne h.2)]
       have ea : (⟨(ρ.L n).b, (ρ.L n).o, none⟩ : Addr).add (l * si.size) = ⟨(ρ.L n).b, (ρ.L n).o + l * si.size, none⟩ := by
        unfold Addr.add
        by_cases hj : l * si.size = 0 <;> simp [hj]
       simp only [Option.map_some, ea, Nat.zero_mul, Nat.add_zero, Nat.sub_zero]
       congr 1
       omega
  ·simp [T.val] at h
 ·simp [T.val] at h
theorem noneG_ok {si : SI} (hpos : 0 < si.size) {H H' : Hp AV} {v : SV} {s : Cell} (h : (noneG N.F si s H).val = some (v, H')) : H' = H /\ ClV H v /\ ∀ (ρ : Nm) (w : World), Own N ρ H w ->
 ∃ a len cap, s.den ρ = .slice a len cap /\ v.den ρ = sliced a 0 0 0 si.size := by
 unfold noneG at h
 split at h
 ·rename_i n a len hs
  obtain ⟨hb, h⟩ := need_some h
  have hb := of_decide_eq_true hb
  simp only [T.val, Option.some.injEq, Prod.mk.injEq] at h
  obtain ⟨rfl, rfl⟩ := h
  obtain ⟨kn, vs, rfl, p2, p3⟩ := absOf_spec hs
  refine ⟨rfl, ?_, fun ρ w hO => ?_⟩
  ·intro c hc m hm
   simp [V1.cells] at hc
   subst hc
   simp only [Cell.name, Option.some.injEq] at hm
   subst hm
   exact ⟨_, p2⟩
  ·rw [den_vs0, vsDen_eq]
   by_cases hc : len = 0 /\ (ρ.L n).c = 0
   ·rw [if_pos hc]
    exact ⟨_, _, _, rfl, by simp [SV.den, V1.den, Cell.den, vsDen, SfF.ap, hc.2, sliced]⟩
   ·rw [if_neg hc]
    by_cases hc0 : (ρ.L n).c = 0
    ·have A1 := ((N.F.arr_q a _ _ _ p3).2 _ _ _).1 (hO.q n _ p2)
     have f1 := vecQ_fit A1 hpos (N.F.len_ok a _ _ _ p3)
     exact absurd ⟨by omega, hc0⟩ hc
    ·exact ⟨_, _, _, rfl, by simp [SV.den, V1.den, Cell.den, vsDen, SfF.ap, hc0, sliced]⟩
 ·simp [T.val] at h
theorem hvG_ok {sl : Tr SI} (hsl : SlOk P sl) (hhv : N.hv = hvG N.F sl N.G) : HvOk P N := by
 intro o args H v H' h hargs hC
 rw [hhv] at h
 have old : (hvF sl N.G o args H).val = some (v, H') -> ClV H' v /\ ClHp N H' /\ ∀ (ρ : Nm) (w : World), Own N ρ H w ->
  Does P (.op o) (args.map (SV.den ρ)) w fun e w' => ∃ ρ', e = v.den ρ' /\ Own N ρ' H' w' /\ Evo N H.length ρ H w ρ' H' w' := by
  intro h
  obtain ⟨a1, a2, a3⟩ := hvF_ok (P := P) (N := { N with hv := hvF sl N.G }) hsl rfl o args H v H' h hargs ⟨fun n x hh => hC.1 n x hh, trivial⟩
  refine ⟨a1, ⟨fun n x hh => a2.1 n x hh, trivial⟩, fun ρ w hO => (a3 ρ w (own_env (N := N) (N' := { N with hv := hvF sl N.G }) rfl rfl hO)).mono ?_⟩
  rintro e w' ⟨ρ', h1, h2, h3⟩
  exact ⟨ρ', h1, own_env (N := { N with hv := hvF sl N.G }) (N' := N) rfl rfl h2, evo_env N h3⟩
 unfold hvG at h
 split at h
 ·rename_i c
  split at h
  ·rename_i hcal
   split at h
   ·rename_i s x t t' hty
    split at h
    ·rename_i si _ htt hs
     have htt := (beq_iff _ _).1 htt
     subst htt
     obtain ⟨hu, i, z, hi, hz, e1, e2, hpos, hzl, hzd, hzn⟩ := mkSI_spec (hsl t si hs)
     have hzs : z.cells.size = si.size := by
      have := congrArg List.length (hzd Nm.id)
      rw [den_len] at this
      simp at this
      omega
     obtain ⟨c1, c2, c3⟩ := appG_ok hu hi hz e1 e2 hpos hzs hC (hargs _ (List.mem_cons_self ..)) h
     refine ⟨c1, c2, fun ρ w hO => ?_⟩
     intro ev o ho hv
     obtain ⟨r, w', hr, ρ', h1, h2, h3⟩ := c3 ρ w hO o.type
     exact ⟨r, w', .inl (exec_append ho hcal hty (by rw [hv]; simp [SV.den, V1.den]) hr), ρ', h1, h2, h3⟩
    ·simp [T.val] at h
    ·exact old h
   ·simp [T.val] at h
  ·exact old h
 ·rename_i t x lo hi mx
  split at h
  ·unfold sliceG at h
   split at h
   ·simp [T.val] at h
   ·rename_i si hs
    obtain ⟨hu, i, z, hii, hz, e1, e2, hpos, hzl, hzd, hzn⟩ := mkSI_spec (hsl t si hs)
    split at h
    ·rename_i s l q1 q2 q3 _
     split at h
     ·rename_i ln hl1
      obtain ⟨k1, k0, k2⟩ := cutG_ok hpos hC h
      refine ⟨k1, k0, fun ρ w hO => ?_⟩
      intro ev o ho hv
      obtain ⟨a, len, cap, d1, d2, d3, d4, d5, d6, ρ', d7, d8, d9⟩ := k2 ρ w hO
      obtain ⟨kk, hk⟩ := bndN_spec hl1 ρ
      cases lo with
      | none => cases q1
      | some lo =>
      cases hi with
      | some _ => cases q2
      | none =>
      cases mx with
      | some _ => cases q3
      | none =>
      simp [Op.operands, SV.den, V1.den, d1] at hv
      obtain ⟨v1, v2⟩ := hv
      refine ⟨v.den ρ', w, .inl ?_, ρ', rfl, d8, d9⟩
      rw [d7, <- e1, d6]
      refine exec_slice ho hu hii v1 ?_
      have v2 : ev lo = .int kk ln := by rw [v2]; exact hk
      have hle : ln <= (len : Int) := by omega
      simp [Instr.sliceBounds, v2, run_sliceBound, d2, hle]
     ·simp [T.val] at h
    ·rename_i s h' q1 q2 q3 _
     split at h
     ·rename_i hn hl1
      obtain ⟨k1, k0, k2⟩ := cutG_ok hpos hC h
      refine ⟨k1, k0, fun ρ w hO => ?_⟩
      intro ev o ho hv
      obtain ⟨a, len, cap, d1, d2, d3, d4, d5, d6, ρ', d7, d8, d9⟩ := k2 ρ w hO
      obtain ⟨kk, hk⟩ := bndN_spec hl1 ρ
      cases lo with
      | some _ => cases q1
      | none =>
      cases hi with
      | none => cases q2
      | some hi =>
      cases mx with
      | some _ => cases q3
      | none =>
      simp [Op.operands, SV.den, V1.den, d1] at hv
      obtain ⟨v1, v2⟩ := hv
      refine ⟨v.den ρ', w, .inl ?_, ρ', rfl, d8, d9⟩
      rw [d7, <- e1]
      refine exec_slice ho hu hii v1 ?_
      have v2 : ev hi = .int kk hn := by rw [v2]; exact hk
      have hle : hn <= (cap : Int) := by omega
      simp [Instr.sliceBounds, v2, run_sliceBound, d3, hle]
     ·simp [T.val] at h
    ·rename_i s l h' q1 q2 q3 _
     split at h
     ·rename_i ln hn hl1 hl2
      obtain ⟨k1, k0, k2⟩ := cutG_ok hpos hC h
      refine ⟨k1, k0, fun ρ w hO => ?_⟩
      intro ev o ho hv
      obtain ⟨a, len, cap, d1, d2, d3, d4, d5, d6, ρ', d7, d8, d9⟩ := k2 ρ w hO
      obtain ⟨kk, hk⟩ := bndN_spec hl1 ρ
      obtain ⟨kh, hkh⟩ := bndN_spec hl2 ρ
      cases lo with
      | none => cases q1
      | some lo =>
      cases hi with
      | none => cases q2
      | some hi =>
      cases mx with
      | some _ => cases q3
      | none =>
      simp [Op.operands, SV.den, V1.den, d1] at hv
      obtain ⟨v1, v2, v3⟩ := hv
      refine ⟨v.den ρ', w, .inl ?_, ρ', rfl, d8, d9⟩
      rw [d7, <- e1]
      refine exec_slice ho hu hii v1 ?_
      have v2 : ev lo = .int kk ln := by rw [v2]; exact hk
      have v3 : ev hi = .int kh hn := by rw [v3]; exact hkh
      have hle : hn <= (cap : Int) := by omega
      have h0 : 0 <= hn := by omega
      have hle2 : ln <= ((hn.toNat : Nat) : Int) := by rw [Int.toNat_of_nonneg h0]; exact d3
      have hb := run_sliceBound (P := P) w kk ln hn.toNat .sliceB d2 hle2
      simp [Instr.sliceBounds, v2, v3, run_sliceBound, hle, h0, hb, Result.andThen]
     ·simp [T.val] at h
    ·rename_i s h' m' q1 q2 q3 _
     split at h
     ·rename_i hl1 hl2
      obtain ⟨rfl, k1, k2⟩ := noneG_ok hpos h
      refine ⟨k1, hC, fun ρ w hO => ?_⟩
      intro ev o ho hv
      obtain ⟨a, len, cap, d1, d6⟩ := k2 ρ w hO
      obtain ⟨kk, hk⟩ := litN_spec hl1 ρ
      obtain ⟨kh, hkh⟩ := litN_spec hl2 ρ
      cases lo with
      | some _ => cases q1
      | none =>
      cases hi with
      | none => cases q2
      | some hi =>
      cases mx with
      | none => cases q3
      | some mx =>
      simp [Op.operands, SV.den, V1.den, d1] at hv
      obtain ⟨v1, v2, v3⟩ := hv
      refine ⟨v.den ρ, w, .inl ?_, ρ, rfl, hO, Evo.refl _ _ _ _⟩
      rw [d6, <- e1]
      refine exec_slice ho hu hii v1 ?_
      have v2 : ev hi = .int kk 0 := by rw [v2]; exact hk
      have v3 : ev mx = .int kh 0 := by rw [v3]; exact hkh
      simp [Instr.sliceBounds, v2, v3, run_sliceBound]
     ·simp [T.val] at h
    ·simp [T.val] at h
  ·exact old h
 ·exact old h
end Go.Sx
