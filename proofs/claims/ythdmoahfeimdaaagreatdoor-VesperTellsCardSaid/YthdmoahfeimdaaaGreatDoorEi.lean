import Derived.Test.YthdmoahfeimdaaaGreatDoorChecked
import Derived.WalkKit
import Derived.LaidEql
import Derived.Stop.Asserts
import Derived.RowKitTokens
import Derived.Test.YthdmoahfeimdaaaGreatDoorSxM
import Derived.Test.YthdmoahfeimdaaaGreatDoorSxTm
import Derived.Test.YthdmoahfeimdaaaGreatDoorSxOb
import Derived.Test.YthdmoahfeimdaaaGreatDoorSxMp
import Derived.Lib.Builder
import Derived.Lib.UnsafeStr
import Derived.Shelf.Strings.Count
import Derived.Shelf.Strings.Search2
import Derived.Shelf.Strings.OnBuilder
import Derived.Shelf.Strconv.Itoa3
import Derived.Shelf.Lay
import Derived.Ground.NamesProg
import Derived.Shelf.Strings.Builder1
import Derived.Lib.AppendStr
import Derived.Lib.Walk
import Derived.Lib.Hide
import Derived.Laws.Externs
import Derived.Laws.IdiomStrings
import Derived.OwnWalk
import Derived.BigCall
import Derived.Handy
namespace Go.Proofs.YthdmoahfeimdaaaGreatDoor
open Go.RowKit Go.Extern.Stop Go.Stop Go.Extern
set_option maxRecDepth 100000
theorem Tryz.isTypeOf (v : Value) (w : World) : (Extern.ReflectliteType.typeOf #[.iface 386 v]).run Tryz.prog w = .ok (.iface 241 (.agg #[.pointer (some ⟨20, 386, none⟩)])) w := by kernel_rfl
theorem Tryz.isComparable (w : World) : ((Extern.ReflectliteType.method fun t => do Go.Extern.Rtype.noPackHeld "Comparable" t; (fun a => Value.bool a.comparable) <$> typeInfo t) #[.agg #[.pointer (some ⟨20, 386, none⟩)]]).run Tryz.prog w = .ok (.bool true) w := by kernel_rfl
theorem Tryz.isMethodComparable (v : Value) (w : World) : (Go.method 554 241 v "Comparable").run Tryz.prog w = .ok (350, v) w := by kernel_rfl
theorem Tryz.isComp : (Tryz.prog.info? 386).map (·.comparable) = some true := by kernel_rfl
theorem Tryz.isSize : (Tryz.prog.info? 443).map (·.size) = some 1 := by kernel_rfl
theorem Tryz.noIsE (v : Value) (xT : TypeId) (w : World) : (Instr.typeAssert (.iface 386 v) xT 243 true).run Tryz.prog w = .ok (.tuple #[.nilIface, .bool false]) w := run_typeAssert_lacksB Tryz.underlying243 (by kernel_rfl) (by kernel_rfl) v xT w
theorem Tryz.noUnwrapE (v : Value) (xT : TypeId) (w : World) : (Instr.typeAssert (.iface 386 v) xT 246 true).run Tryz.prog w = .ok (.tuple #[.nilIface, .bool false]) w := run_typeAssert_lacksB Tryz.underlying246 (by kernel_rfl) (by kernel_rfl) v xT w
theorem Tryz.noUnwrapsE (v : Value) (xT : TypeId) (w : World) : (Instr.typeAssert (.iface 386 v) xT 247 true).run Tryz.prog w = .ok (.tuple #[.nilIface, .bool false]) w := run_typeAssert_lacksB Tryz.underlying247 (by kernel_rfl) (by kernel_rfl) v xT w
theorem Tryz.noIsW (v : Value) (xT : TypeId) (w : World) : (Instr.typeAssert (.iface 250 v) xT 243 true).run Tryz.prog w = .ok (.tuple #[.nilIface, .bool false]) w := run_typeAssert_lacksB Tryz.underlying243 (by kernel_rfl) (by kernel_rfl) v xT w
theorem Tryz.hasUnwrapW (v : Value) (xT : TypeId) (w : World) : (Instr.typeAssert (.iface 250 v) xT 246 true).run Tryz.prog w = .ok (.tuple #[.iface 250 v, .bool true]) w := run_typeAssert_hasB Tryz.underlying246 (by kernel_rfl) v xT w
theorem Tryz.methodUnwrap (v : Value) (w : World) : (Go.method 554 250 v "Unwrap").run Tryz.prog w = .ok (360, v) w := by kernel_rfl
theorem is_same (a : Addr) (w : World) :
 Calls Tryz.prog 39 #[.iface 386 (.pointer (some a)), .iface 386 (.pointer (some a))] w fun e w' => e = .returned (.bool true) /\ w' = w := by
 obtain ⟨i, hi, hcmp⟩ := Option.map_eq_some_iff.1 Tryz.isComp
 obtain ⟨j, hj, hjs⟩ := Option.map_eq_some_iff.1 Tryz.isSize
 have h8 := @run_callFunc_extern Tryz.prog 72 _ Extern.ReflectliteType.typeOf Tryz.func72 (by kernel_rfl) (by kernel_rfl) (by kernel_rfl) (by kernel_rfl)
 have h32 := @run_callFunc_extern Tryz.prog 350 _ (Extern.ReflectliteType.method fun t => do Go.Extern.Rtype.noPackHeld "Comparable" t; pure (.bool (<- typeInfo t).comparable)) Tryz.func350 (by kernel_rfl) (by kernel_rfl) (by kernel_rfl) (by kernel_rfl)
 have tT := Tryz.isTypeOf
 have cT := Tryz.isComparable
 have mR := Tryz.isMethodComparable
 have heq := run_eql_iface_ptr_same (P := Tryz.prog) w a Tryz.underlying43 Tryz.underlying386 hi hcmp hj
 go_enter Tryz.func39, Tryz.ntmps39
 go_wp2
 refine wp_loop_rounds 1 ?_
 rw [rounds_succ]
 go_wp2
 go_ret
 exact ⟨rfl, rfl⟩
theorem is_other (a b : Addr) (ca cb : Array Value) (ta tb : TypeId) (w : World) (hne : a ≠ b) (ha : w.heap[a.block]? = some (.cells ca ta (0, 0))) (hb : w.heap[b.block]? = some (.cells cb tb (0, 0))) :
 Calls Tryz.prog 39 #[.iface 386 (.pointer (some a)), .iface 386 (.pointer (some b))] w fun e w' => e = .returned (.bool false) /\ w' = w := by
 obtain ⟨i, hi, hcmp⟩ := Option.map_eq_some_iff.1 Tryz.isComp
 obtain ⟨j, hj, hjs⟩ := Option.map_eq_some_iff.1 Tryz.isSize
 have h8 := @run_callFunc_extern Tryz.prog 72 _ Extern.ReflectliteType.typeOf Tryz.func72 (by kernel_rfl) (by kernel_rfl) (by kernel_rfl) (by kernel_rfl)
 have h32 := @run_callFunc_extern Tryz.prog 350 _ (Extern.ReflectliteType.method fun t => do Go.Extern.Rtype.noPackHeld "Comparable" t; pure (.bool (<- typeInfo t).comparable)) Tryz.func350 (by kernel_rfl) (by kernel_rfl) (by kernel_rfl) (by kernel_rfl)
 have tT := Tryz.isTypeOf
 have cT := Tryz.isComparable
 have mR := Tryz.isMethodComparable
 have nE := Tryz.noIsE
 have uE := Tryz.noUnwrapE
 have vE := Tryz.noUnwrapsE
 have nW := Tryz.noIsW
 have uW := Tryz.hasUnwrapW
 have mU := Tryz.methodUnwrap
 have heq := run_eql_iface_ptr_other (P := Tryz.prog) w Tryz.underlying43 Tryz.underlying386 hi hcmp hj (by rw [hjs]; decide) hne ha hb
 go_enter Tryz.func39, Tryz.ntmps39
 go_wp2
 refine wp_loop_rounds 1 ?_
 rw [rounds_succ]
 go_wp2
 go_ret
 exact ⟨rfl, rfl⟩
end Go.Proofs.YthdmoahfeimdaaaGreatDoor

namespace Go.Proofs.YthdmoahfeimdaaaGreatDoor
open Go Go.Sx Go.Proofs
variable {AV : Type} {N : Env AV}
theorem same_ok {f : FuncId} {args : List SV} {H : Hp AV} {v : SV} (hC : ClHp N H) (hv : Plain v)
 (hc : ∀ (ρ : Nm) (w : World), Own N ρ H w -> Calls Tryz.prog f (args.map (SV.den ρ)).toArray w fun e w' => e = .returned (v.den ρ) /\ w' = w) :
 ClV H v /\ ClHp N H /\ ∀ (ρ : Nm) (w : World), Own N ρ H w ->
  Calls Tryz.prog f (args.map (SV.den ρ)).toArray w fun e w' => ∃ ρ', e = .returned (v.den ρ') /\ Own N ρ' H w' /\ Evo N H.length ρ H w ρ' H w' := by
 refine ⟨hv.cl _, hC, fun ρ w hO => (hc ρ w hO).mono ?_⟩
 rintro e w' ⟨rfl, rfl⟩
 exact ⟨ρ, rfl, hO, Evo.refl _ _ _ _⟩
end Go.Proofs.YthdmoahfeimdaaaGreatDoor

namespace Go.Proofs.YthdmoahfeimdaaaGreatDoor
open Go Go.Sx Go.Proofs
set_option linter.unusedVariables false
def noNmB : List Cell -> Bool
 | [] => true
 | c :: r => match c.name with | none => noNmB r | some _ => false
theorem noNmB_spec : ∀ {l : List Cell}, noNmB l = true -> ∀ c ∈ l, c.name = none
 | [], _, c, hc => by cases hc
 | x :: r, h, c, hc => by
   simp only [noNmB] at h
   split at h
   ·rename_i hx
    rcases List.mem_cons.1 hc with rfl | hc
    ·exact hx
    ·exact noNmB_spec h c hc
   ·cases h
def mpGood (ks : List FK) (ag : Bool) : List (V1 × V1) -> Bool
 | [] => true
 | e :: r => match keyOk ks ag e.1, noNmB e.1.cells, noNmB e.2.cells with
   | true, true, true => mpGood ks ag r
   | _, _, _ => false
theorem mpGood_spec {ks : List FK} {ag : Bool} : ∀ {l : List (V1 × V1)}, mpGood ks ag l = true -> ∀ e ∈ l, keyOk ks ag e.1 = true /\ (∀ c ∈ e.1.cells, c.name = none) /\ ∀ c ∈ e.2.cells, c.name = none
 | [], _, e, he => by cases he
 | x :: r, h, e, he => by
   simp only [mpGood] at h
   split at h
   ·rename_i h1 h2 h3
    rcases List.mem_cons.1 he with rfl | he
    ·exact ⟨h1, noNmB_spec h2, noNmB_spec h3⟩
    ·exact mpGood_spec h e he
   ·cases h
theorem lookV_mem {k z : V1} : ∀ {l : List (V1 × V1)}, (lookV k z l).1 = z \/ ∃ e ∈ l, (lookV k z l).1 = e.2
 | [] => .inl rfl
 | e :: r => by
   simp only [lookV]
   split
   ·exact .inr ⟨e, List.mem_cons_self .., rfl⟩
   ·rcases lookV_mem (l := r) with h | ⟨x, hx, h⟩
    ·exact .inl h
    ·exact .inr ⟨x, List.mem_cons_of_mem _ hx, h⟩
def txB (l : List UInt8) : ByteArray := ⟨l.toArray⟩
def sentTx : Nat -> Option (List ByteArray × TypeId)
 | 1 => some ([txB [112,117,115,104], txB [112,111,112], txB [112,101,101,107], txB [101,110,113,117,101,117,101], txB [100,101,113,117,101,117,101], txB [105,110,115,101,114,116], txB [100,101,108,101,116,101], txB [103,101,116]], 77)
 | 12 => some ([txB [112,105,108,101], txB [99,111,114,116,101,103,101], txB [108,105,116,97,110,121], txB [118,97,117,108,116], txB [115,116,101,101,112,108,101]], 195)
 | 13 => some ([txB [110,101,118,101,114], txB [104,97,122,97,114,100], txB [101,114,97,115], txB [101,112,111,99,104,115], txB [105,110,116,101,114,118,97,108]], 195)
 | _ => none
inductive AV where
 | sent (i : Nat) | ints (l : List N1) | strs (l : List Tx) | rows (l : List Rw) | pairs (l : List Pr)
 | intsA (l : List N1) | strsA (l : List Tx) | rowsA (l : List Rw) | pairsA (l : List Pr)
 | mpG (ks : List FK) (ag : Bool) (es : List (V1 × V1)) | sheet (k : Bool) (l : List UInt8) | obj (d : Nat) (ty : TypeId) (cs : List (GC AV))
abbrev kints : AK N1 := N1.ak 3
abbrev kstrs : AK Tx := Tx.ak 9
abbrev krows : AK Rw := Rw.ak 38
abbrev kpairs : AK Pr := Pr.ak 49
structure Ar where
 α : Type
 K : AK α
 l : List α
def AV.ar : AV -> Option Ar
 | .ints l => some ⟨N1, kints, l⟩
 | .strs l => some ⟨Tx, kstrs, l⟩
 | .rows l => some ⟨Rw, krows, l⟩
 | .pairs l => some ⟨Pr, kpairs, l⟩
 | _ => none
def AV.fix : AV -> Option Ar
 | .intsA l => some ⟨N1, kints, l⟩
 | .strsA l => some ⟨Tx, kstrs, l⟩
 | .rowsA l => some ⟨Rw, krows, l⟩
 | .pairsA l => some ⟨Pr, kpairs, l⟩
 | _ => none
def AV.src : AV -> Option AV
 | .intsA l => some (.ints l)
 | .strsA l => some (.strs l)
 | .rowsA l => some (.rows l)
 | .pairsA l => some (.pairs l)
 | .ints l => some (.ints l)
 | .strs l => some (.strs l)
 | .rows l => some (.rows l)
 | .pairs l => some (.pairs l)
 | _ => none
def AV.upd : AV -> Nat -> Nat -> Nat -> List Cell -> Option (Bool × AV)
 | .ints l, i, e, o, cs => match kints.upd l i e o cs with | some (b, r) => some (b, .ints r) | none => none
 | .strs l, i, e, o, cs => match kstrs.upd l i e o cs with | some (b, r) => some (b, .strs r) | none => none
 | .rows l, i, e, o, cs => match krows.upd l i e o cs with | some (b, r) => some (b, .rows r) | none => none
 | .pairs l, i, e, o, cs => match kpairs.upd l i e o cs with | some (b, r) => some (b, .pairs r) | none => none
 | _, _, _, _, _ => none
def AV.cat : AV -> AV -> Option AV
 | .ints l, .ints r => some (.ints (l ++ r))
 | .strs l, .strs r => some (.strs (l ++ r))
 | .rows l, .rows r => some (.rows (l ++ r))
 | .pairs l, .pairs r => some (.pairs (l ++ r))
 | _, _ => none
def AV.app : AV -> List Cell -> Option AV
 | .ints l, cs => match kints.app l cs with | some r => some (.ints r) | none => none
 | .strs l, cs => match kstrs.app l cs with | some r => some (.strs r) | none => none
 | .rows l, cs => match krows.app l cs with | some r => some (.rows r) | none => none
 | .pairs l, cs => match kpairs.app l cs with | some r => some (.pairs r) | none => none
 | _, _ => none
def AV.cut : AV -> Nat -> Nat -> Option AV
 | .ints l, i, j => some (.ints ((l.take j).drop i))
 | .strs l, i, j => some (.strs ((l.take j).drop i))
 | .rows l, i, j => some (.rows ((l.take j).drop i))
 | .pairs l, i, j => some (.pairs ((l.take j).drop i))
 | _, _, _ => none
def AV.rar (a : AV) : Option Ar := match a.ar with
 | some r => some r
 | none => a.fix
def AV.row (a : AV) (i e : Nat) : Option (Bool × List Cell) := match a.rar with
 | some r => r.K.row r.l i e
 | none => none
def AV.arr (a : AV) : Option (Nat × TypeId × List Value) := match a.ar with
 | some r => r.K.arr r.l
 | none => none
def AV.len (a : AV) : Nat := match a.ar with
 | some r => r.l.length
 | none => 0
structure Sg where
 σ : Nat -> Addr
 R : Nat -> Option Obj
instance : CoeFun Sg (fun _ => Nat -> Addr) := ⟨Sg.σ⟩
def Sg.has (σ : Sg) (w : World) : Prop := ∀ k o, σ.R k = some o -> w.heap[k]? = some o
def fixQ (σ : Sg) {α : Type} (K : AK α) (l : List α) (lc : Sx.Loc) (S : Nat -> Prop) : Prop := (∀ k, ¬ S k) /\ ∀ w, σ.has w -> readQ lc (K.vals l) K.es w
def sentW (σ : Sg) (i : Nat) : List Cell := match sentTx i with
 | some (l, _) => l.map Cell.st
 | none => [.ifc 386 (.op i (σ i))]
def sentT (i : Nat) : TypeId := match sentTx i with
 | some (_, t) => t
 | none => 43
def sheetQ (l : Sx.Loc) (S : Nat -> Prop) (bs : List UInt8) (w : World) : Prop :=
 ∃ p v : Value, (p = .pointer none \/ p = .pointer (some ⟨l.b, 0, none⟩)) /\ (∀ k, S k ↔ k = l.b \/ v.ownBlock = some k) /\ w.heap[l.b]? = some (.cells #[p, v] 55 (0, 0)) /\ v.ownBlock ≠ some l.b /\
   w.ownsRow 0 5 1 v bs.length (Lib.byteCells bs)
def AV.q (σ : Sg) (a : AV) (l : Sx.Loc) (S : Nat -> Prop) (w : World) : Prop := match a with
 | .sent i => (∀ k, S k ↔ k = l.b) /\ w.heap[l.b]? = some (.cells (denL Nm.id (sentW σ i)).toArray (sentT i) (0, 0))
 | a => match a.ar with
   | some r => r.K.q r.l l S w
   | none => match a.fix with
     | some r => fixQ σ r.K r.l l S
     | none => match a with
     | .mpG _ _ es => mapQ l S es w
     | .sheet _ bs => sheetQ l S bs w
     | _ => False
theorem AV.q_fix {σ : Sg} {a : AV} {r : Ar} (h0 : a.ar = none) (h : a.fix = some r) (l : Sx.Loc) (S : Nat -> Prop) (w : World) : a.q σ l S w ↔ fixQ σ r.K r.l l S := by
 cases a <;> simp only [AV.q, AV.ar, AV.fix] at h0 h ⊢ <;> cases h <;> exact Iff.rfl
theorem AV.q_ar {σ : Sg} {a : AV} {r : Ar} (h : a.ar = some r) (l : Sx.Loc) (S : Nat -> Prop) (w : World) : a.q σ l S w ↔ r.K.q r.l l S w := by
 cases a <;> simp only [AV.q, AV.ar] at h ⊢ <;> cases h <;> exact Iff.rfl
def AV.word (σ : Sg) : AV -> Option (List Cell)
 | .sent i => some (sentW σ i)
 | _ => none
def AV.same : AV -> AV -> Bool
 | .sent i, .sent j => Nat.beq i j
 | _, _ => false
theorem AV.arr_some {a : AV} {x : Nat × TypeId × List Value} (h : a.arr = some x) : ∃ r, a.ar = some r /\ x = (r.K.es, r.K.ty, r.K.vals r.l) := by
 unfold AV.arr at h
 split at h
 ·rename_i r hr
  cases h
  exact ⟨r, hr, rfl⟩
 ·cases h
theorem AV.arr_of {a : AV} {r : Ar} (h : a.ar = some r) : a.arr = some (r.K.es, r.K.ty, r.K.vals r.l) := by unfold AV.arr; rw [h]; rfl
def AV.mp : AV -> Option (List FK × Bool × List (V1 × V1))
 | .mpG ks ag es => match mpGood ks ag es with | true => some (ks, ag, es) | false => none
 | _ => none
def AV.mnew (ks : List FK) (ag : Bool) : Option AV := some (.mpG ks ag [])
def AV.mlook : AV -> V1 -> V1 -> Option (V1 × Bool × Bool)
 | .mpG ks ag es, k, z => match mpGood ks ag es, noNmB z.cells with
   | true, true => some ((lookV k z es).1, (lookV k z es).2, true)
   | _, _ => none
 | _, _, _ => none
def AV.mput : AV -> V1 -> V1 -> Option AV
 | .mpG ks ag es, k, v => match mpGood ks ag es, noNmB k.cells, noNmB v.cells with
   | true, true, true => match mpGood ks ag (putV k v es) with
     | true => some (.mpG ks ag (putV k v es))
     | false => none
   | _, _, _ => none
 | _, _, _ => none
def AV.mdel : AV -> V1 -> Option AV
 | .mpG ks ag es, k => match mpGood ks ag es, mpGood ks ag (delV k es) with
   | true, true => some (.mpG ks ag (delV k es))
   | _, _ => none
 | _, _ => none
def AV.mlen : AV -> Option (Nat × Bool)
 | .mpG ks ag es => match mpGood ks ag es with | true => some (es.length, true) | false => none
 | _ => none
theorem AV.mlook_ok (a : AV) (k z v : V1) (b kn : Bool) (h : a.mlook k z = some (v, b, kn)) : ∃ ks ag es, a.mp = some (ks, ag, es) /\ (lookV k z es).2 = b /\ (∀ c ∈ v.cells, c.name = none) /\ ∀ ρ, v.den ρ = (lookV k z es).1.den ρ := by
 unfold AV.mlook at h
 split at h
 ·rename_i _ _ ks ag es
  split at h
  ·rename_i h1 h2
   cases h
   refine ⟨ks, ag, es, by simp only [AV.mp, h1], rfl, fun c hc => ?_, fun ρ => rfl⟩
   rcases lookV_mem (k := k) (z := z) (l := es) with h | ⟨e, he, h⟩
   ·rw [h] at hc; exact noNmB_spec h2 c hc
   ·rw [h] at hc; exact (mpGood_spec h1 e he).2.2 c hc
  ·cases h
 ·cases h
theorem AV.mput_ok (a : AV) (k v : V1) (a' : AV) (h : a.mput k v = some a') : (∀ c ∈ k.cells, c.name = none) /\ (∀ c ∈ v.cells, c.name = none) /\ ∃ ks ag es es', a.mp = some (ks, ag, es) /\ a'.mp = some (ks, ag, es') /\ es'.map (fun e => (e.1.den Nm.id, e.2.den Nm.id)) = (putV k v es).map fun e => (e.1.den Nm.id, e.2.den Nm.id) := by
 unfold AV.mput at h
 split at h
 ·rename_i _ _ ks ag es
  split at h
  ·rename_i h1 h2 h3
   split at h
   ·rename_i h4
    cases h
    exact ⟨noNmB_spec h2, noNmB_spec h3, ks, ag, es, _, by simp only [AV.mp, h1], by simp only [AV.mp, h4], rfl⟩
   ·cases h
  ·cases h
 ·cases h
theorem AV.mdel_ok (a : AV) (k : V1) (a' : AV) (h : a.mdel k = some a') : ∃ ks ag es, a.mp = some (ks, ag, es) /\ a'.mp = some (ks, ag, delV k es) := by
 unfold AV.mdel at h
 split at h
 ·rename_i _ ks ag es
  split at h
  ·rename_i h1 h2
   cases h
   exact ⟨ks, ag, es, by simp only [AV.mp, h1], by simp only [AV.mp, h2]⟩
  ·cases h
 ·cases h
theorem sentW_nm (σ : Sg) (i : Nat) : ∀ c ∈ sentW σ i, c.name = none := by
 intro c hc
 unfold sentW at hc
 split at hc
 ·obtain ⟨s, _, rfl⟩ := List.mem_map.1 hc; rfl
 ·rw [List.mem_singleton.1 hc]; rfl
theorem sheet_loc {l : Sx.Loc} {S : Nat -> Prop} {bs : List UInt8} {w w' : World} (hk : ∀ k, S k -> w'.heap[k]? = w.heap[k]?) (hq : sheetQ l S bs w) : sheetQ l S bs w' := by
 obtain ⟨p, v, h1, h2, h3, h4, h5⟩ := hq
 refine ⟨p, v, h1, h2, by rw [hk l.b ((h2 _).2 (.inl rfl))]; exact h3, h4, h5.1, ?_⟩
 rcases h5.2 with h | ⟨g, cap, cur, r1, r2, r3, r4⟩
 ·exact .inl h
 ·exact .inr ⟨g, cap, cur, r1, r2, by rw [hk g ((h2 _).2 (.inr (by rw [r1]; rfl)))]; exact r3, r4⟩
theorem sheet_dom {l : Sx.Loc} {S : Nat -> Prop} {bs : List UInt8} {w : World} {k : Nat} (hq : sheetQ l S bs w) (hk : S k) : k < w.heap.size := by
 obtain ⟨p, v, h1, h2, h3, h4, h5⟩ := hq
 rcases (h2 k).1 hk with rfl | hk
 ·exact (Array.getElem?_eq_some_iff.1 h3).1
 ·rcases h5.2 with ⟨rfl, _⟩ | ⟨g, cap, cur, r1, r2, r3, r4⟩
  ·cases hk
  ·rw [r1] at hk
   simp only [Value.ownBlock, Option.some.injEq] at hk
   subst hk
   exact (Array.getElem?_eq_some_iff.1 r3).1
def avF (σ : Sg) : Intf AV where
 q := AV.q σ
 loc := fun a l S w w' hk hq => by
  cases ha : a.ar with
  | some r => exact (AV.q_ar ha l S w').2 (r.K.q_loc hk ((AV.q_ar ha l S w).1 hq))
  | none =>
    cases hf : a.fix with
    | some r => exact (AV.q_fix ha hf l S w').2 ((AV.q_fix ha hf l S w).1 hq)
    | none =>
      cases a with
      | sent i => exact ⟨hq.1, by rw [hk l.b ((hq.1 _).2 rfl)]; exact hq.2⟩
      | mpG ks ag es => obtain ⟨g1, en, cl, g2, g3⟩ := (show mapQ l S es w from hq); exact ⟨g1, en, cl, by rw [hk l.b ((g1 _).2 rfl)]; exact g2, g3⟩
      | sheet kk bs => exact sheet_loc hk hq
      | _ => first | (cases ha; done) | (cases hf; done) | exact hq.elim
 dom := fun a l S w k hq hk => by
  cases ha : a.ar with
  | some r => exact r.K.q_dom ((AV.q_ar ha l S w).1 hq) hk
  | none =>
    cases hf : a.fix with
    | some r => exact absurd hk (((AV.q_fix ha hf l S w).1 hq).1 k)
    | none =>
      cases a with
      | sent i =>
        rw [(hq.1 k).1 hk]
        exact (Array.getElem?_eq_some_iff.1 hq.2).1
      | mpG ks ag es => obtain ⟨g1, en, cl, g2, g3⟩ := (show mapQ l S es w from hq); rw [(g1 k).1 hk]; exact (Array.getElem?_eq_some_iff.1 g2).1
      | sheet kk bs => exact sheet_dom hq hk
      | _ => first | (cases ha; done) | (cases hf; done) | exact hq.elim
 row := AV.row
 row_nm := fun a idx es cs h => by
  unfold AV.row at h
  split at h
  ·rename_i r hr; exact r.K.row_nm h
  ·cases h
 R := σ.R
 row_ok := fun a l S w idx es cs hR hq h => by
  unfold AV.row at h
  split at h
  ·rename_i r hr
   unfold AV.rar at hr
   split at hr
   ·rename_i r' ha
    cases hr
    exact r.K.row_ok ((AV.q_ar ha l S w).1 hq) h
   ·rename_i ha
    exact r.K.row_read (((AV.q_fix ha hr l S w).1 hq).2 w hR) h
  ·cases h
 upd := AV.upd
 upd_ok := fun a l S w idx es off cs a' hq h => by
  unfold AV.upd at h
  split at h
  ·split at h
   ·rename_i b r hr
    simp only [Option.some.injEq, Prod.mk.injEq] at h
    obtain ⟨rfl, rfl⟩ := h
    exact kints.upd_ok hq hr
   ·cases h
  ·split at h
   ·rename_i b r hr
    simp only [Option.some.injEq, Prod.mk.injEq] at h
    obtain ⟨rfl, rfl⟩ := h
    exact kstrs.upd_ok hq hr
   ·cases h
  ·split at h
   ·rename_i b r hr
    simp only [Option.some.injEq, Prod.mk.injEq] at h
    obtain ⟨rfl, rfl⟩ := h
    exact krows.upd_ok hq hr
   ·cases h
  ·split at h
   ·rename_i b r hr
    simp only [Option.some.injEq, Prod.mk.injEq] at h
    obtain ⟨rfl, rfl⟩ := h
    exact kpairs.upd_ok hq hr
   ·cases h
  ·cases h
 word := AV.word σ
 word_nm := fun a cs h c hc => by
  unfold AV.word at h
  split at h
  ·cases h
   exact sentW_nm _ _ c hc
  ·cases h
 word_ok := fun a l S w cs hq h j c hc => by
  unfold AV.word at h
  split at h
  ·rename_i i
   cases h
   have hq2 : w.heap[l.b]? = some (.cells (denL Nm.id (sentW σ i)).toArray (sentT i) (0, 0)) := hq.2
   simp only [World.cell?, hq2]
   simp [denL, hc]
  ·cases h
 same := AV.same
 same_ok := fun a b h => by
  unfold AV.same at h
  split at h
  ·rw [(beq_iff _ _).1 h]
  ·cases h
 arr := AV.arr
 arr_q := fun a es ty vs h => by
  obtain ⟨r, hr, hx⟩ := AV.arr_some h
  simp only [Prod.mk.injEq] at hx
  obtain ⟨rfl, rfl, rfl⟩ := hx
  exact ⟨r.K.vals_one r.l, fun l S w => AV.q_ar hr l S w⟩
 src := AV.src
 src_ok := fun a b es ty vs h hb l S w hR hq => by
  unfold AV.src at h
  split at h
  ·cases h; cases hb; exact ((AV.q_fix rfl rfl l S w).1 hq).2 w hR
  ·cases h; cases hb; exact ((AV.q_fix rfl rfl l S w).1 hq).2 w hR
  ·cases h; cases hb; exact ((AV.q_fix rfl rfl l S w).1 hq).2 w hR
  ·cases h; cases hb; exact ((AV.q_fix rfl rfl l S w).1 hq).2 w hR
  ·cases h; cases hb; exact vecQ_read ((AV.q_ar rfl l S w).1 hq)
  ·cases h; cases hb; exact vecQ_read ((AV.q_ar rfl l S w).1 hq)
  ·cases h; cases hb; exact vecQ_read ((AV.q_ar rfl l S w).1 hq)
  ·cases h; cases hb; exact vecQ_read ((AV.q_ar rfl l S w).1 hq)
  ·cases h
 len := AV.len
 len_ok := fun a es ty vs h => by
  obtain ⟨r, hr, hx⟩ := AV.arr_some h
  simp only [Prod.mk.injEq] at hx
  obtain ⟨rfl, rfl, rfl⟩ := hx
  rw [r.K.vals_len]
  unfold AV.len
  rw [hr]
 cat := AV.cat
 cat_ok := fun a b c h => by
  unfold AV.cat at h
  split at h
  ·cases h; exact ⟨_, _, _, _, _, rfl, rfl, by rw [AV.arr_of rfl, AK.vals_append]⟩
  ·cases h; exact ⟨_, _, _, _, _, rfl, rfl, by rw [AV.arr_of rfl, AK.vals_append]⟩
  ·cases h; exact ⟨_, _, _, _, _, rfl, rfl, by rw [AV.arr_of rfl, AK.vals_append]⟩
  ·cases h; exact ⟨_, _, _, _, _, rfl, rfl, by rw [AV.arr_of rfl, AK.vals_append]⟩
  ·cases h
 app := AV.app
 app_ok := fun a cs c h => by
  unfold AV.app at h
  split at h
  ·split at h
   ·rename_i r hr
    cases h
    obtain ⟨h1, h2⟩ := kints.app_ok hr
    exact ⟨h1, _, _, _, rfl, by rw [AV.arr_of rfl, h2]⟩
   ·cases h
  ·split at h
   ·rename_i r hr
    cases h
    obtain ⟨h1, h2⟩ := kstrs.app_ok hr
    exact ⟨h1, _, _, _, rfl, by rw [AV.arr_of rfl, h2]⟩
   ·cases h
  ·split at h
   ·rename_i r hr
    cases h
    obtain ⟨h1, h2⟩ := krows.app_ok hr
    exact ⟨h1, _, _, _, rfl, by rw [AV.arr_of rfl, h2]⟩
   ·cases h
  ·split at h
   ·rename_i r hr
    cases h
    obtain ⟨h1, h2⟩ := kpairs.app_ok hr
    exact ⟨h1, _, _, _, rfl, by rw [AV.arr_of rfl, h2]⟩
   ·cases h
  ·cases h
 cut := AV.cut
 cut_ok := fun a i j c h => by
  unfold AV.cut at h
  split at h
  ·cases h; exact ⟨_, _, _, rfl, by rw [AV.arr_of rfl, AK.cut_ok]⟩
  ·cases h; exact ⟨_, _, _, rfl, by rw [AV.arr_of rfl, AK.cut_ok]⟩
  ·cases h; exact ⟨_, _, _, rfl, by rw [AV.arr_of rfl, AK.cut_ok]⟩
  ·cases h; exact ⟨_, _, _, rfl, by rw [AV.arr_of rfl, AK.cut_ok]⟩
  ·cases h
 mp := AV.mp
 mp_q := fun a ks ag es h => by
  unfold AV.mp at h
  split at h
  ·split at h
   ·rename_i hg
    cases h
    exact ⟨mpGood_spec hg, fun l S w => Iff.rfl⟩
   ·cases h
  ·cases h
 mnew := AV.mnew
 mnew_ok := fun ks ag a h => by
  unfold AV.mnew at h
  cases h; rfl
 mlook := AV.mlook
 mlook_ok := AV.mlook_ok
 mput := AV.mput
 mput_ok := AV.mput_ok
 mdel := AV.mdel
 mdel_ok := AV.mdel_ok
 mlen := AV.mlen
 mlen_ok := fun a n kn h => by
  unfold AV.mlen at h
  split at h
  ·split at h
   ·rename_i hg
    cases h
    exact ⟨_, _, _, (by simp only [AV.mp, hg]; rfl), rfl⟩
   ·cases h
  ·cases h
end Go.Proofs.YthdmoahfeimdaaaGreatDoor

namespace Go.Proofs
open Go.Shelf
open Go.Shelf in
def Tryz.laysCount_ren : Go.Shelf.Ren := ⟨fun | 138 => 116 | 195 => 136 | 218 => 138 | 143 => 117 | 219 => 139 | 217 => 179 | 225 => 180 | 224 => 181 | 267 => 182 | 266 => 209 | 314 => 210 | n => n, fun | 9 => 9 | 3 => 3 | 4 => 4 | 5 => 5 | 0 => 0 | 46 => 262 | 146 => 371 | 51 => 260 | n => n, fun | 1 => 15 | n => n⟩
theorem Tryz.laysCount : Go.Proofs.Lays.n138 Tryz.prog Tryz.laysCount_ren := {
 mixed := by kernel_rfl
 f138 := Tryz.func116.trans (congrArg some (by kernel_rfl))
 f143 := Tryz.func117.trans (congrArg some (by kernel_rfl))
 f195 := Tryz.func136.trans (congrArg some (by kernel_rfl))
 f217 := Tryz.func179.trans (congrArg some (by kernel_rfl))
 f218 := Tryz.func138.trans (congrArg some (by kernel_rfl))
 f219 := Tryz.func139.trans (congrArg some (by kernel_rfl))
 f224 := Tryz.func181.trans (congrArg some (by kernel_rfl))
 f225 := Tryz.func180.trans (congrArg some (by kernel_rfl))
 f266 := Tryz.func209.trans (congrArg some (by kernel_rfl))
 f267 := Tryz.func182.trans (congrArg some (by kernel_rfl))
 f314 := Tryz.func210.trans (congrArg some (by kernel_rfl))
 t0 := Tryz.underlying0
 a0 := Tryz.isAgg0
 z0 := Tryz.sizeOf0
 v0 := Tryz.zeroValue0
 t3 := Tryz.underlying3
 a3 := Tryz.isAgg3
 z3 := Tryz.sizeOf3
 v3 := Tryz.zeroValue3
 t4 := Tryz.underlying4
 a4 := Tryz.isAgg4
 z4 := Tryz.sizeOf4
 v4 := Tryz.zeroValue4
 t5 := Tryz.underlying5
 a5 := Tryz.isAgg5
 z5 := Tryz.sizeOf5
 v5 := Tryz.zeroValue5
 t9 := Tryz.underlying9
 a9 := Tryz.isAgg9
 z9 := Tryz.sizeOf9
 v9 := Tryz.zeroValue9
 t46 := Tryz.underlying262
 a46 := Tryz.isAgg262
 z46 := Tryz.sizeOf262
 v46 := Tryz.zeroValue262
 t51 := Tryz.underlying260
 a51 := Tryz.isAgg260
 z51 := Tryz.sizeOf260
 v51 := Tryz.zeroValue260
 t146 := Tryz.underlying371
 a146 := Tryz.isAgg371
 z146 := Tryz.sizeOf371
 v146 := Tryz.zeroValue371
 g1 := by kernel_rfl }
open Go.Shelf in
def Tryz.laysIndex_ren : Go.Shelf.Ren := ⟨fun | 219 => 139 | 217 => 179 | 225 => 180 | 224 => 181 | 267 => 182 | 266 => 209 | 314 => 210 | n => n, fun | 9 => 9 | 3 => 3 | 4 => 4 | 5 => 5 | 46 => 262 | 146 => 371 | 51 => 260 | n => n, fun | 1 => 15 | n => n⟩
theorem Tryz.laysIndex : Go.Proofs.Lays.n219 Tryz.prog Tryz.laysIndex_ren := {
 mixed := by kernel_rfl
 f217 := Tryz.func179.trans (congrArg some (by kernel_rfl))
 f219 := Tryz.func139.trans (congrArg some (by kernel_rfl))
 f224 := Tryz.func181.trans (congrArg some (by kernel_rfl))
 f225 := Tryz.func180.trans (congrArg some (by kernel_rfl))
 f266 := Tryz.func209.trans (congrArg some (by kernel_rfl))
 f267 := Tryz.func182.trans (congrArg some (by kernel_rfl))
 f314 := Tryz.func210.trans (congrArg some (by kernel_rfl))
 t3 := Tryz.underlying3
 a3 := Tryz.isAgg3
 z3 := Tryz.sizeOf3
 v3 := Tryz.zeroValue3
 t4 := Tryz.underlying4
 a4 := Tryz.isAgg4
 z4 := Tryz.sizeOf4
 v4 := Tryz.zeroValue4
 t5 := Tryz.underlying5
 a5 := Tryz.isAgg5
 z5 := Tryz.sizeOf5
 v5 := Tryz.zeroValue5
 t9 := Tryz.underlying9
 a9 := Tryz.isAgg9
 z9 := Tryz.sizeOf9
 v9 := Tryz.zeroValue9
 t46 := Tryz.underlying262
 a46 := Tryz.isAgg262
 z46 := Tryz.sizeOf262
 v46 := Tryz.zeroValue262
 t51 := Tryz.underlying260
 a51 := Tryz.isAgg260
 z51 := Tryz.sizeOf260
 v51 := Tryz.zeroValue260
 t146 := Tryz.underlying371
 a146 := Tryz.isAgg371
 z146 := Tryz.sizeOf371
 v146 := Tryz.zeroValue371
 g1 := by kernel_rfl }
open Go.Shelf in
def Tryz.laysItoa_ren : Go.Shelf.Ren := ⟨fun | 171 => 15 | 243 => 27 | 246 => 45 | 283 => 78 | 284 => 79 | 285 => 80 | 286 => 81 | 129 => 109 | 317 => 108 | 318 => 110 | 319 => 111 | 320 => 112 | 337 => 134 | 338 => 135 | n => n, fun | 3 => 3 | 9 => 9 | 2 => 2 | 4 => 4 | 171 => 182 | 0 => 0 | 53 => 183 | 37 => 51 | 5 => 5 | 173 => 186 | 212 => 259 | 51 => 260 | 20 => 20 | 213 => 261 | 46 => 262 | 232 => 349 | 233 => 350 | n => n, fun | 17 => 14 | 18 => 16 | 19 => 17 | n => n⟩
theorem Tryz.laysItoa : Go.Proofs.LaysM.n171 Tryz.prog Tryz.laysItoa_ren := {
 mixed := by kernel_rfl
 f129 := Tryz.func109.trans (congrArg some (by kernel_rfl))
 f171 := Tryz.func15.trans (congrArg some (by kernel_rfl))
 f243 := Tryz.func27.trans (congrArg some (by kernel_rfl))
 f246 := Tryz.func45.trans (congrArg some (by kernel_rfl))
 f283 := Tryz.func78.trans (congrArg some (by kernel_rfl))
 f284 := Tryz.func79.trans (congrArg some (by kernel_rfl))
 f285 := Tryz.func80.trans (congrArg some (by kernel_rfl))
 f286 := Tryz.func81.trans (congrArg some (by kernel_rfl))
 f317 := Tryz.func108.trans (congrArg some (by kernel_rfl))
 f318 := Tryz.func110.trans (congrArg some (by kernel_rfl))
 f319 := Tryz.func111.trans (congrArg some (by kernel_rfl))
 f320 := Tryz.func112.trans (congrArg some (by kernel_rfl))
 f337 := Tryz.func134.trans (congrArg some (by kernel_rfl))
 f338 := Tryz.func135.trans (congrArg some (by kernel_rfl))
 t0 := Tryz.underlying0
 a0 := Tryz.isAgg0
 z0 := Tryz.sizeOf0
 v0 := Tryz.zeroValue0
 t2 := Tryz.underlying2
 a2 := Tryz.isAgg2
 z2 := Tryz.sizeOf2
 v2 := Tryz.zeroValue2
 t3 := Tryz.underlying3
 a3 := Tryz.isAgg3
 z3 := Tryz.sizeOf3
 v3 := Tryz.zeroValue3
 t4 := Tryz.underlying4
 a4 := Tryz.isAgg4
 z4 := Tryz.sizeOf4
 v4 := Tryz.zeroValue4
 t5 := Tryz.underlying5
 a5 := Tryz.isAgg5
 z5 := Tryz.sizeOf5
 v5 := Tryz.zeroValue5
 t9 := Tryz.underlying9
 a9 := Tryz.isAgg9
 z9 := Tryz.sizeOf9
 v9 := Tryz.zeroValue9
 t20 := Tryz.underlying20
 a20 := Tryz.isAgg20
 z20 := Tryz.sizeOf20
 v20 := Tryz.zeroValue20
 t37 := Tryz.underlying51
 a37 := Tryz.isAgg51
 z37 := Tryz.sizeOf51
 v37 := Tryz.zeroValue51
 t46 := Tryz.underlying262
 a46 := Tryz.isAgg262
 z46 := Tryz.sizeOf262
 v46 := Tryz.zeroValue262
 t51 := Tryz.underlying260
 a51 := Tryz.isAgg260
 z51 := Tryz.sizeOf260
 v51 := Tryz.zeroValue260
 t53 := Tryz.underlying183
 a53 := Tryz.isAgg183
 z53 := Tryz.sizeOf183
 v53 := Tryz.zeroValue183
 t171 := Tryz.underlying182
 a171 := Tryz.isAgg182
 z171 := Tryz.sizeOf182
 v171 := Tryz.zeroValue182
 t173 := Tryz.underlying186
 a173 := Tryz.isAgg186
 z173 := Tryz.sizeOf186
 v173 := Tryz.zeroValue186
 t212 := Tryz.underlying259
 a212 := Tryz.isAgg259
 z212 := Tryz.sizeOf259
 v212 := Tryz.zeroValue259
 t213 := Tryz.underlying261
 a213 := Tryz.isAgg261
 z213 := Tryz.sizeOf261
 t232 := Tryz.underlying349
 a232 := Tryz.isAgg349
 z232 := Tryz.sizeOf349
 v232 := Tryz.zeroValue349
 t233 := Tryz.underlying350
 a233 := Tryz.isAgg350
 z233 := Tryz.sizeOf350
 v233 := Tryz.zeroValue350
 g17 := by kernel_rfl
 g18 := by kernel_rfl
 g19 := by kernel_rfl
 i0 := by kernel_rfl
 i2 := by kernel_rfl
 i3 := by kernel_rfl
 i4 := by kernel_rfl
 i5 := by kernel_rfl
 i9 := by kernel_rfl
 i20 := by kernel_rfl
 i37 := by kernel_rfl
 i46 := by kernel_rfl
 i51 := by kernel_rfl
 i53 := by kernel_rfl
 i171 := by kernel_rfl
 i173 := by kernel_rfl
 i212 := by kernel_rfl
 i232 := by kernel_rfl
 i233 := by kernel_rfl
 m17 := by kernel_rfl
 m18 := by kernel_rfl
 m19 := by kernel_rfl }
open Go.Shelf in
def Tryz.laysJoin_ren : Go.Shelf.Ren := ⟨fun | 156 => 29 | 165 => 47 | 166 => 28 | 169 => 17 | 240 => 46 | 241 => 83 | 276 => 82 | 277 => 113 | n => n, fun | 31 => 58 | 9 => 9 | 3 => 3 | 4 => 4 | 0 => 0 | 20 => 20 | 72 => 53 | 76 => 83 | 70 => 50 | 37 => 51 | 75 => 43 | 127 => 87 | 164 => 188 | 5 => 5 | 80 => 60 | n => n, fun | n => n⟩
theorem Tryz.laysJoin : Go.Proofs.Lays.n156 Tryz.prog Tryz.laysJoin_ren := {
 mixed := by kernel_rfl
 f156 := Tryz.func29.trans (congrArg some (by kernel_rfl))
 f165 := Tryz.func47.trans (congrArg some (by kernel_rfl))
 f166 := Tryz.func28.trans (congrArg some (by kernel_rfl))
 f169 := Tryz.func17.trans (congrArg some (by kernel_rfl))
 f240 := Tryz.func46.trans (congrArg some (by kernel_rfl))
 f241 := Tryz.func83.trans (congrArg some (by kernel_rfl))
 f276 := Tryz.func82.trans (congrArg some (by kernel_rfl))
 f277 := Tryz.func113.trans (congrArg some (by kernel_rfl))
 t0 := Tryz.underlying0
 a0 := Tryz.isAgg0
 z0 := Tryz.sizeOf0
 v0 := Tryz.zeroValue0
 t3 := Tryz.underlying3
 a3 := Tryz.isAgg3
 z3 := Tryz.sizeOf3
 v3 := Tryz.zeroValue3
 t4 := Tryz.underlying4
 a4 := Tryz.isAgg4
 z4 := Tryz.sizeOf4
 v4 := Tryz.zeroValue4
 t9 := Tryz.underlying9
 a9 := Tryz.isAgg9
 z9 := Tryz.sizeOf9
 v9 := Tryz.zeroValue9
 t20 := Tryz.underlying20
 a20 := Tryz.isAgg20
 z20 := Tryz.sizeOf20
 v20 := Tryz.zeroValue20
 t31 := Tryz.underlying58
 a31 := Tryz.isAgg58
 z31 := Tryz.sizeOf58
 v31 := Tryz.zeroValue58
 t37 := Tryz.underlying51
 a37 := Tryz.isAgg51
 z37 := Tryz.sizeOf51
 v37 := Tryz.zeroValue51
 t70 := Tryz.underlying50
 a70 := Tryz.isAgg50
 z70 := Tryz.sizeOf50
 v70 := Tryz.zeroValue50
 t72 := Tryz.underlying53
 a72 := Tryz.isAgg53
 z72 := Tryz.sizeOf53
 v72 := Tryz.zeroValue53
 t75 := Tryz.underlying43
 a75 := Tryz.isAgg43
 z75 := Tryz.sizeOf43
 v75 := Tryz.zeroValue43
 t76 := Tryz.underlying83
 a76 := Tryz.isAgg83
 z76 := Tryz.sizeOf83
 v76 := Tryz.zeroValue83
 t127 := Tryz.underlying87
 a127 := Tryz.isAgg87
 z127 := Tryz.sizeOf87
 v127 := Tryz.zeroValue87
 t164 := Tryz.underlying188
 a164 := Tryz.isAgg188
 z164 := Tryz.sizeOf188
 v164 := Tryz.zeroValue188 }
end Go.Proofs
namespace Go.Proofs.YthdmoahfeimdaaaGreatDoor
open Go Go.Sx Go.Proofs Go.Shelf Go.RowKit
set_option linter.unusedVariables false
set_option maxRecDepth 100000
theorem own_still {AV : Type} {N : Env AV} {ρ : Nm} {H : Hp AV} {w w' : World} (hO : Own N ρ H w) (hb : Below w.heap.size w w') : Own N ρ H w' /\ Evo N H.length ρ H w ρ H w' := by
 have he : Evo N H.length ρ H w ρ H w' := ⟨fun n c h => ⟨c, h⟩, fun _ _ _ => rfl, fun _ _ h => h, Nat.le_refl _, fun k hk _ => hb.block k hk, fun n c k h hk => .inr ⟨n, c, h, hk⟩, hb.os, hb.tape, hb.output, hb.size⟩
 exact ⟨hO.upd ⟨fun n c h => q_keep (hO.q n c h) rfl rfl rfl fun k hk => hb.block k (hO.lt h hk), hO.dis, hO.glb⟩ he, he⟩
theorem fnOk_still {AV : Type} {P : Program} {N : Env AV} {f : FuncId} {g : List SV -> Hp AV -> T (SV × Hp AV)}
 (h : ∀ (args : List SV) (H : Hp AV) (v : SV) (H' : Hp AV), (g args H).val = some (v, H') -> H' = H /\ Plain v /\ ∀ (ρ : Nm) (w : World), Own N ρ H w ->
   Calls P f (args.map (SV.den ρ)).toArray w fun e w' => e = .returned (v.den ρ) /\ Below w.heap.size w w') : FnOk P N f g := by
 intro args H v H' hr hargs hC
 obtain ⟨rfl, hv, hc⟩ := h args H v H' hr
 refine ⟨hv.cl _, hC, fun ρ w hO => (hc ρ w hO).mono ?_⟩
 rintro e w' ⟨rfl, hb⟩
 obtain ⟨h1, h2⟩ := own_still hO hb
 exact ⟨ρ, rfl, h1, h2⟩
end Go.Proofs.YthdmoahfeimdaaaGreatDoor

namespace Go.Proofs.YthdmoahfeimdaaaGreatDoor
open Go Go.Sx Go.Proofs Go.Shelf Go.RowKit
set_option linter.unusedVariables false
set_option maxRecDepth 100000
section
variable {P : Program} (w : World)
theorem new_str (t u ty e : TypeId) (i : TypeInfo) (ht : P.underlying t = some (.slice e)) (hu : P.underlying u = some .string) (hi : P.info? e = some i) (hz : i.zero = some (.int .u8 0)) (hsize : i.size = 1) (hby : i.bytes = 1)
 {v : Value} {n : Nat} {xs : List Value} (hown : w.ownsRow 0 e 1 v n xs) (s : ByteArray) (hbytes : n + s.size <= 140737488355328) {v' : Value} {w' : World}
 (hr : (Builtin.append_ #[t, u] ty #[v, .string s]).run P w = .ok v' w') (hnil : v' = .slice none 0 0 ↔ v = .slice none 0 0 /\ s.size = 0) : ∀ k, v'.ownBlock = some k -> v.ownBlock = some k \/ w.heap.size <= k := by
 intro k hk
 have hxl : xs.length = n := by simpa using hown.1
 rcases hown.2 with ⟨rfl, rfl⟩ | ⟨g, cap, cur, rfl, hbg, hg, hnc, hcm, hcs, htake⟩
 ·by_cases hm : s.size = 0
  ·rw [hnil.2 ⟨rfl, hm⟩] at hk; cases hk
  ·have h1 := run_append_nil_string (P := P) w t u ty e i (.int .u8 0) ht hu hi hz s (by omega) (by omega) (by rw [hby]; omega)
   rw [h1] at hr
   cases hr
   simp only [Value.ownBlock, Option.some.injEq] at hk
   exact .inr (by omega)
 ·by_cases hroom : n + s.size <= cap
  ·have hcc : cur.size = cap := by simpa using hcs
   have h1 := Lib.run_append_room_string (P := P) w t u ty e i ht hu hi hsize g n cap cur hg s hroom (by omega)
   rw [h1] at hr
   cases hr
   exact .inl hk
  ·have h1 := Lib.run_append_grow_string (P := P) w t u ty e i (.int .u8 0) ht hu hi hz ⟨g, 0, none⟩ n cap xs (by rw [hsize]; simpa using hxl) (hown.cells (g := g) rfl) s (by omega) (by omega) (by rw [hby]; exact growslice_fits (by omega) (by omega))
   rw [h1] at hr
   cases hr
   simp only [Value.ownBlock, Option.some.injEq] at hk
   exact .inr (by omega)
theorem new_sl (t ty e : TypeId) (i : TypeInfo) (ht : P.underlying t = some (.slice e)) (hi : P.info? e = some i) (hz : i.zero = some (.int .u8 0)) (hsize : i.size = 1) (hby : i.bytes = 1)
 {v : Value} {n : Nat} {xs : List Value} (hown : w.ownsRow 0 e 1 v n xs) (a : Addr) (m c : Nat) (news : List Value) (hl : news.length = m) (hnews : ∀ j u, news[j]? = some u -> w.cell? (a.add j) = some u) (h1 : ∀ u ∈ news, u.oneCell' = true) (h0 : 0 < m)
 (hbytes : n + m <= 140737488355328) {v' : Value} {w' : World}
 (hr : (Builtin.append_ #[t, t] ty #[v, .slice (some a) m c]).run P w = .ok v' w') : ∀ k, v'.ownBlock = some k -> v.ownBlock = some k \/ w.heap.size <= k := by
 intro k hk
 have hxl : xs.length = n := by simpa using hown.1
 rcases hown.2 with ⟨rfl, rfl⟩ | ⟨g, cap, cur, rfl, hbg, hg, hnc, hcm, hcs, htake⟩
 ·have h1 := run_append_nil (P := P) w t ty e i (.int .u8 0) ht hi hz a m c news (by rw [hsize]; omega) hnews h0 (by omega) (by rw [hby]; omega)
  rw [h1] at hr
  cases hr
  simp only [Value.ownBlock, Option.some.injEq] at hk
  exact .inr (by omega)
 ·by_cases hroom : n + m <= cap
  ·have hcc : cur.size = cap := by simpa using hcs
   have h1 := run_append_room (P := P) w t ty e i ht hi g n cap cur hg a m c news (by rw [hsize]; omega) hnews h1 hroom (by rw [hsize]; omega)
   rw [h1] at hr
   cases hr
   exact .inl hk
  ·have h1 := run_append_grow (P := P) w t ty e i (.int .u8 0) ht hi hz ⟨g, 0, none⟩ n cap xs (by rw [hsize]; simpa using hxl) (hown.cells (g := g) rfl) a m c news (by rw [hsize]; omega) hnews (by omega) (by omega) (by rw [hby]; exact growslice_fits (by omega) (by omega))
   rw [h1] at hr
   cases hr
   simp only [Value.ownBlock, Option.some.injEq] at hk
   exact .inr (by omega)
end
section
variable {P : Program} (w : World)
theorem wp_app_str {ops : Array Oper} {rest : List Oper} {o : Oper} {a : Act} {Q : Exit -> Act -> World -> Prop} (hgd : o.guard = none) (sl x : Operand) (t u : TypeId)
 (ho : o.op = .call { callee := .builtin .append, args := #[sl, x], argTypes := #[t, u] })
 (e : TypeId) (i : TypeInfo) (ht : P.underlying t = some (.slice e)) (hu : P.underlying u = some .string) (hi : P.info? e = some i) (hz : i.zero = some (.int .u8 0)) (hsize : i.size = 1) (hby : i.bytes = 1)
 (v : Value) (n : Nat) (xs : List Value) (hs : a.eval sl = v) (hown : w.ownsRow 0 e 1 v n xs) (s : ByteArray) (hx : a.eval x = .string s) (hbytes : n + s.size <= 140737488355328)
 (h : ∀ v' w', w'.ownsRow 0 e 1 v' (n + s.size) (xs ++ Lib.strCells s) -> w.grownBy w' v.ownBlock -> (∀ k, v'.ownBlock = some k -> v.ownBlock = some k \/ w.heap.size <= k) -> wpList P ops Q rest (a.put o.dst v') w') : wpList P ops Q (o :: rest) a w := by
 refine wpList_plain hgd fun K hK => ?_
 obtain ⟨v', w', hr, h2, h3, h4⟩ := Lib.run_append_own_string (P := P) w 0 t u o.type e i ht hu hi hz hsize hby v n xs hown s (by unfold maxLen; omega) hbytes (Nat.zero_le _)
 have hn := new_str (P := P) w t u o.type e i ht hu hi hz hsize hby hown s hbytes hr h4
 unfold Oper.wp execOp
 simp only [ho, resolve, invoke, builtin, Sem.run_bind, Sem.run_pure, Result.andThen_ok, List.map_toArray, List.map_cons, List.map_nil, hs, hx, hr]
 exact hK _ _ (h v' w' h2 h3 hn)
theorem wp_app_sl {ops : Array Oper} {rest : List Oper} {o : Oper} {a : Act} {Q : Exit -> Act -> World -> Prop} (hgd : o.guard = none) (sl x : Operand) (t : TypeId)
 (ho : o.op = .call { callee := .builtin .append, args := #[sl, x], argTypes := #[t, t] })
 (e : TypeId) (i : TypeInfo) (ht : P.underlying t = some (.slice e)) (hi : P.info? e = some i) (hz : i.zero = some (.int .u8 0)) (hsize : i.size = 1) (hby : i.bytes = 1)
 (v : Value) (n : Nat) (xs : List Value) (hs : a.eval sl = v) (hown : w.ownsRow 0 e 1 v n xs) (ad : Addr) (m c : Nat) (news : List Value) (hx : a.eval x = .slice (some ad) m c) (hl : news.length = m)
 (hnews : ∀ j u, news[j]? = some u -> w.cell? (ad.add j) = some u) (h1 : ∀ u ∈ news, u.oneCell' = true) (h0 : 0 < m) (hbytes : n + m <= 140737488355328)
 (h : ∀ v' w', w'.ownsRow 0 e 1 v' (n + m) (xs ++ news) -> w.grownBy w' v.ownBlock -> (∀ k, v'.ownBlock = some k -> v.ownBlock = some k \/ w.heap.size <= k) -> wpList P ops Q rest (a.put o.dst v') w') : wpList P ops Q (o :: rest) a w := by
 refine wpList_plain hgd fun K hK => ?_
 obtain ⟨v', w', hr, h2, h3, h4⟩ := run_append_own (P := P) w 0 t o.type e i (.int .u8 0) 1 1 ht hi hz hsize hby rfl (by decide) v n xs hown ad m c news (by omega) hnews h1 (by unfold maxLen; omega) (by omega) (Nat.zero_le _)
 have hn := new_sl (P := P) w t o.type e i ht hi hz hsize hby hown ad m c news hl hnews h1 h0 hbytes hr
 unfold Oper.wp execOp
 simp only [ho, resolve, invoke, builtin, Sem.run_bind, Sem.run_pure, Result.andThen_ok, List.map_toArray, List.map_cons, List.map_nil, hs, hx, hr]
 exact hK _ _ (h v' w' h2 h3 hn)
end
structure FrS (b : Nat) (own own' : Option Nat) (w w' : World) : Prop where
 os : w'.os = w.os
 tape : w'.tape = w.tape
 output : w'.output = w.output
 size : w.heap.size <= w'.heap.size
 block : ∀ k, k < w.heap.size -> k ≠ b -> own ≠ some k -> w'.heap[k]? = w.heap[k]?
 new : ∀ k, own' = some k -> own = some k \/ w.heap.size <= k
theorem FrS.refl (b : Nat) (o : Option Nat) (w : World) : FrS b o o w w := ⟨rfl, rfl, rfl, Nat.le_refl _, fun _ _ _ _ => rfl, fun _ h => .inl h⟩
theorem FrS.trans {b : Nat} {o o1 o2 : Option Nat} {w w1 w2 : World} (h : FrS b o o1 w w1) (g : FrS b o1 o2 w1 w2) : FrS b o o2 w w2 :=
 ⟨g.os.trans h.os, g.tape.trans h.tape, g.output.trans h.output, Nat.le_trans h.size g.size, fun k hk hb ho => (g.block k (Nat.lt_of_lt_of_le hk h.size) hb fun e => by rcases h.new k e with e | e; exact ho e; omega).trans (h.block k hk hb ho),
   fun k hk => by rcases g.new k hk with e | e; exact h.new k e; exact .inr (Nat.le_trans h.size e)⟩
theorem FrS.grown {b : Nat} {v : Value} {o' : Option Nat} {w w' : World} (h : w.grownBy w' v.ownBlock) (hn : ∀ k, o' = some k -> v.ownBlock = some k \/ w.heap.size <= k) : FrS b v.ownBlock o' w w' :=
 ⟨h.os, h.tape, h.output, h.size, fun k hk _ ho => h.block k hk (fun e => ho e.symm), hn⟩
theorem FrS.set {b j : Nat} {o : Option Nat} (w : World) (v : Value) : FrS b o o w (w.setCell ⟨b, j, none⟩ v) :=
 ⟨rfl, rfl, rfl, by simp [World.setCell], fun k _ hb _ => Below.heap_setCell _ _ _ _ (fun e => hb (by simpa using e)), fun _ h => .inl h⟩
structure ShW (b : Nat) (v : Value) (bs : List Value) (w : World) : Prop where
 p : ∃ p, (p = .pointer none \/ p = .pointer (some ⟨b, 0, none⟩)) /\ w.heap[b]? = some (.cells #[p, v] 55 (0, 0))
 own : w.ownsRow 0 5 1 v bs.length bs
 ne : v.ownBlock ≠ some b
theorem ShW.lt {b : Nat} {v : Value} {bs : List Value} {w : World} (h : ShW b v bs w) : b < w.heap.size := by
 obtain ⟨p, _, hb⟩ := h.p
 exact (Array.getElem?_eq_some_iff.1 hb).1
theorem sizeBuilder : (Tryz.prog.info? 53).map (·.size) = some 2 := by kernel_rfl
theorem liesBuilder : liesAt Tryz.prog Tryz.prog.depth 55 (2 / Tryz.prog.cellsOf 55) 0 53 1 = true := by kernel_rfl
theorem infoByte : (Tryz.prog.info? 5).map (fun i => (i.zero, i.size, i.bytes)) = some (some (.int .u8 0), 1, 1) := by kernel_rfl
theorem cellsByte : Tryz.prog.cellsOf 5 = 1 := by kernel_rfl
theorem copy_walk (b : Nat) (v : Value) (bs : List Value) (w : World) (h : ShW b v bs w) :
 Calls Tryz.prog 46 #[.pointer (some ⟨b, 0, none⟩)] w fun e w' => e = .returned (.tuple #[]) /\ w'.heap[b]? = some (.cells #[.pointer (some ⟨b, 0, none⟩), v] 55 (0, 0)) /\ w'.ownsRow 0 5 1 v bs.length bs /\ FrS b v.ownBlock v.ownBlock w w' := by
 obtain ⟨j, hj, hjs⟩ := Option.map_eq_some_iff.1 sizeBuilder
 obtain ⟨p, hp, hb⟩ := h.p
 rcases hp with rfl | rfl
 ·have h0 : w.cell? ⟨b, 0, none⟩ = some (.pointer none) := by rw [Lib.cell_of_heap hb]; rfl
  have hsh : w.shape? b = some (55, 2) := by simp [World.shape?, hb]
  have hfz : w.frozen? ⟨b, 0, none⟩ = false := Lib.frozen_of_heap hb 0
  have hfin : (w.setCell ⟨b, 0, none⟩ (.pointer (some ⟨b, 0, none⟩))).heap[b]? = some (.cells #[.pointer (some ⟨b, 0, none⟩), v] 55 (0, 0)) /\ (w.setCell ⟨b, 0, none⟩ (.pointer (some ⟨b, 0, none⟩))).ownsRow 0 5 1 v bs.length bs /\ FrS b v.ownBlock v.ownBlock w (w.setCell ⟨b, 0, none⟩ (.pointer (some ⟨b, 0, none⟩))) := by
   refine ⟨by simp [World.setCell, Array.getElem?_modify, hb], ?_, FrS.set w _⟩
   exact h.own.kept (row := some b) ⟨rfl, rfl, rfl, by simp [World.setCell], fun k _ hk => Below.heap_setCell _ _ _ _ (fun e => hk (by simp [e]))⟩ (.inr h.ne)
  generalize hW : w.setCell ⟨b, 0, none⟩ (.pointer (some ⟨b, 0, none⟩)) = W at hfin
  clear hb h
  go_enter Tryz.func46, Tryz.ntmps46
  go_wp2
  rw [Lib.run_to_unsafe w ⟨b, 0, none⟩ Tryz.underlying50 Tryz.underlying188 hj (by rw [hjs]; decide) hsh (Nat.zero_lt_succ 1)]
  simp only [Result.andThen]
  rw [Oper.upon_value]
  go_wp2
  rw [run_callFunc_extern Tryz.func82 (by kernel_rfl) (by kernel_rfl) (by kernel_rfl) (e := Extern.AbiNoEscape.same) (by kernel_rfl)]
  rw [Lib.run_noEscape]
  simp only [Result.andThen]
  rw [Oper.upon_value]
  go_wp2
  rw [Lib.run_from_unsafe w ⟨b, 0, none⟩ Tryz.underlying188 Tryz.underlying50 hj hsh liesBuilder]
  simp only [Result.andThen]
  rw [Oper.upon_value]
  go_wp2
  go_end0
  exact ⟨rfl, hfin⟩
 ·have h0 : w.cell? ⟨b, 0, none⟩ = some (.pointer (some ⟨b, 0, none⟩)) := by rw [Lib.cell_of_heap hb]; rfl
  have hfin := (⟨hb, h.own, FrS.refl b v.ownBlock w⟩ : w.heap[b]? = some (.cells #[.pointer (some ⟨b, 0, none⟩), v] 55 (0, 0)) /\ w.ownsRow 0 5 1 v bs.length bs /\ FrS b v.ownBlock v.ownBlock w w)
  clear hb h
  go_enter Tryz.func46, Tryz.ntmps46
  go_wp2
  rw [Lib.run_neq_ptr_same w _ Tryz.underlying50 hj]
  go_wp2
  go_end0
  exact ⟨rfl, hfin⟩
set_option maxHeartbeats 2000000 in
theorem ws_walk (b : Nat) (v : Value) (bs : List Value) (s : ByteArray) (w : World) (h : ShW b v bs w) (hlen : bs.length + s.size <= 140737488355328) :
 Calls Tryz.prog 28 #[.pointer (some ⟨b, 0, none⟩), .string s] w fun e w' => e = .returned (.tuple #[.int .i64 s.size, .nilIface]) /\ ∃ v', ShW b v' (bs ++ Lib.strCells s) w' /\ FrS b v.ownBlock v'.ownBlock w w' := by
 obtain ⟨i0, hi, hz0, hz1, hz2⟩ := info_parts infoByte
 have hlt0 := h.lt
 have hne := h.ne
 go_enter Tryz.func28, Tryz.ntmps28
 go_wp2_with (go_at_call 46; refine (copy_walk b v bs _ h).mono ?_; rintro e w1 ⟨rfl, hb, hown, hfr⟩; refine Hid.out ?_)
 refine Lib.hid ?_
 have c0 : w1.cell? ⟨b, 0, none⟩ = some (.pointer (some ⟨b, 0, none⟩)) := by rw [Lib.cell_of_heap hb]; rfl
 have c1 : w1.cell? ⟨b, 1, none⟩ = some v := by rw [Lib.cell_of_heap hb]; rfl
 have hlt : b < w1.heap.size := (Array.getElem?_eq_some_iff.1 hb).1
 go_wp2_with (at_builtin; refine wp_app_str _ rfl _ _ 51 9 rfl 5 i0 Tryz.underlying51 Tryz.underlying9 hi hz0 hz1 hz2 _ _ _ rfl hown s rfl hlen ?_)
 intro v' w2 hown' hgrow hnew
 have hb2 : w2.heap[b]? = some (.cells #[.pointer (some ⟨b, 0, none⟩), v] 55 (0, 0)) := by
  rw [hgrow.block b hlt (fun e => hne e.symm)]; exact hb
 have d0 : w2.cell? ⟨b, 0, none⟩ = some (.pointer (some ⟨b, 0, none⟩)) := by rw [Lib.cell_of_heap hb2]; rfl
 have d1 : w2.cell? ⟨b, 1, none⟩ = some v := by rw [Lib.cell_of_heap hb2]; rfl
 have f1 : w2.frozen? ⟨b, 1, none⟩ = false := Lib.frozen_of_heap hb2 1
 have hne' : v'.ownBlock ≠ some b := fun e => by rcases hnew b e with e | e; exact hne e; omega
 have hfin : ShW b v' (bs ++ Lib.strCells s) (w2.setCell ⟨b, 1, none⟩ v') /\ FrS b v.ownBlock v'.ownBlock w (w2.setCell ⟨b, 1, none⟩ v') := by
  refine ⟨⟨⟨_, .inr rfl, by simp [World.setCell, Array.getElem?_modify, hb2]⟩, ?_, hne'⟩, hfr.trans ((FrS.grown hgrow hnew).trans (FrS.set w2 _))⟩
  have : w2.ownsRow 0 5 1 v' (bs ++ Lib.strCells s).length (bs ++ Lib.strCells s) := by simpa [Lib.strCells_length] using hown'
  exact this.kept (row := some b) ⟨rfl, rfl, rfl, by simp [World.setCell], fun k _ hk => Below.heap_setCell _ _ _ _ (fun e => hk (by simp [e]))⟩ (.inr hne')
 obtain ⟨ao, n', cap, rfl⟩ : ∃ ao n' cap, v' = .slice ao n' cap := by
  rcases hown'.2 with ⟨hv, _⟩ | ⟨g, cap, cur, hv, _⟩
  ·exact ⟨_, _, _, hv⟩
  ·exact ⟨_, _, _, hv⟩
 go_wp2
 go_ret2
 exact ⟨rfl, _, hfin⟩
set_option maxHeartbeats 2000000 in
theorem wb_walk (b : Nat) (v : Value) (bs : List Value) (c : Int) (w : World) (h : ShW b v bs w) (hlen : bs.length + 1 <= 140737488355328) :
 Calls Tryz.prog 30 #[.pointer (some ⟨b, 0, none⟩), .int .u8 c] w fun e w' => e = .returned .nilIface /\ ∃ v', ShW b v' (bs ++ [.int .u8 c]) w' /\ FrS b v.ownBlock v'.ownBlock w w' := by
 obtain ⟨i0, hi, hz0, hz1, hz2⟩ := info_parts infoByte
 have hlt0 := h.lt
 have hne := h.ne
 go_enter Tryz.func30, Tryz.ntmps30
 go_wp2_with (go_at_call 46; refine (copy_walk b v bs _ h).mono ?_; rintro e w1 ⟨rfl, hb, hown, hfr⟩; refine Hid.out ?_)
 refine Lib.hid ?_
 have c0 : w1.cell? ⟨b, 0, none⟩ = some (.pointer (some ⟨b, 0, none⟩)) := by rw [Lib.cell_of_heap hb]; rfl
 have c1 : w1.cell? ⟨b, 1, none⟩ = some v := by rw [Lib.cell_of_heap hb]; rfl
 have hlt : b < w1.heap.size := (Array.getElem?_eq_some_iff.1 hb).1
 go_wp2_with (at_builtin; refine wp_app_sl _ rfl _ _ 51 rfl 5 i0 Tryz.underlying51 hi hz0 hz1 hz2 _ _ _ rfl (hown.alloc _) ⟨w1.heap.size, 0, none⟩ 1 1 [.int .u8 c] rfl rfl ?c1 ?c2 (by decide) hlen ?_)
 case c1 =>
  intro j u hj
  match j, hj with
  | 0, hj => simp at hj; subst hj; simp [Addr.add]
 case c2 => intro u hu; simp at hu; subst hu; rfl
 intro v' w2 hown' hgrow hnew
 have hb2 : w2.heap[b]? = some (.cells #[.pointer (some ⟨b, 0, none⟩), v] 55 (0, 0)) := by
  rw [hgrow.block b (by simp; omega) (fun e => hne e.symm), Lib.alloc_old w1 _ b hlt]; exact hb
 have d0 : w2.cell? ⟨b, 0, none⟩ = some (.pointer (some ⟨b, 0, none⟩)) := by rw [Lib.cell_of_heap hb2]; rfl
 have d1 : w2.cell? ⟨b, 1, none⟩ = some v := by rw [Lib.cell_of_heap hb2]; rfl
 have f1 : w2.frozen? ⟨b, 1, none⟩ = false := Lib.frozen_of_heap hb2 1
 have hne' : v'.ownBlock ≠ some b := fun e => by
  rcases hnew b e with e | e
  ·exact hne e
  ·first | omega | (simp at e; omega)
 have hal : ∀ o, FrS b v.ownBlock v.ownBlock w1 (w1.alloc o) := fun o => ⟨rfl, rfl, rfl, by simp, fun k hk _ _ => (World.grownBy_alloc w1 o none).block k hk (by simp), fun _ h => .inl h⟩
 have hfin : ShW b v' (bs ++ [.int .u8 c]) (w2.setCell ⟨b, 1, none⟩ v') /\ FrS b v.ownBlock v'.ownBlock w (w2.setCell ⟨b, 1, none⟩ v') := by
  refine ⟨⟨⟨_, .inr rfl, by simp [World.setCell, Array.getElem?_modify, hb2]⟩, ?_, hne'⟩, hfr.trans ((hal _).trans ((FrS.grown hgrow (fun k hk => by simpa using hnew k hk)).trans (FrS.set w2 _)))⟩
  have : w2.ownsRow 0 5 1 v' (bs ++ [Value.int .u8 c]).length (bs ++ [Value.int .u8 c]) := by simpa using hown'
  exact this.kept (row := some b) ⟨rfl, rfl, rfl, by simp [World.setCell], fun k _ hk => Below.heap_setCell _ _ _ _ (fun e => hk (by simp [e]))⟩ (.inr hne')
 obtain ⟨g, cap, rfl⟩ : ∃ g cap, v' = .slice (some ⟨g, 0, none⟩) (bs.length + 1) cap := by
  rcases hown'.2 with ⟨_, h0⟩ | ⟨g, cap, cur, hv, _⟩
  ·omega
  ·exact ⟨g, cap, hv⟩
 go_wp2
 go_ret
 exact ⟨rfl, _, hfin⟩
set_option maxHeartbeats 2000000 in
theorem string_walk (b : Nat) (v : Value) (l : List UInt8) (w : World) (h : ShW b v (Lib.byteCells l) w) (h0 : l ≠ []) :
 Calls Tryz.prog 17 #[.pointer (some ⟨b, 0, none⟩)] w fun e w' => e = .returned (.string ⟨l.toArray⟩) /\ FrS b v.ownBlock v.ownBlock w w' := by
 obtain ⟨p, hp, hbk⟩ := h.p
 have hown := h.own
 have hl0 : l.length ≠ 0 := by simpa using h0
 rw [Lib.byteCells_length] at hown
 obtain ⟨g, cap, cur, rfl, hbg, hg, hnc, hcm, hcs, htake⟩ : ∃ g cap cur, v = .slice (some ⟨g, 0, none⟩) l.length cap /\ 0 <= g /\ w.heap[g]? = some (.cells cur 5 (0, 0)) /\ l.length <= cap /\ cap <= maxLen /\ cur.size = cap * 1 /\ cur.toList.take (l.length * 1) = Lib.byteCells l := by
  rcases hown.2 with ⟨_, hz⟩ | ⟨g, cap, cur, hv, r⟩
  ·exact absurd hz hl0
  ·exact ⟨g, cap, cur, hv, r⟩
 have c1 : w.drew.cell? ⟨b, 1, none⟩ = some (.slice (some ⟨g, 0, none⟩) l.length cap) := by
  have : w.drew.heap[b]? = some (.cells #[p, .slice (some ⟨g, 0, none⟩) l.length cap] 55 (0, 0)) := hbk
  rw [Lib.cell_of_heap this]; rfl
 have hSD : (Builtin.unsafeSliceData_ #[51] 87 #[.slice (some ⟨g, 0, none⟩) l.length cap]).run Tryz.prog w.drew = .ok (.pointer (some ⟨g, 0, none⟩)) w.drew :=
  Lib.run_unsafeSliceData_row _ _ _ _ _ _ (by omega)
 have hUS : (Builtin.unsafeString_ #[87, 3] 9 #[.pointer (some ⟨g, 0, none⟩), .int .i64 l.length]).run Tryz.prog w.drew = .ok (.string ⟨l.toArray⟩) (w.drew.freeze ⟨g, 0, none⟩ l.length) := by
  refine Lib.run_unsafeString_row w.drew 87 3 9 5 Tryz.underlying87 cellsByte g cur.size (by have hg' : w.drew.heap[g]? = some (.cells cur 5 (0, 0)) := hg; simp [World.shape?, hg']) l h0 (by omega) (by unfold maxLen at hcm; omega) ?_
  intro j x hx
  exact hown.cells (g := g) rfl j (.int .u8 x.toNat) (by simp [Lib.byteCells, hx])
 have hfin : FrS b (some g) (some g) w (w.drew.freeze ⟨g, 0, none⟩ l.length) := by
  have h1 := Lib.below_freeze (Below.drew (Below.refl g w)) (p := ⟨g, 0, none⟩) (Nat.le_refl g) l.length
  refine ⟨h1.os, h1.tape, h1.output, h1.size, fun k hk hb ho => ?_, fun _ h => .inl h⟩
  have hkg : k ≠ g := fun e => ho (by rw [e])
  simp [World.freeze, h0, Array.getElem?_modify, Ne.symm hkg]
  rfl
 generalize hW : w.drew.freeze ⟨g, 0, none⟩ l.length = W at hUS hfin
 clear hbk hg hown h
 have mixed : Tryz.prog.follows .mixedOrders = true := by kernel_rfl
 go_enter Tryz.func17, Tryz.ntmps17
 go_wp2
 go_region_o
 all_goals (go_wp2; go_ret; exact ⟨rfl, hfin⟩)
end Go.Proofs.YthdmoahfeimdaaaGreatDoor
