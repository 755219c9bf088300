import Derived.Test.YthdmoahfeimdaaaGreatDoorFq
import Derived.Test.YthdmoahfeimdaaaGreatDoorSxM
import Derived.Test.YthdmoahfeimdaaaGreatDoorWc
namespace Go.Sx.Q
open Go Go.Sx
set_option linter.unusedVariables false
set_option linter.unusedSimpArgs false
variable {AV : Type}
theorem bind_eq {α β : Type} (t : T α) (f : α -> T β) : Q.bind t f = t.bind f := by
 induction t with
 | leaf a => rfl
 | ite b t e h1 h2 => show T.ite b (Q.bind t f) (Q.bind e f) = _; rw [h1, h2]; rfl
 | need b t h => show T.need b (Q.bind t f) = _; rw [h]; rfl
 | fail w => rfl
theorem map_eq {α β : Type} (f : α -> β) (t : T α) : Q.map f t = t.map f := by
 induction t with
 | leaf a => rfl
 | ite b t e h1 h2 => show T.ite b (Q.map f t) (Q.map f e) = _; rw [h1, h2]; rfl
 | need b t h => show T.need b (Q.map f t) = _; rw [h]; rfl
 | fail w => rfl
theorem hget_eq : ∀ (H : Hp AV) (n : Nat), Q.hget H n = Sx.hget H n
 | [], n => by cases n <;> rfl
 | x :: r, 0 => rfl
 | x :: r, n + 1 => hget_eq r n
theorem nth_eq {α : Type} : ∀ (l : List α) (n : Nat), Q.nth l n = Sx.nth l n
 | [], n => by cases n <;> rfl
 | x :: r, 0 => rfl
 | x :: r, n + 1 => nth_eq r n
theorem lset_eq {α : Type} (y : α) : ∀ (l : List α) (n : Nat), Q.lset l n y = Sx.lset l n y
 | [], n => by cases n <;> rfl
 | x :: r, 0 => rfl
 | x :: r, n + 1 => congrArg (x :: ·) (lset_eq y r n)
theorem look_eq (n : Nat) : ∀ (E : Ev), Q.look E n = Sx.look E n
 | [] => rfl
 | (k, v) :: r => by
   show @Bool.rec (fun _ => SV) (Q.look r n) v (Nat.beq k n) = _
   rw [look_eq n r]
   simp only [Sx.look]
   cases Nat.beq k n <;> rfl
theorem ltake_eq : ∀ (l : List Cell) (n : Nat), Q.ltake l n = Sx.ltake l n
 | [], 0 => rfl
 | [], n + 1 => rfl
 | x :: r, 0 => rfl
 | x :: r, n + 1 => by
   show (match Q.ltake r n with | some r => some (x :: r) | none => none) = _
   rw [ltake_eq r n]; rfl
theorem lsub_eq (n : Nat) : ∀ (l : List Cell) (k : Nat), Q.lsub l k n = Sx.lsub l k n
 | [], 0 => ltake_eq [] n
 | [], k + 1 => rfl
 | x :: r, 0 => ltake_eq (x :: r) n
 | x :: r, k + 1 => lsub_eq n r k
theorem lput0_eq : ∀ (l ys : List Cell), Q.lput0 l ys = Sx.lput l 0 ys
 | [], [] => rfl
 | [], y :: ys => rfl
 | x :: r, [] => rfl
 | x :: r, y :: ys => by
   show (match Q.lput0 r ys with | some q => some (y :: q) | none => none) = _
   rw [lput0_eq r ys]; rfl
theorem lput_eq (ys : List Cell) : ∀ (l : List Cell) (n : Nat), Q.lput l n ys = Sx.lput l n ys
 | [], 0 => lput0_eq [] ys
 | [], n + 1 => rfl
 | x :: r, 0 => lput0_eq (x :: r) ys
 | x :: r, n + 1 => by
   show (match Q.lput r n ys with | some q => some (x :: q) | none => none) = _
   rw [lput_eq ys r n]; rfl
theorem evl_eq (G : Nat) (H : Hp AV) (E : Ev) (o : Operand) : Q.evl G H E o = Sx.evl G H E o := by
 cases o <;> simp only [Q.evl, Sx.evl, look_eq, hget_eq] <;> rfl
theorem evlF (G : Nat) (H : Hp AV) (E : Ev) : Q.evl G H E = Sx.evl G H E := funext fun o => evl_eq G H E o
theorem evls_eq (ev : Operand -> Option SV) : ∀ (l : List Operand), Q.evls ev l = Sx.evls ev l
 | [] => rfl
 | x :: r => by
   simp only [Sx.evls, <- evls_eq ev r]; rfl
theorem evlP_eq (ev : Operand -> Option SV) : ∀ (l : List (Nat × Operand)), Q.evlP ev l = Sx.evlP ev l
 | [] => rfl
 | (i, x) :: r => by
   simp only [Sx.evlP, <- evlP_eq ev r]; rfl
theorem name_eq (c : Cell) : Q.name c = c.name := by
 induction c with
 | ifc t c ih => exact ih
 | _ => rfl
theorem namesL_eq : ∀ (l : List Cell), Q.namesL l = Sx.namesL l
 | [] => rfl
 | c :: r => by
   show @Option.rec Nat (fun _ => List Nat) (Q.namesL r) (fun n => n :: Q.namesL r) (Q.name c) = _
   rw [namesL_eq r, name_eq]
   simp only [Sx.namesL]
   cases c.name <;> rfl
theorem clC_eq (H : Hp AV) (c : Cell) : Q.clC H c = Sx.clC H c := by
 unfold Q.clC Sx.clC
 simp only [name_eq, hget_eq]; rfl
theorem clNs_eq (H : Hp AV) : ∀ (l : List Nat), Q.clNs H l = Sx.clNs H l
 | [] => rfl
 | n :: r => by
   show (match isS (Q.hget H n) with | true => Q.clNs H r | false => false) = _
   rw [clNs_eq H r, hget_eq]; rfl
theorem clL_eq (H : Hp AV) (l : List Cell) : Q.clL H l = Sx.clL H l := by
 unfold Q.clL Sx.clL
 rw [clNs_eq, namesL_eq]
theorem clV1_eq (H : Hp AV) (x : V1) : Q.clV1 H x = Sx.clV1 H x := by
 cases x
 ·exact clC_eq H _
 ·exact clL_eq H _
theorem clV1s_eq (H : Hp AV) : ∀ (l : List V1), Q.clV1s H l = Sx.clV1s H l
 | [] => rfl
 | x :: r => by
   show (match Q.clV1 H x with | true => Q.clV1s H r | false => false) = _
   rw [clV1s_eq H r, clV1_eq]; rfl
theorem clV_eq (H : Hp AV) (x : SV) : Q.clV H x = Sx.clV H x := by
 cases x
 ·exact clV1_eq H _
 ·exact clV1s_eq H _
 ·rfl
 ·exact clL_eq H _
theorem clVs_eq (H : Hp AV) : ∀ (l : List SV), Q.clVs H l = Sx.clVs H l
 | [] => rfl
 | x :: r => by
   show (match Q.clV H x with | true => Q.clVs H r | false => false) = _
   rw [clVs_eq H r, clV_eq]; rfl
theorem clCk_eq (H : Hp AV) (x : Chunk AV) : Q.clCk H x = Sx.clCk H x := by
 cases x
 ·exact clL_eq H _
 ·exact clL_eq H _
 ·rfl
 ·rfl
theorem clHs_eq (H : Hp AV) : ∀ (l : Hp AV), Q.clHs H l = Sx.clHs H l
 | [] => rfl
 | none :: r => clHs_eq H r
 | some c :: r => by
   show (match Q.clCk H c with | true => Q.clHs H r | false => false) = _
   rw [clHs_eq H r, clCk_eq]; rfl
theorem repsL_eq (z : List Cell) : ∀ n, Q.repsL z n = Sx.repsL z n
 | 0 => rfl
 | n + 1 => by
   show z ++ Q.repsL z n = _
   rw [repsL_eq z n]; rfl
theorem get_eq {α : Type} : ∀ (t : Tr α) (n : Nat), Q.get t n = t.get n
 | .lf, n => rfl
 | .nd x l r, 0 => rfl
 | .nd x l r, m + 1 => by
   show @Bool.rec (fun _ => Option α) (Q.get r (Nat.div m 2)) (Q.get l (Nat.div m 2)) (Nat.beq (Nat.mod m 2) 0) = _
   rw [get_eq l, get_eq r]
   have e1 : (m + 1 - 1) / 2 = Nat.div m 2 := rfl
   have e0 : Nat.beq (m + 1) 0 = false := rfl
   simp only [Tr.get, e0]
   rcases Nat.mod_two_eq_zero_or_one m with h | h
   ·have h1 : Nat.mod m 2 = 0 := h
    have h2 : (m + 1) % 2 = 1 := by omega
    have h3 : (m + 1) / 2 = Nat.div m 2 := by show (m + 1) / 2 = m / 2; omega
    rw [h1, h2, h3]; rfl
   ·have h1 : Nat.mod m 2 = 1 := h
    have h2 : (m + 1) % 2 = 0 := by omega
    rw [h1, h2, e1]; rfl
theorem fieldsT_eq (N : Env AV) (t : TypeId) : Q.fieldsT N t = Sx.fieldsT N t := by
 unfold Q.fieldsT Sx.fieldsT
 rw [get_eq]; rfl
theorem gnames_eq (N : Env AV) (t : Tgt) : Q.gnames N t = Sx.gnames N t := by
 unfold Q.gnames Sx.gnames
 simp only [get_eq]; rfl
theorem part1_eq (agg : Bool) (n : Nat) (l : List Cell) (off : Nat) : Q.part1 agg n l off = Sx.part1 agg n l off := by
 cases agg <;> simp only [Q.part1, Sx.part1, lsub_eq, nth_eq] <;> rfl
theorem partV_eq (N : Env AV) (t : TypeId) (l : List Cell) (off : Nat) : Q.partV N t l off = Sx.partV N t l off := by
 unfold Q.partV Sx.partV
 simp only [part1_eq, get_eq]; rfl
theorem eqL_eq : ∀ (l m : List Cell), Q.eqL l m = Sx.eqL l m
 | [], [] => rfl
 | [], y :: ys => rfl
 | x :: xs, [] => rfl
 | x :: xs, y :: ys => by
   simp only [Sx.eqL, <- eqL_eq xs ys]
   rfl
theorem kindsB_eq : ∀ (l : List FK) (m : List Cell), Q.kindsB l m = Sx.kindsB l m
 | [], [] => rfl
 | [], y :: ys => rfl
 | x :: xs, [] => rfl
 | x :: xs, y :: ys => by
   simp only [Sx.kindsB, <- kindsB_eq xs ys]
   rfl
theorem eqV_eq (N : Env AV) (t : TypeId) (cst : Bool) (x y : V1) : Q.eqV N t cst x y = Sx.eqV N t cst x y := by
 cases x <;> cases y <;> simp only [Q.eqV, Sx.eqV, kindsB_eq, eqL_eq, get_eq] <;> rfl
theorem bin_eq (N : Env AV) (op : BinOp) (t : TypeId) (cst : Bool) (x y : V1) : Q.bin N op t cst x y = Sx.bin N op t cst x y := by
 unfold Q.bin Sx.bin
 simp only [eqV_eq]; rfl
theorem fillP_eq (fs : List FdI) : ∀ (ps : List (Nat × V1)) (l : List Cell), Q.fillP fs l ps = Sx.fillP fs l ps
 | [], l => by simp only [Sx.fillP]; rfl
 | (i, x) :: r, l => by
   simp only [Sx.fillP, <- fillP_eq fs r, <- nth_eq, <- lput_eq]
   rfl
theorem fillA_eq (esz : Nat) : ∀ (ps : List (Nat × V1)) (l : List Cell), Q.fillA esz l ps = Sx.fillA esz l ps
 | [], l => by simp only [Sx.fillA]; rfl
 | (i, x) :: r, l => by
   simp only [Sx.fillA, <- fillA_eq esz r, <- lput_eq]
   rfl
theorem pBuild_eq (N : Env AV) (ev : Operand -> Option SV) (t : TypeId) (parts : Array (Nat × Operand)) : some (Q.pBuild N ev t parts) = Sx.pureOp N ev (.build t parts) := by
 simp only [Q.pBuild, Sx.pureOp, get_eq, evlP_eq, fillP_eq, fillA_eq]; rfl
theorem cellsV_eq : ∀ (l : List SV), Q.cellsV l = Sx.cellsV l
 | [] => rfl
 | .v (.c c) :: r => by
   show (match Q.cellsV r with | some l => some (c :: l) | none => none) = _
   rw [cellsV_eq r]; rfl
 | .v (.agg _) :: _ => rfl
 | .tup _ :: _ => rfl
 | .unk :: _ => rfl
 | .clo _ _ :: _ => rfl
theorem svs_eq : ∀ (l : List Cell), Q.svs l = Sx.svs l
 | [] => rfl
 | c :: r => congrArg (SV.v (.c c) :: ·) (svs_eq r)
theorem pureOp_eq (N : Env AV) (ev : Operand -> Option SV) (o : Op) : Q.pureOp N ev o = Sx.pureOp N ev o := by
 cases o with
 | build t parts => exact pBuild_eq N ev t parts
 | fieldAddr t x i => simp only [Q.pureOp, Q.pFieldAddr, Sx.pureOp, nth_eq, fieldsT_eq]; rfl
 | field t x i => simp only [Q.pureOp, Q.pField, Sx.pureOp, nth_eq, part1_eq, fieldsT_eq]; rfl
 | binOp op t x y y' => simp only [Q.pureOp, Q.pBin, Sx.pureOp, map_eq, bin_eq]; rfl
 | unOp u t x => cases u <;> rfl
 | slice t x lo hi mx => rfl
 | extract x i => simp only [Q.pureOp, Q.pExtract, Sx.pureOp, nth_eq]; rfl
 | indexAddr t x i => simp only [Q.pureOp, Q.pIndexAddr, Sx.pureOp, map_eq, get_eq]; rfl
 | index t x i => simp only [Q.pureOp, Q.pIndex, Sx.pureOp, map_eq, get_eq]; rfl
 | makeInterface t x => simp only [Q.pureOp, Q.pIfc, Sx.pureOp, get_eq]; rfl
 | convert s t x => simp only [Q.pureOp, Q.pConvert, Sx.pureOp, get_eq]; rfl
 | makeFunc fn a b => simp only [Q.pureOp, Q.pMkF, Sx.pureOp, evls_eq, cellsV_eq]; rfl
 | call c =>
   simp only [Q.pureOp, Q.pCall, Sx.pureOp, Q.pLens, Q.pLen, get_eq]
   cases c.callee <;> rfl
 | _ => rfl
theorem loadV_eq (N : Env AV) (t : TypeId) (H : Hp AV) (x : SV) : Q.loadV N t H x = Sx.loadV N t H x := by
 have hp : ∀ a i e o, Q.prtV N t a i e o = Sx.prtV N t a i e o := fun a i e o => by
  unfold Q.prtV Sx.prtV
  simp only [get_eq, part1_eq]; rfl
 unfold Q.loadV Sx.loadV
 simp only [hget_eq, partV_eq, hp]; rfl
theorem updH_eq (H : Hp AV) (x : Option (Nat × Chunk AV)) : Q.updH H x = Sx.updH H x := by
 cases x with
 | none => rfl
 | some p => exact lset_eq _ _ _
theorem namesV1s_eq : ∀ (l : List V1), Q.namesV1s l = Sx.namesV1s l
 | [] => rfl
 | x :: r => by
   show Q.namesL x.cells ++ Q.namesV1s r = _
   rw [namesV1s_eq r, namesL_eq]; rfl
theorem namesV_eq (x : SV) : Q.namesV x = Sx.namesV x := by
 cases x
 ·exact namesL_eq _
 ·exact namesV1s_eq _
 ·rfl
 ·exact namesL_eq _
theorem namesVs_eq : ∀ (l : List SV), Q.namesVs l = Sx.namesVs l
 | [] => rfl
 | x :: r => by
   show Q.namesV x ++ Q.namesVs r = _
   rw [namesVs_eq r, namesV_eq]; rfl
theorem hasN_eq (n : Nat) : ∀ (l : List Nat), Q.hasN l n = Sx.hasN l n
 | [] => rfl
 | x :: r => by
   show @Bool.rec (fun _ => Bool) (Q.hasN r n) true (Nat.beq x n) = _
   rw [hasN_eq n r]
   simp only [Sx.hasN]
   cases Nat.beq x n <;> rfl
theorem reach_eq (H : Hp AV) : ∀ (f : Nat) (l acc : List Nat), Q.reach H f l acc = Sx.reach H f l acc
 | 0, l, acc => by cases l <;> rfl
 | f + 1, [], acc => rfl
 | f + 1, n :: r, acc => by
   show Q.rch1 H (Q.reach H f) n r acc = _
   have e : Q.reach H f = Sx.reach H f := funext fun l => funext fun acc => reach_eq H f l acc
   unfold Q.rch1
   simp only [e, Sx.reach, hasN_eq, hget_eq, namesL_eq]; rfl
theorem bitsOf_eq : ∀ (l : List Nat), Q.bitsOf l = Sx.bitsOf l
 | [] => rfl
 | n :: r => by
   show Nat.lor (Nat.shiftLeft 1 n) (Q.bitsOf r) = _
   rw [bitsOf_eq r]; rfl
theorem sees_eq (R : List Nat) (n : Nat) : Q.seeB (Q.bitsOf R) n = Sx.sees R n := by
 unfold Q.seeB Sx.sees
 rw [bitsOf_eq]; rfl
theorem maskB_eq (R : List Nat) : ∀ (l : Hp AV) (i : Nat), Q.maskB (Q.bitsOf R) i l = Sx.maskH R i l
 | [], i => rfl
 | x :: r, i => by
   show (match Q.seeB (Q.bitsOf R) i with | true => x | false => none) :: Q.maskB (Q.bitsOf R) (i + 1) r = _
   rw [maskB_eq R r, sees_eq]; rfl
theorem mergeB_eq (R : List Nat) : ∀ (l b : Hp AV) (i : Nat), Q.mergeB (Q.bitsOf R) i l b = Sx.mergeH R i l b
 | [], b, i => by cases b <;> rfl
 | x :: r, [], i => by cases x <;> rfl
 | none :: r, y :: q, i => by
   show none :: Q.mergeB (Q.bitsOf R) (i + 1) r q = _
   rw [mergeB_eq R r]; rfl
 | some x :: r, y :: q, i => by
   show (match Q.seeB (Q.bitsOf R) i with | true => y | false => some x) :: Q.mergeB (Q.bitsOf R) (i + 1) r q = _
   rw [mergeB_eq R r, sees_eq]; rfl
theorem persB_eq : ∀ (l m : Hp AV), Q.persB l m = Sx.persB l m
 | [], m => rfl
 | none :: r, [] => rfl
 | some x :: r, [] => rfl
 | none :: r, none :: q => persB_eq r q
 | none :: r, some y :: q => rfl
 | some x :: r, none :: q => rfl
 | some x :: r, some y :: q => persB_eq r q
theorem callB_eq (cal : Callee AV) (f : Tgt) (args : List SV) (H : Hp AV) (B : Nat) : Q.callB cal f args H B = Q.callW cal f args H B (Q.maskB B 0 H) := by
 cases B <;> rfl
theorem callV_eq (cal : Callee AV) (gn : List Nat) (f : Tgt) (args : List SV) (H : Hp AV) : Q.callV cal gn f args H = Sx.callV cal gn f args H := by
 unfold Q.callV Sx.callV
 rw [callB_eq]
 unfold Q.callW
 simp only [clVs_eq, clHs_eq, bind_eq, persB_eq, mergeB_eq, maskB_eq, reach_eq, namesVs_eq]; rfl
theorem mkBuild_eq (N : Env AV) (t : TypeId) (len : Nat) (ps : Option (List (Nat × V1))) : Q.mkBuild N t len ps = Sx.mkBuild N t len ps := by
 unfold Q.mkBuild Sx.mkBuild
 simp only [fillA_eq, repsL_eq, get_eq]; rfl
theorem mkMake_eq (N : Env AV) (t : TypeId) (a b : Option SV) : Q.mkMake N t a b = Sx.mkMake N t a b := by
 unfold Q.mkMake Sx.mkMake
 simp only [repsL_eq, get_eq]; rfl
theorem len_eq {α : Type} : ∀ (l : List α), Q.len l = l.length
 | [] => rfl
 | x :: r => congrArg (· + 1) (len_eq r)
theorem lightArr_eq (N : Env AV) (nm : Nat) (H : Hp AV) (x : Option Arr) : Q.lightArr N nm H x = Sx.lightArr N nm H x := by
 unfold Q.lightArr Sx.lightArr
 simp only [hget_eq, len_eq]; rfl
theorem lightMk_eq (N : Env AV) (nm : Nat) (H : Hp AV) (k : Option Arr) (z : Option (Bool × AV × Nat × Nat)) : Q.lightMk N nm H k z = Sx.lightMk N nm H k z := by
 unfold Q.lightMk Sx.lightMk
 simp only [lightArr_eq]; rfl
theorem light_eq (N : Env AV) (nm : Nat) (ev : Operand -> Option SV) (H : Hp AV) (o : Op) : Q.light N nm ev H o = Sx.light N nm ev H o := by
 unfold Q.light Sx.light
 simp only [pureOp_eq, map_eq]
 cases Sx.pureOp N ev o with
 | some t => rfl
 | none =>
   cases o with
   | alloc t => simp only [Q.lMem, Q.lAlloc, hget_eq, len_eq, get_eq]; rfl
   | box t x => simp only [Q.lMem, Q.lBox, hget_eq, len_eq]; rfl
   | load t x => simp only [Q.lMem, Q.lLoad, map_eq, loadV_eq]; rfl
   | store t a x => simp only [Q.lMem, Q.lStore, Q.lStore1, Q.lStore2, hget_eq, lput_eq, get_eq]; rfl
   | makeSlice t x y => simp only [Q.lMem, lightMk_eq, mkMake_eq]
   | buildSlice t n ps => simp only [Q.lMem, lightArr_eq, mkBuild_eq, evlP_eq]
   | slice a b c d e => simp only [Q.lMem, Q.lightSl, Sx.lightSl, hget_eq, len_eq, get_eq]; rfl
   | _ => rfl
theorem callee_eq (N : Env AV) (ev : Operand -> Option SV) (o : Op) : Q.callee? N ev o = Sx.callee? N ev o := by
 have hh : ∀ o, Sx.heavyE ev o = true -> Q.cHeavy ev o = Sx.callee? N ev o := fun o h => by
  unfold Q.cHeavy Sx.callee?
  rw [h, evls_eq]; rfl
 cases o with
 | slice a b c d e =>
   simp only [Q.callee?]
   cases hp : partS ev (.slice a b c d e) with
   | some p => simp only [Sx.callee?, Sx.heavyE, Sx.heavy, hp]
   | none =>
     cases ht : txO ev (.slice a b c d e) with
     | true => simp only [Sx.callee?, Sx.heavyE, Sx.heavy, hp, ht]
     | false => exact hh _ (by simp only [Sx.heavyE, Sx.heavy, hp, ht])
 | makeMap a b => exact hh _ rfl
 | lookup a b c d => exact hh _ rfl
 | mapUpdate a b c d => exact hh _ rfl
 | convert a b x =>
   simp only [Q.callee?]
   cases hs : cellB slC (ev x) with
   | true => exact hh _ (by simp only [Sx.heavyE, Sx.heavy, hs])
   | false => simp only [Sx.callee?, Sx.heavyE, Sx.heavy, hs]
 | call c =>
   simp only [Q.callee?, Q.cCall]
   cases hc : c.callee with
   | value f => simp only [Sx.callee?, Sx.heavyE, Sx.heavy, hc, Q.cValue, evls_eq, get_eq, svs_eq]; rfl
   | invoke r m => simp only [Sx.callee?, Sx.heavyE, Sx.heavy, hc, Q.cInvoke, evls_eq, get_eq]; rfl
   | builtin b =>
     cases b <;> first
      | (simp only [Q.cBuiltin]; exact hh _ (by simp only [Sx.heavyE, Sx.heavy, hc] <;> rfl))
      | (simp only [Q.cBuiltin, Sx.callee?, Sx.heavyE, Sx.heavy, hc]; done)
      | (simp only [Q.cBuiltin]
         split
         ·rename_i x hx
          cases hs : cellB mpC (ev x) with
          | true => exact hh _ (by simp only [Sx.heavyE, Sx.heavy, hc, hx, hs])
          | false => simp only [Sx.callee?, Sx.heavyE, Sx.heavy, hc, hx, hs]
         ·rename_i hx
          simp only [Sx.callee?, Sx.heavyE, Sx.heavy, hc])
 | _ => rfl
theorem keptU_eq (N : Env AV) (R : List Nat) (H H' : Hp AV) (n : Nat) : Q.keptU N R H H' n = Sx.keptU N R H H' n := by
 unfold Q.keptU Sx.keptU Q.sees
 simp only [sees_eq, hget_eq]; rfl
theorem entOf_eq (N : Env AV) (nm : Nat) (ev : Operand -> Option SV) (H H' : Hp AV) (o : Op) : Q.entOf N nm ev H H' o = Sx.entOf N nm ev H H' o := by
 have e : ∀ R, Q.keptU N R H H' = Sx.keptU N R H H' := fun R => funext fun n => keptU_eq N R H H' n
 unfold Q.entOf Sx.entOf
 simp only [callee_eq, reach_eq, namesVs_eq, e, gnames_eq]
 cases Sx.callee? N ev o with
 | none => cases o <;> rfl
 | some x => cases x <;> rfl
theorem stepOp_eq (N : Env AV) (cal : Callee AV) (nm : Nat) (o : Oper) (s : St AV) : Q.stepOp N cal nm o s = Sx.stepOp N cal nm o s := by
 unfold Q.stepOp Sx.stepOp
 simp only [evlF, callee_eq, bind_eq, callV_eq, light_eq, updH_eq, gnames_eq]; rfl
theorem countMk_eq : ∀ (l : List Oper), Q.countMk l = Sx.countMk l
 | [] => rfl
 | o :: r => by
   show (match makes o.op with | true => Q.countMk r + 1 | false => Q.countMk r) = _
   rw [countMk_eq r]; rfl
theorem nmOf_eq : ∀ (l : List Oper) (b i : Nat), Q.nmOf l b i = Sx.nmOf l b i
 | [], b, i => by cases i <;> rfl
 | o :: r, b, 0 => rfl
 | o :: r, b, i + 1 => by
   show (match makes o.op with | true => Q.nmOf r (b + 1) i | false => Q.nmOf r b i) = _
   rw [nmOf_eq r, nmOf_eq r]; rfl
theorem nones_eq : ∀ n, Q.nones (AV := AV) n = Sx.nones AV n
 | 0 => rfl
 | n + 1 => congrArg (none :: ·) (nones_eq n)
theorem app_eq {α : Type} (m : List α) : ∀ (l : List α), Q.app l m = l ++ m
 | [] => rfl
 | x :: r => congrArg (x :: ·) (app_eq m r)
theorem growH_eq (H : Hp AV) (k : Nat) : Q.growH H k = Sx.growH H k := by
 cases k with
 | zero => rfl
 | succ k => show Q.app H (Q.nones (k + 1)) = _; rw [app_eq, nones_eq]; rfl
theorem wantedS_eq (all : List Oper) (o : Oper) (E : Ev) : Q.wantedS all o E = Sx.wantedS all o E := by
 unfold Q.wantedS Sx.wantedS Q.wantedG
 simp only [nth_eq, look_eq]; rfl
theorem hasEdge_eq (i : Nat) : ∀ (l : List Edge), Q.hasEdge l i = Sx.hasEdge l i
 | [] => rfl
 | e :: r => by
   simp only [Sx.hasEdge, <- hasEdge_eq i r]; rfl
theorem anyE_eq (rec : Nat -> Bool) : ∀ (l : List Edge), Q.anyE rec l = Sx.anyE rec l
 | [] => rfl
 | e :: r => by
   simp only [Sx.anyE, <- anyE_eq rec r]; rfl
theorem isAnc_eq (all : List Oper) : ∀ (f j i : Nat), Q.isAnc all f j i = Sx.isAnc all f j i
 | 0, j, i => rfl
 | f + 1, j, i => by
   simp only [Sx.isAnc, <- isAnc_eq all f, <- hasEdge_eq, <- anyE_eq, <- nth_eq]; rfl
theorem compatE_eq (x y : Ent) : Q.compatE x y = Sx.compatE x y := by
 cases x <;> cases y <;> simp only [Q.compatE, Sx.compatE, Q.sees, sees_eq] <;> rfl
theorem logOk_eq (all : List Oper) (j : Nat) (en : Ent) : ∀ (l : List (Nat × Ent)), Q.logOk all j en l = Sx.logOk all j en l
 | [] => rfl
 | (i, x) :: r => by
   simp only [Sx.logOk, <- logOk_eq all j en r, <- compatE_eq, <- isAnc_eq]; rfl
theorem edgesBelow_eq (i : Nat) : ∀ (l : List Edge), Q.edgesBelow i l = Sx.edgesBelow i l
 | [] => rfl
 | e :: r => by
   simp only [Sx.edgesBelow, <- edgesBelow_eq i r]; rfl
theorem lookA_eq (n : Nat) : ∀ (l : Asm), Q.lookA l n = Sx.lookA l n
 | [] => rfl
 | (k, b) :: r => by
   simp only [Sx.lookA, <- lookA_eq n r]; rfl
theorem dropA_eq (n : Nat) : ∀ (l : Asm), Q.dropA l n = Sx.dropA l n
 | [] => rfl
 | (k, b) :: r => by
   simp only [Sx.dropA, <- dropA_eq n r]; rfl
theorem dropD_eq (A : Asm) (d : Option Nat) : Q.dropD A d = Sx.dropD A d := by
 cases d
 ·rfl
 ·exact dropA_eq _ _
theorem gTmp_eq (all : List Oper) (o : Oper) : Q.gTmp all o = Sx.gTmp all o := by
 unfold Q.gTmp Sx.gTmp
 simp only [nth_eq]; rfl
theorem pickK_eq (A : Asm) (ev : Operand -> Option SV) (o : Op) : Q.pickK A ev o = Sx.pickK A ev o := by
 cases o with
 | pick c a b =>
   cases c <;> simp only [Q.pickK, Sx.pickK, Q.pickK1, lookA_eq] <;> rfl
 | _ => rfl
theorem execA_eq (N : Env AV) (cal : Callee AV) (base : Nat) (all : List Oper) (i : Nat) (o : Oper) (A B : Asm) (s : St AV) : Q.execA N cal base all i o A B s = Sx.execA N cal base all i o A B s := by
 unfold Q.execA Sx.execA
 simp only [evlF, pickK_eq, map_eq, dropD_eq, entOf_eq, nmOf_eq, stepOp_eq]; rfl
theorem step1A_eq (N : Env AV) (cal : Callee AV) (base : Nat) (all : List Oper) (i : Nat) (o : Oper) (A : Asm) (s : St AV) : Q.step1A N cal base all i o A s = Sx.step1A N cal base all i o A s := by
 unfold Q.step1A Sx.step1A Q.step1F
 simp only [wantedS_eq, execA_eq, dropD_eq, gTmp_eq, lookA_eq]; rfl
theorem quietS_eq (q : Bool) (en : Ent) (H H' : Hp AV) : Q.quietS q en H H' = Sx.quietS q en H H' := by
 unfold Q.quietS Sx.quietS
 simp only [len_eq]; rfl
theorem stepOpsA_eq (N : Env AV) (cal : Callee AV) (base : Nat) (all : List Oper) : ∀ (l : List Oper) (i : Nat) (A : Asm) (q : Bool) (s : St AV), Q.stepOpsA N cal base all i l A q s = Sx.stepOpsA N cal base all i l A q s
 | [], i, A, q, s => rfl
 | o :: r, i, A, q, s => by
   show Q.bind (Q.step1A N cal base all i o A s) (fun x => Q.stepOpsA N cal base all (i + 1) r x.2.2 (Q.quietS q x.2.1 s.H x.1.H) x.1) = _
   simp only [bind_eq, step1A_eq, quietS_eq, stepOpsA_eq N cal base all r]; rfl
theorem stepOpsDA_eq (N : Env AV) (cal : Callee AV) (base : Nat) (all : List Oper) : ∀ (l : List Oper) (i : Nat) (log : List (Nat × Ent)) (A : Asm) (q : Bool) (s : St AV), Q.stepOpsDA N cal base all i l log A q s = Sx.stepOpsDA N cal base all i l log A q s
 | [], i, log, A, q, s => rfl
 | o :: r, i, log, A, q, s => by
   show (match Q.edgesBelow i o.after.toList with
    | false => T.fail "an edge upwards"
    | true => Q.bind (Q.step1A N cal base all i o A s) fun x => match Q.logOk all i x.2.1 log with
      | true => Q.stepOpsDA N cal base all (i + 1) r ((i, x.2.1) :: log) x.2.2 (Q.quietS q x.2.1 s.H x.1.H) x.1
      | false => .fail "the order matters") = _
   simp only [bind_eq, step1A_eq, quietS_eq, edgesBelow_eq, logOk_eq, stepOpsDA_eq N cal base all r]; rfl
theorem joinL_eq (b : Bool) : ∀ (l m : List Cell), Q.joinL b l m = Sx.joinL b l m
 | [], [] => rfl
 | [], y :: ys => rfl
 | x :: xs, [] => rfl
 | x :: xs, y :: ys => by
   simp only [Sx.joinL, <- joinL_eq b xs ys]; rfl
theorem joinV_eq (b : Bool) (x y : SV) : Q.joinV b x y = Sx.joinV b x y := by
 unfold Q.joinV Sx.joinV
 simp only [joinL_eq]; rfl
theorem joinZ_eq (b : Bool) : ∀ (l m : Ev), Q.joinZ b l m = Sx.joinZ b l m
 | [], [] => rfl
 | [], y :: ys => rfl
 | x :: xs, [] => rfl
 | (k, v) :: xs, (k', u) :: ys => by
   simp only [Sx.joinZ, <- joinZ_eq b xs ys, <- joinV_eq]; rfl
theorem firstN_eq : ∀ (n : Nat) (l : Ev), Q.firstN n l = Sx.firstN n l
 | 0, l => by cases l <;> rfl
 | n + 1, [] => rfl
 | n + 1, x :: r => congrArg (x :: ·) (firstN_eq n r)
theorem joinT_eq (E : Ev) : ∀ (t : T (St AV × Bool)), Q.joinT E t = Sx.joinT E t
 | .leaf s => by
   show (match s.2 with | true => some (none, Q.firstN (Q.len s.1.E - Q.len E) s.1.E) | false => none) = _
   rw [firstN_eq, len_eq, len_eq]; rfl
 | .ite b t e => by
   show Q.joinI b (Q.joinT E t) (Q.joinT E e) = _
   rw [joinT_eq E t, joinT_eq E e]
   unfold Q.joinI
   simp only [joinZ_eq]; rfl
 | .need b t => by
   simp only [Sx.joinT, <- joinT_eq E t]; rfl
 | .fail w => rfl
theorem joinR_eq (s : St AV) (t : T (St AV × Bool)) : Q.joinR s t = Sx.joinR s t := by
 have h2 : ∀ t, Q.joinR2 s t = (match Sx.joinT s.E t with
  | some (none, W) => .leaf { s with E := W ++ s.E }
  | some (some n, W) => .need n (.leaf { s with E := W ++ s.E })
  | none => t.map fun r => r.1) := fun t => by
  unfold Q.joinR2
  simp only [joinT_eq, app_eq, map_eq]; rfl
 cases t with
 | leaf r => rfl
 | ite b t e => exact h2 (.ite b t e)
 | need b t => exact h2 (.need b t)
 | fail w => exact h2 (.fail w)
theorem dstsOk_eq (nt : Nat) : ∀ (l : List Oper), Q.dstsOk nt l = Sx.dstsOk nt l
 | [] => rfl
 | o :: r => by
   simp only [Sx.dstsOk, <- dstsOk_eq nt r]; rfl
theorem tidy_eq (E : Ev) : ∀ n, Q.tidy E n = Sx.tidy E n
 | 0 => rfl
 | n + 1 => by
   show (n, Q.look E n) :: Q.tidy E n = _
   rw [tidy_eq E n, look_eq]; rfl
theorem rounds_eq (nt : Nat) (body : St AV -> T (Ex × St AV)) : ∀ (n : Nat) (s : St AV), Q.rounds nt body n s = Sx.rounds nt body n s
 | 0, s => rfl
 | n + 1, s => by
   show Q.bind (body s) (fun r => match r.1 with
    | .normal => Q.rounds nt body n { r.2 with E := Q.tidy r.2.E nt }
    | e => .leaf (e, r.2)) = _
   simp only [bind_eq, tidy_eq, rounds_eq nt body n]; rfl
theorem bind_leaf {α β : Type} (f : α -> β) (t : T α) : t.bind (fun a => .leaf (f a)) = t.map f := by
 induction t with
 | leaf a => rfl
 | ite b t e h1 h2 => simp only [T.bind, T.map, h1, h2]
 | need b t h => simp only [T.bind, T.map, h]
 | fail w => rfl
theorem xRegion_eq (N : Env AV) (cal : Callee AV) (lp : Nat -> Option (St AV -> T (Ex × St AV))) (nt id : Nat) (ops : Array Oper) (d : Bool) (s : St AV) : Q.xRegion N cal nt ops d s = Sx.xc N cal lp nt (.region id ops d) s := by
 unfold Q.xRegion Q.xReg Q.xRegD
 simp only [Sx.xc, bind_leaf, dstsOk_eq, map_eq, joinR_eq, stepOpsA_eq, stepOpsDA_eq, len_eq, growH_eq, countMk_eq]; rfl
theorem xc_eq (N : Env AV) (cal : Callee AV) (lp : Nat -> Option (St AV -> T (Ex × St AV))) (nt : Nat) : ∀ (c : Code) (s : St AV), Q.xc N cal lp nt c s = Sx.xc N cal lp nt c s
 | .skip, s => rfl
 | .label _, s => rfl
 | .region id ops d, s => xRegion_eq N cal lp nt id ops d s
 | .seq a b, s => by
   simp only [Q.xc, Sx.xc, bind_eq, xc_eq N cal lp nt a, xc_eq N cal lp nt b]
   rfl
 | .cond c a b, s => by
   simp only [Q.xc, Q.xCond, Sx.xc, evl_eq, xc_eq N cal lp nt a, xc_eq N cal lp nt b]
   rfl
 | .block id c, s => by
   simp only [Q.xc, Sx.xc, bind_eq, xc_eq N cal lp nt c]
   rfl
 | .loop c, s => by
   have e : Q.xc N cal lp nt c = Sx.xc N cal lp nt c := funext fun s => xc_eq N cal lp nt c s
   simp only [Q.xc, Sx.xc, e, rounds_eq]
   rfl
 | .exit id, s => rfl
 | .ret, s => rfl
 | .rangeFunc _ _ _ _, s => rfl
 | .scope _, s => rfl
 | .goto _, s => rfl
 | .refuse _, s => rfl
theorem resV_eq (N : Env AV) (s : St AV) : ∀ (l : List ResultVar), Q.resV N s l = Sx.resV N s l
 | [] => rfl
 | .tmp t :: r => by
   simp only [Sx.resV, <- resV_eq N s r, <- map_eq, <- look_eq]; rfl
 | .cell a t :: r => by
   simp only [Sx.resV, <- resV_eq N s r, <- map_eq, <- look_eq, <- hget_eq, <- partV_eq]; rfl
theorem sweep_eq (len : Nat) (R : List Nat) : ∀ (l : Hp AV) (i : Nat), Q.sweep len R i l = Sx.sweep len R i l
 | [], i => rfl
 | x :: r, i => by
   simp only [Sx.sweep, <- sweep_eq len R r, <- hasN_eq]; rfl
theorem trim0_eq : ∀ (l : Hp AV), Q.trim0 l = Sx.trim 0 l
 | [] => rfl
 | none :: r => by
   simp only [Sx.trim, <- trim0_eq r]
   show (match Q.trim0 r with | [] => [] | y :: q => none :: y :: q) = _
   cases Q.trim0 r <;> rfl
 | some c :: r => by
   simp only [Sx.trim, <- trim0_eq r]; rfl
theorem trim_eq : ∀ (n : Nat) (l : Hp AV), Q.trim n l = Sx.trim n l
 | 0, l => trim0_eq l
 | n + 1, [] => rfl
 | n + 1, x :: r => congrArg (x :: ·) (trim_eq n r)
theorem namesH_eq : ∀ (n : Nat) (l : Hp AV), Q.namesH n l = Sx.namesH n l
 | 0, l => by cases l <;> rfl
 | n + 1, [] => rfl
 | n + 1, none :: r => namesH_eq n r
 | n + 1, some (.cells l _) :: r => by
   show Q.app (Q.namesL l) (Q.namesH n r) = _
   rw [app_eq, namesL_eq, namesH_eq n r]; rfl
 | n + 1, some (.vec l _ _) :: r => by
   show Q.app (Q.namesL l) (Q.namesH n r) = _
   rw [app_eq, namesL_eq, namesH_eq n r]; rfl
 | n + 1, some .dead :: r => namesH_eq n r
 | n + 1, some (.abs _) :: r => namesH_eq n r
theorem gcH_eq (len : Nat) (v : SV) (H : Hp AV) : Q.gcH len v H = Sx.gcH len v H := by
 unfold Q.gcH Sx.gcH
 rw [trim_eq, sweep_eq, reach_eq, namesV_eq, namesH_eq]
theorem pad_eq : ∀ (l : List SV) (n : Nat), Q.pad n l = Sx.pad n l
 | [], n => rfl
 | x :: r, n => congrArg ((n, x) :: ·) (pad_eq r (n + 1))
theorem runF_eq (N : Env AV) (cal : Callee AV) (f : FuncId) (args : List SV) (H : Hp AV) : Q.runF N cal f args H = Sx.runF N cal f args H := by
 unfold Q.runF Sx.runF
 simp only [get_eq, Q.runC, Q.rRet, Q.rEnd, bind_eq, xc_eq, resV_eq, gcH_eq, clV_eq, clHs_eq, pad_eq, len_eq]; rfl
theorem allNone_eq : ∀ (l : Hp AV), Q.allNone l = Sx.allNone l
 | [] => rfl
 | none :: r => allNone_eq r
 | some _ :: r => rfl
theorem joinCT_eq (n : Nat) : ∀ (t : T (SV × Hp AV)), Q.joinCT n t = Sx.joinCT n t
 | .leaf s => by
   show (match Nat.beq (Q.len s.2) n with | true => some (none, s.1) | false => none) = _
   rw [len_eq]; rfl
 | .ite b t e => by
   show Q.joinCI b (Q.joinCT n t) (Q.joinCT n e) = _
   rw [joinCT_eq n t, joinCT_eq n e]
   unfold Q.joinCI
   simp only [joinV_eq]; rfl
 | .need b t => by
   simp only [Sx.joinCT, <- joinCT_eq n t]; rfl
 | .fail w => rfl
theorem joinCal_eq (cal : Callee AV) : Q.joinCal cal = Sx.joinCal cal := by
 funext f args A
 unfold Q.joinCal Sx.joinCal Q.joinC2
 simp only [allNone_eq, joinCT_eq, len_eq, clV_eq, persB_eq]; rfl
theorem lv_eq (N : Env AV) (tab : FuncId -> Option (List SV -> Hp AV -> T (SV × Hp AV))) : ∀ (n : Nat), Q.lv N tab n = Sx.lv N tab n
 | 0 => by
   funext g args H
   cases g with
   | op o => rfl
   | fn f =>
     show Q.lvF tab f args H _ = _
     unfold Q.lvF
     simp only [Sx.lv]; rfl
 | n + 1 => by
   funext g args H
   cases g with
   | op o => rfl
   | fn f =>
     show Q.lvF tab f args H (Q.runF N (Q.joinCal (Q.lv N tab n)) f args H) = _
     unfold Q.lvF
     simp only [Sx.lv, lv_eq N tab n, joinCal_eq, runF_eq]; rfl
end Go.Sx.Q

namespace Go.Sx
set_option linter.unusedVariables false
variable {AV : Type} {P : Program} {N : Env AV}
def chAll (H : Hp AV) : List Nat -> Option (List (Chunk AV))
 | [] => some []
 | n :: r => match hget H n with
   | some c => match chAll H r with | some l => some (c :: l) | none => none
   | none => none
theorem chAll_spec {H : Hp AV} : ∀ {ns : List Nat} {l : List (Chunk AV)}, chAll H ns = some l -> l.length = ns.length /\ ∀ (i n : Nat), ns[i]? = some n -> ∃ c, l[i]? = some c /\ hget H n = some c
 | [], l, h => by simp only [chAll, Option.some.injEq] at h; subst h; exact ⟨rfl, fun i n h => by simp at h⟩
 | n :: r, l, h => by
   simp only [chAll] at h
   split at h
   ·rename_i c hc
    split at h
    ·rename_i l' hl
     cases h
     obtain ⟨h1, h2⟩ := chAll_spec hl
     refine ⟨congrArg (· + 1) h1, fun i m hm => ?_⟩
     cases i with
     | zero => cases hm; exact ⟨c, rfl, hc⟩
     | succ i => exact h2 i m hm
    ·cases h
   ·cases h
def chL (l : List (Chunk AV)) : Hp AV := l.map some
theorem chL_get (l : List (Chunk AV)) (n : Nat) (c : Chunk AV) : hget (chL l) n = some c ↔ l[n]? = some c := by
 induction l generalizing n with
 | nil => cases n <;> simp [chL, hget]
 | cons a r ih =>
   cases n with
   | zero => simp [chL, hget]
   | succ n => exact ih n
theorem chL_len (l : List (Chunk AV)) : (chL l).length = l.length := by simp [chL]
def putC : List Nat -> List (Chunk AV) -> Hp AV -> Hp AV
 | n :: r, c :: l, H => putC r l (lset H n (some c))
 | _, _, H => H
theorem putC_len : ∀ (ns : List Nat) (l : List (Chunk AV)) (H : Hp AV), (putC ns l H).length = H.length
 | [], l, H => by cases l <;> rfl
 | n :: r, [], H => rfl
 | n :: r, a :: l, H => by
   show (putC r l (lset H n (some a))).length = _
   rw [putC_len r l, length_lset]
theorem putC_out : ∀ (ns : List Nat) (l : List (Chunk AV)) (H : Hp AV) (m : Nat), m ∉ ns -> hget (putC ns l H) m = hget H m
 | [], l, H, m, h => by cases l <;> rfl
 | n :: r, [], H, m, h => rfl
 | n :: r, a :: l, H, m, h => by
   show hget (putC r l (lset H n (some a))) m = _
   rw [putC_out r l _ m (fun e => h (List.mem_cons_of_mem _ e)), hget_lset_ne _ (fun e => h (by rw [e]; exact List.mem_cons_self))]
theorem putC_in : ∀ (ns : List Nat) (l : List (Chunk AV)) (H : Hp AV), ns.Nodup -> (∀ n ∈ ns, n < H.length) -> ∀ (i n : Nat) (a : Chunk AV), ns[i]? = some n -> l[i]? = some a -> hget (putC ns l H) n = some a
 | [], l, H, h, hl, i, n, a, h1, h2 => by simp at h1
 | n :: r, [], H, h, hl, i, m, a, h1, h2 => by simp at h2
 | n :: r, b :: l, H, h, hl, i, m, a, h1, h2 => by
   show hget (putC r l (lset H n (some b))) m = _
   obtain ⟨hn, hr⟩ := List.nodup_cons.1 h
   cases i with
   | zero =>
     simp only [List.getElem?_cons_zero, Option.some.injEq] at h1 h2
     subst h1 h2
     rw [putC_out r l _ _ hn, hget_lset_self _ (hl _ List.mem_cons_self)]
   | succ i =>
     simp only [List.getElem?_cons_succ] at h1 h2
     exact putC_in r l _ hr (fun x hx => by rw [length_lset]; exact hl x (List.mem_cons_of_mem _ hx)) i m a h1 h2
def ordN (H : Hp AV) (l : List Nat) : List Nat := match uniq [] l with
 | a => ordI H 9 a
theorem ordI_spec (H : Hp AV) : ∀ (k : Nat) (a : List Nat), a.Nodup -> (ordI H k a).Nodup /\ ∀ n ∈ a, n ∈ ordI H k a
 | 0, a, h => ⟨h, fun n hn => hn⟩
 | k + 1, a, h => by
   obtain ⟨b1, b2⟩ := uniq_spec (namesAt H a) a h
   simp only [ordI]
   split
   ·exact ⟨b1, fun n hn => (b2 n).2 (.inl hn)⟩
   ·obtain ⟨c1, c2⟩ := ordI_spec H k _ b1
    exact ⟨c1, fun n hn => c2 n ((b2 n).2 (.inl hn))⟩
theorem ordN_spec (H : Hp AV) (l : List Nat) : (ordN H l).Nodup /\ ∀ n ∈ l, n ∈ ordN H l := by
 unfold ordN
 simp only
 obtain ⟨a1, a2⟩ := uniq_spec l [] List.nodup_nil
 obtain ⟨b1, b2⟩ := ordI_spec H 9 _ a1
 exact ⟨b1, fun n hn => b2 n ((a2 n).2 (.inr hn))⟩
def sumC (isS : AV -> Nat -> Bool) (M : List Bool) (tree : List SV -> List (Chunk AV) -> T (SV × List (Chunk AV) × List (Chunk AV))) (args : List SV) (H : Hp AV) : T (SV × Hp AV) :=
 match globsB isS 0 M H with
 | false => .fail "summary: variables"
 | true => match ordN H (namesVs args) with
   | ns => match chAll H ns, allGe M.length ns, subH ns H ns with
     | some l, true, true => (tree (args.map (SV.ren fun n => M.length + idxN ns n)) (l.map (Chunk.ren fun n => M.length + idxN ns n))).bind fun r => match Nat.beq r.2.1.length l.length with
       | true => .leaf (r.1.ren (outN M.length ns H.length), putC ns (r.2.1.map (Chunk.ren (outN M.length ns H.length))) H ++ chL (r.2.2.map (Chunk.ren (outN M.length ns H.length))))
       | false => .fail "summary: things"
     | _, _, _ => .fail "summary: things"
theorem sumC_ok {isS : AV -> Nat -> Bool} {sn : Nat -> AV} (hs : ∀ a i, isS a i = true -> a = sn i) {M : List Bool} (hG : N.G = M.length) {tree : List SV -> List (Chunk AV) -> T (SV × List (Chunk AV) × List (Chunk AV))} {f : FuncId}
 (h : ∀ args l v l' nw, (tree args l).val = some (v, l', nw) -> l'.length = l.length -> (∀ x ∈ args, ClV (sentL sn 0 M ++ chL l) x) -> ClHp N (sentL sn 0 M ++ chL l) -> Ctr P N f args (sentL sn 0 M ++ chL l) v (sentL sn 0 M ++ chL (l' ++ nw))) : FnOk P N f (sumC isS M tree) := by
 refine FnOk.of fun args H v H' hr ha hC => ?_
 unfold sumC at hr
 split at hr
 ·simp [T.val] at hr
 rename_i hgl
 obtain ⟨hML, hgl⟩ := globsB_spec hs hgl
 dsimp only at hr
 obtain ⟨hnd, hmem⟩ := ordN_spec H (namesVs args)
 generalize ordN H (namesVs args) = ns at hr hnd hmem
 split at hr
 ·rename_i l0 hl hge hsub
  obtain ⟨⟨v1, l', nw⟩, ht, hr⟩ := T.bind_some hr
  have hsub := subH_spec hsub
  split at hr
  ·rename_i hlen
   have hlen0 : l'.length = l0.length := (beq_iff _ _).1 hlen
   simp only [T.val, Option.some.injEq, Prod.mk.injEq] at hr
   obtain ⟨rfl, rfl⟩ := hr
   obtain ⟨al1, al2⟩ := chAll_spec hl
   have hge := allGe_spec hge
   have hnlt : ∀ n ∈ ns, n < H.length := fun n hn => by
    obtain ⟨i, hi⟩ := List.mem_iff_getElem?.1 hn
    obtain ⟨a, _, h2⟩ := al2 i n hi
    exact hget_lt h2
   let G := M.length
   let π := outN G ns H.length
   let l := l0.map (Chunk.ren fun n => G + idxN ns n)
   have hlen : l'.length = l.length := by show _ = (l0.map _).length; rw [List.length_map]; exact hlen0
   have lget : ∀ (j : Nat) (c : Chunk AV), l[j]? = some c -> ∃ n, ns[j]? = some n /\ hget H n = some (c.ren π) := fun j c hj => by
    have hj : (l0.map (Chunk.ren fun n => G + idxN ns n))[j]? = some c := hj
    rw [List.getElem?_map, Option.map_eq_some_iff] at hj
    obtain ⟨d, hd, rfl⟩ := hj
    have hjl : j < ns.length := by rw [<- al1]; exact (List.getElem?_eq_some_iff.1 hd).1
    have h2 : ns[j]? = some ns[j] := List.getElem?_eq_getElem hjl
    obtain ⟨d', h3, h4⟩ := al2 j _ h2
    rw [hd] at h3
    cases h3
    exact ⟨_, h2, by rw [h4, cell_ren_id fun n hn => outN_in (idxN_get (hsub _ (List.getElem_mem hjl) d h4 n hn))]⟩
   have lat : ∀ n, n ∈ ns -> ∃ d, hget H n = some d /\ l[idxN ns n]? = some (d.ren fun n => G + idxN ns n) := fun n hn => by
    obtain ⟨d, h1, h2⟩ := al2 _ _ (idxN_get hn)
    exact ⟨d, h2, by show (l0.map _)[_]? = _; rw [List.getElem?_map, h1]; rfl⟩
   have back : ∀ x ∈ args, ((x.ren fun n => G + idxN ns n).ren π) = x := fun x hx => sv_ren_id fun n hn => by
    have : n ∈ ns := hmem n (mem_namesVs.2 ⟨x, hx, hn⟩)
    exact outN_in (idxN_get this)
   have eargs : args = (args.map (SV.ren fun n => G + idxN ns n)).map (SV.ren π) := by
    rw [List.map_map]
    conv => lhs; rw [<- List.map_id args]
    exact List.map_congr_left fun x hx => (back x hx).symm
   have lenS : (sentL sn 0 M).length = G := sentL_len sn M 0
   have getS : ∀ (q : List (Chunk AV)) i c, hget (sentL sn 0 M ++ chL q) i = some c ↔ (i < G /\ M[i]? = some true /\ c = .abs (sn i)) \/ ∃ j, i = G + j /\ q[j]? = some c := fun q i c => by
    rw [hget_append, lenS]
    by_cases hi : i < G
    ·rw [if_pos hi, sentL_get, Nat.zero_add]
     constructor
     ·rintro ⟨h1, h2⟩; exact .inl ⟨hi, h1, h2⟩
     ·rintro (⟨_, h1, h2⟩ | ⟨j, h1, _⟩)
      ·exact ⟨h1, h2⟩
      ·omega
    ·rw [if_neg hi, chL_get]
     constructor
     ·intro h1; exact .inr ⟨i - G, by omega, h1⟩
     ·rintro (⟨h1, _⟩ | ⟨j, rfl, h1⟩)
      ·exact absurd h1 hi
      ·rw [Nat.add_sub_cancel_left]; exact h1
   have small : ∀ n, n ∈ ns -> ∃ c, hget (sentL sn 0 M ++ chL l) (G + idxN ns n) = some c := fun n hn => by
    obtain ⟨d, _, h2⟩ := lat n hn
    exact ⟨_, (getS l _ _).2 (.inr ⟨_, rfl, h2⟩)⟩
   have hlist : ∀ cs : List Cell, (∀ n ∈ namesL cs, n ∈ ns) -> ClL (sentL sn 0 M ++ chL l) (cs.map (Cell.ren fun n => G + idxN ns n)) := fun cs hcs c hc n hn => by
    obtain ⟨d, hd, rfl⟩ := List.mem_map.1 hc
    rw [name_ren] at hn
    obtain ⟨m, hm, rfl⟩ := Option.map_eq_some_iff.1 hn
    exact small m (hcs m (mem_nmL.2 ⟨d, hd, hm⟩))
   have argcl : ∀ x ∈ args.map (SV.ren fun n => G + idxN ns n), ClV (sentL sn 0 M ++ chL l) x := fun y hy => by
    obtain ⟨x, hx, rfl⟩ := List.mem_map.1 hy
    have one : ∀ z : V1, (∀ n ∈ namesL z.cells, n ∈ ns) -> ClV1 (sentL sn 0 M ++ chL l) (z.ren fun n => G + idxN ns n) := fun z hz => by
     cases z with
     | c c =>
       have := hlist [c] hz
       simpa [ClV1, V1.cells, V1.ren] using this
     | agg cs => exact hlist cs hz
    have hx' : ∀ n ∈ namesV x, n ∈ ns := fun n hn => hmem n (mem_namesVs.2 ⟨x, hx, hn⟩)
    cases x with
    | v x => exact one x hx'
    | tup q =>
      intro z hz
      obtain ⟨z', hz', rfl⟩ := List.mem_map.1 hz
      exact one z' fun n hn => hx' n (mem_namesV1s.2 ⟨z', hz', hn⟩)
    | unk => trivial
    | clo f cs => exact one (.agg cs) hx'
   have heapcl : ClHp N (sentL sn 0 M ++ chL l) := by
    refine ⟨fun i c hi => ?_, trivial⟩
    rcases (getS l i c).1 hi with ⟨_, _, rfl⟩ | ⟨j, rfl, h1⟩
    ·intro c hc; cases hc
    ·have h1 : (l0.map (Chunk.ren fun n => G + idxN ns n))[j]? = some c := h1
     rw [List.getElem?_map, Option.map_eq_some_iff] at h1
     obtain ⟨d, hd, rfl⟩ := h1
     have hjl : j < ns.length := by rw [<- al1]; exact (List.getElem?_eq_some_iff.1 hd).1
     obtain ⟨d', h3, h4⟩ := al2 j _ (List.getElem?_eq_getElem hjl)
     rw [hd] at h3
     cases h3
     rw [cellsOf_ren]
     exact hlist _ fun n hn => hsub _ (List.getElem_mem hjl) d h4 n hn
   have hc := h _ l v1 l' nw ht hlen argcl heapcl
   rw [eargs]
   have πlt : ∀ i, i < G -> π i = i := fun i hi => outN_lt hi
   have lenP := putC_len ns (l'.map (Chunk.ren π)) H
   have mget : ∀ (q : List (Chunk AV)) (j : Nat) a, q[j]? = some a -> (q.map (Chunk.ren π))[j]? = some (a.ren π) := fun q j a hj => by rw [List.getElem?_map, hj]; rfl
   have lens : l.length = ns.length := by show (l0.map _).length = _; rw [List.length_map, al1]
   have stand : ∀ j a, (l' ++ nw)[j]? = some a -> (∃ n, ns[j]? = some n /\ π (G + j) = n /\ hget (putC ns (l'.map (Chunk.ren π)) H ++ chL (nw.map (Chunk.ren π))) n = some (a.ren π)) \/ (ns.length <= j /\ π (G + j) = H.length + (j - ns.length) /\ hget (putC ns (l'.map (Chunk.ren π)) H ++ chL (nw.map (Chunk.ren π))) (H.length + (j - ns.length)) = some (a.ren π)) := fun j a hj => by
    by_cases hjl : j < ns.length
    ·have h1 : ns[j]? = some ns[j] := List.getElem?_eq_getElem hjl
     rw [List.getElem?_append_left (by omega)] at hj
     refine .inl ⟨ns[j], h1, outN_in h1, ?_⟩
     rw [hget_append, lenP, if_pos (hnlt _ (List.getElem_mem hjl))]
     exact putC_in ns _ H hnd hnlt j _ _ h1 (mget _ _ _ hj)
    ·rw [List.getElem?_append_right (by omega)] at hj
     refine .inr ⟨by omega, ?_, ?_⟩
     ·have := outN_new (G := G) (ns := ns) (L := H.length) (j := j - ns.length)
      rw [show G + ns.length + (j - ns.length) = G + j by omega] at this
      exact this
     ·rw [hget_append, lenP, if_neg (by omega), Nat.add_sub_cancel_left]
      refine (chL_get _ _ _).2 (mget _ _ _ ?_)
      rw [hlen, lens] at hj
      exact hj
   have sren : ∀ i, (Chunk.abs (sn i) : Chunk AV) = (Chunk.abs (sn i)).ren π := fun i => rfl
   refine ctr_embed (π := π) hc (B' := putC ns (l'.map (Chunk.ren π)) H ++ chL (nw.map (Chunk.ren π))) ?_ ?_ ?_ ?_ hC ?_ ?_ ?_ ?_ ?_ ?_ ?_
   ·intro i c hi
    rcases (getS l i c).1 hi with ⟨h1, h2, rfl⟩ | ⟨j, rfl, h1⟩
    ·rw [πlt i h1]
     have := hgl i h2
     rw [Nat.zero_add] at this
     exact this
    ·obtain ⟨n, g1, g2⟩ := lget j c h1
     rw [show π (G + j) = n from outN_in g1]
     exact g2
   ·intro i j c d hi hj e
    rcases (getS _ i c).1 hi with ⟨h1, _, _⟩ | ⟨x, rfl, h1⟩ <;> rcases (getS _ j d).1 hj with ⟨g1, _, _⟩ | ⟨y, rfl, g1⟩
    ·rw [πlt i h1, πlt j g1] at e; exact e
    ·rw [πlt i h1] at e
     rcases stand y d g1 with ⟨n, s1, s2, _⟩ | ⟨s0, s1, _⟩
     ·rw [s2] at e
      have := hge n (List.mem_of_getElem? s1)
      omega
     ·rw [s1] at e; omega
    ·rw [πlt j g1] at e
     rcases stand x c h1 with ⟨n, s1, s2, _⟩ | ⟨s0, s1, _⟩
     ·rw [s2] at e
      have := hge n (List.mem_of_getElem? s1)
      omega
     ·rw [s1] at e; omega
    ·rcases stand x c h1 with ⟨n, s1, s2, _⟩ | ⟨s0, s1, _⟩ <;> rcases stand y d g1 with ⟨m, t1, t2, _⟩ | ⟨t0, t1, _⟩
     ·rw [s2, t2] at e
      subst e
      have := nodup_get hnd s1 t1
      omega
     ·rw [s2, t1] at e
      have := hnlt n (List.mem_of_getElem? s1)
      omega
     ·rw [s1, t2] at e
      have := hnlt m (List.mem_of_getElem? t1)
      omega
     ·rw [s1, t1] at e; omega
   ·intro i c hi
    rcases (getS l i c).1 hi with ⟨h1, h2, rfl⟩ | ⟨j, rfl, h1⟩
    ·exact ⟨_, (getS _ _ _).2 (.inl ⟨h1, h2, rfl⟩)⟩
    ·have hj : j < l'.length := by rw [hlen]; exact (List.getElem?_eq_some_iff.1 h1).1
     exact ⟨_, (getS _ _ _).2 (.inr ⟨j, rfl, by rw [List.getElem?_append_left hj]; exact List.getElem?_eq_getElem hj⟩)⟩
   ·intro g hg
    rw [hG] at hg
    exact πlt g hg
   ·intro i c hi hno
    rcases (getS _ i c).1 hi with ⟨h1, h2, rfl⟩ | ⟨j, rfl, h1⟩
    ·have := (getS l i _).2 (.inl ⟨h1, h2, rfl⟩)
     rw [hno] at this; cases this
    ·by_cases hj : j < l.length
     ·have := (getS l (G + j) _).2 (.inr ⟨j, rfl, List.getElem?_eq_getElem hj⟩)
      rw [hno] at this; cases this
     ·rcases stand j c h1 with ⟨n, s1, _, _⟩ | ⟨_, s1, _⟩
      ·have := (List.getElem?_eq_some_iff.1 s1).1
       omega
      ·rw [s1]; omega
   ·rw [hG]; exact hML
   ·intro m c hm
    rw [hget_append, lenP] at hm
    split at hm
    ·rename_i hml
     by_cases hmn : m ∈ ns
     ·obtain ⟨j, hj⟩ := List.mem_iff_getElem?.1 hmn
      have hj' : j < l'.length := by rw [hlen, lens]; exact (List.getElem?_eq_some_iff.1 hj).1
      have := putC_in ns _ H hnd hnlt j m _ hj (mget l' j _ (List.getElem?_eq_getElem hj'))
      rw [this] at hm
      cases hm
      exact .inl ⟨G + j, _, (outN_in hj).symm, (getS _ _ _).2 (.inr ⟨j, rfl, by rw [List.getElem?_append_left hj']; exact List.getElem?_eq_getElem hj'⟩), rfl⟩
     ·rw [putC_out ns _ H m hmn] at hm
      by_cases hmg : m < G /\ M[m]? = some true
      ·have := hgl m hmg.2
       rw [Nat.zero_add, hm] at this
       cases this
       exact .inl ⟨m, _, (πlt m hmg.1).symm, (getS _ _ _).2 (.inl ⟨hmg.1, hmg.2, rfl⟩), sren m⟩
      ·refine .inr ⟨hm, fun i d hi e => ?_⟩
       rcases (getS _ i d).1 hi with ⟨h1, h2, rfl⟩ | ⟨j, rfl, h1⟩
       ·rw [πlt i h1] at e
        subst e
        exact hmg ⟨h1, h2⟩
       ·rcases stand j d h1 with ⟨n, s1, s2, _⟩ | ⟨_, s1, _⟩
        ·rw [s2] at e
         subst e
         exact hmn (List.mem_of_getElem? s1)
        ·rw [s1] at e; omega
    ·rename_i hml
     have h1 := (chL_get _ _ _).1 hm
     rw [List.getElem?_map, Option.map_eq_some_iff] at h1
     obtain ⟨a, h1, rfl⟩ := h1
     refine .inl ⟨G + (ns.length + (m - H.length)), a, ?_, (getS _ _ _).2 (.inr ⟨_, rfl, by rw [List.getElem?_append_right (by omega), hlen, lens, Nat.add_sub_cancel_left]; exact h1⟩), rfl⟩
     have := outN_new (G := G) (ns := ns) (L := H.length) (j := m - H.length)
     rw [show G + (ns.length + (m - H.length)) = G + ns.length + (m - H.length) by omega]
     rw [show π (G + ns.length + (m - H.length)) = _ from this]
     omega
   ·intro i d hi
    rcases (getS _ i d).1 hi with ⟨h1, h2, rfl⟩ | ⟨j, rfl, h1⟩
    ·rw [πlt i h1, hget_append, lenP, if_pos (by omega), putC_out]
     ·have := hgl i h2
      rw [Nat.zero_add] at this
      exact this
     ·intro hmem
      have := hge i hmem
      omega
    ·rcases stand j d h1 with ⟨n, _, s2, s3⟩ | ⟨_, s2, s3⟩
     ·rw [s2]; exact s3
     ·rw [s2]; exact s3
   ·intro m c hm
    by_cases hmn : m ∈ ns
    ·obtain ⟨j, hj⟩ := List.mem_iff_getElem?.1 hmn
     have hj' : j < l'.length := by rw [hlen, lens]; exact (List.getElem?_eq_some_iff.1 hj).1
     exact ⟨_, by rw [hget_append, lenP, if_pos (hget_lt hm)]; exact putC_in ns _ H hnd hnlt j m _ hj (mget l' j _ (List.getElem?_eq_getElem hj'))⟩
    ·exact ⟨c, by rw [hget_append, lenP, if_pos (hget_lt hm), putC_out ns _ H m hmn]; exact hm⟩
   ·intro m hm hno
    rw [hget_append, lenP, if_pos hm, putC_out]
    ·exact hno
    ·intro hmn
     obtain ⟨j, hj⟩ := List.mem_iff_getElem?.1 hmn
     obtain ⟨a, _, h2⟩ := al2 j m hj
     rw [hno] at h2; cases h2
   ·rw [List.length_append, lenP]; omega
  ·simp [T.val] at hr
 ·simp [T.val] at hr
end Go.Sx

namespace Go.Sx
set_option linter.unusedVariables false
variable {AV : Type} {P : Program} {N : Env AV}
theorem Back.own {L nt : Nat} {s t : St AV} {π : Nat -> Nat} (h : Back N L nt s t π) {ρ : Nm} {w : World} (ho : Own N ρ s.H w) : Own N (ρ.ren π) t.H w := by
 refine ⟨⟨fun n c hc => ?_, fun n m c d hnm hc hd k hk hk' => ?_, fun g hg => ?_⟩, ho.ro.1, fun n c k hc hk => ?_⟩
 ·obtain ⟨d, g1, g2⟩ := h.H n c hc
  exact q_ren.1 ((g2 ρ (π n) w).1 (ho.q _ _ g1))
 ·obtain ⟨c', g1, g2⟩ := h.H n c hc
  obtain ⟨d', g3, g4⟩ := h.H m d hd
  rw [<- fp_ren] at hk hk'
  exact ho.dis (π n) (π m) _ _ (fun e => hnm (h.inj n m c d hc hd e)) g1 g3 k (((g2 ρ (π n) w).2 k).1 hk) (((g4 ρ (π m) w).2 k).1 hk')
 ·show ρ (π g) = g
  rw [h.fix g (by have := h.G; omega)]
  exact ho.glb g hg
 ·obtain ⟨d, g1, g2⟩ := h.H n c hc
  rw [<- fp_ren] at hk
  exact ho.ro.2 (π n) _ k g1 (((g2 ρ (π n) w).2 k).1 hk)
def stV (r : SV × Hp AV) : Ex × St AV := (.ret, { E := only [0] [(0, r.1)] 1, H := r.2 })
theorem ctr_back {L : Nat} {f : FuncId} {args : List SV} {H H2 : Hp AV} {v : SV} (hL : H.length = L) (hG : N.G <= L) (hc : Ctr P N f args H v H2) {pk : Chunk AV -> Option AV} (hpk : ∀ d a, pk d = some a -> ∀ π, Lesser N (d.ren π) (.abs a))
 {v' : SV} {H' : Hp AV} (hv : v' ≠ .unk) (hb : (backS L 1 [0] pk (stV (v, H2))).val = some (stV (v', H'))) : Ctr P N f args H v' H' := by
 subst hL
 obtain ⟨_, π, hb⟩ := backS_ok hpk hG hb
 obtain ⟨h1, h2, h3⟩ := hc
 have e0 : v = v'.ren π := hb.E 0 (by omega) hv
 refine ⟨hb.cl.E 0, ⟨hb.cl.H, trivial⟩, fun ρ w hO => (h3 ρ w hO).mono ?_⟩
 rintro e w' ⟨ρ', rfl, o, ev⟩
 refine ⟨ρ'.ren π, ?_, hb.own o, hb.evo rfl ev⟩
 rw [e0, SV.den_ren]
end Go.Sx

namespace Go.Proofs.YthdmoahfeimdaaaGreatDoor
open Go Go.Sx Go.Proofs
set_option linter.unusedVariables false
set_option maxRecDepth 100000
variable {σ : Sg} {lp : Lp}
def isS : AV -> Nat -> Bool
 | .sent i, j => Nat.beq i j
 | _, _ => false
theorem isS_ok : ∀ a i, isS a i = true -> a = .sent i := fun a i h => by
 cases a <;> first
  | (have h := (beq_iff _ _).1 h; subst h; rfl)
  | cases h
def hpC (M : List Bool) (l : List (Chunk AV)) : Hp AV := sentL AV.sent 0 M ++ chL l
def maskL (l : List Nat) : Nat -> Nat -> List Bool
 | 0, _ => []
 | n + 1, i => hasN l i :: maskL l n (i + 1)
noncomputable def mkF (f : FuncId) : List Bool := match guW.get f with | some l => maskL l gN 0 | none => maskL [] gN 0
theorem maskL_len (l : List Nat) : ∀ n i, (maskL l n i).length = n
 | 0, _ => rfl
 | n + 1, i => by rw [maskL, List.length_cons, maskL_len l n]
theorem mkF_len (f : FuncId) : (mkF f).length = gN := by
 unfold mkF; split <;> exact maskL_len ..
def noPk : Chunk AV -> Option AV := fun _ => none
noncomputable def runC (lp : Lp) (σ : Sg) (tab : Tab) (f : FuncId) (M : List Bool) (args : List SV) (l : List (Chunk AV)) : T (Ex × St AV) :=
 match clVs (hpC M l) args, clHs (hpC M l) (hpC M l) with
 | true, true => (Q.lv (NVl lp σ) tab 26 (.fn f) args (hpC M l)).bind fun r => backS (M.length + l.length) 1 [0] noPk (stV r)
 | _, _ => .fail "names"
theorem runC_ctr (hlp : LpsOk Tryz.prog (NVl lp σ)) {tab : Tab} (ht : TabOk Tryz.prog (NVl lp σ) tab) {f : FuncId} {M : List Bool} (hM : M.length = gN) {args : List SV} {l : List (Chunk AV)} {v : SV} {H' : Hp AV} (h : (runC lp σ tab f M args l).val = some (stV (v, H'))) (hv : v ≠ .unk) :
 Ctr Tryz.prog (NVl lp σ) f args (hpC M l) v H' := by
 unfold runC at h
 split at h
 ·rename_i h1 h2
  obtain ⟨⟨v1, H2⟩, hr, hb⟩ := T.bind_some h
  rw [Q.lv_eq] at hr
  have hctr := (fnV hlp ht 26 f).ctr hr (clVs_iff.1 h1) ⟨clHs_iff.1 h2, trivial⟩
  have hlen : (hpC M l).length = M.length + l.length := by simp [hpC, sentL_len, chL_len]
  exact ctr_back hlen (by show gN <= _; omega) hctr (fun d a h => by cases h) hv hb
 ·simp [T.val] at h
def cB : Cell -> Cell -> Bool
 | .bl a, .bl b => (match a, b with | true, true => true | false, false => true | _, _ => false)
 | .il .i64 n, .il .i64 m => decide (n = m)
 | .ptr n o, .ptr m p => (match Nat.beq n m with | true => Nat.beq o p | false => false)
 | .vs n o l e true, .vs m p l' e' true => (match Nat.beq n m, Nat.beq o p, Nat.beq l l' with | true, true, true => Nat.beq e e' | _, _, _ => false)
 | .pnil, .pnil => true
 | .snil, .snil => true
 | .inil, .inil => true
 | .ifc t c, .ifc u d => (match Nat.beq t u with | true => cB c d | false => false)
 | .sf n o e z f _, .sf m p e' z' f' _ => decide (n = m /\ o = p /\ e = e' /\ z = z' /\ f = f')
 | _, _ => false
theorem cB_spec : ∀ {c d : Cell}, cB c d = true -> c = d := by
 intro c
 induction c with
 | ifc t c ih =>
   intro d h
   cases d <;> try (simp [cB] at h; done)
   rename_i u d
   simp only [cB] at h
   split at h
   ·rename_i e; rw [(beq_iff _ _).1 e, ih h]
   ·cases h
 | bl a => intro d h; cases d <;> try (simp [cB] at h; done)
           rename_i b; cases a <;> cases b <;> first | rfl | (simp [cB] at h)
 | il k n =>
   intro d h
   cases d <;> try (cases k <;> simp [cB] at h; done)
   rename_i k' m
   cases k <;> cases k' <;> simp [cB] at h
   subst h; rfl
 | ptr n o =>
   intro d h
   cases d <;> try (simp [cB] at h; done)
   simp only [cB] at h
   split at h
   ·rename_i e; rw [(beq_iff _ _).1 e, (beq_iff _ _).1 h]
   ·cases h
 | vs n o l e k =>
   intro d h
   cases d <;> try (cases k <;> simp [cB] at h; done)
   rename_i m p l' e' k'
   cases k <;> cases k' <;> simp only [cB] at h <;> try (cases h; done)
   split at h
   ·rename_i e1 e2 e3; rw [(beq_iff _ _).1 e1, (beq_iff _ _).1 e2, (beq_iff _ _).1 e3, (beq_iff _ _).1 h]
   ·cases h
 | sf n o e z f p =>
   intro d h
   cases d <;> try (simp [cB] at h; done)
   simp only [cB] at h
   obtain ⟨rfl, rfl, rfl, rfl, rfl⟩ := of_decide_eq_true h
   rfl
 | pnil => intro d h; cases d <;> first | rfl | (simp [cB] at h)
 | snil => intro d h; cases d <;> first | rfl | (simp [cB] at h)
 | inil => intro d h; cases d <;> first | rfl | (simp [cB] at h)
 | _ => intro d h; cases d <;> simp [cB] at h
def clB : List Cell -> List Cell -> Bool
 | [], [] => true
 | c :: r, d :: s => match cB c d with | true => clB r s | false => false
 | _, _ => false
theorem clB_spec : ∀ {l m : List Cell}, clB l m = true -> l = m
 | [], [], _ => rfl
 | [], _ :: _, h => by cases h
 | _ :: _, [], h => by cases h
 | c :: r, d :: s, h => by
   simp only [clB] at h
   split at h
   ·rename_i e; rw [cB_spec e, clB_spec h]
   ·cases h
def chB : Chunk AV -> Chunk AV -> Bool
 | .cells l t, .cells m u => (match Nat.beq t u with | true => clB l m | false => false)
 | .vec l e t, .vec m e' u => (match Nat.beq t u, Nat.beq e e' with | true, true => clB l m | _, _ => false)
 | _, _ => false
theorem chB_spec {c d : Chunk AV} (h : chB c d = true) : c = d := by
 cases c <;> cases d <;> simp only [chB] at h <;> try (cases h; done)
 ·split at h
  ·rename_i e; rw [(beq_iff _ _).1 e, clB_spec h]
  ·cases h
 ·split at h
  ·rename_i e e'; rw [(beq_iff _ _).1 e, (beq_iff _ _).1 e', clB_spec h]
  ·cases h
def chsB : List (Chunk AV) -> List (Chunk AV) -> Bool
 | [], [] => true
 | c :: r, d :: s => match chB c d with | true => chsB r s | false => false
 | _, _ => false
theorem chsB_spec : ∀ {l m : List (Chunk AV)}, chsB l m = true -> l = m
 | [], [], _ => rfl
 | [], _ :: _, h => by cases h
 | _ :: _, [], h => by cases h
 | c :: r, d :: s, h => by
   simp only [chsB] at h
   split at h
   ·rename_i e; rw [chB_spec e, chsB_spec h]
   ·cases h
def svB : List SV -> List SV -> Bool
 | [], [] => true
 | .v (.c a) :: r, .v (.c b) :: s => match cB a b with | true => svB r s | false => false
 | .v (.agg a) :: r, .v (.agg b) :: s => match clB a b with | true => svB r s | false => false
 | _, _ => false
theorem svB_spec : ∀ {l m : List SV}, svB l m = true -> l = m
 | [], [], _ => rfl
 | [], _ :: _, h => by simp [svB] at h
 | x :: r, [], h => by
   cases x <;> simp [svB] at h
 | x :: r, y :: s, h => by
   cases x with
   | v x => cases y with
     | v y => cases x <;> cases y <;> simp only [svB] at h <;> try (cases h; done)
              all_goals
               split at h
               ·rename_i e
                first
                 | rw [cB_spec e, svB_spec h]
                 | rw [clB_spec e, svB_spec h]
               ·cases h
     | _ => cases x <;> simp [svB] at h
   | _ => cases y <;> simp [svB] at h
structure Kr where
 args : List SV
 l : List (Chunk AV)
 v : SV
 l' : List (Chunk AV)
 nw : List (Chunk AV)
def krT : List Kr -> List SV -> List (Chunk AV) -> T (SV × List (Chunk AV) × List (Chunk AV))
 | [], _, _ => .fail "no such run"
 | k :: r, args, l => match svB args k.args, chsB l k.l with
   | true, true => .leaf (k.v, k.l', k.nw)
   | _, _ => krT r args l
def krG (M : List Bool) (ks : List Kr) : List SV -> Hp AV -> T (SV × Hp AV) := sumC isS M (krT ks)
theorem krT_spec : ∀ {ks : List Kr} {args : List SV} {l : List (Chunk AV)} {r}, (krT ks args l).val = some r -> ∃ k ∈ ks, args = k.args /\ l = k.l /\ r = (k.v, k.l', k.nw)
 | [], _, _, _, h => by simp [krT, T.val] at h
 | k :: ks, args, l, r, h => by
   simp only [krT] at h
   split at h
   ·rename_i h1 h2
    simp only [T.val, Option.some.injEq] at h
    exact ⟨k, List.mem_cons_self .., svB_spec h1, chsB_spec h2, h.symm⟩
   ·obtain ⟨k', hk, h'⟩ := krT_spec h
    exact ⟨k', List.mem_cons_of_mem _ hk, h'⟩
theorem krG_ok {f : FuncId} {M : List Bool} (hM : M.length = gN) {ks : List Kr} (h : ∀ k ∈ ks, Ctr Tryz.prog (NVl lp σ) f k.args (hpC M k.l) k.v (hpC M (k.l' ++ k.nw))) : FnOk Tryz.prog (NVl lp σ) f (krG M ks) := by
 refine sumC_ok isS_ok hM.symm fun args l v l' nw hr hlen ha hC => ?_
 obtain ⟨k, hk, rfl, rfl, e⟩ := krT_spec hr
 cases e
 exact h k hk
end Go.Proofs.YthdmoahfeimdaaaGreatDoor
