import Derived.Test.YtpapbhbnaalhcaaDoorJj
import Derived.Test.YtpapbhbnaalhcaaDoorSxLn
namespace Go.Proofs.YtpapbhbnaalhcaaDoor
open Go Go.Sx Go.Proofs
set_option linter.unusedVariables false
set_option maxRecDepth 100000
noncomputable def tabF : Tab := tabAdd 13 (sumG isS fitM fitsS) tabJ
theorem tabF_ok {σ : Sg} : TabOk Tryd.prog (NV σ) tabF := tabAdd_ok (lp := noLp) fitsS_ok tabJ_ok
def opK (k : Int) (o : O) : List Cell := [.il .i64 k, .it .i64 o.key, .it .i64 o.val, .it .i64 o.tall]
def opX (o : O) (h : ∀ c ∈ [(1 : Int), 2, 3, 4, 5, 6, 7, 8], (o.kind == c) = false) : List Cell := [.iv .i64 o.kind [1, 2, 3, 4, 5, 6, 7, 8] h, .it .i64 o.key, .it .i64 o.val, .it .i64 o.tall]
noncomputable def runM (σ : Sg) (f : FuncId) (m : CreedM) (args : List SV) : T (SV × List AV × List AV) := runC σ tabF f fitM args m
noncomputable def may1_T (σ : Sg) (m : CreedM) (o : O) (a : An) : T (SV × List AV × List AV) :=
 let x0 : GC AV := GC.p (Cell.it IntKind.i64 (CreedM.st m));
 let x1 : Nat := Intf.len (F2 σ) (AV.pairs (CreedM.pairs m));
 let x2 : List N1 := [N1.mk (O.val o)];
 let x3 : Nat := Intf.len (F2 σ) (AV.ints (CreedM.vals m));
 let x4 : Nat := List.length (CreedM.vals m) + 1;
 let x5 : List (GC AV) := [GC.s (AV.pairs m.3) x1 2];
 let x6 : Nat := Intf.len (F2 σ) (AV.ints (CreedM.vals m ++ x2));
 let x7 : Bool :=
  match decide (List.length (CreedM.pairs m) = x1) with
  | true => true
  | false => false;
 let x8 : Bool :=
  match decide (List.length (CreedM.vals m) = x3) with
  | true => x7
  | false => false;
 let y0 : T (SV × List AV × List AV) := (T.leaf (SV.v (V1.c (Cell.bl true)), [AV.obj 1 58 (x0 :: GC.s (AV.ints m.2) x3 1 :: x5)], []));
 let y1 : T (SV × List AV × List AV) := (T.leaf (SV.v (V1.c (Cell.bl false)), [AV.obj 1 58 (x0 :: GC.s (AV.ints m.2) x3 1 :: x5)], []));
 T.ite (!fitsM (CreedM.st m) (O.mk 1 (O.key o) (O.val o) (O.tall o))) (T.need x8 y1) (T.ite (match (An.code a == 4 && An.val a == 0) == true with | true => true | false => false) (T.need x8 y0) (T.ite (!(1 == An.code a && 0 == An.val a)) (T.need x8 y1) (T.ite (An.code a != 1) (T.need x8 y0) (T.need (decide (List.length (CreedM.vals m) = x3 /\ x4 * (SI.bytes si39 + 1) <= lim)) (T.need (match decide (x4 = x6) with | true => x7 | false => false) (T.leaf (SV.v (V1.c (Cell.bl true)), [AV.obj 1 58 (x0 :: GC.s (AV.ints (List.append (CreedM.vals m) x2)) x6 1 :: x5)], [])))))))
theorem may1 (σ : Sg) (m : CreedM) (o : O) (a : An) : runM σ 9 m [.v (.agg (opK 1 o)), .v (.agg a.enc)] = may1_T σ m o a := by kernel_rfl
noncomputable def may2_T (σ : Sg) (m : CreedM) (o : O) (a : An) : T (SV × List AV × List AV) :=
 let x0 : GC AV := GC.p (Cell.it IntKind.i64 (CreedM.st m));
 let x1 : Nat := Intf.len (F2 σ) (AV.ints (CreedM.vals m));
 let x2 : Int := (↑(List.length (CreedM.vals m)) : Int);
 let x3 : Nat := Intf.len (F2 σ) (AV.pairs (CreedM.pairs m));
 let x4 : List (GC AV) := [GC.s (AV.pairs m.3) x3 2];
 let x5 : Int := IntKind.wrap IntKind.i64 (x2 - 1);
 let x6 : Nat := Int.toNat x5;
 let x7 : List N1 := List.take x6 (CreedM.vals m);
 let x8 : Bool :=
  match decide (List.length (CreedM.pairs m) = x3) with
  | true => true
  | false => false;
 let x9 : Nat := 0 + x6;
 let x10 : Nat := Intf.len (F2 σ) (AV.ints (List.drop 0 x7));
 let x11 : Bool :=
  match decide (List.length (CreedM.vals m) = x1) with
  | true => x8
  | false => false;
 let y0 : T (SV × List AV × List AV) := (T.leaf (SV.v (V1.c (Cell.bl true)), [AV.obj 1 58 (x0 :: GC.s (AV.ints m.2) x1 1 :: x4)], []));
 let y1 : T (SV × List AV × List AV) := (T.leaf (SV.v (V1.c (Cell.bl true)), [AV.obj 1 58 (x0 :: GC.s (AV.ints x7) x10 1 :: x4)], []));
 let y2 : T (SV × List AV × List AV) := (T.need (match decide (x6 - 0 = x10) with | true => x8 | false => false) y1);
 let y3 : T (SV × List AV × List AV) := (T.need (decide ((0 : Int) <= 0 /\ 0 <= x5 /\ x5 <= x2 /\ List.length (CreedM.vals m) = x1)) y2);
 let y4 : T (SV × List AV × List AV) := (T.ite (An.code a != 1) (T.need x11 y0) y3);
 let y5 : T (SV × List AV × List AV) := (T.leaf (SV.v (V1.c (Cell.bl false)), [AV.obj 1 58 (x0 :: GC.s (AV.ints m.2) x1 1 :: x4)], []));
 T.ite (!fitsM (CreedM.st m) (O.mk 2 (O.key o) (O.val o) (O.tall o))) (T.need x11 y5) (T.ite (decide (x2 > 0)) (T.need (decide (0 <= x5 /\ x5 < x2)) (T.need (decide (x9 < List.length (CreedM.vals m))) (T.ite (!(1 == An.code a && N1.val (List.getD (CreedM.vals m) x9 (AK.dflt kints)) == An.val a)) (T.need x11 y5) y4))) (T.ite (!(2 == An.code a && 0 == An.val a)) (T.need x11 y5) y4))
theorem may2 (σ : Sg) (m : CreedM) (o : O) (a : An) : runM σ 9 m [.v (.agg (opK 2 o)), .v (.agg a.enc)] = may2_T σ m o a := by kernel_rfl
noncomputable def may3_T (σ : Sg) (m : CreedM) (o : O) (a : An) : T (SV × List AV × List AV) :=
 let x0 : Int := (↑(List.length (CreedM.vals m)) : Int);
 let x1 : Nat := Intf.len (F2 σ) (AV.pairs (CreedM.pairs m));
 let x2 : Nat := Intf.len (F2 σ) (AV.ints (CreedM.vals m));
 let x3 : Int := IntKind.wrap IntKind.i64 (x0 - 1);
 let x4 : Nat := 0 + Int.toNat x3;
 let x5 : Bool :=
  match decide (List.length (CreedM.vals m) = x2) with
  | true =>
   match decide (List.length (CreedM.pairs m) = x1) with
   | true => true
   | false => false
  | false => false;
 let y0 : T (SV × List AV × List AV) := (T.leaf (SV.v (V1.c (Cell.bl true)), [AV.obj 1 58 [GC.p (Cell.it IntKind.i64 (CreedM.st m)), GC.s (AV.ints m.2) x2 1, GC.s (AV.pairs m.3) x1 2]], []));
 let y1 : T (SV × List AV × List AV) := (T.ite (An.code a != 1) (T.need x5 y0) (T.need x5 y0));
 let y2 : T (SV × List AV × List AV) := (T.leaf (SV.v (V1.c (Cell.bl false)), [AV.obj 1 58 [GC.p (Cell.it IntKind.i64 (CreedM.st m)), GC.s (AV.ints m.2) x2 1, GC.s (AV.pairs m.3) x1 2]], []));
 T.ite (!fitsM (CreedM.st m) (O.mk 3 (O.key o) (O.val o) (O.tall o))) (T.need x5 y2) (T.ite (decide (x0 > 0)) (T.need (decide (0 <= x3 /\ x3 < x0)) (T.need (decide (x4 < List.length (CreedM.vals m))) (T.ite (!(1 == An.code a && N1.val (List.getD (CreedM.vals m) x4 (AK.dflt kints)) == An.val a)) (T.need x5 y2) y1))) (T.ite (!(2 == An.code a && 0 == An.val a)) (T.need x5 y2) y1))
theorem may3 (σ : Sg) (m : CreedM) (o : O) (a : An) : runM σ 9 m [.v (.agg (opK 3 o)), .v (.agg a.enc)] = may3_T σ m o a := by kernel_rfl
noncomputable def may4_T (σ : Sg) (m : CreedM) (o : O) (a : An) : T (SV × List AV × List AV) :=
 let x0 : GC AV := GC.p (Cell.it IntKind.i64 (CreedM.st m));
 let x1 : Nat := Intf.len (F2 σ) (AV.pairs (CreedM.pairs m));
 let x2 : Nat := Intf.len (F2 σ) (AV.ints (CreedM.vals m));
 let x3 : List N1 := [N1.mk (O.val o)];
 let x4 : Nat := List.length (CreedM.vals m) + 1;
 let x5 : List (GC AV) := [GC.s (AV.pairs m.3) x1 2];
 let x6 : Nat := Intf.len (F2 σ) (AV.ints (CreedM.vals m ++ x3));
 let x7 : Bool :=
  match decide (List.length (CreedM.pairs m) = x1) with
  | true => true
  | false => false;
 let x8 : Bool :=
  match decide (List.length (CreedM.vals m) = x2) with
  | true => x7
  | false => false;
 let y0 : T (SV × List AV × List AV) := (T.leaf (SV.v (V1.c (Cell.bl true)), [AV.obj 1 58 (x0 :: GC.s (AV.ints m.2) x2 1 :: x5)], []));
 let y1 : T (SV × List AV × List AV) := (T.leaf (SV.v (V1.c (Cell.bl false)), [AV.obj 1 58 (x0 :: GC.s (AV.ints m.2) x2 1 :: x5)], []));
 T.ite (!fitsM (CreedM.st m) (O.mk 4 (O.key o) (O.val o) (O.tall o))) (T.need x8 y1) (T.ite (match (An.code a == 4 && An.val a == 0) == true with | true => true | false => false) (T.need x8 y0) (T.ite (!(1 == An.code a && 0 == An.val a)) (T.need x8 y1) (T.ite (An.code a != 1) (T.need x8 y0) (T.need (decide (List.length (CreedM.vals m) = x2 /\ x4 * (SI.bytes si39 + 1) <= lim)) (T.need (match decide (x4 = x6) with | true => x7 | false => false) (T.leaf (SV.v (V1.c (Cell.bl true)), [AV.obj 1 58 (x0 :: GC.s (AV.ints (List.append (CreedM.vals m) x3)) x6 1 :: x5)], [])))))))
theorem may4 (σ : Sg) (m : CreedM) (o : O) (a : An) : runM σ 9 m [.v (.agg (opK 4 o)), .v (.agg a.enc)] = may4_T σ m o a := by kernel_rfl
noncomputable def may5_T (σ : Sg) (m : CreedM) (o : O) (a : An) : T (SV × List AV × List AV) :=
 let x0 : GC AV := GC.p (Cell.it IntKind.i64 (CreedM.st m));
 let x1 : Nat := Intf.len (F2 σ) (AV.pairs (CreedM.pairs m));
 let x2 : Int := (↑(List.length (CreedM.vals m)) : Int);
 let x3 : Nat := Intf.len (F2 σ) (AV.ints (CreedM.vals m));
 let x4 : Nat := Int.toNat x2;
 let x5 : List (GC AV) := [GC.s (AV.pairs m.3) x1 2];
 let x6 : AV := AV.ints (List.drop 1 (List.take x4 (CreedM.vals m)));
 let x7 : Nat := Intf.len (F2 σ) x6;
 let x8 : Bool :=
  match decide (List.length (CreedM.pairs m) = x1) with
  | true => true
  | false => false;
 let x9 : Bool :=
  match decide (List.length (CreedM.vals m) = x3) with
  | true => x8
  | false => false;
 let y0 : T (SV × List AV × List AV) := (T.leaf (SV.v (V1.c (Cell.bl true)), [AV.obj 1 58 (x0 :: GC.s x6 x7 1 :: x5)], []));
 let y1 : T (SV × List AV × List AV) := (T.need (match decide (x4 - 1 = x7) with | true => x8 | false => false) y0);
 let y2 : T (SV × List AV × List AV) := (T.need (decide ((0 : Int) <= 1 /\ 1 <= x2 /\ x2 <= x2 /\ List.length (CreedM.vals m) = x3)) y1);
 let y3 : T (SV × List AV × List AV) := (T.leaf (SV.v (V1.c (Cell.bl true)), [AV.obj 1 58 (x0 :: GC.s (AV.ints m.2) x3 1 :: x5)], []));
 let y4 : T (SV × List AV × List AV) := (T.ite (An.code a != 1) (T.need x9 y3) y2);
 let y5 : T (SV × List AV × List AV) := (T.leaf (SV.v (V1.c (Cell.bl false)), [AV.obj 1 58 (x0 :: GC.s (AV.ints m.2) x3 1 :: x5)], []));
 T.ite (!fitsM (CreedM.st m) (O.mk 5 (O.key o) (O.val o) (O.tall o))) (T.need x9 y5) (T.ite (decide (x2 > 0)) (T.need (decide ((0 : Int) <= 0 /\ 0 < x2)) (T.need (decide (0 < List.length (CreedM.vals m))) (T.ite (!(1 == An.code a && N1.val (List.getD (CreedM.vals m) 0 (AK.dflt kints)) == An.val a)) (T.need x9 y5) y4))) (T.ite (!(2 == An.code a && 0 == An.val a)) (T.need x9 y5) y4))
theorem may5 (σ : Sg) (m : CreedM) (o : O) (a : An) : runM σ 9 m [.v (.agg (opK 5 o)), .v (.agg a.enc)] = may5_T σ m o a := by kernel_rfl
noncomputable def may6_T (σ : Sg) (m : CreedM) (o : O) (a : An) : T (SV × List AV × List AV) :=
 let x0 : GC AV := GC.p (Cell.it IntKind.i64 (CreedM.st m));
 let x1 : Nat := Intf.len (F2 σ) (AV.pairs (CreedM.pairs m));
 let x2 : Nat := Intf.len (F2 σ) (AV.ints (CreedM.vals m));
 let x3 : Int := (↑(fN (CreedM.pairs m) (O.key o)) : Int);
 let x4 : Nat := Int.toNat x3;
 let x5 : Bool := 0 == An.val a;
 let x6 : GC AV := GC.s (AV.ints m.2) x2 1;
 let x7 : List Pr := List.take x4 (CreedM.pairs m);
 let x8 : List Pr := Pr.mk (O.key o) (O.val o) :: List.drop x4 (CreedM.pairs m);
 let x9 : Bool := decide (List.length (CreedM.vals m) = x2);
 let x10 : Nat := Intf.len (F2 σ) (AV.pairs (x7 ++ x8));
 let x11 : Bool :=
  match x9 with
  | true =>
   match decide (List.length (CreedM.pairs m) = x1) with
   | true => true
   | false => false
  | false => false;
 let x12 : Bool :=
  decide
   (List.length (CreedM.pairs m) = List.length (CreedM.pairs m) /\
    List.length (CreedM.pairs m) < 4611686018427387904);
 let y0 : T (SV × List AV × List AV) := (T.leaf (SV.v (V1.c (Cell.bl true)), [AV.obj 1 58 [x0, x6, GC.s (AV.pairs m.3) x1 2]], []));
 let y1 : T (SV × List AV × List AV) := (T.leaf (SV.v (V1.c (Cell.bl false)), [AV.obj 1 58 [x0, x6, GC.s (AV.pairs m.3) x1 2]], []));
 let y2 : T (SV × List AV × List AV) := (T.leaf (SV.v (V1.c (Cell.bl true)), [AV.obj 1 58 [x0, x6, GC.s (AV.pairs (List.append x7 x8)) x10 2]], []));
 let y3 : T (SV × List AV × List AV) := (T.need (match x9 with | true => (match decide (List.length (CreedM.pairs m) + 1 = x10) with | true => true | false => false) | false => false) y2);
 let y4 : T (SV × List AV × List AV) := (T.need (decide (List.length (CreedM.pairs m) = List.length (CreedM.pairs m) /\ List.length (CreedM.pairs m) <= 100000 /\ 0 <= x3 /\ x3 <= (↑(List.length (CreedM.pairs m)) : Int))) y3);
 let y5 : T (SV × List AV × List AV) := (T.ite (An.code a != 1) (T.need x11 y0) (T.need x12 y4));
 T.ite (!fitsM (CreedM.st m) (O.mk 6 (O.key o) (O.val o) (O.tall o))) (T.need x11 y1) (T.ite (match (An.code a == 4 && An.val a == 0) == true with | true => true | false => false) (T.need x11 y0) (T.need x12 (T.ite (fB (CreedM.pairs m) (O.key o)) (T.ite (!(3 == An.code a && x5)) (T.need x11 y1) y5) (T.ite (!(1 == An.code a && x5)) (T.need x11 y1) y5))))
theorem may6 (σ : Sg) (m : CreedM) (o : O) (a : An) : runM σ 9 m [.v (.agg (opK 6 o)), .v (.agg a.enc)] = may6_T σ m o a := by kernel_rfl
noncomputable def may7_T (σ : Sg) (m : CreedM) (o : O) (a : An) : T (SV × List AV × List AV) :=
 let x0 : GC AV := GC.p (Cell.it IntKind.i64 (CreedM.st m));
 let x1 : Nat := Intf.len (F2 σ) (AV.ints (CreedM.vals m));
 let x2 : Nat := Intf.len (F2 σ) (AV.pairs (CreedM.pairs m));
 let x3 : Int := (↑(fN (CreedM.pairs m) (O.key o)) : Int);
 let x4 : Nat := Int.toNat x3;
 let x5 : GC AV := GC.s (AV.ints m.2) x1 1;
 let x6 : List Pr := List.take x4 (CreedM.pairs m);
 let x7 : Int := x3 + 1;
 let x8 : Nat := 0 + x4;
 let x9 : List Pr := List.drop (x4 + 1) (CreedM.pairs m);
 let x10 : Bool := decide (List.length (CreedM.vals m) = x1);
 let x11 : Nat := Intf.len (F2 σ) (AV.pairs (x6 ++ x9));
 let x12 : Bool :=
  match x10 with
  | true =>
   match decide (List.length (CreedM.pairs m) = x2) with
   | true => true
   | false => false
  | false => false;
 let x13 : Bool :=
  decide
   (List.length (CreedM.pairs m) = List.length (CreedM.pairs m) /\
    List.length (CreedM.pairs m) < 4611686018427387904);
 let y0 : T (SV × List AV × List AV) := (T.leaf (SV.v (V1.c (Cell.bl true)), [AV.obj 1 58 [x0, x5, GC.s (AV.pairs m.3) x2 2]], []));
 let y1 : T (SV × List AV × List AV) := (T.leaf (SV.v (V1.c (Cell.bl false)), [AV.obj 1 58 [x0, x5, GC.s (AV.pairs m.3) x2 2]], []));
 let y2 : T (SV × List AV × List AV) := (T.leaf (SV.v (V1.c (Cell.bl true)), [AV.obj 1 58 [x0, x5, GC.s (AV.pairs (List.append x6 x9)) x11 2]], []));
 let y3 : T (SV × List AV × List AV) := (T.need (match x10 with | true => (match decide (List.length (CreedM.pairs m) - 1 = x11) with | true => true | false => false) | false => false) y2);
 let y4 : T (SV × List AV × List AV) := (T.need (decide (List.length (CreedM.pairs m) = List.length (CreedM.pairs m) /\ List.length (CreedM.pairs m) <= 100000 /\ 0 <= x3 /\ x3 < (↑(List.length (CreedM.pairs m)) : Int) /\ IntKind.wrap IntKind.i64 x7 = x7)) y3);
 let y5 : T (SV × List AV × List AV) := (T.ite (An.code a != 1) (T.need x12 y0) (T.need x13 y4));
 T.ite (!fitsM (CreedM.st m) (O.mk 7 (O.key o) (O.val o) (O.tall o))) (T.need x12 y1) (T.need x13 (T.ite (fB (CreedM.pairs m) (O.key o)) (T.need (decide (0 <= x3 /\ x3 < (↑(List.length (CreedM.pairs m)) : Int))) (T.need (decide (x8 < List.length (CreedM.pairs m))) (T.ite (!(1 == An.code a && Pr.val (List.getD (CreedM.pairs m) x8 (AK.dflt kpairs)) == An.val a)) (T.need x12 y1) y5))) (T.ite (!(2 == An.code a && 0 == An.val a)) (T.need x12 y1) y5)))
theorem may7 (σ : Sg) (m : CreedM) (o : O) (a : An) : runM σ 9 m [.v (.agg (opK 7 o)), .v (.agg a.enc)] = may7_T σ m o a := by kernel_rfl
noncomputable def may8_T (σ : Sg) (m : CreedM) (o : O) (a : An) : T (SV × List AV × List AV) :=
 let x0 : Nat := Intf.len (F2 σ) (AV.pairs (CreedM.pairs m));
 let x1 : Nat := Intf.len (F2 σ) (AV.ints (CreedM.vals m));
 let x2 : Int := (↑(fN (CreedM.pairs m) (O.key o)) : Int);
 let x3 : Nat := 0 + Int.toNat x2;
 let x4 : Bool :=
  match decide (List.length (CreedM.vals m) = x1) with
  | true =>
   match decide (List.length (CreedM.pairs m) = x0) with
   | true => true
   | false => false
  | false => false;
 let y0 : T (SV × List AV × List AV) := (T.leaf (SV.v (V1.c (Cell.bl true)), [AV.obj 1 58 [GC.p (Cell.it IntKind.i64 (CreedM.st m)), GC.s (AV.ints m.2) x1 1, GC.s (AV.pairs m.3) x0 2]], []));
 let y1 : T (SV × List AV × List AV) := (T.ite (An.code a != 1) (T.need x4 y0) (T.need x4 y0));
 let y2 : T (SV × List AV × List AV) := (T.leaf (SV.v (V1.c (Cell.bl false)), [AV.obj 1 58 [GC.p (Cell.it IntKind.i64 (CreedM.st m)), GC.s (AV.ints m.2) x1 1, GC.s (AV.pairs m.3) x0 2]], []));
 T.ite (!fitsM (CreedM.st m) (O.mk 8 (O.key o) (O.val o) (O.tall o))) (T.need x4 y2) (T.need (decide (List.length (CreedM.pairs m) = List.length (CreedM.pairs m) /\ List.length (CreedM.pairs m) < 4611686018427387904)) (T.ite (fB (CreedM.pairs m) (O.key o)) (T.need (decide (0 <= x2 /\ x2 < (↑(List.length (CreedM.pairs m)) : Int))) (T.need (decide (x3 < List.length (CreedM.pairs m))) (T.ite (!(1 == An.code a && Pr.val (List.getD (CreedM.pairs m) x3 (AK.dflt kpairs)) == An.val a)) (T.need x4 y2) y1))) (T.ite (!(2 == An.code a && 0 == An.val a)) (T.need x4 y2) y1)))
theorem may8 (σ : Sg) (m : CreedM) (o : O) (a : An) : runM σ 9 m [.v (.agg (opK 8 o)), .v (.agg a.enc)] = may8_T σ m o a := by kernel_rfl
noncomputable def mayX_T (σ : Sg) (m : CreedM) (o : O) (h : ∀ c ∈ [(1 : Int), 2, 3, 4, 5, 6, 7, 8], (o.kind == c) = false) (a : An) : T (SV × List AV × List AV) :=
 let x0 : Nat := Intf.len (F2 σ) (AV.pairs (CreedM.pairs m));
 let x1 : Nat := Intf.len (F2 σ) (AV.ints (CreedM.vals m));
 let x2 : Bool :=
  match decide (List.length (CreedM.vals m) = x1) with
  | true =>
   match decide (List.length (CreedM.pairs m) = x0) with
   | true => true
   | false => false
  | false => false;
 let y0 : T (SV × List AV × List AV) := (T.leaf (SV.v (V1.c (Cell.bl true)), [AV.obj 1 58 [GC.p (Cell.it IntKind.i64 (CreedM.st m)), GC.s (AV.ints m.2) x1 1, GC.s (AV.pairs m.3) x0 2]], []));
 let y1 : T (SV × List AV × List AV) := (T.leaf (SV.v (V1.c (Cell.bl false)), [AV.obj 1 58 [GC.p (Cell.it IntKind.i64 (CreedM.st m)), GC.s (AV.ints m.2) x1 1, GC.s (AV.pairs m.3) x0 2]], []));
 T.ite (!fitsM (CreedM.st m) (O.mk (O.kind o) (O.key o) (O.val o) (O.tall o))) (T.need x2 y1) (T.ite (!(1 == An.code a && 0 == An.val a)) (T.need x2 y1) (T.ite (An.code a != 1) (T.need x2 y0) (T.need x2 y0)))
theorem mayX (σ : Sg) (m : CreedM) (o : O) (h : ∀ c ∈ [(1 : Int), 2, 3, 4, 5, 6, 7, 8], (o.kind == c) = false) (a : An) : runM σ 9 m [.v (.agg (opX o h)), .v (.agg a.enc)] = mayX_T σ m o h a := by kernel_rfl
noncomputable def do1_T (σ : Sg) (m : CreedM) (o : O) : T (SV × List AV × List AV) :=
 let x0 : GC AV := GC.p (Cell.it IntKind.i64 (CreedM.st m));
 let x1 : Cell := Cell.il IntKind.i64 0;
 let x2 : List N1 := [N1.mk (O.val o)];
 let x3 : Nat := Intf.len (F2 σ) (AV.ints (CreedM.vals m));
 let x4 : Nat := Intf.len (F2 σ) (AV.pairs (CreedM.pairs m));
 let x5 : List Cell := [x1];
 let x6 : Nat := List.length (CreedM.vals m) + 1;
 let x7 : List (GC AV) := [GC.s (AV.pairs m.3) x4 2];
 let x8 : Nat := Intf.len (F2 σ) (AV.ints (CreedM.vals m ++ x2));
 let x9 : Bool :=
  match decide (List.length (CreedM.pairs m) = x4) with
  | true => true
  | false => false;
 T.ite (!fitsM (CreedM.st m) (O.mk 1 (O.key o) (O.val o) (O.tall o))) (T.need (match decide (List.length (CreedM.vals m) = x3) with | true => x9 | false => false) (T.leaf (SV.tup [V1.agg (x1 :: x5), V1.c (Cell.ifc 189 (Cell.op 0 (σ.1 0)))], [AV.obj 1 58 (x0 :: GC.s (AV.ints m.2) x3 1 :: x7)], []))) (T.need (decide (List.length (CreedM.vals m) = x3 /\ x6 * (SI.bytes si39 + 1) <= lim)) (T.need (match decide (x6 = x8) with | true => x9 | false => false) (T.leaf (SV.tup [V1.agg (Cell.il IntKind.i64 (Int.ofNat 1) :: x5), V1.c Cell.inil], [AV.obj 1 58 (x0 :: GC.s (AV.ints (List.append (CreedM.vals m) x2)) x8 1 :: x7)], []))))
theorem do1 (σ : Sg) (m : CreedM) (o : O) : runM σ 44 m [.v (.agg (opK 1 o))] = do1_T σ m o := by kernel_rfl
noncomputable def do2_T (σ : Sg) (m : CreedM) (o : O) : T (SV × List AV × List AV) :=
 let x0 : List V1 := [V1.c Cell.inil];
 let x1 : GC AV := GC.p (Cell.it IntKind.i64 (CreedM.st m));
 let x2 : Int := (↑(List.length (CreedM.vals m)) : Int);
 let x3 : Cell := Cell.il IntKind.i64 0;
 let x4 : Nat := Intf.len (F2 σ) (AV.ints (CreedM.vals m));
 let x5 : Nat := Intf.len (F2 σ) (AV.pairs (CreedM.pairs m));
 let x6 : List Cell := [x3];
 let x7 : List (GC AV) := [GC.s (AV.pairs m.3) x5 2];
 let x8 : Int := IntKind.wrap IntKind.i64 (x2 - 1);
 let x9 : Nat := Int.toNat x8;
 let x10 : List N1 := List.take x9 (CreedM.vals m);
 let x11 : Bool :=
  match decide (List.length (CreedM.pairs m) = x5) with
  | true => true
  | false => false;
 let x12 : Nat := 0 + x9;
 let x13 : Nat := Intf.len (F2 σ) (AV.ints (List.drop 0 x10));
 let x14 : Bool :=
  match decide (List.length (CreedM.vals m) = x4) with
  | true => x11
  | false => false;
 T.ite (!fitsM (CreedM.st m) (O.mk 2 (O.key o) (O.val o) (O.tall o))) (T.need x14 (T.leaf (SV.tup [V1.agg (x3 :: x6), V1.c (Cell.ifc 189 (Cell.op 0 (σ.1 0)))], [AV.obj 1 58 (x1 :: GC.s (AV.ints m.2) x4 1 :: x7)], []))) (T.ite (decide (x2 > 0)) (T.need (decide (0 <= x8 /\ x8 < x2)) (T.need (decide (x12 < List.length (CreedM.vals m))) (T.need (decide ((0 : Int) <= 0 /\ 0 <= x8 /\ x8 <= x2 /\ List.length (CreedM.vals m) = x4)) (T.need (match decide (x9 - 0 = x13) with | true => x11 | false => false) (T.leaf (SV.tup (V1.agg [Cell.il IntKind.i64 (Int.ofNat 1), Cell.it IntKind.i64 (N1.val (List.getD (CreedM.vals m) x12 (AK.dflt kints)))] :: x0), [AV.obj 1 58 (x1 :: GC.s (AV.ints x10) x13 1 :: x7)], [])))))) (T.need x14 (T.leaf (SV.tup (V1.agg (Cell.il IntKind.i64 (Int.ofNat 2) :: x6) :: x0), [AV.obj 1 58 (x1 :: GC.s (AV.ints m.2) x4 1 :: x7)], []))))
theorem do2 (σ : Sg) (m : CreedM) (o : O) : runM σ 44 m [.v (.agg (opK 2 o))] = do2_T σ m o := by kernel_rfl
noncomputable def do3_T (σ : Sg) (m : CreedM) (o : O) : T (SV × List AV × List AV) :=
 let x0 : List V1 := [V1.c Cell.inil];
 let x1 : Nat := Intf.len (F2 σ) (AV.pairs (CreedM.pairs m));
 let x2 : Nat := Intf.len (F2 σ) (AV.ints (CreedM.vals m));
 let x3 : Cell := Cell.il IntKind.i64 0;
 let x4 : Int := (↑(List.length (CreedM.vals m)) : Int);
 let x5 : List Cell := [x3];
 let x6 : Int := IntKind.wrap IntKind.i64 (x4 - 1);
 let x7 : Nat := 0 + Int.toNat x6;
 let x8 : Bool :=
  match decide (List.length (CreedM.vals m) = x2) with
  | true =>
   match decide (List.length (CreedM.pairs m) = x1) with
   | true => true
   | false => false
  | false => false;
 T.ite (!fitsM (CreedM.st m) (O.mk 3 (O.key o) (O.val o) (O.tall o))) (T.need x8 (T.leaf (SV.tup [V1.agg (x3 :: x5), V1.c (Cell.ifc 189 (Cell.op 0 (σ.1 0)))], [AV.obj 1 58 [GC.p (Cell.it IntKind.i64 (CreedM.st m)), GC.s (AV.ints m.2) x2 1, GC.s (AV.pairs m.3) x1 2]], []))) (T.ite (decide (x4 > 0)) (T.need (decide (0 <= x6 /\ x6 < x4)) (T.need (decide (x7 < List.length (CreedM.vals m))) (T.need x8 (T.leaf (SV.tup (V1.agg [Cell.il IntKind.i64 (Int.ofNat 1), Cell.it IntKind.i64 (N1.val (List.getD (CreedM.vals m) x7 (AK.dflt kints)))] :: x0), [AV.obj 1 58 [GC.p (Cell.it IntKind.i64 (CreedM.st m)), GC.s (AV.ints m.2) x2 1, GC.s (AV.pairs m.3) x1 2]], []))))) (T.need x8 (T.leaf (SV.tup (V1.agg (Cell.il IntKind.i64 (Int.ofNat 2) :: x5) :: x0), [AV.obj 1 58 [GC.p (Cell.it IntKind.i64 (CreedM.st m)), GC.s (AV.ints m.2) x2 1, GC.s (AV.pairs m.3) x1 2]], []))))
theorem do3 (σ : Sg) (m : CreedM) (o : O) : runM σ 44 m [.v (.agg (opK 3 o))] = do3_T σ m o := by kernel_rfl
noncomputable def do4_T (σ : Sg) (m : CreedM) (o : O) : T (SV × List AV × List AV) :=
 let x0 : GC AV := GC.p (Cell.it IntKind.i64 (CreedM.st m));
 let x1 : Nat := Intf.len (F2 σ) (AV.ints (CreedM.vals m));
 let x2 : Cell := Cell.il IntKind.i64 0;
 let x3 : Nat := Intf.len (F2 σ) (AV.pairs (CreedM.pairs m));
 let x4 : List N1 := [N1.mk (O.val o)];
 let x5 : List Cell := [x2];
 let x6 : Nat := List.length (CreedM.vals m) + 1;
 let x7 : List (GC AV) := [GC.s (AV.pairs m.3) x3 2];
 let x8 : Nat := Intf.len (F2 σ) (AV.ints (CreedM.vals m ++ x4));
 let x9 : Bool :=
  match decide (List.length (CreedM.pairs m) = x3) with
  | true => true
  | false => false;
 T.ite (!fitsM (CreedM.st m) (O.mk 4 (O.key o) (O.val o) (O.tall o))) (T.need (match decide (List.length (CreedM.vals m) = x1) with | true => x9 | false => false) (T.leaf (SV.tup [V1.agg (x2 :: x5), V1.c (Cell.ifc 189 (Cell.op 0 (σ.1 0)))], [AV.obj 1 58 (x0 :: GC.s (AV.ints m.2) x1 1 :: x7)], []))) (T.need (decide (List.length (CreedM.vals m) = x1 /\ x6 * (SI.bytes si39 + 1) <= lim)) (T.need (match decide (x6 = x8) with | true => x9 | false => false) (T.leaf (SV.tup [V1.agg (Cell.il IntKind.i64 (Int.ofNat 1) :: x5), V1.c Cell.inil], [AV.obj 1 58 (x0 :: GC.s (AV.ints (List.append (CreedM.vals m) x4)) x8 1 :: x7)], []))))
theorem do4 (σ : Sg) (m : CreedM) (o : O) : runM σ 44 m [.v (.agg (opK 4 o))] = do4_T σ m o := by kernel_rfl
noncomputable def do5_T (σ : Sg) (m : CreedM) (o : O) : T (SV × List AV × List AV) :=
 let x0 : List V1 := [V1.c Cell.inil];
 let x1 : GC AV := GC.p (Cell.it IntKind.i64 (CreedM.st m));
 let x2 : Nat := Intf.len (F2 σ) (AV.pairs (CreedM.pairs m));
 let x3 : Int := (↑(List.length (CreedM.vals m)) : Int);
 let x4 : Nat := Intf.len (F2 σ) (AV.ints (CreedM.vals m));
 let x5 : Cell := Cell.il IntKind.i64 0;
 let x6 : Nat := Int.toNat x3;
 let x7 : List Cell := [x5];
 let x8 : List (GC AV) := [GC.s (AV.pairs m.3) x2 2];
 let x9 : AV := AV.ints (List.drop 1 (List.take x6 (CreedM.vals m)));
 let x10 : Nat := Intf.len (F2 σ) x9;
 let x11 : Bool :=
  match decide (List.length (CreedM.pairs m) = x2) with
  | true => true
  | false => false;
 let x12 : Bool :=
  match decide (List.length (CreedM.vals m) = x4) with
  | true => x11
  | false => false;
 T.ite (!fitsM (CreedM.st m) (O.mk 5 (O.key o) (O.val o) (O.tall o))) (T.need x12 (T.leaf (SV.tup [V1.agg (x5 :: x7), V1.c (Cell.ifc 189 (Cell.op 0 (σ.1 0)))], [AV.obj 1 58 (x1 :: GC.s (AV.ints m.2) x4 1 :: x8)], []))) (T.ite (decide (x3 > 0)) (T.need (decide ((0 : Int) <= 0 /\ 0 < x3)) (T.need (decide (0 < List.length (CreedM.vals m))) (T.need (decide ((0 : Int) <= 1 /\ 1 <= x3 /\ x3 <= x3 /\ List.length (CreedM.vals m) = x4)) (T.need (match decide (x6 - 1 = x10) with | true => x11 | false => false) (T.leaf (SV.tup (V1.agg [Cell.il IntKind.i64 (Int.ofNat 1), Cell.it IntKind.i64 (N1.val (List.getD (CreedM.vals m) 0 (AK.dflt kints)))] :: x0), [AV.obj 1 58 (x1 :: GC.s x9 x10 1 :: x8)], [])))))) (T.need x12 (T.leaf (SV.tup (V1.agg (Cell.il IntKind.i64 (Int.ofNat 2) :: x7) :: x0), [AV.obj 1 58 (x1 :: GC.s (AV.ints m.2) x4 1 :: x8)], []))))
theorem do5 (σ : Sg) (m : CreedM) (o : O) : runM σ 44 m [.v (.agg (opK 5 o))] = do5_T σ m o := by kernel_rfl
noncomputable def do6_T (σ : Sg) (m : CreedM) (o : O) : T (SV × List AV × List AV) :=
 let x0 : List V1 := [V1.c Cell.inil];
 let x1 : GC AV := GC.p (Cell.it IntKind.i64 (CreedM.st m));
 let x2 : Nat := Intf.len (F2 σ) (AV.pairs (CreedM.pairs m));
 let x3 : Cell := Cell.il IntKind.i64 0;
 let x4 : Nat := Intf.len (F2 σ) (AV.ints (CreedM.vals m));
 let x5 : Int := (↑(fN (CreedM.pairs m) (O.key o)) : Int);
 let x6 : Nat := Int.toNat x5;
 let x7 : List Cell := [x3];
 let x8 : GC AV := GC.s (AV.ints m.2) x4 1;
 let x9 : List Pr := List.take x6 (CreedM.pairs m);
 let x10 : List Pr := Pr.mk (O.key o) (O.val o) :: List.drop x6 (CreedM.pairs m);
 let x11 : Bool := decide (List.length (CreedM.vals m) = x4);
 let x12 : Nat := Intf.len (F2 σ) (AV.pairs (x9 ++ x10));
 let x13 : Bool :=
  match x11 with
  | true =>
   match decide (List.length (CreedM.pairs m) = x2) with
   | true => true
   | false => false
  | false => false;
 let x14 : Bool :=
  decide
   (List.length (CreedM.pairs m) = List.length (CreedM.pairs m) /\
    List.length (CreedM.pairs m) < 4611686018427387904);
 T.ite (!fitsM (CreedM.st m) (O.mk 6 (O.key o) (O.val o) (O.tall o))) (T.need x13 (T.leaf (SV.tup [V1.agg (x3 :: x7), V1.c (Cell.ifc 189 (Cell.op 0 (σ.1 0)))], [AV.obj 1 58 [x1, x8, GC.s (AV.pairs m.3) x2 2]], []))) (T.need x14 (T.ite (fB (CreedM.pairs m) (O.key o)) (T.need x13 (T.leaf (SV.tup (V1.agg (Cell.il IntKind.i64 (Int.ofNat 3) :: x7) :: x0), [AV.obj 1 58 [x1, x8, GC.s (AV.pairs m.3) x2 2]], []))) (T.need x14 (T.need (decide (List.length (CreedM.pairs m) = List.length (CreedM.pairs m) /\ List.length (CreedM.pairs m) <= 100000 /\ 0 <= x5 /\ x5 <= (↑(List.length (CreedM.pairs m)) : Int))) (T.need (match x11 with | true => (match decide (List.length (CreedM.pairs m) + 1 = x12) with | true => true | false => false) | false => false) (T.leaf (SV.tup (V1.agg (Cell.il IntKind.i64 (Int.ofNat 1) :: x7) :: x0), [AV.obj 1 58 [x1, x8, GC.s (AV.pairs (List.append x9 x10)) x12 2]], [])))))))
theorem do6 (σ : Sg) (m : CreedM) (o : O) : runM σ 44 m [.v (.agg (opK 6 o))] = do6_T σ m o := by kernel_rfl
noncomputable def do7_T (σ : Sg) (m : CreedM) (o : O) : T (SV × List AV × List AV) :=
 let x0 : List V1 := [V1.c Cell.inil];
 let x1 : GC AV := GC.p (Cell.it IntKind.i64 (CreedM.st m));
 let x2 : Nat := Intf.len (F2 σ) (AV.ints (CreedM.vals m));
 let x3 : Cell := Cell.il IntKind.i64 0;
 let x4 : Nat := Intf.len (F2 σ) (AV.pairs (CreedM.pairs m));
 let x5 : Int := (↑(fN (CreedM.pairs m) (O.key o)) : Int);
 let x6 : Nat := Int.toNat x5;
 let x7 : List Cell := [x3];
 let x8 : GC AV := GC.s (AV.ints m.2) x2 1;
 let x9 : List Pr := List.take x6 (CreedM.pairs m);
 let x10 : Int := x5 + 1;
 let x11 : Nat := 0 + x6;
 let x12 : List Pr := List.drop (x6 + 1) (CreedM.pairs m);
 let x13 : Bool := decide (List.length (CreedM.vals m) = x2);
 let x14 : Nat := Intf.len (F2 σ) (AV.pairs (x9 ++ x12));
 let x15 : Bool :=
  match x13 with
  | true =>
   match decide (List.length (CreedM.pairs m) = x4) with
   | true => true
   | false => false
  | false => false;
 let x16 : Bool :=
  decide
   (List.length (CreedM.pairs m) = List.length (CreedM.pairs m) /\
    List.length (CreedM.pairs m) < 4611686018427387904);
 T.ite (!fitsM (CreedM.st m) (O.mk 7 (O.key o) (O.val o) (O.tall o))) (T.need x15 (T.leaf (SV.tup [V1.agg (x3 :: x7), V1.c (Cell.ifc 189 (Cell.op 0 (σ.1 0)))], [AV.obj 1 58 [x1, x8, GC.s (AV.pairs m.3) x4 2]], []))) (T.need x16 (T.ite (fB (CreedM.pairs m) (O.key o)) (T.need (decide (0 <= x5 /\ x5 < (↑(List.length (CreedM.pairs m)) : Int))) (T.need (decide (x11 < List.length (CreedM.pairs m))) (T.need x16 (T.need (decide (List.length (CreedM.pairs m) = List.length (CreedM.pairs m) /\ List.length (CreedM.pairs m) <= 100000 /\ 0 <= x5 /\ x5 < (↑(List.length (CreedM.pairs m)) : Int) /\ IntKind.wrap IntKind.i64 x10 = x10)) (T.need (match x13 with | true => (match decide (List.length (CreedM.pairs m) - 1 = x14) with | true => true | false => false) | false => false) (T.leaf (SV.tup (V1.agg [Cell.il IntKind.i64 (Int.ofNat 1), Cell.it IntKind.i64 (Pr.val (List.getD (CreedM.pairs m) x11 (AK.dflt kpairs)))] :: x0), [AV.obj 1 58 [x1, x8, GC.s (AV.pairs (List.append x9 x12)) x14 2]], []))))))) (T.need x15 (T.leaf (SV.tup (V1.agg (Cell.il IntKind.i64 (Int.ofNat 2) :: x7) :: x0), [AV.obj 1 58 [x1, x8, GC.s (AV.pairs m.3) x4 2]], [])))))
theorem do7 (σ : Sg) (m : CreedM) (o : O) : runM σ 44 m [.v (.agg (opK 7 o))] = do7_T σ m o := by kernel_rfl
noncomputable def do8_T (σ : Sg) (m : CreedM) (o : O) : T (SV × List AV × List AV) :=
 let x0 : List V1 := [V1.c Cell.inil];
 let x1 : Cell := Cell.il IntKind.i64 0;
 let x2 : Nat := Intf.len (F2 σ) (AV.ints (CreedM.vals m));
 let x3 : Nat := Intf.len (F2 σ) (AV.pairs (CreedM.pairs m));
 let x4 : Int := (↑(fN (CreedM.pairs m) (O.key o)) : Int);
 let x5 : List Cell := [x1];
 let x6 : Nat := 0 + Int.toNat x4;
 let x7 : Bool :=
  match decide (List.length (CreedM.vals m) = x2) with
  | true =>
   match decide (List.length (CreedM.pairs m) = x3) with
   | true => true
   | false => false
  | false => false;
 T.ite (!fitsM (CreedM.st m) (O.mk 8 (O.key o) (O.val o) (O.tall o))) (T.need x7 (T.leaf (SV.tup [V1.agg (x1 :: x5), V1.c (Cell.ifc 189 (Cell.op 0 (σ.1 0)))], [AV.obj 1 58 [GC.p (Cell.it IntKind.i64 (CreedM.st m)), GC.s (AV.ints m.2) x2 1, GC.s (AV.pairs m.3) x3 2]], []))) (T.need (decide (List.length (CreedM.pairs m) = List.length (CreedM.pairs m) /\ List.length (CreedM.pairs m) < 4611686018427387904)) (T.ite (fB (CreedM.pairs m) (O.key o)) (T.need (decide (0 <= x4 /\ x4 < (↑(List.length (CreedM.pairs m)) : Int))) (T.need (decide (x6 < List.length (CreedM.pairs m))) (T.need x7 (T.leaf (SV.tup (V1.agg [Cell.il IntKind.i64 (Int.ofNat 1), Cell.it IntKind.i64 (Pr.val (List.getD (CreedM.pairs m) x6 (AK.dflt kpairs)))] :: x0), [AV.obj 1 58 [GC.p (Cell.it IntKind.i64 (CreedM.st m)), GC.s (AV.ints m.2) x2 1, GC.s (AV.pairs m.3) x3 2]], []))))) (T.need x7 (T.leaf (SV.tup (V1.agg (Cell.il IntKind.i64 (Int.ofNat 2) :: x5) :: x0), [AV.obj 1 58 [GC.p (Cell.it IntKind.i64 (CreedM.st m)), GC.s (AV.ints m.2) x2 1, GC.s (AV.pairs m.3) x3 2]], [])))))
theorem do8 (σ : Sg) (m : CreedM) (o : O) : runM σ 44 m [.v (.agg (opK 8 o))] = do8_T σ m o := by kernel_rfl
noncomputable def doX_T (σ : Sg) (m : CreedM) (o : O) (h : ∀ c ∈ [(1 : Int), 2, 3, 4, 5, 6, 7, 8], (o.kind == c) = false) : T (SV × List AV × List AV) :=
 let x0 : Nat := Intf.len (F2 σ) (AV.pairs (CreedM.pairs m));
 let x1 : Nat := Intf.len (F2 σ) (AV.ints (CreedM.vals m));
 let x2 : Cell := Cell.il IntKind.i64 0;
 let x3 : List Cell := [x2];
 let x4 : Bool :=
  match decide (List.length (CreedM.vals m) = x1) with
  | true =>
   match decide (List.length (CreedM.pairs m) = x0) with
   | true => true
   | false => false
  | false => false;
 T.ite (!fitsM (CreedM.st m) (O.mk (O.kind o) (O.key o) (O.val o) (O.tall o))) (T.need x4 (T.leaf (SV.tup [V1.agg (x2 :: x3), V1.c (Cell.ifc 189 (Cell.op 0 (σ.1 0)))], [AV.obj 1 58 [GC.p (Cell.it IntKind.i64 (CreedM.st m)), GC.s (AV.ints m.2) x1 1, GC.s (AV.pairs m.3) x0 2]], []))) (T.need x4 (T.leaf (SV.tup [V1.agg (Cell.il IntKind.i64 (Int.ofNat 1) :: x3), V1.c Cell.inil], [AV.obj 1 58 [GC.p (Cell.it IntKind.i64 (CreedM.st m)), GC.s (AV.ints m.2) x1 1, GC.s (AV.pairs m.3) x0 2]], [])))
theorem doX (σ : Sg) (m : CreedM) (o : O) (h : ∀ c ∈ [(1 : Int), 2, 3, 4, 5, 6, 7, 8], (o.kind == c) = false) : runM σ 44 m [.v (.agg (opX o h))] = doX_T σ m o h := by kernel_rfl
end Go.Proofs.YtpapbhbnaalhcaaDoor
