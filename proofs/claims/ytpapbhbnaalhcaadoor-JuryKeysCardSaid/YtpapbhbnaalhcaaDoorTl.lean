import Derived.Test.YtpapbhbnaalhcaaDoorTk
namespace Go.Proofs.YtpapbhbnaalhcaaDoor
open Go Go.Sx Go.Proofs
set_option linter.unusedVariables false
set_option maxRecDepth 100000
def gYg (V : KeyV) (ok : List Rw -> Bool) (s : St AV) : T (Ex × St AV) := match hget s.H 8 with
 | none => gYA V ok s
 | some _ => gYB V ok s
def lpKeys (V : KeyV) (ok : List Rw -> Bool) : Lp := lpAdd 5 11 (gYg V ok) noLp
noncomputable def tabKs (σ : Sg) (L : LinV) : Tab := tabAdd 7 (sumG isS linM treeT) (tabAdd 10 (packT (sumG isS linM (linP σ L))) fun _ => none)
theorem tabKs_ok {σ : Sg} (ht : TabR σ) : TabOk Tryd.prog (NV σ) (tabKs σ linT) :=
 tabAdd_ok (lp := noLp) (awake_ok ht) (tabAdd_ok (lp := noLp) (packT_ok (linP_ok ht)) fun f g h => by cases h)
noncomputable def keyR_T (σ : Sg) (L : LinV) (V : KeyV) (s : Int) (b : Bool) (l : List Rw) : T (SV × List AV × List AV) :=
 let x0 : Int := (↑(List.length l) : Int);
 let x1 : Int := 3 + Int.tmod (IntKind.wrap IntKind.u64 s) 3;
 let x2 : Bool := KeyV.ret V l x1;
 let x3 : Bool := KeyV.all V l x1;
 let x4 : Bool := decide (List.length l = List.length l /\ List.length l <= 7 /\ 1 <= x1 /\ x1 <= 5);
 let y0 : T (SV × List AV × List AV) := (T.leaf (SV.v (V1.c (Cell.bl true)), [AV.rowsB b l], []));
 let y1 : T (SV × List AV × List AV) := (T.leaf (SV.v (V1.c (Cell.bl false)), [AV.rowsB b l], []));
 T.ite (decide (x0 > 7)) y0 (T.need (decide (List.length l = List.length l /\ List.length l <= 1000)) (T.ite (decide (1 <= x1 /\ x1 <= 5)) (T.ite (LinV.ok L l) (T.ite (decide (x0 > 12)) y0 (T.ite (LinV.is L x1 l) (T.need (LinV.ok L l) (T.need x4 (T.ite x2 (T.ite x3 y0 y0) (T.ite x3 y0 y1)))) (T.need (LinV.ok L l) (T.need x4 (T.ite x2 (T.ite x3 y0 y0) (T.ite x3 y1 y0)))))) y0) y0))
theorem keyR (σ : Sg) (L : LinV) (V : KeyV) (s : Int) (b : Bool) (l : List Rw) : runN (lpKeys V L.ok) σ (tabKs σ L) 5 linM [.v (.c (.it .i64 s)), .v (.c (.vs 7 0 l.length 10 false))] [.rowsB b l] = keyR_T σ L V s b l := by kernel_rfl
end Go.Proofs.YtpapbhbnaalhcaaDoor
