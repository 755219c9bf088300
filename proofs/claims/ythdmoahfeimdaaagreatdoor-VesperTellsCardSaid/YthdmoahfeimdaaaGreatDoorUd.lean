import Derived.Test.YthdmoahfeimdaaaGreatDoorSxWr
namespace Go.Proofs.YthdmoahfeimdaaaGreatDoor
open Go Go.Sx Go.Proofs
set_option linter.unusedVariables false
set_option maxRecDepth 100000
noncomputable def fitP1_T (σ : Sg) (k e v l : Int) : T (Ex × St AV) :=
 let x0 : Bool := k == k;
 let x1 : Bool := k == 2;
 let x2 : Bool := e == 0;
 let x3 : Bool := l == 0;
 let x4 : List (Option (Chunk AV)) :=
  [some (Chunk.abs (AV.sent 0)), none, none, none, none, none, none, none, none, none, none, none, none, none];
 let y0 : T (Ex × St AV) := (T.leaf (Ex.ret, St.mk [(0, SV.v (V1.c (Cell.bl true)))] x4));
 let y1 : T (Ex × St AV) := (T.leaf (Ex.ret, St.mk [(0, SV.v (V1.c (Cell.bl false)))] x4));
 let y2 : T (Ex × St AV) := (T.ite (!(x0 && (x2 && (v == 0 && x3)))) y1 y0);
 T.ite (k == 1) (T.ite (!match (x0 && (x2 && (v == v && x3))) == true with | true => (match decide (0 <= v) == true with | true => decide (v <= 1073741824) | false => false) | false => false) y1 y0) (T.ite x1 (T.ite x1 y2 y1) (T.ite (k == 3) y2 y1))
theorem fitP1 (σ : Sg) (k e v l : Int) : runC noLp σ (fun _ => none) 25 (mkF 25) [.v (.c (.il .i64 1)), .v (.agg [i6 k, i6 e, i6 v, i6 l])] [] = fitP1_T σ k e v l := by kernel_rfl
noncomputable def fitP2_T (σ : Sg) (k e v l : Int) : T (Ex × St AV) :=
 let x0 : Bool := k == k;
 let x1 : Bool := l == 0;
 let x2 : Bool := e == 0;
 let x3 : List (Option (Chunk AV)) :=
  [some (Chunk.abs (AV.sent 0)), none, none, none, none, none, none, none, none, none, none, none, none, none];
 let y0 : T (Ex × St AV) := (T.leaf (Ex.ret, St.mk [(0, SV.v (V1.c (Cell.bl true)))] x3));
 let y1 : T (Ex × St AV) := (T.leaf (Ex.ret, St.mk [(0, SV.v (V1.c (Cell.bl false)))] x3));
 T.ite (k == 4) (T.ite (!match (x0 && (x2 && (v == v && x1))) == true with | true => (match decide (0 <= v) == true with | true => decide (v <= 1073741824) | false => false) | false => false) y1 y0) (T.ite (k == 5) (T.ite (!(x0 && (x2 && (v == 0 && x1)))) y1 y0) y1)
theorem fitP2 (σ : Sg) (k e v l : Int) : runC noLp σ (fun _ => none) 25 (mkF 25) [.v (.c (.il .i64 2)), .v (.agg [i6 k, i6 e, i6 v, i6 l])] [] = fitP2_T σ k e v l := by kernel_rfl
noncomputable def fitP3_T (σ : Sg) (k e v l : Int) : T (Ex × St AV) :=
 let x0 : Bool := k == 6;
 let x1 : Bool := k == 8;
 let x2 : Bool := k == 7;
 let x3 : Bool :=
  match (v == 0) == true with
  | true => l == 0
  | false => false;
 let x4 : List (Option (Chunk AV)) :=
  [some (Chunk.abs (AV.sent 0)), none, none, none, none, none, none, none, none, none, none, none, none, none];
 let y0 : T (Ex × St AV) := (T.leaf (Ex.ret, St.mk [(0, SV.v (V1.c (Cell.bl true)))] x4));
 T.ite (match (!match (match decide (e < 0) == false with | true => decide (e > 255) | false => true) with | true => false | false => (match x0 with | true => (match decide (0 <= v) == true with | true => (match decide (v <= 1073741824) == true with | true => (match decide (0 <= l) == true with | true => decide (l <= 3) | false => false) | false => false) | false => false) | false => (match x2 with | true => (match x2 with | true => x3 | false => false) | false => (match x1 with | true => x3 | false => false)))) == false with | true => l != 0 | false => true) (T.leaf (Ex.ret, St.mk [(0, SV.v (V1.c (Cell.bl false)))] x4)) (T.ite x0 (T.ite x0 y0 y0) (T.ite x2 (T.ite x2 y0 y0) (T.ite x1 y0 y0)))
theorem fitP3 (σ : Sg) (k e v l : Int) : runC noLp σ (fun _ => none) 25 (mkF 25) [.v (.c (.il .i64 3)), .v (.agg [i6 k, i6 e, i6 v, i6 l])] [] = fitP3_T σ k e v l := by kernel_rfl
noncomputable def fitP4_T (σ : Sg) (k e v l : Int) : T (Ex × St AV) :=
 let x0 : Bool := k == 7;
 let x1 : Bool :=
  match (v == 0) == true with
  | true => l == 0
  | false => false;
 let x2 : List (Option (Chunk AV)) :=
  [some (Chunk.abs (AV.sent 0)), none, none, none, none, none, none, none, none, none, none, none, none, none];
 T.ite (match (!match (match decide (e < 0) == false with | true => decide (e > 255) | false => true) with | true => false | false => (match k == 6 with | true => (match decide (0 <= v) == true with | true => (match decide (v <= 1073741824) == true with | true => (match decide (0 <= l) == true with | true => decide (l <= 3) | false => false) | false => false) | false => false) | false => (match x0 with | true => (match x0 with | true => x1 | false => false) | false => (match k == 8 with | true => x1 | false => false)))) == false with | true => l != 0 | false => true) (T.leaf (Ex.ret, St.mk [(0, SV.v (V1.c (Cell.bl false)))] x2)) (T.leaf (Ex.ret, St.mk [(0, SV.v (V1.c (Cell.bl true)))] x2))
theorem fitP4 (σ : Sg) (k e v l : Int) : runC noLp σ (fun _ => none) 25 (mkF 25) [.v (.c (.il .i64 4)), .v (.agg [i6 k, i6 e, i6 v, i6 l])] [] = fitP4_T σ k e v l := by kernel_rfl
noncomputable def fitP5_T (σ : Sg) (k e v l : Int) : T (Ex × St AV) :=
 let x0 : Bool := k == 6;
 let x1 : Bool := k == 7;
 let x2 : Bool :=
  match (v == 0) == true with
  | true => l == 0
  | false => false;
 let x3 : List (Option (Chunk AV)) :=
  [some (Chunk.abs (AV.sent 0)), none, none, none, none, none, none, none, none, none, none, none, none, none];
 T.ite (match (!match (match decide (e < 0) == false with | true => decide (e > 255) | false => true) with | true => false | false => (match x0 with | true => (match decide (0 <= v) == true with | true => (match decide (v <= 1073741824) == true with | true => (match decide (0 <= l) == true with | true => decide (l <= 3) | false => false) | false => false) | false => false) | false => (match x1 with | true => (match x1 with | true => x2 | false => false) | false => (match k == 8 with | true => x2 | false => false)))) == false with | true => (match x0 == true with | true => decide (l < 1) | false => false) | false => true) (T.leaf (Ex.ret, St.mk [(0, SV.v (V1.c (Cell.bl false)))] x3)) (T.leaf (Ex.ret, St.mk [(0, SV.v (V1.c (Cell.bl true)))] x3))
theorem fitP5 (σ : Sg) (k e v l : Int) : runC noLp σ (fun _ => none) 25 (mkF 25) [.v (.c (.il .i64 5)), .v (.agg [i6 k, i6 e, i6 v, i6 l])] [] = fitP5_T σ k e v l := by kernel_rfl
noncomputable def fitP0_T (σ : Sg) (s : Int) (h : ∀ c ∈ [1, 2, 3, 4, 5], (s == c) = false) (k e v l : Int) : T (Ex × St AV) :=
 T.leaf (Ex.ret, St.mk [(0, SV.v (V1.c (Cell.bl false)))] [some (Chunk.abs (AV.sent 0)), none, none, none, none, none, none, none, none, none, none, none, none, none])
theorem fitP0 (σ : Sg) (s : Int) (h : ∀ c ∈ [1, 2, 3, 4, 5], (s == c) = false) (k e v l : Int) : runC noLp σ (fun _ => none) 25 (mkF 25) [.v (.c (.iv .i64 s [1, 2, 3, 4, 5] h)), .v (.agg [i6 k, i6 e, i6 v, i6 l])] [] = fitP0_T σ s h k e v l := by kernel_rfl
noncomputable def fitR1_T (σ : Sg) (k e v l : Int) : T (Ex × St AV) :=
 let x0 : List (Option (Chunk AV)) :=
  [none, none, none, none, none, none, none, none, none, none, none, none, none, none];
 T.ite (match decide (k < 1) == false with | true => (match decide (k > 3) == false with | true => (match (e != 0) == false with | true => (match (l != 0) == false with | true => (match decide (v < 0) == false with | true => (match decide (v > 1073741824) == false with | true => (match (k != 1) == true with | true => v != 0 | false => false) | false => true) | false => true) | false => true) | false => true) | false => true) | false => true) (T.leaf (Ex.ret, St.mk [(0, SV.v (V1.c (Cell.bl false)))] x0)) (T.leaf (Ex.ret, St.mk [(0, SV.v (V1.c (Cell.bl true)))] x0))
theorem fitR1 (σ : Sg) (k e v l : Int) : runC noLp σ (fun _ => none) 32 (mkF 32) [.v (.c (.il .i64 1)), .v (.agg [i6 k, i6 e, i6 v, i6 l])] [] = fitR1_T σ k e v l := by kernel_rfl
noncomputable def fitR2_T (σ : Sg) (k e v l : Int) : T (Ex × St AV) :=
 let x0 : List (Option (Chunk AV)) :=
  [none, none, none, none, none, none, none, none, none, none, none, none, none, none];
 T.ite (match decide (k < 4) == false with | true => (match decide (k > 5) == false with | true => (match (e != 0) == false with | true => (match (l != 0) == false with | true => (match decide (v < 0) == false with | true => (match decide (v > 1073741824) == false with | true => (match (k != 4) == true with | true => v != 0 | false => false) | false => true) | false => true) | false => true) | false => true) | false => true) | false => true) (T.leaf (Ex.ret, St.mk [(0, SV.v (V1.c (Cell.bl false)))] x0)) (T.leaf (Ex.ret, St.mk [(0, SV.v (V1.c (Cell.bl true)))] x0))
theorem fitR2 (σ : Sg) (k e v l : Int) : runC noLp σ (fun _ => none) 32 (mkF 32) [.v (.c (.il .i64 2)), .v (.agg [i6 k, i6 e, i6 v, i6 l])] [] = fitR2_T σ k e v l := by kernel_rfl
noncomputable def fitR3_T (σ : Sg) (k e v l : Int) : T (Ex × St AV) :=
 let x0 : Bool := l == 0;
 T.leaf (Ex.ret, St.mk [(0, SV.v (V1.c (Cell.bt (match (match (match decide (k < 6) == false with | true => (match decide (k > 8) == false with | true => (match decide (e < 0) == false with | true => decide (e > 255) | false => true) | false => true) | false => true) with | true => false | false => (match k == 6 with | true => (match decide (v >= 0) == true with | true => (match decide (v <= 1073741824) == true with | true => (match decide (l >= 0) == true with | true => decide (l <= 3) | false => false) | false => false) | false => false) | false => (match (v == 0) == true with | true => x0 | false => false))) == true with | true => x0 | false => false))))] [none, none, none, none, none, none, none, none, none, none, none, none, none, none])
theorem fitR3 (σ : Sg) (k e v l : Int) : runC noLp σ (fun _ => none) 32 (mkF 32) [.v (.c (.il .i64 3)), .v (.agg [i6 k, i6 e, i6 v, i6 l])] [] = fitR3_T σ k e v l := by kernel_rfl
noncomputable def fitR4_T (σ : Sg) (k e v l : Int) : T (Ex × St AV) :=
 let x0 : Bool := l == 0;
 T.leaf (Ex.ret, St.mk [(0, SV.v (V1.c (Cell.bt (match (match (match decide (k < 6) == false with | true => (match decide (k > 8) == false with | true => (match decide (e < 0) == false with | true => decide (e > 255) | false => true) | false => true) | false => true) with | true => false | false => (match k == 6 with | true => (match decide (v >= 0) == true with | true => (match decide (v <= 1073741824) == true with | true => (match decide (l >= 0) == true with | true => decide (l <= 3) | false => false) | false => false) | false => false) | false => (match (v == 0) == true with | true => x0 | false => false))) == true with | true => x0 | false => false))))] [none, none, none, none, none, none, none, none, none, none, none, none, none, none])
theorem fitR4 (σ : Sg) (k e v l : Int) : runC noLp σ (fun _ => none) 32 (mkF 32) [.v (.c (.il .i64 4)), .v (.agg [i6 k, i6 e, i6 v, i6 l])] [] = fitR4_T σ k e v l := by kernel_rfl
noncomputable def fitR5_T (σ : Sg) (k e v l : Int) : T (Ex × St AV) :=
 T.leaf (Ex.ret, St.mk [(0, SV.v (V1.c (Cell.bt (match (match decide (k < 6) == false with | true => (match decide (k > 8) == false with | true => (match decide (e < 0) == false with | true => decide (e > 255) | false => true) | false => true) | false => true) with | true => false | false => (match k == 6 with | true => (match decide (v >= 0) == true with | true => (match decide (v <= 1073741824) == true with | true => (match decide (l >= 1) == true with | true => decide (l <= 3) | false => false) | false => false) | false => false) | false => (match (v == 0) == true with | true => l == 0 | false => false))))))] [none, none, none, none, none, none, none, none, none, none, none, none, none, none])
theorem fitR5 (σ : Sg) (k e v l : Int) : runC noLp σ (fun _ => none) 32 (mkF 32) [.v (.c (.il .i64 5)), .v (.agg [i6 k, i6 e, i6 v, i6 l])] [] = fitR5_T σ k e v l := by kernel_rfl
noncomputable def fitR0_T (σ : Sg) (s : Int) (h : ∀ c ∈ [1, 2, 3, 4, 5], (s == c) = false) (k e v l : Int) : T (Ex × St AV) :=
 T.leaf (Ex.ret, St.mk [(0, SV.v (V1.c (Cell.bl false)))] [none, none, none, none, none, none, none, none, none, none, none, none, none, none])
theorem fitR0 (σ : Sg) (s : Int) (h : ∀ c ∈ [1, 2, 3, 4, 5], (s == c) = false) (k e v l : Int) : runC noLp σ (fun _ => none) 32 (mkF 32) [.v (.c (.iv .i64 s [1, 2, 3, 4, 5] h)), .v (.agg [i6 k, i6 e, i6 v, i6 l])] [] = fitR0_T σ s h k e v l := by kernel_rfl
end Go.Proofs.YthdmoahfeimdaaaGreatDoor
