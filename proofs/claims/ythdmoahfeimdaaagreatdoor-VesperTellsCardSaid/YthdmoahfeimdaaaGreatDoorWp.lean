import Derived.Test.YthdmoahfeimdaaaGreatDoorFr
import Derived.Defers
import Derived.Recover
import Derived.Laws.Pointers
import Derived.Test.YthdmoahfeimdaaaGreatDoorWc
import Derived.Lib.ItoaLen
import Derived.Test.YthdmoahfeimdaaaGreatDoorSxM
import Derived.WideKeyArgs
import Derived.ChangeSame
import Derived.RowKit
import Derived.RowKit3
import Derived.LaidLaws
import Derived.Deep.DeepHandedRow
import Derived.SevenTiedAt
import Derived.JoinedCond
import Derived.OpenShut
import Derived.Deep.Slices
namespace Go.Proofs.YthdmoahfeimdaaaGreatDoor
open Go Go.Sx Go.Proofs
set_option linter.unusedVariables false
set_option maxRecDepth 100000
def iz (n : Int) : Cell := .il .i64 n
def rp (k : Nat) (p r : List Cell) : List Cell := match k with | 0 => r | k + 1 => p ++ rp k p r
def ap (l r : List Cell) : List Cell := l ++ r
def sfQ (n : Nat) : Cell := .sf n 1 4 false (restF 0 1 4) (restF_ok 0 1 4)
def sc : SV := .v (.agg [.il .i64 1, .il .i64 2, .il .i64 1, .il .i64 9, .il .i64 2, .vs 14 0 1 5 true, .snil])
def tk : Chunk AV := .vec [.il .i64 0, .il .i64 1, .il .i64 0, .il .i64 4, .il .i64 0] 5 123
def st_k0 : List (Chunk AV) := [.cells ([.ptr 15 0, iz 1, iz 0]) 139,
 .cells ([iz 1, .ptr 16 0, .vs 17 0 1 4 (true), .snil]) 215,
 .cells ([.vs 18 0 85 5 (true), .vs 19 0 9 52 (true), .vs 20 0 9 1 (true), iz 1, iz 0, .inil]) 219,
 .vec ([.ptr 21 0, .vs 22 0 1 4 (true), iz 1, iz (-1)]) 4 224,
 .vec (rp 24 [iz 0, iz 0, iz 0, iz 0, .bl false] (ap [iz 0, iz 0, iz 0, iz 1] (rp 60 [.bl false, iz 0, iz 0, iz 0, iz 0] ([.bl false])))) 5 158,
 .vec (rp 9 [iz 0, .bl false, iz 0, iz 0, iz 0, iz 0, .bl false, iz 0, iz 0, iz 0, iz 0, .bl false, iz 0, iz 0, iz 0, iz 0, .bl false, iz 0, iz 0, iz 0, iz 0, .bl false, iz 0, iz 0, iz 0, iz 0, .bl false, iz 0, iz 0, iz 0, iz 0, .bl false, iz 0, iz 0, iz 0, iz 0, .bl false, iz 0, iz 0, iz 0, iz 0, .bl false, iz 0, iz 0, iz 0, iz 0, .bl false, iz 0, iz 0, iz 0, iz 0, .bl false] ([])) 52 299,
 .vec ([iz 9, iz 8, iz 7, iz 6, iz 5, iz 4, iz 3, iz 2, iz 1]) 1 3,
 .cells (ap [iz 1, iz 2, .ptr 23 0] (rp 9 [iz 0] (rp 2 [.bl false, iz 0, iz 0, iz 0, iz 0] (rp 4 [iz 0] ([.inil, iz 0, iz 0]))))) 282,
 .vec ([iz 1, iz 0, iz 4, iz 0]) 4 36,
 .cells (rp 8 [iz 0] (rp 2 [.bl false, iz 0, iz 0, iz 0, iz 0] (rp 9 [iz 0] (rp 3 [.bl false, iz 0, iz 0, iz 0, iz 0] (ap [.bl false, iz 0, .snil, .snil, iz 2, iz 0, iz 1, iz 2] (rp 9 [iz 0, iz 0, iz 0, iz 0, .bl false] (ap [.bl false, iz 0, iz 0, .snil] (rp 5 [iz 0] ([.bl false, .bl false]))))))))) 328]
def st_k1 : List (Chunk AV) := [.cells ([iz 1, .ptr 15 0, .vs 16 0 1 4 (true), .vs 17 0 5 10 (true)]) 215,
 .cells ([.vs 18 0 85 5 (true), .vs 19 0 9 52 (true), .vs 20 0 8 1 (true), iz 6, iz 1, .inil]) 219,
 .vec ([.ptr 21 0, sfQ 22, iz 1, iz 4]) 4 224,
 .vec (ap [iz 0, .bl true, iz 1, iz 0, iz 4] (rp 4 [iz 0, .bl true, .bl false, iz 0, iz 0, iz 0, .bl false, iz 0, iz 0, iz 0] ([iz 0, .bl true, .bl true, iz 1, iz 0]))) 10 208,
 .vec (ap [iz 1, iz 1, iz 1] (rp 24 [iz 0, .bl false, iz 0, iz 0, iz 0] (ap [iz 1] (rp 60 [.bl false, iz 0, iz 0, iz 0, iz 0] ([.bl false]))))) 5 158,
 .vec (ap [iz 1, .bl true] (rp 4 [iz 0] (ap [.bl false, iz 0, iz 0, iz 0, iz 4] (rp 8 [.bl false, iz 0, iz 0, iz 0, iz 0, .bl false, iz 0, iz 0, iz 0, iz 0, .bl false, iz 0, iz 0, iz 0, iz 0, .bl false, iz 0, iz 0, iz 0, iz 0, .bl false, iz 0, iz 0, iz 0, iz 0, .bl false, iz 0, iz 0, iz 0, iz 0, .bl false, iz 0, iz 0, iz 0, iz 0, .bl false, iz 0, iz 0, iz 0, iz 0, .bl false, iz 0, .bl false, iz 0, iz 0, iz 0, iz 0, .bl false, iz 0, iz 0, iz 0, iz 0] (rp 8 [.bl false, iz 0, iz 0, iz 0, iz 0] ([.bl false])))))) 52 299,
 .vec ([iz 9, iz 8, iz 7, iz 6, iz 5, iz 4, iz 3, iz 2, iz 1]) 1 3,
 .cells (ap [iz 1, iz 2, .ptr 23 0, iz 0, iz 2] (rp 7 [iz 0] (rp 2 [.bl false, iz 0, iz 0, iz 0, iz 0] ([iz 1, iz 0, iz 4, iz 0, .ifc 95 (.ptr 24 0), iz 1, iz 0])))) 282,
 .vec ([iz 1, iz 0, iz 4, iz 0]) 4 36,
 .cells (rp 8 [iz 0] (rp 2 [.bl false, iz 0, iz 0, iz 0, iz 0] (rp 9 [iz 0] (rp 3 [.bl false, iz 0, iz 0, iz 0, iz 0] (ap [.bl false, iz 0, .snil, .snil, iz 2, iz 0, iz 1, iz 2] (rp 9 [iz 0, iz 0, iz 0, iz 0, .bl false] (ap [.bl false, iz 0, iz 0, .snil] (rp 5 [iz 0] ([.bl false, .bl true]))))))))) 328,
 .cells (ap [iz (-1), iz 12] (rp 7 [iz 0] (ap [.bl false] (rp 4 [iz 0] (ap [.bl false, iz 0, iz 0, iz 1, iz 0, iz 1, iz 0, iz 4, iz 0, iz 1, iz 1, iz 0, iz 0, .bl false] (rp 4 [iz 0] ([.bl false, iz 0]))))))) 164]
def st_k2 : List (Chunk AV) := [.cells ([iz 1, .ptr 15 0, .vs 16 0 1 4 (true), .vs 17 0 5 10 (true)]) 215,
 .cells ([.vs 18 0 85 5 (true), .vs 19 0 9 52 (true), .vs 20 0 8 1 (true), iz 15, iz 1, .inil]) 219,
 .vec ([.ptr 21 0, sfQ 22, iz 1, iz 4]) 4 224,
 .vec (ap [iz 0, .bl true, iz 1, iz 0, iz 4] (rp 4 [iz 0, .bl true, .bl false, iz 0, iz 0, iz 0, .bl false, iz 0, iz 0, iz 0] ([iz 0, .bl true, .bl true, iz 1, iz 0]))) 10 208,
 .vec (ap [iz 1, iz 1, iz 1] (rp 24 [iz 0, .bl false, iz 0, iz 0, iz 0] (ap [iz 1] (rp 60 [.bl false, iz 0, iz 0, iz 0, iz 0] ([.bl false]))))) 5 158,
 .vec (ap [iz 1, .bl true] (rp 4 [iz 0] (ap [.bl false, iz 0, iz 0, iz 0, iz 4] (rp 8 [.bl false, iz 0, iz 0, iz 0, iz 0, .bl false, iz 0, iz 0, iz 0, iz 0, .bl false, iz 0, iz 0, iz 0, iz 0, .bl false, iz 0, iz 0, iz 0, iz 0, .bl false, iz 0, iz 0, iz 0, iz 0, .bl false, iz 0, iz 0, iz 0, iz 0, .bl false, iz 0, iz 0, iz 0, iz 0, .bl false, iz 0, iz 0, iz 0, iz 0, .bl false, iz 0, .bl false, iz 0, iz 0, iz 0, iz 0, .bl false, iz 0, iz 0, iz 0, iz 0] (rp 8 [.bl false, iz 0, iz 0, iz 0, iz 0] ([.bl false])))))) 52 299,
 .vec ([iz 9, iz 8, iz 7, iz 6, iz 5, iz 4, iz 3, iz 2, iz 1]) 1 3,
 .cells (ap [iz 1, iz 2, .ptr 23 0, iz 0, iz 11] (rp 7 [iz 0] (rp 2 [.bl false, iz 0, iz 0, iz 0, iz 0] (rp 4 [iz 0] ([.inil, iz 0, iz 0]))))) 282,
 .vec ([iz 1, iz 0, iz 4, iz 0]) 4 36,
 .cells (rp 8 [iz 0] (rp 2 [.bl false, iz 0, iz 0, iz 0, iz 0] (rp 9 [iz 0] (rp 3 [.bl false, iz 0, iz 0, iz 0, iz 0] (ap [.bl false, iz 0, .snil, .snil, iz 2, iz 0, iz 1, iz 2] (rp 9 [iz 0, iz 0, iz 0, iz 0, .bl false] (ap [.bl false, iz 0, iz 0, .snil] (rp 5 [iz 0] ([.bl false, .bl true]))))))))) 328]
def st_k3 : List (Chunk AV) := [.cells ([iz 1, .ptr 15 0, .vs 16 0 1 4 (true), .vs 17 0 5 10 (true)]) 215,
 .cells ([.vs 18 0 85 5 (true), .vs 19 0 9 52 (true), .vs 20 0 8 1 (true), iz 24, iz 1, .inil]) 219,
 .vec ([.ptr 21 0, sfQ 22, iz 1, iz 4]) 4 224,
 .vec (ap [iz 0, .bl true, iz 1, iz 0, iz 4] (rp 4 [iz 0, .bl true, .bl false, iz 0, iz 0, iz 0, .bl false, iz 0, iz 0, iz 0] ([iz 0, .bl true, .bl true, iz 1, iz 0]))) 10 208,
 .vec (ap [iz 1, iz 1, iz 1] (rp 24 [iz 0, .bl false, iz 0, iz 0, iz 0] (ap [iz 1] (rp 60 [.bl false, iz 0, iz 0, iz 0, iz 0] ([.bl false]))))) 5 158,
 .vec (ap [iz 1, .bl true] (rp 4 [iz 0] (ap [.bl false, iz 0, iz 0, iz 0, iz 4] (rp 8 [.bl false, iz 0, iz 0, iz 0, iz 0, .bl false, iz 0, iz 0, iz 0, iz 0, .bl false, iz 0, iz 0, iz 0, iz 0, .bl false, iz 0, iz 0, iz 0, iz 0, .bl false, iz 0, iz 0, iz 0, iz 0, .bl false, iz 0, iz 0, iz 0, iz 0, .bl false, iz 0, iz 0, iz 0, iz 0, .bl false, iz 0, iz 0, iz 0, iz 0, .bl false, iz 0, .bl false, iz 0, iz 0, iz 0, iz 0, .bl false, iz 0, iz 0, iz 0, iz 0] (rp 8 [.bl false, iz 0, iz 0, iz 0, iz 0] ([.bl false])))))) 52 299,
 .vec ([iz 9, iz 8, iz 7, iz 6, iz 5, iz 4, iz 3, iz 2, iz 1]) 1 3,
 .cells (ap [iz 1, iz 2, .ptr 23 0, iz 0, iz 11] (rp 7 [iz 0] (rp 2 [.bl false, iz 0, iz 0, iz 0, iz 0] (rp 4 [iz 0] ([.inil, iz 0, iz 0]))))) 282,
 .vec ([iz 1, iz 0, iz 4, iz 0]) 4 36,
 .cells (rp 8 [iz 0] (rp 2 [.bl false, iz 0, iz 0, iz 0, iz 0] (rp 9 [iz 0] (rp 3 [.bl false, iz 0, iz 0, iz 0, iz 0] (ap [.bl false, iz 0, .snil, .snil, iz 2, iz 0, iz 1, iz 2] (rp 9 [iz 0, iz 0, iz 0, iz 0, .bl false] (ap [.bl false, iz 0, iz 0, .snil] (rp 5 [iz 0] ([.bl false, .bl true]))))))))) 328]
def st_k4 : List (Chunk AV) := [.cells ([iz 1, .ptr 15 0, .vs 16 0 1 4 (true), .vs 17 0 5 10 (true)]) 215,
 .cells ([.vs 18 0 85 5 (true), .vs 19 0 9 52 (true), .vs 20 0 8 1 (true), iz 33, iz 1, .inil]) 219,
 .vec ([.ptr 21 0, sfQ 22, iz 1, iz 4]) 4 224,
 .vec (ap [iz 0, .bl true, iz 1, iz 0, iz 4] (rp 4 [iz 0, .bl true, .bl false, iz 0, iz 0, iz 0, .bl false, iz 0, iz 0, iz 0] ([iz 0, .bl true, .bl true, iz 1, iz 0]))) 10 208,
 .vec (ap [iz 1, iz 1, iz 1] (rp 24 [iz 0, .bl false, iz 0, iz 0, iz 0] (ap [iz 1] (rp 60 [.bl false, iz 0, iz 0, iz 0, iz 0] ([.bl false]))))) 5 158,
 .vec (ap [iz 1, .bl true] (rp 4 [iz 0] (ap [.bl false, iz 0, iz 0, iz 0, iz 4] (rp 8 [.bl false, iz 0, iz 0, iz 0, iz 0, .bl false, iz 0, iz 0, iz 0, iz 0, .bl false, iz 0, iz 0, iz 0, iz 0, .bl false, iz 0, iz 0, iz 0, iz 0, .bl false, iz 0, iz 0, iz 0, iz 0, .bl false, iz 0, iz 0, iz 0, iz 0, .bl false, iz 0, iz 0, iz 0, iz 0, .bl false, iz 0, iz 0, iz 0, iz 0, .bl false, iz 0, .bl false, iz 0, iz 0, iz 0, iz 0, .bl false, iz 0, iz 0, iz 0, iz 0] (rp 8 [.bl false, iz 0, iz 0, iz 0, iz 0] ([.bl false])))))) 52 299,
 .vec ([iz 9, iz 8, iz 7, iz 6, iz 5, iz 4, iz 3, iz 2, iz 1]) 1 3,
 .cells (ap [iz 1, iz 2, .ptr 23 0, iz 0, iz 11] (rp 7 [iz 0] (rp 2 [.bl false, iz 0, iz 0, iz 0, iz 0] (rp 4 [iz 0] ([.inil, iz 0, iz 0]))))) 282,
 .vec ([iz 1, iz 0, iz 4, iz 0]) 4 36,
 .cells (rp 8 [iz 0] (rp 2 [.bl false, iz 0, iz 0, iz 0, iz 0] (rp 9 [iz 0] (rp 3 [.bl false, iz 0, iz 0, iz 0, iz 0] (ap [.bl false, iz 0, .snil, .snil, iz 2, iz 0, iz 1, iz 2] (rp 9 [iz 0, iz 0, iz 0, iz 0, .bl false] (ap [.bl false, iz 0, iz 0, .snil] (rp 5 [iz 0] ([.bl false, .bl true]))))))))) 328]
def sl_begin : List (Chunk AV) := [.vec ([iz 0, iz 1, iz 0, iz 4, iz 0]) 5 123]
def sn_begin : List (Chunk AV) := [.cells ([.ptr 16 0, iz 1, iz 0]) 139,
 .cells ([iz 1, .ptr 17 0, .vs 18 0 1 4 (true), .snil]) 215,
 .cells ([.vs 19 0 85 5 (true), .vs 20 0 9 52 (true), .vs 21 0 9 1 (true), iz 1, iz 0, .inil]) 219,
 .vec ([.ptr 22 0, .vs 23 0 1 4 (true), iz 1, iz (-1)]) 4 224,
 .vec (rp 24 [iz 0, iz 0, iz 0, iz 0, .bl false] (ap [iz 0, iz 0, iz 0, iz 1] (rp 60 [.bl false, iz 0, iz 0, iz 0, iz 0] ([.bl false])))) 5 158,
 .vec (rp 9 [iz 0, .bl false, iz 0, iz 0, iz 0, iz 0, .bl false, iz 0, iz 0, iz 0, iz 0, .bl false, iz 0, iz 0, iz 0, iz 0, .bl false, iz 0, iz 0, iz 0, iz 0, .bl false, iz 0, iz 0, iz 0, iz 0, .bl false, iz 0, iz 0, iz 0, iz 0, .bl false, iz 0, iz 0, iz 0, iz 0, .bl false, iz 0, iz 0, iz 0, iz 0, .bl false, iz 0, iz 0, iz 0, iz 0, .bl false, iz 0, iz 0, iz 0, iz 0, .bl false] ([])) 52 299,
 .vec ([iz 9, iz 8, iz 7, iz 6, iz 5, iz 4, iz 3, iz 2, iz 1]) 1 3,
 .cells (ap [iz 1, iz 2, .ptr 24 0] (rp 9 [iz 0] (rp 2 [.bl false, iz 0, iz 0, iz 0, iz 0] (rp 4 [iz 0] ([.inil, iz 0, iz 0]))))) 282,
 .vec ([iz 1, iz 0, iz 4, iz 0]) 4 36,
 .cells (rp 8 [iz 0] (rp 2 [.bl false, iz 0, iz 0, iz 0, iz 0] (rp 9 [iz 0] (rp 3 [.bl false, iz 0, iz 0, iz 0, iz 0] (ap [.bl false, iz 0, .snil, .snil, iz 2, iz 0, iz 1, iz 2] (rp 9 [iz 0, iz 0, iz 0, iz 0, .bl false] (ap [.bl false, iz 0, iz 0, .snil] (rp 5 [iz 0] ([.bl false, .bl false]))))))))) 328]
def sl_finish : List (Chunk AV) := [.cells ([.ptr 15 0, iz 1, iz 0]) 139,
 .cells ([iz 1, .ptr 16 0, .vs 17 0 1 4 (true), .vs 24 0 5 10 (true)]) 215,
 .cells ([.vs 18 0 85 5 (true), .vs 19 0 9 52 (true), .vs 20 0 8 1 (true), iz 6, iz 1, .inil]) 219,
 .vec ([.ptr 21 0, sfQ 22, iz 1, iz 4]) 4 224,
 .vec (ap [iz 1, iz 1, iz 1] (rp 24 [iz 0, .bl false, iz 0, iz 0, iz 0] (ap [iz 1] (rp 60 [.bl false, iz 0, iz 0, iz 0, iz 0] ([.bl false]))))) 5 158,
 .vec (ap [iz 1, .bl true] (rp 4 [iz 0] (ap [.bl false, iz 0, iz 0, iz 0, iz 4] (rp 8 [.bl false, iz 0, iz 0, iz 0, iz 0, .bl false, iz 0, iz 0, iz 0, iz 0, .bl false, iz 0, iz 0, iz 0, iz 0, .bl false, iz 0, iz 0, iz 0, iz 0, .bl false, iz 0, iz 0, iz 0, iz 0, .bl false, iz 0, iz 0, iz 0, iz 0, .bl false, iz 0, iz 0, iz 0, iz 0, .bl false, iz 0, iz 0, iz 0, iz 0, .bl false, iz 0, .bl false, iz 0, iz 0, iz 0, iz 0, .bl false, iz 0, iz 0, iz 0, iz 0] (rp 8 [.bl false, iz 0, iz 0, iz 0, iz 0] ([.bl false])))))) 52 299,
 .vec ([iz 9, iz 8, iz 7, iz 6, iz 5, iz 4, iz 3, iz 2, iz 1]) 1 3,
 .cells (ap [iz 1, iz 2, .ptr 23 0, iz 0, iz 2] (rp 7 [iz 0] (rp 2 [.bl false, iz 0, iz 0, iz 0, iz 0] ([iz 1, iz 0, iz 4, iz 0, .ifc 95 (.ptr 25 0), iz 1, iz 0])))) 282,
 .vec ([iz 1, iz 0, iz 4, iz 0]) 4 36,
 .cells (rp 8 [iz 0] (rp 2 [.bl false, iz 0, iz 0, iz 0, iz 0] (rp 9 [iz 0] (rp 3 [.bl false, iz 0, iz 0, iz 0, iz 0] (ap [.bl false, iz 0, .snil, .snil, iz 2, iz 0, iz 1, iz 2] (rp 9 [iz 0, iz 0, iz 0, iz 0, .bl false] (ap [.bl false, iz 0, iz 0, .snil] (rp 5 [iz 0] ([.bl false, .bl true]))))))))) 328]
def sn_finish : List (Chunk AV) := [.vec (ap [iz 0, .bl true, iz 1, iz 0, iz 4] (rp 4 [iz 0, .bl true, .bl false, iz 0, iz 0, iz 0, .bl false, iz 0, iz 0, iz 0] ([iz 0, .bl true, .bl true, iz 1, iz 0]))) 10 208,
 .cells (ap [iz (-1), iz 12] (rp 7 [iz 0] (ap [.bl false] (rp 4 [iz 0] (ap [.bl false, iz 0, iz 0, iz 1, iz 0, iz 1, iz 0, iz 4, iz 0, iz 1, iz 1, iz 0, iz 0, .bl false] (rp 4 [iz 0] ([.bl false, iz 0]))))))) 164]
def sl_scan1 : List (Chunk AV) := [.cells ([iz 1, .ptr 15 0, .vs 16 0 1 4 (true), .vs 17 0 5 10 (true)]) 215,
 .cells ([.vs 18 0 85 5 (true), .vs 19 0 9 52 (true), .vs 20 0 8 1 (true), iz 15, iz 1, .inil]) 219,
 .vec ([.ptr 21 0, sfQ 22, iz 1, iz 4]) 4 224,
 .vec (ap [iz 0, .bl true, iz 1, iz 0, iz 4] (rp 4 [iz 0, .bl true, .bl false, iz 0, iz 0, iz 0, .bl false, iz 0, iz 0, iz 0] ([iz 0, .bl true, .bl true, iz 1, iz 0]))) 10 208,
 .vec (ap [iz 1, iz 1, iz 1] (rp 24 [iz 0, .bl false, iz 0, iz 0, iz 0] (ap [iz 1] (rp 60 [.bl false, iz 0, iz 0, iz 0, iz 0] ([.bl false]))))) 5 158,
 .vec (ap [iz 1, .bl true] (rp 4 [iz 0] (ap [.bl false, iz 0, iz 0, iz 0, iz 4] (rp 8 [.bl false, iz 0, iz 0, iz 0, iz 0, .bl false, iz 0, iz 0, iz 0, iz 0, .bl false, iz 0, iz 0, iz 0, iz 0, .bl false, iz 0, iz 0, iz 0, iz 0, .bl false, iz 0, iz 0, iz 0, iz 0, .bl false, iz 0, iz 0, iz 0, iz 0, .bl false, iz 0, iz 0, iz 0, iz 0, .bl false, iz 0, iz 0, iz 0, iz 0, .bl false, iz 0, .bl false, iz 0, iz 0, iz 0, iz 0, .bl false, iz 0, iz 0, iz 0, iz 0] (rp 8 [.bl false, iz 0, iz 0, iz 0, iz 0] ([.bl false])))))) 52 299,
 .vec ([iz 9, iz 8, iz 7, iz 6, iz 5, iz 4, iz 3, iz 2, iz 1]) 1 3,
 .cells (ap [iz 1, iz 2, .ptr 23 0, iz 0, iz 11] (rp 7 [iz 0] (rp 2 [.bl false, iz 0, iz 0, iz 0, iz 0] (rp 4 [iz 0] ([.inil, iz 0, iz 0]))))) 282,
 .vec ([iz 1, iz 0, iz 4, iz 0]) 4 36,
 .cells (rp 8 [iz 0] (rp 2 [.bl false, iz 0, iz 0, iz 0, iz 0] (rp 9 [iz 0] (rp 3 [.bl false, iz 0, iz 0, iz 0, iz 0] (ap [.bl false, iz 0, .snil, .snil, iz 2, iz 0, iz 1, iz 2] (rp 9 [iz 0, iz 0, iz 0, iz 0, .bl false] (ap [.bl false, iz 0, iz 0, .snil] (rp 5 [iz 0] ([.bl false, .bl true]))))))))) 328,
 .cells (ap [iz (-1), iz 12] (rp 7 [iz 0] (ap [.bl false] (rp 4 [iz 0] (ap [.bl false, iz 0, iz 0, iz 1, iz 0, iz 1, iz 0, iz 4, iz 0, iz 1, iz 1, iz 0, iz 0, .bl false] (rp 4 [iz 0] ([.bl false, iz 0]))))))) 164]
def sn_scan1 : List (Chunk AV) := []
def sl_scan2 : List (Chunk AV) := [.cells ([iz 1, .ptr 15 0, .vs 16 0 1 4 (true), .vs 17 0 5 10 (true)]) 215,
 .cells ([.vs 18 0 85 5 (true), .vs 19 0 9 52 (true), .vs 20 0 8 1 (true), iz 24, iz 1, .inil]) 219,
 .vec ([.ptr 21 0, sfQ 22, iz 1, iz 4]) 4 224,
 .vec (ap [iz 0, .bl true, iz 1, iz 0, iz 4] (rp 4 [iz 0, .bl true, .bl false, iz 0, iz 0, iz 0, .bl false, iz 0, iz 0, iz 0] ([iz 0, .bl true, .bl true, iz 1, iz 0]))) 10 208,
 .vec (ap [iz 1, iz 1, iz 1] (rp 24 [iz 0, .bl false, iz 0, iz 0, iz 0] (ap [iz 1] (rp 60 [.bl false, iz 0, iz 0, iz 0, iz 0] ([.bl false]))))) 5 158,
 .vec (ap [iz 1, .bl true] (rp 4 [iz 0] (ap [.bl false, iz 0, iz 0, iz 0, iz 4] (rp 8 [.bl false, iz 0, iz 0, iz 0, iz 0, .bl false, iz 0, iz 0, iz 0, iz 0, .bl false, iz 0, iz 0, iz 0, iz 0, .bl false, iz 0, iz 0, iz 0, iz 0, .bl false, iz 0, iz 0, iz 0, iz 0, .bl false, iz 0, iz 0, iz 0, iz 0, .bl false, iz 0, iz 0, iz 0, iz 0, .bl false, iz 0, iz 0, iz 0, iz 0, .bl false, iz 0, .bl false, iz 0, iz 0, iz 0, iz 0, .bl false, iz 0, iz 0, iz 0, iz 0] (rp 8 [.bl false, iz 0, iz 0, iz 0, iz 0] ([.bl false])))))) 52 299,
 .vec ([iz 9, iz 8, iz 7, iz 6, iz 5, iz 4, iz 3, iz 2, iz 1]) 1 3,
 .cells (ap [iz 1, iz 2, .ptr 23 0, iz 0, iz 11] (rp 7 [iz 0] (rp 2 [.bl false, iz 0, iz 0, iz 0, iz 0] (rp 4 [iz 0] ([.inil, iz 0, iz 0]))))) 282,
 .vec ([iz 1, iz 0, iz 4, iz 0]) 4 36,
 .cells (rp 8 [iz 0] (rp 2 [.bl false, iz 0, iz 0, iz 0, iz 0] (rp 9 [iz 0] (rp 3 [.bl false, iz 0, iz 0, iz 0, iz 0] (ap [.bl false, iz 0, .snil, .snil, iz 2, iz 0, iz 1, iz 2] (rp 9 [iz 0, iz 0, iz 0, iz 0, .bl false] (ap [.bl false, iz 0, iz 0, .snil] (rp 5 [iz 0] ([.bl false, .bl true]))))))))) 328]
def sn_scan2 : List (Chunk AV) := []
def sl_scan3 : List (Chunk AV) := [.cells ([iz 1, .ptr 15 0, .vs 16 0 1 4 (true), .vs 17 0 5 10 (true)]) 215,
 .cells ([.vs 18 0 85 5 (true), .vs 19 0 9 52 (true), .vs 20 0 8 1 (true), iz 33, iz 1, .inil]) 219,
 .vec ([.ptr 21 0, sfQ 22, iz 1, iz 4]) 4 224,
 .vec (ap [iz 0, .bl true, iz 1, iz 0, iz 4] (rp 4 [iz 0, .bl true, .bl false, iz 0, iz 0, iz 0, .bl false, iz 0, iz 0, iz 0] ([iz 0, .bl true, .bl true, iz 1, iz 0]))) 10 208,
 .vec (ap [iz 1, iz 1, iz 1] (rp 24 [iz 0, .bl false, iz 0, iz 0, iz 0] (ap [iz 1] (rp 60 [.bl false, iz 0, iz 0, iz 0, iz 0] ([.bl false]))))) 5 158,
 .vec (ap [iz 1, .bl true] (rp 4 [iz 0] (ap [.bl false, iz 0, iz 0, iz 0, iz 4] (rp 8 [.bl false, iz 0, iz 0, iz 0, iz 0, .bl false, iz 0, iz 0, iz 0, iz 0, .bl false, iz 0, iz 0, iz 0, iz 0, .bl false, iz 0, iz 0, iz 0, iz 0, .bl false, iz 0, iz 0, iz 0, iz 0, .bl false, iz 0, iz 0, iz 0, iz 0, .bl false, iz 0, iz 0, iz 0, iz 0, .bl false, iz 0, iz 0, iz 0, iz 0, .bl false, iz 0, .bl false, iz 0, iz 0, iz 0, iz 0, .bl false, iz 0, iz 0, iz 0, iz 0] (rp 8 [.bl false, iz 0, iz 0, iz 0, iz 0] ([.bl false])))))) 52 299,
 .vec ([iz 9, iz 8, iz 7, iz 6, iz 5, iz 4, iz 3, iz 2, iz 1]) 1 3,
 .cells (ap [iz 1, iz 2, .ptr 23 0, iz 0, iz 11] (rp 7 [iz 0] (rp 2 [.bl false, iz 0, iz 0, iz 0, iz 0] (rp 4 [iz 0] ([.inil, iz 0, iz 0]))))) 282,
 .vec ([iz 1, iz 0, iz 4, iz 0]) 4 36,
 .cells (rp 8 [iz 0] (rp 2 [.bl false, iz 0, iz 0, iz 0, iz 0] (rp 9 [iz 0] (rp 3 [.bl false, iz 0, iz 0, iz 0, iz 0] (ap [.bl false, iz 0, .snil, .snil, iz 2, iz 0, iz 1, iz 2] (rp 9 [iz 0, iz 0, iz 0, iz 0, .bl false] (ap [.bl false, iz 0, iz 0, .snil] (rp 5 [iz 0] ([.bl false, .bl true]))))))))) 328]
def sn_scan3 : List (Chunk AV) := []
def sl_look : List (Chunk AV) := [.cells ([iz 1, .ptr 15 0, .vs 16 0 1 4 (true), .vs 17 0 5 10 (true)]) 215,
 .cells ([.vs 18 0 85 5 (true), .vs 19 0 9 52 (true), .vs 20 0 8 1 (true), iz 33, iz 1, .inil]) 219,
 .vec ([.ptr 21 0, sfQ 22, iz 1, iz 4]) 4 224,
 .vec (ap [iz 0, .bl true, iz 1, iz 0, iz 4] (rp 4 [iz 0, .bl true, .bl false, iz 0, iz 0, iz 0, .bl false, iz 0, iz 0, iz 0] ([iz 0, .bl true, .bl true, iz 1, iz 0]))) 10 208,
 .vec (ap [iz 1, iz 1, iz 1] (rp 24 [iz 0, .bl false, iz 0, iz 0, iz 0] (ap [iz 1] (rp 60 [.bl false, iz 0, iz 0, iz 0, iz 0] ([.bl false]))))) 5 158,
 .vec (ap [iz 1, .bl true] (rp 4 [iz 0] (ap [.bl false, iz 0, iz 0, iz 0, iz 4] (rp 8 [.bl false, iz 0, iz 0, iz 0, iz 0, .bl false, iz 0, iz 0, iz 0, iz 0, .bl false, iz 0, iz 0, iz 0, iz 0, .bl false, iz 0, iz 0, iz 0, iz 0, .bl false, iz 0, iz 0, iz 0, iz 0, .bl false, iz 0, iz 0, iz 0, iz 0, .bl false, iz 0, iz 0, iz 0, iz 0, .bl false, iz 0, iz 0, iz 0, iz 0, .bl false, iz 0, .bl false, iz 0, iz 0, iz 0, iz 0, .bl false, iz 0, iz 0, iz 0, iz 0] (rp 8 [.bl false, iz 0, iz 0, iz 0, iz 0] ([.bl false])))))) 52 299,
 .vec ([iz 9, iz 8, iz 7, iz 6, iz 5, iz 4, iz 3, iz 2, iz 1]) 1 3,
 .cells (ap [iz 1, iz 2, .ptr 23 0, iz 0, iz 11] (rp 7 [iz 0] (rp 2 [.bl false, iz 0, iz 0, iz 0, iz 0] (rp 4 [iz 0] ([.inil, iz 0, iz 0]))))) 282,
 .vec ([iz 1, iz 0, iz 4, iz 0]) 4 36,
 .cells (rp 8 [iz 0] (rp 2 [.bl false, iz 0, iz 0, iz 0, iz 0] (rp 9 [iz 0] (rp 3 [.bl false, iz 0, iz 0, iz 0, iz 0] (ap [.bl false, iz 0, .snil, .snil, iz 2, iz 0, iz 1, iz 2] (rp 9 [iz 0, iz 0, iz 0, iz 0, .bl false] (ap [.bl false, iz 0, iz 0, .snil] (rp 5 [iz 0] ([.bl false, .bl true]))))))))) 328]
def sn_look : List (Chunk AV) := []
end Go.Proofs.YthdmoahfeimdaaaGreatDoor

namespace Go.Proofs.YthdmoahfeimdaaaGreatDoor
open Go Go.Sx Go.Proofs
set_option linter.unusedVariables false
set_option maxRecDepth 100000
theorem run_begin (σ : Sg) : (runC noLp σ tabA 60 (mkF 60) [sc] ([tk])).val = some (stV (.tup [.c (.ptr 15 0), .c (.inil)], hpC (mkF 60) (sl_begin ++ sn_begin))) := by kernel_rfl
theorem ctr_begin (σ : Sg) : Ctr Tryz.prog (NV σ) 60 [sc] (hpC (mkF 60) ([tk])) (.tup [.c (.ptr 15 0), .c (.inil)]) (hpC (mkF 60) (sl_begin ++ sn_begin)) := runC_ctr lpsV tabA_ok (mkF_len _) (run_begin σ) (by rintro ⟨⟩)
def kr_begin : Kr := ⟨[sc], [tk], .tup [.c (.ptr 15 0), .c (.inil)], sl_begin, sn_begin⟩
end Go.Proofs.YthdmoahfeimdaaaGreatDoor

namespace Go.Proofs.YthdmoahfeimdaaaGreatDoor
open Go Go.Sx Go.Proofs
set_option linter.unusedVariables false
set_option maxRecDepth 100000
theorem run_finish (σ : Sg) : (runC noLp σ tabA 62 (mkF 62) [.v (.c (.ptr 14 0))] (st_k0)).val = some (stV (.v (.c (.inil)), hpC (mkF 62) (sl_finish ++ sn_finish))) := by kernel_rfl
theorem ctr_finish (σ : Sg) : Ctr Tryz.prog (NV σ) 62 [.v (.c (.ptr 14 0))] (hpC (mkF 62) (st_k0)) (.v (.c (.inil))) (hpC (mkF 62) (sl_finish ++ sn_finish)) := runC_ctr lpsV tabA_ok (mkF_len _) (run_finish σ) (by rintro ⟨⟩)
def kr_finish : Kr := ⟨[.v (.c (.ptr 14 0))], st_k0, .v (.c (.inil)), sl_finish, sn_finish⟩
end Go.Proofs.YthdmoahfeimdaaaGreatDoor

namespace Go.Proofs.YthdmoahfeimdaaaGreatDoor
open Go Go.Sx Go.Proofs
set_option linter.unusedVariables false
set_option maxRecDepth 100000
theorem run_scan1 (σ : Sg) : (runC noLp σ tabA 65 (mkF 65) [.v (.c (.ptr 14 0)), .v (.c (.il .i64 0))] (st_k1)).val = some (stV (.v (.c (.inil)), hpC (mkF 65) (sl_scan1 ++ sn_scan1))) := by kernel_rfl
theorem ctr_scan1 (σ : Sg) : Ctr Tryz.prog (NV σ) 65 [.v (.c (.ptr 14 0)), .v (.c (.il .i64 0))] (hpC (mkF 65) (st_k1)) (.v (.c (.inil))) (hpC (mkF 65) (sl_scan1 ++ sn_scan1)) := runC_ctr lpsV tabA_ok (mkF_len _) (run_scan1 σ) (by rintro ⟨⟩)
def kr_scan1 : Kr := ⟨[.v (.c (.ptr 14 0)), .v (.c (.il .i64 0))], st_k1, .v (.c (.inil)), sl_scan1, sn_scan1⟩
end Go.Proofs.YthdmoahfeimdaaaGreatDoor

namespace Go.Proofs.YthdmoahfeimdaaaGreatDoor
open Go Go.Sx Go.Proofs
set_option linter.unusedVariables false
set_option maxRecDepth 100000
theorem run_scan2 (σ : Sg) : (runC noLp σ tabA 65 (mkF 65) [.v (.c (.ptr 14 0)), .v (.c (.il .i64 0))] (st_k2)).val = some (stV (.v (.c (.inil)), hpC (mkF 65) (sl_scan2 ++ sn_scan2))) := by kernel_rfl
theorem ctr_scan2 (σ : Sg) : Ctr Tryz.prog (NV σ) 65 [.v (.c (.ptr 14 0)), .v (.c (.il .i64 0))] (hpC (mkF 65) (st_k2)) (.v (.c (.inil))) (hpC (mkF 65) (sl_scan2 ++ sn_scan2)) := runC_ctr lpsV tabA_ok (mkF_len _) (run_scan2 σ) (by rintro ⟨⟩)
def kr_scan2 : Kr := ⟨[.v (.c (.ptr 14 0)), .v (.c (.il .i64 0))], st_k2, .v (.c (.inil)), sl_scan2, sn_scan2⟩
end Go.Proofs.YthdmoahfeimdaaaGreatDoor

namespace Go.Proofs.YthdmoahfeimdaaaGreatDoor
open Go Go.Sx Go.Proofs
set_option linter.unusedVariables false
set_option maxRecDepth 100000
theorem run_scan3 (σ : Sg) : (runC noLp σ tabA 65 (mkF 65) [.v (.c (.ptr 14 0)), .v (.c (.il .i64 0))] (st_k3)).val = some (stV (.v (.c (.inil)), hpC (mkF 65) (sl_scan3 ++ sn_scan3))) := by kernel_rfl
theorem ctr_scan3 (σ : Sg) : Ctr Tryz.prog (NV σ) 65 [.v (.c (.ptr 14 0)), .v (.c (.il .i64 0))] (hpC (mkF 65) (st_k3)) (.v (.c (.inil))) (hpC (mkF 65) (sl_scan3 ++ sn_scan3)) := runC_ctr lpsV tabA_ok (mkF_len _) (run_scan3 σ) (by rintro ⟨⟩)
def kr_scan3 : Kr := ⟨[.v (.c (.ptr 14 0)), .v (.c (.il .i64 0))], st_k3, .v (.c (.inil)), sl_scan3, sn_scan3⟩
end Go.Proofs.YthdmoahfeimdaaaGreatDoor

namespace Go.Proofs.YthdmoahfeimdaaaGreatDoor
open Go Go.Sx Go.Proofs
set_option linter.unusedVariables false
set_option maxRecDepth 100000
theorem run_look (σ : Sg) : (runC noLp σ tabA 66 (mkF 66) [.v (.c (.ptr 14 0))] (st_k4)).val = some (stV (.tup [.agg ([iz 1, iz 0, iz 1, iz 0]), .c (.inil)], hpC (mkF 66) (sl_look ++ sn_look))) := by kernel_rfl
theorem ctr_look (σ : Sg) : Ctr Tryz.prog (NV σ) 66 [.v (.c (.ptr 14 0))] (hpC (mkF 66) (st_k4)) (.tup [.agg ([iz 1, iz 0, iz 1, iz 0]), .c (.inil)]) (hpC (mkF 66) (sl_look ++ sn_look)) := runC_ctr lpsV tabA_ok (mkF_len _) (run_look σ) (by rintro ⟨⟩)
def kr_look : Kr := ⟨[.v (.c (.ptr 14 0))], st_k4, .tup [.agg ([iz 1, iz 0, iz 1, iz 0]), .c (.inil)], sl_look, sn_look⟩
end Go.Proofs.YthdmoahfeimdaaaGreatDoor

namespace Go.Proofs.YthdmoahfeimdaaaGreatDoor
open Go Go.Sx Go.Proofs
set_option linter.unusedVariables false
set_option maxRecDepth 100000
variable {σ : Sg} {lp : Lp}
theorem ctr_lp {lp' : Lp} {f : FuncId} {args : List SV} {H H' : Hp AV} {v : SV} (h : Ctr Tryz.prog (NVl lp σ) f args H v H') : Ctr Tryz.prog (NVl lp' σ) f args H v H' := by
 obtain ⟨h1, h2, h3⟩ := h
 refine ⟨h1, ⟨h2.1, trivial⟩, fun ρ w hO => (h3 ρ w (own_env (N := NVl lp' σ) (N' := NVl lp σ) rfl rfl hO)).mono ?_⟩
 rintro e w' ⟨ρ', he, o, ev⟩
 exact ⟨ρ', he, own_env (N := NVl lp σ) (N' := NVl lp' σ) rfl rfl o, evo_env (NVl lp' σ) ev⟩
theorem krOne {f : FuncId} {k : Kr} (h : Ctr Tryz.prog (NV σ) f k.args (hpC (mkF f) k.l) k.v (hpC (mkF f) (k.l' ++ k.nw))) : FnOk Tryz.prog (NVl lp σ) f (krG (mkF f) [k]) :=
 krG_ok (mkF_len _) fun k' hk => by rw [List.mem_singleton.1 hk]; exact ctr_lp h
noncomputable def tabY : Tab := tabAdd 60 (krG (mkF 60) [kr_begin]) (tabAdd 62 (krG (mkF 62) [kr_finish])
 (tabAdd 65 (krG (mkF 65) [kr_scan1, kr_scan2, kr_scan3]) (tabAdd 66 (krG (mkF 66) [kr_look]) tabA)))
theorem tabY_ok : TabOk Tryz.prog (NVl lp σ) tabY :=
 tabAdd_ok (krOne (ctr_begin σ)) (tabAdd_ok (krOne (ctr_finish σ)) (tabAdd_ok (krG_ok (mkF_len _) fun k hk => by
  simp only [List.mem_cons, List.not_mem_nil, or_false] at hk
  rcases hk with rfl | rfl | rfl
  ·exact ctr_lp (ctr_scan1 σ)
  ·exact ctr_lp (ctr_scan2 σ)
  ·exact ctr_lp (ctr_scan3 σ)) (tabAdd_ok (krOne (ctr_look σ)) tabA_ok)))
def repY : SV := .tup [.agg [.vs 15 0 1 10 true, .vs 16 0 1 1 true, .snil, iz 1, iz 0, iz 1, iz 0, iz 6, iz 0], .c .inil]
def slY : List (Chunk AV) := [.vec [iz 0, iz 1, iz 0, iz 4, iz 0] 5 123]
def snY : List (Chunk AV) := [.vec [iz 0, iz 1, iz 0, iz 4, iz 0, iz 1, iz 0, iz 0, iz 1, .bl true] 10 38, .vec [iz 4] 1 3]
theorem run_yard (σ : Sg) : (runC noLp σ tabY 22 (mkF 22) [sc] [tk]).val = some (stV (repY, hpC (mkF 22) (slY ++ snY))) := by kernel_rfl
def kr_yard : Kr := ⟨[sc], [tk], repY, slY, snY⟩
theorem ctr_yard (σ : Sg) : Ctr Tryz.prog (NV σ) 22 [sc] (hpC (mkF 22) [tk]) repY (hpC (mkF 22) (slY ++ snY)) := runC_ctr lpsV tabY_ok (mkF_len _) (run_yard σ) (by rintro ⟨⟩)
noncomputable def tabZ : Tab := tabAdd 22 (krG (mkF 22) [kr_yard]) tabA
theorem tabZ_ok : TabOk Tryz.prog (NVl lp σ) tabZ := tabAdd_ok (krOne (ctr_yard σ)) tabA_ok
end Go.Proofs.YthdmoahfeimdaaaGreatDoor

namespace Go.Proofs.YthdmoahfeimdaaaGreatDoor
open Go Go.Sx Go.Proofs Go.RowKit
set_option linter.unusedVariables false
set_option maxRecDepth 100000
theorem is_idle (p : Addr) (w : World) :
 CallsD Tryz.prog 38 #[.pointer (some p)] .returning w fun e u' w' => e = .returned (.tuple #[]) /\ u' = .returning /\ w' = w := by
 refine callsD_of_wpS Tryz.func38 rfl fun c₀ cs hu => ?_
 apply wpS_seq
 apply wpS_region
 simp [wpOpsS, go_sem, recoverD, hu, Tryz.ntmps38, Exit.thenS]
 refine wpS_cond (t := false) (by simp [Act.eval, Array.replicate]) ?_
 simp only [Bool.false_eq_true, if_false]
 refine wpS_of_wp (wp_skip ?_)
 cases c₀
 simp_all [bodyPostS, results, Tryz.results38]
theorem below_alloc (w : World) (o : Obj) : Below w.heap.size w (w.alloc o) := Below.alloc (Below.refl w.heap.size w) (Nat.le_refl _) o
theorem woe_is (x y : Value) (b : Bool) (w : World) (h : ∀ w1, Below w.heap.size w w1 -> Calls Tryz.prog 39 #[x, y] w1 fun e w' => e = .returned (.bool b) /\ w' = w1) :
 Calls Tryz.prog 23 #[x, y] w fun e w' => e = .returned (.bool b) /\ Below w.heap.size w w' := by
 have hmf : ∀ (fn : Fn) (first cap : Array Value) (w : World), (Instr.makeFunc fn first cap).run Tryz.prog w = .ok (.func fn first cap) w := fun _ _ _ _ => rfl
 go_enter_defers Tryz.func23, Tryz.ntmps23
 go_wp2_with (go_at_call 39; refine (h _ (below_alloc w _)).mono ?_; rintro e w1 ⟨rfl, rfl⟩; refine Hid.out ?_)
 refine Lib.hid ?_
 go_wp2
 refine leaves_cons (f := 38) (args := #[.pointer (some ⟨w.heap.size, 0, none⟩)]) (by simp) (by simp [go_sem]) ?_
 refine (is_idle ⟨w.heap.size, 0, none⟩ _).mono ?_
 rintro e u' w'' ⟨rfl, rfl, rfl⟩
 simp [Leaves, settle, results, Tryz.results23, go_sem]
 exact below_alloc w _
def SentR (σ : Sg) : Prop := ∀ i j, sentTx i = none -> sentTx j = none -> i < 14 -> j < 14 -> i ≠ j -> σ i ≠ σ j /\ (∃ c t, σ.R (σ i).block = some (.cells c t (0, 0))) /\ ∃ c t, σ.R (σ j).block = some (.cells c t (0, 0))
def sumWi (σ : Sg) : List SV -> Hp AV -> T (SV × Hp AV)
 | [.v (.c (.ifc te (.op i a))), .v (.c (.ifc tt (.op j b)))], H => match Nat.beq te 386, Nat.beq tt 386, Nat.beq i j with
   | true, true, true => .need (decide (a = b)) (.leaf (.v (.c (.bl true)), H))
   | true, true, false => match Sx.isS (sentTx i), Sx.isS (sentTx j), Nat.blt i 14, Nat.blt j 14 with
     | false, false, true, true => .need (decide (a = σ i /\ b = σ j)) (.leaf (.v (.c (.bl false)), H))
     | _, _, _, _ => .fail "is"
   | _, _, _ => .fail "is"
 | _, _ => .fail "is"
variable {σ : Sg} {lp : Lp}
theorem isS_none {α : Type} {x : Option α} (h : Sx.isS x = false) : x = none := by cases x <;> first | rfl | cases h
theorem plB (b : Bool) : Plain (.v (.c (.bl b))) := by intro c hc; simp [V1.cells] at hc; subst hc; rfl
theorem wi_ok (hs : SentR σ) : FnOk Tryz.prog (NVl lp σ) 23 (sumWi σ) := by
 refine fnOk_still fun args H v H' h => ?_
 unfold sumWi at h
 split at h
 ·rename_i te i a tt j b
  split at h
  ·rename_i h1 h2 h3
   have h1 := (beq_iff _ _).1 h1
   have h2 := (beq_iff _ _).1 h2
   subst h1 h2
   obtain ⟨hab, h⟩ := need_val h
   have hab := of_decide_eq_true hab
   subst hab
   simp only [T.val, Option.some.injEq, Prod.mk.injEq] at h
   obtain ⟨rfl, rfl⟩ := h
   exact ⟨rfl, plB _, fun ρ w _ => woe_is _ _ true w fun w1 _ => is_same a w1⟩
  ·rename_i h1 h2 h3
   have h1 := (beq_iff _ _).1 h1
   have h2 := (beq_iff _ _).1 h2
   subst h1 h2
   split at h
   ·rename_i g1 g2 g3 g4
    obtain ⟨hab, h⟩ := need_val h
    obtain ⟨rfl, rfl⟩ := of_decide_eq_true hab
    simp only [T.val, Option.some.injEq, Prod.mk.injEq] at h
    obtain ⟨rfl, rfl⟩ := h
    have hij : i ≠ j := fun e => by subst e; rw [(beq_iff _ _).2 rfl] at h3; cases h3
    obtain ⟨hne, ⟨ci, ti, hi⟩, cj, tj, hj⟩ := hs i j (isS_none g1) (isS_none g2) (by simpa [Nat.blt_eq] using g3) (by simpa [Nat.blt_eq] using g4) hij
    refine ⟨rfl, plB _, fun ρ w hO => woe_is _ _ false w fun w1 hb => ?_⟩
    have hhas : σ.has w := hO.ro.1
    have ki := hhas _ _ hi
    have kj := hhas _ _ hj
    have lt := fun {k : Nat} {o : Obj} (h : w.heap[k]? = some o) => (Array.getElem?_eq_some_iff.1 h).1
    exact is_other _ _ ci cj ti tj w1 hne (by rw [hb.block _ (lt ki)]; exact ki) (by rw [hb.block _ (lt kj)]; exact kj)
   ·simp [T.val] at h
  ·simp [T.val] at h
 ·simp [T.val] at h
noncomputable def tabW (σ : Sg) : Tab := tabAdd 23 (sumWi σ) tabZ
theorem tabW_ok (hs : SentR σ) : TabOk Tryz.prog (NVl lp σ) (tabW σ) := tabAdd_ok (wi_ok hs) tabZ_ok
end Go.Proofs.YthdmoahfeimdaaaGreatDoor

namespace Go.Proofs.YthdmoahfeimdaaaGreatDoor
open Go Go.Sx Go.Proofs
set_option linter.unusedVariables false
variable {σ : Sg} {lp : Lp}
theorem q_arr {a : AV} {es : Nat} {ty : TypeId} {vs : List Value} (h : a.arr = some (es, ty, vs)) (l : Sx.Loc) (S : Nat -> Prop) (w : World) : (NVl lp σ).F.q a l S w ↔ vecQ l S vs es ty w :=
 ((NVl lp σ).F.arr_q a es ty vs h).2 l S w
def pkK {α : Type} (K : AK α) (mk : List α -> AV) (l : List Cell) (es : Nat) (ty : TypeId) : Option AV := match Nat.beq ty K.ty, Nat.beq es K.es with
 | true, true => match K.decs (l.length / K.es) l with | some r => some (mk r) | none => none
 | _, _ => none
theorem pkK_ok {α : Type} {K : AK α} {mk : List α -> AV} (hq : ∀ rs l S w, (NVl lp σ).F.q (mk rs) l S w ↔ vecQ l S (K.vals rs) K.es K.ty w) {l : List Cell} {es : Nat} {ty : TypeId} {a : AV} (h : pkK K mk l es ty = some a) (π : Nat -> Nat) : Lesser (NVl lp σ) (.vec (l.map (Cell.ren π)) es ty) (.abs a) := by
 unfold pkK at h
 split at h
 ·rename_i h1 h2
  split at h
  ·rename_i rs hr
   cases h
   have h1 := (beq_iff _ _).1 h1
   have h2 := (beq_iff _ _).1 h2
   subst h1 h2
   obtain ⟨g1, g2⟩ := K.decs_ok hr
   have el : l.map (Cell.ren π) = l := by
    conv => rhs; rw [<- List.map_id l]
    exact List.map_congr_left fun c hc => ren_id c fun n hn => by rw [g2 c hc] at hn; cases hn
   rw [el]
   intro ρ n w
   refine ⟨fun hv => (hq _ _ _ _).2 ?_, fun k => Iff.rfl⟩
   have hv : vecQ (ρ.L n) (ρ.S n) (denL ρ l) K.es K.ty w := hv
   rw [g1, names_den g2 Nm.id ρ]
   exact hv
  ·cases h
 ·cases h
def pkW : Chunk AV -> Option AV
 | .vec l es ty => pkK kstrs .strs l es ty
 | _ => none
theorem pkW_ok : ∀ d a, pkW d = some a -> ∀ π, Lesser (NVl lp σ) (d.ren π) (.abs a) := fun d a h π => by
 cases d with
 | vec l es ty => exact pkK_ok (fun rs => q_arr rfl) h π
 | _ => cases h
def loopAt (id : Nat) : List (Nat × Code) -> Code
 | [] => .skip
 | (k, c) :: r => match Nat.beq k id with | true => c | false => loopAt id r
noncomputable def bodyOf (fn : Func) : Code := match fn.body with | some c => c | none => .skip
theorem loopOk_env {P : Program} {N N' : Env AV} (hF : N'.F = N.F) (hG : N'.G = N.G) {nt : Nat} {c : Code} {g : St AV -> T (Ex × St AV)} (h : LoopOk P N nt c g) : LoopOk P N' nt c g := by
 intro L s s' ex hg hcl hL
 obtain ⟨h1, h2, h3⟩ := h L s s' ex hg (closed_env N hcl) hL
 refine ⟨closed_env N' h1, h2, fun {ρ a w} hat => ?_⟩
 refine wp_mono (h3 ⟨hat.em, own_env hF.symm hG.symm hat.own⟩) ?_
 rintro e a' w' ⟨he, ⟨ρ', e1, o1, v1⟩, d1⟩
 exact ⟨he, ⟨ρ', e1, own_env hF hG o1, evo_env N' v1⟩, d1⟩
def lpAdd (f id : Nat) (g : St AV -> T (Ex × St AV)) (lp : Lp) : Lp := fun f' => match Nat.beq f' f with
 | true => fun id' => match Nat.beq id' id with
   | true => some g
   | false => lp f' id'
 | false => lp f'
theorem lpsAdd {f id : Nat} {g : St AV -> T (Ex × St AV)} {lp : Lp} (h : LpsOk Tryz.prog (NVl lp σ)) {fn : Func} (hf : ft.get f = some fn) {c : Code} (hc : fn.body = some c) {nt : Nat} (hnt : fn.ntmps = nt) {b : Code} (hb : ∀ x ∈ loopsOf c, x.1 = id -> x.2 = b) (hg : LoopOk Tryz.prog (NVl lp σ) nt b g) : LpsOk Tryz.prog (NVl (lpAdd f id g lp) σ) := by
 intro f' fn' c' hf' hc' id' b' hb' g' hg'
 have hg' : lpAdd f id g lp f' id' = some g' := hg'
 have old : lp f' id' = some g' -> LoopOk Tryz.prog (NVl (lpAdd f id g lp) σ) fn'.ntmps b' g' := fun h1 => loopOk_env (N := NVl lp σ) (N' := NVl (lpAdd f id g lp) σ) rfl rfl (h f' fn' c' hf' hc' id' b' hb' g' h1)
 by_cases e : f' = f
 ·subst e
  by_cases e2 : id' = id
  ·subst e2
   have hg' : (match Nat.beq f' f' with
    | true => fun id => match Nat.beq id id' with
      | true => some g
      | false => lp f' id
    | false => lp f') id' = some g' := hg'
   simp only [Nat.beq_refl] at hg'
   cases hg'
   have hf' : ft.get f' = some fn' := hf'
   rw [hf] at hf'
   cases hf'
   rw [hc] at hc'
   cases hc'
   have hbb : b' = b := hb _ hb' rfl
   rw [hnt, hbb]
   exact loopOk_env (N := NVl lp σ) (N' := NVl (lpAdd f' id' g lp) σ) rfl rfl hg
  ·refine old ?_
   have hg' : (match Nat.beq f' f' with
    | true => fun id' => match Nat.beq id' id with
      | true => some g
      | false => lp f' id'
    | false => lp f') id' = some g' := hg'
   simp only [Nat.beq_refl, (beq_false_iff _ _).2 e2] at hg'
   exact hg'
 ·refine old ?_
  have hg' : (match Nat.beq f' f with
   | true => fun id' => match Nat.beq id' id with
     | true => some g
     | false => lp f' id'
   | false => lp f') id' = some g' := hg'
  simp only [(beq_false_iff _ _).2 e] at hg'
  exact hg'
def oneLoop (id : Nat) : List (Nat × Code) -> Bool
 | [] => true
 | (k, c) :: r => match Nat.beq k id with
   | true => match hasN (r.map Prod.fst) id with | true => false | false => true
   | false => oneLoop id r
theorem oneLoop_spec {id : Nat} : ∀ {l : List (Nat × Code)}, oneLoop id l = true -> ∀ x ∈ l, x.1 = id -> x.2 = loopAt id l
 | [], _, x, h, _ => by cases h
 | (k, c) :: r, h, x, hx, he => by
   simp only [oneLoop] at h
   show x.2 = match Nat.beq k id with | true => c | false => loopAt id r
   cases hk : Nat.beq k id with
   | true =>
     rw [hk] at h
     have hk := (beq_iff _ _).1 hk
     simp only at h ⊢
     split at h
     ·cases h
     ·rename_i hn
      rcases List.mem_cons.1 hx with rfl | hx
      ·rfl
      ·exfalso
       have : id ∈ r.map Prod.fst := List.mem_map.2 ⟨x, hx, he⟩
       rw [(hasN_iff _ _).2 this] at hn
       cases hn
   | false =>
     rw [hk] at h
     simp only at h ⊢
     rcases List.mem_cons.1 hx with rfl | hx
     ·exact absurd he ((beq_false_iff _ _).1 hk)
     ·exact oneLoop_spec h x hx he
theorem nv {α : Type} {b : Bool} {t : T α} (h : b = true) : (T.need b t).val = t.val := by subst h; rfl
theorem ivT {α : Type} {c : Bool} {t u : T α} (h : c = true) : (T.ite c t u).val = t.val := by subst h; rfl
theorem ivF {α : Type} {c : Bool} {t u : T α} (h : c = false) : (T.ite c t u).val = u.val := by subst h; rfl
theorem enter_pack {N : Env AV} {nt : Nat} {E E' : Ev} {H : Hp AV} {ks : List Nat} {n : Nat} {c c' : Chunk AV} (hn : hget H n = some c) (hl : Lesser N c c') (hcc : c'.cellsOf = [])
 (hE : ∀ k ∈ ks, Sx.look E' k = Sx.look E k \/ (Sx.look E k ≠ .unk /\ ClV H (Sx.look E' k) /\ ∀ ρ, (Sx.look E' k).den ρ = (Sx.look E k).den ρ)) : Enter N nt { E := E, H := H } { E := only ks E' nt, H := lset H n (some c') } := fun hc => by
 have hlt := hget_lt hn
 have get : ∀ m, hget (lset H n (some c')) m = if m = n then some c' else hget H m := fun m => by
  by_cases h2 : m = n
  ·subst h2; rw [if_pos rfl, hget_lset_self _ hlt]
  ·rw [if_neg h2, hget_lset_ne _ fun e => h2 e.symm]
 have pers : ∀ m d, hget H m = some d -> ∃ d', hget (lset H n (some c')) m = some d' := fun m d h => by
  rw [get]
  by_cases h2 : m = n
  ·rw [if_pos h2]; exact ⟨_, rfl⟩
  ·rw [if_neg h2]; exact ⟨d, h⟩
 have src : ∀ m d, hget (lset H n (some c')) m = some d -> ∃ d', hget H m = some d' /\ (∀ ρ w, d'.q N ρ m w -> d.q N ρ m w) /\ ∀ ρ k, d.fp ρ m k ↔ d'.fp ρ m k := fun m d h => by
  rw [get] at h
  split at h
  ·rename_i e
   subst e
   cases h
   exact ⟨_, hn, fun ρ w hq => (hl ρ m w).1 hq, fun ρ k => (hl ρ m default).2 k⟩
  ·exact ⟨d, h, fun _ _ h => h, fun _ _ => Iff.rfl⟩
 refine ⟨⟨fun k => ?_, fun m x hx => ?_⟩, by show H.length <= (lset H n _).length; rw [length_lset]; exact Nat.le_refl _, fun ρ a w hat => ⟨ρ, ⟨⟨hat.em.size, fun k hk => ?_⟩, ?_⟩, ⟨pers, fun _ _ _ => rfl, fun m hm h => ?_, by show H.length <= (lset H n _).length; rw [length_lset]; exact Nat.le_refl _, fun _ _ _ => rfl, fun m d k h hk => ?_, rfl, rfl, rfl, Nat.le_refl _⟩⟩⟩
 ·show ClV (lset H n (some c')) (Sx.look (only ks E' nt) k)
  simp only [only_look]
  split
  ·cases hh : hasN ks k with
   | false => trivial
   | true =>
     rcases hE k ((hasN_iff _ _).1 hh) with e | ⟨_, e, _⟩
     ·simp only [e]; exact (hc.E k).mono fun m d h => pers m d h
     ·exact e.mono fun m d h => pers m d h
  ·exact undef_cl _
 ·have hx' : hget (lset H n (some c')) m = some x := hx
  clear hx
  rw [get] at hx'
  split at hx'
  ·cases hx'
   intro d hd; rw [hcc] at hd; cases hd
  ·exact (hc.H m x hx').mono fun m d h => pers m d h
 ·have hk : Sx.look (only ks E' nt) k ≠ .unk := hk
  show a.tmps.getD k undef = (Sx.look (only ks E' nt) k).den ρ
  simp only [only_look] at hk ⊢
  split
  ·rename_i hkn
   rw [if_pos hkn] at hk
   cases hh : hasN ks k with
   | false => rw [hh] at hk; exact absurd rfl hk
   | true =>
     rw [hh] at hk
     simp only at hk ⊢
     rcases hE k ((hasN_iff _ _).1 hh) with e | ⟨e0, _, e⟩
     ·rw [e] at hk ⊢; exact hat.em.get k hk
     ·rw [e ρ]; exact hat.em.get k e0
  ·rename_i hkn
   have : nt <= k := by omega
   rw [Array.getD_eq_getD_getElem?, Array.getElem?_eq_none (by rw [hat.em.size]; exact this)]
   rfl
 ·refine hat.own.sub ⟨fun m d h => ?_, fun m m' d d' hne h h' k hk hk' => ?_, hat.own.glb⟩ fun m d k h hk => ?_
  ·obtain ⟨d', h1, h2, _⟩ := src m d h
   exact h2 ρ w (hat.own.q m d' h1)
  ·obtain ⟨e, h1, _, h3⟩ := src m d h
   obtain ⟨e', g1, _, g3⟩ := src m' d' h'
   exact hat.own.dis m m' e e' hne h1 g1 k ((h3 ρ k).1 hk) ((g3 ρ k).1 hk')
  ·obtain ⟨e, h1, _, h3⟩ := src m d h
   exact ⟨m, e, h1, (h3 ρ k).1 hk⟩
 ·have h : hget H m = none := h
  show hget (lset H n _) m = none
  rw [get]
  split
  ·rename_i e; subst e; rw [h] at hn; cases hn
  ·exact h
 ·obtain ⟨e, h1, _, h3⟩ := src m d h
  exact .inr ⟨m, e, h1, (h3 ρ k).1 hk⟩
theorem plainIl (k : IntKind) (n : Int) : Plain (.v (.c (.it k n))) := fun c hc => by
 simp [V1.cells] at hc; subst hc; rfl
theorem wrapI {m : Int} (h : -9223372036854775808 <= m /\ m <= 9223372036854775807) : IntKind.wrap .i64 m = m := by
 unfold IntKind.wrap
 simp only [IntKind.bits, IntKind.signed]
 first | omega | (simp; omega)
theorem wrapS {n : Nat} (h : n < 1000000000) : IntKind.wrap .i64 ((n : Int) + 1) = ((n + 1 : Nat) : Int) := by rw [wrapI (by omega)]; omega
end Go.Proofs.YthdmoahfeimdaaaGreatDoor

namespace Go.Proofs.YthdmoahfeimdaaaGreatDoor
open Go Go.Sx Go.Proofs
set_option linter.unusedVariables false
set_option maxRecDepth 100000
def nM : List Bool := List.replicate gN false
def ksV : List Nat := [3, 5, 11, 65, 66, 67]
def ksP : List Nat := [3, 5, 11, 78, 79, 80]
noncomputable def LV : Code := loopAt 16 (loopsOf (bodyOf Tryz.f8))
noncomputable def LP : Code := loopAt 21 (loopsOf (bodyOf Tryz.f8))
def ndI (n : Nat) (len : Nat) (i : Int) : Bool := match decide (0 <= i /\ i < (n : Int)) with
 | true => decide (0 + i.toNat < len)
 | false => false
def txI (v : Int) : Tx := ⟨⟨(Lib.itoa v).toArray⟩⟩
def txP (q : Pr) : Tx := ⟨strCat (strCat ⟨(Lib.itoa q.key).toArray⟩ ⟨#[61]⟩) ⟨(Lib.itoa q.val).toArray⟩⟩
end Go.Proofs.YthdmoahfeimdaaaGreatDoor

namespace Go.Proofs.YthdmoahfeimdaaaGreatDoor
open Go Go.Sx Go.Proofs
set_option linter.unusedVariables false
set_option maxRecDepth 100000
abbrev inI (v : Int) : Prop := -9223372036854775808 <= v /\ v <= 9223372036854775807
def txV (a : N1) : Tx := txI a.val
theorem getD_mem {α : Type} {l : List α} {k : Nat} (h : k < l.length) (d : α) : l.getD k d ∈ l := by
 have : l.getD k d = l[k] := by simp [List.getD, h]
 rw [this]; exact List.getElem_mem h
theorem fitT {len : Nat} {has : List Tx} {σ : Sg} (h : len = has.length) (hl : len <= 1000) : (decide (len = Intf.len (avF σ) (AV.strs has) /\ (len + 1) * (SI.bytes si58 + 1) <= lim)) = true := decide_eq_true ⟨h, by
 have : SI.bytes si58 <= 1000 := by decide
 have : lim = 1099511627776 := rfl
 have : (len + 1) * (SI.bytes si58 + 1) <= 1001 * 1001 := Nat.mul_le_mul (by omega) (by omega)
 omega⟩
theorem drop_map_succ {α β : Type} (f : α -> β) {l : List α} {k : Nat} (h : k < l.length) (d : α) : (l.drop k).map f = f (l.getD k d) :: (l.drop (k + 1)).map f := by
 rw [List.drop_eq_getElem_cons h, List.map_cons]
 simp [List.getD, h]
end Go.Proofs.YthdmoahfeimdaaaGreatDoor

namespace Go.Proofs.YthdmoahfeimdaaaGreatDoor
open Go Go.Sx Go.Proofs
set_option linter.unusedVariables false
set_option maxRecDepth 100000
abbrev inP (q : Pr) : Prop := inI q.key /\ inI q.val
theorem catL (a b : Int) (ha : inI a) (hb : inI b) : Nat.ble (strLen ⟨(Lib.itoa a).toArray⟩ + strLen ⟨#[61]⟩) 9223372036854775807 = true /\ Nat.ble (strLen (strCat ⟨(Lib.itoa a).toArray⟩ ⟨#[61]⟩) + strLen ⟨(Lib.itoa b).toArray⟩) 9223372036854775807 = true := by
 have h1 := Lib.itoa_length_le a ha.1 ha.2
 have h2 := Lib.itoa_length_le b hb.1 hb.2
 have e1 : ∀ c, strLen ⟨(Lib.itoa c).toArray⟩ = (Lib.itoa c).length := fun c => by simp [strLen]
 have e2 : strLen ⟨#[61]⟩ = 1 := rfl
 have e3 : strLen (strCat ⟨(Lib.itoa a).toArray⟩ ⟨#[61]⟩) = (Lib.itoa a).length + 1 := by simp [strLen, strCat]
 rw [e1, e2, e3, e1]
 exact ⟨Nat.ble_eq_true_of_le (by omega), Nat.ble_eq_true_of_le (by omega)⟩
end Go.Proofs.YthdmoahfeimdaaaGreatDoor

namespace Go.Proofs.YthdmoahfeimdaaaGreatDoor
open Go Go.Sx Go.Proofs
set_option linter.unusedVariables false
set_option maxRecDepth 100000
def hsT : Tx := ⟨⟨#[104, 97, 115]⟩⟩
def itB (n : Int) : ByteArray := ⟨(Lib.itoa n).toArray⟩
def j2 : List UInt8 := joinL [⟨#[108, 101, 102, 116]⟩, itB 0, itB 0, itB 0, itB 0] [32]
def j3 : List UInt8 := joinL [⟨#[115, 116, 101, 112, 115]⟩, itB 0, ⟨#[109, 111, 115, 116]⟩, itB 0] [32]
abbrev fitB (n : Nat) : Bool := decide (n <= 140737488355328)
def nt1 {α : Type} : Nat -> T α -> T α
 | 0, t => t
 | k + 1, t => .need true (nt1 k t)
end Go.Proofs.YthdmoahfeimdaaaGreatDoor

namespace Go.Proofs.YthdmoahfeimdaaaGreatDoor
open Go Go.Sx Go.Proofs
set_option linter.unusedVariables false
set_option maxRecDepth 100000
variable {σ : Sg}
theorem join_le (s : UInt8) (b : Nat) : ∀ (xs : List (List UInt8)), (∀ x ∈ xs, x.length <= b) -> (Lib.join xs [s]).length <= (b + 1) * xs.length
 | [], _ => by simp [Lib.join, List.intercalate]
 | [x], h => by
   have := h x (by simp)
   simp [Lib.join, List.intercalate]; omega
 | x :: y :: r, h => by
   have h1 := h x (by simp)
   have h2 := join_le s b (y :: r) fun z hz => h z (List.mem_cons_of_mem _ hz)
   have e : Lib.join (x :: y :: r) [s] = x ++ [s] ++ Lib.join (y :: r) [s] := by simp [Lib.join, List.intercalate, List.intersperse]
   rw [e]
   have e3 : (b + 1) * (x :: y :: r).length = (b + 1) * (y :: r).length + (b + 1) := by rw [List.length_cons, Nat.mul_add, Nat.mul_one]
   rw [e3]
   simp only [List.length_append, List.length_singleton]
   omega
def hasT (l : List N1) (p : List Pr) : List Tx := hsT :: (l.map txV ++ p.map txP)
theorem txV_le {a : N1} (h : inI a.val) : (txV a).val.data.toList.length <= 50 := by
 have := Lib.itoa_length_le a.val h.1 h.2
 simp [txV, txI]; omega
theorem txP_le {a : Pr} (h : inP a) : (txP a).val.data.toList.length <= 50 := by
 have h1 := Lib.itoa_length_le a.key h.1.1 h.1.2
 have h2 := Lib.itoa_length_le a.val h.2.1 h.2.2
 simp [txP, strCat]; omega
theorem nt1_val {α : Type} (t : T α) : ∀ k, (nt1 k t).val = t.val
 | 0 => rfl
 | k + 1 => nt1_val t k
theorem fB {n : Nat} (h : n <= 140737488355328) : fitB n = true := decide_eq_true h
end Go.Proofs.YthdmoahfeimdaaaGreatDoor

namespace Go.Proofs.YthdmoahfeimdaaaGreatDoor
open Go Go.Sx Go.Proofs
set_option linter.unusedVariables false
set_option maxRecDepth 100000
variable {σ : Sg} {lp : Lp}
def wiN {α : Type} (σ : Sg) : List Nat -> T α -> T α
 | [], t => t
 | j :: r, t => .need (decide (σ 3 = σ 3 /\ σ j = σ j)) (wiN σ r t)
theorem wiN_val {α : Type} (σ : Sg) (t : T α) : ∀ l, (wiN σ l t).val = t.val
 | [] => rfl
 | j :: r => by
   rw [wiN, decide_eq_true ⟨rfl, rfl⟩]
   exact wiN_val σ t r
theorem run_awake (σ : Sg) : runC noLp σ (tabW σ) 6 (mkF 6) [] [] =
 nt1 55 (wiN σ [0, 4, 5, 6, 7, 8, 9, 10, 11, 2] (.need (decide (σ 3 = σ 3)) (.need true (.leaf (stV (.v (.c (.bl true)), hpC (mkF 6) [])))))) := by kernel_rfl
theorem awake_val (σ : Sg) : (runC noLp σ (tabW σ) 6 (mkF 6) [] []).val = some (stV (.v (.c (.bl true)), hpC (mkF 6) [])) := by
 rw [run_awake, nt1_val, wiN_val, decide_eq_true rfl]
 rfl
def awakeT (args : List SV) (l : List (Chunk AV)) : T (SV × List (Chunk AV) × List (Chunk AV)) := match args, l with
 | [], [] => .leaf (.v (.c (.bl true)), [], [])
 | _, _ => .fail "awake"
noncomputable def awakeG : List SV -> Hp AV -> T (SV × Hp AV) := sumC isS (mkF 6) awakeT
theorem awakeG_ok (hs : SentR σ) : FnOk Tryz.prog (NVl lp σ) 6 awakeG := by
 refine sumC_ok isS_ok (mkF_len _).symm fun args l v l' nw h hlen ha hC => ?_
 unfold awakeT at h
 split at h
 ·simp only [T.val, Option.some.injEq, Prod.mk.injEq] at h
  obtain ⟨rfl, rfl, rfl⟩ := h
  exact ctr_lp (runC_ctr lpsV (tabW_ok hs) (mkF_len _) (awake_val σ) (by rintro ⟨⟩))
 ·simp [T.val] at h
end Go.Proofs.YthdmoahfeimdaaaGreatDoor

namespace Go.Sx
open Go.ChangeShapes Go.WideShapes Go.RowKit
theorem Quiet.same {W W' : World} (h : Quiet W W') {p : MemPlace} (hp : p.block < W.heap.size) : W.sameAt W' p := by
 cases p with
 | cell b off =>
   have := h.block b hp
   simp only [World.sameAt, World.cell?, this]
 | map b => exact h.block b hp
theorem Quiet.frozen {W W' : World} (h : Quiet W W') (a : Addr) (ha : a.block < W.heap.size) : W'.frozen? a = W.frozen? a := by
 simp only [World.frozen?, h.block a.block ha]
theorem Quiet.kept {W W' : World} (h : Quiet W W') (may : MemPlace -> Prop) : W.keptBut W' may := by
 refine ⟨h.os, h.output, fun i hi => ?_⟩
 rw [h.block i hi]
 cases hx : W.heap[i]? with
 | none => trivial
 | some o => cases o <;> simp
section
variable {H : Type} {enc : TypeId × Value -> H} {P : Program}
theorem trodAll_stays (hl : laidOutB P = true) {W W' : World} {sp' : Nat -> Bool} : ∀ {ts : List TypeId} {vs : List Value} {ds : List (DataW H)} {ps : List MemPlace}, (∀ t ∈ ts, P.readableRec t = true /\ t < P.types.size) ->
 DataW.TrodAll enc P W 0 (fun _ => true) true ts vs ds ps -> (∀ p ∈ ps, W.sameAt W' p) -> (∀ p ∈ ps, sp' p.block = true) -> DataW.TrodAll enc P W' 0 sp' true ts vs ds ps
 | [], [], [], _, _, h, _, _ => h
 | t :: ts, v :: vs, d :: ds, ps, ht, h, hs, hsp => by
   obtain ⟨p, q, h1, h2, rfl⟩ := h
   have := ht t (List.mem_cons_self ..)
   refine ⟨p, q, WideElems.Trod_stays hl this.1 this.2 h1 (fun x hx => hs x (List.mem_append_left _ hx)) (fun x hx => hsp x (List.mem_append_left _ hx)), ?_, rfl⟩
   exact trodAll_stays hl (fun x hx => ht x (List.mem_cons_of_mem _ hx)) h2 (fun x hx => hs x (List.mem_append_right _ hx)) (fun x hx => hsp x (List.mem_append_right _ hx))
 | [], [], _ :: _, _, _, h, _, _ => by simp [DataW.TrodAll] at h
 | [], _ :: _, _, _, _, h, _, _ => by simp [DataW.TrodAll] at h
 | _ :: _, [], _, _, _, h, _, _ => by simp [DataW.TrodAll] at h
 | _ :: _, _ :: _, [], _, _, h, _, _ => by simp [DataW.TrodAll] at h
theorem post_of_quiet (hl : laidOutB P = true) {f : Func} {s : ChangeSpec} {apart fresh handsOn again : Bool} {W W' : World} {args : Array Value} {ds gs : List (DataW H)} {before : List MemPlace} {tb : TypeId}
 (hvars : s.vars = []) (hpar : ∀ t ∈ f.params.toList, P.readableRec t = true /\ t < P.types.size) (hres : f.resultTypes = #[tb]) (htb : P.underlying tb = some .bool)
 (hW : DataW.Whole enc P f.params.toList s.vars apart W args.toList ds gs before)
 (hspec : s.fn H ds = { results := [.lit (.bool true)], args := ds }) (hq : Quiet W W') :
 s.post enc P f apart fresh handsOn again W args (.bool true) W' := by
 have hW' := hW
 obtain ⟨p, q, hA, hV, rfl, hfz, hnd⟩ := hW
 rw [hvars] at hV
 obtain ⟨rfl, rfl⟩ := trodVars_none hV
 have hlt := hW'.lt
 simp only [List.append_nil] at hW' hlt hfz
 have hspec' : s.fn H (ds ++ []) = { results := [.lit (.bool true)], args := ds } := by rw [List.append_nil]; exact hspec
 have hok := ok_one (P := P) (W' := W') (f := f) (v := .bool true) hres rfl (okWide_bool_mk htb true)
 have hold : ∀ p' ∈ p, (fun b => decide (b < W.heap.size)) p'.block = true := fun p' hp => by simpa using hlt p' hp
 have hargs : ∀ sp : Nat -> Bool, (∀ x ∈ p, sp x.block = true) -> DataW.TrodAll enc P W' 0 sp true f.params.toList args.toList (s.fn H (ds ++ [])).args p := by
  intro sp hsp
  rw [hspec']
  exact trodAll_stays hl hpar hA (fun x hx => hq.same (hlt x hx)) hsp
 have hres' : ∀ (b : Nat) (sp : Nat -> Bool) (hd : Bool), DataW.TrodAll enc P W' b sp hd f.resultTypes.toList ((Value.bool true).resultList f.resultTypes.size) (s.fn H (ds ++ [])).results [] := by
  intro b sp hd
  rw [hspec', hres]
  exact ⟨[], [], shut_bool htb _, rfl, rfl⟩
 have hvars' : ∀ sp : Nat -> Bool, DataW.TrodVars enc P W' sp s.vars (s.fn H (ds ++ [])).vars [] := by
  intro sp
  rw [hspec', hvars]
  exact rfl
 refine ⟨ds, [], p, [], p, [], hW', hres' _ _ _, hargs _ hold, hvars' _, World.keptBut_mono (fun x hx => ⟨hx, Or.inr (by simpa using hx)⟩) (hq.kept _), fun _ => ?_⟩
 obtain ⟨_, _, _, _, _, hz, hn⟩ := hW'
 refine ⟨hok, _, _, ([] ++ p) ++ [], ⟨[] ++ p, [], trodAll_append (hargs _ (fun _ _ => rfl)) (hres' _ _ _), hvars' _, rfl, ?_, ?_⟩, ?_⟩
 ·intro b off hp
  simp only [List.nil_append, List.append_nil] at hp
  rw [hq.frozen _ (hlt _ hp)]
  exact hfz b off hp
 ·intro ha
  simpa using hnd ha
 ·intro x hx _
  simpa using hx
end
structure SentTy (P : Program) (ti tp te ts : TypeId) : Prop where
 hi : ∃ ms, P.underlying ti = some (.interface ms)
 row : ∀ u, P.typeName? 3 u = some "*errors.errorString" -> u = tp
 hp : P.underlying tp = some (.pointer te)
 he : ∃ f : Field, P.underlying te = some (.struct #[f]) /\ f.type = ts /\ f.offset = 0
 hs : P.underlying ts = some .string
 hc : P.cellsOf te = 1
 hcs : P.cellsOf ts = 1
def sent (text : List UInt8) : DataW Unit := .iface "*errors.errorString" (.ptr (.agg [.lit (.string text)]))
end Go.Sx

namespace Go.Sx
open Go.ChangeShapes Go.WideShapes
def flatOk : List FK -> List Value -> Prop
 | [], [] => True
 | .bool :: ks, .bool _ :: vs => flatOk ks vs
 | .int k :: ks, .int k' _ :: vs => k' = k /\ flatOk ks vs
 | .str :: ks, .string _ :: vs => flatOk ks vs
 | _, _ => False
theorem flatOk_append : ∀ {ks ks' : List FK} {vs vs' : List Value}, flatOk ks vs -> flatOk ks' vs' -> flatOk (ks ++ ks') (vs ++ vs')
 | [], _, [], _, _, h' => h'
 | [], _, _ :: _, _, h, _ => by simp [flatOk] at h
 | k :: _, _, [], _, h, _ => by cases k <;> simp [flatOk] at h
 | k :: ks, ks', v :: vs, vs', h, h' => by
   cases k <;> cases v <;> first | exact flatOk_append (ks := ks) (vs := vs) h h' | exact ⟨h.1, flatOk_append (ks := ks) (vs := vs) h.2 h'⟩ | exact absurd h (by simp [flatOk])
theorem cellsOf_size {P : Program} {t : TypeId} {n : Nat} (h : sizeT P t = some n) : P.cellsOf t = n := by
 unfold sizeT at h
 unfold Program.cellsOf
 cases hi : P.info? t with
 | none => rw [hi] at h; cases h
 | some i => rw [hi] at h; cases h; rfl
section
variable {H : Type} {enc : TypeId × Value -> H} {P : Program} {w : World} {base : Nat} {sp : Nat -> Bool} {held : Bool}
theorem flat_fields {rec : TypeId -> Option (List FK)} {cs : List Value} {n : Nat}
 (hrec : ∀ t ks vs x, rec t = some ks -> DataW.trod enc P w base sp held n t vs = some x -> P.cellsOf t = ks.length -> flatOk ks vs) :
 ∀ (fs : List Field) (off : Nat) (ks : List FK), flatFs P rec fs off = some ks -> (∀ f ∈ fs, ∃ y, DataW.trod enc P w base sp held n f.type ((cs.drop f.offset).take (P.cellsOf f.type)) = some y) -> flatOk ks ((cs.drop off).take ks.length)
 | [], off, ks, h, _ => by
   simp only [flatFs, Option.some.injEq] at h
   subst h
   simp [flatOk]
 | f :: fs, off, ks, h, hf => by
   simp only [flatFs] at h
   split at h
   ·cases h
   ·split at h
    ·cases h
    ·rename_i hoff
     have hoff := (beq_iff _ _).1 hoff
     split at h
     ·cases h
     ·rename_i k1 hk1
      split at h
      ·cases h
      ·rename_i m hm
       split at h
       ·cases h
       ·rename_i hlen
        have hlen := (beq_iff _ _).1 hlen
        split at h
        ·rename_i l hl
         cases h
         have hc := cellsOf_size hm
         obtain ⟨y, hy⟩ := hf f (List.mem_cons_self ..)
         have h1 := hrec f.type k1 _ y hk1 hy (hc.trans hlen)
         rw [hoff, hc, hlen] at h1
         have h2 := flat_fields hrec fs (off + m) l hl (fun g hg => hf g (List.mem_cons_of_mem _ hg))
         have e : (cs.drop off).take (k1 ++ l).length = (cs.drop off).take k1.length ++ (cs.drop (off + m)).take l.length := by
          rw [List.length_append, List.take_add, List.drop_drop, hlen]
         rw [e]
         exact flatOk_append h1 h2
        ·cases h
theorem trod_flat : ∀ (d n : Nat) (t : TypeId) (ks : List FK) (cs : List Value) (x : DataW H × List MemPlace), flatT P d t = some ks -> DataW.trod enc P w base sp held n t cs = some x -> P.cellsOf t = ks.length -> flatOk ks cs
 | 0, _, _, _, _, _, h, _, _ => by simp [flatT] at h
 | d + 1, n, t, ks, cs, x, h, ht, hc => by
   simp only [flatT] at h
   split at h
   ·rename_i hu
    cases h
    obtain ⟨b, rfl, _⟩ := DataW.trod_bool hu ht
    simp [flatOk]
   ·rename_i k hu
    cases h
    obtain ⟨m, rfl, _⟩ := DataW.trod_int hu ht
    simp [flatOk]
   ·rename_i hu
    cases h
    obtain ⟨m, rfl, _⟩ := DataW.trod_string hu ht
    simp [flatOk]
   ·rename_i fs hu
    split at h
    ·cases h
    ·obtain ⟨xs, m, rfl, _, hl, hxl, hx⟩ := DataW.trod_struct hu ht
     have := flat_fields (H := H) (enc := enc) (w := w) (base := base) (sp := sp) (held := held) (n := m) (cs := cs) (fun t ks vs x h1 h2 h3 => trod_flat d m t ks vs x h1 h2 h3) fs.toList 0 ks h (fun f hf => by
      obtain ⟨i, hi⟩ := List.mem_iff_getElem?.1 hf
      have hi' : fs[i]? = some f := by simpa using hi
      have hlt : i < xs.length := by rw [hxl]; exact (Array.getElem?_eq_some_iff.1 hi').1
      exact ⟨xs[i], by rw [hx i f hi', List.getElem?_eq_getElem hlt]⟩)
     rw [List.drop_zero, List.take_of_length_le (by omega)] at this
     exact this
   ·rename_i len e hu
    split at h
    ·rename_i sz hs
     obtain ⟨xs, m, rfl, _, hl, hxl, hx⟩ := DataW.trod_array hu ht
     have := flat_fields (H := H) (enc := enc) (w := w) (base := base) (sp := sp) (held := held) (n := m) (cs := cs) (fun t ks vs x h1 h2 h3 => trod_flat d m t ks vs x h1 h2 h3) (arrFs e sz len 0) 0 ks h (fun f hf => by
      rw [arrFs_eq] at hf
      obtain ⟨i, hi, rfl⟩ := List.mem_map.1 hf
      have hi : i < len := by simpa using List.mem_range'_1.1 hi
      have hlt : i < xs.length := by omega
      have hx := hx i hi
      rw [cellsOf_size hs] at hx
      exact ⟨xs[i], by simp only [arrFd]; rw [cellsOf_size hs, hx, List.getElem?_eq_getElem hlt]⟩)
     rw [List.drop_zero, List.take_of_length_le (by omega)] at this
     exact this
    ·cases h
   ·cases h
end
end Go.Sx
