import Derived.Test.YthdmoahfeimdaaaGreatDoorFr
import Derived.Defers
import Derived.Recover
import Derived.Laws.Pointers
import Derived.Test.YthdmoahfeimdaaaGreatDoorSxLn
namespace Go.Proofs.YthdmoahfeimdaaaGreatDoor
open Go Go.Sx Go.Proofs
set_option linter.unusedVariables false
set_option maxRecDepth 100000
def iz (n : Int) : Cell := .il .i64 n
def rp (k : Nat) (p r : List Cell) : List Cell := match k with | 0 => r | k + 1 => p ++ rp k p r
def ap (l r : List Cell) : List Cell := l ++ r
def sfQ (n : Nat) : Cell := .sf n 1 4 false (restF 0 1 4) (restF_ok 0 1 4)
def sc : SV := .v (.agg [.il .i64 1, .il .i64 2, .il .i64 1, .il .i64 9, .il .i64 2, .vs 14 0 1 5 true, .snil])
def tk : Chunk AV := .vec [.il .i64 0, .il .i64 1, .il .i64 0, .il .i64 4, .il .i64 0] 5 123
def st_k0 : List (Chunk AV) := [.cells ([.ptr 15 0, iz 1, iz 0]) 139,
 .cells ([iz 1, .ptr 16 0, .vs 17 0 1 4 (true), .snil]) 215,
 .cells ([.vs 18 0 85 5 (true), .vs 19 0 9 52 (true), .vs 20 0 9 1 (true), iz 1, iz 0, .inil]) 219,
 .vec ([.ptr 21 0, .vs 22 0 1 4 (true), iz 1, iz (-1)]) 4 224,
 .vec (rp 24 [iz 0, iz 0, iz 0, iz 0, .bl false] (ap [iz 0, iz 0, iz 0, iz 1] (rp 60 [.bl false, iz 0, iz 0, iz 0, iz 0] ([.bl false])))) 5 158,
 .vec (rp 9 [iz 0, .bl false, iz 0, iz 0, iz 0, iz 0, .bl false, iz 0, iz 0, iz 0, iz 0, .bl false, iz 0, iz 0, iz 0, iz 0, .bl false, iz 0, iz 0, iz 0, iz 0, .bl false, iz 0, iz 0, iz 0, iz 0, .bl false, iz 0, iz 0, iz 0, iz 0, .bl false, iz 0, iz 0, iz 0, iz 0, .bl false, iz 0, iz 0, iz 0, iz 0, .bl false, iz 0, iz 0, iz 0, iz 0, .bl false, iz 0, iz 0, iz 0, iz 0, .bl false] ([])) 52 299,
 .vec ([iz 9, iz 8, iz 7, iz 6, iz 5, iz 4, iz 3, iz 2, iz 1]) 1 3,
 .cells (ap [iz 1, iz 2, .ptr 23 0] (rp 9 [iz 0] (rp 2 [.bl false, iz 0, iz 0, iz 0, iz 0] (rp 4 [iz 0] ([.inil, iz 0, iz 0]))))) 282,
 .vec ([iz 1, iz 0, iz 4, iz 0]) 4 36,
 .cells (rp 8 [iz 0] (rp 2 [.bl false, iz 0, iz 0, iz 0, iz 0] (rp 9 [iz 0] (rp 3 [.bl false, iz 0, iz 0, iz 0, iz 0] (ap [.bl false, iz 0, .snil, .snil, iz 2, iz 0, iz 1, iz 2] (rp 9 [iz 0, iz 0, iz 0, iz 0, .bl false] (ap [.bl false, iz 0, iz 0, .snil] (rp 5 [iz 0] ([.bl false, .bl false]))))))))) 328]
def st_k1 : List (Chunk AV) := [.cells ([iz 1, .ptr 15 0, .vs 16 0 1 4 (true), .vs 17 0 5 10 (true)]) 215,
 .cells ([.vs 18 0 85 5 (true), .vs 19 0 9 52 (true), .vs 20 0 8 1 (true), iz 6, iz 1, .inil]) 219,
 .vec ([.ptr 21 0, sfQ 22, iz 1, iz 4]) 4 224,
 .vec (ap [iz 0, .bl true, iz 1, iz 0, iz 4] (rp 4 [iz 0, .bl true, .bl false, iz 0, iz 0, iz 0, .bl false, iz 0, iz 0, iz 0] ([iz 0, .bl true, .bl true, iz 1, iz 0]))) 10 208,
 .vec (ap [iz 1, iz 1, iz 1] (rp 24 [iz 0, .bl false, iz 0, iz 0, iz 0] (ap [iz 1] (rp 60 [.bl false, iz 0, iz 0, iz 0, iz 0] ([.bl false]))))) 5 158,
 .vec (ap [iz 1, .bl true] (rp 4 [iz 0] (ap [.bl false, iz 0, iz 0, iz 0, iz 4] (rp 8 [.bl false, iz 0, iz 0, iz 0, iz 0, .bl false, iz 0, iz 0, iz 0, iz 0, .bl false, iz 0, iz 0, iz 0, iz 0, .bl false, iz 0, iz 0, iz 0, iz 0, .bl false, iz 0, iz 0, iz 0, iz 0, .bl false, iz 0, iz 0, iz 0, iz 0, .bl false, iz 0, iz 0, iz 0, iz 0, .bl false, iz 0, iz 0, iz 0, iz 0, .bl false, iz 0, .bl false, iz 0, iz 0, iz 0, iz 0, .bl false, iz 0, iz 0, iz 0, iz 0] (rp 8 [.bl false, iz 0, iz 0, iz 0, iz 0] ([.bl false])))))) 52 299,
 .vec ([iz 9, iz 8, iz 7, iz 6, iz 5, iz 4, iz 3, iz 2, iz 1]) 1 3,
 .cells (ap [iz 1, iz 2, .ptr 23 0, iz 0, iz 2] (rp 7 [iz 0] (rp 2 [.bl false, iz 0, iz 0, iz 0, iz 0] ([iz 1, iz 0, iz 4, iz 0, .ifc 95 (.ptr 24 0), iz 1, iz 0])))) 282,
 .vec ([iz 1, iz 0, iz 4, iz 0]) 4 36,
 .cells (rp 8 [iz 0] (rp 2 [.bl false, iz 0, iz 0, iz 0, iz 0] (rp 9 [iz 0] (rp 3 [.bl false, iz 0, iz 0, iz 0, iz 0] (ap [.bl false, iz 0, .snil, .snil, iz 2, iz 0, iz 1, iz 2] (rp 9 [iz 0, iz 0, iz 0, iz 0, .bl false] (ap [.bl false, iz 0, iz 0, .snil] (rp 5 [iz 0] ([.bl false, .bl true]))))))))) 328,
 .cells (ap [iz (-1), iz 12] (rp 7 [iz 0] (ap [.bl false] (rp 4 [iz 0] (ap [.bl false, iz 0, iz 0, iz 1, iz 0, iz 1, iz 0, iz 4, iz 0, iz 1, iz 1, iz 0, iz 0, .bl false] (rp 4 [iz 0] ([.bl false, iz 0]))))))) 164]
def st_k2 : List (Chunk AV) := [.cells ([iz 1, .ptr 15 0, .vs 16 0 1 4 (true), .vs 17 0 5 10 (true)]) 215,
 .cells ([.vs 18 0 85 5 (true), .vs 19 0 9 52 (true), .vs 20 0 8 1 (true), iz 15, iz 1, .inil]) 219,
 .vec ([.ptr 21 0, sfQ 22, iz 1, iz 4]) 4 224,
 .vec (ap [iz 0, .bl true, iz 1, iz 0, iz 4] (rp 4 [iz 0, .bl true, .bl false, iz 0, iz 0, iz 0, .bl false, iz 0, iz 0, iz 0] ([iz 0, .bl true, .bl true, iz 1, iz 0]))) 10 208,
 .vec (ap [iz 1, iz 1, iz 1] (rp 24 [iz 0, .bl false, iz 0, iz 0, iz 0] (ap [iz 1] (rp 60 [.bl false, iz 0, iz 0, iz 0, iz 0] ([.bl false]))))) 5 158,
 .vec (ap [iz 1, .bl true] (rp 4 [iz 0] (ap [.bl false, iz 0, iz 0, iz 0, iz 4] (rp 8 [.bl false, iz 0, iz 0, iz 0, iz 0, .bl false, iz 0, iz 0, iz 0, iz 0, .bl false, iz 0, iz 0, iz 0, iz 0, .bl false, iz 0, iz 0, iz 0, iz 0, .bl false, iz 0, iz 0, iz 0, iz 0, .bl false, iz 0, iz 0, iz 0, iz 0, .bl false, iz 0, iz 0, iz 0, iz 0, .bl false, iz 0, iz 0, iz 0, iz 0, .bl false, iz 0, .bl false, iz 0, iz 0, iz 0, iz 0, .bl false, iz 0, iz 0, iz 0, iz 0] (rp 8 [.bl false, iz 0, iz 0, iz 0, iz 0] ([.bl false])))))) 52 299,
 .vec ([iz 9, iz 8, iz 7, iz 6, iz 5, iz 4, iz 3, iz 2, iz 1]) 1 3,
 .cells (ap [iz 1, iz 2, .ptr 23 0, iz 0, iz 11] (rp 7 [iz 0] (rp 2 [.bl false, iz 0, iz 0, iz 0, iz 0] (rp 4 [iz 0] ([.inil, iz 0, iz 0]))))) 282,
 .vec ([iz 1, iz 0, iz 4, iz 0]) 4 36,
 .cells (rp 8 [iz 0] (rp 2 [.bl false, iz 0, iz 0, iz 0, iz 0] (rp 9 [iz 0] (rp 3 [.bl false, iz 0, iz 0, iz 0, iz 0] (ap [.bl false, iz 0, .snil, .snil, iz 2, iz 0, iz 1, iz 2] (rp 9 [iz 0, iz 0, iz 0, iz 0, .bl false] (ap [.bl false, iz 0, iz 0, .snil] (rp 5 [iz 0] ([.bl false, .bl true]))))))))) 328]
def st_k3 : List (Chunk AV) := [.cells ([iz 1, .ptr 15 0, .vs 16 0 1 4 (true), .vs 17 0 5 10 (true)]) 215,
 .cells ([.vs 18 0 85 5 (true), .vs 19 0 9 52 (true), .vs 20 0 8 1 (true), iz 24, iz 1, .inil]) 219,
 .vec ([.ptr 21 0, sfQ 22, iz 1, iz 4]) 4 224,
 .vec (ap [iz 0, .bl true, iz 1, iz 0, iz 4] (rp 4 [iz 0, .bl true, .bl false, iz 0, iz 0, iz 0, .bl false, iz 0, iz 0, iz 0] ([iz 0, .bl true, .bl true, iz 1, iz 0]))) 10 208,
 .vec (ap [iz 1, iz 1, iz 1] (rp 24 [iz 0, .bl false, iz 0, iz 0, iz 0] (ap [iz 1] (rp 60 [.bl false, iz 0, iz 0, iz 0, iz 0] ([.bl false]))))) 5 158,
 .vec (ap [iz 1, .bl true] (rp 4 [iz 0] (ap [.bl false, iz 0, iz 0, iz 0, iz 4] (rp 8 [.bl false, iz 0, iz 0, iz 0, iz 0, .bl false, iz 0, iz 0, iz 0, iz 0, .bl false, iz 0, iz 0, iz 0, iz 0, .bl false, iz 0, iz 0, iz 0, iz 0, .bl false, iz 0, iz 0, iz 0, iz 0, .bl false, iz 0, iz 0, iz 0, iz 0, .bl false, iz 0, iz 0, iz 0, iz 0, .bl false, iz 0, iz 0, iz 0, iz 0, .bl false, iz 0, .bl false, iz 0, iz 0, iz 0, iz 0, .bl false, iz 0, iz 0, iz 0, iz 0] (rp 8 [.bl false, iz 0, iz 0, iz 0, iz 0] ([.bl false])))))) 52 299,
 .vec ([iz 9, iz 8, iz 7, iz 6, iz 5, iz 4, iz 3, iz 2, iz 1]) 1 3,
 .cells (ap [iz 1, iz 2, .ptr 23 0, iz 0, iz 11] (rp 7 [iz 0] (rp 2 [.bl false, iz 0, iz 0, iz 0, iz 0] (rp 4 [iz 0] ([.inil, iz 0, iz 0]))))) 282,
 .vec ([iz 1, iz 0, iz 4, iz 0]) 4 36,
 .cells (rp 8 [iz 0] (rp 2 [.bl false, iz 0, iz 0, iz 0, iz 0] (rp 9 [iz 0] (rp 3 [.bl false, iz 0, iz 0, iz 0, iz 0] (ap [.bl false, iz 0, .snil, .snil, iz 2, iz 0, iz 1, iz 2] (rp 9 [iz 0, iz 0, iz 0, iz 0, .bl false] (ap [.bl false, iz 0, iz 0, .snil] (rp 5 [iz 0] ([.bl false, .bl true]))))))))) 328]
def st_k4 : List (Chunk AV) := [.cells ([iz 1, .ptr 15 0, .vs 16 0 1 4 (true), .vs 17 0 5 10 (true)]) 215,
 .cells ([.vs 18 0 85 5 (true), .vs 19 0 9 52 (true), .vs 20 0 8 1 (true), iz 33, iz 1, .inil]) 219,
 .vec ([.ptr 21 0, sfQ 22, iz 1, iz 4]) 4 224,
 .vec (ap [iz 0, .bl true, iz 1, iz 0, iz 4] (rp 4 [iz 0, .bl true, .bl false, iz 0, iz 0, iz 0, .bl false, iz 0, iz 0, iz 0] ([iz 0, .bl true, .bl true, iz 1, iz 0]))) 10 208,
 .vec (ap [iz 1, iz 1, iz 1] (rp 24 [iz 0, .bl false, iz 0, iz 0, iz 0] (ap [iz 1] (rp 60 [.bl false, iz 0, iz 0, iz 0, iz 0] ([.bl false]))))) 5 158,
 .vec (ap [iz 1, .bl true] (rp 4 [iz 0] (ap [.bl false, iz 0, iz 0, iz 0, iz 4] (rp 8 [.bl false, iz 0, iz 0, iz 0, iz 0, .bl false, iz 0, iz 0, iz 0, iz 0, .bl false, iz 0, iz 0, iz 0, iz 0, .bl false, iz 0, iz 0, iz 0, iz 0, .bl false, iz 0, iz 0, iz 0, iz 0, .bl false, iz 0, iz 0, iz 0, iz 0, .bl false, iz 0, iz 0, iz 0, iz 0, .bl false, iz 0, iz 0, iz 0, iz 0, .bl false, iz 0, .bl false, iz 0, iz 0, iz 0, iz 0, .bl false, iz 0, iz 0, iz 0, iz 0] (rp 8 [.bl false, iz 0, iz 0, iz 0, iz 0] ([.bl false])))))) 52 299,
 .vec ([iz 9, iz 8, iz 7, iz 6, iz 5, iz 4, iz 3, iz 2, iz 1]) 1 3,
 .cells (ap [iz 1, iz 2, .ptr 23 0, iz 0, iz 11] (rp 7 [iz 0] (rp 2 [.bl false, iz 0, iz 0, iz 0, iz 0] (rp 4 [iz 0] ([.inil, iz 0, iz 0]))))) 282,
 .vec ([iz 1, iz 0, iz 4, iz 0]) 4 36,
 .cells (rp 8 [iz 0] (rp 2 [.bl false, iz 0, iz 0, iz 0, iz 0] (rp 9 [iz 0] (rp 3 [.bl false, iz 0, iz 0, iz 0, iz 0] (ap [.bl false, iz 0, .snil, .snil, iz 2, iz 0, iz 1, iz 2] (rp 9 [iz 0, iz 0, iz 0, iz 0, .bl false] (ap [.bl false, iz 0, iz 0, .snil] (rp 5 [iz 0] ([.bl false, .bl true]))))))))) 328]
def sl_begin : List (Chunk AV) := [.vec ([iz 0, iz 1, iz 0, iz 4, iz 0]) 5 123]
def sn_begin : List (Chunk AV) := [.cells ([.ptr 16 0, iz 1, iz 0]) 139,
 .cells ([iz 1, .ptr 17 0, .vs 18 0 1 4 (true), .snil]) 215,
 .cells ([.vs 19 0 85 5 (true), .vs 20 0 9 52 (true), .vs 21 0 9 1 (true), iz 1, iz 0, .inil]) 219,
 .vec ([.ptr 22 0, .vs 23 0 1 4 (true), iz 1, iz (-1)]) 4 224,
 .vec (rp 24 [iz 0, iz 0, iz 0, iz 0, .bl false] (ap [iz 0, iz 0, iz 0, iz 1] (rp 60 [.bl false, iz 0, iz 0, iz 0, iz 0] ([.bl false])))) 5 158,
 .vec (rp 9 [iz 0, .bl false, iz 0, iz 0, iz 0, iz 0, .bl false, iz 0, iz 0, iz 0, iz 0, .bl false, iz 0, iz 0, iz 0, iz 0, .bl false, iz 0, iz 0, iz 0, iz 0, .bl false, iz 0, iz 0, iz 0, iz 0, .bl false, iz 0, iz 0, iz 0, iz 0, .bl false, iz 0, iz 0, iz 0, iz 0, .bl false, iz 0, iz 0, iz 0, iz 0, .bl false, iz 0, iz 0, iz 0, iz 0, .bl false, iz 0, iz 0, iz 0, iz 0, .bl false] ([])) 52 299,
 .vec ([iz 9, iz 8, iz 7, iz 6, iz 5, iz 4, iz 3, iz 2, iz 1]) 1 3,
 .cells (ap [iz 1, iz 2, .ptr 24 0] (rp 9 [iz 0] (rp 2 [.bl false, iz 0, iz 0, iz 0, iz 0] (rp 4 [iz 0] ([.inil, iz 0, iz 0]))))) 282,
 .vec ([iz 1, iz 0, iz 4, iz 0]) 4 36,
 .cells (rp 8 [iz 0] (rp 2 [.bl false, iz 0, iz 0, iz 0, iz 0] (rp 9 [iz 0] (rp 3 [.bl false, iz 0, iz 0, iz 0, iz 0] (ap [.bl false, iz 0, .snil, .snil, iz 2, iz 0, iz 1, iz 2] (rp 9 [iz 0, iz 0, iz 0, iz 0, .bl false] (ap [.bl false, iz 0, iz 0, .snil] (rp 5 [iz 0] ([.bl false, .bl false]))))))))) 328]
def sl_finish : List (Chunk AV) := [.cells ([.ptr 15 0, iz 1, iz 0]) 139,
 .cells ([iz 1, .ptr 16 0, .vs 17 0 1 4 (true), .vs 24 0 5 10 (true)]) 215,
 .cells ([.vs 18 0 85 5 (true), .vs 19 0 9 52 (true), .vs 20 0 8 1 (true), iz 6, iz 1, .inil]) 219,
 .vec ([.ptr 21 0, sfQ 22, iz 1, iz 4]) 4 224,
 .vec (ap [iz 1, iz 1, iz 1] (rp 24 [iz 0, .bl false, iz 0, iz 0, iz 0] (ap [iz 1] (rp 60 [.bl false, iz 0, iz 0, iz 0, iz 0] ([.bl false]))))) 5 158,
 .vec (ap [iz 1, .bl true] (rp 4 [iz 0] (ap [.bl false, iz 0, iz 0, iz 0, iz 4] (rp 8 [.bl false, iz 0, iz 0, iz 0, iz 0, .bl false, iz 0, iz 0, iz 0, iz 0, .bl false, iz 0, iz 0, iz 0, iz 0, .bl false, iz 0, iz 0, iz 0, iz 0, .bl false, iz 0, iz 0, iz 0, iz 0, .bl false, iz 0, iz 0, iz 0, iz 0, .bl false, iz 0, iz 0, iz 0, iz 0, .bl false, iz 0, iz 0, iz 0, iz 0, .bl false, iz 0, .bl false, iz 0, iz 0, iz 0, iz 0, .bl false, iz 0, iz 0, iz 0, iz 0] (rp 8 [.bl false, iz 0, iz 0, iz 0, iz 0] ([.bl false])))))) 52 299,
 .vec ([iz 9, iz 8, iz 7, iz 6, iz 5, iz 4, iz 3, iz 2, iz 1]) 1 3,
 .cells (ap [iz 1, iz 2, .ptr 23 0, iz 0, iz 2] (rp 7 [iz 0] (rp 2 [.bl false, iz 0, iz 0, iz 0, iz 0] ([iz 1, iz 0, iz 4, iz 0, .ifc 95 (.ptr 25 0), iz 1, iz 0])))) 282,
 .vec ([iz 1, iz 0, iz 4, iz 0]) 4 36,
 .cells (rp 8 [iz 0] (rp 2 [.bl false, iz 0, iz 0, iz 0, iz 0] (rp 9 [iz 0] (rp 3 [.bl false, iz 0, iz 0, iz 0, iz 0] (ap [.bl false, iz 0, .snil, .snil, iz 2, iz 0, iz 1, iz 2] (rp 9 [iz 0, iz 0, iz 0, iz 0, .bl false] (ap [.bl false, iz 0, iz 0, .snil] (rp 5 [iz 0] ([.bl false, .bl true]))))))))) 328]
def sn_finish : List (Chunk AV) := [.vec (ap [iz 0, .bl true, iz 1, iz 0, iz 4] (rp 4 [iz 0, .bl true, .bl false, iz 0, iz 0, iz 0, .bl false, iz 0, iz 0, iz 0] ([iz 0, .bl true, .bl true, iz 1, iz 0]))) 10 208,
 .cells (ap [iz (-1), iz 12] (rp 7 [iz 0] (ap [.bl false] (rp 4 [iz 0] (ap [.bl false, iz 0, iz 0, iz 1, iz 0, iz 1, iz 0, iz 4, iz 0, iz 1, iz 1, iz 0, iz 0, .bl false] (rp 4 [iz 0] ([.bl false, iz 0]))))))) 164]
def sl_scan1 : List (Chunk AV) := [.cells ([iz 1, .ptr 15 0, .vs 16 0 1 4 (true), .vs 17 0 5 10 (true)]) 215,
 .cells ([.vs 18 0 85 5 (true), .vs 19 0 9 52 (true), .vs 20 0 8 1 (true), iz 15, iz 1, .inil]) 219,
 .vec ([.ptr 21 0, sfQ 22, iz 1, iz 4]) 4 224,
 .vec (ap [iz 0, .bl true, iz 1, iz 0, iz 4] (rp 4 [iz 0, .bl true, .bl false, iz 0, iz 0, iz 0, .bl false, iz 0, iz 0, iz 0] ([iz 0, .bl true, .bl true, iz 1, iz 0]))) 10 208,
 .vec (ap [iz 1, iz 1, iz 1] (rp 24 [iz 0, .bl false, iz 0, iz 0, iz 0] (ap [iz 1] (rp 60 [.bl false, iz 0, iz 0, iz 0, iz 0] ([.bl false]))))) 5 158,
 .vec (ap [iz 1, .bl true] (rp 4 [iz 0] (ap [.bl false, iz 0, iz 0, iz 0, iz 4] (rp 8 [.bl false, iz 0, iz 0, iz 0, iz 0, .bl false, iz 0, iz 0, iz 0, iz 0, .bl false, iz 0, iz 0, iz 0, iz 0, .bl false, iz 0, iz 0, iz 0, iz 0, .bl false, iz 0, iz 0, iz 0, iz 0, .bl false, iz 0, iz 0, iz 0, iz 0, .bl false, iz 0, iz 0, iz 0, iz 0, .bl false, iz 0, iz 0, iz 0, iz 0, .bl false, iz 0, .bl false, iz 0, iz 0, iz 0, iz 0, .bl false, iz 0, iz 0, iz 0, iz 0] (rp 8 [.bl false, iz 0, iz 0, iz 0, iz 0] ([.bl false])))))) 52 299,
 .vec ([iz 9, iz 8, iz 7, iz 6, iz 5, iz 4, iz 3, iz 2, iz 1]) 1 3,
 .cells (ap [iz 1, iz 2, .ptr 23 0, iz 0, iz 11] (rp 7 [iz 0] (rp 2 [.bl false, iz 0, iz 0, iz 0, iz 0] (rp 4 [iz 0] ([.inil, iz 0, iz 0]))))) 282,
 .vec ([iz 1, iz 0, iz 4, iz 0]) 4 36,
 .cells (rp 8 [iz 0] (rp 2 [.bl false, iz 0, iz 0, iz 0, iz 0] (rp 9 [iz 0] (rp 3 [.bl false, iz 0, iz 0, iz 0, iz 0] (ap [.bl false, iz 0, .snil, .snil, iz 2, iz 0, iz 1, iz 2] (rp 9 [iz 0, iz 0, iz 0, iz 0, .bl false] (ap [.bl false, iz 0, iz 0, .snil] (rp 5 [iz 0] ([.bl false, .bl true]))))))))) 328,
 .cells (ap [iz (-1), iz 12] (rp 7 [iz 0] (ap [.bl false] (rp 4 [iz 0] (ap [.bl false, iz 0, iz 0, iz 1, iz 0, iz 1, iz 0, iz 4, iz 0, iz 1, iz 1, iz 0, iz 0, .bl false] (rp 4 [iz 0] ([.bl false, iz 0]))))))) 164]
def sn_scan1 : List (Chunk AV) := []
def sl_scan2 : List (Chunk AV) := [.cells ([iz 1, .ptr 15 0, .vs 16 0 1 4 (true), .vs 17 0 5 10 (true)]) 215,
 .cells ([.vs 18 0 85 5 (true), .vs 19 0 9 52 (true), .vs 20 0 8 1 (true), iz 24, iz 1, .inil]) 219,
 .vec ([.ptr 21 0, sfQ 22, iz 1, iz 4]) 4 224,
 .vec (ap [iz 0, .bl true, iz 1, iz 0, iz 4] (rp 4 [iz 0, .bl true, .bl false, iz 0, iz 0, iz 0, .bl false, iz 0, iz 0, iz 0] ([iz 0, .bl true, .bl true, iz 1, iz 0]))) 10 208,
 .vec (ap [iz 1, iz 1, iz 1] (rp 24 [iz 0, .bl false, iz 0, iz 0, iz 0] (ap [iz 1] (rp 60 [.bl false, iz 0, iz 0, iz 0, iz 0] ([.bl false]))))) 5 158,
 .vec (ap [iz 1, .bl true] (rp 4 [iz 0] (ap [.bl false, iz 0, iz 0, iz 0, iz 4] (rp 8 [.bl false, iz 0, iz 0, iz 0, iz 0, .bl false, iz 0, iz 0, iz 0, iz 0, .bl false, iz 0, iz 0, iz 0, iz 0, .bl false, iz 0, iz 0, iz 0, iz 0, .bl false, iz 0, iz 0, iz 0, iz 0, .bl false, iz 0, iz 0, iz 0, iz 0, .bl false, iz 0, iz 0, iz 0, iz 0, .bl false, iz 0, iz 0, iz 0, iz 0, .bl false, iz 0, .bl false, iz 0, iz 0, iz 0, iz 0, .bl false, iz 0, iz 0, iz 0, iz 0] (rp 8 [.bl false, iz 0, iz 0, iz 0, iz 0] ([.bl false])))))) 52 299,
 .vec ([iz 9, iz 8, iz 7, iz 6, iz 5, iz 4, iz 3, iz 2, iz 1]) 1 3,
 .cells (ap [iz 1, iz 2, .ptr 23 0, iz 0, iz 11] (rp 7 [iz 0] (rp 2 [.bl false, iz 0, iz 0, iz 0, iz 0] (rp 4 [iz 0] ([.inil, iz 0, iz 0]))))) 282,
 .vec ([iz 1, iz 0, iz 4, iz 0]) 4 36,
 .cells (rp 8 [iz 0] (rp 2 [.bl false, iz 0, iz 0, iz 0, iz 0] (rp 9 [iz 0] (rp 3 [.bl false, iz 0, iz 0, iz 0, iz 0] (ap [.bl false, iz 0, .snil, .snil, iz 2, iz 0, iz 1, iz 2] (rp 9 [iz 0, iz 0, iz 0, iz 0, .bl false] (ap [.bl false, iz 0, iz 0, .snil] (rp 5 [iz 0] ([.bl false, .bl true]))))))))) 328]
def sn_scan2 : List (Chunk AV) := []
def sl_scan3 : List (Chunk AV) := [.cells ([iz 1, .ptr 15 0, .vs 16 0 1 4 (true), .vs 17 0 5 10 (true)]) 215,
 .cells ([.vs 18 0 85 5 (true), .vs 19 0 9 52 (true), .vs 20 0 8 1 (true), iz 33, iz 1, .inil]) 219,
 .vec ([.ptr 21 0, sfQ 22, iz 1, iz 4]) 4 224,
 .vec (ap [iz 0, .bl true, iz 1, iz 0, iz 4] (rp 4 [iz 0, .bl true, .bl false, iz 0, iz 0, iz 0, .bl false, iz 0, iz 0, iz 0] ([iz 0, .bl true, .bl true, iz 1, iz 0]))) 10 208,
 .vec (ap [iz 1, iz 1, iz 1] (rp 24 [iz 0, .bl false, iz 0, iz 0, iz 0] (ap [iz 1] (rp 60 [.bl false, iz 0, iz 0, iz 0, iz 0] ([.bl false]))))) 5 158,
 .vec (ap [iz 1, .bl true] (rp 4 [iz 0] (ap [.bl false, iz 0, iz 0, iz 0, iz 4] (rp 8 [.bl false, iz 0, iz 0, iz 0, iz 0, .bl false, iz 0, iz 0, iz 0, iz 0, .bl false, iz 0, iz 0, iz 0, iz 0, .bl false, iz 0, iz 0, iz 0, iz 0, .bl false, iz 0, iz 0, iz 0, iz 0, .bl false, iz 0, iz 0, iz 0, iz 0, .bl false, iz 0, iz 0, iz 0, iz 0, .bl false, iz 0, iz 0, iz 0, iz 0, .bl false, iz 0, .bl false, iz 0, iz 0, iz 0, iz 0, .bl false, iz 0, iz 0, iz 0, iz 0] (rp 8 [.bl false, iz 0, iz 0, iz 0, iz 0] ([.bl false])))))) 52 299,
 .vec ([iz 9, iz 8, iz 7, iz 6, iz 5, iz 4, iz 3, iz 2, iz 1]) 1 3,
 .cells (ap [iz 1, iz 2, .ptr 23 0, iz 0, iz 11] (rp 7 [iz 0] (rp 2 [.bl false, iz 0, iz 0, iz 0, iz 0] (rp 4 [iz 0] ([.inil, iz 0, iz 0]))))) 282,
 .vec ([iz 1, iz 0, iz 4, iz 0]) 4 36,
 .cells (rp 8 [iz 0] (rp 2 [.bl false, iz 0, iz 0, iz 0, iz 0] (rp 9 [iz 0] (rp 3 [.bl false, iz 0, iz 0, iz 0, iz 0] (ap [.bl false, iz 0, .snil, .snil, iz 2, iz 0, iz 1, iz 2] (rp 9 [iz 0, iz 0, iz 0, iz 0, .bl false] (ap [.bl false, iz 0, iz 0, .snil] (rp 5 [iz 0] ([.bl false, .bl true]))))))))) 328]
def sn_scan3 : List (Chunk AV) := []
def sl_look : List (Chunk AV) := [.cells ([iz 1, .ptr 15 0, .vs 16 0 1 4 (true), .vs 17 0 5 10 (true)]) 215,
 .cells ([.vs 18 0 85 5 (true), .vs 19 0 9 52 (true), .vs 20 0 8 1 (true), iz 33, iz 1, .inil]) 219,
 .vec ([.ptr 21 0, sfQ 22, iz 1, iz 4]) 4 224,
 .vec (ap [iz 0, .bl true, iz 1, iz 0, iz 4] (rp 4 [iz 0, .bl true, .bl false, iz 0, iz 0, iz 0, .bl false, iz 0, iz 0, iz 0] ([iz 0, .bl true, .bl true, iz 1, iz 0]))) 10 208,
 .vec (ap [iz 1, iz 1, iz 1] (rp 24 [iz 0, .bl false, iz 0, iz 0, iz 0] (ap [iz 1] (rp 60 [.bl false, iz 0, iz 0, iz 0, iz 0] ([.bl false]))))) 5 158,
 .vec (ap [iz 1, .bl true] (rp 4 [iz 0] (ap [.bl false, iz 0, iz 0, iz 0, iz 4] (rp 8 [.bl false, iz 0, iz 0, iz 0, iz 0, .bl false, iz 0, iz 0, iz 0, iz 0, .bl false, iz 0, iz 0, iz 0, iz 0, .bl false, iz 0, iz 0, iz 0, iz 0, .bl false, iz 0, iz 0, iz 0, iz 0, .bl false, iz 0, iz 0, iz 0, iz 0, .bl false, iz 0, iz 0, iz 0, iz 0, .bl false, iz 0, iz 0, iz 0, iz 0, .bl false, iz 0, .bl false, iz 0, iz 0, iz 0, iz 0, .bl false, iz 0, iz 0, iz 0, iz 0] (rp 8 [.bl false, iz 0, iz 0, iz 0, iz 0] ([.bl false])))))) 52 299,
 .vec ([iz 9, iz 8, iz 7, iz 6, iz 5, iz 4, iz 3, iz 2, iz 1]) 1 3,
 .cells (ap [iz 1, iz 2, .ptr 23 0, iz 0, iz 11] (rp 7 [iz 0] (rp 2 [.bl false, iz 0, iz 0, iz 0, iz 0] (rp 4 [iz 0] ([.inil, iz 0, iz 0]))))) 282,
 .vec ([iz 1, iz 0, iz 4, iz 0]) 4 36,
 .cells (rp 8 [iz 0] (rp 2 [.bl false, iz 0, iz 0, iz 0, iz 0] (rp 9 [iz 0] (rp 3 [.bl false, iz 0, iz 0, iz 0, iz 0] (ap [.bl false, iz 0, .snil, .snil, iz 2, iz 0, iz 1, iz 2] (rp 9 [iz 0, iz 0, iz 0, iz 0, .bl false] (ap [.bl false, iz 0, iz 0, .snil] (rp 5 [iz 0] ([.bl false, .bl true]))))))))) 328]
def sn_look : List (Chunk AV) := []
end Go.Proofs.YthdmoahfeimdaaaGreatDoor

namespace Go.Proofs.YthdmoahfeimdaaaGreatDoor
open Go Go.Sx Go.Proofs
set_option linter.unusedVariables false
set_option maxRecDepth 100000
theorem run_begin (σ : Sg) : (runC noLp σ tabA 60 (mkF 60) [sc] ([tk])).val = some (stV (.tup [.c (.ptr 15 0), .c (.inil)], hpC (mkF 60) (sl_begin ++ sn_begin))) := by kernel_rfl
theorem ctr_begin (σ : Sg) : Ctr Tryz.prog (NV σ) 60 [sc] (hpC (mkF 60) ([tk])) (.tup [.c (.ptr 15 0), .c (.inil)]) (hpC (mkF 60) (sl_begin ++ sn_begin)) := runC_ctr lpsV tabA_ok (mkF_len _) (run_begin σ) (by rintro ⟨⟩)
def kr_begin : Kr := ⟨[sc], [tk], .tup [.c (.ptr 15 0), .c (.inil)], sl_begin, sn_begin⟩
end Go.Proofs.YthdmoahfeimdaaaGreatDoor

namespace Go.Proofs.YthdmoahfeimdaaaGreatDoor
open Go Go.Sx Go.Proofs
set_option linter.unusedVariables false
set_option maxRecDepth 100000
theorem run_finish (σ : Sg) : (runC noLp σ tabA 62 (mkF 62) [.v (.c (.ptr 14 0))] (st_k0)).val = some (stV (.v (.c (.inil)), hpC (mkF 62) (sl_finish ++ sn_finish))) := by kernel_rfl
theorem ctr_finish (σ : Sg) : Ctr Tryz.prog (NV σ) 62 [.v (.c (.ptr 14 0))] (hpC (mkF 62) (st_k0)) (.v (.c (.inil))) (hpC (mkF 62) (sl_finish ++ sn_finish)) := runC_ctr lpsV tabA_ok (mkF_len _) (run_finish σ) (by rintro ⟨⟩)
def kr_finish : Kr := ⟨[.v (.c (.ptr 14 0))], st_k0, .v (.c (.inil)), sl_finish, sn_finish⟩
end Go.Proofs.YthdmoahfeimdaaaGreatDoor

namespace Go.Proofs.YthdmoahfeimdaaaGreatDoor
open Go Go.Sx Go.Proofs
set_option linter.unusedVariables false
set_option maxRecDepth 100000
theorem run_scan1 (σ : Sg) : (runC noLp σ tabA 65 (mkF 65) [.v (.c (.ptr 14 0)), .v (.c (.il .i64 0))] (st_k1)).val = some (stV (.v (.c (.inil)), hpC (mkF 65) (sl_scan1 ++ sn_scan1))) := by kernel_rfl
theorem ctr_scan1 (σ : Sg) : Ctr Tryz.prog (NV σ) 65 [.v (.c (.ptr 14 0)), .v (.c (.il .i64 0))] (hpC (mkF 65) (st_k1)) (.v (.c (.inil))) (hpC (mkF 65) (sl_scan1 ++ sn_scan1)) := runC_ctr lpsV tabA_ok (mkF_len _) (run_scan1 σ) (by rintro ⟨⟩)
def kr_scan1 : Kr := ⟨[.v (.c (.ptr 14 0)), .v (.c (.il .i64 0))], st_k1, .v (.c (.inil)), sl_scan1, sn_scan1⟩
end Go.Proofs.YthdmoahfeimdaaaGreatDoor

namespace Go.Proofs.YthdmoahfeimdaaaGreatDoor
open Go Go.Sx Go.Proofs
set_option linter.unusedVariables false
set_option maxRecDepth 100000
theorem run_scan2 (σ : Sg) : (runC noLp σ tabA 65 (mkF 65) [.v (.c (.ptr 14 0)), .v (.c (.il .i64 0))] (st_k2)).val = some (stV (.v (.c (.inil)), hpC (mkF 65) (sl_scan2 ++ sn_scan2))) := by kernel_rfl
theorem ctr_scan2 (σ : Sg) : Ctr Tryz.prog (NV σ) 65 [.v (.c (.ptr 14 0)), .v (.c (.il .i64 0))] (hpC (mkF 65) (st_k2)) (.v (.c (.inil))) (hpC (mkF 65) (sl_scan2 ++ sn_scan2)) := runC_ctr lpsV tabA_ok (mkF_len _) (run_scan2 σ) (by rintro ⟨⟩)
def kr_scan2 : Kr := ⟨[.v (.c (.ptr 14 0)), .v (.c (.il .i64 0))], st_k2, .v (.c (.inil)), sl_scan2, sn_scan2⟩
end Go.Proofs.YthdmoahfeimdaaaGreatDoor

namespace Go.Proofs.YthdmoahfeimdaaaGreatDoor
open Go Go.Sx Go.Proofs
set_option linter.unusedVariables false
set_option maxRecDepth 100000
theorem run_scan3 (σ : Sg) : (runC noLp σ tabA 65 (mkF 65) [.v (.c (.ptr 14 0)), .v (.c (.il .i64 0))] (st_k3)).val = some (stV (.v (.c (.inil)), hpC (mkF 65) (sl_scan3 ++ sn_scan3))) := by kernel_rfl
theorem ctr_scan3 (σ : Sg) : Ctr Tryz.prog (NV σ) 65 [.v (.c (.ptr 14 0)), .v (.c (.il .i64 0))] (hpC (mkF 65) (st_k3)) (.v (.c (.inil))) (hpC (mkF 65) (sl_scan3 ++ sn_scan3)) := runC_ctr lpsV tabA_ok (mkF_len _) (run_scan3 σ) (by rintro ⟨⟩)
def kr_scan3 : Kr := ⟨[.v (.c (.ptr 14 0)), .v (.c (.il .i64 0))], st_k3, .v (.c (.inil)), sl_scan3, sn_scan3⟩
end Go.Proofs.YthdmoahfeimdaaaGreatDoor

namespace Go.Proofs.YthdmoahfeimdaaaGreatDoor
open Go Go.Sx Go.Proofs
set_option linter.unusedVariables false
set_option maxRecDepth 100000
theorem run_look (σ : Sg) : (runC noLp σ tabA 66 (mkF 66) [.v (.c (.ptr 14 0))] (st_k4)).val = some (stV (.tup [.agg ([iz 1, iz 0, iz 1, iz 0]), .c (.inil)], hpC (mkF 66) (sl_look ++ sn_look))) := by kernel_rfl
theorem ctr_look (σ : Sg) : Ctr Tryz.prog (NV σ) 66 [.v (.c (.ptr 14 0))] (hpC (mkF 66) (st_k4)) (.tup [.agg ([iz 1, iz 0, iz 1, iz 0]), .c (.inil)]) (hpC (mkF 66) (sl_look ++ sn_look)) := runC_ctr lpsV tabA_ok (mkF_len _) (run_look σ) (by rintro ⟨⟩)
def kr_look : Kr := ⟨[.v (.c (.ptr 14 0))], st_k4, .tup [.agg ([iz 1, iz 0, iz 1, iz 0]), .c (.inil)], sl_look, sn_look⟩
end Go.Proofs.YthdmoahfeimdaaaGreatDoor

namespace Go.Proofs.YthdmoahfeimdaaaGreatDoor
open Go Go.Sx Go.Proofs
set_option linter.unusedVariables false
set_option maxRecDepth 100000
variable {σ : Sg} {lp : Lp}
theorem ctr_lp {lp' : Lp} {f : FuncId} {args : List SV} {H H' : Hp AV} {v : SV} (h : Ctr Tryz.prog (NVl lp σ) f args H v H') : Ctr Tryz.prog (NVl lp' σ) f args H v H' := by
 obtain ⟨h1, h2, h3⟩ := h
 refine ⟨h1, ⟨h2.1, trivial⟩, fun ρ w hO => (h3 ρ w (own_env (N := NVl lp' σ) (N' := NVl lp σ) rfl rfl hO)).mono ?_⟩
 rintro e w' ⟨ρ', he, o, ev⟩
 exact ⟨ρ', he, own_env (N := NVl lp σ) (N' := NVl lp' σ) rfl rfl o, evo_env (NVl lp' σ) ev⟩
theorem krOne {f : FuncId} {k : Kr} (h : Ctr Tryz.prog (NV σ) f k.args (hpC (mkF f) k.l) k.v (hpC (mkF f) (k.l' ++ k.nw))) : FnOk Tryz.prog (NVl lp σ) f (krG (mkF f) [k]) :=
 krG_ok (mkF_len _) fun k' hk => by rw [List.mem_singleton.1 hk]; exact ctr_lp h
noncomputable def tabY : Tab := tabAdd 60 (krG (mkF 60) [kr_begin]) (tabAdd 62 (krG (mkF 62) [kr_finish])
 (tabAdd 65 (krG (mkF 65) [kr_scan1, kr_scan2, kr_scan3]) (tabAdd 66 (krG (mkF 66) [kr_look]) tabA)))
theorem tabY_ok : TabOk Tryz.prog (NVl lp σ) tabY :=
 tabAdd_ok (krOne (ctr_begin σ)) (tabAdd_ok (krOne (ctr_finish σ)) (tabAdd_ok (krG_ok (mkF_len _) fun k hk => by
  simp only [List.mem_cons, List.not_mem_nil, or_false] at hk
  rcases hk with rfl | rfl | rfl
  ·exact ctr_lp (ctr_scan1 σ)
  ·exact ctr_lp (ctr_scan2 σ)
  ·exact ctr_lp (ctr_scan3 σ)) (tabAdd_ok (krOne (ctr_look σ)) tabA_ok)))
def repY : SV := .tup [.agg [.vs 15 0 1 10 true, .vs 16 0 1 1 true, .snil, iz 1, iz 0, iz 1, iz 0, iz 6, iz 0], .c .inil]
def slY : List (Chunk AV) := [.vec [iz 0, iz 1, iz 0, iz 4, iz 0] 5 123]
def snY : List (Chunk AV) := [.vec [iz 0, iz 1, iz 0, iz 4, iz 0, iz 1, iz 0, iz 0, iz 1, .bl true] 10 38, .vec [iz 4] 1 3]
theorem run_yard (σ : Sg) : (runC noLp σ tabY 22 (mkF 22) [sc] [tk]).val = some (stV (repY, hpC (mkF 22) (slY ++ snY))) := by kernel_rfl
def kr_yard : Kr := ⟨[sc], [tk], repY, slY, snY⟩
theorem ctr_yard (σ : Sg) : Ctr Tryz.prog (NV σ) 22 [sc] (hpC (mkF 22) [tk]) repY (hpC (mkF 22) (slY ++ snY)) := runC_ctr lpsV tabY_ok (mkF_len _) (run_yard σ) (by rintro ⟨⟩)
noncomputable def tabZ : Tab := tabAdd 22 (krG (mkF 22) [kr_yard]) tabA
theorem tabZ_ok : TabOk Tryz.prog (NVl lp σ) tabZ := tabAdd_ok (krOne (ctr_yard σ)) tabA_ok
end Go.Proofs.YthdmoahfeimdaaaGreatDoor

namespace Go.Proofs.YthdmoahfeimdaaaGreatDoor
open Go Go.Sx Go.Proofs Go.RowKit
set_option linter.unusedVariables false
set_option maxRecDepth 100000
theorem is_idle (p : Addr) (w : World) :
 CallsD Tryz.prog 38 #[.pointer (some p)] .returning w fun e u' w' => e = .returned (.tuple #[]) /\ u' = .returning /\ w' = w := by
 refine callsD_of_wpS Tryz.func38 rfl fun c₀ cs hu => ?_
 apply wpS_seq
 apply wpS_region
 simp [wpOpsS, go_sem, recoverD, hu, Tryz.ntmps38, Exit.thenS]
 refine wpS_cond (t := false) (by simp [Act.eval, Array.replicate]) ?_
 simp only [Bool.false_eq_true, if_false]
 refine wpS_of_wp (wp_skip ?_)
 cases c₀
 simp_all [bodyPostS, results, Tryz.results38]
theorem below_alloc (w : World) (o : Obj) : Below w.heap.size w (w.alloc o) := Below.alloc (Below.refl w.heap.size w) (Nat.le_refl _) o
theorem woe_is (x y : Value) (b : Bool) (w : World) (h : ∀ w1, Below w.heap.size w w1 -> Calls Tryz.prog 39 #[x, y] w1 fun e w' => e = .returned (.bool b) /\ w' = w1) :
 Calls Tryz.prog 23 #[x, y] w fun e w' => e = .returned (.bool b) /\ Below w.heap.size w w' := by
 have hmf : ∀ (fn : Fn) (first cap : Array Value) (w : World), (Instr.makeFunc fn first cap).run Tryz.prog w = .ok (.func fn first cap) w := fun _ _ _ _ => rfl
 go_enter_defers Tryz.func23, Tryz.ntmps23
 go_wp2_with (go_at_call 39; refine (h _ (below_alloc w _)).mono ?_; rintro e w1 ⟨rfl, rfl⟩; refine Hid.out ?_)
 refine Lib.hid ?_
 go_wp2
 refine leaves_cons (f := 38) (args := #[.pointer (some ⟨w.heap.size, 0, none⟩)]) (by simp) (by simp [go_sem]) ?_
 refine (is_idle ⟨w.heap.size, 0, none⟩ _).mono ?_
 rintro e u' w'' ⟨rfl, rfl, rfl⟩
 simp [Leaves, settle, results, Tryz.results23, go_sem]
 exact below_alloc w _
def SentR (σ : Sg) : Prop := ∀ i j, sentTx i = none -> sentTx j = none -> i < 14 -> j < 14 -> i ≠ j -> σ i ≠ σ j /\ (∃ c t, σ.R (σ i).block = some (.cells c t (0, 0))) /\ ∃ c t, σ.R (σ j).block = some (.cells c t (0, 0))
def sumWi (σ : Sg) : List SV -> Hp AV -> T (SV × Hp AV)
 | [.v (.c (.ifc te (.op i a))), .v (.c (.ifc tt (.op j b)))], H => match Nat.beq te 386, Nat.beq tt 386, Nat.beq i j with
   | true, true, true => .need (decide (a = b)) (.leaf (.v (.c (.bl true)), H))
   | true, true, false => match Sx.isS (sentTx i), Sx.isS (sentTx j), Nat.blt i 14, Nat.blt j 14 with
     | false, false, true, true => .need (decide (a = σ i /\ b = σ j)) (.leaf (.v (.c (.bl false)), H))
     | _, _, _, _ => .fail "is"
   | _, _, _ => .fail "is"
 | _, _ => .fail "is"
variable {σ : Sg} {lp : Lp}
theorem isS_none {α : Type} {x : Option α} (h : Sx.isS x = false) : x = none := by cases x <;> first | rfl | cases h
theorem plB (b : Bool) : Plain (.v (.c (.bl b))) := by intro c hc; simp [V1.cells] at hc; subst hc; rfl
theorem wi_ok (hs : SentR σ) : FnOk Tryz.prog (NVl lp σ) 23 (sumWi σ) := by
 refine fnOk_still fun args H v H' h => ?_
 unfold sumWi at h
 split at h
 ·rename_i te i a tt j b
  split at h
  ·rename_i h1 h2 h3
   have h1 := (beq_iff _ _).1 h1
   have h2 := (beq_iff _ _).1 h2
   subst h1 h2
   obtain ⟨hab, h⟩ := need_val h
   have hab := of_decide_eq_true hab
   subst hab
   simp only [T.val, Option.some.injEq, Prod.mk.injEq] at h
   obtain ⟨rfl, rfl⟩ := h
   exact ⟨rfl, plB _, fun ρ w _ => woe_is _ _ true w fun w1 _ => is_same a w1⟩
  ·rename_i h1 h2 h3
   have h1 := (beq_iff _ _).1 h1
   have h2 := (beq_iff _ _).1 h2
   subst h1 h2
   split at h
   ·rename_i g1 g2 g3 g4
    obtain ⟨hab, h⟩ := need_val h
    obtain ⟨rfl, rfl⟩ := of_decide_eq_true hab
    simp only [T.val, Option.some.injEq, Prod.mk.injEq] at h
    obtain ⟨rfl, rfl⟩ := h
    have hij : i ≠ j := fun e => by subst e; rw [(beq_iff _ _).2 rfl] at h3; cases h3
    obtain ⟨hne, ⟨ci, ti, hi⟩, cj, tj, hj⟩ := hs i j (isS_none g1) (isS_none g2) (by simpa [Nat.blt_eq] using g3) (by simpa [Nat.blt_eq] using g4) hij
    refine ⟨rfl, plB _, fun ρ w hO => woe_is _ _ false w fun w1 hb => ?_⟩
    have hhas : σ.has w := hO.ro.1
    have ki := hhas _ _ hi
    have kj := hhas _ _ hj
    have lt := fun {k : Nat} {o : Obj} (h : w.heap[k]? = some o) => (Array.getElem?_eq_some_iff.1 h).1
    exact is_other _ _ ci cj ti tj w1 hne (by rw [hb.block _ (lt ki)]; exact ki) (by rw [hb.block _ (lt kj)]; exact kj)
   ·simp [T.val] at h
  ·simp [T.val] at h
 ·simp [T.val] at h
noncomputable def tabW (σ : Sg) : Tab := tabAdd 23 (sumWi σ) tabZ
theorem tabW_ok (hs : SentR σ) : TabOk Tryz.prog (NVl lp σ) (tabW σ) := tabAdd_ok (wi_ok hs) tabZ_ok
end Go.Proofs.YthdmoahfeimdaaaGreatDoor

namespace Go.Proofs.YthdmoahfeimdaaaGreatDoor
open Go Go.Sx Go.Proofs
set_option linter.unusedVariables false
variable {σ : Sg} {lp : Lp}
theorem q_arr {a : AV} {es : Nat} {ty : TypeId} {vs : List Value} (h : a.arr = some (es, ty, vs)) (l : Sx.Loc) (S : Nat -> Prop) (w : World) : (NVl lp σ).F.q a l S w ↔ vecQ l S vs es ty w :=
 ((NVl lp σ).F.arr_q a es ty vs h).2 l S w
def pkK {α : Type} (K : AK α) (mk : List α -> AV) (l : List Cell) (es : Nat) (ty : TypeId) : Option AV := match Nat.beq ty K.ty, Nat.beq es K.es with
 | true, true => match K.decs (l.length / K.es) l with | some r => some (mk r) | none => none
 | _, _ => none
theorem pkK_ok {α : Type} {K : AK α} {mk : List α -> AV} (hq : ∀ rs l S w, (NVl lp σ).F.q (mk rs) l S w ↔ vecQ l S (K.vals rs) K.es K.ty w) {l : List Cell} {es : Nat} {ty : TypeId} {a : AV} (h : pkK K mk l es ty = some a) (π : Nat -> Nat) : Lesser (NVl lp σ) (.vec (l.map (Cell.ren π)) es ty) (.abs a) := by
 unfold pkK at h
 split at h
 ·rename_i h1 h2
  split at h
  ·rename_i rs hr
   cases h
   have h1 := (beq_iff _ _).1 h1
   have h2 := (beq_iff _ _).1 h2
   subst h1 h2
   obtain ⟨g1, g2⟩ := K.decs_ok hr
   have el : l.map (Cell.ren π) = l := by
    conv => rhs; rw [<- List.map_id l]
    exact List.map_congr_left fun c hc => ren_id c fun n hn => by rw [g2 c hc] at hn; cases hn
   rw [el]
   intro ρ n w
   refine ⟨fun hv => (hq _ _ _ _).2 ?_, fun k => Iff.rfl⟩
   have hv : vecQ (ρ.L n) (ρ.S n) (denL ρ l) K.es K.ty w := hv
   rw [g1, names_den g2 Nm.id ρ]
   exact hv
  ·cases h
 ·cases h
def pkW : Chunk AV -> Option AV
 | .vec l es ty => pkK kstrs .strs l es ty
 | _ => none
theorem pkW_ok : ∀ d a, pkW d = some a -> ∀ π, Lesser (NVl lp σ) (d.ren π) (.abs a) := fun d a h π => by
 cases d with
 | vec l es ty => exact pkK_ok (fun rs => q_arr rfl) h π
 | _ => cases h
def loopAt (id : Nat) : List (Nat × Code) -> Code
 | [] => .skip
 | (k, c) :: r => match Nat.beq k id with | true => c | false => loopAt id r
noncomputable def bodyOf (fn : Func) : Code := match fn.body with | some c => c | none => .skip
theorem loopOk_env {P : Program} {N N' : Env AV} (hF : N'.F = N.F) (hG : N'.G = N.G) {nt : Nat} {c : Code} {g : St AV -> T (Ex × St AV)} (h : LoopOk P N nt c g) : LoopOk P N' nt c g := by
 intro L s s' ex hg hcl hL
 obtain ⟨h1, h2, h3⟩ := h L s s' ex hg (closed_env N hcl) hL
 refine ⟨closed_env N' h1, h2, fun {ρ a w} hat => ?_⟩
 refine wp_mono (h3 ⟨hat.em, own_env hF.symm hG.symm hat.own⟩) ?_
 rintro e a' w' ⟨he, ⟨ρ', e1, o1, v1⟩, d1⟩
 exact ⟨he, ⟨ρ', e1, own_env hF hG o1, evo_env N' v1⟩, d1⟩
def lpAdd (f id : Nat) (g : St AV -> T (Ex × St AV)) (lp : Lp) : Lp := fun f' => match Nat.beq f' f with
 | true => fun id' => match Nat.beq id' id with
   | true => some g
   | false => lp f' id'
 | false => lp f'
theorem lpsAdd {f id : Nat} {g : St AV -> T (Ex × St AV)} {lp : Lp} (h : LpsOk Tryz.prog (NVl lp σ)) {fn : Func} (hf : ft.get f = some fn) {c : Code} (hc : fn.body = some c) {nt : Nat} (hnt : fn.ntmps = nt) {b : Code} (hb : ∀ x ∈ loopsOf c, x.1 = id -> x.2 = b) (hg : LoopOk Tryz.prog (NVl lp σ) nt b g) : LpsOk Tryz.prog (NVl (lpAdd f id g lp) σ) := by
 intro f' fn' c' hf' hc' id' b' hb' g' hg'
 have hg' : lpAdd f id g lp f' id' = some g' := hg'
 have old : lp f' id' = some g' -> LoopOk Tryz.prog (NVl (lpAdd f id g lp) σ) fn'.ntmps b' g' := fun h1 => loopOk_env (N := NVl lp σ) (N' := NVl (lpAdd f id g lp) σ) rfl rfl (h f' fn' c' hf' hc' id' b' hb' g' h1)
 by_cases e : f' = f
 ·subst e
  by_cases e2 : id' = id
  ·subst e2
   have hg' : (match Nat.beq f' f' with
    | true => fun id => match Nat.beq id id' with
      | true => some g
      | false => lp f' id
    | false => lp f') id' = some g' := hg'
   simp only [Nat.beq_refl] at hg'
   cases hg'
   have hf' : ft.get f' = some fn' := hf'
   rw [hf] at hf'
   cases hf'
   rw [hc] at hc'
   cases hc'
   have hbb : b' = b := hb _ hb' rfl
   rw [hnt, hbb]
   exact loopOk_env (N := NVl lp σ) (N' := NVl (lpAdd f' id' g lp) σ) rfl rfl hg
  ·refine old ?_
   have hg' : (match Nat.beq f' f' with
    | true => fun id' => match Nat.beq id' id with
      | true => some g
      | false => lp f' id'
    | false => lp f') id' = some g' := hg'
   simp only [Nat.beq_refl, (beq_false_iff _ _).2 e2] at hg'
   exact hg'
 ·refine old ?_
  have hg' : (match Nat.beq f' f with
   | true => fun id' => match Nat.beq id' id with
     | true => some g
     | false => lp f' id'
   | false => lp f') id' = some g' := hg'
  simp only [(beq_false_iff _ _).2 e] at hg'
  exact hg'
def oneLoop (id : Nat) : List (Nat × Code) -> Bool
 | [] => true
 | (k, c) :: r => match Nat.beq k id with
   | true => match hasN (r.map Prod.fst) id with | true => false | false => true
   | false => oneLoop id r
theorem oneLoop_spec {id : Nat} : ∀ {l : List (Nat × Code)}, oneLoop id l = true -> ∀ x ∈ l, x.1 = id -> x.2 = loopAt id l
 | [], _, x, h, _ => by cases h
 | (k, c) :: r, h, x, hx, he => by
   simp only [oneLoop] at h
   show x.2 = match Nat.beq k id with | true => c | false => loopAt id r
   cases hk : Nat.beq k id with
   | true =>
     rw [hk] at h
     have hk := (beq_iff _ _).1 hk
     simp only at h ⊢
     split at h
     ·cases h
     ·rename_i hn
      rcases List.mem_cons.1 hx with rfl | hx
      ·rfl
      ·exfalso
       have : id ∈ r.map Prod.fst := List.mem_map.2 ⟨x, hx, he⟩
       rw [(hasN_iff _ _).2 this] at hn
       cases hn
   | false =>
     rw [hk] at h
     simp only at h ⊢
     rcases List.mem_cons.1 hx with rfl | hx
     ·exact absurd he ((beq_false_iff _ _).1 hk)
     ·exact oneLoop_spec h x hx he
theorem nv {α : Type} {b : Bool} {t : T α} (h : b = true) : (T.need b t).val = t.val := by subst h; rfl
theorem ivT {α : Type} {c : Bool} {t u : T α} (h : c = true) : (T.ite c t u).val = t.val := by subst h; rfl
theorem ivF {α : Type} {c : Bool} {t u : T α} (h : c = false) : (T.ite c t u).val = u.val := by subst h; rfl
theorem enter_pack {N : Env AV} {nt : Nat} {E E' : Ev} {H : Hp AV} {ks : List Nat} {n : Nat} {c c' : Chunk AV} (hn : hget H n = some c) (hl : Lesser N c c') (hcc : c'.cellsOf = [])
 (hE : ∀ k ∈ ks, Sx.look E' k = Sx.look E k \/ (Sx.look E k ≠ .unk /\ ClV H (Sx.look E' k) /\ ∀ ρ, (Sx.look E' k).den ρ = (Sx.look E k).den ρ)) : Enter N nt { E := E, H := H } { E := only ks E' nt, H := lset H n (some c') } := fun hc => by
 have hlt := hget_lt hn
 have get : ∀ m, hget (lset H n (some c')) m = if m = n then some c' else hget H m := fun m => by
  by_cases h2 : m = n
  ·subst h2; rw [if_pos rfl, hget_lset_self _ hlt]
  ·rw [if_neg h2, hget_lset_ne _ fun e => h2 e.symm]
 have pers : ∀ m d, hget H m = some d -> ∃ d', hget (lset H n (some c')) m = some d' := fun m d h => by
  rw [get]
  by_cases h2 : m = n
  ·rw [if_pos h2]; exact ⟨_, rfl⟩
  ·rw [if_neg h2]; exact ⟨d, h⟩
 have src : ∀ m d, hget (lset H n (some c')) m = some d -> ∃ d', hget H m = some d' /\ (∀ ρ w, d'.q N ρ m w -> d.q N ρ m w) /\ ∀ ρ k, d.fp ρ m k ↔ d'.fp ρ m k := fun m d h => by
  rw [get] at h
  split at h
  ·rename_i e
   subst e
   cases h
   exact ⟨_, hn, fun ρ w hq => (hl ρ m w).1 hq, fun ρ k => (hl ρ m default).2 k⟩
  ·exact ⟨d, h, fun _ _ h => h, fun _ _ => Iff.rfl⟩
 refine ⟨⟨fun k => ?_, fun m x hx => ?_⟩, by show H.length <= (lset H n _).length; rw [length_lset]; exact Nat.le_refl _, fun ρ a w hat => ⟨ρ, ⟨⟨hat.em.size, fun k hk => ?_⟩, ?_⟩, ⟨pers, fun _ _ _ => rfl, fun m hm h => ?_, by show H.length <= (lset H n _).length; rw [length_lset]; exact Nat.le_refl _, fun _ _ _ => rfl, fun m d k h hk => ?_, rfl, rfl, rfl, Nat.le_refl _⟩⟩⟩
 ·show ClV (lset H n (some c')) (Sx.look (only ks E' nt) k)
  simp only [only_look]
  split
  ·cases hh : hasN ks k with
   | false => trivial
   | true =>
     rcases hE k ((hasN_iff _ _).1 hh) with e | ⟨_, e, _⟩
     ·simp only [e]; exact (hc.E k).mono fun m d h => pers m d h
     ·exact e.mono fun m d h => pers m d h
  ·exact undef_cl _
 ·have hx' : hget (lset H n (some c')) m = some x := hx
  clear hx
  rw [get] at hx'
  split at hx'
  ·cases hx'
   intro d hd; rw [hcc] at hd; cases hd
  ·exact (hc.H m x hx').mono fun m d h => pers m d h
 ·have hk : Sx.look (only ks E' nt) k ≠ .unk := hk
  show a.tmps.getD k undef = (Sx.look (only ks E' nt) k).den ρ
  simp only [only_look] at hk ⊢
  split
  ·rename_i hkn
   rw [if_pos hkn] at hk
   cases hh : hasN ks k with
   | false => rw [hh] at hk; exact absurd rfl hk
   | true =>
     rw [hh] at hk
     simp only at hk ⊢
     rcases hE k ((hasN_iff _ _).1 hh) with e | ⟨e0, _, e⟩
     ·rw [e] at hk ⊢; exact hat.em.get k hk
     ·rw [e ρ]; exact hat.em.get k e0
  ·rename_i hkn
   have : nt <= k := by omega
   rw [Array.getD_eq_getD_getElem?, Array.getElem?_eq_none (by rw [hat.em.size]; exact this)]
   rfl
 ·refine hat.own.sub ⟨fun m d h => ?_, fun m m' d d' hne h h' k hk hk' => ?_, hat.own.glb⟩ fun m d k h hk => ?_
  ·obtain ⟨d', h1, h2, _⟩ := src m d h
   exact h2 ρ w (hat.own.q m d' h1)
  ·obtain ⟨e, h1, _, h3⟩ := src m d h
   obtain ⟨e', g1, _, g3⟩ := src m' d' h'
   exact hat.own.dis m m' e e' hne h1 g1 k ((h3 ρ k).1 hk) ((g3 ρ k).1 hk')
  ·obtain ⟨e, h1, _, h3⟩ := src m d h
   exact ⟨m, e, h1, (h3 ρ k).1 hk⟩
 ·have h : hget H m = none := h
  show hget (lset H n _) m = none
  rw [get]
  split
  ·rename_i e; subst e; rw [h] at hn; cases hn
  ·exact h
 ·obtain ⟨e, h1, _, h3⟩ := src m d h
  exact .inr ⟨m, e, h1, (h3 ρ k).1 hk⟩
theorem plainIl (k : IntKind) (n : Int) : Plain (.v (.c (.it k n))) := fun c hc => by
 simp [V1.cells] at hc; subst hc; rfl
theorem wrapI {m : Int} (h : -9223372036854775808 <= m /\ m <= 9223372036854775807) : IntKind.wrap .i64 m = m := by
 unfold IntKind.wrap
 simp only [IntKind.bits, IntKind.signed]
 first | omega | (simp; omega)
theorem wrapS {n : Nat} (h : n < 1000000000) : IntKind.wrap .i64 ((n : Int) + 1) = ((n + 1 : Nat) : Int) := by rw [wrapI (by omega)]; omega
end Go.Proofs.YthdmoahfeimdaaaGreatDoor

namespace Go.Proofs.YthdmoahfeimdaaaGreatDoor
open Go Go.Sx Go.Proofs
set_option linter.unusedVariables false
set_option maxRecDepth 100000
def nM : List Bool := List.replicate gN false
def rep (n m : Nat) : List Cell := [.snil, .vs 14 0 n 1 false, .vs 15 0 m 2 false, .il .i64 0, .il .i64 0, .il .i64 0, .il .i64 0, .il .i64 0, .il .i64 0]
def ksV : List Nat := [3, 5, 11, 65, 66, 67]
def ksP : List Nat := [3, 5, 11, 78, 79, 80]
noncomputable def LV : Code := loopAt 16 (loopsOf (bodyOf Tryz.f8))
noncomputable def LP : Code := loopAt 21 (loopsOf (bodyOf Tryz.f8))
def hpT (l : List N1) (p : List Pr) (n m : Nat) : Hp AV := hpO nM [.intsA l, .pairsA p] ++ [some (.cells (rep n m) 28), some (.cells [.pnil, .snil] 55)]
def famV (sh : Nat) (l : List N1) (p : List Pr) (n m : Nat) (i : Int) (len : Nat) (has : List Tx) : St AV :=
 { E := only ksV [(3, .v (.c (.ptr 16 0))), (5, .v (.c (.ptr 17 0))), (11, match sh with | 0 => .v (.c (.vs 18 0 len 1 false)) | _ => .v (.c (.vs 19 0 len 1 false))), (65, .v (.c (.vs 14 0 n 1 false))), (66, .v (.c (.it .i64 n))), (67, .v (.c (.it .i64 i)))] 124,
   H := hpT l p n m ++ (match sh with | 0 => [some (.abs (.strs has))] | _ => [some .dead, some (.abs (.strs has))]) }
def ndI (n : Nat) (len : Nat) (i : Int) : Bool := match decide (0 <= i /\ i < (n : Int)) with
 | true => decide (0 + i.toNat < len)
 | false => false
def txI (v : Int) : Tx := ⟨⟨(Lib.itoa v).toArray⟩⟩
theorem vR0 (σ : Sg) (l : List N1) (p : List Pr) (n m : Nat) (i : Int) (len : Nat) (has : List Tx) : (xc (NV σ) (joinCal (lv (NV σ) tabT 5)) (fun _ => none) 124 LV (famV 0 l p n m i len has)).bind (backS 19 124 ksV pkW) =
 .ite (decide (i < (n : Int))) (.need (ndI n l.length i) (.need (decide (-9223372036854775808 <= (l.getD (0 + i.toNat) kints.dflt).val /\ (l.getD (0 + i.toNat) kints.dflt).val <= 9223372036854775807)) (.need (decide (len = Intf.len (avF σ) (AV.strs has) /\ (len + 1) * (SI.bytes si58 + 1) <= lim))
  (.leaf (.normal, famV 1 l p n m (IntKind.wrap .i64 (i + 1)) (len + 1) (has ++ [txI (l.getD (0 + i.toNat) kints.dflt).val])))))) (.leaf (.exit 2, famV 0 l p n m i len has)) := by kernel_rfl
theorem vR1 (σ : Sg) (l : List N1) (p : List Pr) (n m : Nat) (i : Int) (len : Nat) (has : List Tx) : (xc (NV σ) (joinCal (lv (NV σ) tabT 5)) (fun _ => none) 124 LV (famV 1 l p n m i len has)).bind (backS 19 124 ksV pkW) =
 .ite (decide (i < (n : Int))) (.need (ndI n l.length i) (.need (decide (-9223372036854775808 <= (l.getD (0 + i.toNat) kints.dflt).val /\ (l.getD (0 + i.toNat) kints.dflt).val <= 9223372036854775807)) (.need (decide (len = Intf.len (avF σ) (AV.strs has) /\ (len + 1) * (SI.bytes si58 + 1) <= lim))
  (.leaf (.normal, famV 1 l p n m (IntKind.wrap .i64 (i + 1)) (len + 1) (has ++ [txI (l.getD (0 + i.toNat) kints.dflt).val])))))) (.leaf (.exit 2, famV 1 l p n m i len has)) := by kernel_rfl
def nmP : Nat -> Nat -> Nat
 | 0, 0 => 18
 | 0, _ => 19
 | _, 0 => 19
 | _, _ => 20
def ddP : Nat -> Nat -> Hp AV
 | 0, 0 => []
 | 0, _ => [some .dead]
 | _, 0 => [some .dead]
 | _, _ => [some .dead, some .dead]
def famP (e sh : Nat) (l : List N1) (p : List Pr) (n m : Nat) (i : Int) (len : Nat) (has : List Tx) : St AV :=
 { E := only ksP [(3, .v (.c (.ptr 16 0))), (5, .v (.c (.ptr 17 0))), (11, .v (.c (.vs (nmP e sh) 0 len 1 false))), (78, .v (.c (.vs 15 0 m 2 false))), (79, .v (.c (.it .i64 m))), (80, .v (.c (.it .i64 i)))] 124,
   H := hpT l p n m ++ (ddP e sh ++ [some (.abs (.strs has))]) }
def txP (q : Pr) : Tx := ⟨strCat (strCat ⟨(Lib.itoa q.key).toArray⟩ ⟨#[61]⟩) ⟨(Lib.itoa q.val).toArray⟩⟩
theorem pR00 (σ : Sg) (l : List N1) (p : List Pr) (n m : Nat) (i : Int) (len : Nat) (has : List Tx) : (xc (NV σ) (joinCal (lv (NV σ) tabT 5)) (fun _ => none) 124 LP (famP 0 0 l p n m i len has)).bind (backS 19 124 ksP pkW) =
 .ite (decide (i < (m : Int))) (.need (decide (0 <= i /\ i < (m : Int))) (.need (decide (0 + i.toNat < p.length)) (.need (decide (-9223372036854775808 <= (p.getD (0 + i.toNat) kpairs.dflt).key /\ (p.getD (0 + i.toNat) kpairs.dflt).key <= 9223372036854775807))
  (.need (Nat.ble (strLen ⟨(Lib.itoa (p.getD (0 + i.toNat) kpairs.dflt).key).toArray⟩ + strLen ⟨#[61]⟩) 9223372036854775807) (.need (decide (-9223372036854775808 <= (p.getD (0 + i.toNat) kpairs.dflt).val /\ (p.getD (0 + i.toNat) kpairs.dflt).val <= 9223372036854775807))
  (.need (Nat.ble (strLen (strCat ⟨(Lib.itoa (p.getD (0 + i.toNat) kpairs.dflt).key).toArray⟩ ⟨#[61]⟩) + strLen ⟨(Lib.itoa (p.getD (0 + i.toNat) kpairs.dflt).val).toArray⟩) 9223372036854775807) (.need (decide (len = Intf.len (avF σ) (AV.strs has) /\ (len + 1) * (SI.bytes si58 + 1) <= lim))
  (.leaf (.normal, famP 0 1 l p n m (IntKind.wrap .i64 (i + 1)) (len + 1) (has ++ [txP (p.getD (0 + i.toNat) kpairs.dflt)]))))))))))  (.leaf (.exit 4, famP 0 0 l p n m i len has)) := by kernel_rfl
theorem pR01 (σ : Sg) (l : List N1) (p : List Pr) (n m : Nat) (i : Int) (len : Nat) (has : List Tx) : (xc (NV σ) (joinCal (lv (NV σ) tabT 5)) (fun _ => none) 124 LP (famP 0 1 l p n m i len has)).bind (backS 19 124 ksP pkW) =
 .ite (decide (i < (m : Int))) (.need (decide (0 <= i /\ i < (m : Int))) (.need (decide (0 + i.toNat < p.length)) (.need (decide (-9223372036854775808 <= (p.getD (0 + i.toNat) kpairs.dflt).key /\ (p.getD (0 + i.toNat) kpairs.dflt).key <= 9223372036854775807))
  (.need (Nat.ble (strLen ⟨(Lib.itoa (p.getD (0 + i.toNat) kpairs.dflt).key).toArray⟩ + strLen ⟨#[61]⟩) 9223372036854775807) (.need (decide (-9223372036854775808 <= (p.getD (0 + i.toNat) kpairs.dflt).val /\ (p.getD (0 + i.toNat) kpairs.dflt).val <= 9223372036854775807))
  (.need (Nat.ble (strLen (strCat ⟨(Lib.itoa (p.getD (0 + i.toNat) kpairs.dflt).key).toArray⟩ ⟨#[61]⟩) + strLen ⟨(Lib.itoa (p.getD (0 + i.toNat) kpairs.dflt).val).toArray⟩) 9223372036854775807) (.need (decide (len = Intf.len (avF σ) (AV.strs has) /\ (len + 1) * (SI.bytes si58 + 1) <= lim))
  (.leaf (.normal, famP 0 1 l p n m (IntKind.wrap .i64 (i + 1)) (len + 1) (has ++ [txP (p.getD (0 + i.toNat) kpairs.dflt)]))))))))))  (.leaf (.exit 4, famP 0 1 l p n m i len has)) := by kernel_rfl
theorem pR10 (σ : Sg) (l : List N1) (p : List Pr) (n m : Nat) (i : Int) (len : Nat) (has : List Tx) : (xc (NV σ) (joinCal (lv (NV σ) tabT 5)) (fun _ => none) 124 LP (famP 1 0 l p n m i len has)).bind (backS 20 124 ksP pkW) =
 .ite (decide (i < (m : Int))) (.need (decide (0 <= i /\ i < (m : Int))) (.need (decide (0 + i.toNat < p.length)) (.need (decide (-9223372036854775808 <= (p.getD (0 + i.toNat) kpairs.dflt).key /\ (p.getD (0 + i.toNat) kpairs.dflt).key <= 9223372036854775807))
  (.need (Nat.ble (strLen ⟨(Lib.itoa (p.getD (0 + i.toNat) kpairs.dflt).key).toArray⟩ + strLen ⟨#[61]⟩) 9223372036854775807) (.need (decide (-9223372036854775808 <= (p.getD (0 + i.toNat) kpairs.dflt).val /\ (p.getD (0 + i.toNat) kpairs.dflt).val <= 9223372036854775807))
  (.need (Nat.ble (strLen (strCat ⟨(Lib.itoa (p.getD (0 + i.toNat) kpairs.dflt).key).toArray⟩ ⟨#[61]⟩) + strLen ⟨(Lib.itoa (p.getD (0 + i.toNat) kpairs.dflt).val).toArray⟩) 9223372036854775807) (.need (decide (len = Intf.len (avF σ) (AV.strs has) /\ (len + 1) * (SI.bytes si58 + 1) <= lim))
  (.leaf (.normal, famP 1 1 l p n m (IntKind.wrap .i64 (i + 1)) (len + 1) (has ++ [txP (p.getD (0 + i.toNat) kpairs.dflt)]))))))))))  (.leaf (.exit 4, famP 1 0 l p n m i len has)) := by kernel_rfl
theorem pR11 (σ : Sg) (l : List N1) (p : List Pr) (n m : Nat) (i : Int) (len : Nat) (has : List Tx) : (xc (NV σ) (joinCal (lv (NV σ) tabT 5)) (fun _ => none) 124 LP (famP 1 1 l p n m i len has)).bind (backS 20 124 ksP pkW) =
 .ite (decide (i < (m : Int))) (.need (decide (0 <= i /\ i < (m : Int))) (.need (decide (0 + i.toNat < p.length)) (.need (decide (-9223372036854775808 <= (p.getD (0 + i.toNat) kpairs.dflt).key /\ (p.getD (0 + i.toNat) kpairs.dflt).key <= 9223372036854775807))
  (.need (Nat.ble (strLen ⟨(Lib.itoa (p.getD (0 + i.toNat) kpairs.dflt).key).toArray⟩ + strLen ⟨#[61]⟩) 9223372036854775807) (.need (decide (-9223372036854775808 <= (p.getD (0 + i.toNat) kpairs.dflt).val /\ (p.getD (0 + i.toNat) kpairs.dflt).val <= 9223372036854775807))
  (.need (Nat.ble (strLen (strCat ⟨(Lib.itoa (p.getD (0 + i.toNat) kpairs.dflt).key).toArray⟩ ⟨#[61]⟩) + strLen ⟨(Lib.itoa (p.getD (0 + i.toNat) kpairs.dflt).val).toArray⟩) 9223372036854775807) (.need (decide (len = Intf.len (avF σ) (AV.strs has) /\ (len + 1) * (SI.bytes si58 + 1) <= lim))
  (.leaf (.normal, famP 1 1 l p n m (IntKind.wrap .i64 (i + 1)) (len + 1) (has ++ [txP (p.getD (0 + i.toNat) kpairs.dflt)]))))))))))  (.leaf (.exit 4, famP 1 1 l p n m i len has)) := by kernel_rfl
end Go.Proofs.YthdmoahfeimdaaaGreatDoor

namespace Go.Proofs.YthdmoahfeimdaaaGreatDoor
open Go Go.Sx Go.Proofs
set_option linter.unusedVariables false
set_option maxRecDepth 100000
abbrev inI (v : Int) : Prop := -9223372036854775808 <= v /\ v <= 9223372036854775807
structure MV where
 k : Nat
 has : List Tx
 sh : Nat
def txV (a : N1) : Tx := txI a.val
def stepV (l : List N1) (m : MV) : T (Ex × MV) := .need (decide (l.length <= 60 /\ m.k <= l.length /\ m.has.length <= 1000 /\ (∀ a ∈ l, inI a.val) /\ (m.sh = 0 \/ m.sh = 1)))
 (.leaf (if m.k < l.length then (.normal, ⟨m.k + 1, m.has ++ [txV (l.getD m.k kints.dflt)], 1⟩) else (.exit 2, m)))
def famVM (l : List N1) (p : List Pr) (mm : Nat) (m : MV) : St AV := famV m.sh l p l.length mm m.k m.has.length m.has
theorem getD_mem {α : Type} {l : List α} {k : Nat} (h : k < l.length) (d : α) : l.getD k d ∈ l := by
 have : l.getD k d = l[k] := by simp [List.getD, h]
 rw [this]; exact List.getElem_mem h
theorem fitT {len : Nat} {has : List Tx} {σ : Sg} (h : len = has.length) (hl : len <= 1000) : (decide (len = Intf.len (avF σ) (AV.strs has) /\ (len + 1) * (SI.bytes si58 + 1) <= lim)) = true := decide_eq_true ⟨h, by
 have : SI.bytes si58 <= 1000 := by decide
 have : lim = 1099511627776 := rfl
 have : (len + 1) * (SI.bytes si58 + 1) <= 1001 * 1001 := Nat.mul_le_mul (by omega) (by omega)
 omega⟩
theorem stepV_run (σ : Sg) (l : List N1) (p : List Pr) (mm : Nat) (m : MV) (q : Ex × MV) (h : (stepV l m).val = some q) :
 ((xc (NV σ) (joinCal (lv (NV σ) tabT 5)) (fun _ => none) 124 LV (famVM l p mm m)).bind (backS 19 124 ksV pkW)).val = some (q.1, famVM l p mm q.2) := by
 replace h := need_some h
 obtain ⟨hb, h⟩ := h
 obtain ⟨h1, h2, h3, h4, h5⟩ := of_decide_eq_true hb
 simp only [T.val, Option.some.injEq] at h
 subst h
 obtain ⟨k, has, sh⟩ := m
 simp only at h2 h3 h5
 have e1 : 0 + (k : Int).toNat = k := by omega
 have hw : IntKind.wrap .i64 ((k : Int) + 1) = ((k + 1 : Nat) : Int) := wrapS (by omega)
 have dn : k < l.length -> ndI l.length l.length k = true := fun hlt => by
  unfold ndI
  rw [decide_eq_true (show 0 <= (k : Int) /\ (k : Int) < (l.length : Int) by omega), e1]
  exact decide_eq_true hlt
 rcases h5 with rfl | rfl
 ·show ((xc (NV σ) (joinCal (lv (NV σ) tabT 5)) (fun _ => none) 124 LV (famV 0 l p l.length mm k has.length has)).bind (backS 19 124 ksV pkW)).val = _
  rw [vR0]
  by_cases hlt : k < l.length
  ·rw [ivT (decide_eq_true (by omega)), nv (dn hlt), e1, nv (decide_eq_true (h4 _ (getD_mem hlt _))), nv (fitT rfl h3), hw]
   simp only [if_pos hlt, T.val, famVM, List.length_append, List.length_singleton]; rfl
  ·simp only [if_neg hlt]
   rw [ivF (decide_eq_false (by omega))]
   rfl
 ·show ((xc (NV σ) (joinCal (lv (NV σ) tabT 5)) (fun _ => none) 124 LV (famV 1 l p l.length mm k has.length has)).bind (backS 19 124 ksV pkW)).val = _
  rw [vR1]
  by_cases hlt : k < l.length
  ·rw [ivT (decide_eq_true (by omega)), nv (dn hlt), e1, nv (decide_eq_true (h4 _ (getD_mem hlt _))), nv (fitT rfl h3), hw]
   simp only [if_pos hlt, T.val, famVM, List.length_append, List.length_singleton]; rfl
  ·simp only [if_neg hlt]
   rw [ivF (decide_eq_false (by omega))]
   rfl
theorem drop_map_succ {α β : Type} (f : α -> β) {l : List α} {k : Nat} (h : k < l.length) (d : α) : (l.drop k).map f = f (l.getD k d) :: (l.drop (k + 1)).map f := by
 rw [List.drop_eq_getElem_cons h, List.map_cons]
 simp [List.getD, h]
theorem iterV (l : List N1) (hl : l.length <= 60) (hr : ∀ a ∈ l, inI a.val) : ∀ (q k : Nat) (has : List Tx) (sh : Nat), k + q = l.length -> has.length + q <= 1000 -> (sh = 0 \/ sh = 1) ->
 iter (stepV l) (q + 1) ⟨k, has, sh⟩ = some (.exit 2, ⟨l.length, has ++ (l.drop k).map txV, if q = 0 then sh else 1⟩) := by
 intro q
 induction q with
 | zero =>
   intro k has sh hk hh hs
   have e : k = l.length := by omega
   subst e
   rw [iter, stepV, nv (decide_eq_true ⟨hl, Nat.le_refl _, by omega, hr, hs⟩)]
   simp only [T.val, if_neg (Nat.lt_irrefl _), List.drop_length, List.map_nil, List.append_nil, if_true]
 | succ q ih =>
   intro k has sh hk hh hs
   have hlt : k < l.length := by omega
   rw [iter, stepV, nv (decide_eq_true ⟨hl, by show k <= _; omega, by show has.length <= 1000; omega, hr, hs⟩)]
   simp only [T.val, if_pos hlt]
   rw [ih (k + 1) (has ++ [txV (l.getD k kints.dflt)]) 1 (by omega) (by simp; omega) (.inr rfl), drop_map_succ txV hlt kints.dflt]
   simp
def gVl (s : St AV) : T (Ex × St AV) := match s.H with
 | [none, none, none, none, none, none, none, none, none, none, none, none, none, none, some (.abs (.intsA l)), some (.abs (.pairsA p)), some (.cells [.snil, .vs 14 0 n 1 false, .vs 15 0 m 2 false, .il .i64 0, .il .i64 0, .il .i64 0, .il .i64 0, .il .i64 0, .il .i64 0] t1),
     some (.cells [.pnil, .snil] t2), some (.vec [.st h] 1 t3)] => match Sx.look s.E 3, Sx.look s.E 5, Sx.look s.E 11, Sx.look s.E 65, Sx.look s.E 66, Sx.look s.E 67, Nat.beq t1 28, Nat.beq t2 55, Nat.beq t3 9 with
   | .v (.c (.ptr 16 0)), .v (.c (.ptr 17 0)), .v (.c (.vs 18 0 1 1 true)), .v (.c (.vs 14 0 n1 1 false)), .v (.c (.it .i64 n2)), .v (.c (.il .i64 0)), true, true, true =>
     .need (decide (n = l.length /\ n1 = n /\ n2 = (n : Int) /\ l.length <= 60 /\ ∀ a ∈ l, inI a.val)) (.ite (decide (l.length = 0)) (.leaf (.exit 2, famV 0 l p l.length m l.length 1 [⟨h⟩]))
      (.leaf (.exit 2, famV 1 l p l.length m l.length (1 + l.length) (⟨h⟩ :: l.map txV))))
   | _, _, _, _, _, _, _, _, _ => .fail "values"
 | _ => .fail "values"
theorem gVl_ok {σ : Sg} (ht : TabR σ) {N' : Env AV} (hF : N'.F = (NV σ).F) (hG : N'.G = (NV σ).G) : LoopOk Tryz.prog N' 124 LV gVl := by
 have hcal : CalOk Tryz.prog (NV σ) (joinCal (lv (NV σ) tabT 5)) := joinCal_ok (lv_ok okV lpsV hvV (tabT_ok ht) 5)
 refine loopOk_it (N := NV σ) hF hG okV hcal (lp := fun _ => none) (fun _ _ _ g hg => by cases hg) fun s s' ex hgs => ?_
 obtain ⟨E1, H1⟩ := s
 unfold gVl at hgs
 split at hgs
 ·rename_i l p n m t1 t2 h t3 hs
  simp only at hs
  subst hs
  split at hgs
  ·rename_i n1 n2 e3 e5 e11 e65 e66 e67 et1 et2 et3
   simp only at e3 e5 e11 e65 e66 e67
   have et1 := (beq_iff _ _).1 et1
   have et2 := (beq_iff _ _).1 et2
   have et3 := (beq_iff _ _).1 et3
   subst et1 et2 et3
   replace hgs := need_some hgs
   obtain ⟨hb, hgs⟩ := hgs
   obtain ⟨rfl, rfl, rfl, hl, hr⟩ := of_decide_eq_true hb
   have hgo : ex = .exit 2 /\ s' = famVM l p m ⟨l.length, [⟨h⟩] ++ (l.drop 0).map txV, if l.length = 0 then 0 else 1⟩ := by
    by_cases h0 : l.length = 0
    ·rw [decide_eq_true h0, ivT rfl] at hgs
     simp only [T.val, Option.some.injEq, Prod.mk.injEq] at hgs
     obtain ⟨rfl, rfl⟩ := hgs
     have : l = [] := List.eq_nil_of_length_eq_zero h0
     subst this
     exact ⟨rfl, rfl⟩
    ·rw [decide_eq_false h0, ivF rfl] at hgs
     simp only [T.val, Option.some.injEq, Prod.mk.injEq] at hgs
     obtain ⟨rfl, rfl⟩ := hgs
     refine ⟨rfl, ?_⟩
     simp only [famVM, if_neg h0, List.drop_zero, List.singleton_append, List.length_cons, List.length_map, Nat.add_comm 1]
   obtain ⟨rfl, rfl⟩ := hgo
   refine ⟨{ M := MV, fam := famVM l p m, step := stepV l, ks := ksV, pk := pkW, hpk := pkW_ok, L := 19, len := rfl, hGL := (by show 14 <= 19; decide), run := stepV_run σ l p m, m := ⟨0, [⟨h⟩], 0⟩, k := l.length + 1, m' := _, ent := ?_, it := iterV l hl hr l.length 0 [⟨h⟩] 0 (by omega) (by show 1 + _ <= _; omega) (.inl rfl), fin := rfl }⟩
   refine enter_pack (N := NV σ) (n := 18) (c := .vec [.st h] 1 9) (c' := .abs (.strs [⟨h⟩])) (E' := [(3, .v (.c (.ptr 16 0))), (5, .v (.c (.ptr 17 0))), (11, .v (.c (.vs 18 0 1 1 false))), (65, .v (.c (.vs 14 0 l.length 1 false))), (66, .v (.c (.it .i64 l.length))), (67, .v (.c (.it .i64 (0 : Nat))))]) rfl ?_ rfl fun k hk => ?_
   ·have := pkW_ok (σ := σ) (lp := noLp) (.vec [.st h] 1 9) (.strs [⟨h⟩]) (by kernel_rfl) id
    exact this
   ·simp only [ksV, List.mem_cons, List.not_mem_nil, or_false] at hk
    rcases hk with rfl | rfl | rfl | rfl | rfl | rfl
    ·exact .inl e3.symm
    ·exact .inl e5.symm
    ·refine .inr ⟨by rw [e11]; rintro ⟨⟩, ?_, fun ρ => by rw [e11]; rfl⟩
     intro c hc m hm
     have hc : c ∈ [Cell.vs 18 0 1 1 false] := hc
     rw [List.mem_singleton.1 hc] at hm
     cases hm
     exact ⟨_, rfl⟩
    ·exact .inl e65.symm
    ·exact .inl e66.symm
    ·exact .inr ⟨by rw [e67]; rintro ⟨⟩, (plainIl _ _).cl _, fun ρ => by rw [e67]; rfl⟩
  ·simp [T.val] at hgs
 ·simp [T.val] at hgs
end Go.Proofs.YthdmoahfeimdaaaGreatDoor
