import Derived.Test.YtadmfaohjnjajaaGreatDoorSxM
import Derived.Test.YtadmfaohjnjajaaGreatDoorProg
import Derived.Test.YtadmfaohjnjajaaGreatDoorSxZ
set_option linter.unusedVariables false
set_option linter.unusedSimpArgs false
set_option maxHeartbeats 4000000
namespace Go.Proofs.YtadmfaohjnjajaaGreatDoor
section
open Go Go.Sx Go.Proofs
set_option maxRecDepth 100000
abbrev zI:Int:=Int.ofNat 0
abbrev aa:Cell:=Cell.il IntKind.i64 zI
abbrev ae:FK:=FK.int IntKind.i64
abbrev Fs:Cell:=Cell.il IntKind.u8 zI
abbrev Xd:FK:=FK.int IntKind.u8
abbrev Hb:Cell:=Cell.il IntKind.u64 zI
abbrev Xe:FK:=FK.int IntKind.u64
abbrev Hc:Cell:=Cell.il IntKind.u32 zI
abbrev Xf:FK:=FK.int IntKind.u32
def ty0:TI:=(TI.mk Kd.other 1 none none)
def ty1:TI:=(TI.mk Kd.other 1 (some [Cell.nfn]) none)
def ty2:TI:=(TI.mk (Kd.int IntKind.i64) 1 (some [aa]) (some [ae]))
def ty4:TI:=(TI.mk Kd.bool 1 (some [Cell.bl false]) (some [FK.bool]))
def ty5:TI:=(TI.mk (Kd.int IntKind.u8) 1 (some [Fs]) (some [Xd]))
def ty7:TI:=(TI.mk (Kd.struct [FdI.mk 0 1 2 false,FdI.mk 1 1 3 false,FdI.mk 2 1 4 false,FdI.mk 3 1 6 false]) 4 (some [aa,aa,Cell.bl false,Fs]) (some [ae,ae,FK.bool,Xd]))
def ty9:TI:=(TI.mk Kd.str 1 (some [Cell.st (ByteArray.mk (Array.mk []))]) (some [FK.str]))
def R6:TI:=(TI.mk (Kd.int IntKind.u64) 1 (some [Hb]) (some [Xe]))
def U4:TI:=(TI.mk (Kd.struct [FdI.mk 0 1 9 false,FdI.mk 1 1 12 false]) 2 (some [Cell.st (ByteArray.mk (Array.mk [])),Hb]) none)
def iD:TI:=(TI.mk Kd.ptr 1 (some [Cell.pnil]) none)
def Oh:TI:=(TI.mk (Kd.struct [FdI.mk 0 1 17 false]) 1 (some [Cell.pnil]) none)
def yJ:TI:=(TI.mk Kd.iface 1 (some [Cell.inil]) none)
def Og:TI:=(TI.mk (Kd.int IntKind.i32) 1 (some [Cell.il IntKind.i32 zI]) (some [FK.int IntKind.i32]))
def U0:TI:=(TI.mk (Kd.slice 4) 1 (some [Cell.snil]) none)
def UT:TI:=(TI.mk (Kd.struct [FdI.mk 0 1 3 false,FdI.mk 1 1 3 false,FdI.mk 2 1 3 false,FdI.mk 3 1 3 false]) 4 (some [aa,aa,aa,aa]) (some [ae,ae,ae,ae]))
def Of:TI:=(TI.mk (Kd.struct [FdI.mk 0 1 3 false,FdI.mk 1 1 3 false]) 2 (some [aa,aa]) (some [ae,ae]))
def US:TI:=(TI.mk (Kd.struct [FdI.mk 0 1 4 false,FdI.mk 1 2 36 true,FdI.mk 3 1 3 false]) 4 (some [Cell.bl false,aa,aa,aa]) (some [FK.bool,ae,ae,ae]))
def XJ:TI:=(TI.mk (Kd.slice 7) 1 (some [Cell.snil]) none)
def XI:TI:=(TI.mk (Kd.arr 4 1 false) 4 (some [aa,aa,aa,aa]) (some [ae,ae,ae,ae]))
def XH:TI:=(TI.mk (Kd.arr 6 1 false) 6 (some [aa,aa,aa,aa,aa,aa]) (some [ae,ae,ae,ae,ae,ae]))
def UR:TI:=(TI.mk (Kd.struct [FdI.mk 0 1 3 false,FdI.mk 1 1 3 false,FdI.mk 2 1 3 false,FdI.mk 3 1 3 false,FdI.mk 4 1 4 false]) 5 (some [aa,aa,aa,aa,Cell.bl false]) (some [ae,ae,ae,ae,FK.bool]))
def UQ:TI:=(TI.mk (Kd.struct [FdI.mk 0 5 60 true,FdI.mk 5 1 4 false]) 6 (some [aa,aa,aa,aa,Cell.bl false,Cell.bl false]) (some [ae,ae,ae,ae,FK.bool,FK.bool]))
def UP:TI:=(TI.mk (Kd.struct [FdI.mk 0 1 3 false,FdI.mk 1 1 3 false,FdI.mk 2 1 3 false]) 3 (some [aa,aa,aa]) (some [ae,ae,ae]))
def UO:TI:=(TI.mk (Kd.struct [FdI.mk 0 1 3 false,FdI.mk 1 3 66 true,FdI.mk 4 5 60 true,FdI.mk 9 5 60 true]) 14 (some [aa,aa,aa,aa,aa,aa,aa,aa,Cell.bl false,aa,aa,aa,aa,Cell.bl false]) (some [ae,ae,ae,ae,ae,ae,ae,ae,FK.bool,ae,ae,ae,ae,FK.bool]))
def UN:TI:=(TI.mk (Kd.struct [FdI.mk 0 1 3 false,FdI.mk 1 3 66 true,FdI.mk 4 5 60 true,FdI.mk 9 5 60 true,FdI.mk 14 1 3 false,FdI.mk 15 1 3 false,FdI.mk 16 2 36 true]) 18 (some [aa,aa,aa,aa,aa,aa,aa,aa,Cell.bl false,aa,aa,aa,aa,Cell.bl false,aa,aa,aa,aa]) (some [ae,ae,ae,ae,ae,ae,ae,ae,FK.bool,ae,ae,ae,ae,FK.bool,ae,ae,ae,ae]))
def UM:TI:=(TI.mk (Kd.struct [FdI.mk 0 1 71 false,FdI.mk 1 1 3 false,FdI.mk 2 18 75 true,FdI.mk 20 4 34 true,FdI.mk 24 1 77 false,FdI.mk 25 2 36 true]) 27 (some [Cell.pnil,aa,aa,aa,aa,aa,aa,aa,aa,aa,Cell.bl false,aa,aa,aa,aa,Cell.bl false,aa,aa,aa,aa,aa,aa,aa,aa,Cell.inil,aa,aa]) none)
def UL:TI:=(TI.mk (Kd.struct [FdI.mk 0 1 3 false,FdI.mk 1 1 3 false,FdI.mk 2 27 79 true]) 29 (some [aa,aa,Cell.pnil,aa,aa,aa,aa,aa,aa,aa,aa,aa,Cell.bl false,aa,aa,aa,aa,Cell.bl false,aa,aa,aa,aa,aa,aa,aa,aa,Cell.inil,aa,aa]) none)
def UK:TI:=(TI.mk (Kd.slice 1) 1 (some [Cell.snil]) none)
def XG:TI:=(TI.mk (Kd.slice 2) 1 (some [Cell.snil]) none)
def UJ:TI:=(TI.mk (Kd.struct [FdI.mk 0 1 90 false,FdI.mk 1 1 91 false]) 2 (some [Cell.snil,Cell.snil]) none)
def UI:TI:=(TI.mk (Kd.struct [FdI.mk 0 1 3 false,FdI.mk 1 2 93 true]) 3 (some [aa,Cell.snil,Cell.snil]) none)
def U7:TI:=(TI.mk (Kd.slice 5) 1 (some [Cell.snil]) none)
def U6:TI:=(TI.mk (Kd.slice 52) 1 (some [Cell.snil]) none)
def Q8:TI:=(TI.mk (Kd.struct [FdI.mk 0 1 117 false,FdI.mk 1 1 118 false,FdI.mk 2 1 90 false,FdI.mk 3 1 3 false,FdI.mk 4 1 3 false,FdI.mk 5 1 29 false]) 6 (some [Cell.snil,Cell.snil,Cell.snil,aa,aa,Cell.inil]) none)
def U5:TI:=(TI.mk (Kd.arr 10 5 true) 50 (some [aa,aa,aa,aa,Cell.bl false,aa,aa,aa,aa,Cell.bl false,aa,aa,aa,aa,Cell.bl false,aa,aa,aa,aa,Cell.bl false,aa,aa,aa,aa,Cell.bl false,aa,aa,aa,aa,Cell.bl false,aa,aa,aa,aa,Cell.bl false,aa,aa,aa,aa,Cell.bl false,aa,aa,aa,aa,Cell.bl false,aa,aa,aa,aa,Cell.bl false]) (some [ae,ae,ae,ae,FK.bool,ae,ae,ae,ae,FK.bool,ae,ae,ae,ae,FK.bool,ae,ae,ae,ae,FK.bool,ae,ae,ae,ae,FK.bool,ae,ae,ae,ae,FK.bool,ae,ae,ae,ae,FK.bool,ae,ae,ae,ae,FK.bool,ae,ae,ae,ae,FK.bool,ae,ae,ae,ae,FK.bool]))
def Q7:TI:=(TI.mk (Kd.struct [FdI.mk 0 1 3 false,FdI.mk 1 1 4 false,FdI.mk 2 50 125 true]) 52 (some [aa,Cell.bl false,aa,aa,aa,aa,Cell.bl false,aa,aa,aa,aa,Cell.bl false,aa,aa,aa,aa,Cell.bl false,aa,aa,aa,aa,Cell.bl false,aa,aa,aa,aa,Cell.bl false,aa,aa,aa,aa,Cell.bl false,aa,aa,aa,aa,Cell.bl false,aa,aa,aa,aa,Cell.bl false,aa,aa,aa,aa,Cell.bl false,aa,aa,aa,aa,Cell.bl false]) (some [ae,FK.bool,ae,ae,ae,ae,FK.bool,ae,ae,ae,ae,FK.bool,ae,ae,ae,ae,FK.bool,ae,ae,ae,ae,FK.bool,ae,ae,ae,ae,FK.bool,ae,ae,ae,ae,FK.bool,ae,ae,ae,ae,FK.bool,ae,ae,ae,ae,FK.bool,ae,ae,ae,ae,FK.bool,ae,ae,ae,ae,FK.bool]))
def U3:TI:=(TI.mk (Kd.arr 2 1 false) 2 (some [aa,aa]) (some [ae,ae]))
def Q6:TI:=(TI.mk (Kd.struct [FdI.mk 0 18 75 true,FdI.mk 18 1 3 false,FdI.mk 19 14 69 true,FdI.mk 33 5 60 true,FdI.mk 38 5 60 true,FdI.mk 43 1 3 false,FdI.mk 44 1 117 false,FdI.mk 45 1 41 false]) 46 (some [aa,aa,aa,aa,aa,aa,aa,aa,Cell.bl false,aa,aa,aa,aa,Cell.bl false,aa,aa,aa,aa,aa,aa,aa,aa,aa,aa,aa,aa,aa,Cell.bl false,aa,aa,aa,aa,Cell.bl false,aa,aa,aa,aa,Cell.bl false,aa,aa,aa,aa,Cell.bl false,aa,Cell.snil,Cell.snil]) none)
def U2:TI:=(TI.mk (Kd.arr 9 5 true) 45 (some [aa,aa,aa,aa,Cell.bl false,aa,aa,aa,aa,Cell.bl false,aa,aa,aa,aa,Cell.bl false,aa,aa,aa,aa,Cell.bl false,aa,aa,aa,aa,Cell.bl false,aa,aa,aa,aa,Cell.bl false,aa,aa,aa,aa,Cell.bl false,aa,aa,aa,aa,Cell.bl false,aa,aa,aa,aa,Cell.bl false]) (some [ae,ae,ae,ae,FK.bool,ae,ae,ae,ae,FK.bool,ae,ae,ae,ae,FK.bool,ae,ae,ae,ae,FK.bool,ae,ae,ae,ae,FK.bool,ae,ae,ae,ae,FK.bool,ae,ae,ae,ae,FK.bool,ae,ae,ae,ae,FK.bool,ae,ae,ae,ae,FK.bool]))
def Q5:TI:=(TI.mk (Kd.struct [FdI.mk 0 1 4 false,FdI.mk 1 1 3 false,FdI.mk 2 1 3 false]) 3 (some [Cell.bl false,aa,aa]) (some [FK.bool,ae,ae]))
def Q4:TI:=(TI.mk (Kd.struct [FdI.mk 0 46 136 true,FdI.mk 46 1 3 false,FdI.mk 47 1 3 false,FdI.mk 48 1 3 false,FdI.mk 49 1 3 false,FdI.mk 50 45 137 true,FdI.mk 95 3 139 true,FdI.mk 98 1 41 false,FdI.mk 99 1 3 false,FdI.mk 100 6 62 true]) 106 (some [aa,aa,aa,aa,aa,aa,aa,aa,Cell.bl false,aa,aa,aa,aa,Cell.bl false,aa,aa,aa,aa,aa,aa,aa,aa,aa,aa,aa,aa,aa,Cell.bl false,aa,aa,aa,aa,Cell.bl false,aa,aa,aa,aa,Cell.bl false,aa,aa,aa,aa,Cell.bl false,aa,Cell.snil,Cell.snil,aa,aa,aa,aa,aa,aa,aa,aa,Cell.bl false,aa,aa,aa,aa,Cell.bl false,aa,aa,aa,aa,Cell.bl false,aa,aa,aa,aa,Cell.bl false,aa,aa,aa,aa,Cell.bl false,aa,aa,aa,aa,Cell.bl false,aa,aa,aa,aa,Cell.bl false,aa,aa,aa,aa,Cell.bl false,aa,aa,aa,aa,Cell.bl false,Cell.bl false,aa,aa,Cell.snil,aa,aa,aa,aa,aa,Cell.bl false,Cell.bl false]) none)
def Q3:TI:=(TI.mk (Kd.struct [FdI.mk 0 5 60 true,FdI.mk 5 1 3 false,FdI.mk 6 1 3 false]) 7 (some [aa,aa,aa,aa,Cell.bl false,aa,aa]) (some [ae,ae,ae,ae,FK.bool,ae,ae]))
def pQ:TI:=(TI.mk (Kd.struct [FdI.mk 0 1 3 false,FdI.mk 1 18 75 true]) 19 (some [aa,aa,aa,aa,aa,aa,aa,aa,aa,Cell.bl false,aa,aa,aa,aa,Cell.bl false,aa,aa,aa,aa]) (some [ae,ae,ae,ae,ae,ae,ae,ae,ae,FK.bool,ae,ae,ae,ae,FK.bool,ae,ae,ae,ae]))
def Q2:TI:=(TI.mk (Kd.struct [FdI.mk 0 19 153 true,FdI.mk 19 4 34 true,FdI.mk 23 5 60 true,FdI.mk 28 5 60 true,FdI.mk 33 1 3 false]) 34 (some [aa,aa,aa,aa,aa,aa,aa,aa,aa,Cell.bl false,aa,aa,aa,aa,Cell.bl false,aa,aa,aa,aa,aa,aa,aa,aa,aa,aa,aa,aa,Cell.bl false,aa,aa,aa,aa,Cell.bl false,aa]) (some [ae,ae,ae,ae,ae,ae,ae,ae,ae,FK.bool,ae,ae,ae,ae,FK.bool,ae,ae,ae,ae,ae,ae,ae,ae,ae,ae,ae,ae,FK.bool,ae,ae,ae,ae,FK.bool,ae]))
def Q1:TI:=(TI.mk (Kd.struct [FdI.mk 0 19 157 true,FdI.mk 19 4 34 true,FdI.mk 23 5 60 true,FdI.mk 28 5 60 true,FdI.mk 33 5 60 true,FdI.mk 38 5 60 true,FdI.mk 43 1 3 false]) 44 (some [aa,aa,aa,aa,aa,aa,aa,aa,aa,Cell.bl false,aa,aa,aa,aa,Cell.bl false,aa,aa,aa,aa,aa,aa,aa,aa,aa,aa,aa,aa,Cell.bl false,aa,aa,aa,aa,Cell.bl false,aa,aa,aa,aa,Cell.bl false,aa,aa,aa,aa,Cell.bl false,aa]) (some [ae,ae,ae,ae,ae,ae,ae,ae,ae,FK.bool,ae,ae,ae,ae,FK.bool,ae,ae,ae,ae,ae,ae,ae,ae,ae,ae,ae,ae,FK.bool,ae,ae,ae,ae,FK.bool,ae,ae,ae,ae,FK.bool,ae,ae,ae,ae,FK.bool,ae]))
def Q0:TI:=(TI.mk (Kd.struct [FdI.mk 0 19 165 true,FdI.mk 19 4 34 true,FdI.mk 23 1 3 false,FdI.mk 24 1 3 false,FdI.mk 25 1 3 false,FdI.mk 26 1 3 false,FdI.mk 27 5 60 true,FdI.mk 32 5 60 true,FdI.mk 37 5 60 true,FdI.mk 42 1 166 false,FdI.mk 43 1 102 false,FdI.mk 44 2 36 true,FdI.mk 46 5 60 true]) 51 (some [aa,aa,aa,aa,aa,aa,aa,aa,aa,Cell.bl false,aa,aa,aa,aa,Cell.bl false,aa,aa,aa,aa,aa,aa,aa,aa,aa,aa,aa,aa,aa,aa,aa,aa,Cell.bl false,aa,aa,aa,aa,Cell.bl false,aa,aa,aa,aa,Cell.bl false,Cell.pnil,Cell.pnil,aa,aa,aa,aa,aa,aa,Cell.bl false]) none)
def QZ:TI:=(TI.mk (Kd.struct [FdI.mk 0 19 170 true,FdI.mk 19 4 34 true,FdI.mk 23 1 171 false,FdI.mk 24 5 60 true,FdI.mk 29 1 3 false,FdI.mk 30 1 3 false,FdI.mk 31 1 3 false]) 32 (some [aa,aa,aa,aa,aa,aa,aa,aa,aa,Cell.bl false,aa,aa,aa,aa,Cell.bl false,aa,aa,aa,aa,aa,aa,aa,aa,Cell.pnil,aa,aa,aa,aa,Cell.bl false,aa,aa,aa]) none)
def QY:TI:=(TI.mk (Kd.struct [FdI.mk 0 1 3 false,FdI.mk 1 1 29 false]) 2 (some [aa,Cell.inil]) none)
def U1:TI:=(TI.mk (Kd.slice 3) 1 (some [Cell.snil]) none)
def QX:TI:=(TI.mk (Kd.struct [FdI.mk 0 19 209 true,FdI.mk 19 3 66 true,FdI.mk 22 1 3 false,FdI.mk 23 4 34 true,FdI.mk 27 1 166 false,FdI.mk 28 5 60 true,FdI.mk 33 1 3 false]) 34 (some [aa,aa,aa,aa,aa,aa,aa,aa,aa,Cell.bl false,aa,aa,aa,aa,Cell.bl false,aa,aa,aa,aa,aa,aa,aa,aa,aa,aa,aa,aa,Cell.pnil,aa,aa,aa,aa,Cell.bl false,aa]) none)
def QW:TI:=(TI.mk (Kd.struct [FdI.mk 0 1 17 false,FdI.mk 1 1 17 false,FdI.mk 2 1 17 false,FdI.mk 3 1 9 false]) 4 (some [Cell.pnil,Cell.pnil,Cell.pnil,Cell.st (ByteArray.mk (Array.mk []))]) none)
def UZ:TI:=(TI.mk (Kd.arr 0 1 false) 0 (some []) (some []))
def QV:TI:=(TI.mk (Kd.struct [FdI.mk 0 0 233 true]) 0 (some []) none)
def UY:TI:=(TI.mk (Kd.int IntKind.u32) 1 (some [Hc]) (some [Xf]))
def QU:TI:=(TI.mk (Kd.struct [FdI.mk 0 1 12 false,FdI.mk 1 1 12 false,FdI.mk 2 1 236 false,FdI.mk 3 1 237 false,FdI.mk 4 1 5 false,FdI.mk 5 1 5 false,FdI.mk 6 1 238 false,FdI.mk 7 1 239 false,FdI.mk 8 1 240 false,FdI.mk 9 1 241 false,FdI.mk 10 1 242 false]) 11 (some [Hb,Hb,Hc,Fs,Fs,Fs,Fs,Cell.nfn,Cell.pnil,Cell.il IntKind.i32 zI,Cell.il IntKind.i32 zI]) none)
def QT:TI:=(TI.mk (Kd.struct [FdI.mk 0 19 209 true,FdI.mk 19 3 66 true,FdI.mk 22 1 3 false,FdI.mk 23 3 66 true,FdI.mk 26 5 60 true,FdI.mk 31 5 60 true,FdI.mk 36 1 3 false,FdI.mk 37 1 4 false]) 38 (some [aa,aa,aa,aa,aa,aa,aa,aa,aa,Cell.bl false,aa,aa,aa,aa,Cell.bl false,aa,aa,aa,aa,aa,aa,aa,aa,aa,aa,aa,aa,aa,aa,aa,Cell.bl false,aa,aa,aa,aa,Cell.bl false,aa,Cell.bl false]) (some [ae,ae,ae,ae,ae,ae,ae,ae,ae,FK.bool,ae,ae,ae,ae,FK.bool,ae,ae,ae,ae,ae,ae,ae,ae,ae,ae,ae,ae,ae,ae,ae,FK.bool,ae,ae,ae,ae,FK.bool,ae,FK.bool]))
def QS:TI:=(TI.mk (Kd.struct [FdI.mk 0 3 66 true,FdI.mk 3 5 60 true]) 8 (some [aa,aa,aa,aa,aa,aa,aa,Cell.bl false]) (some [ae,ae,ae,ae,ae,ae,ae,FK.bool]))
def UX:TI:=(TI.mk (Kd.arr 3 8 true) 24 (some [aa,aa,aa,aa,aa,aa,aa,Cell.bl false,aa,aa,aa,aa,aa,aa,aa,Cell.bl false,aa,aa,aa,aa,aa,aa,aa,Cell.bl false]) (some [ae,ae,ae,ae,ae,ae,ae,FK.bool,ae,ae,ae,ae,ae,ae,ae,FK.bool,ae,ae,ae,ae,ae,ae,ae,FK.bool]))
def QR:TI:=(TI.mk (Kd.struct [FdI.mk 0 19 170 true,FdI.mk 19 8 282 true,FdI.mk 27 1 3 false,FdI.mk 28 1 3 false,FdI.mk 29 5 60 true,FdI.mk 34 1 3 false,FdI.mk 35 24 283 true,FdI.mk 59 5 60 true]) 64 (some [aa,aa,aa,aa,aa,aa,aa,aa,aa,Cell.bl false,aa,aa,aa,aa,Cell.bl false,aa,aa,aa,aa,aa,aa,aa,aa,aa,aa,aa,Cell.bl false,aa,aa,aa,aa,aa,aa,Cell.bl false,aa,aa,aa,aa,aa,aa,aa,aa,Cell.bl false,aa,aa,aa,aa,aa,aa,aa,Cell.bl false,aa,aa,aa,aa,aa,aa,aa,Cell.bl false,aa,aa,aa,aa,Cell.bl false]) (some [ae,ae,ae,ae,ae,ae,ae,ae,ae,FK.bool,ae,ae,ae,ae,FK.bool,ae,ae,ae,ae,ae,ae,ae,ae,ae,ae,ae,FK.bool,ae,ae,ae,ae,ae,ae,FK.bool,ae,ae,ae,ae,ae,ae,ae,ae,FK.bool,ae,ae,ae,ae,ae,ae,ae,FK.bool,ae,ae,ae,ae,ae,ae,ae,FK.bool,ae,ae,ae,ae,FK.bool]))
def QQ:TI:=(TI.mk (Kd.struct [FdI.mk 0 1 9 false,FdI.mk 1 1 238 false]) 2 (some [Cell.st (ByteArray.mk (Array.mk [])),Fs]) none)
def QP:TI:=(TI.mk (Kd.struct [FdI.mk 0 1 9 false]) 1 (some [Cell.st (ByteArray.mk (Array.mk []))]) (some [FK.str]))
def UW:TI:=(TI.mk Kd.other 1 (some [Cell.pnil]) none)
def UU:TI:=(TI.mk (Kd.int IntKind.u16) 1 (some [Cell.il IntKind.u16 zI]) (some [FK.int IntKind.u16]))
def QO:TI:=(TI.mk (Kd.struct [FdI.mk 0 1 241 false,FdI.mk 1 1 299 false,FdI.mk 2 1 299 false,FdI.mk 3 1 236 false,FdI.mk 4 1 236 false]) 5 (some [Cell.il IntKind.i32 zI,Cell.il IntKind.u16 zI,Cell.il IntKind.u16 zI,Hc,Hc]) none)
def QN:TI:=(TI.mk (Kd.struct [FdI.mk 0 1 241 false,FdI.mk 1 1 242 false,FdI.mk 2 1 303 false,FdI.mk 3 1 303 false]) 4 (some [Cell.il IntKind.i32 zI,Cell.il IntKind.i32 zI,Cell.il IntKind.i32 zI,Cell.il IntKind.i32 zI]) none)
def tt:Tr TI:=(.nd (some ty0) (.nd (some ty1) (.nd (some ty2) (.nd (some ty7) (.nd (some iD) (.nd (some ty1) (.nd (some ty0) (.nd (some Q7) (.nd (some ty1) .lf .lf) .lf) (.nd (some ty1) .lf .lf)) (.nd (some UI) (.nd (some Q1) (.nd (some ty1) .lf .lf) .lf) (.nd (some ty1) .lf .lf))) (.nd (some iD) (.nd (some UM) (.nd (some ty1) (.nd (some ty1) .lf .lf) .lf) (.nd (some ty1) .lf .lf)) (.nd (some yJ) (.nd (some Oh) (.nd (some Og) .lf .lf) .lf) (.nd (some ty1) .lf .lf)))) (.nd (some ty1) (.nd (some ty0) (.nd (some iD) (.nd (some Q6) (.nd (some ty1) .lf .lf) .lf) (.nd (some ty1) .lf .lf)) (.nd (some ty0) (.nd (some Q0) (.nd (some QP) .lf .lf) .lf) (.nd (some QW) .lf .lf))) (.nd (some XH) (.nd (some ty1) (.nd (some Q3) (.nd (some ty1) .lf .lf) .lf) (.nd (some ty1) .lf .lf)) (.nd (some Q8) (.nd (some ty1) .lf .lf) (.nd (some ty1) .lf .lf))))) (.nd (some ty9) (.nd (some Oh) (.nd (some Of) (.nd (some ty1) (.nd (some U3) (.nd (some ty1) .lf .lf) .lf) (.nd (some QY) .lf .lf)) (.nd (some iD) (.nd (some ty1) (.nd (some ty1) .lf .lf) .lf) (.nd (some ty1) .lf .lf))) (.nd (some ty1) (.nd (some ty1) (.nd (some ty1) (.nd (some ty1) .lf .lf) .lf) (.nd (some QX) .lf .lf)) (.nd (some ty1) (.nd (some ty1) .lf .lf) (.nd (some QU) .lf .lf)))) (.nd (some iD) (.nd (some ty1) (.nd (some UN) (.nd (some Q5) (.nd (some ty1) .lf .lf) .lf) (.nd (some ty1) .lf .lf)) (.nd (some ty1) (.nd (some iD) (.nd (some UU) .lf .lf) .lf) (.nd (some QV) .lf .lf))) (.nd (some UR) (.nd (some XG) (.nd (some Q2) (.nd (some UX) .lf .lf) .lf) (.nd (some ty0) .lf .lf)) (.nd (some ty1) (.nd (some Of) .lf .lf) (.nd (some iD) .lf .lf)))))) (.nd (some ty5) (.nd (some ty9) (.nd (some iD) (.nd (some UT) (.nd (some UP) (.nd (some iD) (.nd (some ty1) .lf .lf) .lf) (.nd (some iD) .lf .lf)) (.nd (some ty0) (.nd (some ty0) (.nd (some ty1) .lf .lf) .lf) (.nd (some ty1) .lf .lf))) (.nd (some ty1) (.nd (some UL) (.nd (some ty1) (.nd (some R6) .lf .lf) .lf) (.nd (some pQ) .lf .lf)) (.nd (some ty1) (.nd (some yJ) (.nd (some QN) .lf .lf) .lf) (.nd (some Og) .lf .lf)))) (.nd (some iD) (.nd (some XJ) (.nd (some ty1) (.nd (some U2) (.nd (some ty1) .lf .lf) .lf) (.nd (some ty1) .lf .lf)) (.nd (some iD) (.nd (some pQ) (.nd (some iD) .lf .lf) .lf) (.nd (some UZ) .lf .lf))) (.nd (some ty1) (.nd (some ty1) (.nd (some pQ) (.nd (some QS) .lf .lf) .lf) (.nd (some ty1) .lf .lf)) (.nd (some ty1) (.nd (some ty1) .lf .lf) (.nd (some ty1) .lf .lf))))) (.nd (some U4) (.nd (some Og) (.nd (some US) (.nd (some UO) (.nd (some ty1) (.nd (some QT) .lf .lf) .lf) (.nd (some ty1) .lf .lf)) (.nd (some ty1) (.nd (some pQ) (.nd (some QQ) .lf .lf) .lf) (.nd (some iD) .lf .lf))) (.nd (some ty1) (.nd (some ty1) (.nd (some ty1) (.nd (some ty1) .lf .lf) .lf) (.nd (some ty1) .lf .lf)) (.nd (some U7) (.nd (some yJ) .lf .lf) (.nd (some ty1) .lf .lf)))) (.nd (some yJ) (.nd (some ty1) (.nd (some yJ) (.nd (some Q4) (.nd (some iD) .lf .lf) .lf) (.nd (some ty1) .lf .lf)) (.nd (some ty0) (.nd (some QZ) (.nd (some QO) .lf .lf) .lf) (.nd (some ty5) .lf .lf))) (.nd (some UQ) (.nd (some UJ) (.nd (some pQ) (.nd (some QR) .lf .lf) .lf) (.nd (some ty1) .lf .lf)) (.nd (some U5) (.nd (some ty1) .lf .lf) (.nd (some iD) .lf .lf))))))) (.nd (some ty2) (.nd (some ty4) (.nd (some ty7) (.nd (some iD) (.nd (some ty1) (.nd (some ty1) (.nd (some ty1) (.nd (some ty0) .lf .lf) .lf) (.nd (some ty1) .lf .lf)) (.nd (some iD) (.nd (some ty1) (.nd (some ty1) .lf .lf) .lf) (.nd (some ty1) .lf .lf))) (.nd (some ty0) (.nd (some UL) (.nd (some ty1) (.nd (some ty1) .lf .lf) .lf) (.nd (some pQ) .lf .lf)) (.nd (some yJ) (.nd (some iD) (.nd (some QN) .lf .lf) .lf) (.nd (some iD) .lf .lf)))) (.nd (some R6) (.nd (some ty1) (.nd (some ty0) (.nd (some Q6) (.nd (some ty1) .lf .lf) .lf) (.nd (some ty1) .lf .lf)) (.nd (some ty1) (.nd (some Q0) (.nd (some UW) .lf .lf) .lf) (.nd (some QW) .lf .lf))) (.nd (some ty0) (.nd (some ty1) (.nd (some pQ) (.nd (some iD) .lf .lf) .lf) (.nd (some ty1) .lf .lf)) (.nd (some Q8) (.nd (some ty0) .lf .lf) (.nd (some ty1) .lf .lf))))) (.nd (some R6) (.nd (some yJ) (.nd (some Of) (.nd (some UO) (.nd (some ty1) (.nd (some iD) .lf .lf) .lf) (.nd (some iD) .lf .lf)) (.nd (some ty0) (.nd (some pQ) (.nd (some QQ) .lf .lf) .lf) (.nd (some ty1) .lf .lf))) (.nd (some ty0) (.nd (some iD) (.nd (some ty1) (.nd (some ty0) .lf .lf) .lf) (.nd (some iD) .lf .lf)) (.nd (some ty1) (.nd (some yJ) .lf .lf) (.nd (some QU) .lf .lf)))) (.nd (some yJ) (.nd (some XI) (.nd (some yJ) (.nd (some Q4) (.nd (some ty1) .lf .lf) .lf) (.nd (some U1) .lf .lf)) (.nd (some iD) (.nd (some QZ) (.nd (some QO) .lf .lf) .lf) (.nd (some UY) .lf .lf))) (.nd (some UR) (.nd (some UJ) (.nd (some pQ) (.nd (some QR) .lf .lf) .lf) (.nd (some ty1) .lf .lf)) (.nd (some ty1) (.nd (some ty1) .lf .lf) (.nd (some ty1) .lf .lf)))))) (.nd (some ty5) (.nd (some ty9) (.nd (some Oh) (.nd (some UT) (.nd (some UP) (.nd (some ty1) (.nd (some ty1) .lf .lf) .lf) (.nd (some QY) .lf .lf)) (.nd (some ty1) (.nd (some ty1) (.nd (some ty1) .lf .lf) .lf) (.nd (some ty1) .lf .lf))) (.nd (some ty1) (.nd (some ty0) (.nd (some ty1) (.nd (some ty1) .lf .lf) .lf) (.nd (some QX) .lf .lf)) (.nd (some ty1) (.nd (some ty0) (.nd (some ty1) .lf .lf) .lf) (.nd (some Og) .lf .lf)))) (.nd (some ty1) (.nd (some ty1) (.nd (some UN) (.nd (some Q5) (.nd (some ty1) .lf .lf) .lf) (.nd (some ty1) .lf .lf)) (.nd (some ty0) (.nd (some pQ) (.nd (some ty1) .lf .lf) .lf) (.nd (some QV) .lf .lf))) (.nd (some ty1) (.nd (some UK) (.nd (some Q2) (.nd (some QS) .lf .lf) .lf) (.nd (some ty1) .lf .lf)) (.nd (some ty1) (.nd (some Of) .lf .lf) (.nd (some ty1) .lf .lf))))) (.nd (some U4) (.nd (some U0) (.nd (some US) (.nd (some ty1) (.nd (some ty1) (.nd (some QT) .lf .lf) .lf) (.nd (some ty1) .lf .lf)) (.nd (some iD) (.nd (some iD) (.nd (some QP) .lf .lf) .lf) (.nd (some ty1) .lf .lf))) (.nd (some ty1) (.nd (some ty0) (.nd (some Q3) (.nd (some ty1) .lf .lf) .lf) (.nd (some ty1) .lf .lf)) (.nd (some U6) (.nd (some UK) .lf .lf) (.nd (some ty1) .lf .lf)))) (.nd (some ty0) (.nd (some ty1) (.nd (some UM) (.nd (some ty1) (.nd (some ty1) .lf .lf) .lf) (.nd (some ty1) .lf .lf)) (.nd (some ty1) (.nd (some Oh) (.nd (some U0) .lf .lf) .lf) (.nd (some ty5) .lf .lf))) (.nd (some UQ) (.nd (some UI) (.nd (some Q1) (.nd (some ty1) .lf .lf) .lf) (.nd (some ty1) .lf .lf)) (.nd (some Q7) (.nd (some ty1) .lf .lf) (.nd (some ty0) .lf .lf))))))))
noncomputable def ft:Tr Func:=(.nd none (.nd none (.nd (some Tryz.f3) (.nd (some Tryz.f7) (.nd (some Tryz.f15) (.nd (some Tryz.f31) (.nd (some Tryz.f63) .lf (.nd (some Tryz.f191) .lf .lf)) (.nd (some Tryz.f95) (.nd (some Tryz.f159) .lf .lf) .lf)) (.nd (some Tryz.f47) (.nd (some Tryz.f79) (.nd (some Tryz.f143) .lf .lf) (.nd (some Tryz.f207) .lf .lf)) (.nd (some Tryz.f111) (.nd (some Tryz.f175) .lf .lf) .lf))) (.nd (some Tryz.f23) (.nd none (.nd (some Tryz.f71) (.nd (some Tryz.f135) .lf .lf) (.nd (some Tryz.f199) .lf .lf)) (.nd (some Tryz.f103) (.nd (some Tryz.f167) .lf .lf) .lf)) (.nd (some Tryz.f55) (.nd (some Tryz.f87) (.nd (some Tryz.f151) .lf .lf) (.nd (some Tryz.f215) .lf .lf)) (.nd none (.nd (some Tryz.f183) .lf .lf) .lf)))) (.nd (some Tryz.f11) (.nd (some Tryz.f19) (.nd (some Tryz.f35) (.nd (some Tryz.f67) .lf (.nd (some Tryz.f195) .lf .lf)) (.nd (some Tryz.f99) (.nd (some Tryz.f163) .lf .lf) .lf)) (.nd (some Tryz.f51) (.nd (some Tryz.f83) (.nd (some Tryz.f147) .lf .lf) (.nd (some Tryz.f211) .lf .lf)) (.nd (some Tryz.f115) (.nd (some Tryz.f179) .lf .lf) .lf))) (.nd (some Tryz.f27) (.nd (some Tryz.f43) (.nd (some Tryz.f75) (.nd (some Tryz.f139) .lf .lf) (.nd (some Tryz.f203) .lf .lf)) (.nd (some Tryz.f107) (.nd (some Tryz.f171) .lf .lf) .lf)) (.nd (some Tryz.f59) (.nd (some Tryz.f91) (.nd (some Tryz.f155) .lf .lf) (.nd (some Tryz.f219) .lf .lf)) (.nd none (.nd (some Tryz.f187) .lf .lf) .lf))))) (.nd (some Tryz.f5) (.nd (some Tryz.f9) (.nd (some Tryz.f17) (.nd (some Tryz.f33) (.nd (some Tryz.f65) .lf (.nd (some Tryz.f193) .lf .lf)) (.nd none (.nd (some Tryz.f161) .lf .lf) .lf)) (.nd (some Tryz.f49) (.nd (some Tryz.f81) (.nd (some Tryz.f145) .lf .lf) (.nd (some Tryz.f209) .lf .lf)) (.nd (some Tryz.f113) (.nd (some Tryz.f177) .lf .lf) .lf))) (.nd (some Tryz.f25) (.nd (some Tryz.f41) (.nd (some Tryz.f73) (.nd (some Tryz.f137) .lf .lf) (.nd (some Tryz.f201) .lf .lf)) (.nd (some Tryz.f105) (.nd (some Tryz.f169) .lf .lf) .lf)) (.nd (some Tryz.f57) (.nd (some Tryz.f89) (.nd (some Tryz.f153) .lf .lf) (.nd (some Tryz.f217) .lf .lf)) (.nd none (.nd (some Tryz.f185) .lf .lf) .lf)))) (.nd (some Tryz.f13) (.nd (some Tryz.f21) (.nd (some Tryz.f37) (.nd (some Tryz.f69) (.nd (some Tryz.f133) .lf .lf) (.nd (some Tryz.f197) .lf .lf)) (.nd (some Tryz.f101) (.nd (some Tryz.f165) .lf .lf) .lf)) (.nd (some Tryz.f53) (.nd (some Tryz.f85) (.nd (some Tryz.f149) .lf .lf) (.nd (some Tryz.f213) .lf .lf)) (.nd none (.nd (some Tryz.f181) .lf .lf) .lf))) (.nd (some Tryz.f29) (.nd (some Tryz.f45) (.nd (some Tryz.f77) (.nd (some Tryz.f141) .lf .lf) (.nd (some Tryz.f205) .lf .lf)) (.nd (some Tryz.f109) (.nd (some Tryz.f173) .lf .lf) .lf)) (.nd (some Tryz.f61) (.nd (some Tryz.f93) (.nd (some Tryz.f157) .lf .lf) .lf) (.nd none (.nd (some Tryz.f189) .lf .lf) .lf)))))) (.nd (some Tryz.f2) (.nd (some Tryz.f4) (.nd (some Tryz.f8) (.nd (some Tryz.f16) (.nd (some Tryz.f32) (.nd (some Tryz.f64) .lf (.nd (some Tryz.f192) .lf .lf)) (.nd (some Tryz.f96) (.nd (some Tryz.f160) .lf .lf) .lf)) (.nd (some Tryz.f48) (.nd (some Tryz.f80) (.nd (some Tryz.f144) .lf .lf) (.nd (some Tryz.f208) .lf .lf)) (.nd (some Tryz.f112) (.nd (some Tryz.f176) .lf .lf) .lf))) (.nd (some Tryz.f24) (.nd (some Tryz.f40) (.nd (some Tryz.f72) (.nd (some Tryz.f136) .lf .lf) (.nd (some Tryz.f200) .lf .lf)) (.nd (some Tryz.f104) (.nd (some Tryz.f168) .lf .lf) .lf)) (.nd (some Tryz.f56) (.nd (some Tryz.f88) (.nd (some Tryz.f152) .lf .lf) (.nd (some Tryz.f216) .lf .lf)) (.nd none (.nd (some Tryz.f184) .lf .lf) (.nd (some Tryz.f248) .lf .lf))))) (.nd (some Tryz.f12) (.nd (some Tryz.f20) (.nd (some Tryz.f36) (.nd (some Tryz.f68) .lf (.nd (some Tryz.f196) .lf .lf)) (.nd (some Tryz.f100) (.nd (some Tryz.f164) .lf .lf) .lf)) (.nd (some Tryz.f52) (.nd (some Tryz.f84) (.nd (some Tryz.f148) .lf .lf) (.nd (some Tryz.f212) .lf .lf)) (.nd (some Tryz.f116) (.nd (some Tryz.f180) .lf .lf) .lf))) (.nd (some Tryz.f28) (.nd (some Tryz.f44) (.nd (some Tryz.f76) (.nd (some Tryz.f140) .lf .lf) (.nd (some Tryz.f204) .lf .lf)) (.nd (some Tryz.f108) (.nd (some Tryz.f172) .lf .lf) .lf)) (.nd (some Tryz.f60) (.nd (some Tryz.f92) (.nd (some Tryz.f156) .lf .lf) (.nd (some Tryz.f220) .lf .lf)) (.nd none (.nd (some Tryz.f188) .lf .lf) .lf))))) (.nd (some Tryz.f6) (.nd (some Tryz.f10) (.nd (some Tryz.f18) (.nd (some Tryz.f34) (.nd (some Tryz.f66) .lf (.nd (some Tryz.f194) .lf .lf)) (.nd (some Tryz.f98) (.nd (some Tryz.f162) .lf .lf) .lf)) (.nd (some Tryz.f50) (.nd (some Tryz.f82) (.nd (some Tryz.f146) .lf .lf) (.nd (some Tryz.f210) .lf .lf)) (.nd (some Tryz.f114) (.nd (some Tryz.f178) .lf .lf) .lf))) (.nd (some Tryz.f26) (.nd (some Tryz.f42) (.nd (some Tryz.f74) (.nd (some Tryz.f138) .lf .lf) (.nd (some Tryz.f202) .lf .lf)) (.nd (some Tryz.f106) (.nd (some Tryz.f170) .lf .lf) (.nd (some Tryz.f234) .lf .lf))) (.nd (some Tryz.f58) (.nd (some Tryz.f90) (.nd (some Tryz.f154) .lf .lf) (.nd (some Tryz.f218) .lf .lf)) (.nd none (.nd (some Tryz.f186) .lf .lf) .lf)))) (.nd (some Tryz.f14) (.nd (some Tryz.f22) (.nd (some Tryz.f38) (.nd (some Tryz.f70) (.nd (some Tryz.f134) .lf .lf) (.nd (some Tryz.f198) .lf .lf)) (.nd (some Tryz.f102) (.nd (some Tryz.f166) .lf .lf) .lf)) (.nd (some Tryz.f54) (.nd (some Tryz.f86) (.nd (some Tryz.f150) .lf .lf) (.nd (some Tryz.f214) .lf .lf)) (.nd none (.nd (some Tryz.f182) .lf .lf) .lf))) (.nd (some Tryz.f30) (.nd (some Tryz.f46) (.nd (some Tryz.f78) (.nd (some Tryz.f142) .lf .lf) (.nd (some Tryz.f206) .lf .lf)) (.nd (some Tryz.f110) (.nd (some Tryz.f174) .lf .lf) (.nd (some Tryz.f238) .lf .lf))) (.nd (some Tryz.f62) (.nd (some Tryz.f94) (.nd (some Tryz.f158) .lf .lf) .lf) (.nd none (.nd (some Tryz.f190) .lf .lf) .lf)))))))
def gu:Tr (List Nat):=(.nd none (.nd none (.nd (some [0,1,2,3,4,5,6]) (.nd (some [0,2,3,4,5,6]) (.nd (some [0]) (.nd (some [0,1,2]) (.nd (some [0]) .lf .lf) .lf) (.nd none (.nd none (.nd (some [0]) .lf .lf) .lf) (.nd none (.nd (some [0]) .lf .lf) .lf))) (.nd none (.nd none (.nd none (.nd (some [0]) .lf .lf) (.nd (some [0]) .lf .lf)) .lf) (.nd none (.nd (some [0]) .lf .lf) (.nd none (.nd (some [0]) .lf .lf) .lf)))) (.nd (some [0,1,2,4,5,6]) (.nd none (.nd (some [0]) (.nd (some [0]) .lf (.nd (some [0]) .lf .lf)) (.nd (some [0]) .lf .lf)) .lf) (.nd (some [0]) .lf (.nd (some [0]) (.nd none .lf (.nd (some [0]) .lf .lf)) .lf)))) (.nd (some [0,1,2,3,4,5,6]) (.nd (some [0,1,2]) (.nd none (.nd none (.nd none .lf (.nd (some [0]) .lf .lf)) .lf) (.nd none (.nd none (.nd (some [0]) .lf .lf) .lf) .lf)) (.nd (some [0,2,3,4,5,6]) .lf (.nd none (.nd none .lf (.nd (some [0]) .lf .lf)) .lf))) (.nd (some [0,1,2]) (.nd none (.nd (some [0]) (.nd none (.nd (some [0]) .lf .lf) (.nd (some [0]) .lf .lf)) .lf) (.nd none (.nd none .lf (.nd (some [0]) .lf .lf)) (.nd none (.nd (some [0]) .lf .lf) .lf))) (.nd (some [0,1,2]) (.nd none (.nd (some [0]) .lf .lf) .lf) .lf)))) (.nd none (.nd (some [0,1,2,3,4,5,6]) (.nd (some [0]) (.nd none (.nd none (.nd (some [0]) .lf .lf) .lf) (.nd none (.nd (some [0]) .lf .lf) .lf)) (.nd (some [0,2,3,4,5,6]) (.nd none (.nd none (.nd (some [0]) .lf .lf) .lf) .lf) (.nd none (.nd (some [0]) .lf .lf) (.nd none .lf (.nd (some [0,1,2,3,4,5,6]) .lf .lf))))) (.nd none (.nd (some [0]) (.nd (some [0]) (.nd none .lf (.nd (some [0]) .lf .lf)) (.nd (some [0]) .lf .lf)) (.nd (some [0]) .lf .lf)) (.nd (some [0,1,2]) (.nd (some [4,5,6]) (.nd (some [0]) (.nd (some [0]) .lf .lf) (.nd (some [0]) .lf .lf)) .lf) (.nd (some [0]) .lf .lf)))) (.nd (some [0,1,2,3,4,5,6]) (.nd none (.nd (some [0]) (.nd (some [0]) .lf .lf) (.nd (some [0]) (.nd none (.nd (some [0]) .lf .lf) .lf) .lf)) (.nd (some [0]) (.nd none (.nd (some [6]) .lf .lf) .lf) .lf)) (.nd (some [0]) (.nd (some [0,2,4,5,6]) (.nd (some [0]) (.nd none .lf (.nd (some [0]) .lf .lf)) (.nd (some [0]) .lf .lf)) (.nd (some [0,1,2]) (.nd none .lf (.nd (some [0]) .lf .lf)) (.nd none (.nd (some [0]) .lf .lf) .lf))) (.nd none (.nd none .lf (.nd none (.nd (some [0]) .lf .lf) .lf)) (.nd (some [0]) .lf .lf))))))
def Dh {α:Type} (f:Nat->Option α):Tr α->(Nat->Nat)->Tr α
 | .lf,_=>.lf
 | .nd x l r,k=>.nd (match x with | none=>none | some _=>f (k 0)) (Dh f l fun n=>k (2 * n+1)) (Dh f r fun n=>k (2 * n+2))
theorem pj {α:Type} (f:Nat->Option α):∀(t:Tr α) (k:Nat->Nat),Tr.All (fun t i=>f t=some i) (Dh f t k) k
 | .lf,_=>trivial
 | .nd x l r,k=>⟨fun a h=>(by cases x with | none=>cases h | some _=>exact h),pj f l _,pj f r _⟩
theorem tt_eq:Dh (Iu Tryz.prog) tt (fun n=>n)=tt:=by kernel_rfl
theorem U8:Tr.All (fun t i=>Iu Tryz.prog t=some i) tt (fun n=>n):=by
 have h:=pj (Iu Tryz.prog) tt fun n=>n
 rw [tt_eq] at h
 exact h
noncomputable def fnO (f:Nat):Option Func:=match Tryz.prog.funcs[f]? with
 | none=>none
 | some g=>match g.body.isSome,g.name == "runtime.NumGoroutine" with
   | true,false=>some g
   | _,_=>none
theorem W5 {f:Nat} {g:Func} (h:fnO f=some g):Tryz.prog.funcs[f]?=some g /\ g.body.isSome=true /\ (g.name == "runtime.NumGoroutine")=false:=by
 unfold fnO at h
 split at h
 ·cases h
 ·rename_i e
  split at h
  ·rename_i h1 h2;cases h;exact⟨e,h1,h2⟩
  ·cases h
theorem ft_eq:Dh fnO ft (fun n=>n)=ft:=by kernel_rfl
theorem W3:Tr.All (fun f g=>fnO f=some g) ft (fun n=>n):=by
 have h:=pj fnO ft fun n=>n
 rw [ft_eq] at h
 exact h
theorem Va {AV:Type} (G:Nat) (F:Intf AV) (hv:Op->List SV->Hp AV->T (SV×Hp AV)) (lp:FuncId->Nat->Option (St AV->T (Ex×St AV))):TblOk Tryz.prog ({tt:=tt,ft:=ft,gu:=gu,G:=G,F:=F,hv:=hv,lp:=lp}:Env AV):=⟨fun t i h=>Tr.all_get U8 t i h,fun f g h=>W5 (Tr.all_get W3 f g h),by kernel_rfl,fun t si h=>(by cases h),fun t m g h=>(by cases h)⟩
end
section
open Go Go.Sx Go.Proofs
set_option maxRecDepth 100000
def VN:SI:=(SI.mk 34 4 32 [Cell.il IntKind.i64 (Int.ofNat 0),Cell.il IntKind.i64 (Int.ofNat 0),Cell.il IntKind.i64 (Int.ofNat 0),Cell.il IntKind.i64 (Int.ofNat 0)])
def Kw:SI:=(SI.mk 151 7 56 [Cell.il IntKind.i64 (Int.ofNat 0),Cell.il IntKind.i64 (Int.ofNat 0),Cell.il IntKind.i64 (Int.ofNat 0),Cell.il IntKind.i64 (Int.ofNat 0),Cell.bl false,Cell.il IntKind.i64 (Int.ofNat 0),Cell.il IntKind.i64 (Int.ofNat 0)])
def Cr:SI:=(SI.mk 3 1 8 [Cell.il IntKind.i64 (Int.ofNat 0)])
def VM:SI:=(SI.mk 187 2 16 [Cell.il IntKind.i64 (Int.ofNat 0),Cell.il IntKind.i64 (Int.ofNat 0)])
def Ky:SI:=(SI.mk 60 5 40 [Cell.il IntKind.i64 (Int.ofNat 0),Cell.il IntKind.i64 (Int.ofNat 0),Cell.il IntKind.i64 (Int.ofNat 0),Cell.il IntKind.i64 (Int.ofNat 0),Cell.bl false])
def Kx:SI:=(SI.mk 127 52 416 [Cell.il IntKind.i64 (Int.ofNat 0),Cell.bl false,Cell.il IntKind.i64 (Int.ofNat 0),Cell.il IntKind.i64 (Int.ofNat 0),Cell.il IntKind.i64 (Int.ofNat 0),Cell.il IntKind.i64 (Int.ofNat 0),Cell.bl false,Cell.il IntKind.i64 (Int.ofNat 0),Cell.il IntKind.i64 (Int.ofNat 0),Cell.il IntKind.i64 (Int.ofNat 0),Cell.il IntKind.i64 (Int.ofNat 0),Cell.bl false,Cell.il IntKind.i64 (Int.ofNat 0),Cell.il IntKind.i64 (Int.ofNat 0),Cell.il IntKind.i64 (Int.ofNat 0),Cell.il IntKind.i64 (Int.ofNat 0),Cell.bl false,Cell.il IntKind.i64 (Int.ofNat 0),Cell.il IntKind.i64 (Int.ofNat 0),Cell.il IntKind.i64 (Int.ofNat 0),Cell.il IntKind.i64 (Int.ofNat 0),Cell.bl false,Cell.il IntKind.i64 (Int.ofNat 0),Cell.il IntKind.i64 (Int.ofNat 0),Cell.il IntKind.i64 (Int.ofNat 0),Cell.il IntKind.i64 (Int.ofNat 0),Cell.bl false,Cell.il IntKind.i64 (Int.ofNat 0),Cell.il IntKind.i64 (Int.ofNat 0),Cell.il IntKind.i64 (Int.ofNat 0),Cell.il IntKind.i64 (Int.ofNat 0),Cell.bl false,Cell.il IntKind.i64 (Int.ofNat 0),Cell.il IntKind.i64 (Int.ofNat 0),Cell.il IntKind.i64 (Int.ofNat 0),Cell.il IntKind.i64 (Int.ofNat 0),Cell.bl false,Cell.il IntKind.i64 (Int.ofNat 0),Cell.il IntKind.i64 (Int.ofNat 0),Cell.il IntKind.i64 (Int.ofNat 0),Cell.il IntKind.i64 (Int.ofNat 0),Cell.bl false,Cell.il IntKind.i64 (Int.ofNat 0),Cell.il IntKind.i64 (Int.ofNat 0),Cell.il IntKind.i64 (Int.ofNat 0),Cell.il IntKind.i64 (Int.ofNat 0),Cell.bl false,Cell.il IntKind.i64 (Int.ofNat 0),Cell.il IntKind.i64 (Int.ofNat 0),Cell.il IntKind.i64 (Int.ofNat 0),Cell.il IntKind.i64 (Int.ofNat 0),Cell.bl false])
def Rn:SI:=(SI.mk 29 1 16 [Cell.inil])
def Gh:SI:=(SI.mk 139 3 24 [Cell.bl false,Cell.il IntKind.i64 (Int.ofNat 0),Cell.il IntKind.i64 (Int.ofNat 0)])
def Rm:SI:=(SI.mk 305 4 16 [Cell.il IntKind.i32 (Int.ofNat 0),Cell.il IntKind.i32 (Int.ofNat 0),Cell.il IntKind.i32 (Int.ofNat 0),Cell.il IntKind.i32 (Int.ofNat 0)])
def slT:Tr SI:=(.nd none (.nd none (.nd none .lf (.nd none .lf (.nd none .lf (.nd none (.nd (some VM) .lf .lf) .lf)))) (.nd none (.nd none .lf (.nd none (.nd (some Kw) .lf .lf) .lf)) (.nd none (.nd none .lf (.nd none .lf (.nd (some Ky) .lf .lf))) .lf))) (.nd none (.nd none .lf (.nd none .lf (.nd none (.nd none (.nd none .lf (.nd (some Gh) .lf .lf)) .lf) .lf))) (.nd none (.nd none .lf (.nd none .lf (.nd none (.nd (some Cr) .lf .lf) .lf))) (.nd none (.nd (some VN) .lf (.nd none .lf (.nd (some Kx) (.nd (some Rn) .lf .lf) .lf))) (.nd none (.nd none .lf (.nd none (.nd none (.nd (some Rm) .lf .lf) .lf) .lf)) .lf)))))
theorem XP:rI Tryz.prog 22=some VN:=by kernel_rfl
theorem XO:rI Tryz.prog 41=some Kw:=by kernel_rfl
theorem XN:rI Tryz.prog 90=some Cr:=by kernel_rfl
theorem XM:rI Tryz.prog 91=some VM:=by kernel_rfl
theorem VL:rI Tryz.prog 117=some Ky:=by kernel_rfl
theorem VK:rI Tryz.prog 118=some Kx:=by kernel_rfl
theorem VJ:rI Tryz.prog 182=some Rn:=by kernel_rfl
theorem VI:rI Tryz.prog 204=some Gh:=by kernel_rfl
theorem VH:rI Tryz.prog 302=some Rm:=by kernel_rfl
theorem VG:Tr.All (fun t i=>rI Tryz.prog t=some i) slT (fun n=>n):=⟨(fun a h=>by cases h),⟨(fun a h=>by cases h),⟨(fun a h=>by cases h),trivial,⟨(fun a h=>by cases h),trivial,⟨(fun a h=>by cases h),trivial,⟨(fun a h=>by cases h),⟨(fun a h=>by cases h;exact XM),trivial,trivial⟩,trivial⟩⟩⟩⟩,⟨(fun a h=>by cases h),⟨(fun a h=>by cases h),trivial,⟨(fun a h=>by cases h),⟨(fun a h=>by cases h;exact XO),trivial,trivial⟩,trivial⟩⟩,⟨(fun a h=>by cases h),⟨(fun a h=>by cases h),trivial,⟨(fun a h=>by cases h),trivial,⟨(fun a h=>by cases h;exact VL),trivial,trivial⟩⟩⟩,trivial⟩⟩⟩,⟨(fun a h=>by cases h),⟨(fun a h=>by cases h),trivial,⟨(fun a h=>by cases h),trivial,⟨(fun a h=>by cases h),⟨(fun a h=>by cases h),⟨(fun a h=>by cases h),trivial,⟨(fun a h=>by cases h;exact VI),trivial,trivial⟩⟩,trivial⟩,trivial⟩⟩⟩,⟨(fun a h=>by cases h),⟨(fun a h=>by cases h),trivial,⟨(fun a h=>by cases h),trivial,⟨(fun a h=>by cases h),⟨(fun a h=>by cases h;exact XN),trivial,trivial⟩,trivial⟩⟩⟩,⟨(fun a h=>by cases h),⟨(fun a h=>by cases h;exact XP),trivial,⟨(fun a h=>by cases h),trivial,⟨(fun a h=>by cases h;exact VK),⟨(fun a h=>by cases h;exact VJ),trivial,trivial⟩,trivial⟩⟩⟩,⟨(fun a h=>by cases h),⟨(fun a h=>by cases h),trivial,⟨(fun a h=>by cases h),⟨(fun a h=>by cases h),⟨(fun a h=>by cases h;exact VH),trivial,trivial⟩,trivial⟩,trivial⟩⟩,trivial⟩⟩⟩⟩⟩
theorem OE:Un Tryz.prog slT:=fun t i h=>Tr.all_get VG t i h
def mtF (t:TypeId) (m:String):Option FuncId:=match decide (m = "Next") with
 | true=>match Nat.beq t 96 with | true=>some 133 | false=>match Nat.beq t 99 with | true=>some 143 | false=>match Nat.beq t 102 with | true=>some 152 | false=>match Nat.beq t 105 with | true=>some 174 | false=>match Nat.beq t 108 with | true=>some 193 | false=>none
 | false=>none
theorem Wo (v:Value) (w:World):(Go.method (Tryz.prog.types.size+Made.depth) 96 v "Next").run Tryz.prog w=.ok (133,v) w:=by kernel_rfl
theorem Wn (v:Value) (w:World):(Go.method (Tryz.prog.types.size+Made.depth) 99 v "Next").run Tryz.prog w=.ok (143,v) w:=by kernel_rfl
theorem Wm (v:Value) (w:World):(Go.method (Tryz.prog.types.size+Made.depth) 102 v "Next").run Tryz.prog w=.ok (152,v) w:=by kernel_rfl
theorem Wl (v:Value) (w:World):(Go.method (Tryz.prog.types.size+Made.depth) 105 v "Next").run Tryz.prog w=.ok (174,v) w:=by kernel_rfl
theorem Wk (v:Value) (w:World):(Go.method (Tryz.prog.types.size+Made.depth) 108 v "Next").run Tryz.prog w=.ok (193,v) w:=by kernel_rfl
theorem XY:∀t m g,mtF t m=some g->∀(v:Value) (w:World),(Go.method (Tryz.prog.types.size+Made.depth) t v m).run Tryz.prog w=.ok (g,v) w:=by
 intro t m g h v w
 unfold mtF at h
 split at h
 ·rename_i hm
  have hm:=of_decide_eq_true hm
  subst hm
  split at h
  ·rename_i e
   have e:=(ai _ _).1 e
   subst e
   cases h
   exact Wo v w
  split at h
  ·rename_i e
   have e:=(ai _ _).1 e
   subst e
   cases h
   exact Wn v w
  split at h
  ·rename_i e
   have e:=(ai _ _).1 e
   subst e
   cases h
   exact Wm v w
  split at h
  ·rename_i e
   have e:=(ai _ _).1 e
   subst e
   cases h
   exact Wl v w
  split at h
  ·rename_i e
   have e:=(ai _ _).1 e
   subst e
   cases h
   exact Wk v w
  cases h
 ·cases h
theorem JI {AV:Type} {N N':Env AV} (h:TblOk Tryz.prog N) (ht:N'.tt=N.tt) (hf:N'.ft=N.ft) (hs:N'.sl=slT) (hm:N'.mt=mtF):TblOk Tryz.prog N' :=
 ⟨fun t i e=>h.ty t i (by rw [<- ht];exact e),fun f g e=>h.fn f g (by rw [<- hf];exact e),h.mix,fun t si e=>OE t si (by rw [<- hs];exact e),fun t m g e=>XY t m g (by rw [<- hm];exact e)⟩
end
end Go.Proofs.YtadmfaohjnjajaaGreatDoor
