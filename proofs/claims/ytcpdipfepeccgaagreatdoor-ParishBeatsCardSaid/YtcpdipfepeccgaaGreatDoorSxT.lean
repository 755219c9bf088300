import Derived.Test.YtcpdipfepeccgaaGreatDoorSxM
import Derived.Test.YtcpdipfepeccgaaGreatDoorProg
import Derived.Test.YtcpdipfepeccgaaGreatDoorSxZ
set_option linter.unusedVariables false
set_option linter.unusedSimpArgs false
set_option maxHeartbeats 4000000
namespace Go.Proofs.YtcpdipfepeccgaaGreatDoor
open Go Go.Sx Go.Proofs
set_option maxRecDepth 100000
abbrev zI:Int:=Int.ofNat 0
abbrev aa:Cell:=Cell.il IntKind.i64 zI
abbrev ab:FK:=FK.int IntKind.i64
abbrev CF:Cell:=Cell.il IntKind.u8 zI
abbrev Tl:FK:=FK.int IntKind.u8
abbrev DS:Cell:=Cell.il IntKind.u64 zI
abbrev Tm:FK:=FK.int IntKind.u64
abbrev DT:Cell:=Cell.il IntKind.u32 zI
abbrev Tn:FK:=FK.int IntKind.u32
def ty0:TI:=(TI.mk Kd.other 1 none none)
def ty1:TI:=(TI.mk Kd.other 1 (some [Cell.nfn]) none)
def ty2:TI:=(TI.mk (Kd.int IntKind.i64) 1 (some [aa]) (some [ab]))
def ty4:TI:=(TI.mk Kd.bool 1 (some [Cell.bl false]) (some [FK.bool]))
def ty5:TI:=(TI.mk (Kd.int IntKind.u8) 1 (some [CF]) (some [Tl]))
def ty7:TI:=(TI.mk (Kd.struct [FdI.mk 0 1 2 false,FdI.mk 1 1 3 false,FdI.mk 2 1 4 false,FdI.mk 3 1 6 false]) 4 (some [aa,aa,Cell.bl false,CF]) (some [ab,ab,FK.bool,Tl]))
def ty9:TI:=(TI.mk Kd.str 1 (some [Cell.st (ByteArray.mk (Array.mk []))]) (some [FK.str]))
def Om:TI:=(TI.mk (Kd.int IntKind.u64) 1 (some [DS]) (some [Tm]))
def QX:TI:=(TI.mk (Kd.struct [FdI.mk 0 1 9 false,FdI.mk 1 1 12 false]) 2 (some [Cell.st (ByteArray.mk (Array.mk [])),DS]) none)
def fR:TI:=(TI.mk Kd.ptr 1 (some [Cell.pnil]) none)
def Kn:TI:=(TI.mk (Kd.struct [FdI.mk 0 1 17 false]) 1 (some [Cell.pnil]) none)
def u7:TI:=(TI.mk Kd.iface 1 (some [Cell.inil]) none)
def Km:TI:=(TI.mk (Kd.int IntKind.i32) 1 (some [Cell.il IntKind.i32 zI]) (some [FK.int IntKind.i32]))
def TT:TI:=(TI.mk (Kd.arr 5 1 false) 5 (some [aa,aa,aa,aa,aa]) (some [ab,ab,ab,ab,ab]))
def Ol:TI:=(TI.mk (Kd.slice 4) 1 (some [Cell.snil]) none)
def Oj:TI:=(TI.mk (Kd.slice 1) 1 (some [Cell.snil]) none)
def QN:TI:=(TI.mk (Kd.struct [FdI.mk 0 1 3 false,FdI.mk 1 1 3 false,FdI.mk 2 1 3 false,FdI.mk 3 1 3 false]) 4 (some [aa,aa,aa,aa]) (some [ab,ab,ab,ab]))
def Kl:TI:=(TI.mk (Kd.struct [FdI.mk 0 1 3 false,FdI.mk 1 1 3 false]) 2 (some [aa,aa]) (some [ab,ab]))
def QL:TI:=(TI.mk (Kd.struct [FdI.mk 0 1 3 false,FdI.mk 1 1 4 false,FdI.mk 2 4 33 true,FdI.mk 6 1 4 false,FdI.mk 7 1 4 false,FdI.mk 8 2 35 true]) 10 (some [aa,Cell.bl false,aa,aa,aa,aa,Cell.bl false,Cell.bl false,aa,aa]) (some [ab,FK.bool,ab,ab,ab,ab,FK.bool,FK.bool,ab,ab]))
def TS:TI:=(TI.mk (Kd.slice 10) 1 (some [Cell.snil]) none)
def TR:TI:=(TI.mk (Kd.arr 6 1 false) 6 (some [Cell.snil,Cell.snil,Cell.snil,Cell.snil,Cell.snil,Cell.snil]) none)
def TQ:TI:=(TI.mk (Kd.arr 6 1 false) 6 (some [Cell.bl false,Cell.bl false,Cell.bl false,Cell.bl false,Cell.bl false,Cell.bl false]) (some [FK.bool,FK.bool,FK.bool,FK.bool,FK.bool,FK.bool]))
def TP:TI:=(TI.mk (Kd.arr 6 1 false) 6 (some [aa,aa,aa,aa,aa,aa]) (some [ab,ab,ab,ab,ab,ab]))
def QK:TI:=(TI.mk (Kd.struct [FdI.mk 0 1 3 false,FdI.mk 1 1 3 false,FdI.mk 2 1 3 false,FdI.mk 3 1 3 false,FdI.mk 4 1 3 false]) 5 (some [aa,aa,aa,aa,aa]) (some [ab,ab,ab,ab,ab]))
def QJ:TI:=(TI.mk (Kd.struct [FdI.mk 0 1 3 false,FdI.mk 1 1 43 false,FdI.mk 2 1 58 false,FdI.mk 3 1 41 false]) 4 (some [aa,Cell.pnil,Cell.snil,Cell.snil]) none)
def QI:TI:=(TI.mk (Kd.struct [FdI.mk 0 1 62 false,FdI.mk 1 1 23 false,FdI.mk 2 1 3 false,FdI.mk 3 1 3 false]) 4 (some [Cell.pnil,Cell.snil,aa,aa]) none)
def QH:TI:=(TI.mk (Kd.struct [FdI.mk 0 1 4 false,FdI.mk 1 2 35 true,FdI.mk 3 1 3 false]) 4 (some [Cell.bl false,aa,aa,aa]) (some [FK.bool,ab,ab,ab]))
def TO:TI:=(TI.mk (Kd.slice 5) 1 (some [Cell.snil]) none)
def TN:TI:=(TI.mk (Kd.slice 52) 1 (some [Cell.snil]) none)
def QG:TI:=(TI.mk (Kd.struct [FdI.mk 0 1 75 false,FdI.mk 1 1 76 false,FdI.mk 2 1 24 false,FdI.mk 3 1 3 false,FdI.mk 4 1 3 false,FdI.mk 5 1 30 false]) 6 (some [Cell.snil,Cell.snil,Cell.snil,aa,aa,Cell.inil]) none)
def TM:TI:=(TI.mk (Kd.slice 2) 1 (some [Cell.snil]) none)
def QF:TI:=(TI.mk (Kd.struct [FdI.mk 0 1 24 false,FdI.mk 1 1 84 false,FdI.mk 2 1 75 false,FdI.mk 3 1 3 false,FdI.mk 4 1 30 false]) 5 (some [Cell.snil,Cell.snil,Cell.snil,aa,Cell.inil]) none)
def Nk:TI:=(TI.mk (Kd.struct [FdI.mk 0 1 3 false,FdI.mk 1 1 3 false,FdI.mk 2 1 3 false]) 3 (some [aa,aa,aa]) (some [ab,ab,ab]))
def Nj:TI:=(TI.mk (Kd.struct [FdI.mk 0 1 3 false,FdI.mk 1 1 3 false,FdI.mk 2 1 3 false,FdI.mk 3 1 3 false,FdI.mk 4 1 4 false]) 5 (some [aa,aa,aa,aa,Cell.bl false]) (some [ab,ab,ab,ab,FK.bool]))
def Ni:TI:=(TI.mk (Kd.struct [FdI.mk 0 1 3 false,FdI.mk 1 3 105 true,FdI.mk 4 5 107 true,FdI.mk 9 5 107 true,FdI.mk 14 1 3 false,FdI.mk 15 1 3 false,FdI.mk 16 2 35 true]) 18 (some [aa,aa,aa,aa,aa,aa,aa,aa,Cell.bl false,aa,aa,aa,aa,Cell.bl false,aa,aa,aa,aa]) (some [ab,ab,ab,ab,ab,ab,ab,ab,FK.bool,ab,ab,ab,ab,FK.bool,ab,ab,ab,ab]))
def Nh:TI:=(TI.mk (Kd.struct [FdI.mk 0 1 103 false,FdI.mk 1 1 3 false,FdI.mk 2 18 109 true,FdI.mk 20 4 33 true,FdI.mk 24 1 111 false,FdI.mk 25 2 35 true]) 27 (some [Cell.pnil,aa,aa,aa,aa,aa,aa,aa,aa,aa,Cell.bl false,aa,aa,aa,aa,Cell.bl false,aa,aa,aa,aa,aa,aa,aa,aa,Cell.inil,aa,aa]) none)
def Ng:TI:=(TI.mk (Kd.struct [FdI.mk 0 1 3 false,FdI.mk 1 1 3 false,FdI.mk 2 27 113 true]) 29 (some [aa,aa,Cell.pnil,aa,aa,aa,aa,aa,aa,aa,aa,aa,Cell.bl false,aa,aa,aa,aa,Cell.bl false,aa,aa,aa,aa,aa,aa,aa,aa,Cell.inil,aa,aa]) none)
def Nf:TI:=(TI.mk (Kd.struct [FdI.mk 0 1 3 false,FdI.mk 1 3 105 true,FdI.mk 4 5 107 true,FdI.mk 9 5 107 true]) 14 (some [aa,aa,aa,aa,aa,aa,aa,aa,Cell.bl false,aa,aa,aa,aa,Cell.bl false]) (some [ab,ab,ab,ab,ab,ab,ab,ab,FK.bool,ab,ab,ab,ab,FK.bool]))
def Nd:TI:=(TI.mk (Kd.struct [FdI.mk 0 5 107 true,FdI.mk 5 1 4 false]) 6 (some [aa,aa,aa,aa,Cell.bl false,Cell.bl false]) (some [ab,ab,ab,ab,FK.bool,FK.bool]))
def mX:TI:=(TI.mk (Kd.struct [FdI.mk 0 1 3 false,FdI.mk 1 18 109 true]) 19 (some [aa,aa,aa,aa,aa,aa,aa,aa,aa,Cell.bl false,aa,aa,aa,aa,Cell.bl false,aa,aa,aa,aa]) (some [ab,ab,ab,ab,ab,ab,ab,ab,ab,FK.bool,ab,ab,ab,ab,FK.bool,ab,ab,ab,ab]))
def Nc:TI:=(TI.mk (Kd.struct [FdI.mk 0 19 157 true,FdI.mk 19 4 33 true,FdI.mk 23 5 107 true,FdI.mk 28 5 107 true,FdI.mk 33 1 3 false]) 34 (some [aa,aa,aa,aa,aa,aa,aa,aa,aa,Cell.bl false,aa,aa,aa,aa,Cell.bl false,aa,aa,aa,aa,aa,aa,aa,aa,aa,aa,aa,aa,Cell.bl false,aa,aa,aa,aa,Cell.bl false,aa]) (some [ab,ab,ab,ab,ab,ab,ab,ab,ab,FK.bool,ab,ab,ab,ab,FK.bool,ab,ab,ab,ab,ab,ab,ab,ab,ab,ab,ab,ab,FK.bool,ab,ab,ab,ab,FK.bool,ab]))
def Nb:TI:=(TI.mk (Kd.struct [FdI.mk 0 19 161 true,FdI.mk 19 4 33 true,FdI.mk 23 5 107 true,FdI.mk 28 5 107 true,FdI.mk 33 5 107 true,FdI.mk 38 5 107 true,FdI.mk 43 1 3 false]) 44 (some [aa,aa,aa,aa,aa,aa,aa,aa,aa,Cell.bl false,aa,aa,aa,aa,Cell.bl false,aa,aa,aa,aa,aa,aa,aa,aa,aa,aa,aa,aa,Cell.bl false,aa,aa,aa,aa,Cell.bl false,aa,aa,aa,aa,Cell.bl false,aa,aa,aa,aa,Cell.bl false,aa]) (some [ab,ab,ab,ab,ab,ab,ab,ab,ab,FK.bool,ab,ab,ab,ab,FK.bool,ab,ab,ab,ab,ab,ab,ab,ab,ab,ab,ab,ab,FK.bool,ab,ab,ab,ab,FK.bool,ab,ab,ab,ab,FK.bool,ab,ab,ab,ab,FK.bool,ab]))
def Na:TI:=(TI.mk (Kd.struct [FdI.mk 0 19 167 true,FdI.mk 19 4 33 true,FdI.mk 23 1 3 false,FdI.mk 24 1 3 false,FdI.mk 25 1 3 false,FdI.mk 26 1 3 false,FdI.mk 27 5 107 true,FdI.mk 32 5 107 true,FdI.mk 37 5 107 true,FdI.mk 42 1 168 false,FdI.mk 43 1 94 false,FdI.mk 44 2 35 true,FdI.mk 46 5 107 true]) 51 (some [aa,aa,aa,aa,aa,aa,aa,aa,aa,Cell.bl false,aa,aa,aa,aa,Cell.bl false,aa,aa,aa,aa,aa,aa,aa,aa,aa,aa,aa,aa,aa,aa,aa,aa,Cell.bl false,aa,aa,aa,aa,Cell.bl false,aa,aa,aa,aa,Cell.bl false,Cell.pnil,Cell.pnil,aa,aa,aa,aa,aa,aa,Cell.bl false]) none)
def M8:TI:=(TI.mk (Kd.struct [FdI.mk 0 19 172 true,FdI.mk 19 4 33 true,FdI.mk 23 1 173 false,FdI.mk 24 5 107 true,FdI.mk 29 1 3 false,FdI.mk 30 1 3 false,FdI.mk 31 1 3 false]) 32 (some [aa,aa,aa,aa,aa,aa,aa,aa,aa,Cell.bl false,aa,aa,aa,aa,Cell.bl false,aa,aa,aa,aa,aa,aa,aa,aa,Cell.pnil,aa,aa,aa,aa,Cell.bl false,aa,aa,aa]) none)
def QW:TI:=(TI.mk (Kd.slice 7) 1 (some [Cell.snil]) none)
def M7:TI:=(TI.mk (Kd.struct [FdI.mk 0 18 109 true,FdI.mk 18 1 3 false,FdI.mk 19 14 121 true,FdI.mk 33 5 107 true,FdI.mk 38 5 107 true,FdI.mk 43 1 3 false,FdI.mk 44 1 75 false,FdI.mk 45 1 179 false]) 46 (some [aa,aa,aa,aa,aa,aa,aa,aa,Cell.bl false,aa,aa,aa,aa,Cell.bl false,aa,aa,aa,aa,aa,aa,aa,aa,aa,aa,aa,aa,aa,Cell.bl false,aa,aa,aa,aa,Cell.bl false,aa,aa,aa,aa,Cell.bl false,aa,aa,aa,aa,Cell.bl false,aa,Cell.snil,Cell.snil]) none)
def QV:TI:=(TI.mk (Kd.arr 9 5 true) 45 (some [aa,aa,aa,aa,Cell.bl false,aa,aa,aa,aa,Cell.bl false,aa,aa,aa,aa,Cell.bl false,aa,aa,aa,aa,Cell.bl false,aa,aa,aa,aa,Cell.bl false,aa,aa,aa,aa,Cell.bl false,aa,aa,aa,aa,Cell.bl false,aa,aa,aa,aa,Cell.bl false,aa,aa,aa,aa,Cell.bl false]) (some [ab,ab,ab,ab,FK.bool,ab,ab,ab,ab,FK.bool,ab,ab,ab,ab,FK.bool,ab,ab,ab,ab,FK.bool,ab,ab,ab,ab,FK.bool,ab,ab,ab,ab,FK.bool,ab,ab,ab,ab,FK.bool,ab,ab,ab,ab,FK.bool,ab,ab,ab,ab,FK.bool]))
def M6:TI:=(TI.mk (Kd.struct [FdI.mk 0 1 4 false,FdI.mk 1 1 3 false,FdI.mk 2 1 3 false]) 3 (some [Cell.bl false,aa,aa]) (some [FK.bool,ab,ab]))
def M5:TI:=(TI.mk (Kd.struct [FdI.mk 0 46 181 true,FdI.mk 46 1 3 false,FdI.mk 47 1 3 false,FdI.mk 48 1 3 false,FdI.mk 49 1 3 false,FdI.mk 50 45 182 true,FdI.mk 95 3 184 true,FdI.mk 98 1 179 false,FdI.mk 99 1 3 false,FdI.mk 100 6 125 true]) 106 (some [aa,aa,aa,aa,aa,aa,aa,aa,Cell.bl false,aa,aa,aa,aa,Cell.bl false,aa,aa,aa,aa,aa,aa,aa,aa,aa,aa,aa,aa,aa,Cell.bl false,aa,aa,aa,aa,Cell.bl false,aa,aa,aa,aa,Cell.bl false,aa,aa,aa,aa,Cell.bl false,aa,Cell.snil,Cell.snil,aa,aa,aa,aa,aa,aa,aa,aa,Cell.bl false,aa,aa,aa,aa,Cell.bl false,aa,aa,aa,aa,Cell.bl false,aa,aa,aa,aa,Cell.bl false,aa,aa,aa,aa,Cell.bl false,aa,aa,aa,aa,Cell.bl false,aa,aa,aa,aa,Cell.bl false,aa,aa,aa,aa,Cell.bl false,aa,aa,aa,aa,Cell.bl false,Cell.bl false,aa,aa,Cell.snil,aa,aa,aa,aa,aa,Cell.bl false,Cell.bl false]) none)
def QU:TI:=(TI.mk (Kd.arr 10 5 true) 50 (some [aa,aa,aa,aa,Cell.bl false,aa,aa,aa,aa,Cell.bl false,aa,aa,aa,aa,Cell.bl false,aa,aa,aa,aa,Cell.bl false,aa,aa,aa,aa,Cell.bl false,aa,aa,aa,aa,Cell.bl false,aa,aa,aa,aa,Cell.bl false,aa,aa,aa,aa,Cell.bl false,aa,aa,aa,aa,Cell.bl false,aa,aa,aa,aa,Cell.bl false]) (some [ab,ab,ab,ab,FK.bool,ab,ab,ab,ab,FK.bool,ab,ab,ab,ab,FK.bool,ab,ab,ab,ab,FK.bool,ab,ab,ab,ab,FK.bool,ab,ab,ab,ab,FK.bool,ab,ab,ab,ab,FK.bool,ab,ab,ab,ab,FK.bool,ab,ab,ab,ab,FK.bool,ab,ab,ab,ab,FK.bool]))
def M4:TI:=(TI.mk (Kd.struct [FdI.mk 0 1 3 false,FdI.mk 1 1 4 false,FdI.mk 2 50 190 true]) 52 (some [aa,Cell.bl false,aa,aa,aa,aa,Cell.bl false,aa,aa,aa,aa,Cell.bl false,aa,aa,aa,aa,Cell.bl false,aa,aa,aa,aa,Cell.bl false,aa,aa,aa,aa,Cell.bl false,aa,aa,aa,aa,Cell.bl false,aa,aa,aa,aa,Cell.bl false,aa,aa,aa,aa,Cell.bl false,aa,aa,aa,aa,Cell.bl false,aa,aa,aa,aa,Cell.bl false]) (some [ab,FK.bool,ab,ab,ab,ab,FK.bool,ab,ab,ab,ab,FK.bool,ab,ab,ab,ab,FK.bool,ab,ab,ab,ab,FK.bool,ab,ab,ab,ab,FK.bool,ab,ab,ab,ab,FK.bool,ab,ab,ab,ab,FK.bool,ab,ab,ab,ab,FK.bool,ab,ab,ab,ab,FK.bool,ab,ab,ab,ab,FK.bool]))
def QT:TI:=(TI.mk (Kd.arr 2 1 false) 2 (some [aa,aa]) (some [ab,ab]))
def M3:TI:=(TI.mk (Kd.struct [FdI.mk 0 1 3 false,FdI.mk 1 1 30 false]) 2 (some [aa,Cell.inil]) none)
def M1:TI:=(TI.mk (Kd.struct [FdI.mk 0 19 219 true,FdI.mk 19 3 105 true,FdI.mk 22 1 3 false,FdI.mk 23 4 33 true,FdI.mk 27 1 168 false,FdI.mk 28 5 107 true,FdI.mk 33 1 3 false]) 34 (some [aa,aa,aa,aa,aa,aa,aa,aa,aa,Cell.bl false,aa,aa,aa,aa,Cell.bl false,aa,aa,aa,aa,aa,aa,aa,aa,aa,aa,aa,aa,Cell.pnil,aa,aa,aa,aa,Cell.bl false,aa]) none)
def QS:TI:=(TI.mk (Kd.slice 3) 1 (some [Cell.snil]) none)
def M0:TI:=(TI.mk (Kd.struct [FdI.mk 0 5 107 true,FdI.mk 5 1 3 false,FdI.mk 6 1 3 false]) 7 (some [aa,aa,aa,aa,Cell.bl false,aa,aa]) (some [ab,ab,ab,ab,FK.bool,ab,ab]))
def MZ:TI:=(TI.mk (Kd.struct [FdI.mk 0 1 17 false,FdI.mk 1 1 17 false,FdI.mk 2 1 17 false,FdI.mk 3 1 9 false]) 4 (some [Cell.pnil,Cell.pnil,Cell.pnil,Cell.st (ByteArray.mk (Array.mk []))]) none)
def QR:TI:=(TI.mk (Kd.arr 0 1 false) 0 (some []) (some []))
def MY:TI:=(TI.mk (Kd.struct [FdI.mk 0 0 256 true]) 0 (some []) none)
def QQ:TI:=(TI.mk (Kd.int IntKind.u32) 1 (some [DT]) (some [Tn]))
def MX:TI:=(TI.mk (Kd.struct [FdI.mk 0 1 12 false,FdI.mk 1 1 12 false,FdI.mk 2 1 259 false,FdI.mk 3 1 260 false,FdI.mk 4 1 5 false,FdI.mk 5 1 5 false,FdI.mk 6 1 261 false,FdI.mk 7 1 262 false,FdI.mk 8 1 263 false,FdI.mk 9 1 264 false,FdI.mk 10 1 265 false]) 11 (some [DS,DS,DT,CF,CF,CF,CF,Cell.nfn,Cell.pnil,Cell.il IntKind.i32 zI,Cell.il IntKind.i32 zI]) none)
def MW:TI:=(TI.mk (Kd.struct [FdI.mk 0 19 219 true,FdI.mk 19 3 105 true,FdI.mk 22 1 3 false,FdI.mk 23 3 105 true,FdI.mk 26 5 107 true,FdI.mk 31 5 107 true,FdI.mk 36 1 3 false,FdI.mk 37 1 4 false]) 38 (some [aa,aa,aa,aa,aa,aa,aa,aa,aa,Cell.bl false,aa,aa,aa,aa,Cell.bl false,aa,aa,aa,aa,aa,aa,aa,aa,aa,aa,aa,aa,aa,aa,aa,Cell.bl false,aa,aa,aa,aa,Cell.bl false,aa,Cell.bl false]) (some [ab,ab,ab,ab,ab,ab,ab,ab,ab,FK.bool,ab,ab,ab,ab,FK.bool,ab,ab,ab,ab,ab,ab,ab,ab,ab,ab,ab,ab,ab,ab,ab,FK.bool,ab,ab,ab,ab,FK.bool,ab,FK.bool]))
def MV:TI:=(TI.mk (Kd.struct [FdI.mk 0 3 105 true,FdI.mk 3 5 107 true]) 8 (some [aa,aa,aa,aa,aa,aa,aa,Cell.bl false]) (some [ab,ab,ab,ab,ab,ab,ab,FK.bool]))
def QP:TI:=(TI.mk (Kd.arr 3 8 true) 24 (some [aa,aa,aa,aa,aa,aa,aa,Cell.bl false,aa,aa,aa,aa,aa,aa,aa,Cell.bl false,aa,aa,aa,aa,aa,aa,aa,Cell.bl false]) (some [ab,ab,ab,ab,ab,ab,ab,FK.bool,ab,ab,ab,ab,ab,ab,ab,FK.bool,ab,ab,ab,ab,ab,ab,ab,FK.bool]))
def MU:TI:=(TI.mk (Kd.struct [FdI.mk 0 19 172 true,FdI.mk 19 8 309 true,FdI.mk 27 1 3 false,FdI.mk 28 1 3 false,FdI.mk 29 5 107 true,FdI.mk 34 1 3 false,FdI.mk 35 24 310 true,FdI.mk 59 5 107 true]) 64 (some [aa,aa,aa,aa,aa,aa,aa,aa,aa,Cell.bl false,aa,aa,aa,aa,Cell.bl false,aa,aa,aa,aa,aa,aa,aa,aa,aa,aa,aa,Cell.bl false,aa,aa,aa,aa,aa,aa,Cell.bl false,aa,aa,aa,aa,aa,aa,aa,aa,Cell.bl false,aa,aa,aa,aa,aa,aa,aa,Cell.bl false,aa,aa,aa,aa,aa,aa,aa,Cell.bl false,aa,aa,aa,aa,Cell.bl false]) (some [ab,ab,ab,ab,ab,ab,ab,ab,ab,FK.bool,ab,ab,ab,ab,FK.bool,ab,ab,ab,ab,ab,ab,ab,ab,ab,ab,ab,FK.bool,ab,ab,ab,ab,ab,ab,FK.bool,ab,ab,ab,ab,ab,ab,ab,ab,FK.bool,ab,ab,ab,ab,ab,ab,ab,FK.bool,ab,ab,ab,ab,ab,ab,ab,FK.bool,ab,ab,ab,ab,FK.bool]))
def MT:TI:=(TI.mk (Kd.struct [FdI.mk 0 1 9 false,FdI.mk 1 1 261 false]) 2 (some [Cell.st (ByteArray.mk (Array.mk [])),CF]) none)
def MS:TI:=(TI.mk (Kd.struct [FdI.mk 0 1 9 false]) 1 (some [Cell.st (ByteArray.mk (Array.mk []))]) (some [FK.str]))
def QO:TI:=(TI.mk Kd.other 1 (some [Cell.pnil]) none)
def QM:TI:=(TI.mk (Kd.int IntKind.u16) 1 (some [Cell.il IntKind.u16 zI]) (some [FK.int IntKind.u16]))
def MR:TI:=(TI.mk (Kd.struct [FdI.mk 0 1 264 false,FdI.mk 1 1 320 false,FdI.mk 2 1 320 false,FdI.mk 3 1 259 false,FdI.mk 4 1 259 false]) 5 (some [Cell.il IntKind.i32 zI,Cell.il IntKind.u16 zI,Cell.il IntKind.u16 zI,DT,DT]) none)
def MQ:TI:=(TI.mk (Kd.struct [FdI.mk 0 1 264 false,FdI.mk 1 1 265 false,FdI.mk 2 1 324 false,FdI.mk 3 1 324 false]) 4 (some [Cell.il IntKind.i32 zI,Cell.il IntKind.i32 zI,Cell.il IntKind.i32 zI,Cell.il IntKind.i32 zI]) none)
def tt:Tr TI:=(.nd (some ty0) (.nd (some ty1) (.nd (some ty2) (.nd (some ty7) (.nd (some fR) (.nd (some ty1) (.nd (some QI) (.nd (some ty1) (.nd (some MZ) .lf .lf) .lf) (.nd (some M4) (.nd (some ty1) .lf .lf) .lf)) (.nd (some ty0) (.nd (some Nc) (.nd (some ty1) .lf .lf) .lf) (.nd (some ty1) .lf .lf))) (.nd (some TR) (.nd (some ty1) (.nd (some ty1) (.nd (some ty1) .lf .lf) .lf) (.nd (some Kl) .lf .lf)) (.nd (some u7) (.nd (some M8) (.nd (some ty0) .lf .lf) .lf) (.nd (some ty1) .lf .lf)))) (.nd (some Ol) (.nd (some ty1) (.nd (some u7) (.nd (some ty1) (.nd (some fR) .lf .lf) .lf) (.nd (some ty1) (.nd (some ty1) .lf .lf) .lf)) (.nd (some fR) (.nd (some mX) (.nd (some ty1) .lf .lf) .lf) (.nd (some QS) .lf .lf))) (.nd (some ty1) (.nd (some ty1) (.nd (some ty1) (.nd (some ty1) .lf .lf) .lf) (.nd (some fR) .lf .lf)) (.nd (some ty1) (.nd (some M6) (.nd (some MU) .lf .lf) .lf) (.nd (some ty1) .lf .lf))))) (.nd (some ty9) (.nd (some Kn) (.nd (some Kl) (.nd (some QH) (.nd (some Kn) (.nd (some QQ) .lf .lf) .lf) (.nd (some ty1) (.nd (some Ol) .lf .lf) .lf)) (.nd (some ty1) (.nd (some Nb) (.nd (some MW) .lf .lf) .lf) (.nd (some ty1) .lf .lf))) (.nd (some ty0) (.nd (some ty1) (.nd (some ty1) (.nd (some ty1) .lf .lf) .lf) (.nd (some ty1) .lf .lf)) (.nd (some Ng) (.nd (some QW) (.nd (some fR) .lf .lf) .lf) (.nd (some ty1) .lf .lf)))) (.nd (some ty1) (.nd (some fR) (.nd (some TO) (.nd (some Oj) (.nd (some MX) .lf .lf) .lf) (.nd (some ty0) .lf .lf)) (.nd (some Nj) (.nd (some mX) (.nd (some ty1) .lf .lf) .lf) (.nd (some M0) .lf .lf))) (.nd (some QJ) (.nd (some fR) (.nd (some ty1) (.nd (some ty0) .lf .lf) .lf) (.nd (some mX) .lf .lf)) (.nd (some ty1) (.nd (some ty1) (.nd (some MS) .lf .lf) .lf) (.nd (some ty1) .lf .lf)))))) (.nd (some ty5) (.nd (some ty9) (.nd (some fR) (.nd (some QN) (.nd (some ty1) (.nd (some ty1) (.nd (some MY) .lf .lf) .lf) (.nd (some ty1) (.nd (some MR) .lf .lf) .lf)) (.nd (some fR) (.nd (some mX) (.nd (some fR) .lf .lf) .lf) (.nd (some ty1) .lf .lf))) (.nd (some TP) (.nd (some ty1) (.nd (some ty1) (.nd (some ty1) .lf .lf) .lf) (.nd (some ty0) .lf .lf)) (.nd (some Nh) (.nd (some ty1) (.nd (some ty1) .lf .lf) .lf) (.nd (some ty0) .lf .lf)))) (.nd (some ty1) (.nd (some TS) (.nd (some ty1) (.nd (some ty1) (.nd (some Km) .lf .lf) .lf) (.nd (some ty1) .lf .lf)) (.nd (some Nk) (.nd (some Na) (.nd (some fR) .lf .lf) .lf) (.nd (some ty1) .lf .lf))) (.nd (some ty1) (.nd (some ty0) (.nd (some ty1) (.nd (some ty1) .lf .lf) .lf) (.nd (some M3) .lf .lf)) (.nd (some Nf) (.nd (some M5) (.nd (some MT) .lf .lf) .lf) (.nd (some ty1) .lf .lf))))) (.nd (some QX) (.nd (some Km) (.nd (some QL) (.nd (some ty1) (.nd (some u7) (.nd (some ty5) .lf .lf) .lf) (.nd (some ty1) (.nd (some MQ) .lf .lf) .lf)) (.nd (some ty0) (.nd (some ty1) (.nd (some ty1) .lf .lf) .lf) (.nd (some ty1) .lf .lf))) (.nd (some QK) (.nd (some QF) (.nd (some ty1) (.nd (some ty1) .lf .lf) .lf) (.nd (some ty1) .lf .lf)) (.nd (some ty1) (.nd (some M7) (.nd (some MV) .lf .lf) .lf) (.nd (some ty1) .lf .lf)))) (.nd (some u7) (.nd (some ty1) (.nd (some QG) (.nd (some ty1) (.nd (some ty1) .lf .lf) .lf) (.nd (some ty1) .lf .lf)) (.nd (some Ni) (.nd (some fR) (.nd (some Om) .lf .lf) .lf) (.nd (some ty1) .lf .lf))) (.nd (some fR) (.nd (some ty1) (.nd (some mX) (.nd (some ty0) .lf .lf) .lf) (.nd (some M1) .lf .lf)) (.nd (some Nd) (.nd (some ty1) (.nd (some QO) .lf .lf) .lf) (.nd (some ty1) .lf .lf))))))) (.nd (some ty2) (.nd (some ty4) (.nd (some ty7) (.nd (some fR) (.nd (some QN) (.nd (some QI) (.nd (some ty1) (.nd (some QR) .lf .lf) .lf) (.nd (some M4) (.nd (some QM) .lf .lf) .lf)) (.nd (some ty1) (.nd (some mX) (.nd (some ty1) .lf .lf) .lf) (.nd (some fR) .lf .lf))) (.nd (some TQ) (.nd (some ty0) (.nd (some ty0) (.nd (some ty1) .lf .lf) .lf) (.nd (some Kl) .lf .lf)) (.nd (some Nh) (.nd (some ty1) (.nd (some ty1) .lf .lf) .lf) (.nd (some ty1) .lf .lf)))) (.nd (some Oj) (.nd (some ty1) (.nd (some ty1) (.nd (some u7) (.nd (some Km) .lf .lf) .lf) (.nd (some QT) .lf .lf)) (.nd (some Nk) (.nd (some fR) (.nd (some ty1) .lf .lf) .lf) (.nd (some ty1) .lf .lf))) (.nd (some ty1) (.nd (some fR) (.nd (some ty0) (.nd (some fR) .lf .lf) .lf) (.nd (some M3) .lf .lf)) (.nd (some Nf) (.nd (some M6) (.nd (some MU) .lf .lf) .lf) (.nd (some ty1) .lf .lf))))) (.nd (some Om) (.nd (some u7) (.nd (some QL) (.nd (some ty0) (.nd (some fR) (.nd (some ty5) .lf .lf) .lf) (.nd (some ty1) (.nd (some Km) .lf .lf) .lf)) (.nd (some fR) (.nd (some ty1) (.nd (some ty1) .lf .lf) .lf) (.nd (some ty1) .lf .lf))) (.nd (some ty1) (.nd (some TM) (.nd (some ty0) (.nd (some ty1) .lf .lf) .lf) (.nd (some ty1) .lf .lf)) (.nd (some ty0) (.nd (some M7) (.nd (some MV) .lf .lf) .lf) (.nd (some ty1) .lf .lf)))) (.nd (some Om) (.nd (some ty1) (.nd (some TN) (.nd (some ty1) (.nd (some ty1) .lf .lf) .lf) (.nd (some ty1) .lf .lf)) (.nd (some Ni) (.nd (some mX) (.nd (some ty1) .lf .lf) .lf) (.nd (some ty1) .lf .lf))) (.nd (some QJ) (.nd (some ty0) (.nd (some mX) (.nd (some ty1) .lf .lf) .lf) (.nd (some M1) .lf .lf)) (.nd (some Nd) (.nd (some ty1) (.nd (some MS) .lf .lf) .lf) (.nd (some fR) .lf .lf)))))) (.nd (some ty5) (.nd (some ty9) (.nd (some Kn) (.nd (some Kl) (.nd (some QH) (.nd (some Kn) (.nd (some MY) .lf .lf) .lf) (.nd (some fR) (.nd (some MR) .lf .lf) .lf)) (.nd (some ty0) (.nd (some Nb) (.nd (some MW) .lf .lf) .lf) (.nd (some ty1) .lf .lf))) (.nd (some ty1) (.nd (some ty0) (.nd (some ty0) (.nd (some ty1) .lf .lf) .lf) (.nd (some ty1) .lf .lf)) (.nd (some Ng) (.nd (some ty1) (.nd (some ty1) .lf .lf) .lf) (.nd (some ty1) .lf .lf)))) (.nd (some fR) (.nd (some ty1) (.nd (some ty1) (.nd (some u7) (.nd (some MX) .lf .lf) .lf) (.nd (some ty1) .lf .lf)) (.nd (some Nj) (.nd (some Na) (.nd (some ty1) .lf .lf) .lf) (.nd (some M0) .lf .lf))) (.nd (some Ol) (.nd (some ty1) (.nd (some ty1) (.nd (some fR) .lf .lf) .lf) (.nd (some mX) .lf .lf)) (.nd (some ty0) (.nd (some M5) (.nd (some MT) .lf .lf) .lf) (.nd (some ty1) .lf .lf))))) (.nd (some QX) (.nd (some TT) (.nd (some ty0) (.nd (some u7) (.nd (some ty0) (.nd (some ty1) .lf .lf) .lf) (.nd (some ty1) (.nd (some MQ) .lf .lf) .lf)) (.nd (some ty1) (.nd (some mX) (.nd (some ty1) .lf .lf) .lf) (.nd (some ty1) .lf .lf))) (.nd (some QK) (.nd (some QF) (.nd (some ty0) (.nd (some ty1) .lf .lf) .lf) (.nd (some Oj) .lf .lf)) (.nd (some fR) (.nd (some QV) (.nd (some QP) .lf .lf) .lf) (.nd (some ty1) .lf .lf)))) (.nd (some u7) (.nd (some ty1) (.nd (some QG) (.nd (some ty1) (.nd (some ty1) .lf .lf) .lf) (.nd (some ty1) .lf .lf)) (.nd (some u7) (.nd (some M8) (.nd (some ty1) .lf .lf) .lf) (.nd (some ty1) .lf .lf))) (.nd (some fR) (.nd (some fR) (.nd (some Nc) (.nd (some ty1) .lf .lf) .lf) (.nd (some ty1) .lf .lf)) (.nd (some ty0) (.nd (some QU) (.nd (some fR) .lf .lf) .lf) (.nd (some MZ) .lf .lf))))))))
noncomputable def ft:Tr Func:=(.nd none (.nd none (.nd (some Tryz.f3) (.nd (some Tryz.f7) (.nd (some Tryz.f15) (.nd (some Tryz.f31) (.nd (some Tryz.f63) (.nd (some Tryz.f127) .lf .lf) (.nd (some Tryz.f191) .lf .lf)) (.nd (some Tryz.f95) (.nd (some Tryz.f159) .lf .lf) (.nd (some Tryz.f223) .lf .lf))) (.nd (some Tryz.f47) (.nd (some Tryz.f79) .lf (.nd (some Tryz.f207) .lf .lf)) (.nd (some Tryz.f111) (.nd (some Tryz.f175) .lf .lf) .lf))) (.nd (some Tryz.f23) (.nd (some Tryz.f39) (.nd (some Tryz.f71) .lf (.nd (some Tryz.f199) .lf .lf)) (.nd (some Tryz.f103) (.nd (some Tryz.f167) .lf .lf) .lf)) (.nd (some Tryz.f55) (.nd (some Tryz.f87) (.nd (some Tryz.f151) .lf .lf) (.nd (some Tryz.f215) .lf .lf)) (.nd (some Tryz.f119) (.nd (some Tryz.f183) .lf .lf) .lf)))) (.nd (some Tryz.f11) (.nd (some Tryz.f19) (.nd (some Tryz.f35) (.nd (some Tryz.f67) (.nd none (.nd (some Tryz.f259) .lf .lf) .lf) (.nd (some Tryz.f195) .lf .lf)) (.nd (some Tryz.f99) (.nd (some Tryz.f163) .lf .lf) (.nd (some Tryz.f227) .lf .lf))) (.nd (some Tryz.f51) (.nd (some Tryz.f83) (.nd (some Tryz.f147) .lf .lf) (.nd (some Tryz.f211) .lf .lf)) (.nd (some Tryz.f115) (.nd (some Tryz.f179) .lf .lf) .lf))) (.nd (some Tryz.f27) (.nd (some Tryz.f43) (.nd (some Tryz.f75) .lf (.nd (some Tryz.f203) .lf .lf)) (.nd (some Tryz.f107) (.nd (some Tryz.f171) .lf .lf) .lf)) (.nd (some Tryz.f59) (.nd (some Tryz.f91) (.nd (some Tryz.f155) .lf .lf) (.nd (some Tryz.f219) .lf .lf)) (.nd (some Tryz.f123) (.nd (some Tryz.f187) .lf .lf) .lf))))) (.nd (some Tryz.f5) (.nd (some Tryz.f9) (.nd (some Tryz.f17) (.nd (some Tryz.f33) (.nd (some Tryz.f65) (.nd (some Tryz.f129) .lf .lf) (.nd (some Tryz.f193) .lf .lf)) (.nd (some Tryz.f97) (.nd (some Tryz.f161) .lf .lf) (.nd (some Tryz.f225) .lf .lf))) (.nd (some Tryz.f49) (.nd (some Tryz.f81) .lf (.nd (some Tryz.f209) .lf .lf)) (.nd (some Tryz.f113) (.nd (some Tryz.f177) .lf .lf) .lf))) (.nd (some Tryz.f25) (.nd (some Tryz.f41) (.nd (some Tryz.f73) .lf (.nd (some Tryz.f201) .lf .lf)) (.nd (some Tryz.f105) (.nd (some Tryz.f169) .lf .lf) .lf)) (.nd (some Tryz.f57) (.nd (some Tryz.f89) (.nd (some Tryz.f153) .lf .lf) (.nd (some Tryz.f217) .lf .lf)) (.nd (some Tryz.f121) (.nd (some Tryz.f185) .lf .lf) .lf)))) (.nd (some Tryz.f13) (.nd (some Tryz.f21) (.nd (some Tryz.f37) (.nd (some Tryz.f69) .lf (.nd (some Tryz.f197) .lf .lf)) (.nd (some Tryz.f101) (.nd (some Tryz.f165) .lf .lf) (.nd (some Tryz.f229) .lf .lf))) (.nd (some Tryz.f53) (.nd (some Tryz.f85) (.nd (some Tryz.f149) .lf .lf) (.nd (some Tryz.f213) .lf .lf)) (.nd (some Tryz.f117) (.nd (some Tryz.f181) .lf .lf) .lf))) (.nd (some Tryz.f29) (.nd (some Tryz.f45) (.nd (some Tryz.f77) .lf (.nd (some Tryz.f205) .lf .lf)) (.nd (some Tryz.f109) (.nd (some Tryz.f173) .lf .lf) .lf)) (.nd (some Tryz.f61) (.nd (some Tryz.f93) (.nd (some Tryz.f157) .lf .lf) (.nd (some Tryz.f221) .lf .lf)) (.nd (some Tryz.f125) (.nd (some Tryz.f189) .lf .lf) .lf)))))) (.nd (some Tryz.f2) (.nd (some Tryz.f4) (.nd (some Tryz.f8) (.nd (some Tryz.f16) (.nd (some Tryz.f32) (.nd (some Tryz.f64) (.nd (some Tryz.f128) .lf .lf) (.nd (some Tryz.f192) .lf .lf)) (.nd (some Tryz.f96) (.nd (some Tryz.f160) .lf .lf) (.nd (some Tryz.f224) .lf .lf))) (.nd (some Tryz.f48) (.nd (some Tryz.f80) .lf (.nd (some Tryz.f208) .lf .lf)) (.nd (some Tryz.f112) (.nd (some Tryz.f176) .lf .lf) .lf))) (.nd (some Tryz.f24) (.nd (some Tryz.f40) (.nd (some Tryz.f72) .lf (.nd (some Tryz.f200) .lf .lf)) (.nd (some Tryz.f104) (.nd (some Tryz.f168) .lf .lf) .lf)) (.nd (some Tryz.f56) (.nd (some Tryz.f88) (.nd (some Tryz.f152) .lf .lf) (.nd (some Tryz.f216) .lf .lf)) (.nd (some Tryz.f120) (.nd (some Tryz.f184) .lf .lf) (.nd (some Tryz.f248) .lf .lf))))) (.nd (some Tryz.f12) (.nd (some Tryz.f20) (.nd (some Tryz.f36) (.nd (some Tryz.f68) .lf (.nd (some Tryz.f196) .lf .lf)) (.nd (some Tryz.f100) (.nd (some Tryz.f164) .lf .lf) (.nd (some Tryz.f228) .lf .lf))) (.nd (some Tryz.f52) (.nd (some Tryz.f84) (.nd (some Tryz.f148) .lf .lf) (.nd (some Tryz.f212) .lf .lf)) (.nd (some Tryz.f116) (.nd (some Tryz.f180) .lf .lf) (.nd (some Tryz.f244) .lf .lf)))) (.nd (some Tryz.f28) (.nd (some Tryz.f44) (.nd (some Tryz.f76) .lf (.nd (some Tryz.f204) .lf .lf)) (.nd (some Tryz.f108) (.nd (some Tryz.f172) .lf .lf) .lf)) (.nd (some Tryz.f60) (.nd (some Tryz.f92) (.nd (some Tryz.f156) .lf .lf) (.nd (some Tryz.f220) .lf .lf)) (.nd (some Tryz.f124) (.nd (some Tryz.f188) .lf .lf) .lf))))) (.nd (some Tryz.f6) (.nd (some Tryz.f10) (.nd (some Tryz.f18) (.nd (some Tryz.f34) (.nd (some Tryz.f66) (.nd (some Tryz.f130) .lf .lf) (.nd (some Tryz.f194) .lf .lf)) (.nd (some Tryz.f98) (.nd (some Tryz.f162) .lf .lf) (.nd (some Tryz.f226) .lf .lf))) (.nd (some Tryz.f50) (.nd (some Tryz.f82) .lf (.nd (some Tryz.f210) .lf .lf)) (.nd (some Tryz.f114) (.nd (some Tryz.f178) .lf .lf) .lf))) (.nd (some Tryz.f26) (.nd (some Tryz.f42) (.nd (some Tryz.f74) .lf (.nd (some Tryz.f202) .lf .lf)) (.nd (some Tryz.f106) (.nd (some Tryz.f170) .lf .lf) .lf)) (.nd (some Tryz.f58) (.nd (some Tryz.f90) (.nd (some Tryz.f154) .lf .lf) (.nd (some Tryz.f218) .lf .lf)) (.nd (some Tryz.f122) (.nd (some Tryz.f186) .lf .lf) .lf)))) (.nd (some Tryz.f14) (.nd none (.nd (some Tryz.f38) (.nd (some Tryz.f70) .lf (.nd (some Tryz.f198) .lf .lf)) (.nd (some Tryz.f102) (.nd (some Tryz.f166) .lf .lf) (.nd (some Tryz.f230) .lf .lf))) (.nd (some Tryz.f54) (.nd (some Tryz.f86) (.nd (some Tryz.f150) .lf .lf) (.nd (some Tryz.f214) .lf .lf)) (.nd (some Tryz.f118) (.nd (some Tryz.f182) .lf .lf) .lf))) (.nd (some Tryz.f30) (.nd (some Tryz.f46) (.nd (some Tryz.f78) .lf (.nd (some Tryz.f206) .lf .lf)) (.nd (some Tryz.f110) (.nd (some Tryz.f174) .lf .lf) .lf)) (.nd (some Tryz.f62) (.nd (some Tryz.f94) (.nd (some Tryz.f158) .lf .lf) (.nd (some Tryz.f222) .lf .lf)) (.nd (some Tryz.f126) (.nd (some Tryz.f190) .lf .lf) .lf)))))))
def gu:Tr (List Nat):=(.nd none (.nd none (.nd (some [0,1,2,3,4,5,6,7]) (.nd (some [1,2,3]) (.nd none (.nd (some [1]) .lf (.nd none (.nd (some [1]) .lf .lf) .lf)) (.nd (some [1]) (.nd none .lf (.nd (some [1]) .lf .lf)) (.nd (some [1]) .lf .lf))) (.nd none (.nd (some [0,1,2]) (.nd (some [1]) .lf .lf) .lf) (.nd none (.nd none .lf (.nd (some [1]) .lf .lf)) .lf))) (.nd none (.nd none (.nd (some [0,1,2]) (.nd none (.nd none (.nd (some [0,1,2,3,4,5,6,7]) .lf .lf) .lf) (.nd (some [1]) .lf .lf)) .lf) (.nd (some [2,4,6,7]) (.nd none (.nd (some [1]) .lf .lf) .lf) .lf)) (.nd (some [1]) .lf (.nd none (.nd (some [1]) .lf .lf) (.nd none (.nd (some [1]) .lf .lf) .lf))))) (.nd (some [0,1,2,3,4,5,6,7]) (.nd none (.nd none (.nd (some [1]) .lf (.nd none .lf (.nd (some [1]) .lf .lf))) (.nd (some [1,2,4,6,7]) (.nd none .lf (.nd (some [1]) .lf .lf)) .lf)) (.nd none (.nd (some [1]) (.nd (some [1]) .lf .lf) .lf) (.nd (some [0,1,2]) (.nd (some [7]) .lf .lf) .lf))) (.nd none (.nd (some [0,1,2,5,6,7]) (.nd none (.nd (some [1]) .lf .lf) (.nd (some [1]) .lf .lf)) (.nd (some [1,2,4,6,7]) (.nd (some [1]) (.nd (some [1]) .lf .lf) .lf) .lf)) (.nd (some [1]) (.nd (some [1,2,3,5,6,7]) (.nd (some [6,7]) .lf .lf) .lf) (.nd (some [5,6,7]) .lf .lf))))) (.nd none (.nd (some [0,1,2,3,4,5,6,7]) (.nd (some [0,1,2,5,6,7]) (.nd (some [1,2,4,6,7]) (.nd (some [1]) .lf (.nd none .lf (.nd (some [1]) .lf .lf))) (.nd (some [1,2,4,6,7]) (.nd none .lf (.nd (some [1]) .lf .lf)) (.nd (some [1]) .lf .lf))) (.nd none (.nd none (.nd (some [1]) .lf .lf) .lf) .lf)) (.nd none (.nd (some [0,1,2]) (.nd (some [0,1,2]) (.nd (some [1]) .lf (.nd (some [1]) .lf .lf)) (.nd (some [1]) .lf (.nd (some [1]) .lf .lf))) (.nd (some [1,2,4,6,7]) .lf .lf)) (.nd (some [1,2,4,6,7]) (.nd none (.nd (some [1]) .lf (.nd (some [1]) .lf .lf)) .lf) (.nd none (.nd none (.nd (some [1]) .lf .lf) .lf) (.nd none (.nd (some [1]) .lf .lf) .lf))))) (.nd (some [1,2,3,5,6,7]) (.nd none (.nd (some [1]) (.nd (some [1]) (.nd none .lf (.nd (some [1]) .lf .lf)) .lf) (.nd (some [1]) (.nd none .lf (.nd (some [1]) .lf .lf)) (.nd (some [1]) .lf .lf))) (.nd (some [1,2,3,5,6,7]) (.nd none (.nd (some [1]) .lf .lf) .lf) .lf)) (.nd (some [1,2,3,5,6,7]) (.nd none (.nd (some [1,2,5,6,7]) .lf .lf) (.nd none (.nd (some [1]) (.nd (some [1]) .lf .lf) .lf) .lf)) (.nd (some [1]) (.nd (some [1,2,3,5,6,7]) (.nd (some [1]) .lf (.nd (some [1]) .lf .lf)) .lf) (.nd none (.nd (some [1]) (.nd (some [1]) .lf .lf) .lf) .lf))))))
def AA {α:Type} (f:Nat->Option α):Tr α->(Nat->Nat)->Tr α
 | .lf,_=>.lf
 | .nd x l r,k=>.nd (match x with | none=>none | some _=>f (k 0)) (AA f l fun n=>k (2 * n+1)) (AA f r fun n=>k (2 * n+2))
theorem mB {α:Type} (f:Nat->Option α):∀(t:Tr α) (k:Nat->Nat),Tr.All (fun t i=>f t=some i) (AA f t k) k
 | .lf,_=>trivial
 | .nd x l r,k=>⟨fun a h=>(by cases x with | none=>cases h | some _=>exact h),mB f l _,mB f r _⟩
theorem tt_eq:AA (EZ Tryz.prog) tt (fun n=>n)=tt:=by kernel_rfl
theorem QY:Tr.All (fun t i=>EZ Tryz.prog t=some i) tt (fun n=>n):=by
 have h:=mB (EZ Tryz.prog) tt fun n=>n
 rw [tt_eq] at h
 exact h
noncomputable def fnO (f:Nat):Option Func:=match Tryz.prog.funcs[f]? with
 | none=>none
 | some g=>match g.body.isSome,g.name == "runtime.NumGoroutine" with
   | true,false=>some g
   | _,_=>none
theorem Tc {f:Nat} {g:Func} (h:fnO f=some g):Tryz.prog.funcs[f]?=some g /\ g.body.isSome=true /\ (g.name == "runtime.NumGoroutine")=false:=by
 unfold fnO at h
 split at h
 ·cases h
 ·rename_i e
  split at h
  ·rename_i h1 h2;cases h;exact⟨e,h1,h2⟩
  ·cases h
theorem ft_eq:AA fnO ft (fun n=>n)=ft:=by kernel_rfl
theorem Ta:Tr.All (fun f g=>fnO f=some g) ft (fun n=>n):=by
 have h:=mB fnO ft fun n=>n
 rw [ft_eq] at h
 exact h
theorem QZ {AV:Type} (G:Nat) (F:Intf AV) (hv:Op->List SV->Hp AV->T (SV×Hp AV)) (lp:FuncId->Nat->Option (St AV->T (Ex×St AV))):TblOk Tryz.prog ({tt:=tt,ft:=ft,gu:=gu,G:=G,F:=F,hv:=hv,lp:=lp}:Env AV):=⟨fun t i h=>Tr.all_get QY t i h,fun f g h=>Tc (Tr.all_get Ta f g h),by kernel_rfl,fun t si h=>(by cases h),fun t m g h=>(by cases h)⟩
end Go.Proofs.YtcpdipfepeccgaaGreatDoor

namespace Go.Proofs.YtcpdipfepeccgaaGreatDoor
open Go Go.Sx Go.Proofs
set_option maxRecDepth 100000
def Eu:SI:=(SI.mk 33 4 32 [Cell.il IntKind.i64 (Int.ofNat 0),Cell.il IntKind.i64 (Int.ofNat 0),Cell.il IntKind.i64 (Int.ofNat 0),Cell.il IntKind.i64 (Int.ofNat 0)])
def zk:SI:=(SI.mk 3 1 8 [Cell.il IntKind.i64 (Int.ofNat 0)])
def BK:SI:=(SI.mk 37 10 72 [Cell.il IntKind.i64 (Int.ofNat 0),Cell.bl false,Cell.il IntKind.i64 (Int.ofNat 0),Cell.il IntKind.i64 (Int.ofNat 0),Cell.il IntKind.i64 (Int.ofNat 0),Cell.il IntKind.i64 (Int.ofNat 0),Cell.bl false,Cell.bl false,Cell.il IntKind.i64 (Int.ofNat 0),Cell.il IntKind.i64 (Int.ofNat 0)])
def Rl:SI:=(SI.mk 64 4 48 [Cell.pnil,Cell.snil,Cell.il IntKind.i64 (Int.ofNat 0),Cell.il IntKind.i64 (Int.ofNat 0)])
def OO:SI:=(SI.mk 107 5 40 [Cell.il IntKind.i64 (Int.ofNat 0),Cell.il IntKind.i64 (Int.ofNat 0),Cell.il IntKind.i64 (Int.ofNat 0),Cell.il IntKind.i64 (Int.ofNat 0),Cell.bl false])
def ON:SI:=(SI.mk 192 52 416 [Cell.il IntKind.i64 (Int.ofNat 0),Cell.bl false,Cell.il IntKind.i64 (Int.ofNat 0),Cell.il IntKind.i64 (Int.ofNat 0),Cell.il IntKind.i64 (Int.ofNat 0),Cell.il IntKind.i64 (Int.ofNat 0),Cell.bl false,Cell.il IntKind.i64 (Int.ofNat 0),Cell.il IntKind.i64 (Int.ofNat 0),Cell.il IntKind.i64 (Int.ofNat 0),Cell.il IntKind.i64 (Int.ofNat 0),Cell.bl false,Cell.il IntKind.i64 (Int.ofNat 0),Cell.il IntKind.i64 (Int.ofNat 0),Cell.il IntKind.i64 (Int.ofNat 0),Cell.il IntKind.i64 (Int.ofNat 0),Cell.bl false,Cell.il IntKind.i64 (Int.ofNat 0),Cell.il IntKind.i64 (Int.ofNat 0),Cell.il IntKind.i64 (Int.ofNat 0),Cell.il IntKind.i64 (Int.ofNat 0),Cell.bl false,Cell.il IntKind.i64 (Int.ofNat 0),Cell.il IntKind.i64 (Int.ofNat 0),Cell.il IntKind.i64 (Int.ofNat 0),Cell.il IntKind.i64 (Int.ofNat 0),Cell.bl false,Cell.il IntKind.i64 (Int.ofNat 0),Cell.il IntKind.i64 (Int.ofNat 0),Cell.il IntKind.i64 (Int.ofNat 0),Cell.il IntKind.i64 (Int.ofNat 0),Cell.bl false,Cell.il IntKind.i64 (Int.ofNat 0),Cell.il IntKind.i64 (Int.ofNat 0),Cell.il IntKind.i64 (Int.ofNat 0),Cell.il IntKind.i64 (Int.ofNat 0),Cell.bl false,Cell.il IntKind.i64 (Int.ofNat 0),Cell.il IntKind.i64 (Int.ofNat 0),Cell.il IntKind.i64 (Int.ofNat 0),Cell.il IntKind.i64 (Int.ofNat 0),Cell.bl false,Cell.il IntKind.i64 (Int.ofNat 0),Cell.il IntKind.i64 (Int.ofNat 0),Cell.il IntKind.i64 (Int.ofNat 0),Cell.il IntKind.i64 (Int.ofNat 0),Cell.bl false,Cell.il IntKind.i64 (Int.ofNat 0),Cell.il IntKind.i64 (Int.ofNat 0),Cell.il IntKind.i64 (Int.ofNat 0),Cell.il IntKind.i64 (Int.ofNat 0),Cell.bl false])
def Rk:SI:=(SI.mk 208 2 16 [Cell.il IntKind.i64 (Int.ofNat 0),Cell.il IntKind.i64 (Int.ofNat 0)])
def NF:SI:=(SI.mk 30 1 16 [Cell.inil])
def Da:SI:=(SI.mk 235 7 56 [Cell.il IntKind.i64 (Int.ofNat 0),Cell.il IntKind.i64 (Int.ofNat 0),Cell.il IntKind.i64 (Int.ofNat 0),Cell.il IntKind.i64 (Int.ofNat 0),Cell.bl false,Cell.il IntKind.i64 (Int.ofNat 0),Cell.il IntKind.i64 (Int.ofNat 0)])
def ND:SI:=(SI.mk 4 1 1 [Cell.bl false])
def C9:SI:=(SI.mk 184 3 24 [Cell.bl false,Cell.il IntKind.i64 (Int.ofNat 0),Cell.il IntKind.i64 (Int.ofNat 0)])
def NC:SI:=(SI.mk 326 4 16 [Cell.il IntKind.i32 (Int.ofNat 0),Cell.il IntKind.i32 (Int.ofNat 0),Cell.il IntKind.i32 (Int.ofNat 0),Cell.il IntKind.i32 (Int.ofNat 0)])
def slT:Tr SI:=(.nd none (.nd none (.nd none (.nd none .lf (.nd (some Eu) (.nd none .lf (.nd none .lf (.nd (some C9) .lf .lf))) .lf)) (.nd none (.nd none (.nd none (.nd none .lf (.nd none (.nd (some NC) .lf .lf) .lf)) .lf) (.nd none .lf (.nd none (.nd (some Da) .lf .lf) .lf))) (.nd none (.nd none (.nd (some OO) (.nd (some NF) .lf .lf) .lf) .lf) .lf))) (.nd none (.nd none .lf (.nd none (.nd (some BK) .lf .lf) .lf)) .lf)) (.nd none (.nd none (.nd none .lf (.nd (some zk) .lf .lf)) (.nd none (.nd none .lf (.nd none (.nd (some Rk) .lf .lf) .lf)) (.nd none (.nd none (.nd (some ON) .lf .lf) .lf) .lf))) (.nd none (.nd none .lf (.nd none .lf (.nd (some Rl) .lf .lf))) (.nd none (.nd none .lf (.nd none (.nd none .lf (.nd (some ND) .lf .lf)) .lf)) .lf))))
theorem T2:lO Tryz.prog 23=some Eu:=by kernel_rfl
theorem T1:lO Tryz.prog 24=some zk:=by kernel_rfl
theorem T0:lO Tryz.prog 41=some BK:=by kernel_rfl
theorem TZ:lO Tryz.prog 58=some Rl:=by kernel_rfl
theorem TY:lO Tryz.prog 75=some OO:=by kernel_rfl
theorem TX:lO Tryz.prog 76=some ON:=by kernel_rfl
theorem TW:lO Tryz.prog 84=some Rk:=by kernel_rfl
theorem Rj:lO Tryz.prog 139=some NF:=by kernel_rfl
theorem Ri:lO Tryz.prog 179=some Da:=by kernel_rfl
theorem Rh:lO Tryz.prog 214=some ND:=by kernel_rfl
theorem Rg:lO Tryz.prog 231=some C9:=by kernel_rfl
theorem Rf:lO Tryz.prog 323=some NC:=by kernel_rfl
theorem Re:Tr.All (fun t i=>lO Tryz.prog t=some i) slT (fun n=>n):=⟨(fun a h=>by cases h),⟨(fun a h=>by cases h),⟨(fun a h=>by cases h),⟨(fun a h=>by cases h),trivial,⟨(fun a h=>by cases h;exact T2),⟨(fun a h=>by cases h),trivial,⟨(fun a h=>by cases h),trivial,⟨(fun a h=>by cases h;exact Rg),trivial,trivial⟩⟩⟩,trivial⟩⟩,⟨(fun a h=>by cases h),⟨(fun a h=>by cases h),⟨(fun a h=>by cases h),⟨(fun a h=>by cases h),trivial,⟨(fun a h=>by cases h),⟨(fun a h=>by cases h;exact Rf),trivial,trivial⟩,trivial⟩⟩,trivial⟩,⟨(fun a h=>by cases h),trivial,⟨(fun a h=>by cases h),⟨(fun a h=>by cases h;exact Ri),trivial,trivial⟩,trivial⟩⟩⟩,⟨(fun a h=>by cases h),⟨(fun a h=>by cases h),⟨(fun a h=>by cases h;exact TY),⟨(fun a h=>by cases h;exact Rj),trivial,trivial⟩,trivial⟩,trivial⟩,trivial⟩⟩⟩,⟨(fun a h=>by cases h),⟨(fun a h=>by cases h),trivial,⟨(fun a h=>by cases h),⟨(fun a h=>by cases h;exact T0),trivial,trivial⟩,trivial⟩⟩,trivial⟩⟩,⟨(fun a h=>by cases h),⟨(fun a h=>by cases h),⟨(fun a h=>by cases h),trivial,⟨(fun a h=>by cases h;exact T1),trivial,trivial⟩⟩,⟨(fun a h=>by cases h),⟨(fun a h=>by cases h),trivial,⟨(fun a h=>by cases h),⟨(fun a h=>by cases h;exact TW),trivial,trivial⟩,trivial⟩⟩,⟨(fun a h=>by cases h),⟨(fun a h=>by cases h),⟨(fun a h=>by cases h;exact TX),trivial,trivial⟩,trivial⟩,trivial⟩⟩⟩,⟨(fun a h=>by cases h),⟨(fun a h=>by cases h),trivial,⟨(fun a h=>by cases h),trivial,⟨(fun a h=>by cases h;exact TZ),trivial,trivial⟩⟩⟩,⟨(fun a h=>by cases h),⟨(fun a h=>by cases h),trivial,⟨(fun a h=>by cases h),⟨(fun a h=>by cases h),trivial,⟨(fun a h=>by cases h;exact Rh),trivial,trivial⟩⟩,trivial⟩⟩,trivial⟩⟩⟩⟩
theorem G1:Qo Tryz.prog slT:=fun t i h=>Tr.all_get Re t i h
def mtF (t:TypeId) (m:String):Option FuncId:=match decide (m = "Next") with
 | true=>match Nat.beq t 88 with | true=>some 147 | false=>match Nat.beq t 91 with | true=>some 156 | false=>match Nat.beq t 94 with | true=>some 165 | false=>match Nat.beq t 97 with | true=>some 187 | false=>match Nat.beq t 100 with | true=>some 204 | false=>none
 | false=>none
theorem Sk (v:Value) (w:World):(Go.method (Tryz.prog.types.size+Made.depth) 88 v "Next").run Tryz.prog w=.ok (147,v) w:=by kernel_rfl
theorem Sj (v:Value) (w:World):(Go.method (Tryz.prog.types.size+Made.depth) 91 v "Next").run Tryz.prog w=.ok (156,v) w:=by kernel_rfl
theorem Si (v:Value) (w:World):(Go.method (Tryz.prog.types.size+Made.depth) 94 v "Next").run Tryz.prog w=.ok (165,v) w:=by kernel_rfl
theorem Sh (v:Value) (w:World):(Go.method (Tryz.prog.types.size+Made.depth) 97 v "Next").run Tryz.prog w=.ok (187,v) w:=by kernel_rfl
theorem Sf (v:Value) (w:World):(Go.method (Tryz.prog.types.size+Made.depth) 100 v "Next").run Tryz.prog w=.ok (204,v) w:=by kernel_rfl
theorem Ud:∀t m g,mtF t m=some g->∀(v:Value) (w:World),(Go.method (Tryz.prog.types.size+Made.depth) t v m).run Tryz.prog w=.ok (g,v) w:=by
 intro t m g h v w
 unfold mtF at h
 split at h
 ·rename_i hm
  have hm:=of_decide_eq_true hm
  subst hm
  split at h
  ·rename_i e
   have e:=(af _ _).1 e
   subst e
   cases h
   exact Sk v w
  split at h
  ·rename_i e
   have e:=(af _ _).1 e
   subst e
   cases h
   exact Sj v w
  split at h
  ·rename_i e
   have e:=(af _ _).1 e
   subst e
   cases h
   exact Si v w
  split at h
  ·rename_i e
   have e:=(af _ _).1 e
   subst e
   cases h
   exact Sh v w
  split at h
  ·rename_i e
   have e:=(af _ _).1 e
   subst e
   cases h
   exact Sf v w
  cases h
 ·cases h
theorem Gc {AV:Type} {N N':Env AV} (h:TblOk Tryz.prog N) (ht:N'.tt=N.tt) (hf:N'.ft=N.ft) (hs:N'.sl=slT) (hm:N'.mt=mtF):TblOk Tryz.prog N' :=
 ⟨fun t i e=>h.ty t i (by rw [<- ht];exact e),fun f g e=>h.fn f g (by rw [<- hf];exact e),h.mix,fun t si e=>G1 t si (by rw [<- hs];exact e),fun t m g e=>Ud t m g (by rw [<- hm];exact e)⟩
end Go.Proofs.YtcpdipfepeccgaaGreatDoor
