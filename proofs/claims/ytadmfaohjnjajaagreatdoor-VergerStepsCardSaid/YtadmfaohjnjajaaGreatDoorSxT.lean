import Derived.Test.YtadmfaohjnjajaaGreatDoorSxM
import Derived.Test.YtadmfaohjnjajaaGreatDoorProg
import Derived.Test.YtadmfaohjnjajaaGreatDoorSxZ
set_option linter.unusedVariables false
set_option linter.unusedSimpArgs false
set_option maxHeartbeats 0
set_option maxRecDepth 100000
namespace Go.Proofs.YtadmfaohjnjajaaGreatDoor
section
open Go Go.Sx Go.Proofs
abbrev zI:Int:=Int.ofNat 0
abbrev aa:Cell:=Cell.il IntKind.i64 zI
abbrev ah:FK:=FK.int IntKind.i64
abbrev OW:Cell:=Cell.il IntKind.u8 zI
abbrev am3:FK:=FK.int IntKind.u8
abbrev QP:Cell:=Cell.il IntKind.u64 zI
abbrev am4:FK:=FK.int IntKind.u64
abbrev QQ:Cell:=Cell.il IntKind.u32 zI
abbrev am5:FK:=FK.int IntKind.u32
def FF:TI:=(TI.mk Kd.PO 1 none none)
def dR:TI:=(TI.mk Kd.PO 1 (some [Cell.Zd]) none)
def Kp:TI:=(TI.mk (Kd.int IntKind.i64) 1 (some [aa]) (some [ah]))
def ty4:TI:=(TI.mk Kd.bool 1 (some [Cell.bl false]) (some [FK.bool]))
def ty5:TI:=(TI.mk (Kd.int IntKind.u8) 1 (some [OW]) (some [am3]))
def ty7:TI:=(TI.mk (Kd.struct [cI.mk 0 1 2 false,cI.mk 1 1 3 false,cI.mk 2 1 4 false,cI.mk 3 1 6 false]) 4 (some [aa,aa,Cell.bl false,OW]) (some [ah,ah,FK.bool,am3]))
def ty9:TI:=(TI.mk Kd.Nq 1 (some [Cell.st (ByteArray.mk (Array.mk []))]) (some [FK.Nq]))
def afd:TI:=(TI.mk (Kd.int IntKind.u64) 1 (some [QP]) (some [am4]))
def ajz:TI:=(TI.mk (Kd.struct [cI.mk 0 1 9 false,cI.mk 1 1 12 false]) 2 (some [Cell.st (ByteArray.mk (Array.mk [])),QP]) none)
def mN:TI:=(TI.mk Kd.ptr 1 (some [Cell.iK]) none)
def ZE:TI:=(TI.mk (Kd.struct [cI.mk 0 1 17 false]) 1 (some [Cell.iK]) none)
def FO:TI:=(TI.mk Kd.iface 1 (some [Cell.fL]) none)
def ZD:TI:=(TI.mk (Kd.int IntKind.i32) 1 (some [Cell.il IntKind.i32 zI]) (some [FK.int IntKind.i32]))
def ajv:TI:=(TI.mk (Kd.slice 4) 1 (some [Cell.dq]) none)
def ajp:TI:=(TI.mk (Kd.struct [cI.mk 0 1 3 false,cI.mk 1 1 3 false,cI.mk 2 1 3 false,cI.mk 3 1 3 false]) 4 (some [aa,aa,aa,aa]) (some [ah,ah,ah,ah]))
def ZC:TI:=(TI.mk (Kd.struct [cI.mk 0 1 3 false,cI.mk 1 1 3 false]) 2 (some [aa,aa]) (some [ah,ah]))
def ajo:TI:=(TI.mk (Kd.struct [cI.mk 0 1 4 false,cI.mk 1 2 36 true,cI.mk 3 1 3 false]) 4 (some [Cell.bl false,aa,aa,aa]) (some [FK.bool,ah,ah,ah]))
def ao8:TI:=(TI.mk (Kd.slice 7) 1 (some [Cell.dq]) none)
def ao7:TI:=(TI.mk (Kd.fW 4 1 false) 4 (some [aa,aa,aa,aa]) (some [ah,ah,ah,ah]))
def ao6:TI:=(TI.mk (Kd.fW 6 1 false) 6 (some [aa,aa,aa,aa,aa,aa]) (some [ah,ah,ah,ah,ah,ah]))
def ajn:TI:=(TI.mk (Kd.struct [cI.mk 0 1 3 false,cI.mk 1 1 3 false,cI.mk 2 1 3 false,cI.mk 3 1 3 false,cI.mk 4 1 4 false]) 5 (some [aa,aa,aa,aa,Cell.bl false]) (some [ah,ah,ah,ah,FK.bool]))
def ajm:TI:=(TI.mk (Kd.struct [cI.mk 0 5 60 true,cI.mk 5 1 4 false]) 6 (some [aa,aa,aa,aa,Cell.bl false,Cell.bl false]) (some [ah,ah,ah,ah,FK.bool,FK.bool]))
def ajl:TI:=(TI.mk (Kd.struct [cI.mk 0 1 3 false,cI.mk 1 1 3 false,cI.mk 2 1 3 false]) 3 (some [aa,aa,aa]) (some [ah,ah,ah]))
def ajk:TI:=(TI.mk (Kd.struct [cI.mk 0 1 3 false,cI.mk 1 3 66 true,cI.mk 4 5 60 true,cI.mk 9 5 60 true]) 14 (some [aa,aa,aa,aa,aa,aa,aa,aa,Cell.bl false,aa,aa,aa,aa,Cell.bl false]) (some [ah,ah,ah,ah,ah,ah,ah,ah,FK.bool,ah,ah,ah,ah,FK.bool]))
def ajj:TI:=(TI.mk (Kd.struct [cI.mk 0 1 3 false,cI.mk 1 3 66 true,cI.mk 4 5 60 true,cI.mk 9 5 60 true,cI.mk 14 1 3 false,cI.mk 15 1 3 false,cI.mk 16 2 36 true]) 18 (some [aa,aa,aa,aa,aa,aa,aa,aa,Cell.bl false,aa,aa,aa,aa,Cell.bl false,aa,aa,aa,aa]) (some [ah,ah,ah,ah,ah,ah,ah,ah,FK.bool,ah,ah,ah,ah,FK.bool,ah,ah,ah,ah]))
def aji:TI:=(TI.mk (Kd.struct [cI.mk 0 1 71 false,cI.mk 1 1 3 false,cI.mk 2 18 75 true,cI.mk 20 4 34 true,cI.mk 24 1 77 false,cI.mk 25 2 36 true]) 27 (some [Cell.iK,aa,aa,aa,aa,aa,aa,aa,aa,aa,Cell.bl false,aa,aa,aa,aa,Cell.bl false,aa,aa,aa,aa,aa,aa,aa,aa,Cell.fL,aa,aa]) none)
def ajh:TI:=(TI.mk (Kd.struct [cI.mk 0 1 3 false,cI.mk 1 1 3 false,cI.mk 2 27 79 true]) 29 (some [aa,aa,Cell.iK,aa,aa,aa,aa,aa,aa,aa,aa,aa,Cell.bl false,aa,aa,aa,aa,Cell.bl false,aa,aa,aa,aa,aa,aa,aa,aa,Cell.fL,aa,aa]) none)
def ajg:TI:=(TI.mk (Kd.slice 1) 1 (some [Cell.dq]) none)
def ao4:TI:=(TI.mk (Kd.slice 2) 1 (some [Cell.dq]) none)
def ajf:TI:=(TI.mk (Kd.struct [cI.mk 0 1 90 false,cI.mk 1 1 91 false]) 2 (some [Cell.dq,Cell.dq]) none)
def aje:TI:=(TI.mk (Kd.struct [cI.mk 0 1 3 false,cI.mk 1 2 93 true]) 3 (some [aa,Cell.dq,Cell.dq]) none)
def ajC:TI:=(TI.mk (Kd.slice 5) 1 (some [Cell.dq]) none)
def ajB:TI:=(TI.mk (Kd.slice 52) 1 (some [Cell.dq]) none)
def ado:TI:=(TI.mk (Kd.struct [cI.mk 0 1 117 false,cI.mk 1 1 118 false,cI.mk 2 1 90 false,cI.mk 3 1 3 false,cI.mk 4 1 3 false,cI.mk 5 1 29 false]) 6 (some [Cell.dq,Cell.dq,Cell.dq,aa,aa,Cell.fL]) none)
def ajA:TI:=(TI.mk (Kd.fW 10 5 true) 50 (some [aa,aa,aa,aa,Cell.bl false,aa,aa,aa,aa,Cell.bl false,aa,aa,aa,aa,Cell.bl false,aa,aa,aa,aa,Cell.bl false,aa,aa,aa,aa,Cell.bl false,aa,aa,aa,aa,Cell.bl false,aa,aa,aa,aa,Cell.bl false,aa,aa,aa,aa,Cell.bl false,aa,aa,aa,aa,Cell.bl false,aa,aa,aa,aa,Cell.bl false]) (some [ah,ah,ah,ah,FK.bool,ah,ah,ah,ah,FK.bool,ah,ah,ah,ah,FK.bool,ah,ah,ah,ah,FK.bool,ah,ah,ah,ah,FK.bool,ah,ah,ah,ah,FK.bool,ah,ah,ah,ah,FK.bool,ah,ah,ah,ah,FK.bool,ah,ah,ah,ah,FK.bool,ah,ah,ah,ah,FK.bool]))
def adn:TI:=(TI.mk (Kd.struct [cI.mk 0 1 3 false,cI.mk 1 1 4 false,cI.mk 2 50 125 true]) 52 (some [aa,Cell.bl false,aa,aa,aa,aa,Cell.bl false,aa,aa,aa,aa,Cell.bl false,aa,aa,aa,aa,Cell.bl false,aa,aa,aa,aa,Cell.bl false,aa,aa,aa,aa,Cell.bl false,aa,aa,aa,aa,Cell.bl false,aa,aa,aa,aa,Cell.bl false,aa,aa,aa,aa,Cell.bl false,aa,aa,aa,aa,Cell.bl false,aa,aa,aa,aa,Cell.bl false]) (some [ah,FK.bool,ah,ah,ah,ah,FK.bool,ah,ah,ah,ah,FK.bool,ah,ah,ah,ah,FK.bool,ah,ah,ah,ah,FK.bool,ah,ah,ah,ah,FK.bool,ah,ah,ah,ah,FK.bool,ah,ah,ah,ah,FK.bool,ah,ah,ah,ah,FK.bool,ah,ah,ah,ah,FK.bool,ah,ah,ah,ah,FK.bool]))
def ajy:TI:=(TI.mk (Kd.fW 2 1 false) 2 (some [aa,aa]) (some [ah,ah]))
def adm:TI:=(TI.mk (Kd.struct [cI.mk 0 18 75 true,cI.mk 18 1 3 false,cI.mk 19 14 69 true,cI.mk 33 5 60 true,cI.mk 38 5 60 true,cI.mk 43 1 3 false,cI.mk 44 1 117 false,cI.mk 45 1 41 false]) 46 (some [aa,aa,aa,aa,aa,aa,aa,aa,Cell.bl false,aa,aa,aa,aa,Cell.bl false,aa,aa,aa,aa,aa,aa,aa,aa,aa,aa,aa,aa,aa,Cell.bl false,aa,aa,aa,aa,Cell.bl false,aa,aa,aa,aa,Cell.bl false,aa,aa,aa,aa,Cell.bl false,aa,Cell.dq,Cell.dq]) none)
def ajx:TI:=(TI.mk (Kd.fW 9 5 true) 45 (some [aa,aa,aa,aa,Cell.bl false,aa,aa,aa,aa,Cell.bl false,aa,aa,aa,aa,Cell.bl false,aa,aa,aa,aa,Cell.bl false,aa,aa,aa,aa,Cell.bl false,aa,aa,aa,aa,Cell.bl false,aa,aa,aa,aa,Cell.bl false,aa,aa,aa,aa,Cell.bl false,aa,aa,aa,aa,Cell.bl false]) (some [ah,ah,ah,ah,FK.bool,ah,ah,ah,ah,FK.bool,ah,ah,ah,ah,FK.bool,ah,ah,ah,ah,FK.bool,ah,ah,ah,ah,FK.bool,ah,ah,ah,ah,FK.bool,ah,ah,ah,ah,FK.bool,ah,ah,ah,ah,FK.bool,ah,ah,ah,ah,FK.bool]))
def adl:TI:=(TI.mk (Kd.struct [cI.mk 0 1 4 false,cI.mk 1 1 3 false,cI.mk 2 1 3 false]) 3 (some [Cell.bl false,aa,aa]) (some [FK.bool,ah,ah]))
def adk:TI:=(TI.mk (Kd.struct [cI.mk 0 46 136 true,cI.mk 46 1 3 false,cI.mk 47 1 3 false,cI.mk 48 1 3 false,cI.mk 49 1 3 false,cI.mk 50 45 137 true,cI.mk 95 3 139 true,cI.mk 98 1 41 false,cI.mk 99 1 3 false,cI.mk 100 6 62 true]) 106 (some [aa,aa,aa,aa,aa,aa,aa,aa,Cell.bl false,aa,aa,aa,aa,Cell.bl false,aa,aa,aa,aa,aa,aa,aa,aa,aa,aa,aa,aa,aa,Cell.bl false,aa,aa,aa,aa,Cell.bl false,aa,aa,aa,aa,Cell.bl false,aa,aa,aa,aa,Cell.bl false,aa,Cell.dq,Cell.dq,aa,aa,aa,aa,aa,aa,aa,aa,Cell.bl false,aa,aa,aa,aa,Cell.bl false,aa,aa,aa,aa,Cell.bl false,aa,aa,aa,aa,Cell.bl false,aa,aa,aa,aa,Cell.bl false,aa,aa,aa,aa,Cell.bl false,aa,aa,aa,aa,Cell.bl false,aa,aa,aa,aa,Cell.bl false,aa,aa,aa,aa,Cell.bl false,Cell.bl false,aa,aa,Cell.dq,aa,aa,aa,aa,aa,Cell.bl false,Cell.bl false]) none)
def adj:TI:=(TI.mk (Kd.struct [cI.mk 0 5 60 true,cI.mk 5 1 3 false,cI.mk 6 1 3 false]) 7 (some [aa,aa,aa,aa,Cell.bl false,aa,aa]) (some [ah,ah,ah,ah,FK.bool,ah,ah]))
def wN:TI:=(TI.mk (Kd.struct [cI.mk 0 1 3 false,cI.mk 1 18 75 true]) 19 (some [aa,aa,aa,aa,aa,aa,aa,aa,aa,Cell.bl false,aa,aa,aa,aa,Cell.bl false,aa,aa,aa,aa]) (some [ah,ah,ah,ah,ah,ah,ah,ah,ah,FK.bool,ah,ah,ah,ah,FK.bool,ah,ah,ah,ah]))
def adi:TI:=(TI.mk (Kd.struct [cI.mk 0 19 153 true,cI.mk 19 4 34 true,cI.mk 23 5 60 true,cI.mk 28 5 60 true,cI.mk 33 1 3 false]) 34 (some [aa,aa,aa,aa,aa,aa,aa,aa,aa,Cell.bl false,aa,aa,aa,aa,Cell.bl false,aa,aa,aa,aa,aa,aa,aa,aa,aa,aa,aa,aa,Cell.bl false,aa,aa,aa,aa,Cell.bl false,aa]) (some [ah,ah,ah,ah,ah,ah,ah,ah,ah,FK.bool,ah,ah,ah,ah,FK.bool,ah,ah,ah,ah,ah,ah,ah,ah,ah,ah,ah,ah,FK.bool,ah,ah,ah,ah,FK.bool,ah]))
def adh:TI:=(TI.mk (Kd.struct [cI.mk 0 19 157 true,cI.mk 19 4 34 true,cI.mk 23 5 60 true,cI.mk 28 5 60 true,cI.mk 33 5 60 true,cI.mk 38 5 60 true,cI.mk 43 1 3 false]) 44 (some [aa,aa,aa,aa,aa,aa,aa,aa,aa,Cell.bl false,aa,aa,aa,aa,Cell.bl false,aa,aa,aa,aa,aa,aa,aa,aa,aa,aa,aa,aa,Cell.bl false,aa,aa,aa,aa,Cell.bl false,aa,aa,aa,aa,Cell.bl false,aa,aa,aa,aa,Cell.bl false,aa]) (some [ah,ah,ah,ah,ah,ah,ah,ah,ah,FK.bool,ah,ah,ah,ah,FK.bool,ah,ah,ah,ah,ah,ah,ah,ah,ah,ah,ah,ah,FK.bool,ah,ah,ah,ah,FK.bool,ah,ah,ah,ah,FK.bool,ah,ah,ah,ah,FK.bool,ah]))
def adg:TI:=(TI.mk (Kd.struct [cI.mk 0 19 165 true,cI.mk 19 4 34 true,cI.mk 23 1 3 false,cI.mk 24 1 3 false,cI.mk 25 1 3 false,cI.mk 26 1 3 false,cI.mk 27 5 60 true,cI.mk 32 5 60 true,cI.mk 37 5 60 true,cI.mk 42 1 166 false,cI.mk 43 1 102 false,cI.mk 44 2 36 true,cI.mk 46 5 60 true]) 51 (some [aa,aa,aa,aa,aa,aa,aa,aa,aa,Cell.bl false,aa,aa,aa,aa,Cell.bl false,aa,aa,aa,aa,aa,aa,aa,aa,aa,aa,aa,aa,aa,aa,aa,aa,Cell.bl false,aa,aa,aa,aa,Cell.bl false,aa,aa,aa,aa,Cell.bl false,Cell.iK,Cell.iK,aa,aa,aa,aa,aa,aa,Cell.bl false]) none)
def adf:TI:=(TI.mk (Kd.struct [cI.mk 0 19 170 true,cI.mk 19 4 34 true,cI.mk 23 1 171 false,cI.mk 24 5 60 true,cI.mk 29 1 3 false,cI.mk 30 1 3 false,cI.mk 31 1 3 false]) 32 (some [aa,aa,aa,aa,aa,aa,aa,aa,aa,Cell.bl false,aa,aa,aa,aa,Cell.bl false,aa,aa,aa,aa,aa,aa,aa,aa,Cell.iK,aa,aa,aa,aa,Cell.bl false,aa,aa,aa]) none)
def ade:TI:=(TI.mk (Kd.struct [cI.mk 0 1 3 false,cI.mk 1 1 29 false]) 2 (some [aa,Cell.fL]) none)
def ajw:TI:=(TI.mk (Kd.slice 3) 1 (some [Cell.dq]) none)
def adb:TI:=(TI.mk (Kd.struct [cI.mk 0 19 209 true,cI.mk 19 3 66 true,cI.mk 22 1 3 false,cI.mk 23 4 34 true,cI.mk 27 1 166 false,cI.mk 28 5 60 true,cI.mk 33 1 3 false]) 34 (some [aa,aa,aa,aa,aa,aa,aa,aa,aa,Cell.bl false,aa,aa,aa,aa,Cell.bl false,aa,aa,aa,aa,aa,aa,aa,aa,aa,aa,aa,aa,Cell.iK,aa,aa,aa,aa,Cell.bl false,aa]) none)
def ada:TI:=(TI.mk (Kd.struct [cI.mk 0 1 17 false,cI.mk 1 1 17 false,cI.mk 2 1 17 false,cI.mk 3 1 9 false]) 4 (some [Cell.iK,Cell.iK,Cell.iK,Cell.st (ByteArray.mk (Array.mk []))]) none)
def aju:TI:=(TI.mk (Kd.fW 0 1 false) 0 (some []) (some []))
def ac9:TI:=(TI.mk (Kd.struct [cI.mk 0 0 233 true]) 0 (some []) none)
def ajt:TI:=(TI.mk (Kd.int IntKind.u32) 1 (some [QQ]) (some [am5]))
def ac8:TI:=(TI.mk (Kd.struct [cI.mk 0 1 12 false,cI.mk 1 1 12 false,cI.mk 2 1 236 false,cI.mk 3 1 237 false,cI.mk 4 1 5 false,cI.mk 5 1 5 false,cI.mk 6 1 238 false,cI.mk 7 1 239 false,cI.mk 8 1 240 false,cI.mk 9 1 241 false,cI.mk 10 1 242 false]) 11 (some [QP,QP,QQ,OW,OW,OW,OW,Cell.Zd,Cell.iK,Cell.il IntKind.i32 zI,Cell.il IntKind.i32 zI]) none)
def ac7:TI:=(TI.mk (Kd.struct [cI.mk 0 19 209 true,cI.mk 19 3 66 true,cI.mk 22 1 3 false,cI.mk 23 3 66 true,cI.mk 26 5 60 true,cI.mk 31 5 60 true,cI.mk 36 1 3 false,cI.mk 37 1 4 false]) 38 (some [aa,aa,aa,aa,aa,aa,aa,aa,aa,Cell.bl false,aa,aa,aa,aa,Cell.bl false,aa,aa,aa,aa,aa,aa,aa,aa,aa,aa,aa,aa,aa,aa,aa,Cell.bl false,aa,aa,aa,aa,Cell.bl false,aa,Cell.bl false]) (some [ah,ah,ah,ah,ah,ah,ah,ah,ah,FK.bool,ah,ah,ah,ah,FK.bool,ah,ah,ah,ah,ah,ah,ah,ah,ah,ah,ah,ah,ah,ah,ah,FK.bool,ah,ah,ah,ah,FK.bool,ah,FK.bool]))
def ac6:TI:=(TI.mk (Kd.struct [cI.mk 0 3 66 true,cI.mk 3 5 60 true]) 8 (some [aa,aa,aa,aa,aa,aa,aa,Cell.bl false]) (some [ah,ah,ah,ah,ah,ah,ah,FK.bool]))
def ajs:TI:=(TI.mk (Kd.fW 3 8 true) 24 (some [aa,aa,aa,aa,aa,aa,aa,Cell.bl false,aa,aa,aa,aa,aa,aa,aa,Cell.bl false,aa,aa,aa,aa,aa,aa,aa,Cell.bl false]) (some [ah,ah,ah,ah,ah,ah,ah,FK.bool,ah,ah,ah,ah,ah,ah,ah,FK.bool,ah,ah,ah,ah,ah,ah,ah,FK.bool]))
def ac5:TI:=(TI.mk (Kd.struct [cI.mk 0 19 170 true,cI.mk 19 8 282 true,cI.mk 27 1 3 false,cI.mk 28 1 3 false,cI.mk 29 5 60 true,cI.mk 34 1 3 false,cI.mk 35 24 283 true,cI.mk 59 5 60 true]) 64 (some [aa,aa,aa,aa,aa,aa,aa,aa,aa,Cell.bl false,aa,aa,aa,aa,Cell.bl false,aa,aa,aa,aa,aa,aa,aa,aa,aa,aa,aa,Cell.bl false,aa,aa,aa,aa,aa,aa,Cell.bl false,aa,aa,aa,aa,aa,aa,aa,aa,Cell.bl false,aa,aa,aa,aa,aa,aa,aa,Cell.bl false,aa,aa,aa,aa,aa,aa,aa,Cell.bl false,aa,aa,aa,aa,Cell.bl false]) (some [ah,ah,ah,ah,ah,ah,ah,ah,ah,FK.bool,ah,ah,ah,ah,FK.bool,ah,ah,ah,ah,ah,ah,ah,ah,ah,ah,ah,FK.bool,ah,ah,ah,ah,ah,ah,FK.bool,ah,ah,ah,ah,ah,ah,ah,ah,FK.bool,ah,ah,ah,ah,ah,ah,ah,FK.bool,ah,ah,ah,ah,ah,ah,ah,FK.bool,ah,ah,ah,ah,FK.bool]))
def ac4:TI:=(TI.mk (Kd.struct [cI.mk 0 1 9 false,cI.mk 1 1 238 false]) 2 (some [Cell.st (ByteArray.mk (Array.mk [])),OW]) none)
def ac3:TI:=(TI.mk (Kd.struct [cI.mk 0 1 9 false]) 1 (some [Cell.st (ByteArray.mk (Array.mk []))]) (some [FK.Nq]))
def ajr:TI:=(TI.mk Kd.PO 1 (some [Cell.iK]) none)
def ajq:TI:=(TI.mk (Kd.int IntKind.u16) 1 (some [Cell.il IntKind.u16 zI]) (some [FK.int IntKind.u16]))
def ac2:TI:=(TI.mk (Kd.struct [cI.mk 0 1 241 false,cI.mk 1 1 299 false,cI.mk 2 1 299 false,cI.mk 3 1 236 false,cI.mk 4 1 236 false]) 5 (some [Cell.il IntKind.i32 zI,Cell.il IntKind.u16 zI,Cell.il IntKind.u16 zI,QQ,QQ]) none)
def ac1:TI:=(TI.mk (Kd.struct [cI.mk 0 1 241 false,cI.mk 1 1 242 false,cI.mk 2 1 303 false,cI.mk 3 1 303 false]) 4 (some [Cell.il IntKind.i32 zI,Cell.il IntKind.i32 zI,Cell.il IntKind.i32 zI,Cell.il IntKind.i32 zI]) none)
def tt:Tr TI:=(.nd (some FF) (.nd (some dR) (.nd (some Kp) (.nd (some ty7) (.nd (some mN) (.nd (some dR) (.nd (some FF) (.nd (some adn) (.nd (some dR) .lf .lf) .lf) (.nd (some dR) .lf .lf)) (.nd (some aje) (.nd (some adh) (.nd (some dR) .lf .lf) .lf) (.nd (some dR) .lf .lf))) (.nd (some mN) (.nd (some aji) (.nd (some dR) (.nd (some dR) .lf .lf) .lf) (.nd (some dR) .lf .lf)) (.nd (some FO) (.nd (some ZE) (.nd (some ZD) .lf .lf) .lf) (.nd (some dR) .lf .lf)))) (.nd (some dR) (.nd (some FF) (.nd (some mN) (.nd (some adm) (.nd (some dR) .lf .lf) .lf) (.nd (some dR) .lf .lf)) (.nd (some FF) (.nd (some adg) (.nd (some ac3) .lf .lf) .lf) (.nd (some ada) .lf .lf))) (.nd (some ao6) (.nd (some dR) (.nd (some adj) (.nd (some dR) .lf .lf) .lf) (.nd (some dR) .lf .lf)) (.nd (some ado) (.nd (some dR) .lf .lf) (.nd (some dR) .lf .lf))))) (.nd (some ty9) (.nd (some ZE) (.nd (some ZC) (.nd (some dR) (.nd (some ajy) (.nd (some dR) .lf .lf) .lf) (.nd (some ade) .lf .lf)) (.nd (some mN) (.nd (some dR) (.nd (some dR) .lf .lf) .lf) (.nd (some dR) .lf .lf))) (.nd (some dR) (.nd (some dR) (.nd (some dR) (.nd (some dR) .lf .lf) .lf) (.nd (some adb) .lf .lf)) (.nd (some dR) (.nd (some dR) .lf .lf) (.nd (some ac8) .lf .lf)))) (.nd (some mN) (.nd (some dR) (.nd (some ajj) (.nd (some adl) (.nd (some dR) .lf .lf) .lf) (.nd (some dR) .lf .lf)) (.nd (some dR) (.nd (some mN) (.nd (some ajq) .lf .lf) .lf) (.nd (some ac9) .lf .lf))) (.nd (some ajn) (.nd (some ao4) (.nd (some adi) (.nd (some ajs) .lf .lf) .lf) (.nd (some FF) .lf .lf)) (.nd (some dR) (.nd (some ZC) .lf .lf) (.nd (some mN) .lf .lf)))))) (.nd (some ty5) (.nd (some ty9) (.nd (some mN) (.nd (some ajp) (.nd (some ajl) (.nd (some mN) (.nd (some dR) .lf .lf) .lf) (.nd (some mN) .lf .lf)) (.nd (some FF) (.nd (some FF) (.nd (some dR) .lf .lf) .lf) (.nd (some dR) .lf .lf))) (.nd (some dR) (.nd (some ajh) (.nd (some dR) (.nd (some afd) .lf .lf) .lf) (.nd (some wN) .lf .lf)) (.nd (some dR) (.nd (some FO) (.nd (some ac1) .lf .lf) .lf) (.nd (some ZD) .lf .lf)))) (.nd (some mN) (.nd (some ao8) (.nd (some dR) (.nd (some ajx) (.nd (some dR) .lf .lf) .lf) (.nd (some dR) .lf .lf)) (.nd (some mN) (.nd (some wN) (.nd (some mN) .lf .lf) .lf) (.nd (some aju) .lf .lf))) (.nd (some dR) (.nd (some dR) (.nd (some wN) (.nd (some ac6) .lf .lf) .lf) (.nd (some dR) .lf .lf)) (.nd (some dR) (.nd (some dR) .lf .lf) (.nd (some dR) .lf .lf))))) (.nd (some ajz) (.nd (some ZD) (.nd (some ajo) (.nd (some ajk) (.nd (some dR) (.nd (some ac7) .lf .lf) .lf) (.nd (some dR) .lf .lf)) (.nd (some dR) (.nd (some wN) (.nd (some ac4) .lf .lf) .lf) (.nd (some mN) .lf .lf))) (.nd (some dR) (.nd (some dR) (.nd (some dR) (.nd (some dR) .lf .lf) .lf) (.nd (some dR) .lf .lf)) (.nd (some ajC) (.nd (some FO) .lf .lf) (.nd (some dR) .lf .lf)))) (.nd (some FO) (.nd (some dR) (.nd (some FO) (.nd (some adk) (.nd (some mN) .lf .lf) .lf) (.nd (some dR) .lf .lf)) (.nd (some FF) (.nd (some adf) (.nd (some ac2) .lf .lf) .lf) (.nd (some ty5) .lf .lf))) (.nd (some ajm) (.nd (some ajf) (.nd (some wN) (.nd (some ac5) .lf .lf) .lf) (.nd (some dR) .lf .lf)) (.nd (some ajA) (.nd (some dR) .lf .lf) (.nd (some mN) .lf .lf))))))) (.nd (some Kp) (.nd (some ty4) (.nd (some ty7) (.nd (some mN) (.nd (some dR) (.nd (some dR) (.nd (some dR) (.nd (some FF) .lf .lf) .lf) (.nd (some dR) .lf .lf)) (.nd (some mN) (.nd (some dR) (.nd (some dR) .lf .lf) .lf) (.nd (some dR) .lf .lf))) (.nd (some FF) (.nd (some ajh) (.nd (some dR) (.nd (some dR) .lf .lf) .lf) (.nd (some wN) .lf .lf)) (.nd (some FO) (.nd (some mN) (.nd (some ac1) .lf .lf) .lf) (.nd (some mN) .lf .lf)))) (.nd (some afd) (.nd (some dR) (.nd (some FF) (.nd (some adm) (.nd (some dR) .lf .lf) .lf) (.nd (some dR) .lf .lf)) (.nd (some dR) (.nd (some adg) (.nd (some ajr) .lf .lf) .lf) (.nd (some ada) .lf .lf))) (.nd (some FF) (.nd (some dR) (.nd (some wN) (.nd (some mN) .lf .lf) .lf) (.nd (some dR) .lf .lf)) (.nd (some ado) (.nd (some FF) .lf .lf) (.nd (some dR) .lf .lf))))) (.nd (some afd) (.nd (some FO) (.nd (some ZC) (.nd (some ajk) (.nd (some dR) (.nd (some mN) .lf .lf) .lf) (.nd (some mN) .lf .lf)) (.nd (some FF) (.nd (some wN) (.nd (some ac4) .lf .lf) .lf) (.nd (some dR) .lf .lf))) (.nd (some FF) (.nd (some mN) (.nd (some dR) (.nd (some FF) .lf .lf) .lf) (.nd (some mN) .lf .lf)) (.nd (some dR) (.nd (some FO) .lf .lf) (.nd (some ac8) .lf .lf)))) (.nd (some FO) (.nd (some ao7) (.nd (some FO) (.nd (some adk) (.nd (some dR) .lf .lf) .lf) (.nd (some ajw) .lf .lf)) (.nd (some mN) (.nd (some adf) (.nd (some ac2) .lf .lf) .lf) (.nd (some ajt) .lf .lf))) (.nd (some ajn) (.nd (some ajf) (.nd (some wN) (.nd (some ac5) .lf .lf) .lf) (.nd (some dR) .lf .lf)) (.nd (some dR) (.nd (some dR) .lf .lf) (.nd (some dR) .lf .lf)))))) (.nd (some ty5) (.nd (some ty9) (.nd (some ZE) (.nd (some ajp) (.nd (some ajl) (.nd (some dR) (.nd (some dR) .lf .lf) .lf) (.nd (some ade) .lf .lf)) (.nd (some dR) (.nd (some dR) (.nd (some dR) .lf .lf) .lf) (.nd (some dR) .lf .lf))) (.nd (some dR) (.nd (some FF) (.nd (some dR) (.nd (some dR) .lf .lf) .lf) (.nd (some adb) .lf .lf)) (.nd (some dR) (.nd (some FF) (.nd (some dR) .lf .lf) .lf) (.nd (some ZD) .lf .lf)))) (.nd (some dR) (.nd (some dR) (.nd (some ajj) (.nd (some adl) (.nd (some dR) .lf .lf) .lf) (.nd (some dR) .lf .lf)) (.nd (some FF) (.nd (some wN) (.nd (some dR) .lf .lf) .lf) (.nd (some ac9) .lf .lf))) (.nd (some dR) (.nd (some ajg) (.nd (some adi) (.nd (some ac6) .lf .lf) .lf) (.nd (some dR) .lf .lf)) (.nd (some dR) (.nd (some ZC) .lf .lf) (.nd (some dR) .lf .lf))))) (.nd (some ajz) (.nd (some ajv) (.nd (some ajo) (.nd (some dR) (.nd (some dR) (.nd (some ac7) .lf .lf) .lf) (.nd (some dR) .lf .lf)) (.nd (some mN) (.nd (some mN) (.nd (some ac3) .lf .lf) .lf) (.nd (some dR) .lf .lf))) (.nd (some dR) (.nd (some FF) (.nd (some adj) (.nd (some dR) .lf .lf) .lf) (.nd (some dR) .lf .lf)) (.nd (some ajB) (.nd (some ajg) .lf .lf) (.nd (some dR) .lf .lf)))) (.nd (some FF) (.nd (some dR) (.nd (some aji) (.nd (some dR) (.nd (some dR) .lf .lf) .lf) (.nd (some dR) .lf .lf)) (.nd (some dR) (.nd (some ZE) (.nd (some ajv) .lf .lf) .lf) (.nd (some ty5) .lf .lf))) (.nd (some ajm) (.nd (some aje) (.nd (some adh) (.nd (some dR) .lf .lf) .lf) (.nd (some dR) .lf .lf)) (.nd (some adn) (.nd (some dR) .lf .lf) (.nd (some FF) .lf .lf))))))))
noncomputable def ft:Tr Func:=(.nd none (.nd none (.nd (some Tryz.f3) (.nd (some Tryz.f7) (.nd (some Tryz.f15) (.nd (some Tryz.f31) (.nd (some Tryz.f63) .lf (.nd (some Tryz.f191) .lf .lf)) (.nd (some Tryz.f95) (.nd (some Tryz.f159) .lf .lf) .lf)) (.nd (some Tryz.f47) (.nd (some Tryz.f79) (.nd (some Tryz.f143) .lf .lf) (.nd (some Tryz.f207) .lf .lf)) (.nd (some Tryz.f111) (.nd (some Tryz.f175) .lf .lf) .lf))) (.nd (some Tryz.f23) (.nd none (.nd (some Tryz.f71) (.nd (some Tryz.f135) .lf .lf) (.nd (some Tryz.f199) .lf .lf)) (.nd (some Tryz.f103) (.nd (some Tryz.f167) .lf .lf) .lf)) (.nd (some Tryz.f55) (.nd (some Tryz.f87) (.nd (some Tryz.f151) .lf .lf) (.nd (some Tryz.f215) .lf .lf)) (.nd none (.nd (some Tryz.f183) .lf .lf) .lf)))) (.nd (some Tryz.f11) (.nd (some Tryz.f19) (.nd (some Tryz.f35) (.nd (some Tryz.f67) .lf (.nd (some Tryz.f195) .lf .lf)) (.nd (some Tryz.f99) (.nd (some Tryz.f163) .lf .lf) .lf)) (.nd (some Tryz.f51) (.nd (some Tryz.f83) (.nd (some Tryz.f147) .lf .lf) (.nd (some Tryz.f211) .lf .lf)) (.nd (some Tryz.f115) (.nd (some Tryz.f179) .lf .lf) .lf))) (.nd (some Tryz.f27) (.nd (some Tryz.f43) (.nd (some Tryz.f75) (.nd (some Tryz.f139) .lf .lf) (.nd (some Tryz.f203) .lf .lf)) (.nd (some Tryz.f107) (.nd (some Tryz.f171) .lf .lf) .lf)) (.nd (some Tryz.f59) (.nd (some Tryz.f91) (.nd (some Tryz.f155) .lf .lf) (.nd (some Tryz.f219) .lf .lf)) (.nd none (.nd (some Tryz.f187) .lf .lf) .lf))))) (.nd (some Tryz.f5) (.nd (some Tryz.f9) (.nd (some Tryz.f17) (.nd (some Tryz.f33) (.nd (some Tryz.f65) .lf (.nd (some Tryz.f193) .lf .lf)) (.nd none (.nd (some Tryz.f161) .lf .lf) .lf)) (.nd (some Tryz.f49) (.nd (some Tryz.f81) (.nd (some Tryz.f145) .lf .lf) (.nd (some Tryz.f209) .lf .lf)) (.nd (some Tryz.f113) (.nd (some Tryz.f177) .lf .lf) .lf))) (.nd (some Tryz.f25) (.nd (some Tryz.f41) (.nd (some Tryz.f73) (.nd (some Tryz.f137) .lf .lf) (.nd (some Tryz.f201) .lf .lf)) (.nd (some Tryz.f105) (.nd (some Tryz.f169) .lf .lf) .lf)) (.nd (some Tryz.f57) (.nd (some Tryz.f89) (.nd (some Tryz.f153) .lf .lf) (.nd (some Tryz.f217) .lf .lf)) (.nd none (.nd (some Tryz.f185) .lf .lf) .lf)))) (.nd (some Tryz.f13) (.nd (some Tryz.f21) (.nd (some Tryz.f37) (.nd (some Tryz.f69) (.nd (some Tryz.f133) .lf .lf) (.nd (some Tryz.f197) .lf .lf)) (.nd (some Tryz.f101) (.nd (some Tryz.f165) .lf .lf) .lf)) (.nd (some Tryz.f53) (.nd (some Tryz.f85) (.nd (some Tryz.f149) .lf .lf) (.nd (some Tryz.f213) .lf .lf)) (.nd none (.nd (some Tryz.f181) .lf .lf) .lf))) (.nd (some Tryz.f29) (.nd (some Tryz.f45) (.nd (some Tryz.f77) (.nd (some Tryz.f141) .lf .lf) (.nd (some Tryz.f205) .lf .lf)) (.nd (some Tryz.f109) (.nd (some Tryz.f173) .lf .lf) .lf)) (.nd (some Tryz.f61) (.nd (some Tryz.f93) (.nd (some Tryz.f157) .lf .lf) .lf) (.nd none (.nd (some Tryz.f189) .lf .lf) .lf)))))) (.nd (some Tryz.f2) (.nd (some Tryz.f4) (.nd (some Tryz.f8) (.nd (some Tryz.f16) (.nd (some Tryz.f32) (.nd (some Tryz.f64) .lf (.nd (some Tryz.f192) .lf .lf)) (.nd (some Tryz.f96) (.nd (some Tryz.f160) .lf .lf) .lf)) (.nd (some Tryz.f48) (.nd (some Tryz.f80) (.nd (some Tryz.f144) .lf .lf) (.nd (some Tryz.f208) .lf .lf)) (.nd (some Tryz.f112) (.nd (some Tryz.f176) .lf .lf) .lf))) (.nd (some Tryz.f24) (.nd (some Tryz.f40) (.nd (some Tryz.f72) (.nd (some Tryz.f136) .lf .lf) (.nd (some Tryz.f200) .lf .lf)) (.nd (some Tryz.f104) (.nd (some Tryz.f168) .lf .lf) .lf)) (.nd (some Tryz.f56) (.nd (some Tryz.f88) (.nd (some Tryz.f152) .lf .lf) (.nd (some Tryz.f216) .lf .lf)) (.nd none (.nd (some Tryz.f184) .lf .lf) (.nd (some Tryz.f248) .lf .lf))))) (.nd (some Tryz.f12) (.nd (some Tryz.f20) (.nd (some Tryz.f36) (.nd (some Tryz.f68) .lf (.nd (some Tryz.f196) .lf .lf)) (.nd (some Tryz.f100) (.nd (some Tryz.f164) .lf .lf) .lf)) (.nd (some Tryz.f52) (.nd (some Tryz.f84) (.nd (some Tryz.f148) .lf .lf) (.nd (some Tryz.f212) .lf .lf)) (.nd (some Tryz.f116) (.nd (some Tryz.f180) .lf .lf) .lf))) (.nd (some Tryz.f28) (.nd (some Tryz.f44) (.nd (some Tryz.f76) (.nd (some Tryz.f140) .lf .lf) (.nd (some Tryz.f204) .lf .lf)) (.nd (some Tryz.f108) (.nd (some Tryz.f172) .lf .lf) .lf)) (.nd (some Tryz.f60) (.nd (some Tryz.f92) (.nd (some Tryz.f156) .lf .lf) (.nd (some Tryz.f220) .lf .lf)) (.nd none (.nd (some Tryz.f188) .lf .lf) .lf))))) (.nd (some Tryz.f6) (.nd (some Tryz.f10) (.nd (some Tryz.f18) (.nd (some Tryz.f34) (.nd (some Tryz.f66) .lf (.nd (some Tryz.f194) .lf .lf)) (.nd (some Tryz.f98) (.nd (some Tryz.f162) .lf .lf) .lf)) (.nd (some Tryz.f50) (.nd (some Tryz.f82) (.nd (some Tryz.f146) .lf .lf) (.nd (some Tryz.f210) .lf .lf)) (.nd (some Tryz.f114) (.nd (some Tryz.f178) .lf .lf) .lf))) (.nd (some Tryz.f26) (.nd (some Tryz.f42) (.nd (some Tryz.f74) (.nd (some Tryz.f138) .lf .lf) (.nd (some Tryz.f202) .lf .lf)) (.nd (some Tryz.f106) (.nd (some Tryz.f170) .lf .lf) (.nd (some Tryz.f234) .lf .lf))) (.nd (some Tryz.f58) (.nd (some Tryz.f90) (.nd (some Tryz.f154) .lf .lf) (.nd (some Tryz.f218) .lf .lf)) (.nd none (.nd (some Tryz.f186) .lf .lf) .lf)))) (.nd (some Tryz.f14) (.nd (some Tryz.f22) (.nd (some Tryz.f38) (.nd (some Tryz.f70) (.nd (some Tryz.f134) .lf .lf) (.nd (some Tryz.f198) .lf .lf)) (.nd (some Tryz.f102) (.nd (some Tryz.f166) .lf .lf) .lf)) (.nd (some Tryz.f54) (.nd (some Tryz.f86) (.nd (some Tryz.f150) .lf .lf) (.nd (some Tryz.f214) .lf .lf)) (.nd none (.nd (some Tryz.f182) .lf .lf) .lf))) (.nd (some Tryz.f30) (.nd (some Tryz.f46) (.nd (some Tryz.f78) (.nd (some Tryz.f142) .lf .lf) (.nd (some Tryz.f206) .lf .lf)) (.nd (some Tryz.f110) (.nd (some Tryz.f174) .lf .lf) (.nd (some Tryz.f238) .lf .lf))) (.nd (some Tryz.f62) (.nd (some Tryz.f94) (.nd (some Tryz.f158) .lf .lf) .lf) (.nd none (.nd (some Tryz.f190) .lf .lf) .lf)))))))
def gu:Tr (List Nat):=(.nd none (.nd none (.nd (some [0,1,2,3,4,5,6]) (.nd (some [0,2,3,4,5,6]) (.nd (some [0]) (.nd (some [0,1,2]) (.nd (some [0]) .lf .lf) .lf) (.nd none (.nd none (.nd (some [0]) .lf .lf) .lf) (.nd none (.nd (some [0]) .lf .lf) .lf))) (.nd none (.nd none (.nd none (.nd (some [0]) .lf .lf) (.nd (some [0]) .lf .lf)) .lf) (.nd none (.nd (some [0]) .lf .lf) (.nd none (.nd (some [0]) .lf .lf) .lf)))) (.nd (some [0,1,2,4,5,6]) (.nd none (.nd (some [0]) (.nd (some [0]) .lf (.nd (some [0]) .lf .lf)) (.nd (some [0]) .lf .lf)) .lf) (.nd (some [0]) .lf (.nd (some [0]) (.nd none .lf (.nd (some [0]) .lf .lf)) .lf)))) (.nd (some [0,1,2,3,4,5,6]) (.nd (some [0,1,2]) (.nd none (.nd none (.nd none .lf (.nd (some [0]) .lf .lf)) .lf) (.nd none (.nd none (.nd (some [0]) .lf .lf) .lf) .lf)) (.nd (some [0,2,3,4,5,6]) .lf (.nd none (.nd none .lf (.nd (some [0]) .lf .lf)) .lf))) (.nd (some [0,1,2]) (.nd none (.nd (some [0]) (.nd none (.nd (some [0]) .lf .lf) (.nd (some [0]) .lf .lf)) .lf) (.nd none (.nd none .lf (.nd (some [0]) .lf .lf)) (.nd none (.nd (some [0]) .lf .lf) .lf))) (.nd (some [0,1,2]) (.nd none (.nd (some [0]) .lf .lf) .lf) .lf)))) (.nd none (.nd (some [0,1,2,3,4,5,6]) (.nd (some [0]) (.nd none (.nd none (.nd (some [0]) .lf .lf) .lf) (.nd none (.nd (some [0]) .lf .lf) .lf)) (.nd (some [0,2,3,4,5,6]) (.nd none (.nd none (.nd (some [0]) .lf .lf) .lf) .lf) (.nd none (.nd (some [0]) .lf .lf) (.nd none .lf (.nd (some [0,1,2,3,4,5,6]) .lf .lf))))) (.nd none (.nd (some [0]) (.nd (some [0]) (.nd none .lf (.nd (some [0]) .lf .lf)) (.nd (some [0]) .lf .lf)) (.nd (some [0]) .lf .lf)) (.nd (some [0,1,2]) (.nd (some [4,5,6]) (.nd (some [0]) (.nd (some [0]) .lf .lf) (.nd (some [0]) .lf .lf)) .lf) (.nd (some [0]) .lf .lf)))) (.nd (some [0,1,2,3,4,5,6]) (.nd none (.nd (some [0]) (.nd (some [0]) .lf .lf) (.nd (some [0]) (.nd none (.nd (some [0]) .lf .lf) .lf) .lf)) (.nd (some [0]) (.nd none (.nd (some [6]) .lf .lf) .lf) .lf)) (.nd (some [0]) (.nd (some [0,2,4,5,6]) (.nd (some [0]) (.nd none .lf (.nd (some [0]) .lf .lf)) (.nd (some [0]) .lf .lf)) (.nd (some [0,1,2]) (.nd none .lf (.nd (some [0]) .lf .lf)) (.nd none (.nd (some [0]) .lf .lf) .lf))) (.nd none (.nd none .lf (.nd none (.nd (some [0]) .lf .lf) .lf)) (.nd (some [0]) .lf .lf))))))
def Mb {α:Type} (f:Nat->Option α):Tr α->(Nat->Nat)->Tr α
 | .lf,_=>.lf
 | .nd x l r,k=>.nd (match x with | none=>none | some _=>f (k 0)) (Mb f l fun n=>k (2 * n+1)) (Mb f r fun n=>k (2 * n+2))
theorem vX {α:Type} (f:Nat->Option α):∀(t:Tr α) (k:Nat->Nat),Tr.All (fun t i=>f t=some i) (Mb f t k) k
 | .lf,_=>trivial
 | .nd x l r,k=>⟨fun a h=>(by cases x with | none=>cases h | some _=>exact h),vX f l _,vX f r _⟩
theorem tt_eq:Mb (Sc Tryz.prog) tt (fun n=>n)=tt:=by kernel_rfl
theorem ajD:Tr.All (fun t i=>Sc Tryz.prog t=some i) tt (fun n=>n):=by
 have h:=vX (Sc Tryz.prog) tt fun n=>n
 rw [tt_eq] at h
 exact h
noncomputable def fnO (f:Nat):Option Func:=match Tryz.prog.funcs[f]? with
 | none=>none
 | some g=>match g.body.isSome,g.name == "runtime.NumGoroutine" with
   | true,false=>some g
   | _,_=>none
theorem amT {f:Nat} {g:Func} (h:fnO f=some g):Tryz.prog.funcs[f]?=some g /\ g.body.isSome=true /\ (g.name == "runtime.NumGoroutine")=false:=by
 unfold fnO at h
 split at h
 ·cases h
 ·rename_i e
  split at h
  ·rename_i h1 h2;cases h;exact⟨e,h1,h2⟩
  ·cases h
theorem ft_eq:Mb fnO ft (fun n=>n)=ft:=by kernel_rfl
theorem amQ:Tr.All (fun f g=>fnO f=some g) ft (fun n=>n):=by
 have h:=vX fnO ft fun n=>n
 rw [ft_eq] at h
 exact h
theorem ajN {AV:Type} (G:Nat) (F:iL AV) (hv:Op->List SV->Hp AV->T (SV×Hp AV)) (lp:FuncId->Nat->Option (St AV->T (Ex×St AV))):fD Tryz.prog ({tt:=tt,ft:=ft,gu:=gu,G:=G,F:=F,hv:=hv,lp:=lp}:dV AV):=⟨fun t i h=>Tr.JW ajD t i h,fun f g h=>amT (Tr.JW amQ f g h),by kernel_rfl,fun t si h=>(by cases h),fun t m g h=>(by cases h)⟩
end
section
open Go Go.Sx Go.Proofs
def aks:SI:=(SI.mk 34 4 32 [Cell.il IntKind.i64 (Int.ofNat 0),Cell.il IntKind.i64 (Int.ofNat 0),Cell.il IntKind.i64 (Int.ofNat 0),Cell.il IntKind.i64 (Int.ofNat 0)])
def U2:SI:=(SI.mk 151 7 56 [Cell.il IntKind.i64 (Int.ofNat 0),Cell.il IntKind.i64 (Int.ofNat 0),Cell.il IntKind.i64 (Int.ofNat 0),Cell.il IntKind.i64 (Int.ofNat 0),Cell.bl false,Cell.il IntKind.i64 (Int.ofNat 0),Cell.il IntKind.i64 (Int.ofNat 0)])
def KJ:SI:=(SI.mk 3 1 8 [Cell.il IntKind.i64 (Int.ofNat 0)])
def akr:SI:=(SI.mk 187 2 16 [Cell.il IntKind.i64 (Int.ofNat 0),Cell.il IntKind.i64 (Int.ofNat 0)])
def U4:SI:=(SI.mk 60 5 40 [Cell.il IntKind.i64 (Int.ofNat 0),Cell.il IntKind.i64 (Int.ofNat 0),Cell.il IntKind.i64 (Int.ofNat 0),Cell.il IntKind.i64 (Int.ofNat 0),Cell.bl false])
def U3:SI:=(SI.mk 127 52 416 [Cell.il IntKind.i64 (Int.ofNat 0),Cell.bl false,Cell.il IntKind.i64 (Int.ofNat 0),Cell.il IntKind.i64 (Int.ofNat 0),Cell.il IntKind.i64 (Int.ofNat 0),Cell.il IntKind.i64 (Int.ofNat 0),Cell.bl false,Cell.il IntKind.i64 (Int.ofNat 0),Cell.il IntKind.i64 (Int.ofNat 0),Cell.il IntKind.i64 (Int.ofNat 0),Cell.il IntKind.i64 (Int.ofNat 0),Cell.bl false,Cell.il IntKind.i64 (Int.ofNat 0),Cell.il IntKind.i64 (Int.ofNat 0),Cell.il IntKind.i64 (Int.ofNat 0),Cell.il IntKind.i64 (Int.ofNat 0),Cell.bl false,Cell.il IntKind.i64 (Int.ofNat 0),Cell.il IntKind.i64 (Int.ofNat 0),Cell.il IntKind.i64 (Int.ofNat 0),Cell.il IntKind.i64 (Int.ofNat 0),Cell.bl false,Cell.il IntKind.i64 (Int.ofNat 0),Cell.il IntKind.i64 (Int.ofNat 0),Cell.il IntKind.i64 (Int.ofNat 0),Cell.il IntKind.i64 (Int.ofNat 0),Cell.bl false,Cell.il IntKind.i64 (Int.ofNat 0),Cell.il IntKind.i64 (Int.ofNat 0),Cell.il IntKind.i64 (Int.ofNat 0),Cell.il IntKind.i64 (Int.ofNat 0),Cell.bl false,Cell.il IntKind.i64 (Int.ofNat 0),Cell.il IntKind.i64 (Int.ofNat 0),Cell.il IntKind.i64 (Int.ofNat 0),Cell.il IntKind.i64 (Int.ofNat 0),Cell.bl false,Cell.il IntKind.i64 (Int.ofNat 0),Cell.il IntKind.i64 (Int.ofNat 0),Cell.il IntKind.i64 (Int.ofNat 0),Cell.il IntKind.i64 (Int.ofNat 0),Cell.bl false,Cell.il IntKind.i64 (Int.ofNat 0),Cell.il IntKind.i64 (Int.ofNat 0),Cell.il IntKind.i64 (Int.ofNat 0),Cell.il IntKind.i64 (Int.ofNat 0),Cell.bl false,Cell.il IntKind.i64 (Int.ofNat 0),Cell.il IntKind.i64 (Int.ofNat 0),Cell.il IntKind.i64 (Int.ofNat 0),Cell.il IntKind.i64 (Int.ofNat 0),Cell.bl false])
def adG:SI:=(SI.mk 29 1 16 [Cell.fL])
def PD:SI:=(SI.mk 139 3 24 [Cell.bl false,Cell.il IntKind.i64 (Int.ofNat 0),Cell.il IntKind.i64 (Int.ofNat 0)])
def adE:SI:=(SI.mk 305 4 16 [Cell.il IntKind.i32 (Int.ofNat 0),Cell.il IntKind.i32 (Int.ofNat 0),Cell.il IntKind.i32 (Int.ofNat 0),Cell.il IntKind.i32 (Int.ofNat 0)])
def Z2:Tr SI:=(.nd none (.nd none (.nd none .lf (.nd none .lf (.nd none .lf (.nd none (.nd (some akr) .lf .lf) .lf)))) (.nd none (.nd none .lf (.nd none (.nd (some U2) .lf .lf) .lf)) (.nd none (.nd none .lf (.nd none .lf (.nd (some U4) .lf .lf))) .lf))) (.nd none (.nd none .lf (.nd none .lf (.nd none (.nd none (.nd none .lf (.nd (some PD) .lf .lf)) .lf) .lf))) (.nd none (.nd none .lf (.nd none .lf (.nd none (.nd (some KJ) .lf .lf) .lf))) (.nd none (.nd (some aks) .lf (.nd none .lf (.nd (some U3) (.nd (some adG) .lf .lf) .lf))) (.nd none (.nd none .lf (.nd none (.nd none (.nd (some adE) .lf .lf) .lf) .lf)) .lf)))))
theorem apu:yU Tryz.prog 22=some aks:=by kernel_rfl
theorem apt:yU Tryz.prog 41=some U2:=by kernel_rfl
theorem aps:yU Tryz.prog 90=some KJ:=by kernel_rfl
theorem apr:yU Tryz.prog 91=some akr:=by kernel_rfl
theorem akq:yU Tryz.prog 117=some U4:=by kernel_rfl
theorem akp:yU Tryz.prog 118=some U3:=by kernel_rfl
theorem ako:yU Tryz.prog 182=some adG:=by kernel_rfl
theorem akn:yU Tryz.prog 204=some PD:=by kernel_rfl
theorem akm:yU Tryz.prog 302=some adE:=by kernel_rfl
theorem akl:Tr.All (fun t i=>yU Tryz.prog t=some i) Z2 (fun n=>n):=⟨(fun a h=>by cases h),⟨(fun a h=>by cases h),⟨(fun a h=>by cases h),trivial,⟨(fun a h=>by cases h),trivial,⟨(fun a h=>by cases h),trivial,⟨(fun a h=>by cases h),⟨(fun a h=>by cases h;exact apr),trivial,trivial⟩,trivial⟩⟩⟩⟩,⟨(fun a h=>by cases h),⟨(fun a h=>by cases h),trivial,⟨(fun a h=>by cases h),⟨(fun a h=>by cases h;exact apt),trivial,trivial⟩,trivial⟩⟩,⟨(fun a h=>by cases h),⟨(fun a h=>by cases h),trivial,⟨(fun a h=>by cases h),trivial,⟨(fun a h=>by cases h;exact akq),trivial,trivial⟩⟩⟩,trivial⟩⟩⟩,⟨(fun a h=>by cases h),⟨(fun a h=>by cases h),trivial,⟨(fun a h=>by cases h),trivial,⟨(fun a h=>by cases h),⟨(fun a h=>by cases h),⟨(fun a h=>by cases h),trivial,⟨(fun a h=>by cases h;exact akn),trivial,trivial⟩⟩,trivial⟩,trivial⟩⟩⟩,⟨(fun a h=>by cases h),⟨(fun a h=>by cases h),trivial,⟨(fun a h=>by cases h),trivial,⟨(fun a h=>by cases h),⟨(fun a h=>by cases h;exact aps),trivial,trivial⟩,trivial⟩⟩⟩,⟨(fun a h=>by cases h),⟨(fun a h=>by cases h;exact apu),trivial,⟨(fun a h=>by cases h),trivial,⟨(fun a h=>by cases h;exact akp),⟨(fun a h=>by cases h;exact ako),trivial,trivial⟩,trivial⟩⟩⟩,⟨(fun a h=>by cases h),⟨(fun a h=>by cases h),trivial,⟨(fun a h=>by cases h),⟨(fun a h=>by cases h),⟨(fun a h=>by cases h;exact akm),trivial,trivial⟩,trivial⟩,trivial⟩⟩,trivial⟩⟩⟩⟩⟩
theorem Z3:aib Tryz.prog Z2:=fun t i h=>Tr.JW akl t i h
def mtF (t:TypeId) (m:String):Option FuncId:=match decide (m = "Next") with
 | true=>match Nat.beq t 96 with | true=>some 133 | false=>match Nat.beq t 99 with | true=>some 143 | false=>match Nat.beq t 102 with | true=>some 152 | false=>match Nat.beq t 105 with | true=>some 174 | false=>match Nat.beq t 108 with | true=>some 193 | false=>none
 | false=>none
theorem alb (v:Value) (w:World):(Go.method (Tryz.prog.types.size+Made.depth) 96 v "Next").run Tryz.prog w=.ok (133,v) w:=by kernel_rfl
theorem ala (v:Value) (w:World):(Go.method (Tryz.prog.types.size+Made.depth) 99 v "Next").run Tryz.prog w=.ok (143,v) w:=by kernel_rfl
theorem ak9 (v:Value) (w:World):(Go.method (Tryz.prog.types.size+Made.depth) 102 v "Next").run Tryz.prog w=.ok (152,v) w:=by kernel_rfl
theorem ak8 (v:Value) (w:World):(Go.method (Tryz.prog.types.size+Made.depth) 105 v "Next").run Tryz.prog w=.ok (174,v) w:=by kernel_rfl
theorem ak7 (v:Value) (w:World):(Go.method (Tryz.prog.types.size+Made.depth) 108 v "Next").run Tryz.prog w=.ok (193,v) w:=by kernel_rfl
theorem ap5:∀t m g,mtF t m=some g->∀(v:Value) (w:World),(Go.method (Tryz.prog.types.size+Made.depth) t v m).run Tryz.prog w=.ok (g,v) w:=by
 intro t m g h v w
 unfold mtF at h
 split at h
 ·rename_i hm
  have hm:=aaV hm
  subst hm
  split at h
  ·rename_i e
   have e:=(aC _ _).1 e
   subst e
   cases h
   exact alb v w
  split at h
  ·rename_i e
   have e:=(aC _ _).1 e
   subst e
   cases h
   exact ala v w
  split at h
  ·rename_i e
   have e:=(aC _ _).1 e
   subst e
   cases h
   exact ak9 v w
  split at h
  ·rename_i e
   have e:=(aC _ _).1 e
   subst e
   cases h
   exact ak8 v w
  split at h
  ·rename_i e
   have e:=(aC _ _).1 e
   subst e
   cases h
   exact ak7 v w
  cases h
 ·cases h
theorem Uc {AV:Type} {N N':dV AV} (h:fD Tryz.prog N) (ht:N'.tt=N.tt) (hf:N'.ft=N.ft) (hs:N'.sl=Z2) (hm:N'.mt=mtF):fD Tryz.prog N' :=
 ⟨fun t i e=>h.ty t i (by rw [<- ht];exact e),fun f g e=>h.fn f g (by rw [<- hf];exact e),h.mix,fun t si e=>Z3 t si (by rw [<- hs];exact e),fun t m g e=>ap5 t m g (by rw [<- hm];exact e)⟩
