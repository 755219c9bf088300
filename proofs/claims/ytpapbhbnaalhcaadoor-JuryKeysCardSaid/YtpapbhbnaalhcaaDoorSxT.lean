import Derived.Test.YtpapbhbnaalhcaaDoorSxM
import Derived.Test.YtpapbhbnaalhcaaDoorProg
import Derived.Test.YtpapbhbnaalhcaaDoorSxZ
namespace Go.Proofs.YtpapbhbnaalhcaaDoor
open Go Go.Sx Go.Proofs
set_option maxRecDepth 100000
abbrev zI : Int := Int.ofNat 0
abbrev c_i64 : Cell := Cell.il IntKind.i64 zI
abbrev f_i64 : FK := FK.int IntKind.i64
abbrev c_u8 : Cell := Cell.il IntKind.u8 zI
abbrev f_u8 : FK := FK.int IntKind.u8
abbrev c_u64 : Cell := Cell.il IntKind.u64 zI
abbrev f_u64 : FK := FK.int IntKind.u64
abbrev c_u32 : Cell := Cell.il IntKind.u32 zI
abbrev f_u32 : FK := FK.int IntKind.u32
def ty0 : TI := (TI.mk Kd.other 1 none none)
def ty1 : TI := (TI.mk Kd.other 1 (some [Cell.nfn]) none)
def ty2 : TI := (TI.mk (Kd.int IntKind.i64) 1 (some [c_i64]) (some [f_i64]))
def ty4 : TI := (TI.mk Kd.bool 1 (some [Cell.bl false]) (some [FK.bool]))
def ty5 : TI := (TI.mk (Kd.int IntKind.u8) 1 (some [c_u8]) (some [f_u8]))
def ty7 : TI := (TI.mk (Kd.struct [FdI.mk 0 1 2 false, FdI.mk 1 1 3 false, FdI.mk 2 1 4 false, FdI.mk 3 1 6 false]) 4 (some [c_i64, c_i64, Cell.bl false, c_u8]) (some [f_i64, f_i64, FK.bool, f_u8]))
def ty9 : TI := (TI.mk Kd.str 1 (some [Cell.st (ByteArray.mk (Array.mk []))]) (some [FK.str]))
def ty12 : TI := (TI.mk (Kd.int IntKind.u64) 1 (some [c_u64]) (some [f_u64]))
def ty13 : TI := (TI.mk (Kd.struct [FdI.mk 0 1 9 false, FdI.mk 1 1 12 false]) 2 (some [Cell.st (ByteArray.mk (Array.mk [])), c_u64]) none)
def ty15 : TI := (TI.mk Kd.ptr 1 (some [Cell.pnil]) none)
def ty18 : TI := (TI.mk (Kd.struct [FdI.mk 0 1 17 false]) 1 (some [Cell.pnil]) none)
def ty20 : TI := (TI.mk Kd.iface 1 (some [Cell.inil]) none)
def ty21 : TI := (TI.mk (Kd.int IntKind.i32) 1 (some [Cell.il IntKind.i32 zI]) (some [FK.int IntKind.i32]))
def ty22 : TI := (TI.mk (Kd.slice 4) 1 (some [Cell.snil]) none)
def ty23 : TI := (TI.mk (Kd.slice 2) 1 (some [Cell.snil]) none)
def ty31 : TI := (TI.mk (Kd.slice 10) 1 (some [Cell.snil]) none)
def ty32 : TI := (TI.mk (Kd.struct [FdI.mk 0 1 3 false, FdI.mk 1 1 3 false, FdI.mk 2 1 3 false, FdI.mk 3 1 3 false]) 4 (some [c_i64, c_i64, c_i64, c_i64]) (some [f_i64, f_i64, f_i64, f_i64]))
def ty34 : TI := (TI.mk (Kd.struct [FdI.mk 0 1 3 false, FdI.mk 1 1 3 false]) 2 (some [c_i64, c_i64]) (some [f_i64, f_i64]))
def ty36 : TI := (TI.mk (Kd.struct [FdI.mk 0 1 3 false, FdI.mk 1 4 33 true, FdI.mk 5 2 35 true, FdI.mk 7 1 3 false, FdI.mk 8 1 3 false, FdI.mk 9 1 4 false]) 10 (some [c_i64, c_i64, c_i64, c_i64, c_i64, c_i64, c_i64, c_i64, c_i64, Cell.bl false]) (some [f_i64, f_i64, f_i64, f_i64, f_i64, f_i64, f_i64, f_i64, f_i64, FK.bool]))
def ty39 : TI := (TI.mk (Kd.slice 1) 1 (some [Cell.snil]) none)
def ty43 : TI := (TI.mk (Kd.slice 8) 1 (some [Cell.snil]) none)
def ty55 : TI := (TI.mk (Kd.struct [FdI.mk 0 1 39 false, FdI.mk 1 1 54 false]) 2 (some [Cell.snil, Cell.snil]) none)
def ty57 : TI := (TI.mk (Kd.struct [FdI.mk 0 1 3 false, FdI.mk 1 2 56 true]) 3 (some [c_i64, Cell.snil, Cell.snil]) none)
def ty61 : TI := (TI.mk (Kd.map 104 105) 1 (some [Cell.mp none]) none)
def ty62 : TI := (TI.mk (Kd.struct [FdI.mk 0 1 31 false, FdI.mk 1 1 39 false, FdI.mk 2 1 3 false, FdI.mk 3 1 61 false, FdI.mk 4 1 39 false]) 5 (some [Cell.snil, Cell.snil, c_i64, Cell.mp none, Cell.snil]) none)
def ty68 : TI := (TI.mk (Kd.struct [FdI.mk 0 1 3 false, FdI.mk 1 1 4 false, FdI.mk 2 4 33 true, FdI.mk 6 2 35 true]) 8 (some [c_i64, Cell.bl false, c_i64, c_i64, c_i64, c_i64, c_i64, c_i64]) (some [f_i64, FK.bool, f_i64, f_i64, f_i64, f_i64, f_i64, f_i64]))
def ty103 : TI := (TI.mk (Kd.struct [FdI.mk 0 1 3 false, FdI.mk 1 1 9 false]) 2 (some [c_i64, Cell.st (ByteArray.mk (Array.mk []))]) (some [f_i64, FK.str]))
def ty105 : TI := (TI.mk (Kd.struct []) 0 (some []) (some []))
def ty108 : TI := (TI.mk (Kd.map 3 3) 1 (some [Cell.mp none]) none)
def ty121 : TI := (TI.mk (Kd.struct [FdI.mk 0 1 3 false, FdI.mk 1 1 3 false, FdI.mk 2 1 3 false]) 3 (some [c_i64, c_i64, c_i64]) (some [f_i64, f_i64, f_i64]))
def ty123 : TI := (TI.mk (Kd.struct [FdI.mk 0 1 3 false, FdI.mk 1 1 3 false, FdI.mk 2 1 3 false, FdI.mk 3 1 3 false, FdI.mk 4 1 4 false]) 5 (some [c_i64, c_i64, c_i64, c_i64, Cell.bl false]) (some [f_i64, f_i64, f_i64, f_i64, FK.bool]))
def ty125 : TI := (TI.mk (Kd.struct [FdI.mk 0 1 3 false, FdI.mk 1 3 122 true, FdI.mk 4 5 124 true, FdI.mk 9 5 124 true, FdI.mk 14 1 3 false, FdI.mk 15 1 3 false, FdI.mk 16 2 35 true]) 18 (some [c_i64, c_i64, c_i64, c_i64, c_i64, c_i64, c_i64, c_i64, Cell.bl false, c_i64, c_i64, c_i64, c_i64, Cell.bl false, c_i64, c_i64, c_i64, c_i64]) (some [f_i64, f_i64, f_i64, f_i64, f_i64, f_i64, f_i64, f_i64, FK.bool, f_i64, f_i64, f_i64, f_i64, FK.bool, f_i64, f_i64, f_i64, f_i64]))
def ty127 : TI := (TI.mk (Kd.struct [FdI.mk 0 1 3 false, FdI.mk 1 18 126 true]) 19 (some [c_i64, c_i64, c_i64, c_i64, c_i64, c_i64, c_i64, c_i64, c_i64, Cell.bl false, c_i64, c_i64, c_i64, c_i64, Cell.bl false, c_i64, c_i64, c_i64, c_i64]) (some [f_i64, f_i64, f_i64, f_i64, f_i64, f_i64, f_i64, f_i64, f_i64, FK.bool, f_i64, f_i64, f_i64, f_i64, FK.bool, f_i64, f_i64, f_i64, f_i64]))
def ty129 : TI := (TI.mk (Kd.struct [FdI.mk 0 19 128 true, FdI.mk 19 4 33 true, FdI.mk 23 5 124 true, FdI.mk 28 5 124 true, FdI.mk 33 1 3 false]) 34 (some [c_i64, c_i64, c_i64, c_i64, c_i64, c_i64, c_i64, c_i64, c_i64, Cell.bl false, c_i64, c_i64, c_i64, c_i64, Cell.bl false, c_i64, c_i64, c_i64, c_i64, c_i64, c_i64, c_i64, c_i64, c_i64, c_i64, c_i64, c_i64, Cell.bl false, c_i64, c_i64, c_i64, c_i64, Cell.bl false, c_i64]) (some [f_i64, f_i64, f_i64, f_i64, f_i64, f_i64, f_i64, f_i64, f_i64, FK.bool, f_i64, f_i64, f_i64, f_i64, FK.bool, f_i64, f_i64, f_i64, f_i64, f_i64, f_i64, f_i64, f_i64, f_i64, f_i64, f_i64, f_i64, FK.bool, f_i64, f_i64, f_i64, f_i64, FK.bool, f_i64]))
def ty133 : TI := (TI.mk (Kd.struct [FdI.mk 0 19 132 true, FdI.mk 19 4 33 true, FdI.mk 23 5 124 true, FdI.mk 28 5 124 true, FdI.mk 33 5 124 true, FdI.mk 38 5 124 true, FdI.mk 43 1 3 false]) 44 (some [c_i64, c_i64, c_i64, c_i64, c_i64, c_i64, c_i64, c_i64, c_i64, Cell.bl false, c_i64, c_i64, c_i64, c_i64, Cell.bl false, c_i64, c_i64, c_i64, c_i64, c_i64, c_i64, c_i64, c_i64, c_i64, c_i64, c_i64, c_i64, Cell.bl false, c_i64, c_i64, c_i64, c_i64, Cell.bl false, c_i64, c_i64, c_i64, c_i64, Cell.bl false, c_i64, c_i64, c_i64, c_i64, Cell.bl false, c_i64]) (some [f_i64, f_i64, f_i64, f_i64, f_i64, f_i64, f_i64, f_i64, f_i64, FK.bool, f_i64, f_i64, f_i64, f_i64, FK.bool, f_i64, f_i64, f_i64, f_i64, f_i64, f_i64, f_i64, f_i64, f_i64, f_i64, f_i64, f_i64, FK.bool, f_i64, f_i64, f_i64, f_i64, FK.bool, f_i64, f_i64, f_i64, f_i64, FK.bool, f_i64, f_i64, f_i64, f_i64, FK.bool, f_i64]))
def ty142 : TI := (TI.mk (Kd.struct [FdI.mk 0 19 140 true, FdI.mk 19 4 33 true, FdI.mk 23 1 3 false, FdI.mk 24 1 3 false, FdI.mk 25 1 3 false, FdI.mk 26 1 3 false, FdI.mk 27 5 124 true, FdI.mk 32 5 124 true, FdI.mk 37 5 124 true, FdI.mk 42 1 141 false, FdI.mk 43 1 84 false, FdI.mk 44 2 35 true, FdI.mk 46 5 124 true]) 51 (some [c_i64, c_i64, c_i64, c_i64, c_i64, c_i64, c_i64, c_i64, c_i64, Cell.bl false, c_i64, c_i64, c_i64, c_i64, Cell.bl false, c_i64, c_i64, c_i64, c_i64, c_i64, c_i64, c_i64, c_i64, c_i64, c_i64, c_i64, c_i64, c_i64, c_i64, c_i64, c_i64, Cell.bl false, c_i64, c_i64, c_i64, c_i64, Cell.bl false, c_i64, c_i64, c_i64, c_i64, Cell.bl false, Cell.pnil, Cell.pnil, c_i64, c_i64, c_i64, c_i64, c_i64, c_i64, Cell.bl false]) none)
def ty147 : TI := (TI.mk (Kd.struct [FdI.mk 0 19 145 true, FdI.mk 19 4 33 true, FdI.mk 23 1 146 false, FdI.mk 24 5 124 true, FdI.mk 29 1 3 false, FdI.mk 30 1 3 false, FdI.mk 31 1 3 false]) 32 (some [c_i64, c_i64, c_i64, c_i64, c_i64, c_i64, c_i64, c_i64, c_i64, Cell.bl false, c_i64, c_i64, c_i64, c_i64, Cell.bl false, c_i64, c_i64, c_i64, c_i64, c_i64, c_i64, c_i64, c_i64, Cell.pnil, c_i64, c_i64, c_i64, c_i64, Cell.bl false, c_i64, c_i64, c_i64]) none)
def ty163 : TI := (TI.mk (Kd.struct [FdI.mk 0 1 3 false, FdI.mk 1 1 28 false]) 2 (some [c_i64, Cell.inil]) none)
def ty167 : TI := (TI.mk (Kd.struct [FdI.mk 0 19 166 true, FdI.mk 19 3 122 true, FdI.mk 22 1 3 false, FdI.mk 23 4 33 true, FdI.mk 27 1 141 false, FdI.mk 28 5 124 true, FdI.mk 33 1 3 false]) 34 (some [c_i64, c_i64, c_i64, c_i64, c_i64, c_i64, c_i64, c_i64, c_i64, Cell.bl false, c_i64, c_i64, c_i64, c_i64, Cell.bl false, c_i64, c_i64, c_i64, c_i64, c_i64, c_i64, c_i64, c_i64, c_i64, c_i64, c_i64, c_i64, Cell.pnil, c_i64, c_i64, c_i64, c_i64, Cell.bl false, c_i64]) none)
def ty182 : TI := (TI.mk (Kd.int IntKind.u32) 1 (some [c_u32]) (some [f_u32]))
def ty191 : TI := (TI.mk (Kd.struct [FdI.mk 0 1 17 false, FdI.mk 1 1 17 false, FdI.mk 2 1 17 false, FdI.mk 3 1 9 false]) 4 (some [Cell.pnil, Cell.pnil, Cell.pnil, Cell.st (ByteArray.mk (Array.mk []))]) none)
def ty193 : TI := (TI.mk (Kd.arr 0 1) 0 (some []) (some []))
def ty194 : TI := (TI.mk (Kd.struct [FdI.mk 0 0 193 true]) 0 (some []) none)
def ty203 : TI := (TI.mk (Kd.struct [FdI.mk 0 1 12 false, FdI.mk 1 1 12 false, FdI.mk 2 1 182 false, FdI.mk 3 1 197 false, FdI.mk 4 1 5 false, FdI.mk 5 1 5 false, FdI.mk 6 1 198 false, FdI.mk 7 1 199 false, FdI.mk 8 1 200 false, FdI.mk 9 1 201 false, FdI.mk 10 1 202 false]) 11 (some [c_u64, c_u64, c_u32, c_u8, c_u8, c_u8, c_u8, Cell.nfn, Cell.pnil, Cell.il IntKind.i32 zI, Cell.il IntKind.i32 zI]) none)
def ty215 : TI := (TI.mk (Kd.struct [FdI.mk 0 1 9 false, FdI.mk 1 1 198 false]) 2 (some [Cell.st (ByteArray.mk (Array.mk [])), c_u8]) none)
def ty217 : TI := (TI.mk (Kd.struct [FdI.mk 0 19 166 true, FdI.mk 19 3 122 true, FdI.mk 22 1 3 false, FdI.mk 23 3 122 true, FdI.mk 26 5 124 true, FdI.mk 31 5 124 true, FdI.mk 36 1 3 false, FdI.mk 37 1 4 false]) 38 (some [c_i64, c_i64, c_i64, c_i64, c_i64, c_i64, c_i64, c_i64, c_i64, Cell.bl false, c_i64, c_i64, c_i64, c_i64, Cell.bl false, c_i64, c_i64, c_i64, c_i64, c_i64, c_i64, c_i64, c_i64, c_i64, c_i64, c_i64, c_i64, c_i64, c_i64, c_i64, Cell.bl false, c_i64, c_i64, c_i64, c_i64, Cell.bl false, c_i64, Cell.bl false]) (some [f_i64, f_i64, f_i64, f_i64, f_i64, f_i64, f_i64, f_i64, f_i64, FK.bool, f_i64, f_i64, f_i64, f_i64, FK.bool, f_i64, f_i64, f_i64, f_i64, f_i64, f_i64, f_i64, f_i64, f_i64, f_i64, f_i64, f_i64, f_i64, f_i64, f_i64, FK.bool, f_i64, f_i64, f_i64, f_i64, FK.bool, f_i64, FK.bool]))
def ty220 : TI := (TI.mk (Kd.struct [FdI.mk 0 3 122 true, FdI.mk 3 5 124 true]) 8 (some [c_i64, c_i64, c_i64, c_i64, c_i64, c_i64, c_i64, Cell.bl false]) (some [f_i64, f_i64, f_i64, f_i64, f_i64, f_i64, f_i64, FK.bool]))
def ty222 : TI := (TI.mk (Kd.arr 3 8) 24 (some [c_i64, c_i64, c_i64, c_i64, c_i64, c_i64, c_i64, Cell.bl false, c_i64, c_i64, c_i64, c_i64, c_i64, c_i64, c_i64, Cell.bl false, c_i64, c_i64, c_i64, c_i64, c_i64, c_i64, c_i64, Cell.bl false]) (some [f_i64, f_i64, f_i64, f_i64, f_i64, f_i64, f_i64, FK.bool, f_i64, f_i64, f_i64, f_i64, f_i64, f_i64, f_i64, FK.bool, f_i64, f_i64, f_i64, f_i64, f_i64, f_i64, f_i64, FK.bool]))
def ty223 : TI := (TI.mk (Kd.struct [FdI.mk 0 19 145 true, FdI.mk 19 8 221 true, FdI.mk 27 1 3 false, FdI.mk 28 1 3 false, FdI.mk 29 5 124 true, FdI.mk 34 1 3 false, FdI.mk 35 24 222 true, FdI.mk 59 5 124 true]) 64 (some [c_i64, c_i64, c_i64, c_i64, c_i64, c_i64, c_i64, c_i64, c_i64, Cell.bl false, c_i64, c_i64, c_i64, c_i64, Cell.bl false, c_i64, c_i64, c_i64, c_i64, c_i64, c_i64, c_i64, c_i64, c_i64, c_i64, c_i64, Cell.bl false, c_i64, c_i64, c_i64, c_i64, c_i64, c_i64, Cell.bl false, c_i64, c_i64, c_i64, c_i64, c_i64, c_i64, c_i64, c_i64, Cell.bl false, c_i64, c_i64, c_i64, c_i64, c_i64, c_i64, c_i64, Cell.bl false, c_i64, c_i64, c_i64, c_i64, c_i64, c_i64, c_i64, Cell.bl false, c_i64, c_i64, c_i64, c_i64, Cell.bl false]) (some [f_i64, f_i64, f_i64, f_i64, f_i64, f_i64, f_i64, f_i64, f_i64, FK.bool, f_i64, f_i64, f_i64, f_i64, FK.bool, f_i64, f_i64, f_i64, f_i64, f_i64, f_i64, f_i64, f_i64, f_i64, f_i64, f_i64, FK.bool, f_i64, f_i64, f_i64, f_i64, f_i64, f_i64, FK.bool, f_i64, f_i64, f_i64, f_i64, f_i64, f_i64, f_i64, f_i64, FK.bool, f_i64, f_i64, f_i64, f_i64, f_i64, f_i64, f_i64, FK.bool, f_i64, f_i64, f_i64, f_i64, f_i64, f_i64, f_i64, FK.bool, f_i64, f_i64, f_i64, f_i64, FK.bool]))
def ty225 : TI := (TI.mk (Kd.struct [FdI.mk 0 1 9 false]) 1 (some [Cell.st (ByteArray.mk (Array.mk []))]) (some [FK.str]))
def ty227 : TI := (TI.mk Kd.other 1 (some [Cell.pnil]) none)
def ty230 : TI := (TI.mk (Kd.int IntKind.u16) 1 (some [Cell.il IntKind.u16 zI]) (some [FK.int IntKind.u16]))
def ty231 : TI := (TI.mk (Kd.struct [FdI.mk 0 1 201 false, FdI.mk 1 1 230 false, FdI.mk 2 1 230 false, FdI.mk 3 1 182 false, FdI.mk 4 1 182 false]) 5 (some [Cell.il IntKind.i32 zI, Cell.il IntKind.u16 zI, Cell.il IntKind.u16 zI, c_u32, c_u32]) none)
def ty235 : TI := (TI.mk (Kd.struct [FdI.mk 0 1 201 false, FdI.mk 1 1 202 false, FdI.mk 2 1 234 false, FdI.mk 3 1 234 false]) 4 (some [Cell.il IntKind.i32 zI, Cell.il IntKind.i32 zI, Cell.il IntKind.i32 zI, Cell.il IntKind.i32 zI]) none)
def tt : Tr TI := (.nd (some ty0) (.nd (some ty1) (.nd (some ty2) (.nd (some ty7) (.nd (some ty15) (.nd (some ty31) (.nd (some ty62) (.nd (some ty127) .lf .lf) (.nd (some ty191) .lf .lf)) (.nd (some ty0) (.nd (some ty1) .lf .lf) (.nd (some ty223) .lf .lf))) (.nd (some ty1) (.nd (some ty0) (.nd (some ty142) .lf .lf) (.nd (some ty1) .lf .lf)) (.nd (some ty18) (.nd (some ty1) .lf .lf) (.nd (some ty1) .lf .lf)))) (.nd (some ty23) (.nd (some ty39) (.nd (some ty0) (.nd (some ty1) .lf .lf) (.nd (some ty1) .lf .lf)) (.nd (some ty103) (.nd (some ty167) .lf .lf) (.nd (some ty231) .lf .lf))) (.nd (some ty55) (.nd (some ty15) (.nd (some ty15) .lf .lf) (.nd (some ty215) .lf .lf)) (.nd (some ty39) (.nd none .lf .lf) .lf)))) (.nd (some ty9) (.nd (some ty18) (.nd (some ty34) (.nd (some ty39) (.nd (some ty127) .lf .lf) (.nd (some ty194) .lf .lf)) (.nd (some ty1) (.nd (some ty163) .lf .lf) (.nd (some ty227) .lf .lf))) (.nd (some ty1) (.nd (some ty1) (.nd (some ty147) .lf .lf) (.nd (some ty1) .lf .lf)) (.nd (some ty1) (.nd (some ty1) .lf .lf) .lf))) (.nd (some ty20) (.nd (some ty43) (.nd (some ty20) (.nd (some ty127) .lf .lf) (.nd (some ty203) .lf .lf)) (.nd (some ty1) (.nd (some ty12) .lf .lf) (.nd (some ty235) .lf .lf))) (.nd (some ty1) (.nd (some ty0) (.nd (some ty1) .lf .lf) (.nd (some ty1) .lf .lf)) (.nd (some ty123) (.nd none .lf .lf) .lf))))) (.nd (some ty5) (.nd (some ty9) (.nd (some ty15) (.nd (some ty32) (.nd (some ty1) (.nd (some ty129) .lf .lf) (.nd (some ty193) .lf .lf)) (.nd (some ty34) (.nd (some ty1) .lf .lf) (.nd (some ty225) .lf .lf))) (.nd (some ty1) (.nd (some ty15) (.nd (some ty127) .lf .lf) (.nd (some ty1) .lf .lf)) (.nd (some ty20) (.nd (some ty0) .lf .lf) .lf))) (.nd (some ty12) (.nd (some ty1) (.nd (some ty1) (.nd (some ty1) .lf .lf) (.nd (some ty21) .lf .lf)) (.nd (some ty105) (.nd (some ty1) .lf .lf) (.nd (some ty22) .lf .lf))) (.nd (some ty57) (.nd (some ty1) (.nd (some ty1) .lf .lf) (.nd (some ty217) .lf .lf)) (.nd (some ty121) (.nd (some ty1) .lf .lf) .lf)))) (.nd (some ty13) (.nd (some ty21) (.nd (some ty36) (.nd (some ty68) (.nd (some ty133) .lf .lf) (.nd (some ty5) .lf .lf)) (.nd (some ty15) (.nd (some ty127) .lf .lf) (.nd (some ty1) .lf .lf))) (.nd (some ty1) (.nd (some ty0) (.nd (some ty0) .lf .lf) (.nd (some ty1) .lf .lf)) (.nd (some ty1) (.nd none .lf .lf) .lf))) (.nd (some ty0) (.nd (some ty1) (.nd (some ty1) (.nd (some ty15) .lf .lf) (.nd (some ty1) .lf .lf)) (.nd (some ty1) (.nd (some ty1) .lf .lf) (.nd (some ty15) .lf .lf))) (.nd (some ty61) (.nd (some ty1) (.nd (some ty1) .lf .lf) (.nd (some ty220) .lf .lf)) (.nd (some ty125) (.nd (some ty15) .lf .lf) .lf)))))) (.nd (some ty2) (.nd (some ty4) (.nd (some ty7) (.nd (some ty15) (.nd (some ty32) (.nd (some ty1) (.nd (some ty127) .lf .lf) (.nd (some ty191) .lf .lf)) (.nd (some ty1) (.nd (some ty1) .lf .lf) (.nd (some ty223) .lf .lf))) (.nd (some ty1) (.nd (some ty1) (.nd (some ty127) .lf .lf) (.nd (some ty1) .lf .lf)) (.nd (some ty15) (.nd (some ty1) .lf .lf) .lf))) (.nd (some ty1) (.nd (some ty0) (.nd (some ty1) (.nd (some ty0) .lf .lf) (.nd (some ty15) .lf .lf)) (.nd (some ty103) (.nd (some ty167) .lf .lf) (.nd (some ty231) .lf .lf))) (.nd (some ty55) (.nd (some ty0) (.nd (some ty1) .lf .lf) (.nd (some ty215) .lf .lf)) (.nd (some ty1) (.nd (some ty1) .lf .lf) .lf)))) (.nd (some ty12) (.nd (some ty20) (.nd (some ty36) (.nd (some ty68) (.nd (some ty127) .lf .lf) (.nd (some ty1) .lf .lf)) (.nd (some ty1) (.nd (some ty163) .lf .lf) (.nd (some ty15) .lf .lf))) (.nd (some ty1) (.nd (some ty15) (.nd (some ty147) .lf .lf) (.nd (some ty1) .lf .lf)) (.nd (some ty20) (.nd (some ty1) .lf .lf) .lf))) (.nd (some ty20) (.nd (some ty0) (.nd (some ty1) (.nd (some ty127) .lf .lf) (.nd (some ty203) .lf .lf)) (.nd (some ty108) (.nd (some ty1) .lf .lf) (.nd (some ty235) .lf .lf))) (.nd (some ty1) (.nd (some ty1) (.nd (some ty39) .lf .lf) (.nd (some ty220) .lf .lf)) (.nd (some ty123) (.nd none .lf .lf) .lf))))) (.nd (some ty5) (.nd (some ty9) (.nd (some ty18) (.nd (some ty34) (.nd (some ty1) (.nd (some ty129) .lf .lf) (.nd (some ty194) .lf .lf)) (.nd (some ty34) (.nd (some ty15) .lf .lf) (.nd (some ty225) .lf .lf))) (.nd (some ty1) (.nd (some ty0) (.nd (some ty15) .lf .lf) (.nd (some ty1) .lf .lf)) (.nd (some ty0) (.nd (some ty1) .lf .lf) .lf))) (.nd (some ty15) (.nd (some ty1) (.nd (some ty20) (.nd (some ty1) .lf .lf) (.nd (some ty21) .lf .lf)) (.nd (some ty0) (.nd (some ty1) .lf .lf) (.nd (some ty21) .lf .lf))) (.nd (some ty57) (.nd (some ty15) (.nd (some ty1) .lf .lf) (.nd (some ty217) .lf .lf)) (.nd (some ty121) (.nd (some ty1) .lf .lf) .lf)))) (.nd (some ty13) (.nd (some ty22) (.nd (some ty1) (.nd (some ty1) (.nd (some ty133) .lf .lf) (.nd (some ty5) .lf .lf)) (.nd (some ty1) (.nd (some ty127) .lf .lf) (.nd (some ty230) .lf .lf))) (.nd (some ty23) (.nd (some ty1) (.nd (some ty1) .lf .lf) (.nd (some ty1) .lf .lf)) (.nd (some ty20) (.nd (some ty182) .lf .lf) .lf))) (.nd (some ty1) (.nd (some ty1) (.nd (some ty15) (.nd (some ty142) .lf .lf) (.nd (some ty1) .lf .lf)) (.nd (some ty18) (.nd none .lf .lf) (.nd (some ty15) .lf .lf))) (.nd (some ty62) (.nd (some ty1) (.nd (some ty1) .lf .lf) (.nd (some ty222) .lf .lf)) (.nd (some ty125) (.nd (some ty1) .lf .lf) .lf)))))))
noncomputable def ft : Tr Func := (.nd none (.nd none (.nd (some Tryd.f3) (.nd (some Tryd.f7) (.nd (some Tryd.f15) (.nd (some Tryd.f31) (.nd (some Tryd.f63) .lf .lf) .lf) .lf) (.nd (some Tryd.f23) (.nd (some Tryd.f39) .lf .lf) (.nd (some Tryd.f55) .lf (.nd (some Tryd.f119) .lf .lf)))) (.nd (some Tryd.f11) (.nd (some Tryd.f19) (.nd (some Tryd.f35) (.nd (some Tryd.f67) .lf .lf) .lf) (.nd (some Tryd.f51) .lf .lf)) (.nd (some Tryd.f27) (.nd (some Tryd.f43) .lf .lf) (.nd (some Tryd.f59) .lf .lf)))) (.nd (some Tryd.f5) (.nd (some Tryd.f9) (.nd (some Tryd.f17) (.nd (some Tryd.f33) (.nd (some Tryd.f65) .lf .lf) .lf) (.nd (some Tryd.f49) .lf .lf)) (.nd none (.nd (some Tryd.f41) .lf (.nd (some Tryd.f105) .lf .lf)) (.nd (some Tryd.f57) .lf .lf))) (.nd (some Tryd.f13) (.nd (some Tryd.f21) (.nd (some Tryd.f37) (.nd (some Tryd.f69) .lf .lf) .lf) (.nd (some Tryd.f53) .lf .lf)) (.nd (some Tryd.f29) (.nd (some Tryd.f45) .lf (.nd (some Tryd.f109) .lf .lf)) (.nd (some Tryd.f61) .lf .lf))))) (.nd (some Tryd.f2) (.nd (some Tryd.f4) (.nd (some Tryd.f8) (.nd (some Tryd.f16) (.nd (some Tryd.f32) (.nd (some Tryd.f64) .lf .lf) .lf) (.nd (some Tryd.f48) .lf .lf)) (.nd (some Tryd.f24) (.nd (some Tryd.f40) .lf .lf) (.nd (some Tryd.f56) .lf .lf))) (.nd (some Tryd.f12) (.nd (some Tryd.f20) (.nd (some Tryd.f36) (.nd (some Tryd.f68) .lf .lf) .lf) (.nd (some Tryd.f52) .lf .lf)) (.nd (some Tryd.f28) (.nd (some Tryd.f44) .lf .lf) (.nd (some Tryd.f60) .lf .lf)))) (.nd (some Tryd.f6) (.nd (some Tryd.f10) (.nd (some Tryd.f18) (.nd (some Tryd.f34) (.nd (some Tryd.f66) .lf .lf) .lf) (.nd (some Tryd.f50) .lf .lf)) (.nd (some Tryd.f26) (.nd (some Tryd.f42) .lf .lf) (.nd (some Tryd.f58) .lf .lf))) (.nd (some Tryd.f14) (.nd (some Tryd.f22) (.nd (some Tryd.f38) .lf .lf) (.nd (some Tryd.f54) .lf .lf)) (.nd (some Tryd.f30) (.nd (some Tryd.f46) .lf .lf) (.nd (some Tryd.f62) .lf .lf))))))
def gu : Tr (List Nat) := (.nd none (.nd none (.nd (some [0, 1, 2, 3, 4, 5, 6]) (.nd (some [0, 1, 2, 3, 4, 5, 6]) (.nd none (.nd (some [0]) .lf .lf) .lf) (.nd (some [0, 2]) .lf (.nd none .lf (.nd (some [0, 1, 2, 3, 4, 5, 6]) .lf .lf)))) (.nd (some [0, 2]) (.nd none (.nd none (.nd (some [5, 6]) .lf .lf) .lf) .lf) (.nd (some [0]) .lf .lf))) (.nd (some [0, 1, 2, 3, 4, 5, 6]) (.nd (some [0]) (.nd none (.nd (some [0, 3]) .lf .lf) .lf) .lf) (.nd (some [0]) (.nd none (.nd (some [4, 5, 6]) (.nd (some [6]) .lf .lf) .lf) .lf) (.nd (some [0]) .lf .lf)))) (.nd none (.nd (some [0, 1, 2, 3, 4, 5, 6]) (.nd (some [0]) (.nd (some [0, 2, 3]) .lf .lf) (.nd none .lf (.nd (some [4, 5, 6]) .lf .lf))) (.nd none (.nd (some [0, 3, 4, 5, 6]) (.nd none (.nd (some [5]) .lf .lf) .lf) .lf) (.nd (some [0]) (.nd (some [0, 3]) .lf .lf) (.nd (some [4]) .lf .lf)))) (.nd (some [0, 1, 2, 3, 4, 5, 6]) (.nd (some [0, 1, 2, 3, 4, 5, 6]) (.nd none .lf (.nd (some [4, 5, 6]) .lf .lf)) (.nd none (.nd (some [0]) .lf .lf) (.nd (some [4, 5, 6]) .lf .lf))) (.nd none .lf (.nd (some [0]) .lf (.nd (some [5, 6]) .lf .lf))))))
abbrev FnI (f : Nat) (g : Func) : Prop := Tryd.prog.funcs[f]? = some g /\ g.body.isSome = true /\ (g.name == "runtime.NumGoroutine") = false
theorem fiP {f : Nat} {g : Func} (h : FnI f g) : ∀ a, some g = some a -> FnI f a := fun a e => by cases e; exact h
theorem fiN (f : Nat) : ∀ a, (none : Option Func) = some a -> FnI f a := fun a e => by cases e
theorem fi2 : FnI 2 Tryd.f2 := ⟨Tryd.func2, rfl, by kernel_rfl⟩
theorem fi3 : FnI 3 Tryd.f3 := ⟨Tryd.func3, rfl, by kernel_rfl⟩
theorem fi4 : FnI 4 Tryd.f4 := ⟨Tryd.func4, rfl, by kernel_rfl⟩
theorem fi5 : FnI 5 Tryd.f5 := ⟨Tryd.func5, rfl, by kernel_rfl⟩
theorem fi6 : FnI 6 Tryd.f6 := ⟨Tryd.func6, rfl, by kernel_rfl⟩
theorem fi7 : FnI 7 Tryd.f7 := ⟨Tryd.func7, rfl, by kernel_rfl⟩
theorem fi8 : FnI 8 Tryd.f8 := ⟨Tryd.func8, rfl, by kernel_rfl⟩
theorem fi9 : FnI 9 Tryd.f9 := ⟨Tryd.func9, rfl, by kernel_rfl⟩
theorem fi10 : FnI 10 Tryd.f10 := ⟨Tryd.func10, rfl, by kernel_rfl⟩
theorem fi11 : FnI 11 Tryd.f11 := ⟨Tryd.func11, rfl, by kernel_rfl⟩
theorem fi12 : FnI 12 Tryd.f12 := ⟨Tryd.func12, rfl, by kernel_rfl⟩
theorem fi13 : FnI 13 Tryd.f13 := ⟨Tryd.func13, rfl, by kernel_rfl⟩
theorem fi14 : FnI 14 Tryd.f14 := ⟨Tryd.func14, rfl, by kernel_rfl⟩
theorem fi15 : FnI 15 Tryd.f15 := ⟨Tryd.func15, rfl, by kernel_rfl⟩
theorem fi16 : FnI 16 Tryd.f16 := ⟨Tryd.func16, rfl, by kernel_rfl⟩
theorem fi17 : FnI 17 Tryd.f17 := ⟨Tryd.func17, rfl, by kernel_rfl⟩
theorem fi18 : FnI 18 Tryd.f18 := ⟨Tryd.func18, rfl, by kernel_rfl⟩
theorem fi19 : FnI 19 Tryd.f19 := ⟨Tryd.func19, rfl, by kernel_rfl⟩
theorem fi20 : FnI 20 Tryd.f20 := ⟨Tryd.func20, rfl, by kernel_rfl⟩
theorem fi21 : FnI 21 Tryd.f21 := ⟨Tryd.func21, rfl, by kernel_rfl⟩
theorem fi22 : FnI 22 Tryd.f22 := ⟨Tryd.func22, rfl, by kernel_rfl⟩
theorem fi23 : FnI 23 Tryd.f23 := ⟨Tryd.func23, rfl, by kernel_rfl⟩
theorem fi24 : FnI 24 Tryd.f24 := ⟨Tryd.func24, rfl, by kernel_rfl⟩
theorem fi26 : FnI 26 Tryd.f26 := ⟨Tryd.func26, rfl, by kernel_rfl⟩
theorem fi27 : FnI 27 Tryd.f27 := ⟨Tryd.func27, rfl, by kernel_rfl⟩
theorem fi28 : FnI 28 Tryd.f28 := ⟨Tryd.func28, rfl, by kernel_rfl⟩
theorem fi29 : FnI 29 Tryd.f29 := ⟨Tryd.func29, rfl, by kernel_rfl⟩
theorem fi30 : FnI 30 Tryd.f30 := ⟨Tryd.func30, rfl, by kernel_rfl⟩
theorem fi31 : FnI 31 Tryd.f31 := ⟨Tryd.func31, rfl, by kernel_rfl⟩
theorem fi32 : FnI 32 Tryd.f32 := ⟨Tryd.func32, rfl, by kernel_rfl⟩
theorem fi33 : FnI 33 Tryd.f33 := ⟨Tryd.func33, rfl, by kernel_rfl⟩
theorem fi34 : FnI 34 Tryd.f34 := ⟨Tryd.func34, rfl, by kernel_rfl⟩
theorem fi35 : FnI 35 Tryd.f35 := ⟨Tryd.func35, rfl, by kernel_rfl⟩
theorem fi36 : FnI 36 Tryd.f36 := ⟨Tryd.func36, rfl, by kernel_rfl⟩
theorem fi37 : FnI 37 Tryd.f37 := ⟨Tryd.func37, rfl, by kernel_rfl⟩
theorem fi38 : FnI 38 Tryd.f38 := ⟨Tryd.func38, rfl, by kernel_rfl⟩
theorem fi39 : FnI 39 Tryd.f39 := ⟨Tryd.func39, rfl, by kernel_rfl⟩
theorem fi40 : FnI 40 Tryd.f40 := ⟨Tryd.func40, rfl, by kernel_rfl⟩
theorem fi41 : FnI 41 Tryd.f41 := ⟨Tryd.func41, rfl, by kernel_rfl⟩
theorem fi42 : FnI 42 Tryd.f42 := ⟨Tryd.func42, rfl, by kernel_rfl⟩
theorem fi43 : FnI 43 Tryd.f43 := ⟨Tryd.func43, rfl, by kernel_rfl⟩
theorem fi44 : FnI 44 Tryd.f44 := ⟨Tryd.func44, rfl, by kernel_rfl⟩
theorem fi45 : FnI 45 Tryd.f45 := ⟨Tryd.func45, rfl, by kernel_rfl⟩
theorem fi46 : FnI 46 Tryd.f46 := ⟨Tryd.func46, rfl, by kernel_rfl⟩
theorem fi48 : FnI 48 Tryd.f48 := ⟨Tryd.func48, rfl, by kernel_rfl⟩
theorem fi49 : FnI 49 Tryd.f49 := ⟨Tryd.func49, rfl, by kernel_rfl⟩
theorem fi50 : FnI 50 Tryd.f50 := ⟨Tryd.func50, rfl, by kernel_rfl⟩
theorem fi51 : FnI 51 Tryd.f51 := ⟨Tryd.func51, rfl, by kernel_rfl⟩
theorem fi52 : FnI 52 Tryd.f52 := ⟨Tryd.func52, rfl, by kernel_rfl⟩
theorem fi53 : FnI 53 Tryd.f53 := ⟨Tryd.func53, rfl, by kernel_rfl⟩
theorem fi54 : FnI 54 Tryd.f54 := ⟨Tryd.func54, rfl, by kernel_rfl⟩
theorem fi55 : FnI 55 Tryd.f55 := ⟨Tryd.func55, rfl, by kernel_rfl⟩
theorem fi56 : FnI 56 Tryd.f56 := ⟨Tryd.func56, rfl, by kernel_rfl⟩
theorem fi57 : FnI 57 Tryd.f57 := ⟨Tryd.func57, rfl, by kernel_rfl⟩
theorem fi58 : FnI 58 Tryd.f58 := ⟨Tryd.func58, rfl, by kernel_rfl⟩
theorem fi59 : FnI 59 Tryd.f59 := ⟨Tryd.func59, rfl, by kernel_rfl⟩
theorem fi60 : FnI 60 Tryd.f60 := ⟨Tryd.func60, rfl, by kernel_rfl⟩
theorem fi61 : FnI 61 Tryd.f61 := ⟨Tryd.func61, rfl, by kernel_rfl⟩
theorem fi62 : FnI 62 Tryd.f62 := ⟨Tryd.func62, rfl, by kernel_rfl⟩
theorem fi63 : FnI 63 Tryd.f63 := ⟨Tryd.func63, rfl, by kernel_rfl⟩
theorem fi64 : FnI 64 Tryd.f64 := ⟨Tryd.func64, rfl, by kernel_rfl⟩
theorem fi65 : FnI 65 Tryd.f65 := ⟨Tryd.func65, rfl, by kernel_rfl⟩
theorem fi66 : FnI 66 Tryd.f66 := ⟨Tryd.func66, rfl, by kernel_rfl⟩
theorem fi67 : FnI 67 Tryd.f67 := ⟨Tryd.func67, rfl, by kernel_rfl⟩
theorem fi68 : FnI 68 Tryd.f68 := ⟨Tryd.func68, rfl, by kernel_rfl⟩
theorem fi69 : FnI 69 Tryd.f69 := ⟨Tryd.func69, rfl, by kernel_rfl⟩
theorem fi105 : FnI 105 Tryd.f105 := ⟨Tryd.func105, rfl, by kernel_rfl⟩
theorem fi109 : FnI 109 Tryd.f109 := ⟨Tryd.func109, rfl, by kernel_rfl⟩
theorem fi119 : FnI 119 Tryd.f119 := ⟨Tryd.func119, rfl, by kernel_rfl⟩
def fillT (f : Nat -> Option TI) : Tr TI -> (Nat -> Nat) -> Tr TI
 | .lf, _ => .lf
 | .nd x l r, k => .nd (match x with | none => none | some _ => f (k 0)) (fillT f l fun n => k (2 * n + 1)) (fillT f r fun n => k (2 * n + 2))
theorem fillT_all (f : Nat -> Option TI) : ∀ (t : Tr TI) (k : Nat -> Nat), Tr.All (fun t i => f t = some i) (fillT f t k) k
 | .lf, _ => trivial
 | .nd x l r, k => ⟨fun a h => (by cases x with | none => cases h | some _ => exact h), fillT_all f l _, fillT_all f r _⟩
theorem tt_eq : fillT (mkTI Tryd.prog) tt (fun n => n) = tt := by kernel_rfl
theorem ttAll : Tr.All (fun t i => mkTI Tryd.prog t = some i) tt (fun n => n) := by
 have h := fillT_all (mkTI Tryd.prog) tt fun n => n
 rw [tt_eq] at h
 exact h
theorem ftAll : Tr.All (fun f g => Tryd.prog.funcs[f]? = some g /\ g.body.isSome = true /\ (g.name == "runtime.NumGoroutine") = false) ft (fun n => n) := ⟨fiN _, ⟨fiN _, ⟨fiP fi3, ⟨fiP fi7, ⟨fiP fi15, ⟨fiP fi31, ⟨fiP fi63, trivial, trivial⟩, trivial⟩, trivial⟩, ⟨fiP fi23, ⟨fiP fi39, trivial, trivial⟩, ⟨fiP fi55, trivial, ⟨fiP fi119, trivial, trivial⟩⟩⟩⟩, ⟨fiP fi11, ⟨fiP fi19, ⟨fiP fi35, ⟨fiP fi67, trivial, trivial⟩, trivial⟩, ⟨fiP fi51, trivial, trivial⟩⟩, ⟨fiP fi27, ⟨fiP fi43, trivial, trivial⟩, ⟨fiP fi59, trivial, trivial⟩⟩⟩⟩, ⟨fiP fi5, ⟨fiP fi9, ⟨fiP fi17, ⟨fiP fi33, ⟨fiP fi65, trivial, trivial⟩, trivial⟩, ⟨fiP fi49, trivial, trivial⟩⟩, ⟨fiN _, ⟨fiP fi41, trivial, ⟨fiP fi105, trivial, trivial⟩⟩, ⟨fiP fi57, trivial, trivial⟩⟩⟩, ⟨fiP fi13, ⟨fiP fi21, ⟨fiP fi37, ⟨fiP fi69, trivial, trivial⟩, trivial⟩, ⟨fiP fi53, trivial, trivial⟩⟩, ⟨fiP fi29, ⟨fiP fi45, trivial, ⟨fiP fi109, trivial, trivial⟩⟩, ⟨fiP fi61, trivial, trivial⟩⟩⟩⟩⟩, ⟨fiP fi2, ⟨fiP fi4, ⟨fiP fi8, ⟨fiP fi16, ⟨fiP fi32, ⟨fiP fi64, trivial, trivial⟩, trivial⟩, ⟨fiP fi48, trivial, trivial⟩⟩, ⟨fiP fi24, ⟨fiP fi40, trivial, trivial⟩, ⟨fiP fi56, trivial, trivial⟩⟩⟩, ⟨fiP fi12, ⟨fiP fi20, ⟨fiP fi36, ⟨fiP fi68, trivial, trivial⟩, trivial⟩, ⟨fiP fi52, trivial, trivial⟩⟩, ⟨fiP fi28, ⟨fiP fi44, trivial, trivial⟩, ⟨fiP fi60, trivial, trivial⟩⟩⟩⟩, ⟨fiP fi6, ⟨fiP fi10, ⟨fiP fi18, ⟨fiP fi34, ⟨fiP fi66, trivial, trivial⟩, trivial⟩, ⟨fiP fi50, trivial, trivial⟩⟩, ⟨fiP fi26, ⟨fiP fi42, trivial, trivial⟩, ⟨fiP fi58, trivial, trivial⟩⟩⟩, ⟨fiP fi14, ⟨fiP fi22, ⟨fiP fi38, trivial, trivial⟩, ⟨fiP fi54, trivial, trivial⟩⟩, ⟨fiP fi30, ⟨fiP fi46, trivial, trivial⟩, ⟨fiP fi62, trivial, trivial⟩⟩⟩⟩⟩⟩
theorem tblOk {AV : Type} (G : Nat) (F : Intf AV) (hv : Op -> List SV -> Hp AV -> T (SV × Hp AV)) (lp : FuncId -> Nat -> Option (St AV -> T (Ex × St AV))) : TblOk Tryd.prog ({ tt := tt, ft := ft, gu := gu, G := G, F := F, hv := hv, lp := lp } : Env AV) := ⟨fun t i h => Tr.all_get ttAll t i h, fun f g h => Tr.all_get ftAll f g h, by kernel_rfl, fun t si h => (by cases h), fun t m g h => (by cases h)⟩
end Go.Proofs.YtpapbhbnaalhcaaDoor

namespace Go.Proofs.YtpapbhbnaalhcaaDoor
open Go Go.Sx Go.Proofs
set_option maxRecDepth 100000
def si22 : SI := (SI.mk 33 4 32 [Cell.il IntKind.i64 (Int.ofNat 0), Cell.il IntKind.i64 (Int.ofNat 0), Cell.il IntKind.i64 (Int.ofNat 0), Cell.il IntKind.i64 (Int.ofNat 0)])
def si23 : SI := (SI.mk 35 2 16 [Cell.il IntKind.i64 (Int.ofNat 0), Cell.il IntKind.i64 (Int.ofNat 0)])
def si31 : SI := (SI.mk 37 10 80 [Cell.il IntKind.i64 (Int.ofNat 0), Cell.il IntKind.i64 (Int.ofNat 0), Cell.il IntKind.i64 (Int.ofNat 0), Cell.il IntKind.i64 (Int.ofNat 0), Cell.il IntKind.i64 (Int.ofNat 0), Cell.il IntKind.i64 (Int.ofNat 0), Cell.il IntKind.i64 (Int.ofNat 0), Cell.il IntKind.i64 (Int.ofNat 0), Cell.il IntKind.i64 (Int.ofNat 0), Cell.bl false])
def si39 : SI := (SI.mk 3 1 8 [Cell.il IntKind.i64 (Int.ofNat 0)])
def si43 : SI := (SI.mk 69 8 64 [Cell.il IntKind.i64 (Int.ofNat 0), Cell.bl false, Cell.il IntKind.i64 (Int.ofNat 0), Cell.il IntKind.i64 (Int.ofNat 0), Cell.il IntKind.i64 (Int.ofNat 0), Cell.il IntKind.i64 (Int.ofNat 0), Cell.il IntKind.i64 (Int.ofNat 0), Cell.il IntKind.i64 (Int.ofNat 0)])
def si54 : SI := (SI.mk 98 2 16 [Cell.il IntKind.i64 (Int.ofNat 0), Cell.il IntKind.i64 (Int.ofNat 0)])
def si67 : SI := (SI.mk 4 1 1 [Cell.bl false])
def si119 : SI := (SI.mk 28 1 16 [Cell.inil])
def si156 : SI := (SI.mk 5 1 1 [Cell.il IntKind.u8 (Int.ofNat 0)])
def si233 : SI := (SI.mk 236 4 16 [Cell.il IntKind.i32 (Int.ofNat 0), Cell.il IntKind.i32 (Int.ofNat 0), Cell.il IntKind.i32 (Int.ofNat 0), Cell.il IntKind.i32 (Int.ofNat 0)])
def slT : Tr SI := (.nd none (.nd none (.nd none (.nd none (.nd none (.nd (some si31) .lf .lf) .lf) (.nd (some si23) (.nd (some si39) .lf .lf) (.nd none .lf (.nd (some si119) .lf .lf)))) (.nd none (.nd none (.nd none (.nd (some si67) .lf .lf) .lf) .lf) (.nd none (.nd (some si43) .lf .lf) .lf))) (.nd none (.nd none .lf (.nd none (.nd none .lf (.nd none .lf (.nd (some si233) .lf .lf))) .lf)) .lf)) (.nd none (.nd none .lf (.nd none .lf (.nd none .lf (.nd none (.nd none (.nd (some si156) .lf .lf) .lf) .lf)))) (.nd none .lf (.nd none (.nd (some si22) .lf (.nd (some si54) .lf .lf)) .lf))))
theorem sk22 : mkSI Tryd.prog 22 = some si22 := by kernel_rfl
theorem sk23 : mkSI Tryd.prog 23 = some si23 := by kernel_rfl
theorem sk31 : mkSI Tryd.prog 31 = some si31 := by kernel_rfl
theorem sk39 : mkSI Tryd.prog 39 = some si39 := by kernel_rfl
theorem sk43 : mkSI Tryd.prog 43 = some si43 := by kernel_rfl
theorem sk54 : mkSI Tryd.prog 54 = some si54 := by kernel_rfl
theorem sk67 : mkSI Tryd.prog 67 = some si67 := by kernel_rfl
theorem sk119 : mkSI Tryd.prog 119 = some si119 := by kernel_rfl
theorem sk156 : mkSI Tryd.prog 156 = some si156 := by kernel_rfl
theorem sk233 : mkSI Tryd.prog 233 = some si233 := by kernel_rfl
theorem slAll : Tr.All (fun t i => mkSI Tryd.prog t = some i) slT (fun n => n) := ⟨(fun a h => by cases h), ⟨(fun a h => by cases h), ⟨(fun a h => by cases h), ⟨(fun a h => by cases h), ⟨(fun a h => by cases h), ⟨(fun a h => by cases h; exact sk31), trivial, trivial⟩, trivial⟩, ⟨(fun a h => by cases h; exact sk23), ⟨(fun a h => by cases h; exact sk39), trivial, trivial⟩, ⟨(fun a h => by cases h), trivial, ⟨(fun a h => by cases h; exact sk119), trivial, trivial⟩⟩⟩⟩, ⟨(fun a h => by cases h), ⟨(fun a h => by cases h), ⟨(fun a h => by cases h), ⟨(fun a h => by cases h; exact sk67), trivial, trivial⟩, trivial⟩, trivial⟩, ⟨(fun a h => by cases h), ⟨(fun a h => by cases h; exact sk43), trivial, trivial⟩, trivial⟩⟩⟩, ⟨(fun a h => by cases h), ⟨(fun a h => by cases h), trivial, ⟨(fun a h => by cases h), ⟨(fun a h => by cases h), trivial, ⟨(fun a h => by cases h), trivial, ⟨(fun a h => by cases h; exact sk233), trivial, trivial⟩⟩⟩, trivial⟩⟩, trivial⟩⟩, ⟨(fun a h => by cases h), ⟨(fun a h => by cases h), trivial, ⟨(fun a h => by cases h), trivial, ⟨(fun a h => by cases h), trivial, ⟨(fun a h => by cases h), ⟨(fun a h => by cases h), ⟨(fun a h => by cases h; exact sk156), trivial, trivial⟩, trivial⟩, trivial⟩⟩⟩⟩, ⟨(fun a h => by cases h), trivial, ⟨(fun a h => by cases h), ⟨(fun a h => by cases h; exact sk22), trivial, ⟨(fun a h => by cases h; exact sk54), trivial, trivial⟩⟩, trivial⟩⟩⟩⟩
theorem slOk : SlOk Tryd.prog slT := fun t i h => Tr.all_get slAll t i h
def mtF (t : TypeId) (m : String) : Option FuncId := match decide (m = "Next") with
 | true => none
 | false => none
theorem mtOk : ∀ t m g, mtF t m = some g -> ∀ (v : Value) (w : World), (Go.method (Tryd.prog.types.size + Made.depth) t v m).run Tryd.prog w = .ok (g, v) w := by
 intro t m g h v w
 unfold mtF at h
 split at h
 ·rename_i hm
  have hm := of_decide_eq_true hm
  subst hm
  cases h
 ·cases h
theorem tblOk_mt {AV : Type} {N N' : Env AV} (h : TblOk Tryd.prog N) (ht : N'.tt = N.tt) (hf : N'.ft = N.ft) (hs : N'.sl = slT) (hm : N'.mt = mtF) : TblOk Tryd.prog N' :=
 ⟨fun t i e => h.ty t i (by rw [<- ht]; exact e), fun f g e => h.fn f g (by rw [<- hf]; exact e), h.mix, fun t si e => slOk t si (by rw [<- hs]; exact e), fun t m g e => mtOk t m g (by rw [<- hm]; exact e)⟩
end Go.Proofs.YtpapbhbnaalhcaaDoor
