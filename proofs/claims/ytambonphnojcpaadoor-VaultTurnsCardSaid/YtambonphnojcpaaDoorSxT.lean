/- The tables of types and functions of this seat, by program (wip/tools/mktab.py); each row is held against the program by the kernel. -/
import Derived.Test.YtambonphnojcpaaDoorSxM
import Derived.Test.YtambonphnojcpaaDoorProg
namespace Go.Proofs.YtambonphnojcpaaDoor
open Go Go.Sx Go.Proofs
set_option maxRecDepth 100000
def ty0 : TI := (TI.mk Kd.other 1 none none)
def ty1 : TI := (TI.mk Kd.other 1 (some [Cell.nfn]) none)
def ty2 : TI := (TI.mk (Kd.int IntKind.i64) 1 (some [Cell.il IntKind.i64 (Int.ofNat 0)]) (some [some IntKind.i64]))
def ty3 : TI := (TI.mk (Kd.int IntKind.i64) 1 (some [Cell.il IntKind.i64 (Int.ofNat 0)]) (some [some IntKind.i64]))
def ty4 : TI := (TI.mk Kd.bool 1 (some [Cell.bl false]) (some [none]))
def ty5 : TI := (TI.mk (Kd.int IntKind.u8) 1 (some [Cell.il IntKind.u8 (Int.ofNat 0)]) (some [some IntKind.u8]))
def ty6 : TI := (TI.mk (Kd.int IntKind.u8) 1 (some [Cell.il IntKind.u8 (Int.ofNat 0)]) (some [some IntKind.u8]))
def ty7 : TI := (TI.mk (Kd.struct [FdI.mk 0 1 2 false, FdI.mk 1 1 3 false, FdI.mk 2 1 4 false, FdI.mk 3 1 6 false]) 4 (some [Cell.il IntKind.i64 (Int.ofNat 0), Cell.il IntKind.i64 (Int.ofNat 0), Cell.bl false, Cell.il IntKind.u8 (Int.ofNat 0)]) (some [some IntKind.i64, some IntKind.i64, none, some IntKind.u8]))
def ty8 : TI := (TI.mk (Kd.struct [FdI.mk 0 1 2 false, FdI.mk 1 1 3 false, FdI.mk 2 1 4 false, FdI.mk 3 1 6 false]) 4 (some [Cell.il IntKind.i64 (Int.ofNat 0), Cell.il IntKind.i64 (Int.ofNat 0), Cell.bl false, Cell.il IntKind.u8 (Int.ofNat 0)]) (some [some IntKind.i64, some IntKind.i64, none, some IntKind.u8]))
def ty9 : TI := (TI.mk Kd.str 1 (some [Cell.st (ByteArray.mk (Array.mk []))]) none)
def ty10 : TI := (TI.mk Kd.str 1 (some [Cell.st (ByteArray.mk (Array.mk []))]) none)
def ty11 : TI := (TI.mk Kd.str 1 (some [Cell.st (ByteArray.mk (Array.mk []))]) none)
def ty12 : TI := (TI.mk (Kd.int IntKind.u64) 1 (some [Cell.il IntKind.u64 (Int.ofNat 0)]) (some [some IntKind.u64]))
def ty13 : TI := (TI.mk (Kd.struct [FdI.mk 0 1 9 false, FdI.mk 1 1 12 false]) 2 (some [Cell.st (ByteArray.mk (Array.mk [])), Cell.il IntKind.u64 (Int.ofNat 0)]) none)
def ty14 : TI := (TI.mk (Kd.struct [FdI.mk 0 1 9 false, FdI.mk 1 1 12 false]) 2 (some [Cell.st (ByteArray.mk (Array.mk [])), Cell.il IntKind.u64 (Int.ofNat 0)]) none)
def ty15 : TI := (TI.mk Kd.ptr 1 (some [Cell.pnil]) none)
def ty16 : TI := (TI.mk Kd.ptr 1 (some [Cell.pnil]) none)
def ty17 : TI := (TI.mk Kd.ptr 1 (some [Cell.pnil]) none)
def ty18 : TI := (TI.mk (Kd.struct [FdI.mk 0 1 17 false]) 1 (some [Cell.pnil]) none)
def ty19 : TI := (TI.mk (Kd.struct [FdI.mk 0 1 17 false]) 1 (some [Cell.pnil]) none)
def ty20 : TI := (TI.mk Kd.iface 1 (some [Cell.inil]) none)
def ty21 : TI := (TI.mk (Kd.int IntKind.i32) 1 (some [Cell.il IntKind.i32 (Int.ofNat 0)]) (some [some IntKind.i32]))
def ty22 : TI := (TI.mk Kd.other 1 (some [Cell.nfn]) none)
def ty23 : TI := (TI.mk Kd.other 1 none none)
def ty24 : TI := (TI.mk Kd.other 1 (some [Cell.nfn]) none)
def ty25 : TI := (TI.mk Kd.other 1 (some [Cell.nfn]) none)
def ty26 : TI := (TI.mk Kd.other 1 (some [Cell.nfn]) none)
def ty27 : TI := (TI.mk (Kd.int IntKind.u64) 1 (some [Cell.il IntKind.u64 (Int.ofNat 0)]) (some [some IntKind.u64]))
def ty28 : TI := (TI.mk Kd.other 1 (some [Cell.nfn]) none)
def ty29 : TI := (TI.mk Kd.ptr 1 (some [Cell.pnil]) none)
def ty30 : TI := (TI.mk Kd.iface 1 (some [Cell.inil]) none)
def ty31 : TI := (TI.mk Kd.iface 1 (some [Cell.inil]) none)
def ty32 : TI := (TI.mk Kd.other 1 none none)
def ty33 : TI := (TI.mk Kd.other 1 (some [Cell.nfn]) none)
def ty34 : TI := (TI.mk (Kd.struct [FdI.mk 0 1 3 false, FdI.mk 1 1 3 false, FdI.mk 2 1 3 false, FdI.mk 3 1 3 false]) 4 (some [Cell.il IntKind.i64 (Int.ofNat 0), Cell.il IntKind.i64 (Int.ofNat 0), Cell.il IntKind.i64 (Int.ofNat 0), Cell.il IntKind.i64 (Int.ofNat 0)]) (some [some IntKind.i64, some IntKind.i64, some IntKind.i64, some IntKind.i64]))
def ty35 : TI := (TI.mk (Kd.struct [FdI.mk 0 1 3 false, FdI.mk 1 1 3 false, FdI.mk 2 1 3 false, FdI.mk 3 1 3 false]) 4 (some [Cell.il IntKind.i64 (Int.ofNat 0), Cell.il IntKind.i64 (Int.ofNat 0), Cell.il IntKind.i64 (Int.ofNat 0), Cell.il IntKind.i64 (Int.ofNat 0)]) (some [some IntKind.i64, some IntKind.i64, some IntKind.i64, some IntKind.i64]))
def ty36 : TI := (TI.mk (Kd.struct [FdI.mk 0 1 3 false, FdI.mk 1 1 3 false, FdI.mk 2 1 3 false]) 3 (some [Cell.il IntKind.i64 (Int.ofNat 0), Cell.il IntKind.i64 (Int.ofNat 0), Cell.il IntKind.i64 (Int.ofNat 0)]) (some [some IntKind.i64, some IntKind.i64, some IntKind.i64]))
def ty37 : TI := (TI.mk (Kd.struct [FdI.mk 0 1 3 false, FdI.mk 1 1 3 false, FdI.mk 2 1 3 false]) 3 (some [Cell.il IntKind.i64 (Int.ofNat 0), Cell.il IntKind.i64 (Int.ofNat 0), Cell.il IntKind.i64 (Int.ofNat 0)]) (some [some IntKind.i64, some IntKind.i64, some IntKind.i64]))
def ty38 : TI := (TI.mk (Kd.struct [FdI.mk 0 1 3 false, FdI.mk 1 1 3 false, FdI.mk 2 1 3 false, FdI.mk 3 1 3 false, FdI.mk 4 1 4 false]) 5 (some [Cell.il IntKind.i64 (Int.ofNat 0), Cell.il IntKind.i64 (Int.ofNat 0), Cell.il IntKind.i64 (Int.ofNat 0), Cell.il IntKind.i64 (Int.ofNat 0), Cell.bl false]) (some [some IntKind.i64, some IntKind.i64, some IntKind.i64, some IntKind.i64, none]))
def ty39 : TI := (TI.mk (Kd.struct [FdI.mk 0 1 3 false, FdI.mk 1 1 3 false, FdI.mk 2 1 3 false, FdI.mk 3 1 3 false, FdI.mk 4 1 4 false]) 5 (some [Cell.il IntKind.i64 (Int.ofNat 0), Cell.il IntKind.i64 (Int.ofNat 0), Cell.il IntKind.i64 (Int.ofNat 0), Cell.il IntKind.i64 (Int.ofNat 0), Cell.bl false]) (some [some IntKind.i64, some IntKind.i64, some IntKind.i64, some IntKind.i64, none]))
def ty40 : TI := (TI.mk (Kd.struct [FdI.mk 0 1 3 false, FdI.mk 1 1 3 false]) 2 (some [Cell.il IntKind.i64 (Int.ofNat 0), Cell.il IntKind.i64 (Int.ofNat 0)]) (some [some IntKind.i64, some IntKind.i64]))
def ty41 : TI := (TI.mk (Kd.struct [FdI.mk 0 1 3 false, FdI.mk 1 1 3 false]) 2 (some [Cell.il IntKind.i64 (Int.ofNat 0), Cell.il IntKind.i64 (Int.ofNat 0)]) (some [some IntKind.i64, some IntKind.i64]))
def ty42 : TI := (TI.mk (Kd.struct [FdI.mk 0 1 3 false, FdI.mk 1 3 37 true, FdI.mk 4 5 39 true, FdI.mk 9 5 39 true, FdI.mk 14 1 3 false, FdI.mk 15 1 3 false, FdI.mk 16 2 41 true]) 18 (some [Cell.il IntKind.i64 (Int.ofNat 0), Cell.il IntKind.i64 (Int.ofNat 0), Cell.il IntKind.i64 (Int.ofNat 0), Cell.il IntKind.i64 (Int.ofNat 0), Cell.il IntKind.i64 (Int.ofNat 0), Cell.il IntKind.i64 (Int.ofNat 0), Cell.il IntKind.i64 (Int.ofNat 0), Cell.il IntKind.i64 (Int.ofNat 0), Cell.bl false, Cell.il IntKind.i64 (Int.ofNat 0), Cell.il IntKind.i64 (Int.ofNat 0), Cell.il IntKind.i64 (Int.ofNat 0), Cell.il IntKind.i64 (Int.ofNat 0), Cell.bl false, Cell.il IntKind.i64 (Int.ofNat 0), Cell.il IntKind.i64 (Int.ofNat 0), Cell.il IntKind.i64 (Int.ofNat 0), Cell.il IntKind.i64 (Int.ofNat 0)]) (some [some IntKind.i64, some IntKind.i64, some IntKind.i64, some IntKind.i64, some IntKind.i64, some IntKind.i64, some IntKind.i64, some IntKind.i64, none, some IntKind.i64, some IntKind.i64, some IntKind.i64, some IntKind.i64, none, some IntKind.i64, some IntKind.i64, some IntKind.i64, some IntKind.i64]))
def ty43 : TI := (TI.mk (Kd.struct [FdI.mk 0 1 3 false, FdI.mk 1 3 37 true, FdI.mk 4 5 39 true, FdI.mk 9 5 39 true, FdI.mk 14 1 3 false, FdI.mk 15 1 3 false, FdI.mk 16 2 41 true]) 18 (some [Cell.il IntKind.i64 (Int.ofNat 0), Cell.il IntKind.i64 (Int.ofNat 0), Cell.il IntKind.i64 (Int.ofNat 0), Cell.il IntKind.i64 (Int.ofNat 0), Cell.il IntKind.i64 (Int.ofNat 0), Cell.il IntKind.i64 (Int.ofNat 0), Cell.il IntKind.i64 (Int.ofNat 0), Cell.il IntKind.i64 (Int.ofNat 0), Cell.bl false, Cell.il IntKind.i64 (Int.ofNat 0), Cell.il IntKind.i64 (Int.ofNat 0), Cell.il IntKind.i64 (Int.ofNat 0), Cell.il IntKind.i64 (Int.ofNat 0), Cell.bl false, Cell.il IntKind.i64 (Int.ofNat 0), Cell.il IntKind.i64 (Int.ofNat 0), Cell.il IntKind.i64 (Int.ofNat 0), Cell.il IntKind.i64 (Int.ofNat 0)]) (some [some IntKind.i64, some IntKind.i64, some IntKind.i64, some IntKind.i64, some IntKind.i64, some IntKind.i64, some IntKind.i64, some IntKind.i64, none, some IntKind.i64, some IntKind.i64, some IntKind.i64, some IntKind.i64, none, some IntKind.i64, some IntKind.i64, some IntKind.i64, some IntKind.i64]))
def ty44 : TI := (TI.mk Kd.other 1 (some [Cell.nfn]) none)
def ty45 : TI := (TI.mk (Kd.struct [FdI.mk 0 5 39 true, FdI.mk 5 1 4 false]) 6 (some [Cell.il IntKind.i64 (Int.ofNat 0), Cell.il IntKind.i64 (Int.ofNat 0), Cell.il IntKind.i64 (Int.ofNat 0), Cell.il IntKind.i64 (Int.ofNat 0), Cell.bl false, Cell.bl false]) (some [some IntKind.i64, some IntKind.i64, some IntKind.i64, some IntKind.i64, none, none]))
def ty46 : TI := (TI.mk (Kd.struct [FdI.mk 0 5 39 true, FdI.mk 5 1 4 false]) 6 (some [Cell.il IntKind.i64 (Int.ofNat 0), Cell.il IntKind.i64 (Int.ofNat 0), Cell.il IntKind.i64 (Int.ofNat 0), Cell.il IntKind.i64 (Int.ofNat 0), Cell.bl false, Cell.bl false]) (some [some IntKind.i64, some IntKind.i64, some IntKind.i64, some IntKind.i64, none, none]))
def ty47 : TI := (TI.mk Kd.other 1 (some [Cell.nfn]) none)
def ty48 : TI := (TI.mk Kd.other 1 (some [Cell.nfn]) none)
def ty49 : TI := (TI.mk Kd.other 1 (some [Cell.nfn]) none)
def ty50 : TI := (TI.mk (Kd.struct [FdI.mk 0 1 3 false, FdI.mk 1 18 43 true]) 19 (some [Cell.il IntKind.i64 (Int.ofNat 0), Cell.il IntKind.i64 (Int.ofNat 0), Cell.il IntKind.i64 (Int.ofNat 0), Cell.il IntKind.i64 (Int.ofNat 0), Cell.il IntKind.i64 (Int.ofNat 0), Cell.il IntKind.i64 (Int.ofNat 0), Cell.il IntKind.i64 (Int.ofNat 0), Cell.il IntKind.i64 (Int.ofNat 0), Cell.il IntKind.i64 (Int.ofNat 0), Cell.bl false, Cell.il IntKind.i64 (Int.ofNat 0), Cell.il IntKind.i64 (Int.ofNat 0), Cell.il IntKind.i64 (Int.ofNat 0), Cell.il IntKind.i64 (Int.ofNat 0), Cell.bl false, Cell.il IntKind.i64 (Int.ofNat 0), Cell.il IntKind.i64 (Int.ofNat 0), Cell.il IntKind.i64 (Int.ofNat 0), Cell.il IntKind.i64 (Int.ofNat 0)]) (some [some IntKind.i64, some IntKind.i64, some IntKind.i64, some IntKind.i64, some IntKind.i64, some IntKind.i64, some IntKind.i64, some IntKind.i64, some IntKind.i64, none, some IntKind.i64, some IntKind.i64, some IntKind.i64, some IntKind.i64, none, some IntKind.i64, some IntKind.i64, some IntKind.i64, some IntKind.i64]))
def ty51 : TI := (TI.mk (Kd.struct [FdI.mk 0 1 3 false, FdI.mk 1 18 43 true]) 19 (some [Cell.il IntKind.i64 (Int.ofNat 0), Cell.il IntKind.i64 (Int.ofNat 0), Cell.il IntKind.i64 (Int.ofNat 0), Cell.il IntKind.i64 (Int.ofNat 0), Cell.il IntKind.i64 (Int.ofNat 0), Cell.il IntKind.i64 (Int.ofNat 0), Cell.il IntKind.i64 (Int.ofNat 0), Cell.il IntKind.i64 (Int.ofNat 0), Cell.il IntKind.i64 (Int.ofNat 0), Cell.bl false, Cell.il IntKind.i64 (Int.ofNat 0), Cell.il IntKind.i64 (Int.ofNat 0), Cell.il IntKind.i64 (Int.ofNat 0), Cell.il IntKind.i64 (Int.ofNat 0), Cell.bl false, Cell.il IntKind.i64 (Int.ofNat 0), Cell.il IntKind.i64 (Int.ofNat 0), Cell.il IntKind.i64 (Int.ofNat 0), Cell.il IntKind.i64 (Int.ofNat 0)]) (some [some IntKind.i64, some IntKind.i64, some IntKind.i64, some IntKind.i64, some IntKind.i64, some IntKind.i64, some IntKind.i64, some IntKind.i64, some IntKind.i64, none, some IntKind.i64, some IntKind.i64, some IntKind.i64, some IntKind.i64, none, some IntKind.i64, some IntKind.i64, some IntKind.i64, some IntKind.i64]))
def ty52 : TI := (TI.mk Kd.ptr 1 (some [Cell.pnil]) none)
def ty53 : TI := (TI.mk Kd.ptr 1 (some [Cell.pnil]) none)
def ty54 : TI := (TI.mk (Kd.struct [FdI.mk 0 19 51 true, FdI.mk 19 4 35 true, FdI.mk 23 1 3 false, FdI.mk 24 1 3 false, FdI.mk 25 1 3 false, FdI.mk 26 1 3 false, FdI.mk 27 5 39 true, FdI.mk 32 5 39 true, FdI.mk 37 5 39 true, FdI.mk 42 1 52 false, FdI.mk 43 1 53 false, FdI.mk 44 2 41 true, FdI.mk 46 5 39 true]) 51 (some [Cell.il IntKind.i64 (Int.ofNat 0), Cell.il IntKind.i64 (Int.ofNat 0), Cell.il IntKind.i64 (Int.ofNat 0), Cell.il IntKind.i64 (Int.ofNat 0), Cell.il IntKind.i64 (Int.ofNat 0), Cell.il IntKind.i64 (Int.ofNat 0), Cell.il IntKind.i64 (Int.ofNat 0), Cell.il IntKind.i64 (Int.ofNat 0), Cell.il IntKind.i64 (Int.ofNat 0), Cell.bl false, Cell.il IntKind.i64 (Int.ofNat 0), Cell.il IntKind.i64 (Int.ofNat 0), Cell.il IntKind.i64 (Int.ofNat 0), Cell.il IntKind.i64 (Int.ofNat 0), Cell.bl false, Cell.il IntKind.i64 (Int.ofNat 0), Cell.il IntKind.i64 (Int.ofNat 0), Cell.il IntKind.i64 (Int.ofNat 0), Cell.il IntKind.i64 (Int.ofNat 0), Cell.il IntKind.i64 (Int.ofNat 0), Cell.il IntKind.i64 (Int.ofNat 0), Cell.il IntKind.i64 (Int.ofNat 0), Cell.il IntKind.i64 (Int.ofNat 0), Cell.il IntKind.i64 (Int.ofNat 0), Cell.il IntKind.i64 (Int.ofNat 0), Cell.il IntKind.i64 (Int.ofNat 0), Cell.il IntKind.i64 (Int.ofNat 0), Cell.il IntKind.i64 (Int.ofNat 0), Cell.il IntKind.i64 (Int.ofNat 0), Cell.il IntKind.i64 (Int.ofNat 0), Cell.il IntKind.i64 (Int.ofNat 0), Cell.bl false, Cell.il IntKind.i64 (Int.ofNat 0), Cell.il IntKind.i64 (Int.ofNat 0), Cell.il IntKind.i64 (Int.ofNat 0), Cell.il IntKind.i64 (Int.ofNat 0), Cell.bl false, Cell.il IntKind.i64 (Int.ofNat 0), Cell.il IntKind.i64 (Int.ofNat 0), Cell.il IntKind.i64 (Int.ofNat 0), Cell.il IntKind.i64 (Int.ofNat 0), Cell.bl false, Cell.pnil, Cell.pnil, Cell.il IntKind.i64 (Int.ofNat 0), Cell.il IntKind.i64 (Int.ofNat 0), Cell.il IntKind.i64 (Int.ofNat 0), Cell.il IntKind.i64 (Int.ofNat 0), Cell.il IntKind.i64 (Int.ofNat 0), Cell.il IntKind.i64 (Int.ofNat 0), Cell.bl false]) none)
def ty55 : TI := (TI.mk (Kd.struct [FdI.mk 0 19 51 true, FdI.mk 19 4 35 true, FdI.mk 23 1 3 false, FdI.mk 24 1 3 false, FdI.mk 25 1 3 false, FdI.mk 26 1 3 false, FdI.mk 27 5 39 true, FdI.mk 32 5 39 true, FdI.mk 37 5 39 true, FdI.mk 42 1 52 false, FdI.mk 43 1 53 false, FdI.mk 44 2 41 true, FdI.mk 46 5 39 true]) 51 (some [Cell.il IntKind.i64 (Int.ofNat 0), Cell.il IntKind.i64 (Int.ofNat 0), Cell.il IntKind.i64 (Int.ofNat 0), Cell.il IntKind.i64 (Int.ofNat 0), Cell.il IntKind.i64 (Int.ofNat 0), Cell.il IntKind.i64 (Int.ofNat 0), Cell.il IntKind.i64 (Int.ofNat 0), Cell.il IntKind.i64 (Int.ofNat 0), Cell.il IntKind.i64 (Int.ofNat 0), Cell.bl false, Cell.il IntKind.i64 (Int.ofNat 0), Cell.il IntKind.i64 (Int.ofNat 0), Cell.il IntKind.i64 (Int.ofNat 0), Cell.il IntKind.i64 (Int.ofNat 0), Cell.bl false, Cell.il IntKind.i64 (Int.ofNat 0), Cell.il IntKind.i64 (Int.ofNat 0), Cell.il IntKind.i64 (Int.ofNat 0), Cell.il IntKind.i64 (Int.ofNat 0), Cell.il IntKind.i64 (Int.ofNat 0), Cell.il IntKind.i64 (Int.ofNat 0), Cell.il IntKind.i64 (Int.ofNat 0), Cell.il IntKind.i64 (Int.ofNat 0), Cell.il IntKind.i64 (Int.ofNat 0), Cell.il IntKind.i64 (Int.ofNat 0), Cell.il IntKind.i64 (Int.ofNat 0), Cell.il IntKind.i64 (Int.ofNat 0), Cell.il IntKind.i64 (Int.ofNat 0), Cell.il IntKind.i64 (Int.ofNat 0), Cell.il IntKind.i64 (Int.ofNat 0), Cell.il IntKind.i64 (Int.ofNat 0), Cell.bl false, Cell.il IntKind.i64 (Int.ofNat 0), Cell.il IntKind.i64 (Int.ofNat 0), Cell.il IntKind.i64 (Int.ofNat 0), Cell.il IntKind.i64 (Int.ofNat 0), Cell.bl false, Cell.il IntKind.i64 (Int.ofNat 0), Cell.il IntKind.i64 (Int.ofNat 0), Cell.il IntKind.i64 (Int.ofNat 0), Cell.il IntKind.i64 (Int.ofNat 0), Cell.bl false, Cell.pnil, Cell.pnil, Cell.il IntKind.i64 (Int.ofNat 0), Cell.il IntKind.i64 (Int.ofNat 0), Cell.il IntKind.i64 (Int.ofNat 0), Cell.il IntKind.i64 (Int.ofNat 0), Cell.il IntKind.i64 (Int.ofNat 0), Cell.il IntKind.i64 (Int.ofNat 0), Cell.bl false]) none)
def ty56 : TI := (TI.mk Kd.other 1 (some [Cell.nfn]) none)
def ty57 : TI := (TI.mk Kd.other 1 (some [Cell.nfn]) none)
def ty58 : TI := (TI.mk Kd.other 1 (some [Cell.nfn]) none)
def ty59 : TI := (TI.mk Kd.other 1 (some [Cell.nfn]) none)
def ty60 : TI := (TI.mk Kd.other 1 (some [Cell.nfn]) none)
def ty61 : TI := (TI.mk Kd.other 1 (some [Cell.nfn]) none)
def ty62 : TI := (TI.mk Kd.other 1 (some [Cell.nfn]) none)
def ty63 : TI := (TI.mk Kd.iface 1 (some [Cell.inil]) none)
def ty64 : TI := (TI.mk Kd.iface 1 (some [Cell.inil]) none)
def ty65 : TI := (TI.mk Kd.other 1 (some [Cell.nfn]) none)
def ty66 : TI := (TI.mk Kd.other 1 (some [Cell.nfn]) none)
def ty67 : TI := (TI.mk Kd.other 1 (some [Cell.nfn]) none)
def ty68 : TI := (TI.mk Kd.ptr 1 (some [Cell.pnil]) none)
def ty69 : TI := (TI.mk (Kd.struct [FdI.mk 0 1 3 false, FdI.mk 1 1 31 false]) 2 (some [Cell.il IntKind.i64 (Int.ofNat 0), Cell.inil]) none)
def ty70 : TI := (TI.mk (Kd.struct [FdI.mk 0 1 3 false, FdI.mk 1 1 31 false]) 2 (some [Cell.il IntKind.i64 (Int.ofNat 0), Cell.inil]) none)
def ty71 : TI := (TI.mk Kd.ptr 1 (some [Cell.pnil]) none)
def ty72 : TI := (TI.mk Kd.other 1 none none)
def ty73 : TI := (TI.mk Kd.other 1 (some [Cell.nfn]) none)
def ty74 : TI := (TI.mk Kd.other 1 (some [Cell.nfn]) none)
def ty75 : TI := (TI.mk Kd.other 1 (some [Cell.nfn]) none)
def ty76 : TI := (TI.mk Kd.other 1 (some [Cell.nfn]) none)
def ty77 : TI := (TI.mk Kd.other 1 (some [Cell.nfn]) none)
def ty78 : TI := (TI.mk Kd.other 1 (some [Cell.nfn]) none)
def ty79 : TI := (TI.mk Kd.other 1 (some [Cell.nfn]) none)
def ty80 : TI := (TI.mk Kd.other 1 (some [Cell.nfn]) none)
def ty81 : TI := (TI.mk Kd.other 1 none none)
def ty82 : TI := (TI.mk Kd.other 1 (some [Cell.nfn]) none)
def ty83 : TI := (TI.mk Kd.other 1 none none)
def ty84 : TI := (TI.mk Kd.other 1 (some [Cell.nfn]) none)
def ty85 : TI := (TI.mk Kd.other 1 (some [Cell.nfn]) none)
def ty86 : TI := (TI.mk Kd.other 1 (some [Cell.nfn]) none)
def ty87 : TI := (TI.mk (Kd.struct [FdI.mk 0 1 17 false]) 1 (some [Cell.pnil]) none)
def ty88 : TI := (TI.mk (Kd.struct [FdI.mk 0 1 17 false]) 1 (some [Cell.pnil]) none)
def ty89 : TI := (TI.mk Kd.ptr 1 (some [Cell.pnil]) none)
def ty90 : TI := (TI.mk Kd.iface 1 (some [Cell.inil]) none)
def ty91 : TI := (TI.mk Kd.other 1 none none)
def ty92 : TI := (TI.mk Kd.other 1 (some [Cell.nfn]) none)
def ty93 : TI := (TI.mk Kd.iface 1 (some [Cell.inil]) none)
def ty94 : TI := (TI.mk Kd.other 1 (some [Cell.nfn]) none)
def ty95 : TI := (TI.mk Kd.iface 1 (some [Cell.inil]) none)
def ty96 : TI := (TI.mk (Kd.slice 1) 1 (some [Cell.snil]) none)
def ty97 : TI := (TI.mk Kd.other 1 (some [Cell.nfn]) none)
def ty98 : TI := (TI.mk Kd.other 1 (some [Cell.nfn]) none)
def ty99 : TI := (TI.mk Kd.other 1 (some [Cell.nfn]) none)
def ty100 : TI := (TI.mk (Kd.int IntKind.u32) 1 (some [Cell.il IntKind.u32 (Int.ofNat 0)]) (some [some IntKind.u32]))
def ty101 : TI := (TI.mk Kd.other 1 (some [Cell.nfn]) none)
def ty102 : TI := (TI.mk (Kd.int IntKind.u64) 1 (some [Cell.il IntKind.u64 (Int.ofNat 0)]) (some [some IntKind.u64]))
def ty103 : TI := (TI.mk (Kd.struct [FdI.mk 0 1 3 false, FdI.mk 1 18 43 true]) 19 (some [Cell.il IntKind.i64 (Int.ofNat 0), Cell.il IntKind.i64 (Int.ofNat 0), Cell.il IntKind.i64 (Int.ofNat 0), Cell.il IntKind.i64 (Int.ofNat 0), Cell.il IntKind.i64 (Int.ofNat 0), Cell.il IntKind.i64 (Int.ofNat 0), Cell.il IntKind.i64 (Int.ofNat 0), Cell.il IntKind.i64 (Int.ofNat 0), Cell.il IntKind.i64 (Int.ofNat 0), Cell.bl false, Cell.il IntKind.i64 (Int.ofNat 0), Cell.il IntKind.i64 (Int.ofNat 0), Cell.il IntKind.i64 (Int.ofNat 0), Cell.il IntKind.i64 (Int.ofNat 0), Cell.bl false, Cell.il IntKind.i64 (Int.ofNat 0), Cell.il IntKind.i64 (Int.ofNat 0), Cell.il IntKind.i64 (Int.ofNat 0), Cell.il IntKind.i64 (Int.ofNat 0)]) (some [some IntKind.i64, some IntKind.i64, some IntKind.i64, some IntKind.i64, some IntKind.i64, some IntKind.i64, some IntKind.i64, some IntKind.i64, some IntKind.i64, none, some IntKind.i64, some IntKind.i64, some IntKind.i64, some IntKind.i64, none, some IntKind.i64, some IntKind.i64, some IntKind.i64, some IntKind.i64]))
def ty104 : TI := (TI.mk (Kd.struct [FdI.mk 0 1 3 false, FdI.mk 1 18 43 true]) 19 (some [Cell.il IntKind.i64 (Int.ofNat 0), Cell.il IntKind.i64 (Int.ofNat 0), Cell.il IntKind.i64 (Int.ofNat 0), Cell.il IntKind.i64 (Int.ofNat 0), Cell.il IntKind.i64 (Int.ofNat 0), Cell.il IntKind.i64 (Int.ofNat 0), Cell.il IntKind.i64 (Int.ofNat 0), Cell.il IntKind.i64 (Int.ofNat 0), Cell.il IntKind.i64 (Int.ofNat 0), Cell.bl false, Cell.il IntKind.i64 (Int.ofNat 0), Cell.il IntKind.i64 (Int.ofNat 0), Cell.il IntKind.i64 (Int.ofNat 0), Cell.il IntKind.i64 (Int.ofNat 0), Cell.bl false, Cell.il IntKind.i64 (Int.ofNat 0), Cell.il IntKind.i64 (Int.ofNat 0), Cell.il IntKind.i64 (Int.ofNat 0), Cell.il IntKind.i64 (Int.ofNat 0)]) (some [some IntKind.i64, some IntKind.i64, some IntKind.i64, some IntKind.i64, some IntKind.i64, some IntKind.i64, some IntKind.i64, some IntKind.i64, some IntKind.i64, none, some IntKind.i64, some IntKind.i64, some IntKind.i64, some IntKind.i64, none, some IntKind.i64, some IntKind.i64, some IntKind.i64, some IntKind.i64]))
def ty105 : TI := (TI.mk (Kd.struct [FdI.mk 0 19 104 true, FdI.mk 19 3 37 true, FdI.mk 22 1 3 false, FdI.mk 23 4 35 true, FdI.mk 27 1 52 false, FdI.mk 28 5 39 true, FdI.mk 33 1 3 false]) 34 (some [Cell.il IntKind.i64 (Int.ofNat 0), Cell.il IntKind.i64 (Int.ofNat 0), Cell.il IntKind.i64 (Int.ofNat 0), Cell.il IntKind.i64 (Int.ofNat 0), Cell.il IntKind.i64 (Int.ofNat 0), Cell.il IntKind.i64 (Int.ofNat 0), Cell.il IntKind.i64 (Int.ofNat 0), Cell.il IntKind.i64 (Int.ofNat 0), Cell.il IntKind.i64 (Int.ofNat 0), Cell.bl false, Cell.il IntKind.i64 (Int.ofNat 0), Cell.il IntKind.i64 (Int.ofNat 0), Cell.il IntKind.i64 (Int.ofNat 0), Cell.il IntKind.i64 (Int.ofNat 0), Cell.bl false, Cell.il IntKind.i64 (Int.ofNat 0), Cell.il IntKind.i64 (Int.ofNat 0), Cell.il IntKind.i64 (Int.ofNat 0), Cell.il IntKind.i64 (Int.ofNat 0), Cell.il IntKind.i64 (Int.ofNat 0), Cell.il IntKind.i64 (Int.ofNat 0), Cell.il IntKind.i64 (Int.ofNat 0), Cell.il IntKind.i64 (Int.ofNat 0), Cell.il IntKind.i64 (Int.ofNat 0), Cell.il IntKind.i64 (Int.ofNat 0), Cell.il IntKind.i64 (Int.ofNat 0), Cell.il IntKind.i64 (Int.ofNat 0), Cell.pnil, Cell.il IntKind.i64 (Int.ofNat 0), Cell.il IntKind.i64 (Int.ofNat 0), Cell.il IntKind.i64 (Int.ofNat 0), Cell.il IntKind.i64 (Int.ofNat 0), Cell.bl false, Cell.il IntKind.i64 (Int.ofNat 0)]) none)
def ty106 : TI := (TI.mk (Kd.struct [FdI.mk 0 19 104 true, FdI.mk 19 3 37 true, FdI.mk 22 1 3 false, FdI.mk 23 4 35 true, FdI.mk 27 1 52 false, FdI.mk 28 5 39 true, FdI.mk 33 1 3 false]) 34 (some [Cell.il IntKind.i64 (Int.ofNat 0), Cell.il IntKind.i64 (Int.ofNat 0), Cell.il IntKind.i64 (Int.ofNat 0), Cell.il IntKind.i64 (Int.ofNat 0), Cell.il IntKind.i64 (Int.ofNat 0), Cell.il IntKind.i64 (Int.ofNat 0), Cell.il IntKind.i64 (Int.ofNat 0), Cell.il IntKind.i64 (Int.ofNat 0), Cell.il IntKind.i64 (Int.ofNat 0), Cell.bl false, Cell.il IntKind.i64 (Int.ofNat 0), Cell.il IntKind.i64 (Int.ofNat 0), Cell.il IntKind.i64 (Int.ofNat 0), Cell.il IntKind.i64 (Int.ofNat 0), Cell.bl false, Cell.il IntKind.i64 (Int.ofNat 0), Cell.il IntKind.i64 (Int.ofNat 0), Cell.il IntKind.i64 (Int.ofNat 0), Cell.il IntKind.i64 (Int.ofNat 0), Cell.il IntKind.i64 (Int.ofNat 0), Cell.il IntKind.i64 (Int.ofNat 0), Cell.il IntKind.i64 (Int.ofNat 0), Cell.il IntKind.i64 (Int.ofNat 0), Cell.il IntKind.i64 (Int.ofNat 0), Cell.il IntKind.i64 (Int.ofNat 0), Cell.il IntKind.i64 (Int.ofNat 0), Cell.il IntKind.i64 (Int.ofNat 0), Cell.pnil, Cell.il IntKind.i64 (Int.ofNat 0), Cell.il IntKind.i64 (Int.ofNat 0), Cell.il IntKind.i64 (Int.ofNat 0), Cell.il IntKind.i64 (Int.ofNat 0), Cell.bl false, Cell.il IntKind.i64 (Int.ofNat 0)]) none)
def ty107 : TI := (TI.mk (Kd.struct [FdI.mk 0 19 104 true, FdI.mk 19 3 37 true, FdI.mk 22 1 3 false, FdI.mk 23 3 37 true, FdI.mk 26 5 39 true, FdI.mk 31 5 39 true, FdI.mk 36 1 3 false, FdI.mk 37 1 4 false]) 38 (some [Cell.il IntKind.i64 (Int.ofNat 0), Cell.il IntKind.i64 (Int.ofNat 0), Cell.il IntKind.i64 (Int.ofNat 0), Cell.il IntKind.i64 (Int.ofNat 0), Cell.il IntKind.i64 (Int.ofNat 0), Cell.il IntKind.i64 (Int.ofNat 0), Cell.il IntKind.i64 (Int.ofNat 0), Cell.il IntKind.i64 (Int.ofNat 0), Cell.il IntKind.i64 (Int.ofNat 0), Cell.bl false, Cell.il IntKind.i64 (Int.ofNat 0), Cell.il IntKind.i64 (Int.ofNat 0), Cell.il IntKind.i64 (Int.ofNat 0), Cell.il IntKind.i64 (Int.ofNat 0), Cell.bl false, Cell.il IntKind.i64 (Int.ofNat 0), Cell.il IntKind.i64 (Int.ofNat 0), Cell.il IntKind.i64 (Int.ofNat 0), Cell.il IntKind.i64 (Int.ofNat 0), Cell.il IntKind.i64 (Int.ofNat 0), Cell.il IntKind.i64 (Int.ofNat 0), Cell.il IntKind.i64 (Int.ofNat 0), Cell.il IntKind.i64 (Int.ofNat 0), Cell.il IntKind.i64 (Int.ofNat 0), Cell.il IntKind.i64 (Int.ofNat 0), Cell.il IntKind.i64 (Int.ofNat 0), Cell.il IntKind.i64 (Int.ofNat 0), Cell.il IntKind.i64 (Int.ofNat 0), Cell.il IntKind.i64 (Int.ofNat 0), Cell.il IntKind.i64 (Int.ofNat 0), Cell.bl false, Cell.il IntKind.i64 (Int.ofNat 0), Cell.il IntKind.i64 (Int.ofNat 0), Cell.il IntKind.i64 (Int.ofNat 0), Cell.il IntKind.i64 (Int.ofNat 0), Cell.bl false, Cell.il IntKind.i64 (Int.ofNat 0), Cell.bl false]) (some [some IntKind.i64, some IntKind.i64, some IntKind.i64, some IntKind.i64, some IntKind.i64, some IntKind.i64, some IntKind.i64, some IntKind.i64, some IntKind.i64, none, some IntKind.i64, some IntKind.i64, some IntKind.i64, some IntKind.i64, none, some IntKind.i64, some IntKind.i64, some IntKind.i64, some IntKind.i64, some IntKind.i64, some IntKind.i64, some IntKind.i64, some IntKind.i64, some IntKind.i64, some IntKind.i64, some IntKind.i64, some IntKind.i64, some IntKind.i64, some IntKind.i64, some IntKind.i64, none, some IntKind.i64, some IntKind.i64, some IntKind.i64, some IntKind.i64, none, some IntKind.i64, none]))
def ty108 : TI := (TI.mk (Kd.struct [FdI.mk 0 19 104 true, FdI.mk 19 3 37 true, FdI.mk 22 1 3 false, FdI.mk 23 3 37 true, FdI.mk 26 5 39 true, FdI.mk 31 5 39 true, FdI.mk 36 1 3 false, FdI.mk 37 1 4 false]) 38 (some [Cell.il IntKind.i64 (Int.ofNat 0), Cell.il IntKind.i64 (Int.ofNat 0), Cell.il IntKind.i64 (Int.ofNat 0), Cell.il IntKind.i64 (Int.ofNat 0), Cell.il IntKind.i64 (Int.ofNat 0), Cell.il IntKind.i64 (Int.ofNat 0), Cell.il IntKind.i64 (Int.ofNat 0), Cell.il IntKind.i64 (Int.ofNat 0), Cell.il IntKind.i64 (Int.ofNat 0), Cell.bl false, Cell.il IntKind.i64 (Int.ofNat 0), Cell.il IntKind.i64 (Int.ofNat 0), Cell.il IntKind.i64 (Int.ofNat 0), Cell.il IntKind.i64 (Int.ofNat 0), Cell.bl false, Cell.il IntKind.i64 (Int.ofNat 0), Cell.il IntKind.i64 (Int.ofNat 0), Cell.il IntKind.i64 (Int.ofNat 0), Cell.il IntKind.i64 (Int.ofNat 0), Cell.il IntKind.i64 (Int.ofNat 0), Cell.il IntKind.i64 (Int.ofNat 0), Cell.il IntKind.i64 (Int.ofNat 0), Cell.il IntKind.i64 (Int.ofNat 0), Cell.il IntKind.i64 (Int.ofNat 0), Cell.il IntKind.i64 (Int.ofNat 0), Cell.il IntKind.i64 (Int.ofNat 0), Cell.il IntKind.i64 (Int.ofNat 0), Cell.il IntKind.i64 (Int.ofNat 0), Cell.il IntKind.i64 (Int.ofNat 0), Cell.il IntKind.i64 (Int.ofNat 0), Cell.bl false, Cell.il IntKind.i64 (Int.ofNat 0), Cell.il IntKind.i64 (Int.ofNat 0), Cell.il IntKind.i64 (Int.ofNat 0), Cell.il IntKind.i64 (Int.ofNat 0), Cell.bl false, Cell.il IntKind.i64 (Int.ofNat 0), Cell.bl false]) (some [some IntKind.i64, some IntKind.i64, some IntKind.i64, some IntKind.i64, some IntKind.i64, some IntKind.i64, some IntKind.i64, some IntKind.i64, some IntKind.i64, none, some IntKind.i64, some IntKind.i64, some IntKind.i64, some IntKind.i64, none, some IntKind.i64, some IntKind.i64, some IntKind.i64, some IntKind.i64, some IntKind.i64, some IntKind.i64, some IntKind.i64, some IntKind.i64, some IntKind.i64, some IntKind.i64, some IntKind.i64, some IntKind.i64, some IntKind.i64, some IntKind.i64, some IntKind.i64, none, some IntKind.i64, some IntKind.i64, some IntKind.i64, some IntKind.i64, none, some IntKind.i64, none]))
def ty109 : TI := (TI.mk Kd.other 1 (some [Cell.nfn]) none)
def ty110 : TI := (TI.mk Kd.other 1 (some [Cell.nfn]) none)
def ty111 : TI := (TI.mk Kd.other 1 (some [Cell.nfn]) none)
def ty112 : TI := (TI.mk Kd.other 1 (some [Cell.nfn]) none)
def ty113 : TI := (TI.mk Kd.other 1 (some [Cell.nfn]) none)
def ty114 : TI := (TI.mk Kd.other 1 (some [Cell.nfn]) none)
def ty115 : TI := (TI.mk Kd.other 1 (some [Cell.nfn]) none)
def ty116 : TI := (TI.mk Kd.ptr 1 (some [Cell.pnil]) none)
def ty117 : TI := (TI.mk Kd.ptr 1 (some [Cell.pnil]) none)
def ty118 : TI := (TI.mk Kd.other 1 (some [Cell.nfn]) none)
def ty119 : TI := (TI.mk (Kd.struct [FdI.mk 0 1 17 false, FdI.mk 1 1 17 false, FdI.mk 2 1 17 false, FdI.mk 3 1 9 false]) 4 (some [Cell.pnil, Cell.pnil, Cell.pnil, Cell.st (ByteArray.mk (Array.mk []))]) none)
def ty120 : TI := (TI.mk (Kd.struct [FdI.mk 0 1 17 false, FdI.mk 1 1 17 false, FdI.mk 2 1 17 false, FdI.mk 3 1 9 false]) 4 (some [Cell.pnil, Cell.pnil, Cell.pnil, Cell.st (ByteArray.mk (Array.mk []))]) none)
def ty121 : TI := (TI.mk (Kd.arr 0 1) 0 (some []) none)
def ty122 : TI := (TI.mk (Kd.struct [FdI.mk 0 0 121 true]) 0 (some []) none)
def ty123 : TI := (TI.mk (Kd.struct [FdI.mk 0 0 121 true]) 0 (some []) none)
def ty124 : TI := (TI.mk Kd.other 1 (some [Cell.nfn]) none)
def ty125 : TI := (TI.mk (Kd.int IntKind.u8) 1 (some [Cell.il IntKind.u8 (Int.ofNat 0)]) (some [some IntKind.u8]))
def ty126 : TI := (TI.mk (Kd.int IntKind.u8) 1 (some [Cell.il IntKind.u8 (Int.ofNat 0)]) (some [some IntKind.u8]))
def ty127 : TI := (TI.mk Kd.other 1 (some [Cell.nfn]) none)
def ty128 : TI := (TI.mk Kd.ptr 1 (some [Cell.pnil]) none)
def ty129 : TI := (TI.mk (Kd.int IntKind.i32) 1 (some [Cell.il IntKind.i32 (Int.ofNat 0)]) (some [some IntKind.i32]))
def ty130 : TI := (TI.mk (Kd.int IntKind.i32) 1 (some [Cell.il IntKind.i32 (Int.ofNat 0)]) (some [some IntKind.i32]))
def ty131 : TI := (TI.mk (Kd.struct [FdI.mk 0 1 12 false, FdI.mk 1 1 12 false, FdI.mk 2 1 100 false, FdI.mk 3 1 125 false, FdI.mk 4 1 5 false, FdI.mk 5 1 5 false, FdI.mk 6 1 126 false, FdI.mk 7 1 127 false, FdI.mk 8 1 128 false, FdI.mk 9 1 129 false, FdI.mk 10 1 130 false]) 11 (some [Cell.il IntKind.u64 (Int.ofNat 0), Cell.il IntKind.u64 (Int.ofNat 0), Cell.il IntKind.u32 (Int.ofNat 0), Cell.il IntKind.u8 (Int.ofNat 0), Cell.il IntKind.u8 (Int.ofNat 0), Cell.il IntKind.u8 (Int.ofNat 0), Cell.il IntKind.u8 (Int.ofNat 0), Cell.nfn, Cell.pnil, Cell.il IntKind.i32 (Int.ofNat 0), Cell.il IntKind.i32 (Int.ofNat 0)]) none)
def ty132 : TI := (TI.mk (Kd.struct [FdI.mk 0 1 12 false, FdI.mk 1 1 12 false, FdI.mk 2 1 100 false, FdI.mk 3 1 125 false, FdI.mk 4 1 5 false, FdI.mk 5 1 5 false, FdI.mk 6 1 126 false, FdI.mk 7 1 127 false, FdI.mk 8 1 128 false, FdI.mk 9 1 129 false, FdI.mk 10 1 130 false]) 11 (some [Cell.il IntKind.u64 (Int.ofNat 0), Cell.il IntKind.u64 (Int.ofNat 0), Cell.il IntKind.u32 (Int.ofNat 0), Cell.il IntKind.u8 (Int.ofNat 0), Cell.il IntKind.u8 (Int.ofNat 0), Cell.il IntKind.u8 (Int.ofNat 0), Cell.il IntKind.u8 (Int.ofNat 0), Cell.nfn, Cell.pnil, Cell.il IntKind.i32 (Int.ofNat 0), Cell.il IntKind.i32 (Int.ofNat 0)]) none)
def ty133 : TI := (TI.mk Kd.other 1 (some [Cell.nfn]) none)
def ty134 : TI := (TI.mk Kd.other 1 (some [Cell.nfn]) none)
def ty135 : TI := (TI.mk Kd.other 1 (some [Cell.nfn]) none)
def ty136 : TI := (TI.mk Kd.other 1 (some [Cell.nfn]) none)
def ty137 : TI := (TI.mk Kd.other 1 (some [Cell.nfn]) none)
def ty138 : TI := (TI.mk Kd.other 1 (some [Cell.nfn]) none)
def ty139 : TI := (TI.mk (Kd.struct [FdI.mk 0 1 9 false, FdI.mk 1 1 126 false]) 2 (some [Cell.st (ByteArray.mk (Array.mk [])), Cell.il IntKind.u8 (Int.ofNat 0)]) none)
def ty140 : TI := (TI.mk (Kd.struct [FdI.mk 0 1 9 false, FdI.mk 1 1 126 false]) 2 (some [Cell.st (ByteArray.mk (Array.mk [])), Cell.il IntKind.u8 (Int.ofNat 0)]) none)
def ty141 : TI := (TI.mk (Kd.struct [FdI.mk 0 1 9 false]) 1 (some [Cell.st (ByteArray.mk (Array.mk []))]) none)
def ty142 : TI := (TI.mk (Kd.struct [FdI.mk 0 1 9 false]) 1 (some [Cell.st (ByteArray.mk (Array.mk []))]) none)
def ty143 : TI := (TI.mk Kd.other 1 (some [Cell.pnil]) none)
def ty144 : TI := (TI.mk Kd.ptr 1 (some [Cell.pnil]) none)
def ty145 : TI := (TI.mk Kd.other 1 (some [Cell.nfn]) none)
def ty146 : TI := (TI.mk (Kd.int IntKind.u16) 1 (some [Cell.il IntKind.u16 (Int.ofNat 0)]) (some [some IntKind.u16]))
def ty147 : TI := (TI.mk (Kd.struct [FdI.mk 0 1 129 false, FdI.mk 1 1 146 false, FdI.mk 2 1 146 false, FdI.mk 3 1 100 false, FdI.mk 4 1 100 false]) 5 (some [Cell.il IntKind.i32 (Int.ofNat 0), Cell.il IntKind.u16 (Int.ofNat 0), Cell.il IntKind.u16 (Int.ofNat 0), Cell.il IntKind.u32 (Int.ofNat 0), Cell.il IntKind.u32 (Int.ofNat 0)]) none)
def ty148 : TI := (TI.mk (Kd.struct [FdI.mk 0 1 129 false, FdI.mk 1 1 146 false, FdI.mk 2 1 146 false, FdI.mk 3 1 100 false, FdI.mk 4 1 100 false]) 5 (some [Cell.il IntKind.i32 (Int.ofNat 0), Cell.il IntKind.u16 (Int.ofNat 0), Cell.il IntKind.u16 (Int.ofNat 0), Cell.il IntKind.u32 (Int.ofNat 0), Cell.il IntKind.u32 (Int.ofNat 0)]) none)
def ty149 : TI := (TI.mk (Kd.slice 4) 1 (some [Cell.snil]) none)
def ty150 : TI := (TI.mk (Kd.int IntKind.i32) 1 (some [Cell.il IntKind.i32 (Int.ofNat 0)]) (some [some IntKind.i32]))
def ty151 : TI := (TI.mk (Kd.struct [FdI.mk 0 1 129 false, FdI.mk 1 1 130 false, FdI.mk 2 1 150 false, FdI.mk 3 1 150 false]) 4 (some [Cell.il IntKind.i32 (Int.ofNat 0), Cell.il IntKind.i32 (Int.ofNat 0), Cell.il IntKind.i32 (Int.ofNat 0), Cell.il IntKind.i32 (Int.ofNat 0)]) none)
def ty152 : TI := (TI.mk (Kd.struct [FdI.mk 0 1 129 false, FdI.mk 1 1 130 false, FdI.mk 2 1 150 false, FdI.mk 3 1 150 false]) 4 (some [Cell.il IntKind.i32 (Int.ofNat 0), Cell.il IntKind.i32 (Int.ofNat 0), Cell.il IntKind.i32 (Int.ofNat 0), Cell.il IntKind.i32 (Int.ofNat 0)]) none)
def ty153 : TI := (TI.mk Kd.other 1 (some [Cell.nfn]) none)
def tt : Tr TI := (.nd (some ty0) (.nd (some ty1) (.nd (some ty3) (.nd (some ty7) (.nd (some ty15) (.nd (some ty31) (.nd (some ty63) (.nd (some ty127) .lf .lf) .lf) (.nd (some ty95) .lf .lf)) (.nd (some ty47) (.nd (some ty79) (.nd (some ty143) .lf .lf) .lf) (.nd (some ty111) .lf .lf))) (.nd (some ty23) (.nd (some ty39) (.nd (some ty71) (.nd (some ty135) .lf .lf) .lf) (.nd (some ty103) .lf .lf)) (.nd (some ty55) (.nd (some ty87) (.nd (some ty151) .lf .lf) .lf) (.nd (some ty119) .lf .lf)))) (.nd (some ty11) (.nd (some ty19) (.nd (some ty35) (.nd (some ty67) (.nd (some ty131) .lf .lf) .lf) (.nd (some ty99) .lf .lf)) (.nd (some ty51) (.nd (some ty83) (.nd (some ty147) .lf .lf) .lf) (.nd (some ty115) .lf .lf))) (.nd (some ty27) (.nd (some ty43) (.nd (some ty75) (.nd (some ty139) .lf .lf) .lf) (.nd (some ty107) .lf .lf)) (.nd (some ty59) (.nd (some ty91) .lf .lf) (.nd (some ty123) .lf .lf))))) (.nd (some ty5) (.nd (some ty9) (.nd (some ty17) (.nd (some ty33) (.nd (some ty65) (.nd (some ty129) .lf .lf) .lf) (.nd (some ty97) .lf .lf)) (.nd (some ty49) (.nd (some ty81) (.nd (some ty145) .lf .lf) .lf) (.nd (some ty113) .lf .lf))) (.nd (some ty25) (.nd (some ty41) (.nd (some ty73) (.nd (some ty137) .lf .lf) .lf) (.nd (some ty105) .lf .lf)) (.nd (some ty57) (.nd (some ty89) (.nd (some ty153) .lf .lf) .lf) (.nd (some ty121) .lf .lf)))) (.nd (some ty13) (.nd (some ty21) (.nd (some ty37) (.nd (some ty69) (.nd (some ty133) .lf .lf) .lf) (.nd (some ty101) .lf .lf)) (.nd (some ty53) (.nd (some ty85) (.nd (some ty149) .lf .lf) .lf) (.nd (some ty117) .lf .lf))) (.nd (some ty29) (.nd (some ty45) (.nd (some ty77) (.nd (some ty141) .lf .lf) .lf) (.nd (some ty109) .lf .lf)) (.nd (some ty61) (.nd (some ty93) .lf .lf) (.nd (some ty125) .lf .lf)))))) (.nd (some ty2) (.nd (some ty4) (.nd (some ty8) (.nd (some ty16) (.nd (some ty32) (.nd (some ty64) (.nd (some ty128) .lf .lf) .lf) (.nd (some ty96) .lf .lf)) (.nd (some ty48) (.nd (some ty80) (.nd (some ty144) .lf .lf) .lf) (.nd (some ty112) .lf .lf))) (.nd (some ty24) (.nd (some ty40) (.nd (some ty72) (.nd (some ty136) .lf .lf) .lf) (.nd (some ty104) .lf .lf)) (.nd (some ty56) (.nd (some ty88) (.nd (some ty152) .lf .lf) .lf) (.nd (some ty120) .lf .lf)))) (.nd (some ty12) (.nd (some ty20) (.nd (some ty36) (.nd (some ty68) (.nd (some ty132) .lf .lf) .lf) (.nd (some ty100) .lf .lf)) (.nd (some ty52) (.nd (some ty84) (.nd (some ty148) .lf .lf) .lf) (.nd (some ty116) .lf .lf))) (.nd (some ty28) (.nd (some ty44) (.nd (some ty76) (.nd (some ty140) .lf .lf) .lf) (.nd (some ty108) .lf .lf)) (.nd (some ty60) (.nd (some ty92) .lf .lf) (.nd (some ty124) .lf .lf))))) (.nd (some ty6) (.nd (some ty10) (.nd (some ty18) (.nd (some ty34) (.nd (some ty66) (.nd (some ty130) .lf .lf) .lf) (.nd (some ty98) .lf .lf)) (.nd (some ty50) (.nd (some ty82) (.nd (some ty146) .lf .lf) .lf) (.nd (some ty114) .lf .lf))) (.nd (some ty26) (.nd (some ty42) (.nd (some ty74) (.nd (some ty138) .lf .lf) .lf) (.nd (some ty106) .lf .lf)) (.nd (some ty58) (.nd (some ty90) .lf .lf) (.nd (some ty122) .lf .lf)))) (.nd (some ty14) (.nd (some ty22) (.nd (some ty38) (.nd (some ty70) (.nd (some ty134) .lf .lf) .lf) (.nd (some ty102) .lf .lf)) (.nd (some ty54) (.nd (some ty86) (.nd (some ty150) .lf .lf) .lf) (.nd (some ty118) .lf .lf))) (.nd (some ty30) (.nd (some ty46) (.nd (some ty78) (.nd (some ty142) .lf .lf) .lf) (.nd (some ty110) .lf .lf)) (.nd (some ty62) (.nd (some ty94) .lf .lf) (.nd (some ty126) .lf .lf)))))))
noncomputable def ft : Tr Func := (.nd none (.nd none (.nd (some Tryd.f3) (.nd (some Tryd.f7) (.nd (some Tryd.f15) (.nd (some Tryd.f31) (.nd (some Tryd.f63) .lf .lf) .lf) (.nd (some Tryd.f47) .lf .lf)) (.nd (some Tryd.f23) (.nd (some Tryd.f39) .lf .lf) (.nd (some Tryd.f55) .lf .lf))) (.nd (some Tryd.f11) (.nd (some Tryd.f19) (.nd (some Tryd.f35) (.nd (some Tryd.f67) .lf .lf) .lf) (.nd (some Tryd.f51) .lf .lf)) (.nd (some Tryd.f27) (.nd (some Tryd.f43) .lf .lf) (.nd (some Tryd.f59) .lf .lf)))) (.nd (some Tryd.f5) (.nd (some Tryd.f9) (.nd (some Tryd.f17) (.nd (some Tryd.f33) (.nd (some Tryd.f65) .lf .lf) .lf) (.nd (some Tryd.f49) .lf .lf)) (.nd (some Tryd.f25) (.nd (some Tryd.f41) .lf .lf) (.nd (some Tryd.f57) .lf .lf))) (.nd (some Tryd.f13) (.nd (some Tryd.f21) (.nd (some Tryd.f37) .lf .lf) (.nd (some Tryd.f53) .lf .lf)) (.nd none (.nd (some Tryd.f45) .lf .lf) (.nd (some Tryd.f61) .lf .lf))))) (.nd (some Tryd.f2) (.nd (some Tryd.f4) (.nd (some Tryd.f8) (.nd (some Tryd.f16) (.nd (some Tryd.f32) (.nd (some Tryd.f64) .lf .lf) .lf) (.nd (some Tryd.f48) .lf .lf)) (.nd (some Tryd.f24) (.nd (some Tryd.f40) .lf (.nd (some Tryd.f104) .lf .lf)) (.nd (some Tryd.f56) .lf .lf))) (.nd (some Tryd.f12) (.nd (some Tryd.f20) (.nd (some Tryd.f36) .lf (.nd (some Tryd.f100) .lf .lf)) (.nd (some Tryd.f52) (.nd (some Tryd.f84) .lf .lf) .lf)) (.nd (some Tryd.f28) (.nd (some Tryd.f44) .lf .lf) (.nd (some Tryd.f60) .lf .lf)))) (.nd (some Tryd.f6) (.nd (some Tryd.f10) (.nd (some Tryd.f18) (.nd (some Tryd.f34) (.nd (some Tryd.f66) .lf .lf) .lf) (.nd (some Tryd.f50) .lf .lf)) (.nd (some Tryd.f26) (.nd (some Tryd.f42) .lf .lf) (.nd (some Tryd.f58) .lf .lf))) (.nd (some Tryd.f14) (.nd (some Tryd.f22) (.nd (some Tryd.f38) .lf .lf) (.nd (some Tryd.f54) .lf .lf)) (.nd (some Tryd.f30) (.nd (some Tryd.f46) .lf .lf) (.nd (some Tryd.f62) .lf .lf))))))
def gu : Tr (List Nat) := (.nd none (.nd none (.nd (some [0]) .lf (.nd none .lf (.nd (some [0]) .lf .lf))) (.nd (some [0]) (.nd none (.nd none (.nd (some [0]) .lf .lf) .lf) .lf) (.nd (some [0]) (.nd (some [0]) .lf .lf) .lf))) (.nd none (.nd (some [0]) (.nd none (.nd none (.nd (some [0]) .lf .lf) .lf) (.nd (some [0]) (.nd none .lf (.nd (some [0]) .lf .lf)) .lf)) (.nd (some [0]) .lf (.nd (some [0]) .lf .lf))) .lf))
theorem ti0 : mkTI Tryd.prog 0 = some ty0 := by kernel_rfl
theorem ti1 : mkTI Tryd.prog 1 = some ty1 := by kernel_rfl
theorem ti2 : mkTI Tryd.prog 2 = some ty2 := by kernel_rfl
theorem ti3 : mkTI Tryd.prog 3 = some ty3 := by kernel_rfl
theorem ti4 : mkTI Tryd.prog 4 = some ty4 := by kernel_rfl
theorem ti5 : mkTI Tryd.prog 5 = some ty5 := by kernel_rfl
theorem ti6 : mkTI Tryd.prog 6 = some ty6 := by kernel_rfl
theorem ti7 : mkTI Tryd.prog 7 = some ty7 := by kernel_rfl
theorem ti8 : mkTI Tryd.prog 8 = some ty8 := by kernel_rfl
theorem ti9 : mkTI Tryd.prog 9 = some ty9 := by kernel_rfl
theorem ti10 : mkTI Tryd.prog 10 = some ty10 := by kernel_rfl
theorem ti11 : mkTI Tryd.prog 11 = some ty11 := by kernel_rfl
theorem ti12 : mkTI Tryd.prog 12 = some ty12 := by kernel_rfl
theorem ti13 : mkTI Tryd.prog 13 = some ty13 := by kernel_rfl
theorem ti14 : mkTI Tryd.prog 14 = some ty14 := by kernel_rfl
theorem ti15 : mkTI Tryd.prog 15 = some ty15 := by kernel_rfl
theorem ti16 : mkTI Tryd.prog 16 = some ty16 := by kernel_rfl
theorem ti17 : mkTI Tryd.prog 17 = some ty17 := by kernel_rfl
theorem ti18 : mkTI Tryd.prog 18 = some ty18 := by kernel_rfl
theorem ti19 : mkTI Tryd.prog 19 = some ty19 := by kernel_rfl
theorem ti20 : mkTI Tryd.prog 20 = some ty20 := by kernel_rfl
theorem ti21 : mkTI Tryd.prog 21 = some ty21 := by kernel_rfl
theorem ti22 : mkTI Tryd.prog 22 = some ty22 := by kernel_rfl
theorem ti23 : mkTI Tryd.prog 23 = some ty23 := by kernel_rfl
theorem ti24 : mkTI Tryd.prog 24 = some ty24 := by kernel_rfl
theorem ti25 : mkTI Tryd.prog 25 = some ty25 := by kernel_rfl
theorem ti26 : mkTI Tryd.prog 26 = some ty26 := by kernel_rfl
theorem ti27 : mkTI Tryd.prog 27 = some ty27 := by kernel_rfl
theorem ti28 : mkTI Tryd.prog 28 = some ty28 := by kernel_rfl
theorem ti29 : mkTI Tryd.prog 29 = some ty29 := by kernel_rfl
theorem ti30 : mkTI Tryd.prog 30 = some ty30 := by kernel_rfl
theorem ti31 : mkTI Tryd.prog 31 = some ty31 := by kernel_rfl
theorem ti32 : mkTI Tryd.prog 32 = some ty32 := by kernel_rfl
theorem ti33 : mkTI Tryd.prog 33 = some ty33 := by kernel_rfl
theorem ti34 : mkTI Tryd.prog 34 = some ty34 := by kernel_rfl
theorem ti35 : mkTI Tryd.prog 35 = some ty35 := by kernel_rfl
theorem ti36 : mkTI Tryd.prog 36 = some ty36 := by kernel_rfl
theorem ti37 : mkTI Tryd.prog 37 = some ty37 := by kernel_rfl
theorem ti38 : mkTI Tryd.prog 38 = some ty38 := by kernel_rfl
theorem ti39 : mkTI Tryd.prog 39 = some ty39 := by kernel_rfl
theorem ti40 : mkTI Tryd.prog 40 = some ty40 := by kernel_rfl
theorem ti41 : mkTI Tryd.prog 41 = some ty41 := by kernel_rfl
theorem ti42 : mkTI Tryd.prog 42 = some ty42 := by kernel_rfl
theorem ti43 : mkTI Tryd.prog 43 = some ty43 := by kernel_rfl
theorem ti44 : mkTI Tryd.prog 44 = some ty44 := by kernel_rfl
theorem ti45 : mkTI Tryd.prog 45 = some ty45 := by kernel_rfl
theorem ti46 : mkTI Tryd.prog 46 = some ty46 := by kernel_rfl
theorem ti47 : mkTI Tryd.prog 47 = some ty47 := by kernel_rfl
theorem ti48 : mkTI Tryd.prog 48 = some ty48 := by kernel_rfl
theorem ti49 : mkTI Tryd.prog 49 = some ty49 := by kernel_rfl
theorem ti50 : mkTI Tryd.prog 50 = some ty50 := by kernel_rfl
theorem ti51 : mkTI Tryd.prog 51 = some ty51 := by kernel_rfl
theorem ti52 : mkTI Tryd.prog 52 = some ty52 := by kernel_rfl
theorem ti53 : mkTI Tryd.prog 53 = some ty53 := by kernel_rfl
theorem ti54 : mkTI Tryd.prog 54 = some ty54 := by kernel_rfl
theorem ti55 : mkTI Tryd.prog 55 = some ty55 := by kernel_rfl
theorem ti56 : mkTI Tryd.prog 56 = some ty56 := by kernel_rfl
theorem ti57 : mkTI Tryd.prog 57 = some ty57 := by kernel_rfl
theorem ti58 : mkTI Tryd.prog 58 = some ty58 := by kernel_rfl
theorem ti59 : mkTI Tryd.prog 59 = some ty59 := by kernel_rfl
theorem ti60 : mkTI Tryd.prog 60 = some ty60 := by kernel_rfl
theorem ti61 : mkTI Tryd.prog 61 = some ty61 := by kernel_rfl
theorem ti62 : mkTI Tryd.prog 62 = some ty62 := by kernel_rfl
theorem ti63 : mkTI Tryd.prog 63 = some ty63 := by kernel_rfl
theorem ti64 : mkTI Tryd.prog 64 = some ty64 := by kernel_rfl
theorem ti65 : mkTI Tryd.prog 65 = some ty65 := by kernel_rfl
theorem ti66 : mkTI Tryd.prog 66 = some ty66 := by kernel_rfl
theorem ti67 : mkTI Tryd.prog 67 = some ty67 := by kernel_rfl
theorem ti68 : mkTI Tryd.prog 68 = some ty68 := by kernel_rfl
theorem ti69 : mkTI Tryd.prog 69 = some ty69 := by kernel_rfl
theorem ti70 : mkTI Tryd.prog 70 = some ty70 := by kernel_rfl
theorem ti71 : mkTI Tryd.prog 71 = some ty71 := by kernel_rfl
theorem ti72 : mkTI Tryd.prog 72 = some ty72 := by kernel_rfl
theorem ti73 : mkTI Tryd.prog 73 = some ty73 := by kernel_rfl
theorem ti74 : mkTI Tryd.prog 74 = some ty74 := by kernel_rfl
theorem ti75 : mkTI Tryd.prog 75 = some ty75 := by kernel_rfl
theorem ti76 : mkTI Tryd.prog 76 = some ty76 := by kernel_rfl
theorem ti77 : mkTI Tryd.prog 77 = some ty77 := by kernel_rfl
theorem ti78 : mkTI Tryd.prog 78 = some ty78 := by kernel_rfl
theorem ti79 : mkTI Tryd.prog 79 = some ty79 := by kernel_rfl
theorem ti80 : mkTI Tryd.prog 80 = some ty80 := by kernel_rfl
theorem ti81 : mkTI Tryd.prog 81 = some ty81 := by kernel_rfl
theorem ti82 : mkTI Tryd.prog 82 = some ty82 := by kernel_rfl
theorem ti83 : mkTI Tryd.prog 83 = some ty83 := by kernel_rfl
theorem ti84 : mkTI Tryd.prog 84 = some ty84 := by kernel_rfl
theorem ti85 : mkTI Tryd.prog 85 = some ty85 := by kernel_rfl
theorem ti86 : mkTI Tryd.prog 86 = some ty86 := by kernel_rfl
theorem ti87 : mkTI Tryd.prog 87 = some ty87 := by kernel_rfl
theorem ti88 : mkTI Tryd.prog 88 = some ty88 := by kernel_rfl
theorem ti89 : mkTI Tryd.prog 89 = some ty89 := by kernel_rfl
theorem ti90 : mkTI Tryd.prog 90 = some ty90 := by kernel_rfl
theorem ti91 : mkTI Tryd.prog 91 = some ty91 := by kernel_rfl
theorem ti92 : mkTI Tryd.prog 92 = some ty92 := by kernel_rfl
theorem ti93 : mkTI Tryd.prog 93 = some ty93 := by kernel_rfl
theorem ti94 : mkTI Tryd.prog 94 = some ty94 := by kernel_rfl
theorem ti95 : mkTI Tryd.prog 95 = some ty95 := by kernel_rfl
theorem ti96 : mkTI Tryd.prog 96 = some ty96 := by kernel_rfl
theorem ti97 : mkTI Tryd.prog 97 = some ty97 := by kernel_rfl
theorem ti98 : mkTI Tryd.prog 98 = some ty98 := by kernel_rfl
theorem ti99 : mkTI Tryd.prog 99 = some ty99 := by kernel_rfl
theorem ti100 : mkTI Tryd.prog 100 = some ty100 := by kernel_rfl
theorem ti101 : mkTI Tryd.prog 101 = some ty101 := by kernel_rfl
theorem ti102 : mkTI Tryd.prog 102 = some ty102 := by kernel_rfl
theorem ti103 : mkTI Tryd.prog 103 = some ty103 := by kernel_rfl
theorem ti104 : mkTI Tryd.prog 104 = some ty104 := by kernel_rfl
theorem ti105 : mkTI Tryd.prog 105 = some ty105 := by kernel_rfl
theorem ti106 : mkTI Tryd.prog 106 = some ty106 := by kernel_rfl
theorem ti107 : mkTI Tryd.prog 107 = some ty107 := by kernel_rfl
theorem ti108 : mkTI Tryd.prog 108 = some ty108 := by kernel_rfl
theorem ti109 : mkTI Tryd.prog 109 = some ty109 := by kernel_rfl
theorem ti110 : mkTI Tryd.prog 110 = some ty110 := by kernel_rfl
theorem ti111 : mkTI Tryd.prog 111 = some ty111 := by kernel_rfl
theorem ti112 : mkTI Tryd.prog 112 = some ty112 := by kernel_rfl
theorem ti113 : mkTI Tryd.prog 113 = some ty113 := by kernel_rfl
theorem ti114 : mkTI Tryd.prog 114 = some ty114 := by kernel_rfl
theorem ti115 : mkTI Tryd.prog 115 = some ty115 := by kernel_rfl
theorem ti116 : mkTI Tryd.prog 116 = some ty116 := by kernel_rfl
theorem ti117 : mkTI Tryd.prog 117 = some ty117 := by kernel_rfl
theorem ti118 : mkTI Tryd.prog 118 = some ty118 := by kernel_rfl
theorem ti119 : mkTI Tryd.prog 119 = some ty119 := by kernel_rfl
theorem ti120 : mkTI Tryd.prog 120 = some ty120 := by kernel_rfl
theorem ti121 : mkTI Tryd.prog 121 = some ty121 := by kernel_rfl
theorem ti122 : mkTI Tryd.prog 122 = some ty122 := by kernel_rfl
theorem ti123 : mkTI Tryd.prog 123 = some ty123 := by kernel_rfl
theorem ti124 : mkTI Tryd.prog 124 = some ty124 := by kernel_rfl
theorem ti125 : mkTI Tryd.prog 125 = some ty125 := by kernel_rfl
theorem ti126 : mkTI Tryd.prog 126 = some ty126 := by kernel_rfl
theorem ti127 : mkTI Tryd.prog 127 = some ty127 := by kernel_rfl
theorem ti128 : mkTI Tryd.prog 128 = some ty128 := by kernel_rfl
theorem ti129 : mkTI Tryd.prog 129 = some ty129 := by kernel_rfl
theorem ti130 : mkTI Tryd.prog 130 = some ty130 := by kernel_rfl
theorem ti131 : mkTI Tryd.prog 131 = some ty131 := by kernel_rfl
theorem ti132 : mkTI Tryd.prog 132 = some ty132 := by kernel_rfl
theorem ti133 : mkTI Tryd.prog 133 = some ty133 := by kernel_rfl
theorem ti134 : mkTI Tryd.prog 134 = some ty134 := by kernel_rfl
theorem ti135 : mkTI Tryd.prog 135 = some ty135 := by kernel_rfl
theorem ti136 : mkTI Tryd.prog 136 = some ty136 := by kernel_rfl
theorem ti137 : mkTI Tryd.prog 137 = some ty137 := by kernel_rfl
theorem ti138 : mkTI Tryd.prog 138 = some ty138 := by kernel_rfl
theorem ti139 : mkTI Tryd.prog 139 = some ty139 := by kernel_rfl
theorem ti140 : mkTI Tryd.prog 140 = some ty140 := by kernel_rfl
theorem ti141 : mkTI Tryd.prog 141 = some ty141 := by kernel_rfl
theorem ti142 : mkTI Tryd.prog 142 = some ty142 := by kernel_rfl
theorem ti143 : mkTI Tryd.prog 143 = some ty143 := by kernel_rfl
theorem ti144 : mkTI Tryd.prog 144 = some ty144 := by kernel_rfl
theorem ti145 : mkTI Tryd.prog 145 = some ty145 := by kernel_rfl
theorem ti146 : mkTI Tryd.prog 146 = some ty146 := by kernel_rfl
theorem ti147 : mkTI Tryd.prog 147 = some ty147 := by kernel_rfl
theorem ti148 : mkTI Tryd.prog 148 = some ty148 := by kernel_rfl
theorem ti149 : mkTI Tryd.prog 149 = some ty149 := by kernel_rfl
theorem ti150 : mkTI Tryd.prog 150 = some ty150 := by kernel_rfl
theorem ti151 : mkTI Tryd.prog 151 = some ty151 := by kernel_rfl
theorem ti152 : mkTI Tryd.prog 152 = some ty152 := by kernel_rfl
theorem ti153 : mkTI Tryd.prog 153 = some ty153 := by kernel_rfl
theorem fi2 : Tryd.prog.funcs[(2 : Nat)]? = some Tryd.f2 ∧ Tryd.f2.body.isSome = true ∧ (Tryd.f2.name == "runtime.NumGoroutine") = false := ⟨Tryd.func2, rfl, by kernel_rfl⟩
theorem fi3 : Tryd.prog.funcs[(3 : Nat)]? = some Tryd.f3 ∧ Tryd.f3.body.isSome = true ∧ (Tryd.f3.name == "runtime.NumGoroutine") = false := ⟨Tryd.func3, rfl, by kernel_rfl⟩
theorem fi4 : Tryd.prog.funcs[(4 : Nat)]? = some Tryd.f4 ∧ Tryd.f4.body.isSome = true ∧ (Tryd.f4.name == "runtime.NumGoroutine") = false := ⟨Tryd.func4, rfl, by kernel_rfl⟩
theorem fi5 : Tryd.prog.funcs[(5 : Nat)]? = some Tryd.f5 ∧ Tryd.f5.body.isSome = true ∧ (Tryd.f5.name == "runtime.NumGoroutine") = false := ⟨Tryd.func5, rfl, by kernel_rfl⟩
theorem fi6 : Tryd.prog.funcs[(6 : Nat)]? = some Tryd.f6 ∧ Tryd.f6.body.isSome = true ∧ (Tryd.f6.name == "runtime.NumGoroutine") = false := ⟨Tryd.func6, rfl, by kernel_rfl⟩
theorem fi7 : Tryd.prog.funcs[(7 : Nat)]? = some Tryd.f7 ∧ Tryd.f7.body.isSome = true ∧ (Tryd.f7.name == "runtime.NumGoroutine") = false := ⟨Tryd.func7, rfl, by kernel_rfl⟩
theorem fi8 : Tryd.prog.funcs[(8 : Nat)]? = some Tryd.f8 ∧ Tryd.f8.body.isSome = true ∧ (Tryd.f8.name == "runtime.NumGoroutine") = false := ⟨Tryd.func8, rfl, by kernel_rfl⟩
theorem fi9 : Tryd.prog.funcs[(9 : Nat)]? = some Tryd.f9 ∧ Tryd.f9.body.isSome = true ∧ (Tryd.f9.name == "runtime.NumGoroutine") = false := ⟨Tryd.func9, rfl, by kernel_rfl⟩
theorem fi10 : Tryd.prog.funcs[(10 : Nat)]? = some Tryd.f10 ∧ Tryd.f10.body.isSome = true ∧ (Tryd.f10.name == "runtime.NumGoroutine") = false := ⟨Tryd.func10, rfl, by kernel_rfl⟩
theorem fi11 : Tryd.prog.funcs[(11 : Nat)]? = some Tryd.f11 ∧ Tryd.f11.body.isSome = true ∧ (Tryd.f11.name == "runtime.NumGoroutine") = false := ⟨Tryd.func11, rfl, by kernel_rfl⟩
theorem fi12 : Tryd.prog.funcs[(12 : Nat)]? = some Tryd.f12 ∧ Tryd.f12.body.isSome = true ∧ (Tryd.f12.name == "runtime.NumGoroutine") = false := ⟨Tryd.func12, rfl, by kernel_rfl⟩
theorem fi13 : Tryd.prog.funcs[(13 : Nat)]? = some Tryd.f13 ∧ Tryd.f13.body.isSome = true ∧ (Tryd.f13.name == "runtime.NumGoroutine") = false := ⟨Tryd.func13, rfl, by kernel_rfl⟩
theorem fi14 : Tryd.prog.funcs[(14 : Nat)]? = some Tryd.f14 ∧ Tryd.f14.body.isSome = true ∧ (Tryd.f14.name == "runtime.NumGoroutine") = false := ⟨Tryd.func14, rfl, by kernel_rfl⟩
theorem fi15 : Tryd.prog.funcs[(15 : Nat)]? = some Tryd.f15 ∧ Tryd.f15.body.isSome = true ∧ (Tryd.f15.name == "runtime.NumGoroutine") = false := ⟨Tryd.func15, rfl, by kernel_rfl⟩
theorem fi16 : Tryd.prog.funcs[(16 : Nat)]? = some Tryd.f16 ∧ Tryd.f16.body.isSome = true ∧ (Tryd.f16.name == "runtime.NumGoroutine") = false := ⟨Tryd.func16, rfl, by kernel_rfl⟩
theorem fi17 : Tryd.prog.funcs[(17 : Nat)]? = some Tryd.f17 ∧ Tryd.f17.body.isSome = true ∧ (Tryd.f17.name == "runtime.NumGoroutine") = false := ⟨Tryd.func17, rfl, by kernel_rfl⟩
theorem fi18 : Tryd.prog.funcs[(18 : Nat)]? = some Tryd.f18 ∧ Tryd.f18.body.isSome = true ∧ (Tryd.f18.name == "runtime.NumGoroutine") = false := ⟨Tryd.func18, rfl, by kernel_rfl⟩
theorem fi19 : Tryd.prog.funcs[(19 : Nat)]? = some Tryd.f19 ∧ Tryd.f19.body.isSome = true ∧ (Tryd.f19.name == "runtime.NumGoroutine") = false := ⟨Tryd.func19, rfl, by kernel_rfl⟩
theorem fi20 : Tryd.prog.funcs[(20 : Nat)]? = some Tryd.f20 ∧ Tryd.f20.body.isSome = true ∧ (Tryd.f20.name == "runtime.NumGoroutine") = false := ⟨Tryd.func20, rfl, by kernel_rfl⟩
theorem fi21 : Tryd.prog.funcs[(21 : Nat)]? = some Tryd.f21 ∧ Tryd.f21.body.isSome = true ∧ (Tryd.f21.name == "runtime.NumGoroutine") = false := ⟨Tryd.func21, rfl, by kernel_rfl⟩
theorem fi22 : Tryd.prog.funcs[(22 : Nat)]? = some Tryd.f22 ∧ Tryd.f22.body.isSome = true ∧ (Tryd.f22.name == "runtime.NumGoroutine") = false := ⟨Tryd.func22, rfl, by kernel_rfl⟩
theorem fi23 : Tryd.prog.funcs[(23 : Nat)]? = some Tryd.f23 ∧ Tryd.f23.body.isSome = true ∧ (Tryd.f23.name == "runtime.NumGoroutine") = false := ⟨Tryd.func23, rfl, by kernel_rfl⟩
theorem fi24 : Tryd.prog.funcs[(24 : Nat)]? = some Tryd.f24 ∧ Tryd.f24.body.isSome = true ∧ (Tryd.f24.name == "runtime.NumGoroutine") = false := ⟨Tryd.func24, rfl, by kernel_rfl⟩
theorem fi25 : Tryd.prog.funcs[(25 : Nat)]? = some Tryd.f25 ∧ Tryd.f25.body.isSome = true ∧ (Tryd.f25.name == "runtime.NumGoroutine") = false := ⟨Tryd.func25, rfl, by kernel_rfl⟩
theorem fi26 : Tryd.prog.funcs[(26 : Nat)]? = some Tryd.f26 ∧ Tryd.f26.body.isSome = true ∧ (Tryd.f26.name == "runtime.NumGoroutine") = false := ⟨Tryd.func26, rfl, by kernel_rfl⟩
theorem fi27 : Tryd.prog.funcs[(27 : Nat)]? = some Tryd.f27 ∧ Tryd.f27.body.isSome = true ∧ (Tryd.f27.name == "runtime.NumGoroutine") = false := ⟨Tryd.func27, rfl, by kernel_rfl⟩
theorem fi28 : Tryd.prog.funcs[(28 : Nat)]? = some Tryd.f28 ∧ Tryd.f28.body.isSome = true ∧ (Tryd.f28.name == "runtime.NumGoroutine") = false := ⟨Tryd.func28, rfl, by kernel_rfl⟩
theorem fi30 : Tryd.prog.funcs[(30 : Nat)]? = some Tryd.f30 ∧ Tryd.f30.body.isSome = true ∧ (Tryd.f30.name == "runtime.NumGoroutine") = false := ⟨Tryd.func30, rfl, by kernel_rfl⟩
theorem fi31 : Tryd.prog.funcs[(31 : Nat)]? = some Tryd.f31 ∧ Tryd.f31.body.isSome = true ∧ (Tryd.f31.name == "runtime.NumGoroutine") = false := ⟨Tryd.func31, rfl, by kernel_rfl⟩
theorem fi32 : Tryd.prog.funcs[(32 : Nat)]? = some Tryd.f32 ∧ Tryd.f32.body.isSome = true ∧ (Tryd.f32.name == "runtime.NumGoroutine") = false := ⟨Tryd.func32, rfl, by kernel_rfl⟩
theorem fi33 : Tryd.prog.funcs[(33 : Nat)]? = some Tryd.f33 ∧ Tryd.f33.body.isSome = true ∧ (Tryd.f33.name == "runtime.NumGoroutine") = false := ⟨Tryd.func33, rfl, by kernel_rfl⟩
theorem fi34 : Tryd.prog.funcs[(34 : Nat)]? = some Tryd.f34 ∧ Tryd.f34.body.isSome = true ∧ (Tryd.f34.name == "runtime.NumGoroutine") = false := ⟨Tryd.func34, rfl, by kernel_rfl⟩
theorem fi35 : Tryd.prog.funcs[(35 : Nat)]? = some Tryd.f35 ∧ Tryd.f35.body.isSome = true ∧ (Tryd.f35.name == "runtime.NumGoroutine") = false := ⟨Tryd.func35, rfl, by kernel_rfl⟩
theorem fi36 : Tryd.prog.funcs[(36 : Nat)]? = some Tryd.f36 ∧ Tryd.f36.body.isSome = true ∧ (Tryd.f36.name == "runtime.NumGoroutine") = false := ⟨Tryd.func36, rfl, by kernel_rfl⟩
theorem fi37 : Tryd.prog.funcs[(37 : Nat)]? = some Tryd.f37 ∧ Tryd.f37.body.isSome = true ∧ (Tryd.f37.name == "runtime.NumGoroutine") = false := ⟨Tryd.func37, rfl, by kernel_rfl⟩
theorem fi38 : Tryd.prog.funcs[(38 : Nat)]? = some Tryd.f38 ∧ Tryd.f38.body.isSome = true ∧ (Tryd.f38.name == "runtime.NumGoroutine") = false := ⟨Tryd.func38, rfl, by kernel_rfl⟩
theorem fi39 : Tryd.prog.funcs[(39 : Nat)]? = some Tryd.f39 ∧ Tryd.f39.body.isSome = true ∧ (Tryd.f39.name == "runtime.NumGoroutine") = false := ⟨Tryd.func39, rfl, by kernel_rfl⟩
theorem fi40 : Tryd.prog.funcs[(40 : Nat)]? = some Tryd.f40 ∧ Tryd.f40.body.isSome = true ∧ (Tryd.f40.name == "runtime.NumGoroutine") = false := ⟨Tryd.func40, rfl, by kernel_rfl⟩
theorem fi41 : Tryd.prog.funcs[(41 : Nat)]? = some Tryd.f41 ∧ Tryd.f41.body.isSome = true ∧ (Tryd.f41.name == "runtime.NumGoroutine") = false := ⟨Tryd.func41, rfl, by kernel_rfl⟩
theorem fi42 : Tryd.prog.funcs[(42 : Nat)]? = some Tryd.f42 ∧ Tryd.f42.body.isSome = true ∧ (Tryd.f42.name == "runtime.NumGoroutine") = false := ⟨Tryd.func42, rfl, by kernel_rfl⟩
theorem fi43 : Tryd.prog.funcs[(43 : Nat)]? = some Tryd.f43 ∧ Tryd.f43.body.isSome = true ∧ (Tryd.f43.name == "runtime.NumGoroutine") = false := ⟨Tryd.func43, rfl, by kernel_rfl⟩
theorem fi44 : Tryd.prog.funcs[(44 : Nat)]? = some Tryd.f44 ∧ Tryd.f44.body.isSome = true ∧ (Tryd.f44.name == "runtime.NumGoroutine") = false := ⟨Tryd.func44, rfl, by kernel_rfl⟩
theorem fi45 : Tryd.prog.funcs[(45 : Nat)]? = some Tryd.f45 ∧ Tryd.f45.body.isSome = true ∧ (Tryd.f45.name == "runtime.NumGoroutine") = false := ⟨Tryd.func45, rfl, by kernel_rfl⟩
theorem fi46 : Tryd.prog.funcs[(46 : Nat)]? = some Tryd.f46 ∧ Tryd.f46.body.isSome = true ∧ (Tryd.f46.name == "runtime.NumGoroutine") = false := ⟨Tryd.func46, rfl, by kernel_rfl⟩
theorem fi47 : Tryd.prog.funcs[(47 : Nat)]? = some Tryd.f47 ∧ Tryd.f47.body.isSome = true ∧ (Tryd.f47.name == "runtime.NumGoroutine") = false := ⟨Tryd.func47, rfl, by kernel_rfl⟩
theorem fi48 : Tryd.prog.funcs[(48 : Nat)]? = some Tryd.f48 ∧ Tryd.f48.body.isSome = true ∧ (Tryd.f48.name == "runtime.NumGoroutine") = false := ⟨Tryd.func48, rfl, by kernel_rfl⟩
theorem fi49 : Tryd.prog.funcs[(49 : Nat)]? = some Tryd.f49 ∧ Tryd.f49.body.isSome = true ∧ (Tryd.f49.name == "runtime.NumGoroutine") = false := ⟨Tryd.func49, rfl, by kernel_rfl⟩
theorem fi50 : Tryd.prog.funcs[(50 : Nat)]? = some Tryd.f50 ∧ Tryd.f50.body.isSome = true ∧ (Tryd.f50.name == "runtime.NumGoroutine") = false := ⟨Tryd.func50, rfl, by kernel_rfl⟩
theorem fi51 : Tryd.prog.funcs[(51 : Nat)]? = some Tryd.f51 ∧ Tryd.f51.body.isSome = true ∧ (Tryd.f51.name == "runtime.NumGoroutine") = false := ⟨Tryd.func51, rfl, by kernel_rfl⟩
theorem fi52 : Tryd.prog.funcs[(52 : Nat)]? = some Tryd.f52 ∧ Tryd.f52.body.isSome = true ∧ (Tryd.f52.name == "runtime.NumGoroutine") = false := ⟨Tryd.func52, rfl, by kernel_rfl⟩
theorem fi53 : Tryd.prog.funcs[(53 : Nat)]? = some Tryd.f53 ∧ Tryd.f53.body.isSome = true ∧ (Tryd.f53.name == "runtime.NumGoroutine") = false := ⟨Tryd.func53, rfl, by kernel_rfl⟩
theorem fi54 : Tryd.prog.funcs[(54 : Nat)]? = some Tryd.f54 ∧ Tryd.f54.body.isSome = true ∧ (Tryd.f54.name == "runtime.NumGoroutine") = false := ⟨Tryd.func54, rfl, by kernel_rfl⟩
theorem fi55 : Tryd.prog.funcs[(55 : Nat)]? = some Tryd.f55 ∧ Tryd.f55.body.isSome = true ∧ (Tryd.f55.name == "runtime.NumGoroutine") = false := ⟨Tryd.func55, rfl, by kernel_rfl⟩
theorem fi56 : Tryd.prog.funcs[(56 : Nat)]? = some Tryd.f56 ∧ Tryd.f56.body.isSome = true ∧ (Tryd.f56.name == "runtime.NumGoroutine") = false := ⟨Tryd.func56, rfl, by kernel_rfl⟩
theorem fi57 : Tryd.prog.funcs[(57 : Nat)]? = some Tryd.f57 ∧ Tryd.f57.body.isSome = true ∧ (Tryd.f57.name == "runtime.NumGoroutine") = false := ⟨Tryd.func57, rfl, by kernel_rfl⟩
theorem fi58 : Tryd.prog.funcs[(58 : Nat)]? = some Tryd.f58 ∧ Tryd.f58.body.isSome = true ∧ (Tryd.f58.name == "runtime.NumGoroutine") = false := ⟨Tryd.func58, rfl, by kernel_rfl⟩
theorem fi59 : Tryd.prog.funcs[(59 : Nat)]? = some Tryd.f59 ∧ Tryd.f59.body.isSome = true ∧ (Tryd.f59.name == "runtime.NumGoroutine") = false := ⟨Tryd.func59, rfl, by kernel_rfl⟩
theorem fi60 : Tryd.prog.funcs[(60 : Nat)]? = some Tryd.f60 ∧ Tryd.f60.body.isSome = true ∧ (Tryd.f60.name == "runtime.NumGoroutine") = false := ⟨Tryd.func60, rfl, by kernel_rfl⟩
theorem fi61 : Tryd.prog.funcs[(61 : Nat)]? = some Tryd.f61 ∧ Tryd.f61.body.isSome = true ∧ (Tryd.f61.name == "runtime.NumGoroutine") = false := ⟨Tryd.func61, rfl, by kernel_rfl⟩
theorem fi62 : Tryd.prog.funcs[(62 : Nat)]? = some Tryd.f62 ∧ Tryd.f62.body.isSome = true ∧ (Tryd.f62.name == "runtime.NumGoroutine") = false := ⟨Tryd.func62, rfl, by kernel_rfl⟩
theorem fi63 : Tryd.prog.funcs[(63 : Nat)]? = some Tryd.f63 ∧ Tryd.f63.body.isSome = true ∧ (Tryd.f63.name == "runtime.NumGoroutine") = false := ⟨Tryd.func63, rfl, by kernel_rfl⟩
theorem fi64 : Tryd.prog.funcs[(64 : Nat)]? = some Tryd.f64 ∧ Tryd.f64.body.isSome = true ∧ (Tryd.f64.name == "runtime.NumGoroutine") = false := ⟨Tryd.func64, rfl, by kernel_rfl⟩
theorem fi65 : Tryd.prog.funcs[(65 : Nat)]? = some Tryd.f65 ∧ Tryd.f65.body.isSome = true ∧ (Tryd.f65.name == "runtime.NumGoroutine") = false := ⟨Tryd.func65, rfl, by kernel_rfl⟩
theorem fi66 : Tryd.prog.funcs[(66 : Nat)]? = some Tryd.f66 ∧ Tryd.f66.body.isSome = true ∧ (Tryd.f66.name == "runtime.NumGoroutine") = false := ⟨Tryd.func66, rfl, by kernel_rfl⟩
theorem fi67 : Tryd.prog.funcs[(67 : Nat)]? = some Tryd.f67 ∧ Tryd.f67.body.isSome = true ∧ (Tryd.f67.name == "runtime.NumGoroutine") = false := ⟨Tryd.func67, rfl, by kernel_rfl⟩
theorem fi84 : Tryd.prog.funcs[(84 : Nat)]? = some Tryd.f84 ∧ Tryd.f84.body.isSome = true ∧ (Tryd.f84.name == "runtime.NumGoroutine") = false := ⟨Tryd.func84, rfl, by kernel_rfl⟩
theorem fi100 : Tryd.prog.funcs[(100 : Nat)]? = some Tryd.f100 ∧ Tryd.f100.body.isSome = true ∧ (Tryd.f100.name == "runtime.NumGoroutine") = false := ⟨Tryd.func100, rfl, by kernel_rfl⟩
theorem fi104 : Tryd.prog.funcs[(104 : Nat)]? = some Tryd.f104 ∧ Tryd.f104.body.isSome = true ∧ (Tryd.f104.name == "runtime.NumGoroutine") = false := ⟨Tryd.func104, rfl, by kernel_rfl⟩
theorem ttAll : Tr.All (fun t i => mkTI Tryd.prog t = some i) tt (fun n => n) := ⟨(fun a h => by cases h; exact ti0), ⟨(fun a h => by cases h; exact ti1), ⟨(fun a h => by cases h; exact ti3), ⟨(fun a h => by cases h; exact ti7), ⟨(fun a h => by cases h; exact ti15), ⟨(fun a h => by cases h; exact ti31), ⟨(fun a h => by cases h; exact ti63), ⟨(fun a h => by cases h; exact ti127), trivial, trivial⟩, trivial⟩, ⟨(fun a h => by cases h; exact ti95), trivial, trivial⟩⟩, ⟨(fun a h => by cases h; exact ti47), ⟨(fun a h => by cases h; exact ti79), ⟨(fun a h => by cases h; exact ti143), trivial, trivial⟩, trivial⟩, ⟨(fun a h => by cases h; exact ti111), trivial, trivial⟩⟩⟩, ⟨(fun a h => by cases h; exact ti23), ⟨(fun a h => by cases h; exact ti39), ⟨(fun a h => by cases h; exact ti71), ⟨(fun a h => by cases h; exact ti135), trivial, trivial⟩, trivial⟩, ⟨(fun a h => by cases h; exact ti103), trivial, trivial⟩⟩, ⟨(fun a h => by cases h; exact ti55), ⟨(fun a h => by cases h; exact ti87), ⟨(fun a h => by cases h; exact ti151), trivial, trivial⟩, trivial⟩, ⟨(fun a h => by cases h; exact ti119), trivial, trivial⟩⟩⟩⟩, ⟨(fun a h => by cases h; exact ti11), ⟨(fun a h => by cases h; exact ti19), ⟨(fun a h => by cases h; exact ti35), ⟨(fun a h => by cases h; exact ti67), ⟨(fun a h => by cases h; exact ti131), trivial, trivial⟩, trivial⟩, ⟨(fun a h => by cases h; exact ti99), trivial, trivial⟩⟩, ⟨(fun a h => by cases h; exact ti51), ⟨(fun a h => by cases h; exact ti83), ⟨(fun a h => by cases h; exact ti147), trivial, trivial⟩, trivial⟩, ⟨(fun a h => by cases h; exact ti115), trivial, trivial⟩⟩⟩, ⟨(fun a h => by cases h; exact ti27), ⟨(fun a h => by cases h; exact ti43), ⟨(fun a h => by cases h; exact ti75), ⟨(fun a h => by cases h; exact ti139), trivial, trivial⟩, trivial⟩, ⟨(fun a h => by cases h; exact ti107), trivial, trivial⟩⟩, ⟨(fun a h => by cases h; exact ti59), ⟨(fun a h => by cases h; exact ti91), trivial, trivial⟩, ⟨(fun a h => by cases h; exact ti123), trivial, trivial⟩⟩⟩⟩⟩, ⟨(fun a h => by cases h; exact ti5), ⟨(fun a h => by cases h; exact ti9), ⟨(fun a h => by cases h; exact ti17), ⟨(fun a h => by cases h; exact ti33), ⟨(fun a h => by cases h; exact ti65), ⟨(fun a h => by cases h; exact ti129), trivial, trivial⟩, trivial⟩, ⟨(fun a h => by cases h; exact ti97), trivial, trivial⟩⟩, ⟨(fun a h => by cases h; exact ti49), ⟨(fun a h => by cases h; exact ti81), ⟨(fun a h => by cases h; exact ti145), trivial, trivial⟩, trivial⟩, ⟨(fun a h => by cases h; exact ti113), trivial, trivial⟩⟩⟩, ⟨(fun a h => by cases h; exact ti25), ⟨(fun a h => by cases h; exact ti41), ⟨(fun a h => by cases h; exact ti73), ⟨(fun a h => by cases h; exact ti137), trivial, trivial⟩, trivial⟩, ⟨(fun a h => by cases h; exact ti105), trivial, trivial⟩⟩, ⟨(fun a h => by cases h; exact ti57), ⟨(fun a h => by cases h; exact ti89), ⟨(fun a h => by cases h; exact ti153), trivial, trivial⟩, trivial⟩, ⟨(fun a h => by cases h; exact ti121), trivial, trivial⟩⟩⟩⟩, ⟨(fun a h => by cases h; exact ti13), ⟨(fun a h => by cases h; exact ti21), ⟨(fun a h => by cases h; exact ti37), ⟨(fun a h => by cases h; exact ti69), ⟨(fun a h => by cases h; exact ti133), trivial, trivial⟩, trivial⟩, ⟨(fun a h => by cases h; exact ti101), trivial, trivial⟩⟩, ⟨(fun a h => by cases h; exact ti53), ⟨(fun a h => by cases h; exact ti85), ⟨(fun a h => by cases h; exact ti149), trivial, trivial⟩, trivial⟩, ⟨(fun a h => by cases h; exact ti117), trivial, trivial⟩⟩⟩, ⟨(fun a h => by cases h; exact ti29), ⟨(fun a h => by cases h; exact ti45), ⟨(fun a h => by cases h; exact ti77), ⟨(fun a h => by cases h; exact ti141), trivial, trivial⟩, trivial⟩, ⟨(fun a h => by cases h; exact ti109), trivial, trivial⟩⟩, ⟨(fun a h => by cases h; exact ti61), ⟨(fun a h => by cases h; exact ti93), trivial, trivial⟩, ⟨(fun a h => by cases h; exact ti125), trivial, trivial⟩⟩⟩⟩⟩⟩, ⟨(fun a h => by cases h; exact ti2), ⟨(fun a h => by cases h; exact ti4), ⟨(fun a h => by cases h; exact ti8), ⟨(fun a h => by cases h; exact ti16), ⟨(fun a h => by cases h; exact ti32), ⟨(fun a h => by cases h; exact ti64), ⟨(fun a h => by cases h; exact ti128), trivial, trivial⟩, trivial⟩, ⟨(fun a h => by cases h; exact ti96), trivial, trivial⟩⟩, ⟨(fun a h => by cases h; exact ti48), ⟨(fun a h => by cases h; exact ti80), ⟨(fun a h => by cases h; exact ti144), trivial, trivial⟩, trivial⟩, ⟨(fun a h => by cases h; exact ti112), trivial, trivial⟩⟩⟩, ⟨(fun a h => by cases h; exact ti24), ⟨(fun a h => by cases h; exact ti40), ⟨(fun a h => by cases h; exact ti72), ⟨(fun a h => by cases h; exact ti136), trivial, trivial⟩, trivial⟩, ⟨(fun a h => by cases h; exact ti104), trivial, trivial⟩⟩, ⟨(fun a h => by cases h; exact ti56), ⟨(fun a h => by cases h; exact ti88), ⟨(fun a h => by cases h; exact ti152), trivial, trivial⟩, trivial⟩, ⟨(fun a h => by cases h; exact ti120), trivial, trivial⟩⟩⟩⟩, ⟨(fun a h => by cases h; exact ti12), ⟨(fun a h => by cases h; exact ti20), ⟨(fun a h => by cases h; exact ti36), ⟨(fun a h => by cases h; exact ti68), ⟨(fun a h => by cases h; exact ti132), trivial, trivial⟩, trivial⟩, ⟨(fun a h => by cases h; exact ti100), trivial, trivial⟩⟩, ⟨(fun a h => by cases h; exact ti52), ⟨(fun a h => by cases h; exact ti84), ⟨(fun a h => by cases h; exact ti148), trivial, trivial⟩, trivial⟩, ⟨(fun a h => by cases h; exact ti116), trivial, trivial⟩⟩⟩, ⟨(fun a h => by cases h; exact ti28), ⟨(fun a h => by cases h; exact ti44), ⟨(fun a h => by cases h; exact ti76), ⟨(fun a h => by cases h; exact ti140), trivial, trivial⟩, trivial⟩, ⟨(fun a h => by cases h; exact ti108), trivial, trivial⟩⟩, ⟨(fun a h => by cases h; exact ti60), ⟨(fun a h => by cases h; exact ti92), trivial, trivial⟩, ⟨(fun a h => by cases h; exact ti124), trivial, trivial⟩⟩⟩⟩⟩, ⟨(fun a h => by cases h; exact ti6), ⟨(fun a h => by cases h; exact ti10), ⟨(fun a h => by cases h; exact ti18), ⟨(fun a h => by cases h; exact ti34), ⟨(fun a h => by cases h; exact ti66), ⟨(fun a h => by cases h; exact ti130), trivial, trivial⟩, trivial⟩, ⟨(fun a h => by cases h; exact ti98), trivial, trivial⟩⟩, ⟨(fun a h => by cases h; exact ti50), ⟨(fun a h => by cases h; exact ti82), ⟨(fun a h => by cases h; exact ti146), trivial, trivial⟩, trivial⟩, ⟨(fun a h => by cases h; exact ti114), trivial, trivial⟩⟩⟩, ⟨(fun a h => by cases h; exact ti26), ⟨(fun a h => by cases h; exact ti42), ⟨(fun a h => by cases h; exact ti74), ⟨(fun a h => by cases h; exact ti138), trivial, trivial⟩, trivial⟩, ⟨(fun a h => by cases h; exact ti106), trivial, trivial⟩⟩, ⟨(fun a h => by cases h; exact ti58), ⟨(fun a h => by cases h; exact ti90), trivial, trivial⟩, ⟨(fun a h => by cases h; exact ti122), trivial, trivial⟩⟩⟩⟩, ⟨(fun a h => by cases h; exact ti14), ⟨(fun a h => by cases h; exact ti22), ⟨(fun a h => by cases h; exact ti38), ⟨(fun a h => by cases h; exact ti70), ⟨(fun a h => by cases h; exact ti134), trivial, trivial⟩, trivial⟩, ⟨(fun a h => by cases h; exact ti102), trivial, trivial⟩⟩, ⟨(fun a h => by cases h; exact ti54), ⟨(fun a h => by cases h; exact ti86), ⟨(fun a h => by cases h; exact ti150), trivial, trivial⟩, trivial⟩, ⟨(fun a h => by cases h; exact ti118), trivial, trivial⟩⟩⟩, ⟨(fun a h => by cases h; exact ti30), ⟨(fun a h => by cases h; exact ti46), ⟨(fun a h => by cases h; exact ti78), ⟨(fun a h => by cases h; exact ti142), trivial, trivial⟩, trivial⟩, ⟨(fun a h => by cases h; exact ti110), trivial, trivial⟩⟩, ⟨(fun a h => by cases h; exact ti62), ⟨(fun a h => by cases h; exact ti94), trivial, trivial⟩, ⟨(fun a h => by cases h; exact ti126), trivial, trivial⟩⟩⟩⟩⟩⟩⟩
theorem ftAll : Tr.All (fun f g => Tryd.prog.funcs[f]? = some g ∧ g.body.isSome = true ∧ (g.name == "runtime.NumGoroutine") = false) ft (fun n => n) := ⟨(fun a h => by cases h), ⟨(fun a h => by cases h), ⟨(fun a h => by cases h; exact fi3), ⟨(fun a h => by cases h; exact fi7), ⟨(fun a h => by cases h; exact fi15), ⟨(fun a h => by cases h; exact fi31), ⟨(fun a h => by cases h; exact fi63), trivial, trivial⟩, trivial⟩, ⟨(fun a h => by cases h; exact fi47), trivial, trivial⟩⟩, ⟨(fun a h => by cases h; exact fi23), ⟨(fun a h => by cases h; exact fi39), trivial, trivial⟩, ⟨(fun a h => by cases h; exact fi55), trivial, trivial⟩⟩⟩, ⟨(fun a h => by cases h; exact fi11), ⟨(fun a h => by cases h; exact fi19), ⟨(fun a h => by cases h; exact fi35), ⟨(fun a h => by cases h; exact fi67), trivial, trivial⟩, trivial⟩, ⟨(fun a h => by cases h; exact fi51), trivial, trivial⟩⟩, ⟨(fun a h => by cases h; exact fi27), ⟨(fun a h => by cases h; exact fi43), trivial, trivial⟩, ⟨(fun a h => by cases h; exact fi59), trivial, trivial⟩⟩⟩⟩, ⟨(fun a h => by cases h; exact fi5), ⟨(fun a h => by cases h; exact fi9), ⟨(fun a h => by cases h; exact fi17), ⟨(fun a h => by cases h; exact fi33), ⟨(fun a h => by cases h; exact fi65), trivial, trivial⟩, trivial⟩, ⟨(fun a h => by cases h; exact fi49), trivial, trivial⟩⟩, ⟨(fun a h => by cases h; exact fi25), ⟨(fun a h => by cases h; exact fi41), trivial, trivial⟩, ⟨(fun a h => by cases h; exact fi57), trivial, trivial⟩⟩⟩, ⟨(fun a h => by cases h; exact fi13), ⟨(fun a h => by cases h; exact fi21), ⟨(fun a h => by cases h; exact fi37), trivial, trivial⟩, ⟨(fun a h => by cases h; exact fi53), trivial, trivial⟩⟩, ⟨(fun a h => by cases h), ⟨(fun a h => by cases h; exact fi45), trivial, trivial⟩, ⟨(fun a h => by cases h; exact fi61), trivial, trivial⟩⟩⟩⟩⟩, ⟨(fun a h => by cases h; exact fi2), ⟨(fun a h => by cases h; exact fi4), ⟨(fun a h => by cases h; exact fi8), ⟨(fun a h => by cases h; exact fi16), ⟨(fun a h => by cases h; exact fi32), ⟨(fun a h => by cases h; exact fi64), trivial, trivial⟩, trivial⟩, ⟨(fun a h => by cases h; exact fi48), trivial, trivial⟩⟩, ⟨(fun a h => by cases h; exact fi24), ⟨(fun a h => by cases h; exact fi40), trivial, ⟨(fun a h => by cases h; exact fi104), trivial, trivial⟩⟩, ⟨(fun a h => by cases h; exact fi56), trivial, trivial⟩⟩⟩, ⟨(fun a h => by cases h; exact fi12), ⟨(fun a h => by cases h; exact fi20), ⟨(fun a h => by cases h; exact fi36), trivial, ⟨(fun a h => by cases h; exact fi100), trivial, trivial⟩⟩, ⟨(fun a h => by cases h; exact fi52), ⟨(fun a h => by cases h; exact fi84), trivial, trivial⟩, trivial⟩⟩, ⟨(fun a h => by cases h; exact fi28), ⟨(fun a h => by cases h; exact fi44), trivial, trivial⟩, ⟨(fun a h => by cases h; exact fi60), trivial, trivial⟩⟩⟩⟩, ⟨(fun a h => by cases h; exact fi6), ⟨(fun a h => by cases h; exact fi10), ⟨(fun a h => by cases h; exact fi18), ⟨(fun a h => by cases h; exact fi34), ⟨(fun a h => by cases h; exact fi66), trivial, trivial⟩, trivial⟩, ⟨(fun a h => by cases h; exact fi50), trivial, trivial⟩⟩, ⟨(fun a h => by cases h; exact fi26), ⟨(fun a h => by cases h; exact fi42), trivial, trivial⟩, ⟨(fun a h => by cases h; exact fi58), trivial, trivial⟩⟩⟩, ⟨(fun a h => by cases h; exact fi14), ⟨(fun a h => by cases h; exact fi22), ⟨(fun a h => by cases h; exact fi38), trivial, trivial⟩, ⟨(fun a h => by cases h; exact fi54), trivial, trivial⟩⟩, ⟨(fun a h => by cases h; exact fi30), ⟨(fun a h => by cases h; exact fi46), trivial, trivial⟩, ⟨(fun a h => by cases h; exact fi62), trivial, trivial⟩⟩⟩⟩⟩⟩
theorem tblOk {AV : Type} (G : Nat) (F : Intf AV) (hv : Op → List SV → Hp AV → T (SV × Hp AV)) (lp : FuncId → Nat → Option (St AV → T (Ex × St AV))) : TblOk Tryd.prog ({ tt := tt, ft := ft, gu := gu, G := G, F := F, hv := hv, lp := lp } : Env AV) := ⟨fun t i h => Tr.all_get ttAll t i h, fun f g h => Tr.all_get ftAll f g h, by kernel_rfl⟩
end Go.Proofs.YtambonphnojcpaaDoor
