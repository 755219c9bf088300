/- VesperTells: for every input the law returns true (the row, and the card that ties its listed variables to the program's text); no condition. -/
import Derived.Test.YthdmoahfeimdaaaGreatDoorZc
import Derived.Test.YthdmoahfeimdaaaGreatDoorWp
import Derived.Test.YthdmoahfeimdaaaGreatDoorCards
import Derived.Test.YthdmoahfeimdaaaGreatDoorTie
import Derived.Stop.ErrReads
import Derived.Lib.SmallJoins
namespace Go.Proofs.YthdmoahfeimdaaaGreatDoor
open Go Go.Sx Go.Proofs Go.ChangeShapes Go.WideShapes Go.RowKit
set_option maxRecDepth 100000
namespace vesperTells
theorem flat_ints : ∀ (n : Nat) {vs : List Value}, flatOk (List.replicate n (.int .i64)) vs -> ∃ l : List Int, l.length = n /\ vs = l.map (Value.int .i64)
 | 0, [], _ => ⟨[], rfl, rfl⟩
 | 0, _ :: _, h => by simp [flatOk] at h
 | n + 1, [], h => by simp [List.replicate, flatOk] at h
 | n + 1, v :: vs, h => by
   cases v with
   | int k x =>
     obtain ⟨rfl, h⟩ : k = .i64 /\ flatOk (List.replicate n (.int .i64)) vs := h
     obtain ⟨l, h1, h2⟩ := flat_ints n h
     exact ⟨x :: l, by simp [h1], by simp [h2]⟩
   | _ => simp [List.replicate, flatOk] at h
theorem own : ownKnob Tryz.prog.godebug = none := by kernel_rfl
theorem star : "*" ++ "errors.errorString" = "*errors.errorString" := by decide
theorem sentTy : SentTy Tryz.prog 43 386 443 9 where
 hi := ⟨_, Tryz.underlying43⟩
 row := fun u h => typeName_ptr_named (nm := "errors.errorString") (by rw [star]; kernel_rfl) (by kernel_rfl) (by decide) u (by rw [star]; exact h)
 hp := Tryz.underlying386
 he := ⟨_, Tryz.underlying443, rfl, rfl⟩
 hs := Tryz.underlying9
 hc := by kernel_rfl
 hcs := by kernel_rfl
theorem fact0 : (Rows.vesperTellsRow.wf (OpenSpec.ofChange Rows.vesperTellsSpec)) = true := by kernel_rfl
theorem fact1 : (laidOutB Tryz.prog) = true := by kernel_rfl
theorem fact2 : (mapsRowed Tryz.prog) = true := by kernel_rfl
theorem fact3 : (Tryz.f3.params.all (Tryz.prog.readableRec ·)) = true := by kernel_rfl
theorem fact4 : (namedTie Tryz.prog Rows.vesperTellsRow.named Rows.vesperTellsSpec.vars) = true := by kernel_rfl
theorem fact5 : ((Rows.vesperTellsRow.stops == [])) = true := by kernel_rfl
theorem fact6 : ((Tryz.prog.stops == [])) = true := by kernel_rfl
theorem fact7 : ((Rows.vesperTellsRow.knobs == [])) = true := by kernel_rfl
theorem fact8 : ((Tryz.prog.stopKnobs == [])) = true := by kernel_rfl
theorem fact9 : ((Rows.vesperTellsRow.inPlace == Tryz.prog.inPlace 3)) = true := by kernel_rfl
theorem fact10 : ((Rows.vesperTellsRow.unfollowed == Tryz.prog.unfollowed 3)) = true := by kernel_rfl
theorem fact11 : ((Rows.vesperTellsRow.recurses == Tryz.prog.recurses 3)) = true := by kernel_rfl
theorem fact12 : ((Rows.vesperTellsRow.named == Tryz.prog.varsNamed 3)) = true := by kernel_rfl
theorem fact13 : ((Rows.vesperTellsRow.maps == (Tryz.f3.params.toList ++ Rows.vesperTellsSpec.plain.varTypes Tryz.prog).any (Tryz.prog.mapsRec ·))) = true := by kernel_rfl
theorem fact14 : ((Rows.vesperTellsRow.ifaces == (Tryz.f3.params.toList ++ Rows.vesperTellsSpec.plain.varTypes Tryz.prog).any (Tryz.prog.ifacesRec ·))) = true := by kernel_rfl
theorem fact15 : ((Rows.vesperTellsRow.mapsOut == Tryz.prog.mapsAmong Tryz.f3.resultTypes.toList)) = true := by kernel_rfl
theorem fact16 : ((Rows.vesperTellsRow.loops == (Tryz.f3.params.toList ++ Rows.vesperTellsSpec.plain.varTypes Tryz.prog).any (Tryz.prog.loopsFrom ·))) = true := by kernel_rfl
theorem fact17 : ((Rows.vesperTellsRow.wideKeys == (Tryz.f3.params.toList ++ Rows.vesperTellsSpec.plain.varTypes Tryz.prog ++ Tryz.f3.resultTypes.toList).any (Tryz.prog.wideKeysFrom ·))) = true := by kernel_rfl
theorem fact18 : (Rows.vesperTellsSpec.vars.all (Tryz.prog.varReadable ·)) = true := by kernel_rfl
theorem fact19 : (Tryz.f3.resultTypes.all (fun t => Tryz.prog.readableRec t && decide (t < Tryz.prog.types.size))) = true := by kernel_rfl
theorem fact20 : ((Rows.vesperTellsRow.ifacesOut == Tryz.f3.resultTypes.toList.any (Tryz.prog.ifacesRec ·))) = true := by kernel_rfl
theorem fact21 : ((Rows.vesperTellsRow.loopsOut == Tryz.f3.resultTypes.toList.any (Tryz.prog.loopsFrom ·))) = true := by kernel_rfl
theorem fact22 : ((Rows.vesperTellsRow.plainKeys == Tryz.prog.plainKeys)) = true := by kernel_rfl
theorem fact23 : (Rows.vesperTellsRow.shortTexts.isNone) = true := by kernel_rfl
theorem fact24 : (Tryz.prog.stopsHeard) = true := by kernel_rfl
theorem fact25 : (Tryz.prog.mayEnter) = true := by kernel_rfl
theorem fact26 : ((Rows.vesperTellsRow.lifted == Tryz.prog.liftsFinal)) = true := by kernel_rfl
theorem fact27 : ((Tryz.prog.make == some Rows.vesperTellsRow.make)) = true := by kernel_rfl
theorem fact28 : ((Rows.vesperTellsRow.kinds == (if Rows.vesperTellsRow.domain.isEmpty then [] else Tryz.f3.params.toList.map fun t => match Tryz.prog.underlying t with | some (.int k) => some k | _ => none))) = true := by kernel_rfl
theorem fact29 : ((Rows.vesperTellsRow.pinned == Rows.vesperTellsRow.pinnedBy)) = true := by kernel_rfl
theorem fact30 : ((Rows.vesperTellsRow.veiled == (Tryz.f3.params.toList ++ Rows.vesperTellsSpec.plain.varTypes Tryz.prog ++ Tryz.f3.resultTypes.toList).any (Tryz.prog.veiledRec ·))) = true := by kernel_rfl
theorem fact31 : (Rows.vesperTellsRow.veiledFits Tryz.prog Tryz.f3.params.toList (Tryz.f3.params.toList ++ Rows.vesperTellsSpec.plain.varTypes Tryz.prog ++ Tryz.f3.resultTypes.toList)) = true := by kernel_rfl
theorem andT {a b : Bool} (ha : a = true) (hb : b = true) : (a && b) = true := by rw [ha, hb]; rfl
theorem facts : joinedFacts Tryz.prog 3 Tryz.f3 Rows.vesperTellsSpec Rows.vesperTellsRow = true := by
 unfold joinedFacts
 exact (andT (andT (andT (andT (andT (andT (andT (andT (andT (andT (andT (andT (andT (andT (andT (andT (andT (andT (andT (andT (andT (andT (andT (andT (andT (andT (andT (andT (andT (andT (andT fact0 fact1) fact2) fact3) fact4) fact5) fact6) fact7) fact8) fact9) fact10) fact11) fact12) fact13) fact14) fact15) fact16) fact17) fact18) fact19) fact20) fact21) fact22) fact23) fact24) fact25) fact26) fact27) fact28) fact29) fact30) fact31)
theorem zero0 : ((begin Tryz.prog (fun _ _ => 0) default).world.heap[(0 : Nat)]?).bind Obj.row? = some (#[.nilIface], 43) := by kernel_rfl
theorem zero1 : ((begin Tryz.prog (fun _ _ => 0) default).world.heap[(4 : Nat)]?).bind Obj.row? = some (#[.nilIface], 43) := by kernel_rfl
theorem zero2 : ((begin Tryz.prog (fun _ _ => 0) default).world.heap[(5 : Nat)]?).bind Obj.row? = some (#[.nilIface], 43) := by kernel_rfl
theorem zero3 : ((begin Tryz.prog (fun _ _ => 0) default).world.heap[(6 : Nat)]?).bind Obj.row? = some (#[.nilIface], 43) := by kernel_rfl
theorem zero4 : ((begin Tryz.prog (fun _ _ => 0) default).world.heap[(7 : Nat)]?).bind Obj.row? = some (#[.nilIface], 43) := by kernel_rfl
theorem zero5 : ((begin Tryz.prog (fun _ _ => 0) default).world.heap[(8 : Nat)]?).bind Obj.row? = some (#[.nilIface], 43) := by kernel_rfl
theorem zero6 : ((begin Tryz.prog (fun _ _ => 0) default).world.heap[(9 : Nat)]?).bind Obj.row? = some (#[.nilIface], 43) := by kernel_rfl
theorem zero7 : ((begin Tryz.prog (fun _ _ => 0) default).world.heap[(10 : Nat)]?).bind Obj.row? = some (#[.nilIface], 43) := by kernel_rfl
theorem zero8 : ((begin Tryz.prog (fun _ _ => 0) default).world.heap[(11 : Nat)]?).bind Obj.row? = some (#[.nilIface], 43) := by kernel_rfl
theorem zero9 : ((begin Tryz.prog (fun _ _ => 0) default).world.heap[(2 : Nat)]?).bind Obj.row? = some (#[.nilIface], 43) := by kernel_rfl
theorem zero10 : ((begin Tryz.prog (fun _ _ => 0) default).world.heap[(3 : Nat)]?).bind Obj.row? = some (#[.nilIface], 43) := by kernel_rfl
theorem zeroT0 : ((begin Tryz.prog (fun _ _ => 0) default).world.heap[(12 : Nat)]?).bind Obj.row? = some (#[.string { data := #[] }, .string { data := #[] }, .string { data := #[] }, .string { data := #[] }, .string { data := #[] }], 195) := by kernel_rfl
theorem zeroT1 : ((begin Tryz.prog (fun _ _ => 0) default).world.heap[(13 : Nat)]?).bind Obj.row? = some (#[.string { data := #[] }, .string { data := #[] }, .string { data := #[] }, .string { data := #[] }, .string { data := #[] }], 195) := by kernel_rfl
theorem zeroT2 : ((begin Tryz.prog (fun _ _ => 0) default).world.heap[(1 : Nat)]?).bind Obj.row? = some (#[.string { data := #[] }, .string { data := #[] }, .string { data := #[] }, .string { data := #[] }, .string { data := #[] }, .string { data := #[] }, .string { data := #[] }, .string { data := #[] }], 77) := by kernel_rfl
theorem laid0 {W : World} (h : laidMetH Tryz.prog Rows.vesperTellsRow.laid W) (hS : W.ShapedOpen Tryz.prog) : ∃ ad : Nat -> Addr, VarS (sgOf W ad) W /\ SentR (sgOf W ad) := by
 have hm := ((laidMetH_iff.1 h).1).filter (fun x : String × DataW Unit => (fun x => ["sexton/api.ErrArg", "sexton/api.ErrNil", "sexton/api.ErrFull", "sexton/api.ErrNone", "sexton/api.ErrState", "sexton/api.ErrFreed", "sexton/api.ErrStale", "sexton/api.ErrTwice", "sexton/api.ErrLeft", "sexton/api.ErrLong", "sexton/api.ErrWord", "sexton/hymn.structures", "sexton/hymn.engines", "sexton/hymn.operations"].contains x.1) x)
 rw [show ((Rows.vesperTellsRow.laid.filter fun x => x.2.handleName?.isNone).filter (fun x : String × DataW Unit => (fun x => ["sexton/api.ErrArg", "sexton/api.ErrNil", "sexton/api.ErrFull", "sexton/api.ErrNone", "sexton/api.ErrState", "sexton/api.ErrFreed", "sexton/api.ErrStale", "sexton/api.ErrTwice", "sexton/api.ErrLeft", "sexton/api.ErrLong", "sexton/api.ErrWord", "sexton/hymn.structures", "sexton/hymn.engines", "sexton/hymn.operations"].contains x.1) x)) = ([("sexton/api.ErrArg", [97, 110, 32, 97, 114, 103, 117, 109, 101, 110, 116, 32, 116, 104, 97, 116, 32, 99, 97, 110, 39, 116, 32, 98, 101]), ("sexton/api.ErrNil", [97, 32, 110, 105, 108, 32, 116, 104, 105, 110, 103]), ("sexton/api.ErrFull", [110, 111, 32, 114, 111, 111, 109]), ("sexton/api.ErrNone", [116, 104, 101, 114, 101, 32, 105, 115, 32, 110, 111, 110, 101]), ("sexton/api.ErrState", [110, 111, 116, 32, 110, 111, 119]), ("sexton/api.ErrFreed", [97, 32, 115, 108, 111, 116, 32, 116, 104, 97, 116, 32, 105, 115, 32, 102, 114, 101, 101]), ("sexton/api.ErrStale", [97, 32, 115, 108, 111, 116, 32, 116, 104, 97, 116, 32, 105, 115, 32, 97, 110, 111, 116, 104, 101, 114, 32, 111, 110, 101, 32, 110, 111, 119]), ("sexton/api.ErrTwice", [100, 111, 110, 101, 32, 97, 108, 114, 101, 97, 100, 121]), ("sexton/api.ErrLeft", [97, 32, 102, 114, 101, 101, 32, 115, 108, 111, 116, 32, 116, 104, 97, 116, 32, 99, 97, 110, 32, 98, 101, 32, 114, 101, 97, 99, 104, 101, 100]), ("sexton/api.ErrLong", [116, 111, 111, 32, 108, 111, 110, 103]), ("sexton/api.ErrWord", [110, 111, 32, 119, 111, 114, 100])].map fun x : String × List UInt8 => (x.1, sent x.2)) ++ [("sexton/hymn.structures", texts [[112, 105, 108, 101], [99, 111, 114, 116, 101, 103, 101], [108, 105, 116, 97, 110, 121], [118, 97, 117, 108, 116], [115, 116, 101, 101, 112, 108, 101]]), ("sexton/hymn.engines", texts [[110, 101, 118, 101, 114], [104, 97, 122, 97, 114, 100], [101, 114, 97, 115], [101, 112, 111, 99, 104, 115], [105, 110, 116, 101, 114, 118, 97, 108]]), ("sexton/hymn.operations", texts [[112, 117, 115, 104], [112, 111, 112], [112, 101, 101, 107], [101, 110, 113, 117, 101, 117, 101], [100, 101, 113, 117, 101, 117, 101], [105, 110, 115, 101, 114, 116], [100, 101, 108, 101, 116, 101], [103, 101, 116]])] from by kernel_rfl] at hm
 obtain ⟨ps, hL, hnd, hr⟩ := hm
 obtain ⟨p1, p2, rfl, hL1, hL2⟩ := laid_split hL
 have hnd' := List.nodup_append.1 hnd
 obtain ⟨ad, d1, d2⟩ := sents3 sentTy (l := [("sexton/api.ErrArg", [97, 110, 32, 97, 114, 103, 117, 109, 101, 110, 116, 32, 116, 104, 97, 116, 32, 99, 97, 110, 39, 116, 32, 98, 101]), ("sexton/api.ErrNil", [97, 32, 110, 105, 108, 32, 116, 104, 105, 110, 103]), ("sexton/api.ErrFull", [110, 111, 32, 114, 111, 111, 109]), ("sexton/api.ErrNone", [116, 104, 101, 114, 101, 32, 105, 115, 32, 110, 111, 110, 101]), ("sexton/api.ErrState", [110, 111, 116, 32, 110, 111, 119]), ("sexton/api.ErrFreed", [97, 32, 115, 108, 111, 116, 32, 116, 104, 97, 116, 32, 105, 115, 32, 102, 114, 101, 101]), ("sexton/api.ErrStale", [97, 32, 115, 108, 111, 116, 32, 116, 104, 97, 116, 32, 105, 115, 32, 97, 110, 111, 116, 104, 101, 114, 32, 111, 110, 101, 32, 110, 111, 119]), ("sexton/api.ErrTwice", [100, 111, 110, 101, 32, 97, 108, 114, 101, 97, 100, 121]), ("sexton/api.ErrLeft", [97, 32, 102, 114, 101, 101, 32, 115, 108, 111, 116, 32, 116, 104, 97, 116, 32, 99, 97, 110, 32, 98, 101, 32, 114, 101, 97, 99, 104, 101, 100]), ("sexton/api.ErrLong", [116, 111, 111, 32, 108, 111, 110, 103]), ("sexton/api.ErrWord", [110, 111, 32, 119, 111, 114, 100])]) (gs := [0, 4, 5, 6, 7, 8, 9, 10, 11, 2, 3]) (by kernel_rfl) (fun g hg => by simp at hg; rcases hg with rfl | rfl | rfl | rfl | rfl | rfl | rfl | rfl | rfl | rfl | rfl <;> kernel_rfl) (by decide) hL1 hnd'.1 (fun b off hb => hr b off (List.mem_append_left _ hb))
 obtain ⟨q0, r0, ⟨c0, t0, z0, hb0, e0⟩, hp0, eq0, hT0⟩ := table_head (name := "sexton/hymn.structures") (txs := [[112, 105, 108, 101], [99, 111, 114, 116, 101, 103, 101], [108, 105, 116, 97, 110, 121], [118, 97, 117, 108, 116], [115, 116, 101, 101, 112, 108, 101]]) (g := 12) (t := 195) (e := 9) (n := 5) (by kernel_rfl) (by kernel_rfl) Tryz.underlying195 Tryz.underlying9 (by kernel_rfl) (by kernel_rfl) hL2
 obtain ⟨q1, r1, ⟨c1, t1, z1, hb1, e1⟩, hp1, eq1, hT1⟩ := table_head (name := "sexton/hymn.engines") (txs := [[110, 101, 118, 101, 114], [104, 97, 122, 97, 114, 100], [101, 114, 97, 115], [101, 112, 111, 99, 104, 115], [105, 110, 116, 101, 114, 118, 97, 108]]) (g := 13) (t := 195) (e := 9) (n := 5) (by kernel_rfl) (by kernel_rfl) Tryz.underlying195 Tryz.underlying9 (by kernel_rfl) (by kernel_rfl) hT0
 obtain ⟨q2, r2, ⟨c2, t2, z2, hb2, e2⟩, hp2, eq2, hT2⟩ := table_head (name := "sexton/hymn.operations") (txs := [[112, 117, 115, 104], [112, 111, 112], [112, 101, 101, 107], [101, 110, 113, 117, 101, 117, 101], [100, 101, 113, 117, 101, 117, 101], [105, 110, 115, 101, 114, 116], [100, 101, 108, 101, 116, 101], [103, 101, 116]]) (g := 1) (t := 77) (e := 9) (n := 8) (by kernel_rfl) (by kernel_rfl) Tryz.underlying77 Tryz.underlying9 (by kernel_rfl) (by kernel_rfl) hT1
 have k0 : W.heap[(0 : Nat)]? = some (.cells #[.iface 386 (.pointer (some (ad 0)))] 43 (0, 0)) := by
  obtain ⟨t, ht⟩ := (d2 0 (by decide)).2.2
  obtain ⟨cs, hcs, _⟩ := hS.1 0 _ _ (of_decide_eq_true (by kernel_rfl)) zero0
  rw [hcs] at ht
  simp only [Option.some.injEq, Obj.cells.injEq] at ht
  obtain ⟨rfl, rfl, _⟩ := ht
  exact hcs
 have k1 : W.heap[(4 : Nat)]? = some (.cells #[.iface 386 (.pointer (some (ad 4)))] 43 (0, 0)) := by
  obtain ⟨t, ht⟩ := (d2 4 (by decide)).2.2
  obtain ⟨cs, hcs, _⟩ := hS.1 4 _ _ (of_decide_eq_true (by kernel_rfl)) zero1
  rw [hcs] at ht
  simp only [Option.some.injEq, Obj.cells.injEq] at ht
  obtain ⟨rfl, rfl, _⟩ := ht
  exact hcs
 have k2 : W.heap[(5 : Nat)]? = some (.cells #[.iface 386 (.pointer (some (ad 5)))] 43 (0, 0)) := by
  obtain ⟨t, ht⟩ := (d2 5 (by decide)).2.2
  obtain ⟨cs, hcs, _⟩ := hS.1 5 _ _ (of_decide_eq_true (by kernel_rfl)) zero2
  rw [hcs] at ht
  simp only [Option.some.injEq, Obj.cells.injEq] at ht
  obtain ⟨rfl, rfl, _⟩ := ht
  exact hcs
 have k3 : W.heap[(6 : Nat)]? = some (.cells #[.iface 386 (.pointer (some (ad 6)))] 43 (0, 0)) := by
  obtain ⟨t, ht⟩ := (d2 6 (by decide)).2.2
  obtain ⟨cs, hcs, _⟩ := hS.1 6 _ _ (of_decide_eq_true (by kernel_rfl)) zero3
  rw [hcs] at ht
  simp only [Option.some.injEq, Obj.cells.injEq] at ht
  obtain ⟨rfl, rfl, _⟩ := ht
  exact hcs
 have k4 : W.heap[(7 : Nat)]? = some (.cells #[.iface 386 (.pointer (some (ad 7)))] 43 (0, 0)) := by
  obtain ⟨t, ht⟩ := (d2 7 (by decide)).2.2
  obtain ⟨cs, hcs, _⟩ := hS.1 7 _ _ (of_decide_eq_true (by kernel_rfl)) zero4
  rw [hcs] at ht
  simp only [Option.some.injEq, Obj.cells.injEq] at ht
  obtain ⟨rfl, rfl, _⟩ := ht
  exact hcs
 have k5 : W.heap[(8 : Nat)]? = some (.cells #[.iface 386 (.pointer (some (ad 8)))] 43 (0, 0)) := by
  obtain ⟨t, ht⟩ := (d2 8 (by decide)).2.2
  obtain ⟨cs, hcs, _⟩ := hS.1 8 _ _ (of_decide_eq_true (by kernel_rfl)) zero5
  rw [hcs] at ht
  simp only [Option.some.injEq, Obj.cells.injEq] at ht
  obtain ⟨rfl, rfl, _⟩ := ht
  exact hcs
 have k6 : W.heap[(9 : Nat)]? = some (.cells #[.iface 386 (.pointer (some (ad 9)))] 43 (0, 0)) := by
  obtain ⟨t, ht⟩ := (d2 9 (by decide)).2.2
  obtain ⟨cs, hcs, _⟩ := hS.1 9 _ _ (of_decide_eq_true (by kernel_rfl)) zero6
  rw [hcs] at ht
  simp only [Option.some.injEq, Obj.cells.injEq] at ht
  obtain ⟨rfl, rfl, _⟩ := ht
  exact hcs
 have k7 : W.heap[(10 : Nat)]? = some (.cells #[.iface 386 (.pointer (some (ad 10)))] 43 (0, 0)) := by
  obtain ⟨t, ht⟩ := (d2 10 (by decide)).2.2
  obtain ⟨cs, hcs, _⟩ := hS.1 10 _ _ (of_decide_eq_true (by kernel_rfl)) zero7
  rw [hcs] at ht
  simp only [Option.some.injEq, Obj.cells.injEq] at ht
  obtain ⟨rfl, rfl, _⟩ := ht
  exact hcs
 have k8 : W.heap[(11 : Nat)]? = some (.cells #[.iface 386 (.pointer (some (ad 11)))] 43 (0, 0)) := by
  obtain ⟨t, ht⟩ := (d2 11 (by decide)).2.2
  obtain ⟨cs, hcs, _⟩ := hS.1 11 _ _ (of_decide_eq_true (by kernel_rfl)) zero8
  rw [hcs] at ht
  simp only [Option.some.injEq, Obj.cells.injEq] at ht
  obtain ⟨rfl, rfl, _⟩ := ht
  exact hcs
 have k9 : W.heap[(2 : Nat)]? = some (.cells #[.iface 386 (.pointer (some (ad 2)))] 43 (0, 0)) := by
  obtain ⟨t, ht⟩ := (d2 2 (by decide)).2.2
  obtain ⟨cs, hcs, _⟩ := hS.1 2 _ _ (of_decide_eq_true (by kernel_rfl)) zero9
  rw [hcs] at ht
  simp only [Option.some.injEq, Obj.cells.injEq] at ht
  obtain ⟨rfl, rfl, _⟩ := ht
  exact hcs
 have k10 : W.heap[(3 : Nat)]? = some (.cells #[.iface 386 (.pointer (some (ad 3)))] 43 (0, 0)) := by
  obtain ⟨t, ht⟩ := (d2 3 (by decide)).2.2
  obtain ⟨cs, hcs, _⟩ := hS.1 3 _ _ (of_decide_eq_true (by kernel_rfl)) zero10
  rw [hcs] at ht
  simp only [Option.some.injEq, Obj.cells.injEq] at ht
  obtain ⟨rfl, rfl, _⟩ := ht
  exact hcs
 have kT0 : W.heap[(12 : Nat)]? = some (.cells ([[112, 105, 108, 101], [99, 111, 114, 116, 101, 103, 101], [108, 105, 116, 97, 110, 121], [118, 97, 117, 108, 116], [115, 116, 101, 101, 112, 108, 101]].map fun x => Value.string ⟨x.toArray⟩).toArray 195 (0, 0)) := by
  obtain ⟨cs, hcs, _⟩ := hS.1 12 _ _ (of_decide_eq_true (by kernel_rfl)) zeroT0
  rw [hcs] at hb0
  simp only [Option.some.injEq, Obj.cells.injEq] at hb0
  obtain ⟨rfl, rfl, _⟩ := hb0
  rw [hcs, e0]
 have kT1 : W.heap[(13 : Nat)]? = some (.cells ([[110, 101, 118, 101, 114], [104, 97, 122, 97, 114, 100], [101, 114, 97, 115], [101, 112, 111, 99, 104, 115], [105, 110, 116, 101, 114, 118, 97, 108]].map fun x => Value.string ⟨x.toArray⟩).toArray 195 (0, 0)) := by
  obtain ⟨cs, hcs, _⟩ := hS.1 13 _ _ (of_decide_eq_true (by kernel_rfl)) zeroT1
  rw [hcs] at hb1
  simp only [Option.some.injEq, Obj.cells.injEq] at hb1
  obtain ⟨rfl, rfl, _⟩ := hb1
  rw [hcs, e1]
 have kT2 : W.heap[(1 : Nat)]? = some (.cells ([[112, 117, 115, 104], [112, 111, 112], [112, 101, 101, 107], [101, 110, 113, 117, 101, 117, 101], [100, 101, 113, 117, 101, 117, 101], [105, 110, 115, 101, 114, 116], [100, 101, 108, 101, 116, 101], [103, 101, 116]].map fun x => Value.string ⟨x.toArray⟩).toArray 77 (0, 0)) := by
  obtain ⟨cs, hcs, _⟩ := hS.1 1 _ _ (of_decide_eq_true (by kernel_rfl)) zeroT2
  rw [hcs] at hb2
  simp only [Option.some.injEq, Obj.cells.injEq] at hb2
  obtain ⟨rfl, rfl, _⟩ := hb2
  rw [hcs, e2]
 have hV : VarS (sgOf W ad) W := fun n hn => by
  rcases (by omega : n = 0 \/ n = 1 \/ n = 2 \/ n = 3 \/ n = 4 \/ n = 5 \/ n = 6 \/ n = 7 \/ n = 8 \/ n = 9 \/ n = 10 \/ n = 11 \/ n = 12 \/ n = 13) with rfl | rfl | rfl | rfl | rfl | rfl | rfl | rfl | rfl | rfl | rfl | rfl | rfl | rfl
  all_goals first
   | exact k0
   | exact k1
   | exact k2
   | exact k3
   | exact k4
   | exact k5
   | exact k6
   | exact k7
   | exact k8
   | exact k9
   | exact k10
   | exact kT0
   | exact kT1
   | exact kT2
 refine ⟨ad, hV, sentR_of (fun i hi h0 => ?_) d1 d2 (fun b off hb => (hr b off (List.mem_append_left _ hb)).1) hnd'.2.2 hV fun k hk hks off ho => ?_⟩
 ·rcases (by omega : i = 0 \/ i = 1 \/ i = 2 \/ i = 3 \/ i = 4 \/ i = 5 \/ i = 6 \/ i = 7 \/ i = 8 \/ i = 9 \/ i = 10 \/ i = 11 \/ i = 12 \/ i = 13) with rfl | rfl | rfl | rfl | rfl | rfl | rfl | rfl | rfl | rfl | rfl | rfl | rfl | rfl
  all_goals first
   | decide
   | cases h0
 ·rcases (by omega : k = 0 \/ k = 1 \/ k = 2 \/ k = 3 \/ k = 4 \/ k = 5 \/ k = 6 \/ k = 7 \/ k = 8 \/ k = 9 \/ k = 10 \/ k = 11 \/ k = 12 \/ k = 13) with rfl | rfl | rfl | rfl | rfl | rfl | rfl | rfl | rfl | rfl | rfl | rfl | rfl | rfl
  all_goals first
   | (cases hks; done)
   | (rw [eq0]; exact List.mem_append_left _ (hp0 off ho))
   | (rw [eq0, eq1]; exact List.mem_append_right _ (List.mem_append_left _ (hp1 off ho)))
   | (rw [eq0, eq1, eq2]; exact List.mem_append_right _ (List.mem_append_right _ (List.mem_append_left _ (hp2 off ho))))
theorem pow {W : World} (h : laidMetH Tryz.prog Rows.vesperTellsRow.laid W) : Lib.TabIs Tryz.prog W "internal/strconv.uint64pow10" .u64 Lib.pow10Tab := by
 have hm := ((laidMetH_iff.1 h).1).filter (fun x : String × DataW Unit => x.1 == "internal/strconv.uint64pow10")
 rw [show ((Rows.vesperTellsRow.laid.filter fun x => x.2.handleName?.isNone).filter (fun x : String × DataW Unit => x.1 == "internal/strconv.uint64pow10")) = [("internal/strconv.uint64pow10", Lib.tabData .u64 Lib.pow10Tab)] from by kernel_rfl] at hm
 exact Lib.tabIs_of_head (g := 14) (t := 259) (e := 183) (n := 20) (by kernel_rfl) (by kernel_rfl) Tryz.underlying259 Tryz.underlying183 (by kernel_rfl) (by kernel_rfl) hm
theorem laidOut : laidOutB Tryz.prog = true := by kernel_rfl
theorem par : ∀ t ∈ Tryz.f3.params.toList, Tryz.prog.readableRec t = true /\ t < Tryz.prog.types.size := by
 have : (Tryz.f3.params.toList.all fun t => Tryz.prog.readableRec t && decide (t < Tryz.prog.types.size)) = true := by kernel_rfl
 intro t ht
 have := List.all_eq_true.1 this t ht
 simpa using this
set_option maxHeartbeats 2000000 in
theorem contract (H : Type) (enc : TypeId × Value -> H) (W : World) (base : Nat) (args : Array Value) (ds gs : List (DataW H)) (before : List MemPlace)
 (hval : ∀ (j : Nat) t v, Tryz.f3.params[j]? = some t -> args[j]? = some v -> Value.okWide Tryz.prog W .any base t v)
 (hW : DataW.Whole enc Tryz.prog Tryz.f3.params.toList Rows.vesperTellsSpec.vars false W args.toList ds gs before) (hL : laidMetH Tryz.prog Rows.vesperTellsRow.laid W) (hS : W.ShapedOpen Tryz.prog) :
 Calls Tryz.prog 3 args W fun e W' => ∃ v, e = .returned v /\ Rows.vesperTellsSpec.post enc Tryz.prog Tryz.f3 false true false false W args v W' := by
 have hW' := hW
 obtain ⟨p, q, hA, hV, rfl, hfz, hnd⟩ := hW
 rw [show Tryz.f3.params = #[3, 28] from Tryz.params3] at hA hval
 obtain ⟨v0, vs0, d0, ds0, p0, q0, hargs, rfl, rfl, h0, r0⟩ := trodAll_cons hA
 obtain ⟨v1, vs1, d1, ds1, p1, q1, rfl, rfl, rfl, h1, r1⟩ := trodAll_cons r0
 obtain ⟨rfl, rfl, rfl⟩ := trodAll_nil r1
 obtain rfl : args = #[v0, v1] := by cases args; simp_all
 obtain ⟨ad, hV, hSR⟩ := laid0 hL hS
 have hVB := varB_of hV
 obtain ⟨x0, rfl, _, _, _⟩ := open_int Tryz.underlying3 (hval 0 3 v0 rfl rfl) h0
 obtain ⟨lr1, rr1, lv1, vv1, lp1, pp1, u1, rfl, hR1, hr1, hq1, hu1, qr1, qv1, qp1⟩ := open_rep (ad := ad) (hval 1 _ v1 rfl rfl) h1 hVB
 refine (tells_calls hV hSR (sgOf_tab (pow hL)) hR1 hr1 hq1 hu1 qr1 qv1 qp1).mono ?_
 rintro e W' ⟨rfl, hq⟩
 exact ⟨_, rfl, post_of_quiet laidOut rfl par (by kernel_rfl) Tryz.underlying4 hW' rfl hq⟩
noncomputable def low : Nat := (World.holding Tryz.prog default ⟨#[], #[], []⟩).heap.size
noncomputable def laidWorld (os : Os) : World :=
 let w0 := World.holding Tryz.prog os ⟨#[.cells #[.string { data := #[97, 110, 32, 97, 114, 103, 117, 109, 101, 110, 116, 32, 116, 104, 97, 116, 32, 99, 97, 110, 39, 116, 32, 98, 101] }] 443, .cells #[.string { data := #[97, 32, 110, 105, 108, 32, 116, 104, 105, 110, 103] }] 443, .cells #[.string { data := #[110, 111, 32, 114, 111, 111, 109] }] 443, .cells #[.string { data := #[116, 104, 101, 114, 101, 32, 105, 115, 32, 110, 111, 110, 101] }] 443, .cells #[.string { data := #[110, 111, 116, 32, 110, 111, 119] }] 443, .cells #[.string { data := #[97, 32, 115, 108, 111, 116, 32, 116, 104, 97, 116, 32, 105, 115, 32, 102, 114, 101, 101] }] 443, .cells #[.string { data := #[97, 32, 115, 108, 111, 116, 32, 116, 104, 97, 116, 32, 105, 115, 32, 97, 110, 111, 116, 104, 101, 114, 32, 111, 110, 101, 32, 110, 111, 119] }] 443, .cells #[.string { data := #[100, 111, 110, 101, 32, 97, 108, 114, 101, 97, 100, 121] }] 443, .cells #[.string { data := #[97, 32, 102, 114, 101, 101, 32, 115, 108, 111, 116, 32, 116, 104, 97, 116, 32, 99, 97, 110, 32, 98, 101, 32, 114, 101, 97, 99, 104, 101, 100] }] 443, .cells #[.string { data := #[116, 111, 111, 32, 108, 111, 110, 103] }] 443, .cells #[.string { data := #[110, 111, 32, 119, 111, 114, 100] }] 443], #[], []⟩
 { w0 with heap := ((((((((((((((((((((((((((((((((((((((w0.heap).modify 0 fun | .cells _ t frozen => .cells #[.iface 386 (.pointer (some ⟨low + 0, 0, none⟩))] t frozen | o => o)).modify 4 fun | .cells _ t frozen => .cells #[.iface 386 (.pointer (some ⟨low + 1, 0, none⟩))] t frozen | o => o)).modify 5 fun | .cells _ t frozen => .cells #[.iface 386 (.pointer (some ⟨low + 2, 0, none⟩))] t frozen | o => o)).modify 6 fun | .cells _ t frozen => .cells #[.iface 386 (.pointer (some ⟨low + 3, 0, none⟩))] t frozen | o => o)).modify 7 fun | .cells _ t frozen => .cells #[.iface 386 (.pointer (some ⟨low + 4, 0, none⟩))] t frozen | o => o)).modify 8 fun | .cells _ t frozen => .cells #[.iface 386 (.pointer (some ⟨low + 5, 0, none⟩))] t frozen | o => o)).modify 9 fun | .cells _ t frozen => .cells #[.iface 386 (.pointer (some ⟨low + 6, 0, none⟩))] t frozen | o => o)).modify 10 fun | .cells _ t frozen => .cells #[.iface 386 (.pointer (some ⟨low + 7, 0, none⟩))] t frozen | o => o)).modify 11 fun | .cells _ t frozen => .cells #[.iface 386 (.pointer (some ⟨low + 8, 0, none⟩))] t frozen | o => o)).modify 2 fun | .cells _ t frozen => .cells #[.iface 386 (.pointer (some ⟨low + 9, 0, none⟩))] t frozen | o => o)).modify 3 fun | .cells _ t frozen => .cells #[.iface 386 (.pointer (some ⟨low + 10, 0, none⟩))] t frozen | o => o)).modify 18 fun | .cells _ t frozen => .cells (Go.Pinned.utf8FirstZ.map fun x => Value.int .u8 (x : Nat)).toArray t frozen | o => o)).modify 12 fun | .cells _ t frozen => .cells #[.string { data := #[112, 105, 108, 101] }, .string { data := #[99, 111, 114, 116, 101, 103, 101] }, .string { data := #[108, 105, 116, 97, 110, 121] }, .string { data := #[118, 97, 117, 108, 116] }, .string { data := #[115, 116, 101, 101, 112, 108, 101] }] t frozen | o => o)).modify 13 fun | .cells _ t frozen => .cells #[.string { data := #[110, 101, 118, 101, 114] }, .string { data := #[104, 97, 122, 97, 114, 100] }, .string { data := #[101, 114, 97, 115] }, .string { data := #[101, 112, 111, 99, 104, 115] }, .string { data := #[105, 110, 116, 101, 114, 118, 97, 108] }] t frozen | o => o)).modify 1 fun | .cells _ t frozen => .cells #[.string { data := #[112, 117, 115, 104] }, .string { data := #[112, 111, 112] }, .string { data := #[112, 101, 101, 107] }, .string { data := #[101, 110, 113, 117, 101, 117, 101] }, .string { data := #[100, 101, 113, 117, 101, 117, 101] }, .string { data := #[105, 110, 115, 101, 114, 116] }, .string { data := #[100, 101, 108, 101, 116, 101] }, .string { data := #[103, 101, 116] }] t frozen | o => o)).modify 16 fun | .cells _ t frozen => .cells #[.int .u8 0, .int .u8 1, .int .u8 28, .int .u8 2, .int .u8 29, .int .u8 14, .int .u8 24, .int .u8 3, .int .u8 30, .int .u8 22, .int .u8 20, .int .u8 15, .int .u8 25, .int .u8 17, .int .u8 4, .int .u8 8, .int .u8 31, .int .u8 27, .int .u8 13, .int .u8 23, .int .u8 21, .int .u8 19, .int .u8 16, .int .u8 7, .int .u8 26, .int .u8 12, .int .u8 18, .int .u8 6, .int .u8 11, .int .u8 5, .int .u8 10, .int .u8 9] t frozen | o => o)).modify 17 fun | .cells _ t frozen => .cells #[.int .u8 0, .int .u8 1, .int .u8 56, .int .u8 2, .int .u8 57, .int .u8 49, .int .u8 28, .int .u8 3, .int .u8 61, .int .u8 58, .int .u8 42, .int .u8 50, .int .u8 38, .int .u8 29, .int .u8 17, .int .u8 4, .int .u8 62, .int .u8 47, .int .u8 59, .int .u8 36, .int .u8 45, .int .u8 43, .int .u8 51, .int .u8 22, .int .u8 53, .int .u8 39, .int .u8 33, .int .u8 30, .int .u8 24, .int .u8 18, .int .u8 12, .int .u8 5, .int .u8 63, .int .u8 55, .int .u8 48, .int .u8 27, .int .u8 60, .int .u8 41, .int .u8 37, .int .u8 16, .int .u8 46, .int .u8 35, .int .u8 44, .int .u8 21, .int .u8 52, .int .u8 32, .int .u8 23, .int .u8 11, .int .u8 54, .int .u8 26, .int .u8 40, .int .u8 15, .int .u8 34, .int .u8 20, .int .u8 31, .int .u8 10, .int .u8 25, .int .u8 14, .int .u8 19, .int .u8 9, .int .u8 13, .int .u8 8, .int .u8 7, .int .u8 6] t frozen | o => o)).modify 14 fun | .cells _ t frozen => .cells #[.int .u64 1, .int .u64 10, .int .u64 100, .int .u64 1000, .int .u64 10000, .int .u64 100000, .int .u64 1000000, .int .u64 10000000, .int .u64 100000000, .int .u64 1000000000, .int .u64 10000000000, .int .u64 100000000000, .int .u64 1000000000000, .int .u64 10000000000000, .int .u64 100000000000000, .int .u64 1000000000000000, .int .u64 10000000000000000, .int .u64 100000000000000000, .int .u64 1000000000000000000, .int .u64 10000000000000000000] t frozen | o => o)).modify 19 fun | .cells _ t frozen => .cells #[.int .u8 128, .int .u8 191, .int .u8 160, .int .u8 191, .int .u8 128, .int .u8 159, .int .u8 144, .int .u8 191, .int .u8 128, .int .u8 143, .int .u8 0, .int .u8 0, .int .u8 0, .int .u8 0, .int .u8 0, .int .u8 0, .int .u8 0, .int .u8 0, .int .u8 0, .int .u8 0, .int .u8 0, .int .u8 0, .int .u8 0, .int .u8 0, .int .u8 0, .int .u8 0, .int .u8 0, .int .u8 0, .int .u8 0, .int .u8 0, .int .u8 0, .int .u8 0] t frozen | o => o) }
def args0 : Array Value := #[.int .i64 0, .agg #[.slice none 0 0, .slice none 0 0, .slice none 0 0, .int .i64 0, .int .i64 0, .int .i64 0, .int .i64 0, .int .i64 0, .int .i64 0]]
theorem laid_met (os : Os) : laidMet Tryz.prog Rows.vesperTellsRow.laid ((laidWorld os).forCall (fun _ _ => 0) ⟨#[], args0, []⟩).memory :=
 laidMet_of_run' 8 (by kernel_rfl) (by kernel_rfl)
theorem reads (os : Os) {H : Type} (enc : TypeId × Value -> H) : ∃ places, DataW.whole enc Tryz.prog ((laidWorld os).forCall (fun _ _ => 0) ⟨#[], args0, []⟩).memory Tryz.f3.params.toList Rows.vesperTellsSpec.vars false args0.toList 8 = some ([.lit (.int .i64 0), .agg [.nil, .nil, .nil, .agg [.lit (.int .i64 0), .lit (.int .i64 0), .lit (.int .i64 0), .lit (.int .i64 0)], .lit (.int .i64 0), .lit (.int .i64 0)]], [], places) :=
 ⟨[], by kernel_rfl⟩
set_option maxRecDepth 100000 in
theorem lifted (os : Os) (started : os.Started) (H : Type) (enc : TypeId × Value -> H) (F : Stop.Interp) :
 ReturnsInHanded {} Tryz.checked os 3 .any ((OpenSpec.ofChange Rows.vesperTellsSpec).preRow enc Tryz.prog Tryz.f3 Rows.vesperTellsRow.domain false Rows.vesperTellsRow.laid) (((OpenSpec.ofChange Rows.vesperTellsSpec).at F).post enc Tryz.prog Tryz.f3 false true false false) := by
 obtain ⟨places, hx⟩ := reads os enc
 refine returnsInHanded_of_row (C := Tryz.checked) (s := OpenSpec.ofChange Rows.vesperTellsSpec) own started (by kernel_rfl) Tryz.func3
  (witness_row_at (enc := enc) (C := Tryz.checked) false (laidWorld os) args0 rfl (by kernel_rfl) (by kernel_rfl) (by kernel_rfl)
    (OpenSpec.preRow_of_cond 8 hx (by kernel_rfl) (fun k hk => by cases hk) (by kernel_rfl) (laid_met os))) ?_
 intro W base args ds gs before hval hW _ _ _ hL hS _
 exact contract H enc W base args ds gs before hval hW hL hS
theorem said : Rows.VesperTellsSaid :=
 OpenClaim.holds_of_cond 3 Tryz.f3 rfl rfl rfl rfl rfl rfl rfl ⟨rfl, rfl, rfl, rfl, rfl⟩ rfl rfl rfl rfl rfl (by kernel_rfl) Tryz.func3 facts
  (of_decide_eq_true (by kernel_rfl)) (by unfold Func.isWrapper; first | (rw [if_pos (by decide +kernel)]; kernel_rfl) | (rw [if_neg (by decide +kernel)]; exact ⟨rfl, rfl⟩))
  (fun os started H enc _ F => by rw [OpenClaim.pre_eq_preRow]; exact lifted os started H enc F)
theorem plain (f : FuncId) (fn : Func) (hf : Tryz.pinned.checked.prog.funcNamed "sexton/sextonlaw22.VesperTells" = some f) (hfn : Tryz.pinned.checked.prog.funcs[f]? = some fn) :
 true = Tryz.pinned.checked.prog.looks [] /\ ∀ (j : Nat) t, fn.params[j]? = some t -> Tryz.pinned.checked.prog.wantsStandIn t = false := by
 obtain rfl : f = 3 := Option.some.inj ((show Tryz.prog.funcNamed "sexton/sextonlaw22.VesperTells" = some 3 by kernel_rfl).symm.trans hf) |>.symm
 obtain rfl : fn = Tryz.f3 := (Option.some.inj (Tryz.func3.symm.trans hfn)).symm
 refine ⟨by kernel_rfl, fun j t ht => ?_⟩
 have h := (show (Tryz.f3.params.toList.all fun t => Tryz.prog.wantsStandIn t == false) = true by kernel_rfl)
 have := List.all_eq_true.1 h t (Array.mem_toList_iff.2 (Array.mem_of_getElem? ht))
 exact (show Tryz.prog.wantsStandIn t = false by simpa using this)
theorem card : Rows.VesperTellsCardSaid :=
 Claim7.holds_tied_plain_at .later [] _ _ _ _ said (fun _ h => by cases h) (by kernel_rfl) (fun _ h => by cases h) vesperTells_row_tie rfl ⟨rfl, rfl⟩ (by kernel_rfl) rfl plain (by kernel_rfl)
#print axioms card
end vesperTells
end Go.Proofs.YthdmoahfeimdaaaGreatDoor
