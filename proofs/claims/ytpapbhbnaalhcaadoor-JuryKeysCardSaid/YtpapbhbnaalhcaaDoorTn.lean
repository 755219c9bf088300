/- JuryKeys: for every input the law returns true (the row, and the card that ties its listed variables to the program's text); no condition. -/
import Derived.Test.YtpapbhbnaalhcaaDoorTm
import Derived.Test.YtpapbhbnaalhcaaDoorKq
import Derived.Test.YtpapbhbnaalhcaaDoorCards
import Derived.Test.YtpapbhbnaalhcaaDoorTie
import Derived.Stop.ErrReads
import Derived.Lib.SmallJoins
namespace Go.Proofs.YtpapbhbnaalhcaaDoor
open Go Go.Sx Go.Proofs Go.ChangeShapes Go.WideShapes Go.RowKit
set_option maxRecDepth 100000
namespace juryKeys
theorem flat_ints : ∀ (n : Nat) {vs : List Value}, flatOk (List.replicate n (.int .i64)) vs -> ∃ l : List Int, l.length = n /\ vs = l.map (Value.int .i64)
 | 0, [], _ => ⟨[], rfl, rfl⟩
 | 0, _ :: _, h => by simp [flatOk] at h
 | n + 1, [], h => by simp [List.replicate, flatOk] at h
 | n + 1, v :: vs, h => by
   cases v with
   | int k x =>
     obtain ⟨rfl, h⟩ : k = .i64 /\ flatOk (List.replicate n (.int .i64)) vs := h
     obtain ⟨l, h1, h2⟩ := flat_ints n h
     exact ⟨x :: l, by simp [h1], by simp [h2]⟩
   | _ => simp [List.replicate, flatOk] at h
theorem own : ownKnob Tryd.prog.godebug = none := by kernel_rfl
theorem star : "*" ++ "errors.errorString" = "*errors.errorString" := by decide
theorem sentTy : SentTy Tryd.prog 28 189 226 9 where
 hi := ⟨_, Tryd.underlying28⟩
 row := fun u h => typeName_ptr_named (nm := "errors.errorString") (by rw [star]; kernel_rfl) (by kernel_rfl) (by decide) u (by rw [star]; exact h)
 hp := Tryd.underlying189
 he := ⟨_, Tryd.underlying226, rfl, rfl⟩
 hs := Tryd.underlying9
 hc := by kernel_rfl
 hcs := by kernel_rfl
theorem zero0 : ((begin Tryd.prog (fun _ _ => 0) default).world.heap[(0 : Nat)]?).bind Obj.row? = some (#[.nilIface], 28) := by kernel_rfl
theorem zero1 : ((begin Tryd.prog (fun _ _ => 0) default).world.heap[(3 : Nat)]?).bind Obj.row? = some (#[.nilIface], 28) := by kernel_rfl
theorem zero2 : ((begin Tryd.prog (fun _ _ => 0) default).world.heap[(2 : Nat)]?).bind Obj.row? = some (#[.nilIface], 28) := by kernel_rfl
theorem zero3 : ((begin Tryd.prog (fun _ _ => 0) default).world.heap[(1 : Nat)]?).bind Obj.row? = some (#[.nilIface], 28) := by kernel_rfl
theorem laid0 {W : World} (h : laidMetH Tryd.prog Rows.juryKeysRow.laid W) (hS : W.ShapedOpen Tryd.prog) : ∃ a0 a1 a2 a3 : Addr, W.heap[(0 : Nat)]? = some (.cells #[.iface 189 (.pointer (some a0))] 28 (0, 0)) /\ W.heap[(3 : Nat)]? = some (.cells #[.iface 189 (.pointer (some a1))] 28 (0, 0)) /\ W.heap[(2 : Nat)]? = some (.cells #[.iface 189 (.pointer (some a2))] 28 (0, 0)) /\ W.heap[(1 : Nat)]? = some (.cells #[.iface 189 (.pointer (some a3))] 28 (0, 0)) /\ [a0, a1, a2, a3].Nodup := by
 have hm := ((laidMetH_iff.1 h).1).filter (fun x : String × DataW Unit => (fun x => ["sexton/api.ErrArg", "sexton/api.ErrNil", "sexton/api.ErrState", "sexton/api.ErrLong"].contains x.1) x)
 rw [show ((Rows.juryKeysRow.laid.filter fun x => x.2.handleName?.isNone).filter (fun x : String × DataW Unit => (fun x => ["sexton/api.ErrArg", "sexton/api.ErrNil", "sexton/api.ErrState", "sexton/api.ErrLong"].contains x.1) x)) = ([("sexton/api.ErrArg", [97, 110, 32, 97, 114, 103, 117, 109, 101, 110, 116, 32, 116, 104, 97, 116, 32, 99, 97, 110, 39, 116, 32, 98, 101]), ("sexton/api.ErrNil", [97, 32, 110, 105, 108, 32, 116, 104, 105, 110, 103]), ("sexton/api.ErrState", [110, 111, 116, 32, 110, 111, 119]), ("sexton/api.ErrLong", [116, 111, 111, 32, 108, 111, 110, 103])].map fun x : String × List UInt8 => (x.1, sent x.2)) from by kernel_rfl] at hm
 obtain ⟨ps, hL, hnd, hr⟩ := hm
 obtain ⟨ads, h1, h2, _, h4⟩ := sents_of_laid sentTy (l := [("sexton/api.ErrArg", [97, 110, 32, 97, 114, 103, 117, 109, 101, 110, 116, 32, 116, 104, 97, 116, 32, 99, 97, 110, 39, 116, 32, 98, 101]), ("sexton/api.ErrNil", [97, 32, 110, 105, 108, 32, 116, 104, 105, 110, 103]), ("sexton/api.ErrState", [110, 111, 116, 32, 110, 111, 119]), ("sexton/api.ErrLong", [116, 111, 111, 32, 108, 111, 110, 103])] ) (gs := [0, 3, 2, 1]) (by kernel_rfl) (fun g hg => by simp at hg; rcases hg with rfl | rfl | rfl | rfl <;> kernel_rfl) hL hnd hr
 obtain ⟨a0, a1, a2, a3, rfl⟩ : ∃ a0 a1 a2 a3, ads = [a0, a1, a2, a3] := by
  match ads, h1 with
  | [a0, a1, a2, a3], _ => exact ⟨a0, a1, a2, a3, rfl⟩
 have k0 : W.heap[(0 : Nat)]? = some (.cells #[.iface 189 (.pointer (some a0))] 28 (0, 0)) := by
  obtain ⟨t, ht⟩ := h4 0 0 a0 rfl rfl
  obtain ⟨cs, hcs, _⟩ := hS.1 0 _ _ (of_decide_eq_true (by kernel_rfl)) zero0
  rw [hcs] at ht
  simp only [Option.some.injEq, Obj.cells.injEq] at ht
  obtain ⟨rfl, rfl, _⟩ := ht
  exact hcs
 have k1 : W.heap[(3 : Nat)]? = some (.cells #[.iface 189 (.pointer (some a1))] 28 (0, 0)) := by
  obtain ⟨t, ht⟩ := h4 1 3 a1 rfl rfl
  obtain ⟨cs, hcs, _⟩ := hS.1 3 _ _ (of_decide_eq_true (by kernel_rfl)) zero1
  rw [hcs] at ht
  simp only [Option.some.injEq, Obj.cells.injEq] at ht
  obtain ⟨rfl, rfl, _⟩ := ht
  exact hcs
 have k2 : W.heap[(2 : Nat)]? = some (.cells #[.iface 189 (.pointer (some a2))] 28 (0, 0)) := by
  obtain ⟨t, ht⟩ := h4 2 2 a2 rfl rfl
  obtain ⟨cs, hcs, _⟩ := hS.1 2 _ _ (of_decide_eq_true (by kernel_rfl)) zero2
  rw [hcs] at ht
  simp only [Option.some.injEq, Obj.cells.injEq] at ht
  obtain ⟨rfl, rfl, _⟩ := ht
  exact hcs
 have k3 : W.heap[(1 : Nat)]? = some (.cells #[.iface 189 (.pointer (some a3))] 28 (0, 0)) := by
  obtain ⟨t, ht⟩ := h4 3 1 a3 rfl rfl
  obtain ⟨cs, hcs, _⟩ := hS.1 1 _ _ (of_decide_eq_true (by kernel_rfl)) zero3
  rw [hcs] at ht
  simp only [Option.some.injEq, Obj.cells.injEq] at ht
  obtain ⟨rfl, rfl, _⟩ := ht
  exact hcs
 exact ⟨a0, a1, a2, a3, k0, k1, k2, k3, h2⟩
theorem pow {W : World} (h : laidMetH Tryd.prog Rows.juryKeysRow.laid W) : Lib.TabIs Tryd.prog W "internal/strconv.uint64pow10" .u64 Lib.pow10Tab := by
 have hm := ((laidMetH_iff.1 h).1).filter (fun x : String × DataW Unit => x.1 == "internal/strconv.uint64pow10")
 rw [show ((Rows.juryKeysRow.laid.filter fun x => x.2.handleName?.isNone).filter (fun x : String × DataW Unit => x.1 == "internal/strconv.uint64pow10")) = [("internal/strconv.uint64pow10", Lib.tabData .u64 Lib.pow10Tab)] from by kernel_rfl] at hm
 exact Lib.tabIs_of_head (g := 4) (t := 181) (e := 171) (n := 20) (by kernel_rfl) (by kernel_rfl) Tryd.underlying181 Tryd.underlying171 (by kernel_rfl) (by kernel_rfl) hm
theorem laidOut : laidOutB Tryd.prog = true := by kernel_rfl
theorem par : ∀ t ∈ Tryd.f5.params.toList, Tryd.prog.readableRec t = true /\ t < Tryd.prog.types.size := by
 have : (Tryd.f5.params.toList.all fun t => Tryd.prog.readableRec t && decide (t < Tryd.prog.types.size)) = true := by kernel_rfl
 intro t ht
 have := List.all_eq_true.1 this t ht
 simpa using this
theorem contract (H : Type) (enc : TypeId × Value -> H) (W : World) (base : Nat) (args : Array Value) (ds gs : List (DataW H)) (before : List MemPlace)
 (hval : ∀ (j : Nat) t v, Tryd.f5.params[j]? = some t -> args[j]? = some v -> Value.okWide Tryd.prog W .any base t v)
 (hW : DataW.Whole enc Tryd.prog Tryd.f5.params.toList Rows.juryKeysSpec.vars false W args.toList ds gs before) (hL : laidMetH Tryd.prog Rows.juryKeysRow.laid W) (hS : W.ShapedOpen Tryd.prog) :
 Calls Tryd.prog 5 args W fun e W' => ∃ v, e = .returned v /\ Rows.juryKeysSpec.post enc Tryd.prog Tryd.f5 false true false false W args v W' := by
 have hW' := hW
 obtain ⟨p, q, hA, hV, rfl, hfz, hnd⟩ := hW
 rw [show Tryd.f5.params = #[3, 31] from Tryd.params5] at hA hval
 obtain ⟨v0, vs0, d0, ds0, p0, q0, hargs, rfl, rfl, h0, r0⟩ := trodAll_cons hA
 obtain ⟨v1, vs1, d1, ds1, p1, q1, rfl, rfl, rfl, h1, r1⟩ := trodAll_cons r0
 obtain ⟨rfl, rfl, rfl⟩ := trodAll_nil r1
 obtain rfl : args = #[v0, v1] := by cases args; simp_all
 obtain ⟨a0, a1, a2, a3, g0, g1, g2, g3, hnd⟩ := laid0 hL hS
 have hgs : ∀ n, n < 3 -> W.heap[n]? = some (.cells #[.iface 189 (.pointer (some ((fun n => if n = 0 then a0 else if n = 3 then a1 else if n = 2 then a2 else if n = 1 then a3 else a0) n)))] 28 (0, 0)) := fun n hn => by
  rcases (by omega : n = 0 \/ n = 1 \/ n = 2) with rfl | rfl | rfl
  ·exact g0
  ·exact g3
  ·exact g2
 have hsb : ∀ k, k < 3 -> ∃ te ty p z, W.heap[k]? = some (.cells #[.iface te p] ty z) := fun k hk => ⟨_, _, _, _, hgs k hk⟩
 obtain ⟨lc1, l1, rfl, hq1⟩ := open_came krows (ad := (fun n => if n = 0 then a0 else if n = 3 then a1 else if n = 2 then a2 else if n = 1 then a3 else a0)) Tryd.underlying31 (by kernel_rfl) (by kernel_rfl) rfl dec_row no_row (hval 1 _ v1 rfl rfl) h1 hsb
 obtain ⟨x0, rfl, _, _, _⟩ := open_int Tryd.underlying3 (hval 0 3 v0 rfl rfl) h0
 refine (juryKeys_calls x0 lc1 l1 (fun n => if n = 0 then a0 else if n = 3 then a1 else if n = 2 then a2 else if n = 1 then a3 else a0) W hq1 hgs (sgOf_tab (pow hL) fun _ _ _ _ => trivial)).mono ?_
 rintro e W' ⟨rfl, hq⟩
 exact ⟨_, rfl, post_of_quiet laidOut rfl par (by kernel_rfl) Tryd.underlying4 hW' rfl hq⟩
noncomputable def low : Nat := (World.holding Tryd.prog default ⟨#[], #[], []⟩).heap.size
noncomputable def laidWorld (os : Os) : World :=
 let w0 := World.holding Tryd.prog os ⟨#[.cells #[.string { data := #[97, 110, 32, 97, 114, 103, 117, 109, 101, 110, 116, 32, 116, 104, 97, 116, 32, 99, 97, 110, 39, 116, 32, 98, 101] }] 226, .cells #[.string { data := #[97, 32, 110, 105, 108, 32, 116, 104, 105, 110, 103] }] 226, .cells #[.string { data := #[110, 111, 116, 32, 110, 111, 119] }] 226, .cells #[.string { data := #[116, 111, 111, 32, 108, 111, 110, 103] }] 226], #[], []⟩
 { w0 with heap := ((((((((((((((w0.heap).modify 0 fun | .cells _ t frozen => .cells #[.iface 189 (.pointer (some ⟨low + 0, 0, none⟩))] t frozen | o => o)).modify 3 fun | .cells _ t frozen => .cells #[.iface 189 (.pointer (some ⟨low + 1, 0, none⟩))] t frozen | o => o)).modify 2 fun | .cells _ t frozen => .cells #[.iface 189 (.pointer (some ⟨low + 2, 0, none⟩))] t frozen | o => o)).modify 1 fun | .cells _ t frozen => .cells #[.iface 189 (.pointer (some ⟨low + 3, 0, none⟩))] t frozen | o => o)).modify 5 fun | .cells _ t frozen => .cells #[.int .u8 0, .int .u8 1, .int .u8 28, .int .u8 2, .int .u8 29, .int .u8 14, .int .u8 24, .int .u8 3, .int .u8 30, .int .u8 22, .int .u8 20, .int .u8 15, .int .u8 25, .int .u8 17, .int .u8 4, .int .u8 8, .int .u8 31, .int .u8 27, .int .u8 13, .int .u8 23, .int .u8 21, .int .u8 19, .int .u8 16, .int .u8 7, .int .u8 26, .int .u8 12, .int .u8 18, .int .u8 6, .int .u8 11, .int .u8 5, .int .u8 10, .int .u8 9] t frozen | o => o)).modify 6 fun | .cells _ t frozen => .cells #[.int .u8 0, .int .u8 1, .int .u8 56, .int .u8 2, .int .u8 57, .int .u8 49, .int .u8 28, .int .u8 3, .int .u8 61, .int .u8 58, .int .u8 42, .int .u8 50, .int .u8 38, .int .u8 29, .int .u8 17, .int .u8 4, .int .u8 62, .int .u8 47, .int .u8 59, .int .u8 36, .int .u8 45, .int .u8 43, .int .u8 51, .int .u8 22, .int .u8 53, .int .u8 39, .int .u8 33, .int .u8 30, .int .u8 24, .int .u8 18, .int .u8 12, .int .u8 5, .int .u8 63, .int .u8 55, .int .u8 48, .int .u8 27, .int .u8 60, .int .u8 41, .int .u8 37, .int .u8 16, .int .u8 46, .int .u8 35, .int .u8 44, .int .u8 21, .int .u8 52, .int .u8 32, .int .u8 23, .int .u8 11, .int .u8 54, .int .u8 26, .int .u8 40, .int .u8 15, .int .u8 34, .int .u8 20, .int .u8 31, .int .u8 10, .int .u8 25, .int .u8 14, .int .u8 19, .int .u8 9, .int .u8 13, .int .u8 8, .int .u8 7, .int .u8 6] t frozen | o => o)).modify 4 fun | .cells _ t frozen => .cells #[.int .u64 1, .int .u64 10, .int .u64 100, .int .u64 1000, .int .u64 10000, .int .u64 100000, .int .u64 1000000, .int .u64 10000000, .int .u64 100000000, .int .u64 1000000000, .int .u64 10000000000, .int .u64 100000000000, .int .u64 1000000000000, .int .u64 10000000000000, .int .u64 100000000000000, .int .u64 1000000000000000, .int .u64 10000000000000000, .int .u64 100000000000000000, .int .u64 1000000000000000000, .int .u64 10000000000000000000] t frozen | o => o) }
def args0 : Array Value := #[.int .i64 0, .slice none 0 0]
theorem laid_met (os : Os) : laidMet Tryd.prog Rows.juryKeysRow.laid ((laidWorld os).forCall (fun _ _ => 0) ⟨#[], args0, []⟩).memory :=
 laidMet_of_run' 8 (by kernel_rfl) (by kernel_rfl)
theorem reads (os : Os) {H : Type} (enc : TypeId × Value -> H) : ∃ places, DataW.whole enc Tryd.prog ((laidWorld os).forCall (fun _ _ => 0) ⟨#[], args0, []⟩).memory Tryd.f5.params.toList Rows.juryKeysSpec.vars false args0.toList 8 = some ([.lit (.int .i64 0), .nil], [], places) :=
 ⟨[], by kernel_rfl⟩
set_option maxRecDepth 100000 in
theorem lifted (os : Os) (started : os.Started) (H : Type) (enc : TypeId × Value -> H) (F : Stop.Interp) :
 ReturnsInHanded {} Tryd.checked os 5 .any ((OpenSpec.ofChange Rows.juryKeysSpec).preRow enc Tryd.prog Tryd.f5 Rows.juryKeysRow.domain false Rows.juryKeysRow.laid) (((OpenSpec.ofChange Rows.juryKeysSpec).at F).post enc Tryd.prog Tryd.f5 false true false false) := by
 obtain ⟨places, hx⟩ := reads os enc
 refine returnsInHanded_of_row (C := Tryd.checked) (s := OpenSpec.ofChange Rows.juryKeysSpec) own started (by kernel_rfl) Tryd.func5
  (witness_row_at (enc := enc) (C := Tryd.checked) false (laidWorld os) args0 rfl (by kernel_rfl) (by kernel_rfl) (by kernel_rfl)
    (OpenSpec.preRow_of_cond 8 hx (by kernel_rfl) (fun k hk => by cases hk) (by kernel_rfl) (laid_met os))) ?_
 intro W base args ds gs before hval hW _ _ _ hL hS _
 exact contract H enc W base args ds gs before hval hW hL hS
theorem said : Rows.JuryKeysSaid :=
 OpenClaim.holds_of_cond 5 Tryd.f5 rfl rfl rfl rfl rfl rfl rfl ⟨rfl, rfl, rfl, rfl, rfl⟩ rfl rfl rfl rfl rfl (by kernel_rfl) Tryd.func5 (by kernel_rfl)
  (of_decide_eq_true (by kernel_rfl)) (by unfold Func.isWrapper; first | (rw [if_pos (by decide +kernel)]; kernel_rfl) | (rw [if_neg (by decide +kernel)]; exact ⟨rfl, rfl⟩))
  (fun os started H enc _ F => by rw [OpenClaim.pre_eq_preRow]; exact lifted os started H enc F)
theorem plain (f : FuncId) (fn : Func) (hf : Tryd.pinned.checked.prog.funcNamed "sexton/sextonlaw16.JuryKeys" = some f) (hfn : Tryd.pinned.checked.prog.funcs[f]? = some fn) :
 true = Tryd.pinned.checked.prog.looks [] /\ ∀ (j : Nat) t, fn.params[j]? = some t -> Tryd.pinned.checked.prog.wantsStandIn t = false := by
 obtain rfl : f = 5 := Option.some.inj ((show Tryd.prog.funcNamed "sexton/sextonlaw16.JuryKeys" = some 5 by kernel_rfl).symm.trans hf) |>.symm
 obtain rfl : fn = Tryd.f5 := (Option.some.inj (Tryd.func5.symm.trans hfn)).symm
 refine ⟨by kernel_rfl, fun j t ht => ?_⟩
 have h := (show (Tryd.f5.params.toList.all fun t => Tryd.prog.wantsStandIn t == false) = true by kernel_rfl)
 have := List.all_eq_true.1 h t (Array.mem_toList_iff.2 (Array.mem_of_getElem? ht))
 exact (show Tryd.prog.wantsStandIn t = false by simpa using this)
theorem card : Rows.JuryKeysCardSaid :=
 Claim7.holds_tied_plain_at .later [] _ _ _ _ said (fun _ h => by cases h) (by kernel_rfl) (fun _ h => by cases h) juryKeys_row_tie rfl ⟨rfl, rfl⟩ (by kernel_rfl) rfl plain (by kernel_rfl)
#print axioms card
end juryKeys
end Go.Proofs.YtpapbhbnaalhcaaDoor
