/- ParishNil: for every input the law returns true (the row, and the card that ties its listed variables to the program's text); no condition. -/
import Derived.Test.YtmdojlkmgllhnaaGreatDoorYe
import Derived.Test.YtmdojlkmgllhnaaGreatDoorSxW
import Derived.Test.YtmdojlkmgllhnaaGreatDoorSxR
import Derived.Test.YtmdojlkmgllhnaaGreatDoorCards
import Derived.Test.YtmdojlkmgllhnaaGreatDoorTie
import Derived.Stop.ErrReads
import Derived.Lib.SmallJoins
namespace Go.Proofs.YtmdojlkmgllhnaaGreatDoor
open Go Go.Sx Go.Proofs Go.ChangeShapes Go.WideShapes Go.RowKit
set_option maxRecDepth 100000
namespace parishNil
theorem flat_ints : ∀ (n : Nat) {vs : List Value}, flatOk (List.replicate n (some .i64)) vs → ∃ l : List Int, l.length = n ∧ vs = l.map (Value.int .i64)
  | 0, [], _ => ⟨[], rfl, rfl⟩
  | 0, _ :: _, h => by simp [flatOk] at h
  | n + 1, [], h => by simp [List.replicate, flatOk] at h
  | n + 1, v :: vs, h => by
    cases v with
    | int k x =>
      obtain ⟨rfl, h⟩ : k = .i64 ∧ flatOk (List.replicate n (some .i64)) vs := h
      obtain ⟨l, h1, h2⟩ := flat_ints n h
      exact ⟨x :: l, by simp [h1], by simp [h2]⟩
    | _ => simp [List.replicate, flatOk] at h
theorem own : ownKnob Tryz.prog.godebug = none := by kernel_rfl
theorem star : "*" ++ "errors.errorString" = "*errors.errorString" := by decide
theorem sentTy : SentTy Tryz.prog 31 254 318 9 where
  hi := ⟨_, Tryz.underlying31⟩
  row := fun u h => typeName_ptr_named (nm := "errors.errorString") (by rw [star]; kernel_rfl) (by kernel_rfl) (by decide) u (by rw [star]; exact h)
  hp := Tryz.underlying254
  he := ⟨_, Tryz.underlying318, rfl, rfl⟩
  hs := Tryz.underlying9
  hc := by kernel_rfl
  hcs := by kernel_rfl
theorem zero0 : ((begin Tryz.prog (fun _ _ => 0) default).world.heap[(2 : Nat)]?).bind Obj.row? = some (#[.nilIface], 31) := by kernel_rfl
theorem zero1 : ((begin Tryz.prog (fun _ _ => 0) default).world.heap[(0 : Nat)]?).bind Obj.row? = some (#[.nilIface], 31) := by kernel_rfl
theorem zero2 : ((begin Tryz.prog (fun _ _ => 0) default).world.heap[(1 : Nat)]?).bind Obj.row? = some (#[.nilIface], 31) := by kernel_rfl
theorem zero3 : ((begin Tryz.prog (fun _ _ => 0) default).world.heap[(3 : Nat)]?).bind Obj.row? = some (#[.nilIface], 31) := by kernel_rfl
theorem zero4 : ((begin Tryz.prog (fun _ _ => 0) default).world.heap[(6 : Nat)]?).bind Obj.row? = some (#[.nilIface], 31) := by kernel_rfl
theorem zero5 : ((begin Tryz.prog (fun _ _ => 0) default).world.heap[(7 : Nat)]?).bind Obj.row? = some (#[.nilIface], 31) := by kernel_rfl
theorem zero6 : ((begin Tryz.prog (fun _ _ => 0) default).world.heap[(5 : Nat)]?).bind Obj.row? = some (#[.nilIface], 31) := by kernel_rfl
theorem zero7 : ((begin Tryz.prog (fun _ _ => 0) default).world.heap[(4 : Nat)]?).bind Obj.row? = some (#[.nilIface], 31) := by kernel_rfl
theorem laid0 {W : World} (h : laidMetH Tryz.prog Rows.parishNilRow.laid W) (hS : W.ShapedOpen Tryz.prog) : ∃ a0 a1 a2 a3 a4 a5 a6 a7 : Addr, W.heap[(2 : Nat)]? = some (.cells #[.iface 254 (.pointer (some a0))] 31 (0, 0)) ∧ W.heap[(0 : Nat)]? = some (.cells #[.iface 254 (.pointer (some a1))] 31 (0, 0)) ∧ W.heap[(1 : Nat)]? = some (.cells #[.iface 254 (.pointer (some a2))] 31 (0, 0)) ∧ W.heap[(3 : Nat)]? = some (.cells #[.iface 254 (.pointer (some a3))] 31 (0, 0)) ∧ W.heap[(6 : Nat)]? = some (.cells #[.iface 254 (.pointer (some a4))] 31 (0, 0)) ∧ W.heap[(7 : Nat)]? = some (.cells #[.iface 254 (.pointer (some a5))] 31 (0, 0)) ∧ W.heap[(5 : Nat)]? = some (.cells #[.iface 254 (.pointer (some a6))] 31 (0, 0)) ∧ W.heap[(4 : Nat)]? = some (.cells #[.iface 254 (.pointer (some a7))] 31 (0, 0)) ∧ [a0, a1, a2, a3, a4, a5, a6, a7].Nodup := by
  obtain ⟨ps, hL, hnd, hr⟩ : laidMet Tryz.prog Rows.parishNilRow.laid W := h
  obtain ⟨ads, h1, h2, _, h4⟩ := sents_of_laid sentTy (l := [("sexton/api.ErrArg", [97, 110, 32, 97, 114, 103, 117, 109, 101, 110, 116, 32, 116, 104, 97, 116, 32, 99, 97, 110, 39, 116, 32, 98, 101]), ("sexton/api.ErrNil", [97, 32, 110, 105, 108, 32, 116, 104, 105, 110, 103]), ("sexton/api.ErrFull", [110, 111, 32, 114, 111, 111, 109]), ("sexton/api.ErrState", [110, 111, 116, 32, 110, 111, 119]), ("sexton/api.ErrFreed", [97, 32, 115, 108, 111, 116, 32, 116, 104, 97, 116, 32, 105, 115, 32, 102, 114, 101, 101]), ("sexton/api.ErrStale", [97, 32, 115, 108, 111, 116, 32, 116, 104, 97, 116, 32, 105, 115, 32, 97, 110, 111, 116, 104, 101, 114, 32, 111, 110, 101, 32, 110, 111, 119]), ("sexton/api.ErrTwice", [100, 111, 110, 101, 32, 97, 108, 114, 101, 97, 100, 121]), ("sexton/api.ErrLeft", [97, 32, 102, 114, 101, 101, 32, 115, 108, 111, 116, 32, 116, 104, 97, 116, 32, 99, 97, 110, 32, 98, 101, 32, 114, 101, 97, 99, 104, 101, 100])] ) (gs := [2, 0, 1, 3, 6, 7, 5, 4]) (by kernel_rfl) (fun g hg => by simp at hg; rcases hg with rfl | rfl | rfl | rfl | rfl | rfl | rfl | rfl <;> kernel_rfl) hL hnd hr
  obtain ⟨a0, a1, a2, a3, a4, a5, a6, a7, rfl⟩ : ∃ a0 a1 a2 a3 a4 a5 a6 a7, ads = [a0, a1, a2, a3, a4, a5, a6, a7] := by
    match ads, h1 with
    | [a0, a1, a2, a3, a4, a5, a6, a7], _ => exact ⟨a0, a1, a2, a3, a4, a5, a6, a7, rfl⟩
  have k0 : W.heap[(2 : Nat)]? = some (.cells #[.iface 254 (.pointer (some a0))] 31 (0, 0)) := by
    obtain ⟨t, ht⟩ := h4 0 2 a0 rfl rfl
    obtain ⟨cs, hcs, _⟩ := hS.1 2 _ _ (of_decide_eq_true (by kernel_rfl)) zero0
    rw [hcs] at ht
    simp only [Option.some.injEq, Obj.cells.injEq] at ht
    obtain ⟨rfl, rfl, _⟩ := ht
    exact hcs
  have k1 : W.heap[(0 : Nat)]? = some (.cells #[.iface 254 (.pointer (some a1))] 31 (0, 0)) := by
    obtain ⟨t, ht⟩ := h4 1 0 a1 rfl rfl
    obtain ⟨cs, hcs, _⟩ := hS.1 0 _ _ (of_decide_eq_true (by kernel_rfl)) zero1
    rw [hcs] at ht
    simp only [Option.some.injEq, Obj.cells.injEq] at ht
    obtain ⟨rfl, rfl, _⟩ := ht
    exact hcs
  have k2 : W.heap[(1 : Nat)]? = some (.cells #[.iface 254 (.pointer (some a2))] 31 (0, 0)) := by
    obtain ⟨t, ht⟩ := h4 2 1 a2 rfl rfl
    obtain ⟨cs, hcs, _⟩ := hS.1 1 _ _ (of_decide_eq_true (by kernel_rfl)) zero2
    rw [hcs] at ht
    simp only [Option.some.injEq, Obj.cells.injEq] at ht
    obtain ⟨rfl, rfl, _⟩ := ht
    exact hcs
  have k3 : W.heap[(3 : Nat)]? = some (.cells #[.iface 254 (.pointer (some a3))] 31 (0, 0)) := by
    obtain ⟨t, ht⟩ := h4 3 3 a3 rfl rfl
    obtain ⟨cs, hcs, _⟩ := hS.1 3 _ _ (of_decide_eq_true (by kernel_rfl)) zero3
    rw [hcs] at ht
    simp only [Option.some.injEq, Obj.cells.injEq] at ht
    obtain ⟨rfl, rfl, _⟩ := ht
    exact hcs
  have k4 : W.heap[(6 : Nat)]? = some (.cells #[.iface 254 (.pointer (some a4))] 31 (0, 0)) := by
    obtain ⟨t, ht⟩ := h4 4 6 a4 rfl rfl
    obtain ⟨cs, hcs, _⟩ := hS.1 6 _ _ (of_decide_eq_true (by kernel_rfl)) zero4
    rw [hcs] at ht
    simp only [Option.some.injEq, Obj.cells.injEq] at ht
    obtain ⟨rfl, rfl, _⟩ := ht
    exact hcs
  have k5 : W.heap[(7 : Nat)]? = some (.cells #[.iface 254 (.pointer (some a5))] 31 (0, 0)) := by
    obtain ⟨t, ht⟩ := h4 5 7 a5 rfl rfl
    obtain ⟨cs, hcs, _⟩ := hS.1 7 _ _ (of_decide_eq_true (by kernel_rfl)) zero5
    rw [hcs] at ht
    simp only [Option.some.injEq, Obj.cells.injEq] at ht
    obtain ⟨rfl, rfl, _⟩ := ht
    exact hcs
  have k6 : W.heap[(5 : Nat)]? = some (.cells #[.iface 254 (.pointer (some a6))] 31 (0, 0)) := by
    obtain ⟨t, ht⟩ := h4 6 5 a6 rfl rfl
    obtain ⟨cs, hcs, _⟩ := hS.1 5 _ _ (of_decide_eq_true (by kernel_rfl)) zero6
    rw [hcs] at ht
    simp only [Option.some.injEq, Obj.cells.injEq] at ht
    obtain ⟨rfl, rfl, _⟩ := ht
    exact hcs
  have k7 : W.heap[(4 : Nat)]? = some (.cells #[.iface 254 (.pointer (some a7))] 31 (0, 0)) := by
    obtain ⟨t, ht⟩ := h4 7 4 a7 rfl rfl
    obtain ⟨cs, hcs, _⟩ := hS.1 4 _ _ (of_decide_eq_true (by kernel_rfl)) zero7
    rw [hcs] at ht
    simp only [Option.some.injEq, Obj.cells.injEq] at ht
    obtain ⟨rfl, rfl, _⟩ := ht
    exact hcs
  exact ⟨a0, a1, a2, a3, a4, a5, a6, a7, k0, k1, k2, k3, k4, k5, k6, k7, h2⟩
theorem laidOut : laidOutB Tryz.prog = true := by kernel_rfl
theorem par : ∀ t ∈ Tryz.f3.params.toList, Tryz.prog.readableRec t = true ∧ t < Tryz.prog.types.size := by
  have : (Tryz.f3.params.toList.all fun t => Tryz.prog.readableRec t && decide (t < Tryz.prog.types.size)) = true := by kernel_rfl
  intro t ht
  have := List.all_eq_true.1 this t ht
  simpa using this
theorem contract (H : Type) (enc : TypeId × Value → H) (W : World) (base : Nat) (args : Array Value) (ds gs : List (DataW H)) (before : List MemPlace)
    (hval : ∀ (j : Nat) t v, Tryz.f3.params[j]? = some t → args[j]? = some v → Value.okWide Tryz.prog W .any base t v)
    (hW : DataW.Whole enc Tryz.prog Tryz.f3.params.toList Rows.parishNilSpec.vars false W args.toList ds gs before) (hL : laidMetH Tryz.prog Rows.parishNilRow.laid W) (hS : W.ShapedOpen Tryz.prog) :
    Calls Tryz.prog 3 args W fun e W' => ∃ v, e = .returned v ∧ Rows.parishNilSpec.post enc Tryz.prog Tryz.f3 false true false false W args v W' := by
  have hW' := hW
  obtain ⟨p, q, hA, hV, rfl, hfz, hnd⟩ := hW
  rw [show Tryz.f3.params = #[3, 23, 3] from Tryz.params3] at hA hval
  obtain ⟨v0, vs0, d0, ds0, p0, q0, hargs, rfl, rfl, h0, r0⟩ := trodAll_cons hA
  obtain ⟨v1, vs1, d1, ds1, p1, q1, rfl, rfl, rfl, h1, r1⟩ := trodAll_cons r0
  obtain ⟨v2, vs2, d2, ds2, p2, q2, rfl, rfl, rfl, h2, r2⟩ := trodAll_cons r1
  obtain ⟨rfl, rfl, rfl⟩ := trodAll_nil r2
  obtain rfl : args = #[v0, v1, v2] := by cases args; simp_all
  obtain ⟨x0, rfl, _, _, _⟩ := open_int Tryz.underlying3 (hval 0 3 v0 rfl rfl) h0
  obtain ⟨x1_0, x1_1, x1_2, x1_3, rfl⟩ : ∃ x1_0 x1_1 x1_2 x1_3 : Int, v1 = .agg #[.int .i64 x1_0, .int .i64 x1_1, .int .i64 x1_2, .int .i64 x1_3] := by
    have ok := hval 1 23 v1 rfl rfl
    simp only [Value.okWide, Tryz.underlying23] at ok
    obtain ⟨cs, rfl, hcs, _⟩ := ok
    obtain ⟨fu, hfu⟩ := h1
    have hf := trod_flat 12 _ _ [some .i64, some .i64, some .i64, some .i64] _ _ (by kernel_rfl) hfu (by kernel_rfl)
    obtain ⟨l, hl, hcl⟩ := flat_ints 4 hf
    obtain ⟨cl⟩ := cs
    simp only [Value.cells] at hcl
    subst hcl
    match l, hl with
    | [x1_0, x1_1, x1_2, x1_3], _ => exact ⟨x1_0, x1_1, x1_2, x1_3, rfl⟩
  obtain ⟨x2, rfl, _, _, _⟩ := open_int Tryz.underlying3 (hval 2 3 v2 rfl rfl) h2
  obtain ⟨a0, a1, a2, a3, a4, a5, a6, a7, g0, g1, g2, g3, g4, g5, g6, g7, hnd⟩ := laid0 hL hS
  refine (parishNil_calls x0 x1_0 x1_1 x1_2 x1_3 x2 (fun n => if n = 2 then a0 else if n = 0 then a1 else if n = 1 then a2 else if n = 3 then a3 else if n = 6 then a4 else if n = 7 then a5 else if n = 5 then a6 else if n = 4 then a7 else a0) W (fun n hn => ?_)).mono ?_
  · rcases (by omega : n = 2 ∨ n = 0 ∨ n = 1 ∨ n = 3 ∨ n = 6 ∨ n = 7 ∨ n = 5 ∨ n = 4) with rfl | rfl | rfl | rfl | rfl | rfl | rfl | rfl
    · exact g0
    · exact g1
    · exact g2
    · exact g3
    · exact g4
    · exact g5
    · exact g6
    · exact g7
  rintro e W' ⟨rfl, hq⟩
  exact ⟨_, rfl, post_of_quiet laidOut rfl par (by kernel_rfl) Tryz.underlying4 hW' rfl hq⟩
noncomputable def low : Nat := (World.holding Tryz.prog default ⟨#[], #[], []⟩).heap.size
/-- a world that holds the listed variables -/
noncomputable def laidWorld (os : Os) : World :=
  let w0 := World.holding Tryz.prog os ⟨#[.cells #[.string { data := #[97, 110, 32, 97, 114, 103, 117, 109, 101, 110, 116, 32, 116, 104, 97, 116, 32, 99, 97, 110, 39, 116, 32, 98, 101] }] 318, .cells #[.string { data := #[97, 32, 110, 105, 108, 32, 116, 104, 105, 110, 103] }] 318, .cells #[.string { data := #[110, 111, 32, 114, 111, 111, 109] }] 318, .cells #[.string { data := #[110, 111, 116, 32, 110, 111, 119] }] 318, .cells #[.string { data := #[97, 32, 115, 108, 111, 116, 32, 116, 104, 97, 116, 32, 105, 115, 32, 102, 114, 101, 101] }] 318, .cells #[.string { data := #[97, 32, 115, 108, 111, 116, 32, 116, 104, 97, 116, 32, 105, 115, 32, 97, 110, 111, 116, 104, 101, 114, 32, 111, 110, 101, 32, 110, 111, 119] }] 318, .cells #[.string { data := #[100, 111, 110, 101, 32, 97, 108, 114, 101, 97, 100, 121] }] 318, .cells #[.string { data := #[97, 32, 102, 114, 101, 101, 32, 115, 108, 111, 116, 32, 116, 104, 97, 116, 32, 99, 97, 110, 32, 98, 101, 32, 114, 101, 97, 99, 104, 101, 100] }] 318], #[], []⟩
  { w0 with heap := ((((((((((((((((w0.heap).modify 2 fun | .cells _ t frozen => .cells #[.iface 254 (.pointer (some ⟨low + 0, 0, none⟩))] t frozen | o => o)).modify 0 fun | .cells _ t frozen => .cells #[.iface 254 (.pointer (some ⟨low + 1, 0, none⟩))] t frozen | o => o)).modify 1 fun | .cells _ t frozen => .cells #[.iface 254 (.pointer (some ⟨low + 2, 0, none⟩))] t frozen | o => o)).modify 3 fun | .cells _ t frozen => .cells #[.iface 254 (.pointer (some ⟨low + 3, 0, none⟩))] t frozen | o => o)).modify 6 fun | .cells _ t frozen => .cells #[.iface 254 (.pointer (some ⟨low + 4, 0, none⟩))] t frozen | o => o)).modify 7 fun | .cells _ t frozen => .cells #[.iface 254 (.pointer (some ⟨low + 5, 0, none⟩))] t frozen | o => o)).modify 5 fun | .cells _ t frozen => .cells #[.iface 254 (.pointer (some ⟨low + 6, 0, none⟩))] t frozen | o => o)).modify 4 fun | .cells _ t frozen => .cells #[.iface 254 (.pointer (some ⟨low + 7, 0, none⟩))] t frozen | o => o) }
def args0 : Array Value := #[.int .i64 0, .agg #[.int .i64 0, .int .i64 0, .int .i64 0, .int .i64 0], .int .i64 0]
theorem laid_met (os : Os) : laidMet Tryz.prog Rows.parishNilRow.laid ((laidWorld os).forCall (fun _ _ => 0) ⟨#[], args0, []⟩).memory :=
  laidMet_of_run' 8 (by kernel_rfl) (by kernel_rfl)
theorem reads (os : Os) {H : Type} (enc : TypeId × Value → H) : ∃ places, DataW.whole enc Tryz.prog ((laidWorld os).forCall (fun _ _ => 0) ⟨#[], args0, []⟩).memory Tryz.f3.params.toList Rows.parishNilSpec.vars false args0.toList 8 = some ([.lit (.int .i64 0), .agg [.lit (.int .i64 0), .lit (.int .i64 0), .lit (.int .i64 0), .lit (.int .i64 0)], .lit (.int .i64 0)], [], places) :=
  ⟨[], by kernel_rfl⟩
set_option maxRecDepth 100000 in
theorem lifted (os : Os) (started : os.Started) (H : Type) (enc : TypeId × Value → H) (F : Stop.Interp) :
    ReturnsInHanded {} Tryz.checked os 3 .any ((OpenSpec.ofChange Rows.parishNilSpec).preRow enc Tryz.prog Tryz.f3 Rows.parishNilRow.domain false Rows.parishNilRow.laid) (((OpenSpec.ofChange Rows.parishNilSpec).at F).post enc Tryz.prog Tryz.f3 false true false false) := by
  obtain ⟨places, hx⟩ := reads os enc
  refine returnsInHanded_of_row (C := Tryz.checked) (s := OpenSpec.ofChange Rows.parishNilSpec) own started (by kernel_rfl) Tryz.func3
    (witness_row_at (enc := enc) (C := Tryz.checked) false (laidWorld os) args0 rfl (by kernel_rfl) (by kernel_rfl) (by kernel_rfl)
      (OpenSpec.preRow_of_cond 8 hx (by kernel_rfl) (fun k hk => by cases hk) (by kernel_rfl) (laid_met os))) ?_
  intro W base args ds gs before hval hW _ _ _ hL hS _
  exact contract H enc W base args ds gs before hval hW hL hS
theorem said : Rows.ParishNilSaid :=
  OpenClaim.holds_of_cond 3 Tryz.f3 rfl rfl rfl rfl rfl rfl rfl ⟨rfl, rfl, rfl, rfl, rfl⟩ rfl rfl rfl rfl rfl (by kernel_rfl) Tryz.func3 (by kernel_rfl)
    (of_decide_eq_true (by kernel_rfl)) (by unfold Func.isWrapper; first | (rw [if_pos (by decide +kernel)]; kernel_rfl) | (rw [if_neg (by decide +kernel)]; exact ⟨rfl, rfl⟩))
    (fun os started H enc _ F => by rw [OpenClaim.pre_eq_preRow]; exact lifted os started H enc F)
theorem plain (f : FuncId) (fn : Func) (hf : Tryz.pinned.checked.prog.funcNamed "sexton/sextonlaw14.ParishNil" = some f) (hfn : Tryz.pinned.checked.prog.funcs[f]? = some fn) :
    true = Tryz.pinned.checked.prog.looks [] ∧ ∀ (j : Nat) t, fn.params[j]? = some t → Tryz.pinned.checked.prog.wantsStandIn t = false := by
  obtain rfl : f = 3 := Option.some.inj ((show Tryz.prog.funcNamed "sexton/sextonlaw14.ParishNil" = some 3 by kernel_rfl).symm.trans hf) |>.symm
  obtain rfl : fn = Tryz.f3 := (Option.some.inj (Tryz.func3.symm.trans hfn)).symm
  refine ⟨by kernel_rfl, fun j t ht => ?_⟩
  have h := (show (Tryz.f3.params.toList.all fun t => Tryz.prog.wantsStandIn t == false) = true by kernel_rfl)
  have := List.all_eq_true.1 h t (Array.mem_toList_iff.2 (Array.mem_of_getElem? ht))
  exact (show Tryz.prog.wantsStandIn t = false by simpa using this)
theorem card : Rows.ParishNilCardSaid :=
  Claim7.holds_tied_plain_at .later [] _ _ _ _ said (fun _ h => by cases h) (by kernel_rfl) (fun _ h => by cases h) parishNil_row_tie rfl ⟨rfl, rfl⟩ (by kernel_rfl) rfl plain (by kernel_rfl)
#print axioms card
end parishNil
end Go.Proofs.YtmdojlkmgllhnaaGreatDoor
