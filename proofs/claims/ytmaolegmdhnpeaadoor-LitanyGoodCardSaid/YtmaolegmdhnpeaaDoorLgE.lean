/- LitanyGood: for every input the law returns true (the row, and the card that ties its listed variable to the program's text); no condition. -/
import Derived.Test.YtmaolegmdhnpeaaDoorLgD
import Derived.Test.YtmaolegmdhnpeaaDoorSxR
import Derived.Test.YtmaolegmdhnpeaaDoorCards
import Derived.Test.YtmaolegmdhnpeaaDoorTie
import Derived.Stop.ErrReads
import Derived.Lib.SmallJoins
namespace Go.Proofs.YtmaolegmdhnpeaaDoor
open Go Go.Sx Go.Proofs Go.ChangeShapes Go.WideShapes Go.RowKit
theorem own : ownKnob Tryd.prog.godebug = none := by kernel_rfl
theorem star : "*" ++ "errors.errorString" = "*errors.errorString" := by decide
theorem sentTy : SentTy Tryd.prog 44 94 112 9 where
  hi := ⟨_, Tryd.underlying44⟩
  row := fun u h => typeName_ptr_named (nm := "errors.errorString") (by rw [star]; kernel_rfl) (by kernel_rfl) (by decide) u (by rw [star]; exact h)
  hp := Tryd.underlying94
  he := ⟨_, Tryd.underlying112, rfl, rfl⟩
  hs := Tryd.underlying9
  hc := by kernel_rfl
  hcs := by kernel_rfl
theorem zero0 : ((begin Tryd.prog (fun _ _ => 0) default).world.heap[(0 : Nat)]?).bind Obj.row? = some (#[.nilIface], 44) := by kernel_rfl
theorem laid0 {W : World} (h : laidMetH Tryd.prog Rows.litanyGoodRow.laid W) (hS : W.ShapedOpen Tryd.prog) : ∃ ad : Addr, W.heap[0]? = some (.cells #[.iface 94 (.pointer (some ad))] 44 (0, 0)) := by
  obtain ⟨ps, hL, hnd, hr⟩ : laidMet Tryd.prog Rows.litanyGoodRow.laid W := h
  obtain ⟨ads, h1, _, _, h4⟩ := sents_of_laid sentTy (l := [("sexton/api.ErrArg", [97, 110, 32, 97, 114, 103, 117, 109, 101, 110, 116, 32, 116, 104, 97, 116, 32, 99, 97, 110, 39, 116, 32, 98, 101])]) (gs := [0]) (by kernel_rfl) (fun g hg => by simp at hg; subst hg; kernel_rfl) hL hnd hr
  obtain ⟨a, rfl⟩ : ∃ a, ads = [a] := by
    match ads, h1 with
    | [a], _ => exact ⟨a, rfl⟩
  obtain ⟨t, ht⟩ := h4 0 0 a rfl rfl
  obtain ⟨cs, hcs, _⟩ := hS.1 0 _ _ (of_decide_eq_true (by kernel_rfl)) zero0
  rw [hcs] at ht
  simp only [Option.some.injEq, Obj.cells.injEq] at ht
  obtain ⟨rfl, rfl, _⟩ := ht
  exact ⟨a, hcs⟩
theorem laidOut : laidOutB Tryd.prog = true := by kernel_rfl
theorem par4 : ∀ t ∈ Tryd.f4.params.toList, Tryd.prog.readableRec t = true ∧ t < Tryd.prog.types.size := by
  have : (Tryd.f4.params.toList.all fun t => Tryd.prog.readableRec t && decide (t < Tryd.prog.types.size)) = true := by kernel_rfl
  intro t ht
  have := List.all_eq_true.1 this t ht
  simpa using this
theorem contract (H : Type) (enc : TypeId × Value → H) (W : World) (base : Nat) (args : Array Value) (ds gs : List (DataW H)) (before : List MemPlace)
    (hval : ∀ (j : Nat) t v, Tryd.f4.params[j]? = some t → args[j]? = some v → Value.okWide Tryd.prog W .any base t v)
    (hW : DataW.Whole enc Tryd.prog Tryd.f4.params.toList Rows.litanyGoodSpec.vars false W args.toList ds gs before) (hL : laidMetH Tryd.prog Rows.litanyGoodRow.laid W) (hS : W.ShapedOpen Tryd.prog) :
    Calls Tryd.prog 4 args W fun e W' => ∃ v, e = .returned v ∧ Rows.litanyGoodSpec.post enc Tryd.prog Tryd.f4 false true false false W args v W' := by
  have hW' := hW
  obtain ⟨p, q, hA, hV, rfl, hfz, hnd⟩ := hW
  rw [show Tryd.f4.params = #[23, 29, 3] from Tryd.params4] at hA hval
  obtain ⟨v0, vs0, d0, ds0, p0, q0, hargs, rfl, rfl, h0, r0⟩ := trodAll_cons hA
  obtain ⟨v1, vs1, d1, ds1, p1, q1, rfl, rfl, rfl, h1, r1⟩ := trodAll_cons r0
  obtain ⟨v2, vs2, d2, ds2, p2, q2, rfl, rfl, rfl, h2, r2⟩ := trodAll_cons r1
  obtain ⟨rfl, rfl, rfl⟩ := trodAll_nil r2
  obtain rfl : args = #[v0, v1, v2] := by cases args; simp_all
  obtain ⟨x0, x1, x2, x3, y0, y1, y2, y3, n, rfl, _, _, t0, t1, t2, t3⟩ := Joins.open_agg4 Tryd.underlying23 (by kernel_rfl) (by kernel_rfl) (hval 0 23 v0 rfl rfl) h0
  obtain ⟨x4, x5, x6, y4, y5, y6, n', rfl, _, _, t4, t5, t6⟩ := Joins.open_agg3 Tryd.underlying29 (by kernel_rfl) (by kernel_rfl) (hval 1 29 v1 rfl rfl) h1
  obtain ⟨k, e0, _⟩ := DataW.trod_int Tryd.underlying3 t0
  obtain ⟨key, e1, _⟩ := DataW.trod_int Tryd.underlying3 t1
  obtain ⟨val, e2, _⟩ := DataW.trod_int Tryd.underlying3 t2
  obtain ⟨tall, e3, _⟩ := DataW.trod_int Tryd.underlying3 t3
  obtain ⟨a, e4, _⟩ := DataW.trod_int Tryd.underlying3 t4
  obtain ⟨b, e5, _⟩ := DataW.trod_int Tryd.underlying3 t5
  obtain ⟨c, e6, _⟩ := DataW.trod_int Tryd.underlying3 t6
  simp only [List.cons.injEq, and_true] at e0 e1 e2 e3 e4 e5 e6
  subst e0 e1 e2 e3 e4 e5 e6
  obtain ⟨kk, rfl, _, _, _⟩ := open_int Tryd.underlying3 (hval 2 3 v2 rfl rfl) h2
  obtain ⟨ad, hg⟩ := laid0 hL hS
  refine (law_calls k key val tall a b c kk ad W hg).mono ?_
  rintro e W' ⟨rfl, hq⟩
  exact ⟨_, rfl, post_of_quiet laidOut rfl par4 (by kernel_rfl) Tryd.underlying4 hW' rfl hq⟩

abbrev errS : ByteArray := { data := #[97, 110, 32, 97, 114, 103, 117, 109, 101, 110, 116, 32, 116, 104, 97, 116, 32, 99, 97, 110, 39, 116, 32, 98, 101] }
noncomputable def low : Nat := (World.holding Tryd.prog default ⟨#[], #[], []⟩).heap.size
/-- a world that holds the listed variable -/
noncomputable def laidWorld (os : Os) : World :=
  let w0 := World.holding Tryd.prog os ⟨#[.cells #[.string errS] 112], #[], []⟩
  { w0 with heap := w0.heap.modify 0 fun
      | .cells _ t frozen => .cells #[.iface 94 (.pointer (some ⟨low, 0, none⟩))] t frozen
      | o => o }
def args0 : Array Value := #[.agg #[.int .i64 0, .int .i64 0, .int .i64 0, .int .i64 0], .agg #[.int .i64 0, .int .i64 0, .int .i64 0], .int .i64 0]
theorem laid_met (os : Os) : laidMet Tryd.prog Rows.litanyGoodRow.laid ((laidWorld os).forCall (fun _ _ => 0) ⟨#[], args0, []⟩).memory :=
  laidMet_of_run' 8 (by kernel_rfl) (by kernel_rfl)
def i0 {H : Type} : DataW H := .lit (.int .i64 0)
theorem reads (os : Os) {H : Type} (enc : TypeId × Value → H) : ∃ places, DataW.whole enc Tryd.prog ((laidWorld os).forCall (fun _ _ => 0) ⟨#[], args0, []⟩).memory Tryd.f4.params.toList Rows.litanyGoodSpec.vars false args0.toList 8 = some ([.agg [i0, i0, i0, i0], .agg [i0, i0, i0], i0], [], places) :=
  ⟨[], by kernel_rfl⟩
set_option maxRecDepth 100000 in
theorem lifted (os : Os) (started : os.Started) (H : Type) (enc : TypeId × Value → H) (F : Stop.Interp) :
    ReturnsInHanded {} Tryd.checked os 4 .any ((OpenSpec.ofChange Rows.litanyGoodSpec).preRow enc Tryd.prog Tryd.f4 Rows.litanyGoodRow.domain false Rows.litanyGoodRow.laid) (((OpenSpec.ofChange Rows.litanyGoodSpec).at F).post enc Tryd.prog Tryd.f4 false true false false) := by
  obtain ⟨places, hx⟩ := reads os enc
  refine returnsInHanded_of_row (C := Tryd.checked) (s := OpenSpec.ofChange Rows.litanyGoodSpec) own started (by kernel_rfl) Tryd.func4
    (witness_row_at (enc := enc) (C := Tryd.checked) false (laidWorld os) args0 rfl (by kernel_rfl) (by kernel_rfl) (by kernel_rfl)
      (OpenSpec.preRow_of_cond 8 hx (by kernel_rfl) (fun k hk => by cases hk) (by kernel_rfl) (laid_met os))) ?_
  intro W base args ds gs before hval hW _ _ _ hL hS _
  exact contract H enc W base args ds gs before hval hW hL hS
theorem said : Rows.LitanyGoodSaid :=
  OpenClaim.holds_of_cond 4 Tryd.f4 rfl rfl rfl rfl rfl rfl rfl ⟨rfl, rfl, rfl, rfl, rfl⟩ rfl rfl rfl rfl rfl (by kernel_rfl) Tryd.func4 (by kernel_rfl)
    (of_decide_eq_true (by kernel_rfl)) (by unfold Func.isWrapper; first | (rw [if_pos (by decide +kernel)]; kernel_rfl) | (rw [if_neg (by decide +kernel)]; exact ⟨rfl, rfl⟩))
    (fun os started H enc _ F => by rw [OpenClaim.pre_eq_preRow]; exact lifted os started H enc F)
theorem plain (f : FuncId) (fn : Func) (hf : Tryd.pinned.checked.prog.funcNamed "sexton/sextonlaw09.LitanyGood" = some f) (hfn : Tryd.pinned.checked.prog.funcs[f]? = some fn) :
    false = Tryd.pinned.checked.prog.looks [] ∧ ∀ (j : Nat) t, fn.params[j]? = some t → Tryd.pinned.checked.prog.wantsStandIn t = false := by
  obtain rfl : f = 4 := Option.some.inj ((show Tryd.prog.funcNamed "sexton/sextonlaw09.LitanyGood" = some 4 by kernel_rfl).symm.trans hf) |>.symm
  obtain rfl : fn = Tryd.f4 := (Option.some.inj (Tryd.func4.symm.trans hfn)).symm
  refine ⟨by kernel_rfl, fun j t ht => ?_⟩
  have h := (show (Tryd.f4.params.toList.all fun t => Tryd.prog.wantsStandIn t == false) = true by kernel_rfl)
  have := List.all_eq_true.1 h t (Array.mem_toList_iff.2 (Array.mem_of_getElem? ht))
  exact (show Tryd.prog.wantsStandIn t = false by simpa using this)
theorem card : Rows.LitanyGoodCardSaid :=
  Claim7.holds_tied_plain_at .later [] _ _ _ _ said (fun _ h => by cases h) (by kernel_rfl) (fun _ h => by cases h) litanyGood_row_tie rfl ⟨rfl, rfl⟩ (by kernel_rfl) rfl plain (by kernel_rfl)
#print axioms card
end Go.Proofs.YtmaolegmdhnpeaaDoor
