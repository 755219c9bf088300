/- VaultTurns: for every input the law returns true (the row, and the card that ties its listed variables to the program's text); no condition. -/
import Derived.Test.YtambonphnojcpaaDoorVf
import Derived.Test.YtambonphnojcpaaDoorSxR
import Derived.Test.YtambonphnojcpaaDoorCards
import Derived.Test.YtambonphnojcpaaDoorTie
import Derived.Stop.ErrReads
import Derived.Lib.SmallJoins
namespace Go.Proofs.YtambonphnojcpaaDoor
open Go Go.Sx Go.Proofs Go.ChangeShapes Go.WideShapes Go.RowKit
set_option maxRecDepth 100000
namespace vaultTurns
theorem own : ownKnob Tryd.prog.godebug = none := by kernel_rfl
theorem star : "*" ++ "errors.errorString" = "*errors.errorString" := by decide
theorem sentTy : SentTy Tryd.prog 31 117 142 9 where
  hi := ⟨_, Tryd.underlying31⟩
  row := fun u h => typeName_ptr_named (nm := "errors.errorString") (by rw [star]; kernel_rfl) (by kernel_rfl) (by decide) u (by rw [star]; exact h)
  hp := Tryd.underlying117
  he := ⟨_, Tryd.underlying142, rfl, rfl⟩
  hs := Tryd.underlying9
  hc := by kernel_rfl
  hcs := by kernel_rfl
theorem zero0 : ((begin Tryd.prog (fun _ _ => 0) default).world.heap[(0 : Nat)]?).bind Obj.row? = some (#[.nilIface], 31) := by kernel_rfl
theorem laid0 {W : World} (h : laidMetH Tryd.prog Rows.vaultTurnsRow.laid W) (hS : W.ShapedOpen Tryd.prog) : ∃ a0 : Addr, W.heap[(0 : Nat)]? = some (.cells #[.iface 117 (.pointer (some a0))] 31 (0, 0)) ∧ [a0].Nodup := by
  obtain ⟨ps, hL, hnd, hr⟩ : laidMet Tryd.prog Rows.vaultTurnsRow.laid W := h
  obtain ⟨ads, h1, h2, _, h4⟩ := sents_of_laid sentTy (l := [("sexton/api.ErrArg", [97, 110, 32, 97, 114, 103, 117, 109, 101, 110, 116, 32, 116, 104, 97, 116, 32, 99, 97, 110, 39, 116, 32, 98, 101])] ) (gs := [0]) (by kernel_rfl) (fun g hg => by simp at hg; subst hg; kernel_rfl) hL hnd hr
  obtain ⟨a0, rfl⟩ : ∃ a0, ads = [a0] := by
    match ads, h1 with
    | [a0], _ => exact ⟨a0, rfl⟩
  have k0 : W.heap[(0 : Nat)]? = some (.cells #[.iface 117 (.pointer (some a0))] 31 (0, 0)) := by
    obtain ⟨t, ht⟩ := h4 0 0 a0 rfl rfl
    obtain ⟨cs, hcs, _⟩ := hS.1 0 _ _ (of_decide_eq_true (by kernel_rfl)) zero0
    rw [hcs] at ht
    simp only [Option.some.injEq, Obj.cells.injEq] at ht
    obtain ⟨rfl, rfl, _⟩ := ht
    exact hcs
  exact ⟨a0, k0, h2⟩
theorem laidOut : laidOutB Tryd.prog = true := by kernel_rfl
theorem par : ∀ t ∈ Tryd.f4.params.toList, Tryd.prog.readableRec t = true ∧ t < Tryd.prog.types.size := by
  have : (Tryd.f4.params.toList.all fun t => Tryd.prog.readableRec t && decide (t < Tryd.prog.types.size)) = true := by kernel_rfl
  intro t ht
  have := List.all_eq_true.1 this t ht
  simpa using this
theorem contract (H : Type) (enc : TypeId × Value → H) (W : World) (base : Nat) (args : Array Value) (ds gs : List (DataW H)) (before : List MemPlace)
    (hval : ∀ (j : Nat) t v, Tryd.f4.params[j]? = some t → args[j]? = some v → Value.okWide Tryd.prog W .any base t v)
    (hW : DataW.Whole enc Tryd.prog Tryd.f4.params.toList Rows.vaultTurnsSpec.vars false W args.toList ds gs before) (hL : laidMetH Tryd.prog Rows.vaultTurnsRow.laid W) (hS : W.ShapedOpen Tryd.prog) :
    Calls Tryd.prog 4 args W fun e W' => ∃ v, e = .returned v ∧ Rows.vaultTurnsSpec.post enc Tryd.prog Tryd.f4 false true false false W args v W' := by
  have hW' := hW
  obtain ⟨p, q, hA, hV, rfl, hfz, hnd⟩ := hW
  rw [show Tryd.f4.params = #[3, 3] from Tryd.params4] at hA hval
  obtain ⟨v0, vs0, d0, ds0, p0, q0, hargs, rfl, rfl, h0, r0⟩ := trodAll_cons hA
  obtain ⟨v1, vs1, d1, ds1, p1, q1, rfl, rfl, rfl, h1, r1⟩ := trodAll_cons r0
  obtain ⟨rfl, rfl, rfl⟩ := trodAll_nil r1
  obtain rfl : args = #[v0, v1] := by cases args; simp_all
  obtain ⟨x0, rfl, _, _, _⟩ := open_int Tryd.underlying3 (hval 0 3 v0 rfl rfl) h0
  obtain ⟨x1, rfl, _, _, _⟩ := open_int Tryd.underlying3 (hval 1 3 v1 rfl rfl) h1
  obtain ⟨a0, g0, hnd⟩ := laid0 hL hS
  refine (vaultTurns_calls x0 x1 a0 W g0).mono ?_
  rintro e W' ⟨rfl, hq⟩
  exact ⟨_, rfl, post_of_quiet laidOut rfl par (by kernel_rfl) Tryd.underlying4 hW' rfl hq⟩
noncomputable def low : Nat := (World.holding Tryd.prog default ⟨#[], #[], []⟩).heap.size
/-- a world that holds the listed variables -/
noncomputable def laidWorld (os : Os) : World :=
  let w0 := World.holding Tryd.prog os ⟨#[.cells #[.string { data := #[97, 110, 32, 97, 114, 103, 117, 109, 101, 110, 116, 32, 116, 104, 97, 116, 32, 99, 97, 110, 39, 116, 32, 98, 101] }] 142], #[], []⟩
  { w0 with heap := ((w0.heap).modify 0 fun | .cells _ t frozen => .cells #[.iface 117 (.pointer (some ⟨low + 0, 0, none⟩))] t frozen | o => o) }
def args0 : Array Value := #[.int .i64 0, .int .i64 0]
theorem laid_met (os : Os) : laidMet Tryd.prog Rows.vaultTurnsRow.laid ((laidWorld os).forCall (fun _ _ => 0) ⟨#[], args0, []⟩).memory :=
  laidMet_of_run' 8 (by kernel_rfl) (by kernel_rfl)
theorem reads (os : Os) {H : Type} (enc : TypeId × Value → H) : ∃ places, DataW.whole enc Tryd.prog ((laidWorld os).forCall (fun _ _ => 0) ⟨#[], args0, []⟩).memory Tryd.f4.params.toList Rows.vaultTurnsSpec.vars false args0.toList 8 = some ([.lit (.int .i64 0), .lit (.int .i64 0)], [], places) :=
  ⟨[], by kernel_rfl⟩
set_option maxRecDepth 100000 in
theorem lifted (os : Os) (started : os.Started) (H : Type) (enc : TypeId × Value → H) (F : Stop.Interp) :
    ReturnsInHanded {} Tryd.checked os 4 .any ((OpenSpec.ofChange Rows.vaultTurnsSpec).preRow enc Tryd.prog Tryd.f4 Rows.vaultTurnsRow.domain false Rows.vaultTurnsRow.laid) (((OpenSpec.ofChange Rows.vaultTurnsSpec).at F).post enc Tryd.prog Tryd.f4 false true false false) := by
  obtain ⟨places, hx⟩ := reads os enc
  refine returnsInHanded_of_row (C := Tryd.checked) (s := OpenSpec.ofChange Rows.vaultTurnsSpec) own started (by kernel_rfl) Tryd.func4
    (witness_row_at (enc := enc) (C := Tryd.checked) false (laidWorld os) args0 rfl (by kernel_rfl) (by kernel_rfl) (by kernel_rfl)
      (OpenSpec.preRow_of_cond 8 hx (by kernel_rfl) (fun k hk => by cases hk) (by kernel_rfl) (laid_met os))) ?_
  intro W base args ds gs before hval hW _ _ _ hL hS _
  exact contract H enc W base args ds gs before hval hW hL hS
theorem said : Rows.VaultTurnsSaid :=
  OpenClaim.holds_of_cond 4 Tryd.f4 rfl rfl rfl rfl rfl rfl rfl ⟨rfl, rfl, rfl, rfl, rfl⟩ rfl rfl rfl rfl rfl (by kernel_rfl) Tryd.func4 (by kernel_rfl)
    (of_decide_eq_true (by kernel_rfl)) (by unfold Func.isWrapper; first | (rw [if_pos (by decide +kernel)]; kernel_rfl) | (rw [if_neg (by decide +kernel)]; exact ⟨rfl, rfl⟩))
    (fun os started H enc _ F => by rw [OpenClaim.pre_eq_preRow]; exact lifted os started H enc F)
theorem plain (f : FuncId) (fn : Func) (hf : Tryd.pinned.checked.prog.funcNamed "sexton/sextonlaw10.VaultTurns" = some f) (hfn : Tryd.pinned.checked.prog.funcs[f]? = some fn) :
    true = Tryd.pinned.checked.prog.looks [] ∧ ∀ (j : Nat) t, fn.params[j]? = some t → Tryd.pinned.checked.prog.wantsStandIn t = false := by
  obtain rfl : f = 4 := Option.some.inj ((show Tryd.prog.funcNamed "sexton/sextonlaw10.VaultTurns" = some 4 by kernel_rfl).symm.trans hf) |>.symm
  obtain rfl : fn = Tryd.f4 := (Option.some.inj (Tryd.func4.symm.trans hfn)).symm
  refine ⟨by kernel_rfl, fun j t ht => ?_⟩
  have h := (show (Tryd.f4.params.toList.all fun t => Tryd.prog.wantsStandIn t == false) = true by kernel_rfl)
  have := List.all_eq_true.1 h t (Array.mem_toList_iff.2 (Array.mem_of_getElem? ht))
  exact (show Tryd.prog.wantsStandIn t = false by simpa using this)
theorem card : Rows.VaultTurnsCardSaid :=
  Claim7.holds_tied_plain_at .later [] _ _ _ _ said (fun _ h => by cases h) (by kernel_rfl) (fun _ h => by cases h) vaultTurns_row_tie rfl ⟨rfl, rfl⟩ (by kernel_rfl) rfl plain (by kernel_rfl)
#print axioms card
end vaultTurns
end Go.Proofs.YtambonphnojcpaaDoor
