/- LitanyExact: for every input the law returns true (the row, and the card that ties its listed variable to the program's text); no condition. -/
import Derived.Test.YtmaolegmdhnpeaaDoorLh
import Derived.Test.YtmaolegmdhnpeaaDoorSxW
import Derived.Test.YtmaolegmdhnpeaaDoorCards
import Derived.Test.YtmaolegmdhnpeaaDoorTie
import Derived.Stop.ErrReads
import Derived.Lib.SmallJoins
namespace Go.Proofs.YtmaolegmdhnpeaaDoor
open Go Go.Sx Go.Proofs Go.ChangeShapes Go.WideShapes Go.RowKit
namespace litanyExact
theorem own : ownKnob Tryd.prog.godebug = none := by kernel_rfl
theorem star : "*" ++ "errors.errorString" = "*errors.errorString" := by decide
theorem sentTy : SentTy Tryd.prog 44 94 112 9 where
  hi := ⟨_, Tryd.underlying44⟩
  row := fun u h => typeName_ptr_named (nm := "errors.errorString") (by rw [star]; kernel_rfl) (by kernel_rfl) (by decide) u (by rw [star]; exact h)
  hp := Tryd.underlying94
  he := ⟨_, Tryd.underlying112, rfl, rfl⟩
  hs := Tryd.underlying9
  hc := by kernel_rfl
  hcs := by kernel_rfl
theorem zero0 : ((begin Tryd.prog (fun _ _ => 0) default).world.heap[(0 : Nat)]?).bind Obj.row? = some (#[.nilIface], 44) := by kernel_rfl
theorem laid0 {W : World} (h : laidMetH Tryd.prog Rows.litanyExactRow.laid W) (hS : W.ShapedOpen Tryd.prog) : ∃ ad : Addr, W.heap[0]? = some (.cells #[.iface 94 (.pointer (some ad))] 44 (0, 0)) := by
  obtain ⟨ps, hL, hnd, hr⟩ : laidMet Tryd.prog Rows.litanyExactRow.laid W := h
  obtain ⟨ads, h1, _, _, h4⟩ := sents_of_laid sentTy (l := [("sexton/api.ErrArg", [97, 110, 32, 97, 114, 103, 117, 109, 101, 110, 116, 32, 116, 104, 97, 116, 32, 99, 97, 110, 39, 116, 32, 98, 101])]) (gs := [0]) (by kernel_rfl) (fun g hg => by simp at hg; subst hg; kernel_rfl) hL hnd hr
  obtain ⟨a, rfl⟩ : ∃ a, ads = [a] := by
    match ads, h1 with
    | [a], _ => exact ⟨a, rfl⟩
  obtain ⟨t, ht⟩ := h4 0 0 a rfl rfl
  obtain ⟨cs, hcs, _⟩ := hS.1 0 _ _ (of_decide_eq_true (by kernel_rfl)) zero0
  rw [hcs] at ht
  simp only [Option.some.injEq, Obj.cells.injEq] at ht
  obtain ⟨rfl, rfl, _⟩ := ht
  exact ⟨a, hcs⟩
theorem laidOut : laidOutB Tryd.prog = true := by kernel_rfl
theorem par3 : ∀ t ∈ Tryd.f3.params.toList, Tryd.prog.readableRec t = true ∧ t < Tryd.prog.types.size := by
  have : (Tryd.f3.params.toList.all fun t => Tryd.prog.readableRec t && decide (t < Tryd.prog.types.size)) = true := by kernel_rfl
  intro t ht
  have := List.all_eq_true.1 this t ht
  simpa using this
theorem rp_of_flat {vs : List Value} (h : flatOk [some .i64, some .i64, some .i64, some .i64, none, none] vs) : ∃ x : Rp, vs = denL Nm.id x.cells := by
  have hl := flatOk_len h
  match vs, hl, h with
  | [a, b, c, d, e, f], hl', h =>
    clear hl'
    cases a <;> simp [flatOk] at h
    rename_i ka na
    cases b <;> simp [flatOk] at h
    rename_i kb nb
    cases c <;> simp [flatOk] at h
    rename_i kc nc
    cases d <;> simp [flatOk] at h
    rename_i kd nd
    cases e <;> simp [flatOk] at h
    rename_i be
    cases f <;> simp [flatOk] at h
    rename_i bf
    obtain ⟨rfl, rfl, rfl, rfl⟩ := h
    exact ⟨⟨⟨na, nb, nc, nd, be⟩, bf⟩, rfl⟩
theorem nthR_map (f : Nat → Rp) : ∀ (n k i : Nat), i < n → nthR ((List.range' k n).map f) i = f (k + i)
  | 0, _, _, h => by omega
  | n + 1, k, 0, _ => by simp [List.range'_succ, nthR]
  | n + 1, k, i + 1, h => by
    simp only [List.range'_succ, List.map_cons, nthR]
    rw [nthR_map f n (k + 1) i (by omega)]
    congr 1
    omega
theorem mapM_cell {w : World} {a : Addr} : ∀ {n k : Nat} {vs : List Value}, ((List.range' k n).mapM fun i => w.cell? (a.add i)) = some vs → ∀ j v, vs[j]? = some v → w.cell? (a.add (k + j)) = some v
  | 0, _, vs, h, j, v, hv => by simp at h; subst h; simp at hv
  | n + 1, k, vs, h, j, v, hv => by
    simp only [List.range'_succ, List.mapM_cons, Option.bind_eq_bind, Option.bind_eq_some_iff, Option.pure_def, Option.some.injEq] at h
    obtain ⟨u, hu, r, hr, rfl⟩ := h
    cases j with
    | zero => simp only [List.getElem?_cons_zero, Option.some.injEq] at hv; subst hv; exact hu
    | succ j =>
      simp only [List.getElem?_cons_succ] at hv
      have := mapM_cell hr j v hv
      rwa [show k + 1 + j = k + (j + 1) by omega] at this
theorem contract (H : Type) (enc : TypeId × Value → H) (W : World) (base : Nat) (args : Array Value) (ds gs : List (DataW H)) (before : List MemPlace)
    (hval : ∀ (j : Nat) t v, Tryd.f3.params[j]? = some t → args[j]? = some v → Value.okWide Tryd.prog W .any base t v)
    (hW : DataW.Whole enc Tryd.prog Tryd.f3.params.toList Rows.litanyExactSpec.vars false W args.toList ds gs before) (hL : laidMetH Tryd.prog Rows.litanyExactRow.laid W) (hS : W.ShapedOpen Tryd.prog) :
    Calls Tryd.prog 3 args W fun e W' => ∃ v, e = .returned v ∧ Rows.litanyExactSpec.post enc Tryd.prog Tryd.f3 false true false false W args v W' := by
  have hW' := hW
  obtain ⟨p, q, hA, hV, rfl, hfz, hnd⟩ := hW
  rw [show Tryd.f3.params = #[23, 24, 25] from Tryd.params3] at hA hval
  obtain ⟨v0, vs0, d0, ds0, p0, q0, hargs, rfl, rfl, h0, r0⟩ := trodAll_cons hA
  obtain ⟨v1, vs1, d1, ds1, p1, q1, rfl, rfl, rfl, h1, r1⟩ := trodAll_cons r0
  obtain ⟨v2, vs2, d2, ds2, p2, q2, rfl, rfl, rfl, h2, r2⟩ := trodAll_cons r1
  obtain ⟨rfl, rfl, rfl⟩ := trodAll_nil r2
  obtain rfl : args = #[v0, v1, v2] := by cases args; simp_all
  obtain ⟨x0, x1, x2, x3, y0, y1, y2, y3, n, rfl, _, _, t0, t1, t2, t3⟩ := Joins.open_agg4 Tryd.underlying23 (by kernel_rfl) (by kernel_rfl) (hval 0 23 v0 rfl rfl) h0
  obtain ⟨k, e0, _⟩ := DataW.trod_int Tryd.underlying3 t0
  obtain ⟨key, e1, _⟩ := DataW.trod_int Tryd.underlying3 t1
  obtain ⟨val, e2, _⟩ := DataW.trod_int Tryd.underlying3 t2
  obtain ⟨tall, e3, _⟩ := DataW.trod_int Tryd.underlying3 t3
  simp only [List.cons.injEq, and_true] at e0 e1 e2 e3
  subst e0 e1 e2 e3
  -- the two numbers
  obtain ⟨a, b, rfl⟩ : ∃ a b : Int, v1 = .agg #[.int .i64 a, .int .i64 b] := by
    have ok1 := hval 1 24 v1 rfl rfl
    simp only [Value.okWide, Tryd.underlying24] at ok1
    obtain ⟨cs, rfl, hcs, _⟩ := ok1
    obtain ⟨fu, hfu⟩ := h1
    obtain ⟨xs, m, _, _, hl, hxl, hx⟩ := DataW.trod_array Tryd.underlying24 hfu
    have c1 : Tryd.prog.cellsOf 3 = 1 := by kernel_rfl
    have c2 : Tryd.prog.cellsOf 24 = 2 := by kernel_rfl
    rw [c2] at hl
    have g0 := hx 0 (by omega)
    have g1 := hx 1 (by omega)
    rw [c1] at g0 g1
    obtain ⟨cl⟩ := cs
    simp only [Value.cells] at hl g0 g1
    match cl, hl with
    | [u0, u1], _ =>
      match xs, hxl with
      | [z0, z1], _ =>
        simp only [Nat.zero_mul, List.drop_zero, List.take_succ_cons, List.take_zero, List.getElem?_cons_zero, Nat.one_mul, List.drop_succ_cons, List.getElem?_cons_succ] at g0 g1
        obtain ⟨a, ea, _⟩ := DataW.trod_int Tryd.underlying3 g0
        obtain ⟨b, eb, _⟩ := DataW.trod_int Tryd.underlying3 g1
        simp only [List.cons.injEq, and_true] at ea eb
        subst ea eb
        exact ⟨a, b, rfl⟩
  obtain ⟨ad, hg⟩ := laid0 hL hS
  have fin : Calls Tryd.prog 3 #[.agg #[.int .i64 k, .int .i64 key, .int .i64 val, .int .i64 tall], .agg #[.int .i64 a, .int .i64 b], v2] W fun e W' => e = .returned (.bool true) ∧ Quiet W W' := by
    obtain ⟨s0, len, cap, rfl⟩ := okWide_slice Tryd.underlying25 (hval 2 25 v2 rfl rfl)
    obtain ⟨fu, hfu⟩ := h2
    by_cases hz : len = 0
    · subst hz
      exact law_calls0 k key val tall a b ad W s0 cap hg
    · rcases Deep.open_slice Tryd.underlying25 hfu with ⟨h, _⟩ | ⟨a', len', cap', m, nn, D, Pl, hcs, hb, hle, hcap, hm, _, hx⟩
      · simp [Value.cells] at h
        exact absurd h.2.1 hz
      · simp only [Value.cells, List.cons.injEq, Value.slice.injEq, and_true] at hcs
        obtain ⟨rfl, rfl, rfl⟩ := hcs
        simp only [if_true] at hm
        have c6 : Tryd.prog.cellsOf 42 = 6 := by kernel_rfl
        have hel : ∀ i, i < len → ∃ x : Rp, ∀ (j : Nat) c, x.cells[j]? = some c → W.cell? ((a'.add (i * 6)).add j) = some (c.den Nm.id) := by
          intro i hi
          obtain ⟨cs', hc1, hc2⟩ := hx i (by omega)
          rw [c6] at hc1
          have hf := trod_flat 12 _ _ [some .i64, some .i64, some .i64, some .i64, none, none] _ _ (by kernel_rfl) hc2 (by kernel_rfl)
          obtain ⟨x, rfl⟩ := rp_of_flat hf
          refine ⟨x, fun j c hc => ?_⟩
          unfold World.cells? at hc1
          rw [if_pos (Nat.zero_le _), List.range_eq_range'] at hc1
          have := mapM_cell hc1 j (c.den Nm.id) (by simp [denL, hc])
          rwa [Nat.zero_add] at this
        obtain ⟨f, hf⟩ : ∃ f : Nat → Rp, ∀ i, i < len → ∀ (j : Nat) c, (f i).cells[j]? = some c → W.cell? ((a'.add (i * 6)).add j) = some (c.den Nm.id) := by
          refine ⟨fun i => if h : i < len then Classical.choose (hel i h) else Rp.zero, fun i hi => ?_⟩
          simp only [dif_pos hi]
          exact Classical.choose_spec (hel i hi)
        have hspot : a'.spot = none := by
          have := hf 0 (by omega) 0 (I (f 0).w.slot) rfl
          simp only [Nat.zero_mul, Addr.add, if_true] at this
          unfold World.cell? at this
          split at this
          · split at this
            · cases this
            · rename_i hs
              cases hsp : a'.spot with
              | none => rfl
              | some z => rw [hsp] at hs; simp at hs
          · cases this
        obtain ⟨ab, ao, asp⟩ := a'
        simp only at hspot
        subst hspot
        have hadd : ∀ m j, ((⟨ab, ao, none⟩ : Addr).add m).add j = ⟨ab, ao + m + j, none⟩ := by
          intro m j
          unfold Addr.add
          by_cases hm : m = 0 <;> by_cases hj : j = 0 <;> simp [hm, hj]
        have hlen : ((List.range' 0 len).map f).length = len := by simp
        have := law_calls1 k key val tall a b ((List.range' 0 len).map f) (by rw [hlen]; omega) ad W ab ao cap hg (by
          rintro rfl
          have := hf 0 (by omega) 0 (I (f 0).w.slot) rfl
          rw [hadd] at this
          simp only [World.cell?, hg] at this
          simp only [Option.isSome_none, Bool.false_eq_true, if_false] at this
          cases hh : (ao + 0 * 6 + 0) with
          | zero => rw [hh] at this; simp [Cell.den] at this
          | succ z => rw [hh] at this; simp at this) (fun i hi j c hc => by
          rw [hlen] at hi
          rw [nthR_map f len 0 i hi, Nat.zero_add] at hc
          have := hf i hi j c hc
          rwa [hadd] at this)
        rwa [hlen] at this
  refine fin.mono ?_
  rintro e W' ⟨rfl, hq⟩
  exact ⟨_, rfl, post_of_quiet laidOut rfl par3 (by kernel_rfl) Tryd.underlying4 hW' rfl hq⟩

abbrev errS : ByteArray := { data := #[97, 110, 32, 97, 114, 103, 117, 109, 101, 110, 116, 32, 116, 104, 97, 116, 32, 99, 97, 110, 39, 116, 32, 98, 101] }
noncomputable def low : Nat := (World.holding Tryd.prog default ⟨#[], #[], []⟩).heap.size
/-- a world that holds the listed variable -/
noncomputable def laidWorld (os : Os) : World :=
  let w0 := World.holding Tryd.prog os ⟨#[.cells #[.string errS] 112], #[], []⟩
  { w0 with heap := w0.heap.modify 0 fun
      | .cells _ t frozen => .cells #[.iface 94 (.pointer (some ⟨low, 0, none⟩))] t frozen
      | o => o }
def args0 : Array Value := #[.agg #[.int .i64 0, .int .i64 0, .int .i64 0, .int .i64 0], .agg #[.int .i64 0, .int .i64 0], .slice none 0 0]
theorem laid_met (os : Os) : laidMet Tryd.prog Rows.litanyExactRow.laid ((laidWorld os).forCall (fun _ _ => 0) ⟨#[], args0, []⟩).memory :=
  laidMet_of_run' 8 (by kernel_rfl) (by kernel_rfl)
def i0 {H : Type} : DataW H := .lit (.int .i64 0)
theorem reads (os : Os) {H : Type} (enc : TypeId × Value → H) : ∃ places, DataW.whole enc Tryd.prog ((laidWorld os).forCall (fun _ _ => 0) ⟨#[], args0, []⟩).memory Tryd.f3.params.toList Rows.litanyExactSpec.vars false args0.toList 8 = some ([.agg [i0, i0, i0, i0], .agg [i0, i0], .nil], [], places) :=
  ⟨[], by kernel_rfl⟩
set_option maxRecDepth 100000 in
theorem lifted (os : Os) (started : os.Started) (H : Type) (enc : TypeId × Value → H) (F : Stop.Interp) :
    ReturnsInHanded {} Tryd.checked os 3 .any ((OpenSpec.ofChange Rows.litanyExactSpec).preRow enc Tryd.prog Tryd.f3 Rows.litanyExactRow.domain false Rows.litanyExactRow.laid) (((OpenSpec.ofChange Rows.litanyExactSpec).at F).post enc Tryd.prog Tryd.f3 false true false false) := by
  obtain ⟨places, hx⟩ := reads os enc
  refine returnsInHanded_of_row (C := Tryd.checked) (s := OpenSpec.ofChange Rows.litanyExactSpec) own started (by kernel_rfl) Tryd.func3
    (witness_row_at (enc := enc) (C := Tryd.checked) false (laidWorld os) args0 rfl (by kernel_rfl) (by kernel_rfl) (by kernel_rfl)
      (OpenSpec.preRow_of_cond 8 hx (by kernel_rfl) (fun k hk => by cases hk) (by kernel_rfl) (laid_met os))) ?_
  intro W base args ds gs before hval hW _ _ _ hL hS _
  exact contract H enc W base args ds gs before hval hW hL hS
theorem said : Rows.LitanyExactSaid :=
  OpenClaim.holds_of_cond 3 Tryd.f3 rfl rfl rfl rfl rfl rfl rfl ⟨rfl, rfl, rfl, rfl, rfl⟩ rfl rfl rfl rfl rfl (by kernel_rfl) Tryd.func3 (by kernel_rfl)
    (of_decide_eq_true (by kernel_rfl)) (by unfold Func.isWrapper; first | (rw [if_pos (by decide +kernel)]; kernel_rfl) | (rw [if_neg (by decide +kernel)]; exact ⟨rfl, rfl⟩))
    (fun os started H enc _ F => by rw [OpenClaim.pre_eq_preRow]; exact lifted os started H enc F)
theorem plain (f : FuncId) (fn : Func) (hf : Tryd.pinned.checked.prog.funcNamed "sexton/sextonlaw09.LitanyExact" = some f) (hfn : Tryd.pinned.checked.prog.funcs[f]? = some fn) :
    false = Tryd.pinned.checked.prog.looks [] ∧ ∀ (j : Nat) t, fn.params[j]? = some t → Tryd.pinned.checked.prog.wantsStandIn t = false := by
  obtain rfl : f = 3 := Option.some.inj ((show Tryd.prog.funcNamed "sexton/sextonlaw09.LitanyExact" = some 3 by kernel_rfl).symm.trans hf) |>.symm
  obtain rfl : fn = Tryd.f3 := (Option.some.inj (Tryd.func3.symm.trans hfn)).symm
  refine ⟨by kernel_rfl, fun j t ht => ?_⟩
  have h := (show (Tryd.f3.params.toList.all fun t => Tryd.prog.wantsStandIn t == false) = true by kernel_rfl)
  have := List.all_eq_true.1 h t (Array.mem_toList_iff.2 (Array.mem_of_getElem? ht))
  exact (show Tryd.prog.wantsStandIn t = false by simpa using this)
theorem card : Rows.LitanyExactCardSaid :=
  Claim7.holds_tied_plain_at .later [] _ _ _ _ said (fun _ h => by cases h) (by kernel_rfl) (fun _ h => by cases h) litanyExact_row_tie rfl ⟨rfl, rfl⟩ (by kernel_rfl) rfl plain (by kernel_rfl)
#print axioms card
end litanyExact
end Go.Proofs.YtmaolegmdhnpeaaDoor
