import Derived.Test.YtpapbhbnaalhcaaDoorKx
import Derived.Test.YtpapbhbnaalhcaaDoorKq
namespace Go.Proofs.YtpapbhbnaalhcaaDoor
open Go Go.Sx Go.Proofs
set_option linter.unusedVariables false
set_option maxRecDepth 100000
theorem fit_push {v : Int} (h : 0 <= v /\ v < 256) : fitsM 1 ⟨1, 0, v, 0⟩ = true := by
 have h1 : decide (0 <= v) = true := decide_eq_true h.1
 have h2 : decide (v <= 1073741824) = true := decide_eq_true (by omega)
 unfold fitsM
 rw [if_pos rfl]
 simp [fits1_T, boolOf, T.val, boolC, h1, h2, h.1, show v <= 1073741824 by omega]
theorem fit_enq {v : Int} (h : 0 <= v /\ v < 256) : fitsM 2 ⟨4, 0, v, 0⟩ = true := by
 unfold fitsM
 rw [if_neg (by decide), if_pos rfl]
 simp [fits2_T, boolOf, T.val, boolC, h.1, show v <= 1073741824 by omega]
theorem fit_ins3 {v : Int} (h : 0 <= v /\ v < 256) : fitsM 3 ⟨6, v, 0, 0⟩ = true := by
 unfold fitsM
 rw [if_neg (by decide), if_neg (by decide), if_pos rfl]
 simp [fits3_T, boolOf, T.val, boolC, show ¬ v < 0 by omega, show ¬ v > 255 by omega, show ¬ 255 < v by omega]
theorem fit_ins4 {v : Int} (h : 0 <= v /\ v < 256) : fitsM 4 ⟨6, v, 0, 0⟩ = true := by
 unfold fitsM
 rw [if_neg (by decide), if_neg (by decide), if_neg (by decide), if_pos rfl]
 simp [fits4_T, boolOf, T.val, boolC, show ¬ v < 0 by omega, show ¬ v > 255 by omega, show ¬ 255 < v by omega]
theorem fit_ins5 {v : Int} (h : 0 <= v /\ v < 256) : fitsM 5 ⟨6, v, 0, 1⟩ = true := by
 unfold fitsM
 rw [if_neg (by decide), if_neg (by decide), if_neg (by decide), if_neg (by decide), if_pos rfl]
 simp [fits5_T, boolOf, T.val, boolC, show ¬ v < 0 by omega, show ¬ v > 255 by omega, show ¬ 255 < v by omega]
theorem mod256 (s : Int) : 0 <= Int.tmod (IntKind.wrap .u64 s) 256 /\ Int.tmod (IntKind.wrap .u64 s) 256 < 256 := by
 have h : 0 <= IntKind.wrap .u64 s := by
  unfold IntKind.wrap
  simp only [IntKind.bits, IntKind.signed, Bool.false_and, Bool.false_eq_true, if_false]
  exact Int.emod_nonneg _ (by decide)
 exact ⟨Int.tmod_nonneg _ h, Int.tmod_lt_of_pos _ (by decide)⟩
theorem full_row {l : List Rw} {st : Int} (hok : linT.ok l = true) (h77 : has77 l = false) (hl : l.length <= 7) {a b c d : Int} (hf : fitsM st ⟨a, b, c, d⟩ = true) (hk : a = 1 \/ a = 4 \/ a = 6) :
 linT.ok (l ++ [⟨77, a, b, c, d, 4, 0, ((linT.k l : Nat) : Int), IntKind.wrap .i64 (((linT.k l : Nat) : Int) + 1), true⟩]) = true /\
 linT.is st (l ++ [⟨77, a, b, c, d, 4, 0, ((linT.k l : Nat) : Int), IntKind.wrap .i64 (((linT.k l : Nat) : Int) + 1), true⟩]) = linT.is st l := by
 have hwf : WF (ofK l) l := ofOk_wf hok
 have hx := has77_iff.1 h77
 have hk14 : ofK l <= 14 := by
  have := List.length_filter_le Rw.fin l
  unfold ofK; omega
 have ew : IntKind.wrap .i64 (((linT.k l : Nat) : Int) + 1) = ((ofK l + 1 : Nat) : Int) := by
  show IntKind.wrap .i64 (((ofK l : Nat) : Int) + 1) = _
  rw [wrap_in (by omega)]; omega
 rw [ew]
 generalize hxr : (⟨77, a, b, c, d, 4, 0, ((linT.k l : Nat) : Int), ((ofK l + 1 : Nat) : Int), true⟩ : Rw) = x
 have x1 : x.fin = true := by rw [<- hxr]
 have x2 : x.frm = (ofK l : Int) := by rw [<- hxr]; rfl
 have x3 : x.till = ((ofK l + 1 : Nat) : Int) := by rw [<- hxr]
 have x4 : x.thread = 77 := by rw [<- hxr]
 have x5 : x.op = ⟨a, b, c, d⟩ := by rw [<- hxr]; rfl
 have x6 : x.an = ⟨4, 0⟩ := by rw [<- hxr]; rfl
 refine ⟨wf_ofOk (wf_full hwf x1 x2 x3 fun i hi e => hx i hi (e.trans x4)), linT_eq (by omega) (by rw [len_app1]; omega) (lin_full hwf x1 x2 x3 fun m hm => ?_)⟩
 unfold perfM
 rw [if_pos x1, x5, x6, mayM_full (by rw [hm]; exact hf) ⟨rfl, hk⟩]
theorem full_val (σ : Sg) (s : Int) (b : Bool) (l : List Rw) (v : Int) : (fullR_T σ linT s b l v).val = some (.v (.c (.bl true)), [.rowsB b l], []) := by
 by_cases h7 : (l.length : Int) > 7
 ·unfold fullR_T
  dsimp only
  rw [ivT (decide_eq_true h7)]
  rfl
 ·have h7' : l.length <= 7 := by omega
  unfold fullR_T
  dsimp only
  rw [ivF (decide_eq_false h7), nv (decide_eq_true ⟨rfl, by omega⟩)]
  cases hok : linT.ok l with
  | false => rw [ivF rfl]; rfl
  | true =>
    rw [ivT rfl]
    have f12 : decide ((l.length : Int) > 12) = false := decide_eq_false (by omega)
    have f10 : decide (l.length <= 1000) = true := decide_eq_true (by omega)
    have f13 : decide (l.length = Intf.len (F2 σ) (AV.rows l) /\ l.length * (SI.bytes si31 + 1) <= lim) = true := decide_eq_true ⟨rfl, by
     have : SI.bytes si31 <= 1000 := by decide
     have : lim = 1099511627776 := rfl
     have : l.length * (SI.bytes si31 + 1) <= 7 * 1001 := Nat.mul_le_mul h7' (by omega)
     omega⟩
    have f15 : decide (l.length = Intf.len (F2 σ) (AV.rows l) /\ (l.length + 1) * (SI.bytes si31 + 1) <= lim) = true := decide_eq_true ⟨rfl, by
     have : SI.bytes si31 <= 1000 := by decide
     have : lim = 1099511627776 := rfl
     have : (l.length + 1) * (SI.bytes si31 + 1) <= 8 * 1001 := Nat.mul_le_mul (by omega) (by omega)
     omega⟩
    have f16 := st5 s
    have hs := mod5 s
    have hv := mod256 v
    generalize hst : 1 + Int.tmod (IntKind.wrap .u64 s) 5 = st at f16 ⊢
    generalize Int.tmod (IntKind.wrap .u64 v) 256 = v at hv ⊢
    cases h77 : has77 l with
    | true =>
      simp only [T.val, true_and, f10]
      cases st == 1 <;> cases st == 2 <;> cases st == 5 <;> rfl
    | false =>
      have fl : ∀ x : Rw, decide (l.length + 1 = (l ++ [x]).length /\ (l ++ [x]).length <= 1000) = true := fun x => decide_eq_true (by rw [len_app1]; omega)
      have fl2 : ∀ x : Rw, decide (((l ++ [x]).length : Int) > 12) = false := fun x => decide_eq_false (by rw [len_app1]; omega)
      by_cases e1 : st = 1
      ·obtain ⟨g1, g2⟩ := full_row (st := st) hok h77 h7' (a := 1) (b := 0) (c := v) (d := 0) (by rw [e1]; exact fit_push hv) (.inl rfl)
       have c1 : (st == 1) = true := by simp [e1]
       simp only [T.val, true_and, f12, f10, f13, f15, f16, fl, fl2, g1, g2, c1]
       cases linT.is st l <;> rfl
      ·have c1 : (st == 1) = false := by simpa using e1
       by_cases e2 : st = 2
       ·obtain ⟨g1, g2⟩ := full_row (st := st) hok h77 h7' (a := 4) (b := 0) (c := v) (d := 0) (by rw [e2]; exact fit_enq hv) (.inr (.inl rfl))
        have c2 : (st == 2) = true := by simp [e2]
        simp only [T.val, true_and, f12, f10, f13, f15, f16, fl, fl2, g1, g2, c1, c2]
        cases linT.is st l <;> rfl
       ·have c2 : (st == 2) = false := by simpa using e2
        by_cases e5 : st = 5
        ·obtain ⟨g1, g2⟩ := full_row (st := st) hok h77 h7' (a := 6) (b := v) (c := 0) (d := 1) (by rw [e5]; exact fit_ins5 hv) (.inr (.inr rfl))
         have c5 : (st == 5) = true := by simp [e5]
         simp only [T.val, true_and, f12, f10, f13, f15, f16, fl, fl2, g1, g2, c1, c2, c5]
         cases linT.is st l <;> rfl
        ·have c5 : (st == 5) = false := by simpa using e5
         obtain ⟨g1, g2⟩ := full_row (st := st) hok h77 h7' (a := 6) (b := v) (c := 0) (d := 0) (by
          rcases (by omega : st = 3 \/ st = 4) with h | h
          ·rw [h]; exact fit_ins3 hv
          ·rw [h]; exact fit_ins4 hv) (.inr (.inr rfl))
         simp only [T.val, true_and, f12, f10, f13, f15, f16, fl, fl2, g1, g2, c1, c2, c5]
         cases linT.is st l <;> rfl
theorem juryFull_calls (s : Int) (lc : Sx.Loc) (l : List Rw) (v : Int) (ad : Nat -> Addr) (W : World) (hq : fixQ (sgOf W ad) krows l lc (fun _ => False))
 (hg : ∀ n, n < 3 -> W.heap[n]? = some (.cells #[.iface 189 (.pointer (some (ad n)))] 28 (0, 0))) (ht : TabR (sgOf W ad)) :
 Calls Tryd.prog 6 #[.int .i64 s, vsDen lc 0 l.length 10, .int .i64 v] W fun e w' => e = .returned (.bool true) /\ Quiet W w' := by
 have hr : (runN lpFull (sgOf W ad) (tabY (sgOf W ad) linT) 6 linM [.v (.c (.it .i64 s)), .v (.c (.vs 7 0 l.length 10 false)), .v (.c (.it .i64 v))] [.rowsB false l]).val = some (.v (.c (.bl true)), [.rowsB false l], []) := by
  rw [fullR, full_val]
 have hc := (runN_ok (σ := sgOf W ad) lpFull_ok (tab_env (tabY_ok ht)) (M := linM) rfl (l := [.rowsB false l]) (fun x hx => by
  simp only [List.mem_cons, List.not_mem_nil, or_false] at hx
  rcases hx with rfl | rfl | rfl
  ·exact cl_plain rfl
  ·exact cl_vs (hpO_at linM [.rowsB false l] 0 _ rfl)
  ·exact cl_plain rfl) hr).1
 have hQ := quietJ (L := [(lc, .rowsB false l)]) hc (fun ρ => rfl) (fun x hx w _ => by rw [List.mem_singleton.1 hx]; exact rowsB_q hq w) (sgOf_has W ad) (fun k hk => if_pos hk) hg
 have e : ([.v (.c (.it .i64 s)), .v (.c (.vs 7 0 l.length 10 false)), .v (.c (.it .i64 v))].map (SV.den (nmL [(lc, .rowsB false l)]))).toArray = #[.int .i64 s, vsDen lc 0 l.length 10, .int .i64 v] := by
  simp only [List.map_cons, List.map_nil]
  rw [den_row (L := [(lc, .rowsB false l)]) 0 l.length 10]
  rfl
 rw [e] at hQ
 exact hQ
end Go.Proofs.YtpapbhbnaalhcaaDoor
