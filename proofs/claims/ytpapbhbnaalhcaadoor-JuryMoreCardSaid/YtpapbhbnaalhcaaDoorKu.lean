import Derived.Test.YtpapbhbnaalhcaaDoorKr
import Derived.Test.YtpapbhbnaalhcaaDoorKq
namespace Go.Proofs.YtpapbhbnaalhcaaDoor
open Go Go.Sx Go.Proofs
set_option linter.unusedVariables false
set_option maxRecDepth 100000
theorem ok5 : linT.ok [(⟨0, 0, 0, 0, 0, 0, 0, 5, 0, false⟩ : Rw)] = false := by
 have e : linT.ok = ofOk := rfl
 rw [e]
 cases h : ofOk [(⟨0, 0, 0, 0, 0, 0, 0, 5, 0, false⟩ : Rw)] with
 | false => rfl
 | true =>
   have := (((ofOk_iff _).1 h).lo 0 (by decide)).2
   exact absurd this (by decide)
theorem more_val (σ : Sg) (s : Int) (b : Bool) (l : List Rw) (o : O) : (moreR_T σ linT s b l o).val = some (.v (.c (.bl true)), [.rowsB b l], []) := by
 by_cases h7 : (l.length : Int) > 7
 ·unfold moreR_T
  dsimp only
  rw [ivT (decide_eq_true h7)]
  rfl
 ·have h7' : l.length <= 7 := by omega
  unfold moreR_T
  dsimp only
  rw [ivF (decide_eq_false h7), nv (decide_eq_true ⟨rfl, by omega⟩)]
  cases hok : linT.ok l with
  | false => rw [ivF rfl]; rfl
  | true =>
    rw [ivT rfl]
    have hwf : WF (ofK l) l := ofOk_wf hok
    have ek : linT.k l = ofK l := rfl
    have f12 : decide ((l.length : Int) > 12) = false := decide_eq_false (by omega)
    have f10 : decide (l.length <= 1000) = true := decide_eq_true (by omega)
    have f13 : decide (l.length = Intf.len (F2 σ) (AV.rows l) /\ l.length * (SI.bytes si31 + 1) <= lim) = true := decide_eq_true ⟨rfl, by
     have : SI.bytes si31 <= 1000 := by decide
     have : lim = 1099511627776 := rfl
     have : l.length * (SI.bytes si31 + 1) <= 7 * 1001 := Nat.mul_le_mul h7' (by omega)
     omega⟩
    have f15 : decide (l.length = Intf.len (F2 σ) (AV.rows l) /\ (l.length + 1) * (SI.bytes si31 + 1) <= lim) = true := decide_eq_true ⟨rfl, by
     have : SI.bytes si31 <= 1000 := by decide
     have : lim = 1099511627776 := rfl
     have : (l.length + 1) * (SI.bytes si31 + 1) <= 8 * 1001 := Nat.mul_le_mul (by omega) (by omega)
     omega⟩
    have f16 := st5 s
    generalize hst : 1 + Int.tmod (IntKind.wrap .u64 s) 5 = st at f16 ⊢
    cases h77 : has77 l with
    | true =>
      simp only [T.val, true_and, f12, f10, f13, f15, f16]
      cases linT.is st l <;> rfl
    | false =>
      have hx := has77_iff.1 h77
      generalize hxr : (⟨77, o.kind, o.key, o.val, o.tall, 0, 0, ((linT.k l : Nat) : Int), 0, false⟩ : Rw) = x
      have x1 : x.fin = false := by rw [<- hxr]
      have x2 : x.frm = (ofK l : Int) := by rw [<- hxr]; rfl
      have x3 : x.code = 0 /\ x.aval = 0 /\ x.till = 0 := by rw [<- hxr]; exact ⟨rfl, rfl, rfl⟩
      have x4 : x.thread = 77 := by rw [<- hxr]
      have f17 : decide (l.length + 1 = (l ++ [x]).length /\ (l ++ [x]).length <= 1000) = true := decide_eq_true (by rw [len_app1]; omega)
      have f14 : decide (((l ++ [x]).length : Int) > 12) = false := decide_eq_false (by rw [len_app1]; omega)
      have f9 : linT.ok (l ++ [x]) = true := wf_ofOk (wf_more hwf x1 x2 x3 fun i hi e => hx i hi (e.trans x4))
      have fis : linT.is st (l ++ [x]) = linT.is st l := linT_eq (by omega) (by rw [len_app1]; omega) (lin_more hwf x1 x2)
      have fσ : decide (σ 0 = σ 0) = true := decide_eq_true rfl
      have f6 := ok5
      simp only [T.val, true_and, f12, f10, f13, f15, f16, f17, f14, f9, f6, fis, fσ]
      cases linT.is st l <;> rfl
end Go.Proofs.YtpapbhbnaalhcaaDoor
