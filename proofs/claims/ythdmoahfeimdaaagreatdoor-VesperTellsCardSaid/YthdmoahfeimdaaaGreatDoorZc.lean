import Derived.Test.YthdmoahfeimdaaaGreatDoorUt
import Derived.Test.YthdmoahfeimdaaaGreatDoorUe
import Derived.Test.YthdmoahfeimdaaaGreatDoorSxWr
namespace Go.Proofs.YthdmoahfeimdaaaGreatDoor
open Go Go.Sx Go.Proofs
set_option linter.unusedVariables false
set_option maxRecDepth 100000
variable {σ : Sg} {lp : Lp}
noncomputable def tailU (rs : List Rw) (l : List N1) (p : List Pr) (u : Nu) (B : List UInt8) (len : Nat) (has : List Tx) : T (Ex × St AV) :=
 .need (decide (len = has.length /\ 0 < has.length /\ has.length <= 100000)) (.need (fitB (joinL (has.map Tx.val) [32]).length) (.need (fitB (B.length + (joinL (has.map Tx.val) [32]).length)) (.need (fitB ((B ++ joinL (has.map Tx.val) [32]).length + 1))
  (.need (okI u.a) (.need (okI u.b) (.need (okI u.c) (.need (okI u.d) (.need true (.need (fitB (jL u).length) (.need (fitB (((B ++ joinL (has.map Tx.val) [32]) ++ [10]).length + (jL u).length)) (.need (fitB ((((B ++ joinL (has.map Tx.val) [32]) ++ [10]) ++ jL u).length + 1))
    (.need (okI u.t) (.need (okI u.o) (.need true (.need (fitB (jS u).length) (.need (fitB (((((B ++ joinL (has.map Tx.val) [32]) ++ [10]) ++ jL u) ++ [10]).length + (jS u).length)) (.need (fitB ((((((B ++ joinL (has.map Tx.val) [32]) ++ [10]) ++ jL u) ++ [10]) ++ jS u).length + 1))
      (.need (decide (0 < (txtU B has u).length)) (.leaf (stV (.v (.c (.sv ⟨(txtU B has u).toArray⟩)), hpC mT [.abs (.rowsA rs), .abs (.intsA l), .abs (.pairsA p)]))))))))))))))))))))) 
noncomputable def valsU (rs : List Rw) (l : List N1) (p : List Pr) (m k : Nat) (u : Nu) (B : List UInt8) : T (Ex × St AV) :=
 .need (decide (m = l.length /\ m = m /\ (m : Int) = (m : Int) /\ l.length <= 100 /\ ∀ a ∈ l, inI a.val)) (.ite (decide (l.length = 0))
  (.need (okQ p k k (k : Int) 1 [hsT]) (.ite (decide (p.length = 0)) (tailU rs l p u B [hsT].length [hsT]) (tailU rs l p u B ([hsT].length + p.length) ([hsT] ++ p.map txP))))
  (.need (okQ p k k (k : Int) (1 + l.length) (hsT :: l.map txV)) (.ite (decide (p.length = 0)) (tailU rs l p u B (hsT :: l.map txV).length (hsT :: l.map txV)) (tailU rs l p u B ((hsT :: l.map txV).length + p.length) ((hsT :: l.map txV) ++ p.map txP)))))
theorem tellU (σ : Sg) (cr : CatR) (fb : FitF) (lt : LineF) (wb : WordF) (rs : List Rw) (l : List N1) (p : List Pr) (n m k : Nat) (u : Nu) (s : Int) : runC (lpTl cr) σ (tabTl σ fb lt wb) 8 mT [.v (.c (i6 s)), .v (.agg (repC n m k u))] [.abs (.rowsA rs), .abs (.intsA l), .abs (.pairsA p)] =
 .need (decide (n = rs.length /\ n = n /\ (n : Int) = (n : Int) /\ rs.length <= 100 /\ ∀ r ∈ rs, okT r = true)) (.ite (decide (rs.length = 0)) (valsU rs l p m k u []) (valsU rs l p m k u (cr s rs))) := by kernel_rfl
theorem has_leU {l : List N1} {p : List Pr} (hl : l.length <= 100) (hp : p.length <= 100) (hr : ∀ a ∈ l, inI a.val) (hq : ∀ a ∈ p, inP a) : (joinL ((hasT l p).map Tx.val) [32]).length <= 51 * 201 := by
 have h := join_le 32 50 (((hasT l p).map Tx.val).map (·.data.toList)) fun x hx => by
  simp only [hasT, List.map_cons, List.mem_cons, List.map_append, List.map_map, List.mem_append, List.mem_map] at hx
  rcases hx with rfl | ⟨a, ha, rfl⟩ | ⟨a, ha, rfl⟩
  ·decide
  ·exact txV_le (hr a ha)
  ·exact txP_le (hq a ha)
 have e : (((hasT l p).map Tx.val).map (·.data.toList)).length <= 201 := by simp [hasT]; omega
 exact Nat.le_trans h (Nat.mul_le_mul_left 51 e)
theorem jn_le {u : Nu} (g : inI u.a /\ inI u.b /\ inI u.c /\ inI u.d /\ inI u.t /\ inI u.o) : (jL u).length + (jS u).length <= 1000 := by
 have h := congrArg List.length (ends_is u)
 have key : ∀ n, inI n -> (itoL n).length <= 21 := fun n h => by
  have := Lib.itoa_length_le n h.1 h.2
  show (Lib.itoa n).length <= 21
  omega
 have k1 := key _ g.1
 have k2 := key _ g.2.1
 have k3 := key _ g.2.2.1
 have k4 := key _ g.2.2.2.1
 have k5 := key _ g.2.2.2.2.1
 have k6 := key _ g.2.2.2.2.2
 unfold endsL at h
 simp only [List.length_append, List.length_cons, List.length_nil] at h
 omega
theorem tailU_val {rs : List Rw} {l : List N1} {p : List Pr} {u : Nu} {B : List UInt8} {len : Nat} {has : List Tx} (h1 : len = has.length) (h0 : 0 < has.length) (h2 : has.length <= 1000) (hj : (joinL (has.map Tx.val) [32]).length <= 51 * 201) (hB : B.length <= 100000)
 (g : inI u.a /\ inI u.b /\ inI u.c /\ inI u.d /\ inI u.t /\ inI u.o) : (tailU rs l p u B len has).val = some (stV (.v (.c (.sv ⟨(txtU B has u).toArray⟩)), hpC mT [.abs (.rowsA rs), .abs (.intsA l), .abs (.pairsA p)])) := by
 have e := jn_le g
 obtain ⟨ga, gb, gc, gd, gt, go⟩ := g
 have ok : ∀ n, inI n -> okI n = true := fun n h => decide_eq_true h
 unfold tailU
 rw [nv (decide_eq_true ⟨h1, h0, by omega⟩), nv (fB (by omega)), nv (fB (by omega)), nv (fB (by rw [List.length_append]; omega)), nv (ok _ ga), nv (ok _ gb), nv (ok _ gc), nv (ok _ gd), nv rfl,
  nv (fB (by omega)), nv (fB (by simp only [List.length_append, List.length_singleton]; omega)), nv (fB (by simp only [List.length_append, List.length_singleton]; omega)), nv (ok _ gt), nv (ok _ go), nv rfl,
  nv (fB (by omega)), nv (fB (by simp only [List.length_append, List.length_singleton]; omega)), nv (fB (by simp only [List.length_append, List.length_singleton]; omega)),
  nv (decide_eq_true (by simp only [txtU, List.length_append, List.length_singleton]; omega))]
 rfl
theorem valsU_val {rs : List Rw} {l : List N1} {p : List Pr} {u : Nu} {B : List UInt8} (hl : l.length <= 100) (hp : p.length <= 100) (hr : ∀ a ∈ l, inI a.val) (hq : ∀ a ∈ p, inP a) (hB : B.length <= 100000)
 (g : inI u.a /\ inI u.b /\ inI u.c /\ inI u.d /\ inI u.t /\ inI u.o) : (valsU rs l p l.length p.length u B).val = some (stV (.v (.c (.sv ⟨(txtU B (hasT l p) u).toArray⟩)), hpC mT [.abs (.rowsA rs), .abs (.intsA l), .abs (.pairsA p)])) := by
 have hj := has_leU hl hp hr hq
 have ok : ∀ (len : Nat) (has : List Tx), len = has.length -> has.length <= 500 -> okQ p p.length p.length (p.length : Int) len has = true := fun len has h1 h2 => decide_eq_true ⟨rfl, rfl, rfl, h1, h2, hp, hq⟩
 unfold valsU
 rw [nv (decide_eq_true ⟨rfl, rfl, rfl, hl, hr⟩)]
 by_cases h0 : l.length = 0
 ·have el : l = [] := List.eq_nil_of_length_eq_zero h0
  rw [ivT (decide_eq_true h0), nv (ok 1 [hsT] rfl (by decide))]
  by_cases g0 : p.length = 0
  ·have ep : p = [] := List.eq_nil_of_length_eq_zero g0
   rw [ivT (decide_eq_true g0)]
   have e : hasT l p = [hsT] := by subst el ep; rfl
   rw [e] at hj ⊢
   exact tailU_val rfl (by decide) (by decide) hj hB g
  ·rw [ivF (decide_eq_false g0)]
   have e : hasT l p = [hsT] ++ p.map txP := by subst el; rfl
   rw [e] at hj ⊢
   exact tailU_val (by simp; omega) (by simp) (by simp; omega) hj hB g
 ·rw [ivF (decide_eq_false h0), nv (ok (1 + l.length) (hsT :: l.map txV) (by simp [Nat.add_comm]) (by simp; omega))]
  by_cases g0 : p.length = 0
  ·have ep : p = [] := List.eq_nil_of_length_eq_zero g0
   rw [ivT (decide_eq_true g0)]
   have e : hasT l p = hsT :: l.map txV := by subst ep; simp [hasT]
   rw [e] at hj ⊢
   exact tailU_val rfl (by simp) (by simp; omega) hj hB g
  ·rw [ivF (decide_eq_false g0)]
   have e : hasT l p = (hsT :: l.map txV) ++ p.map txP := rfl
   rw [e] at hj ⊢
   exact tailU_val (by simp; omega) (by simp) (by simp; omega) hj hB g
abbrev okNumT (rs : List Rw) (l : List N1) (p : List Pr) (u : Nu) : Prop := (∀ r ∈ rs, okT r = true) /\ (∀ a ∈ l, inI a.val) /\ (∀ a ∈ p, inP a) /\ inI u.a /\ inI u.b /\ inI u.c /\ inI u.d /\ inI u.t /\ inI u.o
theorem tellU_val {s : Int} {rs : List Rw} {l : List N1} {p : List Pr} {n m k : Nat} {u : Nu} (h : okLens rs l p n m k) (g : okNumT rs l p u) : (runC (lpTl catD) σ (tabTl σ fitsB lineT wordB) 8 mT [.v (.c (i6 s)), .v (.agg (repC n m k u))] [.abs (.rowsA rs), .abs (.intsA l), .abs (.pairsA p)]).val =
 some (stV (.v (.c (.sv ⟨(toldL s rs l p u).toArray⟩)), hpC mT [.abs (.rowsA rs), .abs (.intsA l), .abs (.pairsA p)])) := by
 obtain ⟨rfl, rfl, rfl, hn, hl, hp⟩ := h
 obtain ⟨g1, g2, g3, g4⟩ := g
 have b1 : (catD s rs).length <= 30000 := catD_le (fun r h => (okT_spec (g1 r h)).1) hn
 rw [tellU, nv (decide_eq_true ⟨rfl, rfl, rfl, hn, g1⟩), <- txtU_is]
 by_cases h0 : rs.length = 0
 ·have er : rs = [] := List.eq_nil_of_length_eq_zero h0
  rw [ivT (decide_eq_true h0), valsU_val hl hp g2 g3 (by decide) g4]
  subst er
  rfl
 ·rw [ivF (decide_eq_false h0), valsU_val hl hp g2 g3 (by omega) g4]
def tellUP (tf : ToldF) (args : List SV) (ch : List (Chunk AV)) : T (SV × List (Chunk AV) × List (Chunk AV)) := match args, ch with
 | [.v (.c (.it .i64 s)), .v (.agg [.vs 14 0 n 10 false, .vs 15 0 m 1 false, .vs 16 0 k 2 false, .it .i64 a, .it .i64 b, .it .i64 c, .it .i64 d, .it .i64 t, .it .i64 o])], [.abs (.rowsA rs), .abs (.intsA l), .abs (.pairsA p)] =>
   .need (decide (okLens rs l p n m k)) (.need (decide (okNumT rs l p ⟨a, b, c, d, t, o⟩)) (.leaf (.v (.c (.sv ⟨(tf s rs l p ⟨a, b, c, d, t, o⟩).toArray⟩)), [.abs (.rowsA rs), .abs (.intsA l), .abs (.pairsA p)], [])))
 | _, _ => .fail "Tell"
theorem tellUP_ok (ht : TabR σ) : FnOk Tryz.prog (NVl lp σ) 8 (sumC isS mT (tellUP toldL)) := by
 refine fnOk_env (N := NVl (lpTl catD) σ) (N' := NVl lp σ) rfl rfl (sumC_ok isS_ok (by kernel_rfl) fun args ch x l' nw h hlen ha hC => ?_)
 unfold tellUP at h
 split at h
 ·rename_i s n m k a b c d t o rs l p
  replace h := need_some h
  obtain ⟨h1, h⟩ := h
  replace h := need_some h
  obtain ⟨h2, h⟩ := h
  simp only [T.val, Option.some.injEq, Prod.mk.injEq] at h
  obtain ⟨rfl, rfl, rfl⟩ := h
  exact runC_ctr (lps_tl ht) (tabTl_ok ht) (by kernel_rfl) (tellU_val (u := ⟨a, b, c, d, t, o⟩) (of_decide_eq_true h1) (of_decide_eq_true h2)) (by rintro ⟨⟩)
 ·simp [T.val] at h
end Go.Proofs.YthdmoahfeimdaaaGreatDoor

namespace Go.Proofs.YthdmoahfeimdaaaGreatDoor
open Go Go.Sx Go.Proofs
set_option linter.unusedVariables false
set_option maxRecDepth 100000
end Go.Proofs.YthdmoahfeimdaaaGreatDoor

namespace Go.Proofs.YthdmoahfeimdaaaGreatDoor
open Go Go.Sx Go.Proofs
set_option linter.unusedVariables false
set_option maxRecDepth 100000
variable {σ : Sg}
theorem bsEq_self : ∀ (l : List UInt8), bsEq l l = true
 | [] => rfl
 | c :: l => by rw [bsEq, (beq_iff _ _).2 rfl]; exact bsEq_self l
end Go.Proofs.YthdmoahfeimdaaaGreatDoor

namespace Go.Proofs.YthdmoahfeimdaaaGreatDoor
open Go Go.Sx Go.Proofs
set_option linter.unusedVariables false
set_option maxRecDepth 100000
variable {σ : Sg} {lp : Lp}
noncomputable def tabLw (gt : GreatF) (tf tg : ToldF) : Tab := tabAdd 7 (sumC isS nM (greatP gt)) (tabAdd 8 (sumC isS mT (tellUP tf)) (tabAdd 9 (sumC isS nM (toldP tg)) (tabAdd 6 awakeG fun _ => none)))
theorem tabLw_ok (hs : SentR σ) (ht : TabR σ) : TabOk Tryz.prog (NVl lp σ) (tabLw greatB toldL toldL) :=
 tabAdd_ok great_ok (tabAdd_ok (tellUP_ok ht) (tabAdd_ok told_ok (tabAdd_ok (awakeG_ok hs) tab0_ok)))
noncomputable def mLw : List Bool := mkF 3
noncomputable abbrev runLw (σ : Sg) (gt : GreatF) (tf tg : ToldF) (rs : List Rw) (l : List N1) (p : List Pr) (n m k : Nat) (u : Nu) (s : Int) : T (Ex × St AV) := runC noLp σ (tabLw gt tf tg) 3 mLw [.v (.c (i6 s)), .v (.agg (repC n m k u))] [.abs (.rowsA rs), .abs (.intsA l), .abs (.pairsA p)]
theorem lawR (σ : Sg) (gt : GreatF) (tf tg : ToldF) (rs : List Rw) (l : List N1) (p : List Pr) (n m k : Nat) (u : Nu) (s : Int) : runLw σ gt tf tg rs l p n m k u s =
 .need (decide (n = rs.length /\ m = l.length /\ k = p.length)) (.ite (gt rs l p u == false) (.need (decide (okLens rs l p n m k)) (.need (decide (okNumT rs l p u)) (.need (decide (okLens rs l p n m k)) (.need (decide (okNums rs l p u))
  (.leaf (stV (.v (.c (.bt (strEq ⟨(tf s rs l p u).toArray⟩ ⟨(tg s rs l p u).toArray⟩))), hpO mLw [.rowsA rs, .intsA l, .pairsA p])))))))
  (.leaf (stV (.v (.c (.bl true)), hpO mLw [.rowsA rs, .intsA l, .pairsA p])))) := by kernel_rfl
abbrev inR (r : Rw) : Prop := inI r.thread /\ inI r.kind /\ inI r.key /\ inI r.val /\ inI r.tall /\ inI r.code /\ inI r.aval /\ inI r.frm /\ inI r.till
abbrev inU (u : Nu) : Prop := inI u.a /\ inI u.b /\ inI u.c /\ inI u.d /\ inI u.t /\ inI u.o
theorem law_val {rs : List Rw} {l : List N1} {p : List Pr} {u : Nu} {s : Int} (hR : ∀ a ∈ rs, inR a) (hr : ∀ a ∈ l, inI a.val) (hq : ∀ a ∈ p, inP a) (hu : inU u) :
 ∃ v, (runLw σ greatB toldL toldL rs l p rs.length l.length p.length u s).val = some (stV (v, hpO mLw [.rowsA rs, .intsA l, .pairsA p])) /\ v ≠ .unk /\ ∀ ρ : Nm, v.den ρ = .bool true := by
 rw [lawR, nv (decide_eq_true ⟨rfl, rfl, rfl⟩)]
 cases hg : greatB rs l p u with
 | true =>
   rw [ivF (by rfl)]
   exact ⟨_, rfl, (by rintro ⟨⟩), fun ρ => rfl⟩
 | false =>
   obtain ⟨h1, h2⟩ := great_no hg hu (fun r h => ⟨(hR r h).1, (hR r h).2.1, (hR r h).2.2.2.2.2.1, (hR r h).2.2.2.2.2.2.1, (hR r h).2.2.2.2.2.2.2.1, (hR r h).2.2.2.2.2.2.2.2⟩) hr hq
   have h3 : okNumT rs l p u := ⟨fun r h => by
    unfold okT
    rw [h2.1 r h]
    exact decide_eq_true ⟨(hR r h).2.2.1, (hR r h).2.2.2.1, (hR r h).2.2.2.2.1⟩, hr, hq, hu⟩
   rw [ivT (by rfl), nv (decide_eq_true h1), nv (decide_eq_true h3), nv (decide_eq_true h1), nv (decide_eq_true h2)]
   refine ⟨_, rfl, (by rintro ⟨⟩), fun ρ => ?_⟩
   show Value.bool (strEq _ _) = _
   rw [show strEq ⟨(toldL s rs l p u).toArray⟩ ⟨(toldL s rs l p u).toArray⟩ = true from bsEq_self _]
theorem mLw_all : mLw = allM := by kernel_rfl
theorem tells_calls {W : World} {ad : Nat -> Addr} (hV : VarS (sgOf W ad) W) (hS : SentR (sgOf W ad)) (hT : TabR (sgOf W ad)) {lc0 lc1 lc2 : Sx.Loc} {rs : List Rw} {l : List N1} {p : List Pr} {u : Nu} {s : Int} (hR : ∀ a ∈ rs, inR a) (hr : ∀ a ∈ l, inI a.val) (hq : ∀ a ∈ p, inP a) (hu : inU u)
 (h0 : fixQ (sgOf W ad) krows rs lc0 (fun _ => False)) (h1 : fixQ (sgOf W ad) kints l lc1 (fun _ => False)) (h2 : fixQ (sgOf W ad) kpairs p lc2 (fun _ => False)) :
 Calls Tryz.prog 3 #[.int .i64 s, .agg #[vsDen lc0 0 rs.length 10, vsDen lc1 0 l.length 1, vsDen lc2 0 p.length 2, .int .i64 u.a, .int .i64 u.b, .int .i64 u.c, .int .i64 u.d, .int .i64 u.t, .int .i64 u.o]] W fun e w' => e = .returned (.bool true) /\ Quiet W w' := by
 obtain ⟨v, hv, hu', hd⟩ := law_val (σ := sgOf W ad) (s := s) hR hr hq hu
 have hc := runC_ctr lpsV (tabLw_ok hS hT) (mkF_len _) hv hu'
 have := quietX (σ := sgOf W ad) (lp := noLp) (L := [(lc0, .rowsA rs), (lc1, .intsA l), (lc2, .pairsA p)]) (l' := [.abs (.rowsA rs), .abs (.intsA l), .abs (.pairsA p)]) (v := v) (W := W) (args := [.v (.c (i6 s)), .v (.agg (repC rs.length l.length p.length u))]) (f := 3)
  (by
    have h : Ctr Tryz.prog (NVl noLp (sgOf W ad)) 3 [.v (.c (i6 s)), .v (.agg (repC rs.length l.length p.length u))] (hpC mLw [.abs (.rowsA rs), .abs (.intsA l), .abs (.pairsA p)]) v (hpO mLw [.rowsA rs, .intsA l, .pairsA p]) := hc
    rw [mLw_all] at h
    exact h) hd
  (fun x hx w hw => by
    simp only [List.mem_cons, List.not_mem_nil, or_false] at hx
    rcases hx with rfl | rfl | rfl
    ·exact (AV.q_fix (σ := sgOf W ad) (a := .rowsA rs) (r := ⟨Rw, krows, rs⟩) rfl rfl lc0 _ w).2 h0
    ·exact (AV.q_fix (σ := sgOf W ad) (a := .intsA l) (r := ⟨N1, kints, l⟩) rfl rfl lc1 _ w).2 h1
    ·exact (AV.q_fix (σ := sgOf W ad) (a := .pairsA p) (r := ⟨Pr, kpairs, p⟩) rfl rfl lc2 _ w).2 h2) (sgOf_has W ad) (fun k hk => if_pos hk) hV
 exact this
end Go.Proofs.YthdmoahfeimdaaaGreatDoor

namespace Go.Proofs.YthdmoahfeimdaaaGreatDoor
open Go Go.Sx Go.Proofs Go.ChangeShapes Go.WideShapes
set_option linter.unusedVariables false
set_option maxRecDepth 100000
theorem dec_rw (cs : List Value) (h : flatOk [.int .i64, .int .i64, .int .i64, .int .i64, .int .i64, .int .i64, .int .i64, .int .i64, .int .i64, .bool] cs) (hw : flatW cs) : ∃ a : Rw, cs = denL Nm.id (krows.enc a) /\ inR a := by
 match cs, h with
 | [.int _ a, .int _ b, .int _ c, .int _ d, .int _ e, .int _ f, .int _ g, .int _ i, .int _ j, .bool k], h =>
   obtain ⟨rfl, rfl, rfl, rfl, rfl, rfl, rfl, rfl, rfl, _⟩ := h
   have key : ∀ n : Int, Value.int .i64 n ∈ [Value.int .i64 a, .int .i64 b, .int .i64 c, .int .i64 d, .int .i64 e, .int .i64 f, .int .i64 g, .int .i64 i, .int .i64 j, .bool k] -> inI n := fun n hn => wf_in (hw _ hn _ _ rfl)
   exact ⟨⟨a, b, c, d, e, f, g, i, j, k⟩, rfl, key a (by simp), key b (by simp), key c (by simp), key d (by simp), key e (by simp), key f (by simp), key g (by simp), key i (by simp), key j (by simp)⟩
theorem no_rw (a : Rw) (j : Nat) (x : Value) (h : (denL Nm.id (krows.enc a))[j]? = some x) : (∀ t p, x ≠ .iface t p) /\ ∀ s, x ≠ .string s := by
 rcases j with _ | _ | _ | _ | _ | _ | _ | _ | _ | _ | j <;> cases h <;> exact ⟨(fun _ _ e => by cases e), fun _ e => by cases e⟩
theorem cellOk_slice {W : World} {r : Reach} {b0 : Nat} {t e : TypeId} {v : Value} (ht : Tryz.prog.underlying t = some (.slice e)) (h : Cell.okWide Tryz.prog W r b0 t v) : Value.okWide Tryz.prog W r b0 t v := by
 unfold Value.okWide
 rw [ht]
 exact h
theorem open_rep {H : Type} {enc : TypeId × Value -> H} {W : World} {r0 : Reach} {b0 base : Nat} {sp : Nat -> Bool} {held : Bool} {v : Value} {d : DataW H} {ps : List MemPlace} (hval : Value.okWide Tryz.prog W r0 b0 28 v)
 (hd : DataW.Trod enc Tryz.prog W base sp held 28 v d ps) {ad : Nat -> Addr} (hs : VarB W) :
 ∃ (lc0 : Sx.Loc) (rs : List Rw) (lc1 : Sx.Loc) (l : List N1) (lc2 : Sx.Loc) (p : List Pr) (u : Nu), v = .agg #[vsDen lc0 0 rs.length 10, vsDen lc1 0 l.length 1, vsDen lc2 0 p.length 2, .int .i64 u.a, .int .i64 u.b, .int .i64 u.c, .int .i64 u.d, .int .i64 u.t, .int .i64 u.o] /\
   (∀ a ∈ rs, inR a) /\ (∀ a ∈ l, inI a.val) /\ (∀ a ∈ p, inP a) /\ inU u /\ fixQ (sgOf W ad) krows rs lc0 (fun _ => False) /\ fixQ (sgOf W ad) kints l lc1 (fun _ => False) /\ fixQ (sgOf W ad) kpairs p lc2 (fun _ => False) := by
 unfold Value.okWide at hval
 rw [Tryz.underlying28] at hval
 obtain ⟨cs, rfl, hsz, ts, hts, _, hcell⟩ := hval
 obtain ⟨fu, hfu⟩ := hd
 have hts' : ts = [22, 23, 24, 3, 3, 3, 3, 3, 3] := Option.some.inj (hts.symm.trans (by kernel_rfl))
 subst hts'
 obtain ⟨xs, n, rfl, _, hl, hxl, hx⟩ := DataW.trod_struct Tryz.underlying28 hfu
 have h9 : Tryz.prog.cellsOf 28 = 9 := by kernel_rfl
 obtain ⟨cl⟩ := cs
 have hl : cl.length = 9 := by rw [<- h9]; exact hl
 have hxl : xs.length = 6 := hxl
 match cl, hl with
 | [c0, c1, c2, c3, c4, c5, c6, c7, c8], _ =>
   match xs, hxl with
   | [x0, x1, x2, x3, x4, x5], _ =>
     have t0 : DataW.trod enc Tryz.prog W base sp held n 22 (([c0, c1, c2, c3, c4, c5, c6, c7, c8].drop 0).take (Tryz.prog.cellsOf 22)) = some x0 := hx 0 _ rfl
     have t1 : DataW.trod enc Tryz.prog W base sp held n 23 (([c0, c1, c2, c3, c4, c5, c6, c7, c8].drop 1).take (Tryz.prog.cellsOf 23)) = some x1 := hx 1 _ rfl
     have t2 : DataW.trod enc Tryz.prog W base sp held n 24 (([c0, c1, c2, c3, c4, c5, c6, c7, c8].drop 2).take (Tryz.prog.cellsOf 24)) = some x2 := hx 2 _ rfl
     have t3 : DataW.trod enc Tryz.prog W base sp held n 26 (([c0, c1, c2, c3, c4, c5, c6, c7, c8].drop 3).take (Tryz.prog.cellsOf 26)) = some x3 := hx 3 _ rfl
     have t4 : DataW.trod enc Tryz.prog W base sp held n 3 (([c0, c1, c2, c3, c4, c5, c6, c7, c8].drop 7).take (Tryz.prog.cellsOf 3)) = some x4 := hx 4 _ rfl
     have t5 : DataW.trod enc Tryz.prog W base sp held n 3 (([c0, c1, c2, c3, c4, c5, c6, c7, c8].drop 8).take (Tryz.prog.cellsOf 3)) = some x5 := hx 5 _ rfl
     have o0 := hcell 0 c0 rfl
     have o1 := hcell 1 c1 rfl
     have o2 := hcell 2 c2 rfl
     obtain ⟨u0, e0, o0⟩ := o0
     obtain ⟨u1, e1, o1⟩ := o1
     obtain ⟨u2, e2, o2⟩ := o2
     cases e0
     cases e1
     cases e2
     rw [show Tryz.prog.cellsOf 22 = 1 from by kernel_rfl] at t0
     rw [show Tryz.prog.cellsOf 23 = 1 from by kernel_rfl] at t1
     rw [show Tryz.prog.cellsOf 24 = 1 from by kernel_rfl] at t2
     rw [show Tryz.prog.cellsOf 26 = 4 from by kernel_rfl] at t3
     rw [show Tryz.prog.cellsOf 3 = 1 from by kernel_rfl] at t4 t5
     have g0 : ∃ fu, DataW.trod enc Tryz.prog W base sp held fu 22 [c0] = some x0 := ⟨n, t0⟩
     have g1 : ∃ fu, DataW.trod enc Tryz.prog W base sp held fu 23 [c1] = some x1 := ⟨n, t1⟩
     have g2 : ∃ fu, DataW.trod enc Tryz.prog W base sp held fu 24 [c2] = some x2 := ⟨n, t2⟩
     have g3 : DataW.trod enc Tryz.prog W base sp held n 26 [c3, c4, c5, c6] = some x3 := t3
     have g4 : DataW.trod enc Tryz.prog W base sp held n 3 [c7] = some x4 := t4
     have g5 : DataW.trod enc Tryz.prog W base sp held n 3 [c8] = some x5 := t5
     have k0 := slice_ok Tryz.underlying22 (cellOk_slice Tryz.underlying22 o0)
     have k1 := slice_ok Tryz.underlying23 (cellOk_slice Tryz.underlying23 o1)
     have k2 := slice_ok Tryz.underlying24 (cellOk_slice Tryz.underlying24 o2)
     have cells1 : ∀ v : Value, (v = .slice none 0 0 \/ ∃ b o len cap, v = .slice (some ⟨b, o, none⟩) len cap /\ len <= cap) -> v.cells.toList = [v] := fun v h => by
      rcases h with rfl | ⟨_, _, _, _, rfl, _⟩ <;> rfl
     obtain ⟨lc0, rs, rfl, a0, q0⟩ := open_came (d := x0.1) (ps := x0.2) krows inR (ad := ad) Tryz.underlying22 (by kernel_rfl) (by kernel_rfl) rfl dec_rw no_rw k0 ⟨n, by rw [cells1 _ k0]; exact t0⟩ hs
     obtain ⟨lc1, l, rfl, a1, q1⟩ := open_came (d := x1.1) (ps := x1.2) kints (fun a => inI a.val) (ad := ad) Tryz.underlying23 (by kernel_rfl) (by kernel_rfl) rfl dec_int no_int k1 ⟨n, by rw [cells1 _ k1]; exact t1⟩ hs
     obtain ⟨lc2, p, rfl, a2, q2⟩ := open_came (d := x2.1) (ps := x2.2) kpairs inP (ad := ad) Tryz.underlying24 (by kernel_rfl) (by kernel_rfl) rfl dec_pair no_pair k2 ⟨n, by rw [cells1 _ k2]; exact t2⟩ hs
     have f3 := trod_flat 12 _ _ [.int .i64, .int .i64, .int .i64, .int .i64] _ _ (by kernel_rfl) g3 (by kernel_rfl)
     have w3 := trod_flatW 12 _ _ [.int .i64, .int .i64, .int .i64, .int .i64] _ _ (by kernel_rfl) g3 (by kernel_rfl)
     have f4 := trod_flat 12 _ _ [.int .i64] _ _ (by kernel_rfl) g4 (by kernel_rfl)
     have w4 := trod_flatW 12 _ _ [.int .i64] _ _ (by kernel_rfl) g4 (by kernel_rfl)
     have f5 := trod_flat 12 _ _ [.int .i64] _ _ (by kernel_rfl) g5 (by kernel_rfl)
     have w5 := trod_flatW 12 _ _ [.int .i64] _ _ (by kernel_rfl) g5 (by kernel_rfl)
     match c3, c4, c5, c6, c7, c8, f3, w3, f4, w4, f5, w5 with
     | .int _ a, .int _ b, .int _ c, .int _ d, .int _ t, .int _ o, f3, w3, f4, w4, f5, w5 =>
       obtain ⟨rfl, rfl, rfl, rfl, _⟩ := f3
       obtain ⟨rfl, _⟩ := f4
       obtain ⟨rfl, _⟩ := f5
       have key : ∀ m : Int, Value.int .i64 m ∈ [Value.int .i64 a, .int .i64 b, .int .i64 c, .int .i64 d] -> inI m := fun m hm => wf_in (w3 _ hm _ _ rfl)
       exact ⟨lc0, rs, lc1, l, lc2, p, ⟨a, b, c, d, t, o⟩, rfl, a0, a1, a2, ⟨key a (by simp), key b (by simp), key c (by simp), key d (by simp), wf_in (w4 _ (by simp) _ _ rfl), wf_in (w5 _ (by simp) _ _ rfl)⟩, q0, q1, q2⟩
end Go.Proofs.YthdmoahfeimdaaaGreatDoor
