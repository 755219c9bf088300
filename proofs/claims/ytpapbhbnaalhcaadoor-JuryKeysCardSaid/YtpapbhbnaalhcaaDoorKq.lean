import Derived.Test.YtpapbhbnaalhcaaDoorKm
import Derived.Test.YtpapbhbnaalhcaaDoorSxM
import Derived.WideKeyArgs
import Derived.ChangeSame
import Derived.RowKit
import Derived.RowKit3
import Derived.LaidLaws
import Derived.Deep.DeepHandedRow
import Derived.SevenTiedAt
import Derived.JoinedCond
import Derived.OpenShut
import Derived.Deep.Slices
import Derived.Lib.LaidTab
import Derived.LaidSub
namespace Go.Proofs.YtpapbhbnaalhcaaDoor
open Go Go.Sx Go.Proofs
set_option linter.unusedVariables false
set_option maxRecDepth 100000
structure LinV where
 ok : List Rw -> Bool
 k : List Rw -> Nat
 ev : List Rw -> List Evt
 is : Int -> List Rw -> Bool
 ord : Int -> Bool -> List Rw -> List N1
def linQ (σ : Sg) (L : LinV) (st : Int) (b : Bool) (rs : List Rw) : T (SV × List AV × List AV) :=
 .ite (decide (1 <= st /\ st <= 5)) (.ite (L.ok rs) (.ite (decide ((rs.length : Int) > 12)) (errL σ b rs 1)
  (.ite (L.is st rs) (.leaf (.tup [.c (.vs 8 0 (L.ord st b rs).length 1 false), .c (.bl true), .c .inil], [.rowsB b rs], [.ints (L.ord st b rs)])) (.leaf (.tup [.c .snil, .c (.bl false), .c .inil], [.rowsB b rs], []))))
  (errL σ b rs 0)) (errL σ b rs 0)
def linW (q : Int -> Bool -> List Rw -> T (SV × List AV × List AV)) (args : List SV) (l : List AV) : T (SV × List AV × List AV) := match args, l with
 | [.v (.c k), .v (.c (.vs n 0 len 10 false))], [a] => match iOf k, Nat.beq n 7, rowsX a with
   | some st, true, some (b, rs) => .need (decide (len = rs.length /\ rs.length <= 1000)) (q st b rs)
   | _, _, _ => .fail "Linear"
 | _, _ => .fail "Linear"
def linP (σ : Sg) (L : LinV) : List SV -> List AV -> T (SV × List AV × List AV) := linW (linQ σ L)
theorem linW_val {q q' : Int -> Bool -> List Rw -> T (SV × List AV × List AV)} (h : ∀ st b rs, (q st b rs).val = (q' st b rs).val) (args : List SV) (l : List AV) : (linW q args l).val = (linW q' args l).val := by
 unfold linW
 split
 ·split
  ·rename_i len _ _ _ _ st b rs _ _ _
   generalize decide (len = rs.length /\ rs.length <= 1000) = c
   cases c with
   | true => exact h st b rs
   | false => rfl
  ·rfl
 ·rfl
theorem linS_W (σ : Sg) (fm : FI -> FR) : linS σ fm = linW (linV σ fm) := rfl
noncomputable def linT : LinV where
 ok := ofOk
 k := ofK
 ev := ofEv
 is := fun st l => (fmK 14 (inL setsL st true l)).is
 ord := fun st b l => (fmK 14 (inL setsL st b l)).order
theorem is_b {st : Int} {b c : Bool} {l : List Rw} (hl : l.length <= 12) : (fmK 14 (inL setsL st b l)).is = (fmK 14 (inL setsL st c l)).is := by
 have h1 := lin_is (b := b) (st := st) hl
 have h2 := lin_is (b := c) (st := st) hl
 generalize (fmK 14 (inL setsL st b l)).is = x at h1 ⊢
 generalize (fmK 14 (inL setsL st c l)).is = y at h2 ⊢
 have h := h1.trans h2.symm
 cases x <;> cases y <;> simp at h ⊢
theorem linQ_val (σ : Sg) (st : Int) (b : Bool) (rs : List Rw) : (linV σ (fmK 14) st b rs).val = (linQ σ linT st b rs).val := by
 unfold linV linQ
 generalize decide (1 <= st /\ st <= 5) = c1
 cases c1 with
 | false => rw [ivF rfl, ivF rfl]
 | true =>
   rw [ivT rfl, ivT rfl]
   show (T.ite (ofOk rs) _ _).val = (T.ite (ofOk rs) _ _).val
   generalize ofOk rs = c2
   cases c2 with
   | false => rw [ivF rfl, ivF rfl]
   | true =>
     rw [ivT rfl, ivT rfl]
     cases h3 : decide ((rs.length : Int) > 12) with
     | true => rw [ivT rfl, ivT rfl]
     | false =>
       have h3 := of_decide_eq_false h3
       have hl : rs.length <= 12 := by omega
       rw [ivF rfl, ivF rfl, nv (lin_spec rs st b hl).ok]
       have e : linT.is st rs = (fmK 14 (inL setsL st b rs)).is := is_b hl
       have eo : linT.ord st b rs = (fmK 14 (inL setsL st b rs)).order := rfl
       rw [e, eo]
       unfold isL
       generalize (fmK 14 (inL setsL st b rs)).is = c4
       cases c4 with
       | true => rw [ivF (c := !true) rfl, ivT rfl]
       | false => rw [ivT (c := !false) rfl, ivF rfl]
theorem sumG_val {isS : AV -> Nat -> Bool} {M : List Bool} {t u : List SV -> List AV -> T (SV × List AV × List AV)} (h : ∀ args l, (t args l).val = (u args l).val) (args : List SV) (H : Hp AV) : (sumG isS M t args H).val = (sumG isS M u args H).val := by
 unfold sumG
 split
 ·rfl
 ·dsimp only
  split
  ·rw [T.val_bind, T.val_bind, h]
  ·rfl
theorem fnOk_val {σ : Sg} {f : FuncId} {g g' : List SV -> Hp AV -> T (SV × Hp AV)} (h : ∀ args H, (g args H).val = (g' args H).val) (hg : FnOk Tryd.prog (NV σ) f g) : FnOk Tryd.prog (NV σ) f g' :=
 fun args H v H' hr ha hC => hg args H v H' (by rw [h]; exact hr) ha hC
theorem linP_ok {σ : Sg} (ht : TabR σ) : FnOk Tryd.prog (NV σ) 10 (sumG isS linM (linP σ linT)) := by
 have h := linS_ok (contS_ok ht) 14
 rw [linS_W] at h
 exact fnOk_val (sumG_val (linW_val (linQ_val σ))) h
def ofP (σ : Sg) (L : LinV) (args : List SV) (l : List AV) : T (SV × List AV × List AV) := match args, l with
 | [.v (.c (.vs n 0 len 10 false))], [a] => match Nat.beq n 7, rowsX a with
   | true, some (b, rs) => .need (decide (len = rs.length /\ rs.length <= 1000))
      (.ite (L.ok rs) (.leaf (.tup [.c (.vs (7 + 1) 0 (L.k rs) 8 false), .c .inil], [a], [.events (L.ev rs)]))
        (.leaf (.tup [.c .snil, .c (errC σ 0)], [a], [])))
   | _, _ => .fail "Of"
 | _, _ => .fail "Of"
theorem ofP_ok {σ : Sg} : FnOk Tryd.prog (NV σ) 11 (sumG isS rowM (ofP σ linT)) := ofS_ok
theorem awake_val (σ : Sg) : (awakeR σ).val = some (.v (.c (.bl true)), [], []) := by
 obtain ⟨⟨b, t⟩, h1, h2⟩ := Option.map_eq_some_iff.1 (awake_cut σ)
 simp only [Prod.mk.injEq] at h2
 rw [cutT_val h1 (by rw [h2.1]; simp), h2.2]
def treeT (args : List SV) (l : List AV) : T (SV × List AV × List AV) :=
 match args, l with
 | [], [] => .leaf (.v (.c (.bl true)), [], [])
 | _, _ => .fail "arguments"
theorem awake_ok {σ : Sg} (ht : TabR σ) : FnOk Tryd.prog (NV σ) 7 (sumG isS linM treeT) := by
 refine sumG_ok isS_ok rfl fun args l v l' nw h hl hargs => ?_
 unfold treeT at h
 split at h
 ·simp only [T.val, Option.some.injEq, Prod.mk.injEq] at h
  obtain ⟨rfl, rfl, rfl⟩ := h
  exact (runN_ok lpsV (tabAw_ok ht) (M := linM) rfl (l := []) (fun x hx => by cases hx) (awake_val σ)).1
 ·simp [T.val] at h
def tabY (σ : Sg) (L : LinV) : Tab := tabAdd 7 (sumG isS linM treeT) (tabAdd 12 sumIs (tabAdd 10 (packT (sumG isS linM (linP σ L))) (tabAdd 11 (packT (sumG isS rowM (ofP σ L))) fun _ => none)))
theorem tabY_ok {σ : Sg} (ht : TabR σ) : TabOk Tryd.prog (NV σ) (tabY σ linT) :=
 tabAdd_ok (lp := noLp) (awake_ok ht) (tabAdd_ok (lp := noLp) is_ok (tabAdd_ok (lp := noLp) (packT_ok (linP_ok ht)) (tabAdd_ok (lp := noLp) (packT_ok ofP_ok) fun f g h => by cases h)))
def has77 (l : List Rw) : Bool := l.any fun r => r.thread == 77
theorem has77_cons (r : Rw) (l : List Rw) : has77 (r :: l) = (r.thread == 77 || has77 l) := rfl
def at77 : List Rw -> Nat
 | [] => 0
 | r :: l => match r.thread == 77 with | true => 0 | false => at77 l + 1
def needA (n len : Nat) (i : Int) : Bool := match decide (0 <= i /\ i < (n : Int)) with
 | true => decide (0 + i.toNat < len)
 | false => false
theorem plIt (n : Int) : Plain (.v (.c (.it .i64 n))) := by
 intro c hc
 simp [V1.cells] at hc
 subst hc; rfl
theorem plTr : Plain (.v (.c (.bl true))) := by
 intro c hc
 simp [V1.cells] at hc
 subst hc; rfl
theorem closed_ks {N : Env AV} {ks : List Nat} {E : Ev} {nt : Nat} {H : Hp AV} (h : ∀ k ∈ ks, ClV H (Sx.look E k)) (hH : ∀ n x, hget H n = some x -> ClL H x.cellsOf) : Closed N { E := only ks E nt, H := H } := by
 refine ⟨fun k => ?_, hH⟩
 show ClV H (Sx.look (only ks E nt) k)
 rw [only_look]
 by_cases hk : k < nt
 ·rw [if_pos hk]
  cases hh : hasN ks k with
  | true => exact h k ((hasN_iff _ _).1 hh)
  | false => trivial
 ·rw [if_neg hk]; exact undef_cl _
end Go.Proofs.YtpapbhbnaalhcaaDoor

namespace Go.Proofs.YtpapbhbnaalhcaaDoor
open Go Go.Sx Go.Proofs
set_option linter.unusedVariables false
set_option maxRecDepth 100000
theorem finN_app {l m : List Rw} {i : Nat} (h : i < l.length) : finN (l ++ m) i = finN l i := by unfold finN; rw [rowAt_app h]
theorem finN_end {l : List Rw} {x : Rw} : finN (l ++ [x]) l.length = x.fin := by unfold finN; rw [rowAt_end]
theorem ahN_app {l m : List Rw} {i j : Nat} (hi : i < l.length) (hj : j < l.length) : ahN (l ++ m) i j = ahN l i j := by unfold ahN; rw [rowAt_app hi, rowAt_app hj]
theorem len_app1 {l : List Rw} {x : Rw} : (l ++ [x]).length = l.length + 1 := by simp
theorem ahead_fin {x r : Rw} (h : aheadB x r = true) : x.fin = true /\ x.till < r.frm := by
 unfold aheadB at h
 cases hf : x.fin with
 | true => rw [hf] at h; exact ⟨rfl, of_decide_eq_true h⟩
 | false => rw [hf] at h; cases h
theorem ahead_of {x r : Rw} (hf : x.fin = true) (h : x.till < r.frm) : aheadB x r = true := by
 unfold aheadB
 rw [hf]
 exact decide_eq_true h
theorem ahead_no {x r : Rw} (h : x.fin = true -> ¬ x.till < r.frm) : aheadB x r = false := by
 cases hh : aheadB x r with
 | false => rfl
 | true => exact absurd (ahead_fin hh).2 (h (ahead_fin hh).1)
theorem go_cut {l : List Rw} {x : Rw} (hx : ∀ j, j < l.length -> finN l j = true -> aheadB (rowAt l j) x = true) : ∀ (os : List Nat) (s : Nat) (m : CreedM), s.testBit l.length = false -> Go (l ++ [x]) s m os -> ∃ os', Go l s m os'
 | [], s, m, hs, h => ⟨[], fun i hi hf => h i (by rw [len_app1]; omega) (by rw [finN_app hi]; exact hf)⟩
 | i :: os, s, m, hs, h => by
   obtain ⟨⟨h1, h2, h3⟩, h4, h5⟩ := h
   rw [len_app1] at h1
   by_cases hi : i < l.length
   ·rw [rowAt_app hi] at h4 h5
    obtain ⟨os', g⟩ := go_cut hx os (s ||| 2 ^ i) _ (by rw [or_bit, hs, decide_eq_false (by omega)]; rfl) h5
    exact ⟨i :: os', ⟨hi, h2, fun j hj ha => h3 j (by rw [len_app1]; omega) (by rw [ahN_app hi hj]; exact ha)⟩, h4, g⟩
   ·have e : i = l.length := by omega
    subst e
    refine ⟨[], fun j hj hf => h3 j (by rw [len_app1]; omega) ?_⟩
    unfold ahN
    rw [rowAt_app hj, rowAt_end]
    exact hx j hj hf
theorem go_more {l : List Rw} {x : Rw} (hf : x.fin = false) : ∀ (os : List Nat) (s : Nat) (m : CreedM), Go l s m os -> Go (l ++ [x]) s m os
 | [], s, m, h => fun i hi hfi => by
   rw [len_app1] at hi
   by_cases e : i < l.length
   ·rw [finN_app e] at hfi; exact h i e hfi
   ·have e : i = l.length := by omega
    subst e
    rw [finN_end, hf] at hfi; cases hfi
 | i :: os, s, m, h => by
   obtain ⟨⟨h1, h2, h3⟩, h4, h5⟩ := h
   refine ⟨⟨by rw [len_app1]; omega, h2, fun j hj ha => ?_⟩, by rw [rowAt_app h1]; exact h4, by rw [rowAt_app h1]; exact go_more hf os _ _ h5⟩
   rw [len_app1] at hj
   by_cases e : j < l.length
   ·rw [ahN_app h1 e] at ha; exact h3 j e ha
   ·have e : j = l.length := by omega
    subst e
    unfold ahN at ha
    rw [rowAt_end] at ha
    rw [(ahead_fin ha).1] at hf; cases hf
theorem go_full {l : List Rw} {x : Rw} {st : Int} (hl : ∀ i, i < l.length -> aheadB x (rowAt l i) = false) (hxx : aheadB x x = false) (hp : ∀ m : CreedM, m.st = st -> (perfM m x).1 = true) :
 ∀ (os : List Nat) (s : Nat) (m : CreedM) (b : Nat), COk b m -> m.st = st -> s.testBit l.length = false -> Go l s m os -> Go (l ++ [x]) s m (os ++ [l.length])
 | [], s, m, b, hb, hm, hs, h => by
   refine ⟨⟨by rw [len_app1]; omega, hs, fun j hj ha => ?_⟩, by rw [rowAt_end]; exact hp m hm, fun i hi hf => ?_⟩
   ·rw [len_app1] at hj
    unfold ahN at ha
    rw [rowAt_end] at ha
    by_cases e : j < l.length
    ·rw [rowAt_app e] at ha
     exact h j e (ahead_fin ha).1
    ·have e : j = l.length := by omega
     subst e
     rw [rowAt_end, hxx] at ha; cases ha
   ·rw [len_app1] at hi
    rw [or_bit]
    by_cases e : i < l.length
    ·rw [finN_app e] at hf
     rw [h i e hf]; rfl
    ·have e : l.length = i := by omega
     rw [decide_eq_true e]; simp
 | i :: os, s, m, b, hb, hm, hs, h => by
   obtain ⟨⟨h1, h2, h3⟩, h4, h5⟩ := h
   obtain ⟨c1, c2⟩ := perf_ok (r := rowAt l i) hb
   refine ⟨⟨by rw [len_app1]; omega, h2, fun j hj ha => ?_⟩, by rw [rowAt_app h1]; exact h4, ?_⟩
   ·rw [len_app1] at hj
    by_cases e : j < l.length
    ·rw [ahN_app h1 e] at ha; exact h3 j e ha
    ·have e : j = l.length := by omega
     subst e
     unfold ahN at ha
     rw [rowAt_end, rowAt_app h1, hl i h1] at ha; cases ha
   ·rw [rowAt_app h1]
    exact go_full hl hxx hp os _ _ (b + 1) c1 (c2.trans hm) (by rw [or_bit, hs, decide_eq_false (by omega)]; rfl) h5
theorem cok0 (st : Int) : COk 0 ⟨st, [], []⟩ := ⟨Nat.le_refl _, Nat.le_refl _, fun v hv => (by cases hv), fun p hp => (by cases hp)⟩
theorem lin_more {l : List Rw} {st : Int} (h : WF (ofK l) l) {x : Rw} (hf : x.fin = false) (hx : x.frm = (ofK l : Int)) : Lin st (l ++ [x]) ↔ Lin st l := by
 constructor
 ·rintro ⟨os, ho⟩
  refine go_cut (fun j hj hfj => ahead_of hfj ?_) os 0 _ (Nat.zero_testBit _) ho
  rw [hx]
  exact (h.fin j hj hfj).2
 ·rintro ⟨os, ho⟩
  exact ⟨os, go_more hf os 0 _ ho⟩
theorem ofK_app (l : List Rw) (x : Rw) : ofK (l ++ [x]) = ofK l + (if x.fin then 2 else 1) := by
 unfold ofK
 rw [List.filter_append, List.length_append, List.length_append]
 cases hf : x.fin <;> simp [hf] <;> omega
theorem wf_more {l : List Rw} (h : WF (ofK l) l) {x : Rw} (hf : x.fin = false) (hx : x.frm = (ofK l : Int)) (h0 : x.code = 0 /\ x.aval = 0 /\ x.till = 0) (ht : ∀ i, i < l.length -> (rowAt l i).thread ≠ x.thread) : WF (ofK (l ++ [x])) (l ++ [x]) := by
 rw [ofK_app, hf]
 exact h.push hx (fun i hi e => absurd e (ht i hi)) ⟨hf, h0⟩
theorem wf_full {l : List Rw} (h : WF (ofK l) l) {x : Rw} (hf : x.fin = true) (hx : x.frm = (ofK l : Int)) (hx2 : x.till = ((ofK l + 1 : Nat) : Int)) (ht : ∀ i, i < l.length -> (rowAt l i).thread ≠ x.thread) : WF (ofK (l ++ [x])) (l ++ [x]) := by
 rw [ofK_app, hf]
 let r : Rw := ⟨x.thread, x.kind, x.key, x.val, x.tall, 0, 0, x.frm, 0, false⟩
 have h1 : WF (ofK l + 1) (l ++ [r]) := h.push (r := r) hx (fun i hi e => absurd e (ht i hi)) ⟨rfl, rfl, rfl, rfl⟩
 have h2 := h1.close (k := l.length) (by simp) (by unfold finN; rw [rowAt_end]) (r := x) (by rw [rowAt_end]) (by rw [rowAt_end]) hx2 hf
 have e : (l ++ [r]).set l.length x = l ++ [x] := by
  rw [List.set_append_right _ _ (Nat.le_refl _), Nat.sub_self]
  rfl
 rw [e] at h2
 exact h2
theorem lin_full {l : List Rw} {st : Int} (h : WF (ofK l) l) {x : Rw} (hf : x.fin = true) (hx : x.frm = (ofK l : Int)) (hx2 : x.till = ((ofK l + 1 : Nat) : Int)) (hp : ∀ m : CreedM, m.st = st -> (perfM m x).1 = true) : Lin st (l ++ [x]) ↔ Lin st l := by
 constructor
 ·rintro ⟨os, ho⟩
  refine go_cut (fun j hj hfj => ahead_of hfj ?_) os 0 _ (Nat.zero_testBit _) ho
  rw [hx]
  exact (h.fin j hj hfj).2
 ·rintro ⟨os, ho⟩
  refine ⟨os ++ [l.length], go_full (fun i hi => ahead_no fun _ => ?_) (ahead_no fun _ => by omega) hp os 0 _ 0 (cok0 st) rfl (Nat.zero_testBit _) ho⟩
  have := (h.lo i hi).2
  omega
def oneRw (i : Nat) (o : O) (a : An) : Rw := ⟨0, o.kind, o.key, o.val, o.tall, a.code, a.val, 2 * (i : Int), 2 * (i : Int) + 1, true⟩
def oneL (n : Nat) (f : Nat -> O) (g : Nat -> An) : List Rw := (List.range n).map fun i => oneRw i (f i) (g i)
theorem oneL_len (n : Nat) (f : Nat -> O) (g : Nat -> An) : (oneL n f g).length = n := by simp [oneL]
theorem oneL_at {n : Nat} {f : Nat -> O} {g : Nat -> An} {i : Nat} (h : i < n) : rowAt (oneL n f g) i = oneRw i (f i) (g i) := by
 simp [rowAt, oneL, List.getD, h]
noncomputable def mayAll : CreedM -> List Rw -> Bool
 | _, [] => true
 | m, r :: l => (perfM m r).1 && mayAll (perfM m r).2 l
theorem one_drop {n : Nat} {f : Nat -> O} {g : Nat -> An} {i : Nat} (h : i < n) : (oneL n f g).drop i = oneRw i (f i) (g i) :: (oneL n f g).drop (i + 1) := by
 rw [drop_cons (oneL n f g) krows.dflt (by rw [oneL_len]; exact h)]
 exact congrArg (· :: _) (oneL_at h)
theorem go_one {n : Nat} {f : Nat -> O} {g : Nat -> An} : ∀ (os : List Nat) (i s : Nat) (m : CreedM), i <= n -> (∀ k, s.testBit k = decide (k < i)) -> Go (oneL n f g) s m os -> os = List.range' i (n - i) /\ mayAll m ((oneL n f g).drop i) = true
 | [], i, s, m, hi, hs, h => by
   have e : i = n := by
    rcases Nat.lt_or_ge i n with hh | hh
    ·have := h i (by rw [oneL_len]; exact hh) (by unfold finN; rw [oneL_at hh]; rfl)
     rw [hs i, decide_eq_false (by omega)] at this; cases this
    ·omega
   subst e
   refine ⟨by simp, ?_⟩
   have : (oneL i f g).drop i = [] := List.drop_of_length_le (by rw [oneL_len]; exact Nat.le_refl _)
   rw [this]; rfl
 | i0 :: os, i, s, m, hi, hs, h => by
   obtain ⟨⟨h1, h2, h3⟩, h4, h5⟩ := h
   rw [oneL_len] at h1
   rw [hs] at h2
   have h2 := of_decide_eq_false h2
   have e : i0 = i := by
    rcases Nat.lt_or_ge i i0 with hh | hh
    ·have hin : i < n := by omega
     have := h3 i (by rw [oneL_len]; exact hin) (by
      unfold ahN
      rw [oneL_at hin, oneL_at h1]
      exact ahead_of rfl (by show 2 * (i : Int) + 1 < 2 * (i0 : Int); omega))
     rw [hs, decide_eq_false (by omega)] at this; cases this
    ·omega
   subst e
   rw [oneL_at h1] at h4 h5
   obtain ⟨g1, g2⟩ := go_one os (i0 + 1) _ _ (by omega) (fun k => by
    rw [or_bit, hs]
    by_cases hk : k < i0
    ·rw [decide_eq_true hk, decide_eq_true (show k < i0 + 1 by omega)]; rfl
    ·by_cases hk2 : i0 = k
     ·rw [decide_eq_true hk2, decide_eq_true (show k < i0 + 1 by omega)]; simp
     ·rw [decide_eq_false hk, decide_eq_false hk2, decide_eq_false (by omega)]; rfl) h5
   refine ⟨?_, ?_⟩
   ·rw [show n - i0 = (n - (i0 + 1)) + 1 by omega, List.range'_succ, g1]
   ·rw [one_drop h1, mayAll, h4, g2]; rfl
theorem one_go {n : Nat} {f : Nat -> O} {g : Nat -> An} : ∀ (k i s : Nat) (m : CreedM), i + k = n -> (∀ k, s.testBit k = decide (k < i)) -> mayAll m ((oneL n f g).drop i) = true -> Go (oneL n f g) s m (List.range' i k)
 | 0, i, s, m, hi, hs, h => fun j hj hf => by
   rw [oneL_len] at hj
   rw [hs]; exact decide_eq_true (by omega)
 | k + 1, i, s, m, hi, hs, h => by
   have hin : i < n := by omega
   rw [one_drop hin, mayAll, Bool.and_eq_true] at h
   rw [List.range'_succ]
   refine ⟨⟨by rw [oneL_len]; exact hin, by rw [hs]; exact decide_eq_false (by omega), fun j hj ha => ?_⟩, by rw [oneL_at hin]; exact h.1, ?_⟩
   ·rw [oneL_len] at hj
    unfold ahN at ha
    rw [oneL_at hin, oneL_at hj] at ha
    have h6 : 2 * (j : Int) + 1 < 2 * (i : Int) := (ahead_fin ha).2
    rw [hs]; exact decide_eq_true (by omega)
   ·rw [oneL_at hin]
    refine one_go k (i + 1) _ _ (by omega) (fun k => ?_) h.2
    rw [or_bit, hs]
    by_cases hk : k < i
    ·rw [decide_eq_true hk, decide_eq_true (show k < i + 1 by omega)]; rfl
    ·by_cases hk2 : i = k
     ·rw [decide_eq_true hk2, decide_eq_true (show k < i + 1 by omega)]; simp
     ·rw [decide_eq_false hk, decide_eq_false hk2, decide_eq_false (by omega)]; rfl
theorem lin_one {n : Nat} {f : Nat -> O} {g : Nat -> An} {st : Int} : Lin st (oneL n f g) ↔ mayAll ⟨st, [], []⟩ (oneL n f g) = true := by
 constructor
 ·rintro ⟨os, ho⟩
  have := (go_one os 0 0 _ (Nat.zero_le _) (fun k => by rw [Nat.zero_testBit, decide_eq_false (by omega)]) ho).2
  rwa [List.drop_zero] at this
 ·intro h
  exact ⟨_, one_go n 0 0 _ (by omega) (fun k => by rw [Nat.zero_testBit, decide_eq_false (by omega)]) (by rw [List.drop_zero]; exact h)⟩
theorem one_order {n : Nat} {f : Nat -> O} {g : Nat -> An} {st : Int} {os : List Nat} (h : Go (oneL n f g) 0 ⟨st, [], []⟩ os) : os = List.range n := by
 have := (go_one os 0 0 _ (Nat.zero_le _) (fun k => by rw [Nat.zero_testBit, decide_eq_false (by omega)]) h).1
 rw [this, Nat.sub_zero, List.range_eq_range']
theorem ofK_one (n : Nat) (f : Nat -> O) (g : Nat -> An) : ofK (oneL n f g) = 2 * n := by
 unfold ofK
 have : (oneL n f g).filter Rw.fin = oneL n f g := List.filter_eq_self.2 fun r hr => by
  obtain ⟨i, _, rfl⟩ := List.mem_map.1 hr
  rfl
 rw [this, oneL_len]; omega
theorem wf_one (n : Nat) (f : Nat -> O) (g : Nat -> An) : WF (ofK (oneL n f g)) (oneL n f g) := by
 rw [ofK_one]
 refine ⟨fun i j hij hj => ?_, fun i hi => ?_, fun i hi hf => ?_, fun i j hi hj hf => ?_, fun i j hi hj hij hf hg => ?_, fun i j hij hj hth => ?_, fun i hi hf => ?_⟩ <;> simp only [oneL_len] at *
 ·rw [oneL_at hj, oneL_at (by omega)]; simp only [oneRw]; omega
 ·rw [oneL_at hi]; simp only [oneRw]; omega
 ·rw [oneL_at hi]; simp only [oneRw]; omega
 ·rw [oneL_at hi, oneL_at hj]; simp only [oneRw]; omega
 ·rw [oneL_at hi, oneL_at hj]; simp only [oneRw]; omega
 ·unfold finN
  rw [oneL_at hj, oneL_at (by omega)]
  exact ⟨rfl, by simp only [oneRw]; omega⟩
 ·unfold finN at hf
  rw [oneL_at hi] at hf; cases hf
end Go.Proofs.YtpapbhbnaalhcaaDoor

namespace Go.Sx
open Go.ChangeShapes Go.WideShapes Go.RowKit
theorem Quiet.same {W W' : World} (h : Quiet W W') {p : MemPlace} (hp : p.block < W.heap.size) : W.sameAt W' p := by
 cases p with
 | cell b off =>
   have := h.block b hp
   simp only [World.sameAt, World.cell?, this]
 | map b => exact h.block b hp
theorem Quiet.frozen {W W' : World} (h : Quiet W W') (a : Addr) (ha : a.block < W.heap.size) : W'.frozen? a = W.frozen? a := by
 simp only [World.frozen?, h.block a.block ha]
theorem Quiet.kept {W W' : World} (h : Quiet W W') (may : MemPlace -> Prop) : W.keptBut W' may := by
 refine ⟨h.os, h.output, fun i hi => ?_⟩
 rw [h.block i hi]
 cases hx : W.heap[i]? with
 | none => trivial
 | some o => cases o <;> simp
section
variable {H : Type} {enc : TypeId × Value -> H} {P : Program}
theorem trodAll_stays (hl : laidOutB P = true) {W W' : World} {sp' : Nat -> Bool} : ∀ {ts : List TypeId} {vs : List Value} {ds : List (DataW H)} {ps : List MemPlace}, (∀ t ∈ ts, P.readableRec t = true /\ t < P.types.size) ->
 DataW.TrodAll enc P W 0 (fun _ => true) true ts vs ds ps -> (∀ p ∈ ps, W.sameAt W' p) -> (∀ p ∈ ps, sp' p.block = true) -> DataW.TrodAll enc P W' 0 sp' true ts vs ds ps
 | [], [], [], _, _, h, _, _ => h
 | t :: ts, v :: vs, d :: ds, ps, ht, h, hs, hsp => by
   obtain ⟨p, q, h1, h2, rfl⟩ := h
   have := ht t (List.mem_cons_self ..)
   refine ⟨p, q, WideElems.Trod_stays hl this.1 this.2 h1 (fun x hx => hs x (List.mem_append_left _ hx)) (fun x hx => hsp x (List.mem_append_left _ hx)), ?_, rfl⟩
   exact trodAll_stays hl (fun x hx => ht x (List.mem_cons_of_mem _ hx)) h2 (fun x hx => hs x (List.mem_append_right _ hx)) (fun x hx => hsp x (List.mem_append_right _ hx))
 | [], [], _ :: _, _, _, h, _, _ => by simp [DataW.TrodAll] at h
 | [], _ :: _, _, _, _, h, _, _ => by simp [DataW.TrodAll] at h
 | _ :: _, [], _, _, _, h, _, _ => by simp [DataW.TrodAll] at h
 | _ :: _, _ :: _, [], _, _, h, _, _ => by simp [DataW.TrodAll] at h
theorem post_of_quiet (hl : laidOutB P = true) {f : Func} {s : ChangeSpec} {apart fresh handsOn again : Bool} {W W' : World} {args : Array Value} {ds gs : List (DataW H)} {before : List MemPlace} {tb : TypeId}
 (hvars : s.vars = []) (hpar : ∀ t ∈ f.params.toList, P.readableRec t = true /\ t < P.types.size) (hres : f.resultTypes = #[tb]) (htb : P.underlying tb = some .bool)
 (hW : DataW.Whole enc P f.params.toList s.vars apart W args.toList ds gs before)
 (hspec : s.fn H ds = { results := [.lit (.bool true)], args := ds }) (hq : Quiet W W') :
 s.post enc P f apart fresh handsOn again W args (.bool true) W' := by
 have hW' := hW
 obtain ⟨p, q, hA, hV, rfl, hfz, hnd⟩ := hW
 rw [hvars] at hV
 obtain ⟨rfl, rfl⟩ := trodVars_none hV
 have hlt := hW'.lt
 simp only [List.append_nil] at hW' hlt hfz
 have hspec' : s.fn H (ds ++ []) = { results := [.lit (.bool true)], args := ds } := by rw [List.append_nil]; exact hspec
 have hok := ok_one (P := P) (W' := W') (f := f) (v := .bool true) hres rfl (okWide_bool_mk htb true)
 have hold : ∀ p' ∈ p, (fun b => decide (b < W.heap.size)) p'.block = true := fun p' hp => by simpa using hlt p' hp
 have hargs : ∀ sp : Nat -> Bool, (∀ x ∈ p, sp x.block = true) -> DataW.TrodAll enc P W' 0 sp true f.params.toList args.toList (s.fn H (ds ++ [])).args p := by
  intro sp hsp
  rw [hspec']
  exact trodAll_stays hl hpar hA (fun x hx => hq.same (hlt x hx)) hsp
 have hres' : ∀ (b : Nat) (sp : Nat -> Bool) (hd : Bool), DataW.TrodAll enc P W' b sp hd f.resultTypes.toList ((Value.bool true).resultList f.resultTypes.size) (s.fn H (ds ++ [])).results [] := by
  intro b sp hd
  rw [hspec', hres]
  exact ⟨[], [], shut_bool htb _, rfl, rfl⟩
 have hvars' : ∀ sp : Nat -> Bool, DataW.TrodVars enc P W' sp s.vars (s.fn H (ds ++ [])).vars [] := by
  intro sp
  rw [hspec', hvars]
  exact rfl
 refine ⟨ds, [], p, [], p, [], hW', hres' _ _ _, hargs _ hold, hvars' _, World.keptBut_mono (fun x hx => ⟨hx, Or.inr (by simpa using hx)⟩) (hq.kept _), fun _ => ?_⟩
 obtain ⟨_, _, _, _, _, hz, hn⟩ := hW'
 refine ⟨hok, _, _, ([] ++ p) ++ [], ⟨[] ++ p, [], trodAll_append (hargs _ (fun _ _ => rfl)) (hres' _ _ _), hvars' _, rfl, ?_, ?_⟩, ?_⟩
 ·intro b off hp
  simp only [List.nil_append, List.append_nil] at hp
  rw [hq.frozen _ (hlt _ hp)]
  exact hfz b off hp
 ·intro ha
  simpa using hnd ha
 ·intro x hx _
  simpa using hx
end
structure SentTy (P : Program) (ti tp te ts : TypeId) : Prop where
 hi : ∃ ms, P.underlying ti = some (.interface ms)
 row : ∀ u, P.typeName? 3 u = some "*errors.errorString" -> u = tp
 hp : P.underlying tp = some (.pointer te)
 he : ∃ f : Field, P.underlying te = some (.struct #[f]) /\ f.type = ts /\ f.offset = 0
 hs : P.underlying ts = some .string
 hc : P.cellsOf te = 1
 hcs : P.cellsOf ts = 1
def sent (text : List UInt8) : DataW Unit := .iface "*errors.errorString" (.ptr (.agg [.lit (.string text)]))
theorem sents_of_laid {P : Program} {ti tp te ts : TypeId} (S : SentTy P ti tp te ts) {W : World} : ∀ {l : List (String × List UInt8)} {gs : List Nat} {ps : List MemPlace},
 l.map (fun x => P.globalNamed x.1) = gs.map some -> (∀ g ∈ gs, (P.globals[g]?).map (·.type) = some ti) ->
 DataW.LaidVars P W (l.map fun x => (x.1, sent x.2)) ps -> ps.Nodup -> (∀ b off, MemPlace.cell b off ∈ ps -> (∃ c t, W.heap[b]? = some (.cells c t (0, 0))) /\ ∀ u v, W.cell? ⟨b, off, none⟩ = some (.iface u v) -> Value.okWide P W .any 0 u v) ->
 ∃ ads : List Addr, ads.length = gs.length /\ ads.Nodup /\ (∀ a ∈ ads, MemPlace.cell a.block a.off ∈ ps) /\ ∀ (i g : Nat) (a : Addr), gs[i]? = some g -> ads[i]? = some a -> ∃ t, W.heap[g]? = some (.cells #[.iface tp (.pointer (some a))] t (0, 0))
 | [], [], _, _, _, _, _, _ => ⟨[], rfl, List.nodup_nil, (by intro a h; cases h), (by intro i g a h; simp at h)⟩
 | [], _ :: _, _, h, _, _, _, _ => by simp at h
 | _ :: _, [], _, h, _, _, _, _ => by simp at h
 | (n, text) :: l, g :: gs, ps, hn, ht, h, hnd, hr => by
   simp only [List.map_cons, List.cons.injEq] at hn
   obtain ⟨g', t, cs, fuel, p, q, hg, hty, hv, hd, hq, rfl⟩ := h
   obtain rfl := Option.some.inj (hn.1.symm.trans hg)
   obtain rfl := Option.some.inj ((ht g (List.mem_cons_self ..)).symm.trans hty)
   obtain ⟨l0⟩ := cs
   obtain ⟨ms, hi⟩ := S.hi
   obtain ⟨f, he, hft, hfo⟩ := S.he
   have ok0 : ∀ u v, l0 = [.iface u v] -> Value.okWide P W .any 0 u v := fun u v e => by
    subst e
    exact (hr g 0 (by simp [MemPlace.row])).2 u v (by simpa using World.var?_cell hg hv 0)
   obtain ⟨a, s, rfl, hc0, hs0, hz0, rfl⟩ := errorString_of_trod hi S.row S.hp he hft hfo S.hs S.hc S.hcs hd ok0
   have hnd' := List.nodup_append.1 hnd
   obtain ⟨ads, h1, h2, h3, h4⟩ := sents_of_laid S hn.2 (fun x hx => ht x (List.mem_cons_of_mem _ hx)) hq hnd'.2.1 (fun b off hb => hr b off (List.mem_append_right _ hb))
   refine ⟨a :: ads, by simp [h1], List.nodup_cons.2 ⟨fun ha => ?_, h2⟩, ?_, ?_⟩
   ·exact hnd'.2.2 (MemPlace.cell a.block a.off) (by simp [MemPlace.row]) _ (h3 a ha) rfl
   ·intro x hx
    rcases List.mem_cons.1 hx with rfl | hx
    ·exact List.mem_append_left _ (List.mem_append_right _ (by simp [MemPlace.row]))
    ·exact List.mem_append_right _ (h3 x hx)
   ·intro i g' a' hgi hai
    cases i with
    | zero =>
      simp only [List.getElem?_cons_zero, Option.some.injEq] at hgi hai
      subst hgi; subst hai
      obtain ⟨c, t, hb⟩ := (hr g 0 (by simp [MemPlace.row])).1
      refine ⟨t, ?_⟩
      simp only [World.var?, hg, Option.bind_some, hb] at hv
      rw [hb]
      simpa using hv
    | succ i =>
      simp only [List.getElem?_cons_succ] at hgi hai
      exact h4 i g' a' hgi hai
end Go.Sx

namespace Go.Sx
open Go.ChangeShapes Go.WideShapes
def flatOk : List FK -> List Value -> Prop
 | [], [] => True
 | .bool :: ks, .bool _ :: vs => flatOk ks vs
 | .int k :: ks, .int k' _ :: vs => k' = k /\ flatOk ks vs
 | .str :: ks, .string _ :: vs => flatOk ks vs
 | _, _ => False
theorem flatOk_append : ∀ {ks ks' : List FK} {vs vs' : List Value}, flatOk ks vs -> flatOk ks' vs' -> flatOk (ks ++ ks') (vs ++ vs')
 | [], _, [], _, _, h' => h'
 | [], _, _ :: _, _, h, _ => by simp [flatOk] at h
 | k :: _, _, [], _, h, _ => by cases k <;> simp [flatOk] at h
 | k :: ks, ks', v :: vs, vs', h, h' => by
   cases k <;> cases v <;> first | exact flatOk_append (ks := ks) (vs := vs) h h' | exact ⟨h.1, flatOk_append (ks := ks) (vs := vs) h.2 h'⟩ | exact absurd h (by simp [flatOk])
theorem cellsOf_size {P : Program} {t : TypeId} {n : Nat} (h : sizeT P t = some n) : P.cellsOf t = n := by
 unfold sizeT at h
 unfold Program.cellsOf
 cases hi : P.info? t with
 | none => rw [hi] at h; cases h
 | some i => rw [hi] at h; cases h; rfl
section
variable {H : Type} {enc : TypeId × Value -> H} {P : Program} {w : World} {base : Nat} {sp : Nat -> Bool} {held : Bool}
theorem flat_fields {rec : TypeId -> Option (List FK)} {cs : List Value} {n : Nat}
 (hrec : ∀ t ks vs x, rec t = some ks -> DataW.trod enc P w base sp held n t vs = some x -> P.cellsOf t = ks.length -> flatOk ks vs) :
 ∀ (fs : List Field) (off : Nat) (ks : List FK), flatFs P rec fs off = some ks -> (∀ f ∈ fs, ∃ y, DataW.trod enc P w base sp held n f.type ((cs.drop f.offset).take (P.cellsOf f.type)) = some y) -> flatOk ks ((cs.drop off).take ks.length)
 | [], off, ks, h, _ => by
   simp only [flatFs, Option.some.injEq] at h
   subst h
   simp [flatOk]
 | f :: fs, off, ks, h, hf => by
   simp only [flatFs] at h
   split at h
   ·cases h
   ·split at h
    ·cases h
    ·rename_i hoff
     have hoff := (beq_iff _ _).1 hoff
     split at h
     ·cases h
     ·rename_i k1 hk1
      split at h
      ·cases h
      ·rename_i m hm
       split at h
       ·cases h
       ·rename_i hlen
        have hlen := (beq_iff _ _).1 hlen
        split at h
        ·rename_i l hl
         cases h
         have hc := cellsOf_size hm
         obtain ⟨y, hy⟩ := hf f (List.mem_cons_self ..)
         have h1 := hrec f.type k1 _ y hk1 hy (hc.trans hlen)
         rw [hoff, hc, hlen] at h1
         have h2 := flat_fields hrec fs (off + m) l hl (fun g hg => hf g (List.mem_cons_of_mem _ hg))
         have e : (cs.drop off).take (k1 ++ l).length = (cs.drop off).take k1.length ++ (cs.drop (off + m)).take l.length := by
          rw [List.length_append, List.take_add, List.drop_drop, hlen]
         rw [e]
         exact flatOk_append h1 h2
        ·cases h
theorem trod_flat : ∀ (d n : Nat) (t : TypeId) (ks : List FK) (cs : List Value) (x : DataW H × List MemPlace), flatT P d t = some ks -> DataW.trod enc P w base sp held n t cs = some x -> P.cellsOf t = ks.length -> flatOk ks cs
 | 0, _, _, _, _, _, h, _, _ => by simp [flatT] at h
 | d + 1, n, t, ks, cs, x, h, ht, hc => by
   simp only [flatT] at h
   split at h
   ·rename_i hu
    cases h
    obtain ⟨b, rfl, _⟩ := DataW.trod_bool hu ht
    simp [flatOk]
   ·rename_i k hu
    cases h
    obtain ⟨m, rfl, _⟩ := DataW.trod_int hu ht
    simp [flatOk]
   ·rename_i hu
    cases h
    obtain ⟨m, rfl, _⟩ := DataW.trod_string hu ht
    simp [flatOk]
   ·rename_i fs hu
    split at h
    ·cases h
    ·obtain ⟨xs, m, rfl, _, hl, hxl, hx⟩ := DataW.trod_struct hu ht
     have := flat_fields (H := H) (enc := enc) (w := w) (base := base) (sp := sp) (held := held) (n := m) (cs := cs) (fun t ks vs x h1 h2 h3 => trod_flat d m t ks vs x h1 h2 h3) fs.toList 0 ks h (fun f hf => by
      obtain ⟨i, hi⟩ := List.mem_iff_getElem?.1 hf
      have hi' : fs[i]? = some f := by simpa using hi
      have hlt : i < xs.length := by rw [hxl]; exact (Array.getElem?_eq_some_iff.1 hi').1
      exact ⟨xs[i], by rw [hx i f hi', List.getElem?_eq_getElem hlt]⟩)
     rw [List.drop_zero, List.take_of_length_le (by omega)] at this
     exact this
   ·rename_i len e hu
    split at h
    ·rename_i sz hs
     obtain ⟨xs, m, rfl, _, hl, hxl, hx⟩ := DataW.trod_array hu ht
     have := flat_fields (H := H) (enc := enc) (w := w) (base := base) (sp := sp) (held := held) (n := m) (cs := cs) (fun t ks vs x h1 h2 h3 => trod_flat d m t ks vs x h1 h2 h3) (arrFs e sz len 0) 0 ks h (fun f hf => by
      rw [arrFs_eq] at hf
      obtain ⟨i, hi, rfl⟩ := List.mem_map.1 hf
      have hi : i < len := by simpa using List.mem_range'_1.1 hi
      have hlt : i < xs.length := by omega
      have hx := hx i hi
      rw [cellsOf_size hs] at hx
      exact ⟨xs[i], by simp only [arrFd]; rw [cellsOf_size hs, hx, List.getElem?_eq_getElem hlt]⟩)
     rw [List.drop_zero, List.take_of_length_le (by omega)] at this
     exact this
    ·cases h
   ·cases h
end
end Go.Sx

namespace Go.Proofs.YtpapbhbnaalhcaaDoor
open Go Go.Sx Go.Proofs Go.ChangeShapes Go.WideShapes
set_option linter.unusedVariables false
set_option maxRecDepth 100000
def sgOf (W : World) (ad : Nat -> Addr) : Sg := ⟨ad, fun k => if k < 3 then none else W.heap[k]?⟩
theorem sgOf_has (W : World) (ad : Nat -> Addr) : (sgOf W ad).has W := fun k o h => by
 unfold sgOf at h
 simp only at h
 split at h
 ·cases h
 ·exact h
theorem sgOf_tab {W : World} {ad : Nat -> Addr} (h : Lib.TabIs Tryd.prog W "internal/strconv.uint64pow10" .u64 Lib.pow10Tab) (hf : ∀ cs ty z, W.heap[(4 : Nat)]? = some (.cells cs ty z) -> True) : TabR (sgOf W ad) := by
 have hg : Tryd.prog.globalNamed "internal/strconv.uint64pow10" = some 4 := by kernel_rfl
 unfold Lib.TabIs World.var? at h
 rw [hg, Option.bind_some] at h
 have hR : (sgOf W ad).R 4 = W.heap[(4 : Nat)]? := by
  show (if 4 < 3 then none else W.heap[(4 : Nat)]?) = _
  exact if_neg (by decide)
 unfold TabR
 rw [hR]
 split at h
 ·rename_i c ty z hb
  cases h
  exact ⟨ty, z, hb⟩
 ·cases h
theorem slice_ok {W : World} {r : Reach} {b0 : Nat} {t e : TypeId} {v : Value} (ht : Tryd.prog.underlying t = some (.slice e)) (hval : Value.okWide Tryd.prog W r b0 t v) : v = .slice none 0 0 \/ ∃ b o len cap, v = .slice (some ⟨b, o, none⟩) len cap /\ len <= cap := by
 unfold Value.okWide at hval
 rw [ht] at hval
 unfold Cell.okWide at hval
 rw [ht] at hval
 dsimp only at hval
 unfold Cell.ok at hval
 rw [ht] at hval
 cases v with
 | slice a len cap =>
   cases a with
   | none =>
     cases len with
     | zero =>
       cases cap with
       | zero => exact .inl rfl
       | succ => exact hval.elim
     | succ => exact hval.elim
   | some a =>
     obtain ⟨b, o, s⟩ := a
     obtain ⟨h1, _, _, h2, _⟩ := hval
     simp only at h2
     subst h2
     exact .inr ⟨b, o, len, cap, rfl, h1⟩
 | _ => exact hval.elim
theorem open_came {α : Type} [Inhabited α] (K : AK α) {H : Type} {enc : TypeId × Value -> H} {W : World} {base : Nat} {sp : Nat -> Bool} {held : Bool} {t e : TypeId} {ks : List FK} (ht : Tryd.prog.underlying t = some (.slice e)) (hc : Tryd.prog.cellsOf e = K.es) (hfl : flatT Tryd.prog 12 e = some ks) (hks : ks.length = K.es)
 (hdec : ∀ cs, flatOk ks cs -> ∃ a : α, cs = denL Nm.id (K.enc a)) (hno : ∀ (a : α) (j : Nat) (t : TypeId) (x : Value), (denL Nm.id (K.enc a))[j]? ≠ some (.iface t x)) {r : Reach} {b0 : Nat} {v : Value} {d : DataW H} {ps : List MemPlace}
 (hval : Value.okWide Tryd.prog W r b0 t v) (hd : DataW.Trod enc Tryd.prog W base sp held t v d ps) {ad : Nat -> Addr} (hs : ∀ k, k < 3 -> ∃ te ty p z, W.heap[k]? = some (.cells #[.iface te p] ty z)) :
 ∃ (lc : Sx.Loc) (l : List α), v = vsDen lc 0 l.length K.es /\ fixQ (sgOf W ad) K l lc (fun _ => False) := by
 obtain ⟨fu, hfu⟩ := hd
 rcases slice_ok ht hval with rfl | ⟨b, o, len, cap, rfl, hlc⟩
 ·exact ⟨⟨0, 0, 0⟩, [], rfl, fun k h => h, fun w _ => ⟨Nat.zero_le _, fun j v h => (by simp [AK.vals] at h)⟩⟩
 ·rcases Deep.open_slice ht hfu with ⟨h0, _⟩ | ⟨a, len', cap', m, n, D, Pl, hcs, hb, hl, hm, hmm, hx, hel⟩
  ·cases h0
  ·cases hcs
   have each : ∀ i, i < len -> ∃ x : α, ∀ k, k < K.es -> W.cell? ((⟨b, o, none⟩ : Addr).add (i * K.es + k)) = (denL Nm.id (K.enc x))[k]? := fun i hi => by
    obtain ⟨cs', h1, h2⟩ := hel i (by rw [hmm]; split <;> omega)
    have hf := trod_flat 12 _ _ ks _ _ hfl h2 (by rw [hc, hks])
    obtain ⟨x, hx⟩ := hdec cs' hf
    obtain ⟨_, _, h5⟩ := World.cells?_some h1
    refine ⟨x, fun k hk => ?_⟩
    have := h5 k (by rw [hc]; exact hk)
    rw [Deep.add_add, hc] at this
    rw [this, hx]
   obtain ⟨f, hf⟩ := Deep.choose_lt each
   refine ⟨⟨b, o, cap + 1⟩, (List.range len).map f, ?_, fun k h => h, fun w hw => ⟨?_, fun j v hj => ?_⟩⟩
   ·rw [vsDen_eq, if_neg (fun h => by cases h.2)]
    simp
   ·rw [AK.vals_len]
    simp only [List.length_map, List.length_range, Nat.add_sub_cancel]
    exact Nat.mul_le_mul_right _ hlc
   ·have hjl : j < len * K.es := by
     have := (List.getElem?_eq_some_iff.1 hj).1
     rw [AK.vals_len] at this
     simpa using this
    have hpos : 0 < K.es := Nat.pos_of_ne_zero fun h => by rw [h] at hjl; omega
    have hi : j / K.es < len := (Nat.div_lt_iff_lt_mul hpos).2 hjl
    have hk : j % K.es < K.es := Nat.mod_lt _ hpos
    have ej : j = (j / K.es) * K.es + j % K.es := by rw [Nat.mul_comm]; exact (Nat.div_add_mod _ _).symm
    have hg := K.vals_get ((List.range len).map f) (j / K.es) (j % K.es) (by simpa using hi) hk
    rw [<- ej, hj] at hg
    have hfi : ((List.range len).map f).getD (j / K.es) K.dflt = f (j / K.es) := by simp [List.getD, hi]
    rw [hfi] at hg
    have hW := hf _ hi _ hk
    rw [<- ej, <- hg] at hW
    have hb3 : ¬ b < 3 := fun h3 => by
     obtain ⟨te, ty, p, z, hh⟩ := hs b h3
     have eb : ((⟨b, o, none⟩ : Addr).add j).block = b := by unfold Addr.add; split <;> rfl
     unfold World.cell? at hW
     rw [eb, hh] at hW
     simp only at hW
     split at hW
     ·cases hW
     ·rcases Nat.eq_zero_or_pos ((⟨b, o, none⟩ : Addr).add j).off with h0 | h0
      ·rw [h0] at hW
       have hW : some (Value.iface te p) = some v := hW
       cases hW
       exact hno _ _ _ _ hg.symm
      ·rw [Array.getElem?_eq_none (show 1 <= _ from h0)] at hW
       cases hW
    have hR : (sgOf W ad).R b = W.heap[b]? := if_neg hb3
    have eb : ((⟨b, o, none⟩ : Addr).add j).block = b := by unfold Addr.add; split <;> rfl
    show w.cell? ((⟨b, o, none⟩ : Addr).add j) = some v
    cases hh : W.heap[b]? with
    | none =>
      unfold World.cell? at hW
      rw [eb, hh] at hW
      cases hW
    | some ob =>
      have := hw b ob (by rw [hR, hh])
      rw [<- hW]
      unfold World.cell?
      rw [eb, hh, this]
def nmL (L : List (Sx.Loc × AV)) : Nm := ⟨fun n => if n < 7 then ⟨n, 0, 0⟩ else (L.map Prod.fst).getD (n - 7) ⟨0, 0, 0⟩, fun n k => n < 7 /\ k = n⟩
theorem nmL_glob (L : List (Sx.Loc × AV)) {n : Nat} (h : n < 7) : (nmL L).L n = ⟨n, 0, 0⟩ := if_pos h
theorem nmL_arg (L : List (Sx.Loc × AV)) (i : Nat) : (nmL L).L (7 + i) = (L.map Prod.fst).getD i ⟨0, 0, 0⟩ := by
 show (if 7 + i < 7 then _ else _) = _
 rw [if_neg (by omega), Nat.add_sub_cancel_left]
theorem quietJ {σ : Sg} {lp : Lp} {f : FuncId} {args : List SV} {L : List (Sx.Loc × AV)} {v : SV} {l' : List AV} {W : World} (h : Ctr Tryd.prog (NVl lp σ) f args (hpO linM (L.map Prod.snd)) v (hpO linM l')) (hv : ∀ ρ : Nm, v.den ρ = .bool true)
 (hq : ∀ x ∈ L, ∀ w, σ.has w -> (F2 σ).q x.2 x.1 (fun _ => False) w) (hs : σ.has W) (hR : ∀ k, k < 3 -> σ.R k = none)
 (hg : ∀ n, n < 3 -> W.heap[n]? = some (.cells #[.iface 189 (.pointer (some (σ n)))] 28 (0, 0))) :
 Calls Tryd.prog f (args.map (SV.den (nmL L))).toArray W fun e w' => e = .returned (.bool true) /\ Quiet W w' := by
 have hlin : ∀ n, linM[n]? = some true ↔ n < 3 := fun n => by
  rcases n with _ | _ | _ | _ | _ | _ | _ | n <;> simp [linM]
 have get : ∀ n c, hget (hpO linM (L.map Prod.snd)) n = some c -> (n < 3 /\ c = .abs (.sent n)) \/ ∃ x, L[n - 7]? = some x /\ 7 <= n /\ c = .abs x.2 := fun n c h => by
  unfold hpO at h
  rw [hget_append, sentL_len] at h
  split at h
  ·obtain ⟨h1, h2⟩ := (sentL_get _ _ _ _ _).1 h
   exact .inl ⟨(hlin n).1 h1, by rw [h2, Nat.zero_add]⟩
  ·rename_i hn
   obtain ⟨a, h1, h2⟩ := (absL_get _ _ _).1 h
   rw [List.getElem?_map, Option.map_eq_some_iff] at h1
   obtain ⟨x, h1, h3⟩ := h1
   exact .inr ⟨x, h1, Nat.le_of_not_lt hn, by rw [h2, h3]⟩
 have fp : ∀ n c k, hget (hpO linM (L.map Prod.snd)) n = some c -> c.fp (nmL L) n k -> n < 3 /\ k = n := fun n c k h hk => by
  rcases get n c h with ⟨h1, rfl⟩ | ⟨x, h1, h2, rfl⟩
  ·have hk : n < 7 /\ k = n := hk
   exact ⟨h1, hk.2⟩
  ·have hk : n < 7 /\ k = n := hk
   omega
 have hO : Own (NVl lp σ) (nmL L) (hpO linM (L.map Prod.snd)) W := by
  refine ⟨⟨fun n c h => ?_, fun n m c d hnm h h' k hk hk' => ?_, fun g hg' => ?_⟩, hs, fun n c k h hk => ?_⟩
  ·rcases get n c h with ⟨h1, rfl⟩ | ⟨x, h1, h2, rfl⟩
   ·have e : (nmL L).L n = ⟨n, 0, 0⟩ := nmL_glob L (by omega)
    refine (q_avF (N := NVl lp σ) (σ := σ) rfl rfl _ _ _).2 ⟨fun k => ?_, ?_⟩
    ·show (n < 7 /\ k = n) ↔ k = ((nmL L).L n).b
     rw [e]
     exact ⟨fun hh => hh.2, fun hh => ⟨by omega, hh⟩⟩
    ·rw [e]; exact hg n h1
   ·have hm : x ∈ L := List.mem_of_getElem? h1
    have e : (nmL L).L n = x.1 := by
     show (if n < 7 then _ else _) = _
     rw [if_neg (by omega)]
     simp [List.getD, h1]
    have eS : (nmL L).S n = fun _ => False := funext fun k => propext ⟨fun hh => by have hh : n < 7 /\ k = n := hh; omega, fun hh => hh.elim⟩
    show (F2 σ).q x.2 ((nmL L).L n) ((nmL L).S n) W
    rw [e, eS]
    exact hq x hm W hs
  ·obtain ⟨a1, a2⟩ := fp n c k h hk
   obtain ⟨b1, b2⟩ := fp m d k h' hk'
   exact hnm (a2.symm.trans b2)
  ·show ((nmL L).L g).b = g
   rw [nmL_glob L hg']
  ·obtain ⟨a1, a2⟩ := fp n c k h hk
   subst a2
   exact hR k a1
 refine (h.2.2 _ W hO).mono ?_
 rintro e w' ⟨ρ', rfl, hO', hE⟩
 refine ⟨by rw [hv ρ'], ⟨fun k hk => ?_, hE.os, hE.tape, hE.output, hE.size⟩⟩
 by_cases e0 : k < 3
 ·have hk' : hget (hpO linM l') k = some (.abs (.sent k)) := by
   unfold hpO
   rw [hget_append, sentL_len, if_pos (by simp [linM]; omega)]
   exact (sentL_get _ _ _ _ _).2 ⟨(hlin k).2 e0, by rw [Nat.zero_add]⟩
  have hq' := (q_avF (N := NVl lp σ) (σ := σ) rfl rfl _ _ _).1 (hO'.q k _ hk')
  have hr0 : ρ' k = k := hO'.glb k (by show k < 7; omega)
  have this : w'.heap[ρ' k]? = some (.cells #[.iface 189 (.pointer (some (σ k)))] 28 (0, 0)) := hq'.2
  rw [hr0] at this
  rw [this, hg k e0]
 ·refine hE.frame k hk fun n c h hf => ?_
  obtain ⟨a1, a2⟩ := fp n c k h hf
  omega
theorem dec_op (cs : List Value) (h : flatOk [.int .i64, .int .i64, .int .i64, .int .i64] cs) : ∃ a : O, cs = denL Nm.id (kops.enc a) := by
 match cs, h with
 | [.int _ a, .int _ b, .int _ c, .int _ d], h =>
   obtain ⟨rfl, rfl, rfl, rfl, _⟩ := h
   exact ⟨⟨a, b, c, d⟩, rfl⟩
theorem dec_an (cs : List Value) (h : flatOk [.int .i64, .int .i64] cs) : ∃ a : An, cs = denL Nm.id (kanswers.enc a) := by
 match cs, h with
 | [.int _ a, .int _ b], h =>
   obtain ⟨rfl, rfl, _⟩ := h
   exact ⟨⟨a, b⟩, rfl⟩
theorem dec_row (cs : List Value) (h : flatOk [.int .i64, .int .i64, .int .i64, .int .i64, .int .i64, .int .i64, .int .i64, .int .i64, .int .i64, .bool] cs) : ∃ a : Rw, cs = denL Nm.id (krows.enc a) := by
 match cs, h with
 | [.int _ a, .int _ b, .int _ c, .int _ d, .int _ e, .int _ f, .int _ g, .int _ i, .int _ j, .bool k], h =>
   obtain ⟨rfl, rfl, rfl, rfl, rfl, rfl, rfl, rfl, rfl, _⟩ := h
   exact ⟨⟨a, b, c, d, e, f, g, i, j, k⟩, rfl⟩
theorem no_op (a : O) (j : Nat) (t : TypeId) (x : Value) : (denL Nm.id (kops.enc a))[j]? ≠ some (.iface t x) := fun h => by
 rcases j with _ | _ | _ | _ | j <;> cases h
theorem no_an (a : An) (j : Nat) (t : TypeId) (x : Value) : (denL Nm.id (kanswers.enc a))[j]? ≠ some (.iface t x) := fun h => by
 rcases j with _ | _ | j <;> cases h
theorem no_row (a : Rw) (j : Nat) (t : TypeId) (x : Value) : (denL Nm.id (krows.enc a))[j]? ≠ some (.iface t x) := fun h => by
 rcases j with _ | _ | _ | _ | _ | _ | _ | _ | _ | _ | j <;> cases h
theorem mod5 (s : Int) : 0 <= Int.tmod (IntKind.wrap .u64 s) 5 /\ Int.tmod (IntKind.wrap .u64 s) 5 < 5 := by
 have h : 0 <= IntKind.wrap .u64 s := by
  unfold IntKind.wrap
  simp only [IntKind.bits, IntKind.signed, Bool.false_and, Bool.false_eq_true, if_false]
  exact Int.emod_nonneg _ (by decide)
 exact ⟨Int.tmod_nonneg _ h, Int.tmod_lt_of_pos _ (by decide)⟩
theorem st5 (s : Int) : decide (1 <= 1 + Int.tmod (IntKind.wrap .u64 s) 5 /\ 1 + Int.tmod (IntKind.wrap .u64 s) 5 <= 5) = true := by
 have := mod5 s
 exact decide_eq_true (by omega)
theorem has77_iff {l : List Rw} : has77 l = false ↔ ∀ i, i < l.length -> (rowAt l i).thread ≠ 77 := by
 unfold has77
 rw [List.any_eq_false]
 constructor
 ·intro h i hi e
  have : rowAt l i ∈ l := by
   have e2 : rowAt l i = l[i] := by simp [rowAt, List.getD, hi]
   rw [e2]; exact List.getElem_mem hi
  exact h _ this (by simp [e])
 ·intro h x hx e
  obtain ⟨i, hi, rfl⟩ := List.getElem_of_mem hx
  refine h i hi ?_
  have e2 : rowAt l i = l[i] := by simp [rowAt, List.getD, hi]
  rw [e2]; simpa using e
theorem linT_is {l : List Rw} {st : Int} (hl : l.length <= 12) : linT.is st l = true ↔ Lin st l := lin_is hl
theorem linT_eq {l l' : List Rw} {st : Int} (hl : l.length <= 12) (hl' : l'.length <= 12) (h : Lin st l' ↔ Lin st l) : linT.is st l' = linT.is st l := by
 have h1 := linT_is (st := st) hl
 have h2 := linT_is (st := st) hl'
 cases e1 : linT.is st l <;> cases e2 : linT.is st l' <;> rw [e1] at h1 <;> rw [e2] at h2 <;> simp_all
theorem tab_env {σ : Sg} {lp lp' : Lp} {tab : Tab} (h : TabOk Tryd.prog (NVl lp σ) tab) : TabOk Tryd.prog (NVl lp' σ) tab := fun f g hf => fnOk_env (N := NVl lp σ) (N' := NVl lp' σ) rfl rfl (h f g hf)
theorem den_row {L : List (Sx.Loc × AV)} (i n es : Nat) : (SV.v (.c (.vs (7 + i) 0 n es false))).den (nmL L) = vsDen ((L.map Prod.fst).getD i ⟨0, 0, 0⟩) 0 n es := by
 show vsDen ((nmL L).L (7 + i)) 0 n es = _
 rw [nmL_arg]
theorem rowsB_q {σ : Sg} {l : List Rw} {lc : Sx.Loc} (h : fixQ σ krows l lc (fun _ => False)) (w : World) : (F2 σ).q (.rowsB false l) lc (fun _ => False) w := (q_avF (N := NV σ) (σ := σ) rfl rfl _ _ _).2 h
end Go.Proofs.YtpapbhbnaalhcaaDoor
