import Derived.Test.YtpapbhbnaalhcaaDoorTd
import Derived.Test.YtpapbhbnaalhcaaDoorKq
namespace Go.Proofs.YtpapbhbnaalhcaaDoor
open Go Go.Sx Go.Proofs
set_option linter.unusedVariables false
set_option maxRecDepth 100000
theorem ordI_range : ∀ (k i : Nat), ordI i ((List.range' i k).map fun j : Nat => (⟨(j : Int)⟩ : N1)) = true
 | 0, i => rfl
 | k + 1, i => by
   rw [List.range'_succ, List.map_cons, ordI, ordI_range k (i + 1)]
   simp
theorem one_ord {n : Nat} {f : Nat -> O} {g : Nat -> An} {st : Int} (hn : n <= 12) (h : linT.is st (oneL n f g) = true) : linT.ord st true (oneL n f g) = (List.range n).map fun j : Nat => (⟨(j : Int)⟩ : N1) := by
 obtain ⟨os, h1, h2⟩ := (lin_spec (oneL n f g) st true (by rw [oneL_len]; exact hn)).yes h
 rw [one_order h1] at h2
 exact h2
theorem one_is (l : List O) (a : List An) (st : Int) (h1 : l.length <= 12) : linT.is st (oneT.rs l a) = oneT.may l a st := by
 have e1 : oneT.rs l a = oneL l.length (opJ l) (anJ a) := rfl
 have e2 : oneT.may l a st = (cJ l a l.length (⟨st, [], []⟩, true)).2 := rfl
 rw [e1, e2, (cJ_all l a ⟨st, [], []⟩ l.length).1]
 have h := (linT_is (l := oneL l.length (opJ l) (anJ a)) (st := st) (by rw [oneL_len]; exact h1)).trans lin_one
 cases hx : linT.is st (oneL l.length (opJ l) (anJ a)) <;> cases hy : mayAll ⟨st, [], []⟩ (oneL l.length (opJ l) (anJ a)) <;> rw [hx, hy] at h <;> simp at h ⊢
theorem one_ask (l : List O) (a : List An) (st : Int) (h : oneT.ask l a st = false) (hl : 0 < l.length) : oneT.may l a st = false := by
 have e2 : oneT.may l a st = (cJ l a l.length (⟨st, [], []⟩, true)).2 := rfl
 have h : (cJ l a (l.length - 1) (⟨st, [], []⟩, true)).2 = false := h
 rw [e2]
 obtain ⟨k, hk⟩ : ∃ k, l.length = k + 1 := ⟨l.length - 1, by omega⟩
 rw [hk] at h ⊢
 rw [Nat.add_sub_cancel] at h
 rw [cJ, h]
theorem one_val (σ : Sg) (s : Int) (l : List O) (a : List An) : (oneR_T σ linT oneT s l a).val = some (.v (.c (.bl true)), [.opsA l, .answersA a], []) := by
 by_cases h1 : l.length <= 12
 ·by_cases h2 : l.length <= a.length
  ·unfold oneR_T
   dsimp only
   have c1 : decide ((l.length : Int) > 12) = false := decide_eq_false (by omega)
   have c2 : decide ((a.length : Int) < (l.length : Int)) = false := decide_eq_false (by omega)
   have f16 := st5 s
   have elen : (oneT.rs l a).length = l.length := oneL_len _ _ _
   have fi := fun st => one_is l a st h1
   have fo : linT.ok (oneT.rs l a) = true := wf_ofOk (wf_one _ _ _)
   generalize 1 + Int.tmod (IntKind.wrap .u64 s) 5 = st at f16 ⊢
   have fi := fi st
   have f11 : decide (l.length = (oneT.rs l a).length /\ (oneT.rs l a).length <= 1000) = true := decide_eq_true (by omega)
   have f10 : decide (((oneT.rs l a).length : Int) > 12) = false := decide_eq_false (by omega)
   have fc : decide (l.length <= 12 /\ l.length <= a.length) = true := decide_eq_true ⟨h1, h2⟩
   by_cases hl : 0 < l.length
   ·have p1 : decide (0 < l.length) = true := decide_eq_true hl
    have fin : ∀ m, oneT.may l a st = m -> linT.is st (oneT.rs l a) = m := fun m hm => by rw [fi, hm]
    cases hm : oneT.may l a st with
    | true =>
      have hi := fin _ hm
      have ho : linT.ord st true (oneT.rs l a) = (List.range l.length).map fun j : Nat => (⟨(j : Int)⟩ : N1) := one_ord h1 hi
      have el : (linT.ord st true (oneT.rs l a)).length = l.length := by rw [ho]; simp
      have fx : decide ((linT.ord st true (oneT.rs l a)).length <= 1000) = true := decide_eq_true (by omega)
      have fn : (((linT.ord st true (oneT.rs l a)).length : Int) != (l.length : Int)) = false := by rw [el]; simp
      have fr : ordI 0 (linT.ord st true (oneT.rs l a)) = true := by
       rw [ho, List.range_eq_range']
       exact ordI_range _ _
      have hask : oneT.ask l a st = true := by
       cases hq : oneT.ask l a st with
       | true => rfl
       | false => rw [one_ask l a st hq hl] at hm; cases hm
      by_cases hl2 : 1 < l.length
      ·have p2 : decide (1 < l.length) = true := decide_eq_true hl2
       simp only [T.val, true_and, and_true, c1, c2, f16, fo, f11, f10, fc, p1, p2, hask, hi, hm, fx, fn, fr, beq_self_eq_true, Bool.not_true]
      ·have p2 : decide (1 < l.length) = false := decide_eq_false hl2
       simp only [T.val, true_and, and_true, c1, c2, f16, fo, f11, f10, fc, p1, p2, hi, hm, fx, fn, fr, beq_self_eq_true, Bool.not_true]
    | false =>
      have hi := fin _ hm
      by_cases hl2 : 1 < l.length
      ·have p2 : decide (1 < l.length) = true := decide_eq_true hl2
       cases hq : oneT.ask l a st with
       | true =>
         simp only [T.val, true_and, and_true, c1, c2, f16, fo, f11, f10, fc, p1, p2, hq, hi, hm, beq_self_eq_true, Bool.not_true]
       | false =>
         simp only [T.val, true_and, and_true, c1, c2, f16, fo, f11, f10, fc, p1, p2, hq, hi, beq_self_eq_true, Bool.not_true]
      ·have p2 : decide (1 < l.length) = false := decide_eq_false hl2
       simp only [T.val, true_and, and_true, c1, c2, f16, fo, f11, f10, fc, p1, p2, hi, hm, beq_self_eq_true, Bool.not_true]
   ·have e0 : l = [] := List.eq_nil_of_length_eq_zero (by omega)
    subst e0
    have erows : oneT.rs [] a = [] := rfl
    have hm : oneT.may [] a st = true := rfl
    rw [erows, hm] at fi
    rw [erows] at fo
    have ho : linT.ord st true [] = [] := one_ord (f := opJ []) (g := anJ a) (n := 0) (by decide) fi
    have p1 : decide (0 < ([] : List O).length) = false := rfl
    have fn : ((([] : List N1).length : Int) != (([] : List O).length : Int)) = false := rfl
    simp only [T.val, true_and, and_true, c1, c2, f16, fo, fi, ho, fc, p1, fn, ordI, beq_self_eq_true, Bool.not_true]
    rfl
  ·unfold oneR_T
   dsimp only
   have c1 : decide ((l.length : Int) > 12) = false := decide_eq_false (by omega)
   have c2 : decide ((a.length : Int) < (l.length : Int)) = true := decide_eq_true (by omega)
   rw [ivT (by rw [c1, c2]; rfl)]
   rfl
 ·unfold oneR_T
  dsimp only
  have c1 : decide ((l.length : Int) > 12) = true := decide_eq_true (by omega)
  rw [ivT (by rw [c1]; rfl)]
  rfl
theorem opsA_q {σ : Sg} {l : List O} {lc : Sx.Loc} (h : fixQ σ kops l lc (fun _ => False)) (w : World) : (F2 σ).q (.opsA l) lc (fun _ => False) w := (q_avF (N := NV σ) (σ := σ) rfl rfl _ _ _).2 h
theorem answersA_q {σ : Sg} {l : List An} {lc : Sx.Loc} (h : fixQ σ kanswers l lc (fun _ => False)) (w : World) : (F2 σ).q (.answersA l) lc (fun _ => False) w := (q_avF (N := NV σ) (σ := σ) rfl rfl _ _ _).2 h
theorem lpOne_ok {σ : Sg} : LpsOk Tryd.prog (NVl (lpOne oneT) σ) :=
 lpsAdd (lpsAdd lpsV (fn := Tryd.f3) (by kernel_rfl) (c := bodyOf Tryd.f3) (by kernel_rfl) (nt := 126) (by kernel_rfl) (b := LK) (oneLoop_spec (by kernel_rfl)) (gK_ok rfl rfl))
  (fn := Tryd.f3) (by kernel_rfl) (c := bodyOf Tryd.f3) (by kernel_rfl) (nt := 126) (by kernel_rfl) (b := LJ) (oneLoop_spec (by kernel_rfl)) (gJ_ok rfl rfl)
theorem juryOne_calls (s : Int) (lc : Sx.Loc) (l : List O) (la : Sx.Loc) (a : List An) (ad : Nat -> Addr) (W : World) (hq : fixQ (sgOf W ad) kops l lc (fun _ => False)) (hqa : fixQ (sgOf W ad) kanswers a la (fun _ => False))
 (hg : ∀ n, n < 3 -> W.heap[n]? = some (.cells #[.iface 189 (.pointer (some (ad n)))] 28 (0, 0))) (ht : TabR (sgOf W ad)) :
 Calls Tryd.prog 3 #[.int .i64 s, vsDen lc 0 l.length 4, vsDen la 0 a.length 2] W fun e w' => e = .returned (.bool true) /\ Quiet W w' := by
 have hr : (runN (lpOne oneT) (sgOf W ad) (tabOn (sgOf W ad) linT) 3 linM [.v (.c (.it .i64 s)), .v (.c (.vs 7 0 l.length 4 false)), .v (.c (.vs (7 + 1) 0 a.length 2 false))] [.opsA l, .answersA a]).val = some (.v (.c (.bl true)), [.opsA l, .answersA a], []) := by
  rw [oneR, one_val]
 have hc := (runN_ok (σ := sgOf W ad) lpOne_ok (tab_env (tabOn_ok ht)) (M := linM) rfl (l := [.opsA l, .answersA a]) (fun x hx => by
  simp only [List.mem_cons, List.not_mem_nil, or_false] at hx
  rcases hx with rfl | rfl | rfl
  ·exact cl_plain rfl
  ·exact cl_vs (hpO_at linM [.opsA l, .answersA a] 0 _ rfl)
  ·exact cl_vs (hpO_at linM [.opsA l, .answersA a] 1 _ rfl)) hr).1
 have hQ := quietJ (L := [(lc, .opsA l), (la, .answersA a)]) hc (fun ρ => rfl) (fun x hx w _ => by
  simp only [List.mem_cons, List.not_mem_nil, or_false] at hx
  rcases hx with rfl | rfl
  ·exact opsA_q hq w
  ·exact answersA_q hqa w) (sgOf_has W ad) (fun k hk => if_pos hk) hg
 have e : ([.v (.c (.it .i64 s)), .v (.c (.vs 7 0 l.length 4 false)), .v (.c (.vs (7 + 1) 0 a.length 2 false))].map (SV.den (nmL [(lc, .opsA l), (la, .answersA a)]))).toArray = #[.int .i64 s, vsDen lc 0 l.length 4, vsDen la 0 a.length 2] := by
  simp only [List.map_cons, List.map_nil]
  rw [den_row (L := [(lc, .opsA l), (la, .answersA a)]) 0 l.length 4, den_row (L := [(lc, .opsA l), (la, .answersA a)]) 1 a.length 2]
  rfl
 rw [e] at hQ
 exact hQ
end Go.Proofs.YtpapbhbnaalhcaaDoor
