import Derived.Test.YtpapbhbnaalhcaaDoorKs
import Derived.Test.YtpapbhbnaalhcaaDoorTh
namespace Go.Proofs.YtpapbhbnaalhcaaDoor
open Go Go.Sx Go.Proofs
set_option linter.unusedVariables false
set_option maxRecDepth 100000
structure WFm (n : Nat) (l : List Rw) : Prop where
 pw : l.Pairwise fun a b => a.frm < b.frm /\ (a.thread = b.thread -> a.fin = true /\ a.till < b.frm) /\ (a.fin = true -> b.fin = true -> a.till ≠ b.till)
 lo : ∀ r, r ∈ l -> 0 <= r.frm /\ r.frm < (n : Int)
 fin : ∀ r, r ∈ l -> r.fin = true -> r.frm < r.till /\ r.till < (n : Int)
 ne1 : ∀ a b, a ∈ l -> b ∈ l -> a.fin = true -> a.till ≠ b.frm
 opn : ∀ r, r ∈ l -> r.fin = false -> r.code = 0 /\ r.aval = 0 /\ r.till = 0
theorem rowAt_get {l : List Rw} {i : Nat} (h : i < l.length) : rowAt l i = l[i] := by simp [rowAt, List.getD, h]
theorem wfm_of {n : Nat} {l : List Rw} (h : WF n l) : WFm n l := by
 refine ⟨List.pairwise_iff_getElem.2 fun i j hi hj hij => ?_, fun r hr => ?_, fun r hr hf => ?_, fun a b ha hb hf => ?_, fun r hr hf => ?_⟩
 ·rw [<- rowAt_get hi, <- rowAt_get hj]
  exact ⟨h.asc i j hij hj, h.thr i j hij hj, fun h1 h2 => h.ne2 i j hi hj (by omega) h1 h2⟩
 ·obtain ⟨i, hi, rfl⟩ := mem_rowAt hr
  exact h.lo i hi
 ·obtain ⟨i, hi, rfl⟩ := mem_rowAt hr
  exact h.fin i hi hf
 ·obtain ⟨i, hi, rfl⟩ := mem_rowAt ha
  obtain ⟨j, hj, rfl⟩ := mem_rowAt hb
  exact h.ne1 i j hi hj hf
 ·obtain ⟨i, hi, rfl⟩ := mem_rowAt hr
  exact h.opn i hi hf
theorem wfm_to {n : Nat} {l : List Rw} (h : WFm n l) : WF n l := by
 have pw := fun i j (hi : i < l.length) (hj : j < l.length) hij => List.pairwise_iff_getElem.1 h.pw i j hi hj hij
 refine ⟨fun i j hij hj => ?_, fun i hi => h.lo _ (rowAt_mem hi), fun i hi hf => h.fin _ (rowAt_mem hi) hf, fun i j hi hj hf => h.ne1 _ _ (rowAt_mem hi) (rowAt_mem hj) hf, fun i j hi hj hij hf hg => ?_, fun i j hij hj hth => ?_, fun i hi hf => h.opn _ (rowAt_mem hi) hf⟩
 ·have := (pw i j (by omega) hj hij).1
  rwa [<- rowAt_get, <- rowAt_get] at this
 ·rcases Nat.lt_or_ge i j with hh | hh
  ·have := (pw i j hi hj hh).2.2
   rw [<- rowAt_get, <- rowAt_get] at this
   exact this hf hg
  ·have := (pw j i hj hi (by omega)).2.2
   rw [<- rowAt_get, <- rowAt_get] at this
   exact fun e => this hg hf e.symm
 ·have := (pw i j (by omega) hj hij).2.1
  rw [<- rowAt_get, <- rowAt_get] at this
  exact this hth
theorem wfm_filter {n : Nat} {l : List Rw} (P : Rw -> Bool) (h : WFm n l) : WFm n (l.filter P) :=
 ⟨h.pw.sublist List.filter_sublist, fun r hr => h.lo r (List.mem_filter.1 hr).1, fun r hr hf => h.fin r (List.mem_filter.1 hr).1 hf, fun a b ha hb hf => h.ne1 a b (List.mem_filter.1 ha).1 (List.mem_filter.1 hb).1 hf, fun r hr hf => h.opn r (List.mem_filter.1 hr).1 hf⟩
def Ev1 (l : List Rw) (e : Int) : Prop := ∃ r, r ∈ l /\ (r.frm = e \/ r.fin = true /\ r.till = e)
theorem oneB_mono (r : Rw) {v w : Int} (h : v <= w) : oneB r v <= oneB r w := by
 unfold oneB
 by_cases h1 : r.frm < v
 ·rw [if_pos h1, if_pos (show r.frm < w by omega)]
  by_cases h2 : r.fin = true /\ r.till < v
  ·rw [if_pos h2, if_pos ⟨h2.1, by have := h2.2; omega⟩]; exact Nat.le_refl _
  ·rw [if_neg h2]; split <;> omega
 ·rw [if_neg h1]
  by_cases h2 : r.fin = true /\ r.till < v
  ·rw [if_pos h2, if_pos (show r.fin = true /\ r.till < w from ⟨h2.1, by have := h2.2; omega⟩)]; split <;> omega
  ·rw [if_neg h2]; omega
theorem belN_mono : ∀ (l : List Rw) {v w : Int}, v <= w -> belN l v <= belN l w
 | [], _, _, _ => Nat.le_refl _
 | r :: l, v, w, h => by
   have := oneB_mono r h
   have := belN_mono l h
   simp only [belN]; omega
theorem oneB_lt {r : Rw} {e w : Int} (he : r.frm = e \/ r.fin = true /\ r.till = e) (h : e < w) : oneB r e < oneB r w := by
 have hm := oneB_mono r (show e <= w by omega)
 unfold oneB at hm ⊢
 rcases he with he | ⟨hf, he⟩
 ·rw [if_neg (show ¬ r.frm < e by omega), if_pos (show r.frm < w by omega)] at *
  by_cases h2 : r.fin = true /\ r.till < e
  ·rw [if_pos h2, if_pos (show r.fin = true /\ r.till < w from ⟨h2.1, by have := h2.2; omega⟩)]; omega
  ·rw [if_neg h2]; split <;> omega
 ·rw [if_neg (show ¬ (r.fin = true /\ r.till < e) by rintro ⟨_, h2⟩; omega), if_pos (show r.fin = true /\ r.till < w from ⟨hf, by omega⟩)] at *
  by_cases h2 : r.frm < e
  ·rw [if_pos h2, if_pos (show r.frm < w by omega)]; omega
  ·rw [if_neg h2]; split <;> omega
theorem belN_lt : ∀ {l : List Rw} {e w : Int}, Ev1 l e -> e < w -> belN l e < belN l w
 | [], _, _, ⟨r, hr, _⟩, _ => by cases hr
 | x :: l, e, w, ⟨r, hr, he⟩, h => by
   simp only [belN]
   rcases List.mem_cons.1 hr with rfl | hr
   ·have := oneB_lt he h
    have := belN_mono l (show e <= w by omega)
    omega
   ·have := belN_lt ⟨r, hr, he⟩ h
    have := oneB_mono x (show e <= w by omega)
    omega
theorem ofK_cons (r : Rw) (l : List Rw) : ofK (r :: l) = (if r.fin = true then 2 else 1) + ofK l := by
 unfold ofK
 cases hf : r.fin <;> simp [hf] <;> omega
theorem oneB_le' (r : Rw) (v : Int) : oneB r v <= if r.fin = true then 2 else 1 := by
 unfold oneB
 cases hf : r.fin <;> simp <;> split <;> first | omega | (split <;> omega)
theorem belN_K : ∀ (l : List Rw) (v : Int), belN l v <= ofK l
 | [], v => Nat.le_refl _
 | r :: l, v => by
   have := oneB_le' r v
   have := belN_K l v
   rw [ofK_cons]; simp only [belN]; omega
theorem belN_top {l : List Rw} {e : Int} (he : Ev1 l e) : belN l e < ofK l :=
 Nat.lt_of_lt_of_le (belN_lt he (show e < e + 1 by omega)) (belN_K l _)
theorem bel_iff {l : List Rw} {e f : Int} (he : Ev1 l e) (hf : Ev1 l f) : ((belN l e : Nat) : Int) < ((belN l f : Nat) : Int) ↔ e < f := by
 constructor
 ·intro h
  rcases Int.lt_or_le e f with hh | hh
  ·exact hh
  ·have := belN_mono l hh; omega
 ·intro h
  have := belN_lt he h; omega
theorem bel_ne {l : List Rw} {e f : Int} (he : Ev1 l e) (hf : Ev1 l f) (h : e ≠ f) : ((belN l e : Nat) : Int) ≠ ((belN l f : Nat) : Int) := by
 intro hh
 rcases Int.lt_or_gt_of_ne h with h1 | h1
 ·have := (bel_iff he hf).2 h1; omega
 ·have := (bel_iff hf he).2 h1; omega
theorem ofK_tell (p l : List Rw) : ofK (p.map (tell l)) = ofK p := by
 induction p with
 | nil => rfl
 | cons r p ih =>
   rw [List.map_cons, ofK_cons, ofK_cons, ih]
   rfl
theorem tell_till (l : List Rw) {r : Rw} (h : r.fin = true) : (tell l r).till = ((belN l r.till : Nat) : Int) := by
 unfold tell
 simp only
 rw [if_pos h]
theorem wfm_tell {n : Nat} {l : List Rw} (h : WFm n l) : WFm (ofK (tellL l)) (tellL l) := by
 have eF : ∀ r, r ∈ l -> Ev1 l r.frm := fun r hr => ⟨r, hr, .inl rfl⟩
 have eT : ∀ r, r ∈ l -> r.fin = true -> Ev1 l r.till := fun r hr hf => ⟨r, hr, .inr ⟨hf, rfl⟩⟩
 have hpw := h.pw
 unfold tellL
 rw [ofK_tell]
 refine ⟨?_, fun r hr => ?_, fun r hr hf => ?_, fun a b ha hb hf => ?_, fun r hr hf => ?_⟩
 ·rw [List.pairwise_map]
  refine hpw.imp_of_mem fun {a b} ha hb hab => ⟨(bel_iff (eF a ha) (eF b hb)).2 hab.1, fun hth => ?_, fun h1 h2 => ?_⟩
  ·obtain ⟨g1, g2⟩ := hab.2.1 hth
   refine ⟨g1, ?_⟩
   rw [tell_till l g1]
   exact (bel_iff (eT a ha g1) (eF b hb)).2 g2
  ·have h1 : a.fin = true := h1
   have h2 : b.fin = true := h2
   rw [tell_till l h1, tell_till l h2]
   exact bel_ne (eT a ha h1) (eT b hb h2) (hab.2.2 h1 h2)
 ·obtain ⟨x, hx, rfl⟩ := List.mem_map.1 hr
  have := belN_top (eF x hx)
  show 0 <= ((belN l x.frm : Nat) : Int) /\ ((belN l x.frm : Nat) : Int) < _
  omega
 ·obtain ⟨x, hx, rfl⟩ := List.mem_map.1 hr
  have hf : x.fin = true := hf
  rw [tell_till l hf]
  have := belN_top (eT x hx hf)
  exact ⟨(bel_iff (eF x hx) (eT x hx hf)).2 (h.fin x hx hf).1, by omega⟩
 ·obtain ⟨x, hx, rfl⟩ := List.mem_map.1 ha
  obtain ⟨y, hy, rfl⟩ := List.mem_map.1 hb
  have hf : x.fin = true := hf
  rw [tell_till l hf]
  exact bel_ne (eT x hx hf) (eF y hy) (h.ne1 x y hx hy hf)
 ·obtain ⟨x, hx, rfl⟩ := List.mem_map.1 hr
  have hf : x.fin = false := hf
  obtain ⟨g1, g2, g3⟩ := h.opn x hx hf
  refine ⟨g1, g2, ?_⟩
  unfold tell
  simp only [hf, Bool.false_eq_true, if_false, g3]
theorem go_like {l l' : List Rw} (hlen : l.length = l'.length) (hf : ∀ i, i < l.length -> finN l i = finN l' i) (ha : ∀ i j, i < l.length -> j < l.length -> ahN l i j = ahN l' i j) (hp : ∀ i m, i < l.length -> perfM m (rowAt l i) = perfM m (rowAt l' i)) :
 ∀ (os : List Nat) (s : Nat) (m : CreedM), Go l s m os -> Go l' s m os
 | [], s, m, h => fun i hi hfi => h i (by omega) (by rw [hf i (by omega)]; exact hfi)
 | i :: os, s, m, h => by
   obtain ⟨⟨h1, h2, h3⟩, h4, h5⟩ := h
   refine ⟨⟨by omega, h2, fun j hj haj => h3 j (by omega) (by rw [ha i j h1 (by omega)]; exact haj)⟩, by rw [<- hp i m h1]; exact h4, ?_⟩
   rw [<- hp i m h1]
   exact go_like hlen hf ha hp os _ _ h5
theorem lin_tell {n : Nat} {l : List Rw} (h : WFm n l) (st : Int) : Lin st (tellL l) ↔ Lin st l := by
 have hlen : (tellL l).length = l.length := by simp [tellL]
 have hr : ∀ i, i < l.length -> rowAt (tellL l) i = tell l (rowAt l i) := fun i hi => by simp [rowAt, tellL, List.getD, hi]
 have hf : ∀ i, i < l.length -> finN (tellL l) i = finN l i := fun i hi => by unfold finN; rw [hr i hi]; rfl
 have ha : ∀ i j, i < l.length -> j < l.length -> ahN (tellL l) i j = ahN l i j := fun i j hi hj => by
  unfold ahN
  rw [hr i hi, hr j hj]
  cases hfj : (rowAt l j).fin with
  | false => rw [ahead_no (x := tell l (rowAt l j)) (fun hh => by have hh : (rowAt l j).fin = true := hh; rw [hfj] at hh; cases hh), ahead_no fun hh => by rw [hfj] at hh; cases hh]
  | true =>
    have e1 : Ev1 l (rowAt l j).till := ⟨_, rowAt_mem hj, .inr ⟨hfj, rfl⟩⟩
    have e2 : Ev1 l (rowAt l i).frm := ⟨_, rowAt_mem hi, .inl rfl⟩
    by_cases hlt : (rowAt l j).till < (rowAt l i).frm
    ·rw [ahead_of hfj hlt, ahead_of (x := tell l (rowAt l j)) hfj (by rw [tell_till l hfj]; exact (bel_iff e1 e2).2 hlt)]
    ·rw [ahead_no fun _ => hlt, ahead_no (x := tell l (rowAt l j)) fun _ => by rw [tell_till l hfj]; exact fun hh => hlt ((bel_iff e1 e2).1 hh)]
 have hp : ∀ i m, i < l.length -> perfM m (rowAt (tellL l) i) = perfM m (rowAt l i) := fun i m hi => by rw [hr i hi]; rfl
 constructor
 ·rintro ⟨os, ho⟩
  exact ⟨os, go_like hlen (fun i hi => hf i (by omega)) (fun i j hi hj => ha i j (by omega) (by omega)) (fun i m hi => hp i m (by omega)) os 0 _ ho⟩
 ·rintro ⟨os, ho⟩
  exact ⟨os, go_like hlen.symm (fun i hi => (hf i hi).symm) (fun i j hi hj => (ha i j hi hj).symm) (fun i m hi => (hp i m hi).symm) os 0 _ ho⟩
theorem told_ok {l : List Rw} (h : ofOk l = true) (P : Rw -> Bool) : ofOk (tellL (l.filter P)) = true := wf_ofOk (wfm_to (wfm_tell (wfm_filter P (wfm_of (ofOk_wf h)))))
theorem told_lin {l : List Rw} (h : ofOk l = true) (P : Rw -> Bool) (st : Int) : Lin st (tellL (l.filter P)) ↔ Lin st (l.filter P) := lin_tell (wfm_filter P (wfm_of (ofOk_wf h))) st
end Go.Proofs.YtpapbhbnaalhcaaDoor
