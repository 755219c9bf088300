import Derived.Test.YtpapbhbnaalhcaaDoorKq
namespace Go.Proofs.YtpapbhbnaalhcaaDoor
open Go Go.Sx Go.Proofs
set_option linter.unusedVariables false
set_option maxRecDepth 100000
def Shape (l : List Rw) : List Rw -> List Rw -> Prop
 | d, [] => ∀ r, r ∈ l -> r.fin = true -> r ∈ d
 | d, r :: q => r ∈ l /\ r ∉ d /\ (∀ j, j ∈ l -> aheadB j r = true -> j ∈ d) /\ Shape l (r :: d) q
theorem rowAt_mem {l : List Rw} {i : Nat} (h : i < l.length) : rowAt l i ∈ l := by
 have : rowAt l i = l[i] := by simp [rowAt, List.getD, h]
 rw [this]
 exact List.getElem_mem h
theorem mem_rowAt {l : List Rw} {r : Rw} (h : r ∈ l) : ∃ i, i < l.length /\ rowAt l i = r := by
 obtain ⟨i, hi, e⟩ := List.getElem_of_mem h
 exact ⟨i, hi, by simp [rowAt, List.getD, hi, e]⟩
theorem rowAt_inj {l : List Rw} (hn : l.Nodup) {i j : Nat} (hi : i < l.length) (hj : j < l.length) (h : rowAt l i = rowAt l j) : i = j := by
 have e1 : rowAt l i = l[i] := by simp [rowAt, List.getD, hi]
 have e2 : rowAt l j = l[j] := by simp [rowAt, List.getD, hj]
 rw [e1, e2] at h
 rcases Nat.lt_trichotomy i j with hh | hh | hh
 ·exact absurd h (List.pairwise_iff_getElem.1 hn i j hi hj hh)
 ·exact hh
 ·exact absurd h.symm (List.pairwise_iff_getElem.1 hn j i hj hi hh)
theorem go_shape {l : List Rw} (hn : l.Nodup) : ∀ (os : List Nat) (s : Nat) (m : CreedM) (d : List Rw), (∀ i, i < l.length -> (s.testBit i = true ↔ rowAt l i ∈ d)) -> Go l s m os -> Shape l d (os.map (rowAt l)) /\ mayAll m (os.map (rowAt l)) = true
 | [], s, m, d, hd, h => by
   refine ⟨fun r hr hf => ?_, rfl⟩
   obtain ⟨i, hi, rfl⟩ := mem_rowAt hr
   exact (hd i hi).1 (h i hi hf)
 | i :: os, s, m, d, hd, h => by
   obtain ⟨⟨h1, h2, h3⟩, h4, h5⟩ := h
   obtain ⟨g1, g2⟩ := go_shape hn os _ _ (rowAt l i :: d) (fun k hk => by
    rw [or_bit, Bool.or_eq_true, decide_eq_true_eq, hd k hk, List.mem_cons]
    constructor
    ·rintro (h | h)
     ·exact .inr h
     ·exact .inl (by rw [h])
    ·rintro (h | h)
     ·exact .inr (rowAt_inj hn h1 hk h.symm)
     ·exact .inl h) h5
   refine ⟨⟨rowAt_mem h1, fun hh => ?_, fun j hj ha => ?_, g1⟩, ?_⟩
   ·rw [(hd i h1).2 hh] at h2; cases h2
   ·obtain ⟨k, hk, rfl⟩ := mem_rowAt hj
    exact (hd k hk).1 (h3 k hk ha)
   ·rw [List.map_cons, mayAll, h4, g2]; rfl
theorem shape_go {l : List Rw} (hn : l.Nodup) : ∀ (q : List Rw) (s : Nat) (m : CreedM) (d : List Rw), (∀ i, i < l.length -> (s.testBit i = true ↔ rowAt l i ∈ d)) -> Shape l d q -> mayAll m q = true -> ∃ os, Go l s m os
 | [], s, m, d, hd, h, _ => ⟨[], fun i hi hf => (hd i hi).2 (h _ (rowAt_mem hi) hf)⟩
 | r :: q, s, m, d, hd, h, ha => by
   obtain ⟨h1, h2, h3, h4⟩ := h
   obtain ⟨i, hi, rfl⟩ := mem_rowAt h1
   rw [mayAll, Bool.and_eq_true] at ha
   obtain ⟨os, ho⟩ := shape_go hn q (s ||| 2 ^ i) _ (rowAt l i :: d) (fun k hk => by
    rw [or_bit, Bool.or_eq_true, decide_eq_true_eq, hd k hk, List.mem_cons]
    constructor
    ·rintro (h | h)
     ·exact .inr h
     ·exact .inl (by rw [h])
    ·rintro (h | h)
     ·exact .inr (rowAt_inj hn hi hk h.symm)
     ·exact .inl h) h4 ha.2
   refine ⟨i :: os, ⟨hi, ?_, fun j hj haj => (hd j hj).2 (h3 _ (rowAt_mem hj) haj)⟩, ha.1, ho⟩
   cases hb : s.testBit i with
   | false => rfl
   | true => exact absurd ((hd i hi).1 hb) h2
theorem lin_shape {l : List Rw} (hn : l.Nodup) {st : Int} : Lin st l ↔ ∃ q, Shape l [] q /\ mayAll ⟨st, [], []⟩ q = true := by
 have h0 : ∀ i, i < l.length -> ((0 : Nat).testBit i = true ↔ rowAt l i ∈ ([] : List Rw)) := fun i _ => by
  rw [Nat.zero_testBit]
  exact ⟨fun h => (by cases h), fun h => (by cases h)⟩
 constructor
 ·rintro ⟨os, ho⟩
  exact ⟨_, go_shape hn os 0 _ [] h0 ho⟩
 ·rintro ⟨q, h1, h2⟩
  exact shape_go hn q 0 _ [] h0 h1 h2
theorem shape_mem {l : List Rw} : ∀ (q d : List Rw), Shape l d q -> ∀ r, r ∈ q -> r ∈ l
 | [], _, _, r, hr => by cases hr
 | x :: q, d, h, r, hr => by
   rcases List.mem_cons.1 hr with rfl | hr
   ·exact h.1
   ·exact shape_mem q _ h.2.2.2 r hr
theorem shape_filter {l : List Rw} (P : Rw -> Bool) : ∀ (q d : List Rw), Shape l d q -> Shape (l.filter P) (d.filter P) (q.filter P)
 | [], d, h => fun r hr hf => by
   rw [List.mem_filter] at hr ⊢
   exact ⟨h r hr.1 hf, hr.2⟩
 | r :: q, d, h => by
   obtain ⟨h1, h2, h3, h4⟩ := h
   have ih := shape_filter P q (r :: d) h4
   by_cases hp : P r = true
   ·rw [List.filter_cons_of_pos hp] at ih ⊢
    refine ⟨List.mem_filter.2 ⟨h1, hp⟩, fun hh => h2 (List.mem_filter.1 hh).1, fun j hj ha => ?_, ih⟩
    rw [List.mem_filter] at hj ⊢
    exact ⟨h3 j hj.1 ha, hj.2⟩
   ·rw [List.filter_cons_of_neg hp] at ih ⊢
    exact ih
theorem least {l d : List Rw} (h : ¬ ∀ r, r ∈ l -> r.fin = true -> r ∈ d) : ∃ r, r ∈ l /\ r.fin = true /\ r ∉ d /\ ∀ j, j ∈ l -> j.fin = true -> j ∉ d -> r.till <= j.till := by
 induction l with
 | nil => exact absurd (fun r hr => by cases hr) h
 | cons x l ih =>
   by_cases hx : x.fin = true /\ x ∉ d
   ·by_cases h2 : ∀ r, r ∈ l -> r.fin = true -> r ∈ d
    ·refine ⟨x, List.mem_cons_self, hx.1, hx.2, fun j hj hf hd => ?_⟩
     rcases List.mem_cons.1 hj with rfl | hj
     ·exact Int.le_refl _
     ·exact absurd (h2 j hj hf) hd
    ·obtain ⟨r, h3, h4, h5, h6⟩ := ih h2
     by_cases hc : r.till <= x.till
     ·refine ⟨r, List.mem_cons_of_mem _ h3, h4, h5, fun j hj hf hd => ?_⟩
      rcases List.mem_cons.1 hj with rfl | hj
      ·exact hc
      ·exact h6 j hj hf hd
     ·refine ⟨x, List.mem_cons_self, hx.1, hx.2, fun j hj hf hd => ?_⟩
      rcases List.mem_cons.1 hj with rfl | hj
      ·exact Int.le_refl _
      ·have := h6 j hj hf hd
       omega
   ·have h2 : ¬ ∀ r, r ∈ l -> r.fin = true -> r ∈ d := fun hh => h fun r hr hf => by
     rcases List.mem_cons.1 hr with rfl | hr
     ·by_cases hd : r ∈ d
      ·exact hd
      ·exact absurd ⟨hf, hd⟩ hx
     ·exact hh r hr hf
    obtain ⟨r, h3, h4, h5, h6⟩ := ih h2
    refine ⟨r, List.mem_cons_of_mem _ h3, h4, h5, fun j hj hf hd => ?_⟩
    rcases List.mem_cons.1 hj with rfl | hj
    ·exact absurd ⟨hf, hd⟩ hx
    ·exact h6 j hj hf hd
abbrev keyIs (k : Int) (r : Rw) : Bool := r.key == k
theorem shape_merge {l : List Rw} : ∀ (n : Nat) (d : List Rw) (rest : Int -> List Rw), (l.filter fun r => !d.contains r).length <= n -> (∀ k, Shape (l.filter (keyIs k)) (d.filter (keyIs k)) (rest k)) ->
 ∃ q, Shape l d q /\ ∀ k, (q.filter (keyIs k)) <+: rest k
 | n, d, rest, hn, h => by
   by_cases hall : ∀ r, r ∈ l -> r.fin = true -> r ∈ d
   ·exact ⟨[], hall, fun k => List.nil_prefix⟩
   ·obtain ⟨r, r1, r2, r3, r4⟩ := least hall
    have hk := h r.key
    have hrk : r ∈ l.filter (keyIs r.key) := List.mem_filter.2 ⟨r1, by simp [keyIs]⟩
    cases hrest : rest r.key with
    | nil =>
      rw [hrest] at hk
      exact absurd (List.mem_filter.1 (hk r hrk r2)).1 r3
    | cons x q' =>
      rw [hrest] at hk
      obtain ⟨h1, h2, h3, h4⟩ := hk
      obtain ⟨h1, hxk⟩ := List.mem_filter.1 h1
      have hxd : x ∉ d := fun hh => h2 (List.mem_filter.2 ⟨hh, hxk⟩)
      have hxk' : x.key = r.key := by simpa [keyIs] using hxk
      have hah : ∀ j, j ∈ l -> aheadB j x = true -> j ∈ d := fun j hj ha => by
       by_cases hjd : j ∈ d
       ·exact hjd
       ·obtain ⟨f1, f2⟩ := ahead_fin ha
        have := r4 j hj f1 hjd
        have hr := h3 r hrk (ahead_of r2 (by omega))
        exact absurd (List.mem_filter.1 hr).1 r3
      have hlt : (l.filter fun r => !(x :: d).contains r).length < (l.filter fun r => !d.contains r).length := by
       have hsub : (l.filter fun r => !(x :: d).contains r) = (l.filter fun r => !d.contains r).filter fun r => !(r == x) := by
        rw [List.filter_filter]
        refine List.filter_congr fun y _ => ?_
        simp only [List.contains_cons, Bool.not_or]
       rw [hsub]
       refine List.length_filter_lt_length_iff_exists.2 ⟨x, List.mem_filter.2 ⟨h1, by simpa using hxd⟩, by simp⟩
      cases n with
      | zero => omega
      | succ n =>
        obtain ⟨q, g1, g2⟩ := shape_merge (l := l) n (x :: d) (fun k => if k = r.key then q' else rest k) (by omega) (fun k => by
         by_cases e : k = r.key
         ·subst e
          rw [if_pos rfl, List.filter_cons_of_pos hxk]
          exact h4
         ·rw [if_neg e, List.filter_cons_of_neg (by simp only [keyIs, hxk', beq_iff_eq]; exact fun e2 => e e2.symm)]
          exact h k)
        refine ⟨x :: q, ⟨h1, hxd, hah, g1⟩, fun k => ?_⟩
        by_cases e : k = r.key
        ·subst e
         rw [List.filter_cons_of_pos hxk, hrest]
         have := g2 r.key
         rw [if_pos rfl] at this
         exact (List.prefix_cons_inj x).2 this
        ·rw [List.filter_cons_of_neg (by simp only [keyIs, hxk', beq_iff_eq]; exact fun e2 => e e2.symm)]
         have := g2 k
         rwa [if_neg e] at this
def getK (p : List Pr) (k : Int) : Option Int := (p.find? fun x => x.key == k).map Pr.val
theorem getK_app (a b : List Pr) (k : Int) : getK (a ++ b) k = (getK a k).or (getK b k) := by
 unfold getK
 rw [List.find?_append]
 cases a.find? _ <;> rfl
theorem getK_cons (x : Pr) (a : List Pr) (k : Int) : getK (x :: a) k = if x.key = k then some x.val else getK a k := by
 unfold getK
 rw [List.find?_cons]
 by_cases h : x.key = k
 ·simp [h]
 ·have : (x.key == k) = false := by simpa using h
  rw [this, if_neg h]
theorem getK_none {a : List Pr} {k : Int} (h : ∀ x, x ∈ a -> x.key ≠ k) : getK a k = none := by
 unfold getK
 rw [List.find?_eq_none.2 fun x hx => by simpa using h x hx]
 rfl
abbrev Srt (p : List Pr) : Prop := p.Pairwise fun a b => a.key < b.key
abbrev Rng (p : List Pr) : Prop := ∀ x ∈ p, 0 <= x.key /\ x.key <= 255
abbrev prAt (l : List Pr) (i : Nat) : Pr := l.getD i kpairs.dflt
theorem prAt_mem {l : List Pr} {i : Nat} (h : i < l.length) : prAt l i ∈ l := by
 have : prAt l i = l[i] := by simp [prAt, List.getD, h]
 rw [this]
 exact List.getElem_mem h
theorem srt_at {l : List Pr} (h : Srt l) {i j : Nat} (hij : i < j) (hj : j < l.length) : (prAt l i).key < (prAt l j).key := by
 have e1 : prAt l i = l[i]'(by omega) := by simp [prAt, List.getD, show i < l.length by omega]
 have e2 : prAt l j = l[j] := by simp [prAt, List.getD, hj]
 rw [e1, e2]
 exact List.pairwise_iff_getElem.1 h i j (by omega) hj hij
theorem wrapK {a b : Int} (ha : 0 <= a /\ a <= 255) (hb : 0 <= b /\ b <= 255) : IntKind.wrap .i64 (a - b) = a - b := wrap_in (by omega)
theorem bs_spec {l : List Pr} {key : Int} (hs : Srt l) (hr : Rng l) (hk : 0 <= key /\ key <= 255) : ∀ (f i j : Nat), j <= l.length -> i <= j -> j - i <= f -> (∀ k, k < i -> (prAt l k).key < key) -> (∀ k, j <= k -> k < l.length -> key <= (prAt l k).key) ->
 bsI l key f i j <= l.length /\ (∀ k, k < bsI l key f i j -> (prAt l k).key < key) /\ ∀ k, bsI l key f i j <= k -> k < l.length -> key <= (prAt l k).key
 | 0, i, j, hj, hij, hf, h1, h2 => by
   simp only [bsI]
   exact ⟨by omega, h1, fun k hk1 hk2 => h2 k (by omega) hk2⟩
 | f + 1, i, j, hj, hij, hf, h1, h2 => by
   simp only [bsI]
   by_cases hlt : i < j
   ·rw [if_pos hlt]
    have hm : (i + j) / 2 < l.length := by omega
    have hrm := hr _ (prAt_mem hm)
    rw [wrapK hrm hk]
    by_cases hc : (l.getD ((i + j) / 2) kpairs.dflt).key - key < 0
    ·rw [if_pos hc]
     refine bs_spec hs hr hk f _ j hj (by omega) (by omega) (fun k hkk => ?_) h2
     have hc2 : (prAt l ((i + j) / 2)).key < key := by
      have : (prAt l ((i + j) / 2)).key - key < 0 := hc
      omega
     rcases Nat.lt_or_ge k ((i + j) / 2) with h | h
     ·have := srt_at hs h hm; omega
     ·have e : k = (i + j) / 2 := by omega
      rw [e]; exact hc2
    ·rw [if_neg hc]
     refine bs_spec hs hr hk f i _ (by omega) (by omega) (by omega) h1 (fun k hk1 hk2 => ?_)
     have hc2 : key <= (prAt l ((i + j) / 2)).key := by
      have : ¬ (prAt l ((i + j) / 2)).key - key < 0 := hc
      omega
     rcases Nat.lt_or_ge ((i + j) / 2) k with h | h
     ·have := srt_at hs h hk2; omega
     ·have e : k = (i + j) / 2 := by omega
      rw [e]; exact hc2
   ·rw [if_neg hlt]
    exact ⟨by omega, h1, fun k hk1 hk2 => h2 k (by omega) hk2⟩
structure FN (p : List Pr) (key : Int) : Prop where
 le : fN p key <= p.length
 lo : ∀ x, x ∈ p.take (fN p key) -> x.key < key
 hi : ∀ x, x ∈ p.drop (fN p key) -> key <= x.key
theorem fN_spec {p : List Pr} {key : Int} (hs : Srt p) (hr : Rng p) (hk : 0 <= key /\ key <= 255) : FN p key := by
 obtain ⟨h1, h2, h3⟩ := bs_spec hs hr hk p.length 0 p.length (Nat.le_refl _) (Nat.zero_le _) (by omega) (fun k hh => absurd hh (Nat.not_lt_zero _)) (fun k h1 h2 => absurd h2 (by omega))
 refine ⟨h1, fun x hx => ?_, fun x hx => ?_⟩
 ·obtain ⟨i, hi, e⟩ := List.getElem_of_mem hx
  rw [List.length_take] at hi
  have := h2 i (by unfold fN at hi; omega)
  rw [List.getElem_take] at e
  rw [<- e]
  have e1 : prAt p i = p[i]'(by omega) := by simp [prAt, List.getD, show i < p.length by omega]
  rw [<- e1]; exact this
 ·obtain ⟨i, hi, e⟩ := List.getElem_of_mem hx
  rw [List.length_drop] at hi
  have hl : fN p key + i < p.length := by omega
  have := h3 (fN p key + i) (by unfold fN; omega) hl
  rw [List.getElem_drop] at e
  rw [<- e]
  have e1 : prAt p (fN p key + i) = p[fN p key + i]'hl := by simp [prAt, List.getD, hl]
  rw [<- e1]; exact this
theorem pr_drop {p : List Pr} {n : Nat} (h : n < p.length) : p.drop n = prAt p n :: p.drop (n + 1) := drop_cons p kpairs.dflt h
theorem fB_get {p : List Pr} {key : Int} (hs : Srt p) (hr : Rng p) (hk : 0 <= key /\ key <= 255) : (fB p key = true -> fN p key < p.length /\ (prAt p (fN p key)).key = key /\ getK p key = some (prAt p (fN p key)).val) /\ (fB p key = false -> getK p key = none /\ ∀ x, x ∈ p.drop (fN p key) -> key < x.key) := by
 have F := fN_spec hs hr hk
 have hsplit : getK p key = (getK (p.take (fN p key)) key).or (getK (p.drop (fN p key)) key) := by rw [<- getK_app, List.take_append_drop]
 have hlo : getK (p.take (fN p key)) key = none := getK_none fun x hx => by have := F.lo x hx; omega
 rw [hlo, Option.none_or] at hsplit
 have hd : Srt (p.drop (fN p key)) := List.Pairwise.sublist (List.drop_sublist _ _) hs
 by_cases hlt : fN p key < p.length
 ·have hrm := hr _ (prAt_mem hlt)
  have e : fB p key = ((prAt p (fN p key)).key == key) := by
   unfold fB
   rw [if_pos hlt, wrapK hrm hk]
   by_cases hh : (prAt p (fN p key)).key = key
   ·rw [hh]; simp
   ·rw [show ((prAt p (fN p key)).key == key) = false by simpa using hh]
    have : ¬ (prAt p (fN p key)).key - key = 0 := by omega
    simpa using this
  rw [e]
  have hdr := pr_drop hlt
  rw [hdr, getK_cons] at hsplit
  refine ⟨fun h => ?_, fun h => ?_⟩
  ·have h := beq_iff_eq.1 h
   rw [if_pos h] at hsplit
   exact ⟨hlt, h, hsplit⟩
  ·have h : ¬ (prAt p (fN p key)).key = key := by simpa using h
   have h0 := F.hi _ (by rw [hdr]; exact List.mem_cons_self)
   have hgt : ∀ x, x ∈ p.drop (fN p key) -> key < x.key := fun x hx => by
    rw [hdr] at hx hd
    rcases List.mem_cons.1 hx with rfl | hx
    ·omega
    ·have := (List.pairwise_cons.1 hd).1 x hx
     omega
   rw [if_neg h, getK_none (a := p.drop (fN p key + 1)) fun x hx => by have := hgt x (by rw [hdr]; exact List.mem_cons_of_mem _ hx); omega] at hsplit
   exact ⟨hsplit, hgt⟩
 ·have e : fB p key = false := by unfold fB; rw [if_neg hlt]
  have hdr : p.drop (fN p key) = [] := List.drop_of_length_le (by omega)
  rw [e]
  refine ⟨fun h => (by cases h), fun _ => ⟨?_, fun x hx => ?_⟩⟩
  ·rw [hsplit, hdr]; rfl
  ·rw [hdr] at hx; cases hx
def ansG (g : Option Int) (o : O) : An := if o.kind = 6 then (if g.isSome then ⟨3, 0⟩ else ⟨1, 0⟩) else match g with
 | some v => ⟨1, v⟩
 | none => ⟨2, 0⟩
def chgG (g : Option Int) (o : O) (a : An) : Option Int := if a.code ≠ 1 then g else if o.kind = 6 then some o.val else if o.kind = 7 then none else g
def perfG (g : Option Int) (r : Rw) : Bool × Option Int := if r.fin = true then (if fullK r.op r.an then (true, g) else if ansG g r.op = r.an then (true, chgG g r.op r.an) else (false, g)) else (true, chgG g r.op (ansG g r.op))
structure MapR (st : Int) (m : CreedM) (g : Int -> Option Int) : Prop where
 st : m.st = st
 srt : Srt m.pairs
 rng : Rng m.pairs
 get : ∀ k, getK m.pairs k = g k
def updG (g : Int -> Option Int) (k : Int) (v : Option Int) : Int -> Option Int := fun x => if x = k then v else g x
theorem updG_self (g : Int -> Option Int) (k : Int) : updG g k (g k) = g := by
 funext x
 unfold updG
 split
 ·rename_i h; rw [h]
 ·rfl
theorem ans_map {st : Int} {m : CreedM} {g : Int -> Option Int} (h : MapR st m g) {o : O} (hk : 0 <= o.key /\ o.key <= 255) (hkind : o.kind = 6 \/ o.kind = 7 \/ o.kind = 8) : ansM m o = ansG (g o.key) o := by
 obtain ⟨f1, f2⟩ := fB_get h.srt h.rng hk
 rw [h.get] at f1 f2
 unfold ansM ansG
 rw [if_neg (by omega), if_neg (by omega)]
 cases hb : fB m.pairs o.key with
 | true =>
   obtain ⟨g1, g2, g3⟩ := f1 hb
   rw [g3]
   by_cases h6 : o.kind = 6
   ·simp [h6]
   ·rw [if_neg h6, if_neg h6, if_pos (by omega)]
    rfl
 | false =>
   obtain ⟨g1, g2⟩ := f2 hb
   rw [g1]
   by_cases h6 : o.kind = 6
   ·simp [h6]
   ·rw [if_neg h6, if_neg h6, if_pos (by omega)]
    rfl
theorem chg_map {st : Int} {m : CreedM} {g : Int -> Option Int} (h : MapR st m g) {o : O} (hk : 0 <= o.key /\ o.key <= 255) (hkind : o.kind = 6 \/ o.kind = 7 \/ o.kind = 8) : MapR st (chgM m o (ansM m o)) (updG g o.key (chgG (g o.key) o (ansG (g o.key) o))) := by
 rw [ans_map h hk hkind]
 obtain ⟨f1, f2⟩ := fB_get h.srt h.rng hk
 rw [h.get] at f1 f2
 have F := fN_spec h.srt h.rng hk
 have hpw : Srt (m.pairs.take (fN m.pairs o.key) ++ m.pairs.drop (fN m.pairs o.key)) := by rw [List.take_append_drop]; exact h.srt
 obtain ⟨p1, p2, p3⟩ := List.pairwise_append.1 hpw
 have hget : ∀ k, g k = (getK (m.pairs.take (fN m.pairs o.key)) k).or (getK (m.pairs.drop (fN m.pairs o.key)) k) := fun k => by rw [<- getK_app, List.take_append_drop, h.get]
 have htk : getK (m.pairs.take (fN m.pairs o.key)) o.key = none := getK_none fun x hx => by have := F.lo x hx; omega
 have rt : ∀ x, x ∈ m.pairs.take (fN m.pairs o.key) -> 0 <= x.key /\ x.key <= 255 := fun x hx => h.rng x (List.mem_of_mem_take hx)
 have rd : ∀ x, x ∈ m.pairs.drop (fN m.pairs o.key) -> 0 <= x.key /\ x.key <= 255 := fun x hx => h.rng x (List.mem_of_mem_drop hx)
 unfold chgM chgG
 by_cases hc : (ansG (g o.key) o).code ≠ 1
 ·rw [if_pos hc, if_pos hc, updG_self]; exact h
 ·rw [if_neg hc, if_neg hc, if_neg (by omega), if_neg (by omega), if_neg (by omega)]
  by_cases h6 : o.kind = 6
  ·rw [if_pos h6, if_pos h6]
   cases hb : fB m.pairs o.key with
   | true =>
     obtain ⟨g1, g2, g3⟩ := f1 hb
     exfalso
     refine hc ?_
     simp [ansG, h6, g3]
   | false =>
     obtain ⟨g1, g2⟩ := f2 hb
     refine ⟨h.st, List.pairwise_append.2 ⟨p1, List.pairwise_cons.2 ⟨fun x hx => g2 x hx, p2⟩, fun a ha b hbm => ?_⟩, fun x hx => ?_, fun k => ?_⟩
     ·rcases List.mem_cons.1 hbm with rfl | hbm
      ·exact F.lo a ha
      ·exact p3 a ha b hbm
     ·rcases List.mem_append.1 hx with hx | hx
      ·exact rt x hx
      ·rcases List.mem_cons.1 hx with rfl | hx
       ·exact hk
       ·exact rd x hx
     ·show getK (m.pairs.take (fN m.pairs o.key) ++ (⟨o.key, o.val⟩ :: m.pairs.drop (fN m.pairs o.key))) k = _
      rw [getK_app, getK_cons]
      unfold updG
      by_cases e : k = o.key
      ·subst e
       rw [if_pos rfl, if_pos rfl, htk]; rfl
      ·rw [if_neg (fun e2 => e e2.symm), if_neg e, hget k]
  ·rw [if_neg h6, if_neg h6]
   by_cases h7 : o.kind = 7
   ·rw [if_pos h7, if_pos h7]
    cases hb : fB m.pairs o.key with
    | false =>
      obtain ⟨g1, g2⟩ := f2 hb
      exfalso
      refine hc ?_
      simp [ansG, h6, g1]
    | true =>
      obtain ⟨g1, g2, g3⟩ := f1 hb
      have hdr := pr_drop g1
      have p2' := p2
      rw [hdr] at p2'
      obtain ⟨q1, q2⟩ := List.pairwise_cons.1 p2'
      refine ⟨h.st, List.pairwise_append.2 ⟨p1, q2, fun a ha b hbm => p3 a ha b (by rw [hdr]; exact List.mem_cons_of_mem _ hbm)⟩, fun x hx => ?_, fun k => ?_⟩
      ·rcases List.mem_append.1 hx with hx | hx
       ·exact rt x hx
       ·exact rd x (by rw [hdr]; exact List.mem_cons_of_mem _ hx)
      ·show getK (m.pairs.take (fN m.pairs o.key) ++ m.pairs.drop (fN m.pairs o.key + 1)) k = _
       rw [getK_app]
       unfold updG
       by_cases e : k = o.key
       ·subst e
        rw [if_pos rfl, htk, getK_none fun x hx => by have := q1 x hx; omega]; rfl
       ·rw [if_neg e, hget k, hdr, getK_cons, if_neg (fun e2 => e (by rw [<- e2, g2]))]
   ·rw [if_neg h7, if_neg h7, updG_self]; exact h
theorem perf_map {st : Int} {m : CreedM} {g : Int -> Option Int} (h : MapR st m g) {r : Rw} (hst : st = 3 \/ st = 4 \/ st = 5) (hf : fitsM st r.op = true) : (perfM m r).1 = (perfG (g r.key) r).1 /\ MapR st (perfM m r).2 (updG g r.key (perfG (g r.key) r).2) := by
 obtain ⟨hf1, _⟩ := fit_ok hf
 have hk : 0 <= r.op.key /\ r.op.key <= 255 := hf1.key
 have hkind := hf1.map hst
 have ha := ans_map h hk hkind
 have hc := chg_map h hk hkind
 have hm : fitsM m.st r.op = true := by rw [h.st]; exact hf
 have ek : r.op.key = r.key := rfl
 rw [ek] at ha hc
 unfold perfM perfG
 by_cases hfin : r.fin = true
 ·rw [if_pos hfin, if_pos hfin]
  by_cases hfull : fullK r.op r.an
  ·rw [mayM_full hm hfull, if_pos hfull, updG_self]; exact ⟨rfl, h⟩
  ·rw [if_neg hfull]
   by_cases he : ansM m r.op = r.an
   ·rw [mayM_yes hm hfull he, if_pos (by rw [<- ha]; exact he)]
    refine ⟨rfl, ?_⟩
    rw [<- ha, he] at hc
    exact hc
   ·rw [mayM_ne hm hfull he, if_neg (by rw [<- ha]; exact he), updG_self]
    exact ⟨rfl, h⟩
 ·rw [if_neg hfin, if_neg hfin, doM_yes hm]
  exact ⟨hm, hc⟩
def allG : (Int -> Option Int) -> List Rw -> Bool
 | _, [] => true
 | g, r :: q => (perfG (g r.key) r).1 && allG (updG g r.key (perfG (g r.key) r).2) q
def allK : Option Int -> List Rw -> Bool
 | _, [] => true
 | g, r :: q => (perfG g r).1 && allK (perfG g r).2 q
theorem all_map {st : Int} (hst : st = 3 \/ st = 4 \/ st = 5) : ∀ (q : List Rw) (m : CreedM) (g : Int -> Option Int), MapR st m g -> (∀ r, r ∈ q -> fitsM st r.op = true) -> mayAll m q = allG g q
 | [], m, g, h, hf => rfl
 | r :: q, m, g, h, hf => by
   obtain ⟨h1, h2⟩ := perf_map h hst (hf r List.mem_cons_self)
   rw [mayAll, allG, h1, all_map hst q _ _ h2 fun x hx => hf x (List.mem_cons_of_mem _ hx)]
theorem allG_iff : ∀ (q : List Rw) (g : Int -> Option Int), allG g q = true ↔ ∀ k, allK (g k) (q.filter (keyIs k)) = true
 | [], g => ⟨fun _ k => rfl, fun _ => rfl⟩
 | r :: q, g => by
   rw [allG, Bool.and_eq_true, allG_iff q]
   constructor
   ·rintro ⟨h1, h2⟩ k
    have := h2 k
    unfold updG at this
    by_cases e : k = r.key
    ·subst e
     rw [if_pos rfl] at this
     rw [List.filter_cons_of_pos (by simp [keyIs]), allK, h1, this]; rfl
    ·rw [if_neg e] at this
     rw [List.filter_cons_of_neg (by simp only [keyIs, beq_iff_eq]; exact fun e2 => e e2.symm)]
     exact this
   ·intro h
    have h0 := h r.key
    rw [List.filter_cons_of_pos (by simp [keyIs]), allK, Bool.and_eq_true] at h0
    refine ⟨h0.1, fun k => ?_⟩
    unfold updG
    by_cases e : k = r.key
    ·subst e
     rw [if_pos rfl]; exact h0.2
    ·rw [if_neg e]
     have := h k
     rwa [List.filter_cons_of_neg (by simp only [keyIs, beq_iff_eq]; exact fun e2 => e e2.symm)] at this
theorem allK_prefix : ∀ {a b : List Rw} {g : Option Int}, a <+: b -> allK g b = true -> allK g a = true
 | [], _, _, _, _ => rfl
 | x :: a, b, g, h, hb => by
   obtain ⟨t, rfl⟩ := h
   rw [List.cons_append, allK, Bool.and_eq_true] at hb
   rw [allK, hb.1, allK_prefix ⟨t, rfl⟩ hb.2]; rfl
theorem map0 (st : Int) : MapR st ⟨st, [], []⟩ fun _ => none := ⟨rfl, List.Pairwise.nil, fun x hx => (by cases hx), fun k => rfl⟩
theorem lin_keys {l : List Rw} (hn : l.Nodup) {st : Int} (hst : st = 3 \/ st = 4 \/ st = 5) (hf : ∀ r, r ∈ l -> fitsM st r.op = true) : Lin st l ↔ ∀ r, r ∈ l -> Lin st (l.filter (keyIs r.key)) := by
 have one : ∀ k, (Lin st (l.filter (keyIs k)) ↔ ∃ q, Shape (l.filter (keyIs k)) [] q /\ allK none q = true) := fun k => by
  rw [lin_shape (hn.sublist List.filter_sublist)]
  constructor
  ·rintro ⟨q, h1, h2⟩
   have hm := shape_mem q _ h1
   rw [all_map hst q _ _ (map0 st) fun r hr => hf r (List.mem_filter.1 (hm r hr)).1, allG_iff] at h2
   have := h2 k
   rw [List.filter_eq_self.2 fun r hr => (List.mem_filter.1 (hm r hr)).2] at this
   exact ⟨q, h1, this⟩
  ·rintro ⟨q, h1, h2⟩
   have hm := shape_mem q _ h1
   refine ⟨q, h1, ?_⟩
   rw [all_map hst q _ _ (map0 st) fun r hr => hf r (List.mem_filter.1 (hm r hr)).1, allG_iff]
   intro k'
   by_cases e : k' = k
   ·subst e
    rw [List.filter_eq_self.2 fun r hr => (List.mem_filter.1 (hm r hr)).2]
    exact h2
   ·have : q.filter (keyIs k') = [] := List.filter_eq_nil_iff.2 fun r hr => by
     have := (List.mem_filter.1 (hm r hr)).2
     simp only [keyIs, beq_iff_eq] at this ⊢
     exact fun e2 => e (by rw [<- e2, this])
    rw [this]; rfl
 constructor
 ·rintro hl r hr
  obtain ⟨q, h1, h2⟩ := (lin_shape hn).1 hl
  have hm := shape_mem q _ h1
  rw [all_map hst q _ _ (map0 st) fun r hr => hf r (hm r hr), allG_iff] at h2
  exact (one r.key).2 ⟨_, shape_filter _ q [] h1, h2 r.key⟩
 ·intro h
  have ex : ∀ k, ∃ q, Shape (l.filter (keyIs k)) [] q /\ allK none q = true := fun k => by
   by_cases hk : ∃ r, r ∈ l /\ r.key = k
   ·obtain ⟨r, hr, rfl⟩ := hk
    exact (one r.key).1 (h r hr)
   ·refine ⟨[], fun r hr _ => ?_, rfl⟩
    have := List.mem_filter.1 hr
    exact absurd ⟨r, this.1, by simpa [keyIs] using this.2⟩ hk
  obtain ⟨q, g1, g2⟩ := shape_merge _ [] (fun k => (ex k).choose) (Nat.le_refl _) fun k => (ex k).choose_spec.1
  refine (lin_shape hn).2 ⟨q, g1, ?_⟩
  have hm := shape_mem q _ g1
  rw [all_map hst q _ _ (map0 st) fun r hr => hf r (hm r hr), allG_iff]
  exact fun k => allK_prefix (g2 k) (ex k).choose_spec.2
theorem wf_nodup {n : Nat} {l : List Rw} (h : WF n l) : l.Nodup := by
 refine List.pairwise_iff_getElem.2 fun i j hi hj hij e => ?_
 have e1 : rowAt l i = l[i] := by simp [rowAt, List.getD, hi]
 have e2 : rowAt l j = l[j] := by simp [rowAt, List.getD, hj]
 have := h.asc i j hij hj
 rw [e1, e2, e] at this
 omega
end Go.Proofs.YtpapbhbnaalhcaaDoor
