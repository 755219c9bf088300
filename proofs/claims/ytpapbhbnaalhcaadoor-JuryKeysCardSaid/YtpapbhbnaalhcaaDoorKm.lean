import Derived.Test.YtpapbhbnaalhcaaDoorKe
import Derived.Test.YtpapbhbnaalhcaaDoorSxLn
namespace Go.Proofs.YtpapbhbnaalhcaaDoor
open Go Go.Sx Go.Proofs
set_option linter.unusedVariables false
set_option maxRecDepth 100000
def Go (l : List Rw) : Nat -> CreedM -> List Nat -> Prop
 | s, m, [] => ∀ i, i < l.length -> finN l i = true -> s.testBit i = true
 | s, m, i :: os => (i < l.length /\ s.testBit i = false /\ (∀ j, j < l.length -> ahN l i j = true -> s.testBit j = true)) /\ (perfM m (rowAt l i)).1 = true /\ Go l (s ||| 2 ^ i) (perfM m (rowAt l i)).2 os
def Cand (l : List Rw) (s i : Nat) : Prop := i < l.length /\ s.testBit i = false /\ ∀ j, j < l.length -> ahN l i j = true -> s.testBit j = true
def DeadOk (l : List Rw) (st : Int) (d : List (Int × ByteArray)) : Prop := ∀ e ∈ d, ∀ (s : Nat) (m : CreedM), e.1 = (s : Int) -> m.st = st -> ctext m = e.2 -> ∀ os, ¬ Go l s m os
structure Inv (l : List Rw) (st : Int) (k : Nat) (x : FI) (s : Nat) : Prop where
 rows : x.rows = l
 len : l.length <= 12
 ahead : x.ahead = (setsL l).2
 done : x.done = (setsL l).1
 set : x.set = (s : Int)
 slt : s < 2 ^ l.length
 fuel : unN s l.length < k
 ord : x.order.length + unN s l.length <= 12
 stt : x.m.st = st
 small : ∃ b, COk b x.m /\ b + unN s l.length <= 12
 dead : DeadOk l st x.dead
structure Spec (l : List Rw) (st : Int) (x : FI) (s : Nat) (r : FR) : Prop where
 ok : r.okB = true
 yes : r.is = true -> ∃ os : List Nat, Go l s x.m os /\ r.order = x.order ++ os.map fun i => ⟨(i : Int)⟩
 no : r.is = false -> (∀ os, ¬ Go l s x.m os) /\ r.order = x.order /\ DeadOk l st r.dead
theorem bits_eq {a b : Nat} : (a &&& b == b) = true ↔ ∀ i, b.testBit i = true -> a.testBit i = true := by
 rw [beq_iff_eq]
 constructor
 ·intro h i hi
  rw [<- h, Nat.testBit_and] at hi
  simp only [Bool.and_eq_true] at hi
  exact hi.1
 ·intro h
  apply Nat.eq_of_testBit_eq
  intro i
  rw [Nat.testBit_and]
  cases hb : b.testBit i with
  | false => simp
  | true => rw [h i hb]; rfl
theorem Inv.big {l : List Rw} {st : Int} {k : Nat} {x : FI} {s : Nat} (h : Inv l st k x s) : s < 4611686018427387904 := small_pow h.len h.slt
theorem Inv.all {l : List Rw} {st : Int} {k : Nat} {x : FI} {s : Nat} (h : Inv l st k x s) : (bitI .and .i64 x.set x.done == x.done) = true ↔ ∀ i, i < l.length -> finN l i = true -> s.testBit i = true := by
 have hm := maskN_lt (finN l) l.length
 rw [h.set, h.done, (setsL_mask l h.len).1, and_nat h.big (small_pow h.len hm)]
 have e : ((((s &&& maskN (finN l) l.length : Nat) : Int) == ((maskN (finN l) l.length : Nat) : Int)) = true) ↔ (s &&& maskN (finN l) l.length == maskN (finN l) l.length) = true := by
  rw [beq_iff_eq, beq_iff_eq]; omega
 rw [e, bits_eq]
 constructor
 ·intro h i hi hf
  exact h i (by rw [maskN_bit, hf]; simp [hi])
 ·intro h i hi
  rw [maskN_bit] at hi
  simp only [Bool.and_eq_true, decide_eq_true_eq] at hi
  exact h i hi.1 hi.2
theorem Inv.skip {l : List Rw} {st : Int} {k : Nat} {x : FI} {s : Nat} (h : Inv l st k x s) {i : Nat} (hi : i < l.length) : skipX x i = false ↔ Cand l s i := by
 have hlen := h.len
 unfold skipX tstX
 rw [h.set, bit_nat h.big (by omega)]
 cases hb : s.testBit i with
 | true =>
   simp only [Bool.true_beq, beq_self_eq_true]
   constructor
   ·intro h'; cases h'
   ·rintro ⟨_, h2, _⟩
    rw [hb] at h2; cases h2
 | false =>
   simp only [beq_self_eq_true]
   rw [h.ahead, show 0 + (i : Int).toNat = i by omega, (setsL_mask l h.len).2 i hi]
   have hm := maskN_lt (ahN l i) l.length
   simp only
   rw [andNot_zero (small_pow h.len hm) h.big]
   constructor
   ·intro h'
    refine ⟨hi, hb, fun j hj ha => h' j ?_⟩
    rw [maskN_bit, ha]; simp [hj]
   ·rintro ⟨_, _, h'⟩ j hj
    rw [maskN_bit] at hj
    simp only [Bool.and_eq_true, decide_eq_true_eq] at hj
    exact h' j hj.1 hj.2
theorem rowX_eq {l : List Rw} {st : Int} {k : Nat} {x : FI} {s : Nat} (h : Inv l st k x s) (i : Nat) : rowX x i = rowAt l i := by
 unfold rowX rowAt
 rw [h.rows, show 0 + (i : Int).toNat = i by omega]
theorem Inv.next {l : List Rw} {st : Int} {k : Nat} {x : FI} {s : Nat} (h : Inv l st (k + 1) x s) {i : Nat} (hc : Cand l s i) {d : List (Int × ByteArray)} (hd : DeadOk l st d) : Inv l st k (nextX x i x.order d) (s ||| 2 ^ i) := by
 have hlen := h.len
 have hu := unN_next hc.1 hc.2.1
 have hf := h.fuel
 have ho := h.ord
 obtain ⟨b, hb, hbl⟩ := h.small
 obtain ⟨p1, p2⟩ := perf_ok (r := rowX x i) hb
 refine ⟨h.rows, h.len, h.ahead, h.done, ?_, ?_, by omega, ?_, ?_, ⟨b + 1, p1, by omega⟩, hd⟩
 ·have h1 := hc.1
  show bitI .or .i64 x.set (shI .shl .i64 1 (i : Int)) = _
  rw [h.set, shl_nat (by omega), or_nat h.big (small_pow h.len (Nat.pow_lt_pow_right (by decide) hc.1))]
 ·exact Nat.or_lt_two_pow h.slt (Nat.pow_lt_pow_right (by decide) hc.1)
 ·show (x.order ++ [_]).length + _ <= 12
  rw [List.length_append, List.length_singleton]
  omega
 ·show (perfM x.m (rowX x i)).2.st = st
  rw [p2, h.stt]
noncomputable def stepIn (fm : FI -> FR) (x : FI) (i : Nat) (d : List (Int × ByteArray)) (o : List N1) (sh : Bool) : T (Ex × MX) := match Nat.blt i x.rows.length with
 | false => .leaf (.exit 0, ⟨i, d, o, sh, false⟩)
 | true => match skipX x i with
   | true => .leaf (.normal, ⟨i + 1, d, o, sh, false⟩)
   | false => .need x.m.sm (match (perfM x.m (rowX x i)).1 with
     | false => .leaf (.normal, ⟨i + 1, d, o, sh, false⟩)
     | true => .need (fm (nextX x i o d)).okB (match (fm (nextX x i o d)).is with
       | true => .leaf (.ret, ⟨i, (fm (nextX x i o d)).dead, (fm (nextX x i o d)).order, true, true⟩)
       | false => .need (decide (1 <= (fm (nextX x i o d)).order.length /\ (fm (nextX x i o d)).order.length <= 1000))
         (.leaf (.normal, ⟨i + 1, (fm (nextX x i o d)).dead, (fm (nextX x i o d)).order.take ((fm (nextX x i o d)).order.length - 1), true, false⟩))))
theorem stepX_val {fm : FI -> FR} {x : FI} {i : Nat} {d : List (Int × ByteArray)} {o : List N1} {sh : Bool} (h1 : i <= x.rows.length) (h2 : x.rows.length <= 12) (h3 : x.ahead.length = x.rows.length) (h4 : o.length <= 12) :
 (stepX fm x ⟨i, d, o, sh, false⟩).val = (stepIn fm x i d o sh).val := by
 unfold stepX
 rw [nv (decide_eq_true ⟨h1, by omega, h3, by simp only; omega, rfl⟩)]
 rfl
theorem loop_spec {l : List Rw} {st : Int} {k : Nat} {fm : FI -> FR} (hfm : ∀ x s, Inv l st k x s -> Spec l st x s (fm x)) {x : FI} {s : Nat} (h : Inv l st (k + 1) x s) :
 ∀ (n i : Nat) (d : List (Int × ByteArray)) (sh : Bool), i + n = l.length -> DeadOk l st d ->
   (∃ (j : Nat) (d' : List (Int × ByteArray)) (o' : List N1) (os : List Nat), iter (stepX fm x) (n + 1) ⟨i, d, x.order, sh, false⟩ = some (.ret, ⟨j, d', o', true, true⟩) /\ Go l s x.m os /\ o' = x.order ++ os.map fun i => ⟨(i : Int)⟩) \/
   (∃ (d' : List (Int × ByteArray)) (sh' : Bool), iter (stepX fm x) (n + 1) ⟨i, d, x.order, sh, false⟩ = some (.exit 0, ⟨l.length, d', x.order, sh', false⟩) /\ DeadOk l st d' /\ ∀ j os, i <= j -> ¬ (Cand l s j /\ (perfM x.m (rowAt l j)).1 = true /\ Go l (s ||| 2 ^ j) (perfM x.m (rowAt l j)).2 os))
 | 0, i, d, sh, hn, hd => by
   have hi : i = l.length := by omega
   have hrows := h.rows
   have hal : x.ahead.length = x.rows.length := by rw [h.ahead, setsL_len, h.rows]
   have ho := h.ord
   have hlen := h.len
   refine .inr ⟨d, sh, ?_, hd, fun j os hj hc => by have := hc.1.1; omega⟩
   rw [iter, stepX_val (by rw [hrows]; omega) (by rw [hrows]; exact h.len) hal (by omega), stepIn]
   have hb : Nat.blt i x.rows.length = false := by
    rw [hrows]
    exact Bool.eq_false_iff.2 fun h' => by rw [Nat.blt_eq] at h'; omega
   rw [hb]
   subst hi
   rfl
 | n + 1, i, d, sh, hn, hd => by
   have hrows := h.rows
   have hal : x.ahead.length = x.rows.length := by rw [h.ahead, setsL_len, h.rows]
   have ho := h.ord
   have hlen := h.len
   have hi : i < l.length := by omega
   have hb : Nat.blt i x.rows.length = true := by rw [hrows, Nat.blt_eq]; exact hi
   rw [iter, stepX_val (by rw [hrows]; omega) (by rw [hrows]; exact h.len) hal (by omega), stepIn, hb]
   have pass : ∀ (d' : List (Int × ByteArray)) (sh' : Bool), DeadOk l st d' -> (∀ os, ¬ (Cand l s i /\ (perfM x.m (rowAt l i)).1 = true /\ Go l (s ||| 2 ^ i) (perfM x.m (rowAt l i)).2 os)) ->
    (∃ (j : Nat) (d'' : List (Int × ByteArray)) (o' : List N1) (os : List Nat), iter (stepX fm x) (n + 1) ⟨i + 1, d', x.order, sh', false⟩ = some (.ret, ⟨j, d'', o', true, true⟩) /\ Go l s x.m os /\ o' = x.order ++ os.map fun i => ⟨(i : Int)⟩) \/
    (∃ (d'' : List (Int × ByteArray)) (sh'' : Bool), iter (stepX fm x) (n + 1) ⟨i + 1, d', x.order, sh', false⟩ = some (.exit 0, ⟨l.length, d'', x.order, sh'', false⟩) /\ DeadOk l st d'' /\ ∀ j os, i <= j -> ¬ (Cand l s j /\ (perfM x.m (rowAt l j)).1 = true /\ Go l (s ||| 2 ^ j) (perfM x.m (rowAt l j)).2 os)) := fun d' sh' hd' hno => by
    rcases loop_spec hfm h n (i + 1) d' sh' (by omega) hd' with h1 | ⟨d'', sh'', h1, h2, h3⟩
    ·exact .inl h1
    ·refine .inr ⟨d'', sh'', h1, h2, fun j os hj => ?_⟩
     rcases Nat.eq_or_lt_of_le hj with e | hlt
     ·subst e; exact hno os
     ·exact h3 j os hlt
   cases hs : skipX x i with
   | true => exact pass d sh hd fun os hc => by rw [(h.skip hi).2 hc.1] at hs; cases hs
   | false =>
     have hc := (h.skip hi).1 hs
     have hsm : x.m.sm = true := by
      obtain ⟨b, hb, hbl⟩ := h.small
      have := hb.vals; have := hb.pairs
      exact decide_eq_true ⟨by omega, by omega⟩
     dsimp only
     rw [nv hsm, rowX_eq h i]
     cases hp : (perfM x.m (rowAt l i)).1 with
     | false => exact pass d sh hd fun os hc => by rw [hp] at hc; exact Bool.noConfusion hc.2.1
     | true =>
       have hx := h.next hc hd
       have sp := hfm _ _ hx
       dsimp only
       rw [nv sp.ok]
       cases hi2 : (fm (nextX x i x.order d)).is with
       | true =>
         obtain ⟨os, g1, g2⟩ := sp.yes hi2
         refine .inl ⟨i, _, _, i :: os, rfl, ⟨hc, hp, ?_⟩, ?_⟩
         ·have : (nextX x i x.order d).m = (perfM x.m (rowAt l i)).2 := by show (perfM x.m (rowX x i)).2 = _; rw [rowX_eq h i]
          rw [this] at g1
          exact g1
         ·rw [g2]
          show (x.order ++ [_]) ++ _ = _
          rw [List.append_assoc]
          rfl
       | false =>
         obtain ⟨g1, g2, g3⟩ := sp.no hi2
         have go : (fm (nextX x i x.order d)).order = x.order ++ [⟨(i : Int)⟩] := g2
         dsimp only
         rw [go, nv (decide_eq_true (by rw [List.length_append, List.length_singleton]; omega))]
         have et : (x.order ++ [(⟨(i : Int)⟩ : N1)]).take ((x.order ++ [(⟨(i : Int)⟩ : N1)]).length - 1) = x.order := by
          rw [List.length_append, List.length_singleton, Nat.add_sub_cancel, List.take_left]
         rw [et]
         refine pass _ true g3 fun os hcc => ?_
         have : (nextX x i x.order d).m = (perfM x.m (rowAt l i)).2 := by show (perfM x.m (rowX x i)).2 = _; rw [rowX_eq h i]
         rw [this] at g1
         exact g1 os hcc.2.2
theorem putD_or (x : FI) (d : List (Int × ByteArray)) : putD x d = ptS x.set (ctext x.m) d \/ putD x d = d := by
 have e : ∀ g : FI -> List (Int × ByteArray) -> List (Int × ByteArray), g = putD -> g x d = ptS x.set (ctext x.m) d \/ g x d = d := by
  intro g hg
  delta putD at hg
  subst hg
  dsimp only
  generalize decide ((d.length : Int) < 524288) = q
  cases q with
  | true => exact .inl rfl
  | false => exact .inr rfl
 exact e putD rfl
theorem ptS_mem (n : Int) (t : ByteArray) : ∀ (d : List (Int × ByteArray)) e, e ∈ ptS n t d -> e ∈ d \/ e = (n, t)
 | [], e, he => .inr (List.mem_singleton.1 he)
 | y :: r, e, he => by
   simp only [ptS] at he
   split at he
   ·exact .inl he
   ·rcases List.mem_cons.1 he with rfl | he
    ·exact .inl List.mem_cons_self
    ·rcases ptS_mem n t r e he with h | h
     ·exact .inl (List.mem_cons_of_mem _ h)
     ·exact .inr h
theorem putD_ok {l : List Rw} {st : Int} {x : FI} {s : Nat} (hset : x.set = (s : Int)) (hst : x.m.st = st) {d : List (Int × ByteArray)} (hd : DeadOk l st d) (hno : ∀ os, ¬ Go l s x.m os) : DeadOk l st (putD x d) := by
 rcases putD_or x d with e | e
 ·rw [e]
  intro e he s' m' h1 h2 h3 os
  rcases ptS_mem _ _ d e he with h | rfl
  ·exact hd e h s' m' h1 h2 h3 os
  ·have hm : m' = x.m := ctext_inj (by rw [h2, hst]) h3
   have h1 : x.set = (s' : Int) := h1
   have hs : s' = s := by rw [hset] at h1; omega
   rw [hm, hs]
   exact hno os
 ·rw [e]; exact hd
theorem find_spec {l : List Rw} {st : Int} : ∀ (k : Nat) (x : FI) (s : Nat), Inv l st k x s -> Spec l st x s (fmK k x)
 | 0, x, s, h => absurd h.fuel (by omega)
 | k + 1, x, s, h => by
   have ih := find_spec (l := l) (st := st) k
   rw [fmK]
   unfold fmS
   cases hall : (bitI .and .i64 x.set x.done == x.done : Bool) with
   | true => exact ⟨rfl, fun _ => ⟨[], h.all.1 hall, by simp⟩, fun h' => (by cases h')⟩
   | false =>
     have hnil : ¬ ∀ i, i < l.length -> finN l i = true -> s.testBit i = true := fun h' => by rw [h.all.2 h'] at hall; cases hall
     have hcont : contOk x.m = true := by
      obtain ⟨b, hb, hbl⟩ := h.small
      have h1 := hb.vals
      have h2 := hb.pairs
      simp only [contOk, Bool.and_eq_true, decide_eq_true_eq, List.all_eq_true, in64]
      exact ⟨⟨by omega, by omega⟩, fun v hv => hb.inv v hv, fun p hp => hb.inp p hp⟩
     dsimp only
     rw [hcont]
     cases hdead : x.dead.any (eqS x.set (ctext x.m)) with
     | true =>
       refine ⟨rfl, fun h' => (by cases h'), fun _ => ⟨fun os => ?_, rfl, h.dead⟩⟩
       obtain ⟨e, he, heq⟩ := List.any_eq_true.1 hdead
       simp only [eqS, Bool.and_eq_true] at heq
       obtain ⟨h1, h2⟩ := heq
       have h1 : x.set = e.1 := by simpa using h1
       have h2 : ctext x.m = e.2 := by
        have h2 : ((ctext x.m).data == e.2.data) = true := h2
        have h2 := beq_iff_eq.1 h2
        generalize ctext x.m = a at h2 ⊢
        generalize e.2 = b at h2 ⊢
        cases a; cases b; simp only at h2; rw [h2]
       exact h.dead e he s x.m (by rw [<- h1, h.set]) h.stt h2 os
     | false =>
       have hrun : runX (fmK k) x = iter (stepX (fmK k) x) (l.length + 1) ⟨0, x.dead, x.order, false, false⟩ := by unfold runX; rw [h.rows]
       rcases loop_spec ih h l.length 0 x.dead false (by omega) h.dead with ⟨j, d', o', os, h1, h2, h3⟩ | ⟨d', sh', h1, h2, h3⟩
       ·rw [<- hrun] at h1
        have hok : okX (fmK k) x = true := by unfold okX; rw [h1]; rfl
        have hen : endX (fmK k) x = ⟨j, d', o', true, true⟩ := by unfold endX; rw [h1]
        dsimp only
        rw [hok, hen]
        exact ⟨rfl, fun _ => ⟨os, h2, h3⟩, fun h' => (by cases h')⟩
       ·rw [<- hrun] at h1
        have hok : okX (fmK k) x = true := by unfold okX; rw [h1]; rfl
        have hen : endX (fmK k) x = ⟨l.length, d', x.order, sh', false⟩ := by unfold endX; rw [h1]
        have hno : ∀ os, ¬ Go l s x.m os := fun os hg => by
         cases os with
         | nil => exact hnil hg
         | cons i os => exact h3 i os (Nat.zero_le _) hg
        dsimp only
        rw [hok, hen]
        have hd := putD_ok h.set h.stt h2 hno
        generalize putD x d' = dd at hd
        exact ⟨rfl, fun h' => (by cases h'), fun _ => ⟨hno, rfl, hd⟩⟩
theorem lin_inv (l : List Rw) (st : Int) (b : Bool) (hl : l.length <= 12) : Inv l st 14 (inL setsL st b l) 0 where
 rows := rfl
 len := hl
 ahead := rfl
 done := rfl
 set := rfl
 slt := Nat.two_pow_pos _
 fuel := by have := unN_le 0 l.length; omega
 ord := by
  have := unN_le 0 l.length
  show 0 + unN 0 l.length <= 12
  omega
 stt := rfl
 small := ⟨0, ⟨Nat.le_refl _, Nat.le_refl _, fun v hv => (by cases hv), fun p hp => (by cases hp)⟩, by have := unN_le 0 l.length; omega⟩
 dead := fun e he => (by cases he)
theorem lin_spec (l : List Rw) (st : Int) (b : Bool) (hl : l.length <= 12) : Spec l st (inL setsL st b l) 0 (fmK 14 (inL setsL st b l)) :=
 find_spec (l := l) (st := st) 14 (inL setsL st b l) 0 (lin_inv l st b hl)
def Lin (st : Int) (l : List Rw) : Prop := ∃ os, Go l 0 ⟨st, [], []⟩ os
theorem lin_is {l : List Rw} {st : Int} {b : Bool} (hl : l.length <= 12) : (fmK 14 (inL setsL st b l)).is = true ↔ Lin st l := by
 have h := lin_spec l st b hl
 constructor
 ·intro hi
  obtain ⟨os, h1, _⟩ := h.yes hi
  exact ⟨os, h1⟩
 ·rintro ⟨os, ho⟩
  cases hi : (fmK 14 (inL setsL st b l)).is with
  | true => rfl
  | false => exact absurd ho ((h.no hi).1 os)
end Go.Proofs.YtpapbhbnaalhcaaDoor

namespace Go.Proofs.YtpapbhbnaalhcaaDoor
open Go Go.Sx Go.Proofs
set_option linter.unusedVariables false
set_option maxRecDepth 100000
def lkO (t : Int) (mp : List (Int × Int)) : Option Int := if (lkI t 0 mp).2 then some (lkI t 0 mp).1 else none
theorem lkO_cons (t : Int) (e : Int × Int) (r : List (Int × Int)) : lkO t (e :: r) = if t = e.1 then some e.2 else lkO t r := by
 unfold lkO
 simp only [lkI]
 by_cases h : t = e.1
 ·simp [h]
 ·simp [h]
theorem lkO_mem {t k : Int} : ∀ {mp : List (Int × Int)}, lkO t mp = some k -> t ∈ mp.map Prod.fst
 | [], h => by simp [lkO, lkI] at h
 | e :: r, h => by
   rw [lkO_cons] at h
   split at h
   ·rename_i e1; rw [e1]; exact List.mem_cons_self
   ·exact List.mem_cons_of_mem _ (lkO_mem h)
theorem lkO_pt (t t' m : Int) : ∀ mp : List (Int × Int), lkO t' (ptI t m mp) = if t' = t then some m else lkO t' mp
 | [] => by
   rw [ptI, lkO_cons]
 | e :: r => by
   simp only [ptI]
   by_cases h : t = e.1
   ·rw [if_pos (by simpa using h), lkO_cons, lkO_cons, <- h]
    split <;> simp_all
   ·rw [if_neg (by simpa using h), lkO_cons, lkO_cons, lkO_pt t t' m r]
    by_cases h2 : t' = e.1
    ·rw [if_pos h2, if_pos h2, if_neg (fun h3 => h (h3.symm.trans h2))]
    ·rw [if_neg h2, if_neg h2]
theorem keys_pt (t m : Int) : ∀ (mp : List (Int × Int)) (k : Int), k ∈ (ptI t m mp).map Prod.fst -> k = t \/ k ∈ mp.map Prod.fst
 | [], k, h => by simp [ptI] at h; exact .inl h
 | e :: r, k, h => by
   simp only [ptI] at h
   split at h
   ·rcases List.mem_cons.1 h with h | h
    ·exact .inr (by rw [h]; exact List.mem_cons_self)
    ·exact .inr (List.mem_cons_of_mem _ h)
   ·rcases List.mem_cons.1 h with h | h
    ·exact .inr (by rw [h]; exact List.mem_cons_self)
    ·rcases keys_pt t m r k h with h | h
     ·exact .inl h
     ·exact .inr (List.mem_cons_of_mem _ h)
theorem nd_pt (t m : Int) : ∀ mp : List (Int × Int), (mp.map Prod.fst).Nodup -> ((ptI t m mp).map Prod.fst).Nodup
 | [], h => by simp [ptI]
 | e :: r, h => by
   obtain ⟨h1, h2⟩ := List.nodup_cons.1 h
   simp only [ptI]
   split
   ·exact h
   ·rename_i hne
    refine List.nodup_cons.2 ⟨fun hm => ?_, nd_pt t m r h2⟩
    rcases keys_pt t m r _ hm with h3 | h3
    ·exact hne (by simpa using h3.symm)
    ·exact h1 h3
theorem keys_dl (t : Int) : ∀ (mp : List (Int × Int)) (k : Int), k ∈ (dlI t mp).map Prod.fst -> k ∈ mp.map Prod.fst
 | [], k, h => h
 | e :: r, k, h => by
   simp only [dlI] at h
   split at h
   ·exact List.mem_cons_of_mem _ h
   ·rcases List.mem_cons.1 h with h | h
    ·rw [h]; exact List.mem_cons_self
    ·exact List.mem_cons_of_mem _ (keys_dl t r k h)
theorem nd_dl (t : Int) : ∀ mp : List (Int × Int), (mp.map Prod.fst).Nodup -> ((dlI t mp).map Prod.fst).Nodup
 | [], h => h
 | e :: r, h => by
   obtain ⟨h1, h2⟩ := List.nodup_cons.1 h
   simp only [dlI]
   split
   ·exact h2
   ·exact List.nodup_cons.2 ⟨fun hm => h1 (keys_dl t r _ hm), nd_dl t r h2⟩
theorem lkO_dl (t t' : Int) : ∀ mp : List (Int × Int), (mp.map Prod.fst).Nodup -> lkO t' (dlI t mp) = if t' = t then none else lkO t' mp
 | [], h => by simp [dlI, lkO, lkI]
 | e :: r, h => by
   obtain ⟨h1, h2⟩ := List.nodup_cons.1 h
   simp only [dlI]
   by_cases h3 : t = e.1
   ·rw [if_pos (by simpa using h3), lkO_cons]
    by_cases h4 : t' = t
    ·rw [if_pos h4]
     cases hh : lkO t' r with
     | none => rfl
     | some k =>
       have := lkO_mem hh
       rw [h4, h3] at this
       exact absurd this h1
    ·rw [if_neg h4, if_neg (fun h5 => h4 (h5.trans h3.symm))]
   ·rw [if_neg (by simpa using h3), lkO_cons, lkO_cons, lkO_dl t t' r h2]
    by_cases h4 : t' = e.1
    ·rw [if_pos h4, if_pos h4, if_neg (fun h5 => h3 (h5.symm.trans h4))]
    ·rw [if_neg h4, if_neg h4]
theorem rowAt_app {l m : List Rw} {i : Nat} (h : i < l.length) : rowAt (l ++ m) i = rowAt l i := by
 unfold rowAt
 simp only [List.getD, List.getElem?_append_left h]
theorem rowAt_end {l : List Rw} {r : Rw} : rowAt (l ++ [r]) l.length = r := by
 unfold rowAt
 simp [List.getD]
theorem rowAt_set {l : List Rw} {i k : Nat} {r : Rw} (h : i < l.length) : rowAt (l.set i r) k = if i = k then r else rowAt l k := by
 unfold rowAt
 simp only [List.getD, List.getElem?_set]
 split
 ·first | rfl | (rw [if_pos (by omega)]; rfl)
 ·rfl
structure WF (n : Nat) (l : List Rw) : Prop where
 asc : ∀ i j, i < j -> j < l.length -> (rowAt l i).frm < (rowAt l j).frm
 lo : ∀ i, i < l.length -> 0 <= (rowAt l i).frm /\ (rowAt l i).frm < (n : Int)
 fin : ∀ i, i < l.length -> finN l i = true -> (rowAt l i).frm < (rowAt l i).till /\ (rowAt l i).till < (n : Int)
 ne1 : ∀ i j, i < l.length -> j < l.length -> finN l i = true -> (rowAt l i).till ≠ (rowAt l j).frm
 ne2 : ∀ i j, i < l.length -> j < l.length -> i ≠ j -> finN l i = true -> finN l j = true -> (rowAt l i).till ≠ (rowAt l j).till
 thr : ∀ i j, i < j -> j < l.length -> (rowAt l i).thread = (rowAt l j).thread -> finN l i = true /\ (rowAt l i).till < (rowAt l j).frm
 opn : ∀ i, i < l.length -> finN l i = false -> (rowAt l i).code = 0 /\ (rowAt l i).aval = 0 /\ (rowAt l i).till = 0
theorem WF.mono {n m : Nat} {l : List Rw} (h : WF n l) (hm : n <= m) : WF m l := ⟨h.asc, fun i hi => ⟨(h.lo i hi).1, by have := (h.lo i hi).2; omega⟩, fun i hi hf => ⟨(h.fin i hi hf).1, by have := (h.fin i hi hf).2; omega⟩, h.ne1, h.ne2, h.thr, h.opn⟩
structure RI (m : MR) : Prop where
 wf : WF m.i m.rs
 nd : (m.mp.map Prod.fst).Nodup
 map : ∀ t i, lkO t m.mp = some i ↔ ∃ k : Nat, i = (k : Int) /\ k < m.rs.length /\ (rowAt m.rs k).thread = t /\ finN m.rs k = false
theorem WF.push {n : Nat} {l : List Rw} (h : WF n l) {r : Rw} (h1 : r.frm = (n : Int)) (ht : ∀ i, i < l.length -> (rowAt l i).thread = r.thread -> finN l i = true) (hr : (r.fin = false /\ r.code = 0 /\ r.aval = 0 /\ r.till = 0)) : WF (n + 1) (l ++ [r]) := by
 have at_ : ∀ i, i < (l ++ [r]).length -> (i < l.length /\ rowAt (l ++ [r]) i = rowAt l i) \/ (i = l.length /\ rowAt (l ++ [r]) i = r) := fun i hi => by
  rw [List.length_append, List.length_singleton] at hi
  by_cases h : i < l.length
  ·exact .inl ⟨h, rowAt_app h⟩
  ·have e : i = l.length := by omega
   exact .inr ⟨e, by rw [e]; exact rowAt_end⟩
 have hlen : (l ++ [r]).length = l.length + 1 := by simp
 refine ⟨fun i j hij hj => ?_, fun i hi => ?_, fun i hi hf => ?_, fun i j hi hj hf => ?_, fun i j hi hj hij hf hg => ?_, fun i j hij hj hth => ?_, fun i hi hf => ?_⟩
 ·rcases at_ j hj with ⟨a, e⟩ | ⟨a, e⟩
  ·rw [e, rowAt_app (by omega)]; exact h.asc i j hij a
  ·rw [e, rowAt_app (by omega), h1]; exact (h.lo i (by omega)).2
 ·rcases at_ i hi with ⟨a, e⟩ | ⟨a, e⟩
  ·rw [e]; have := h.lo i a; omega
  ·rw [e, h1]; omega
 ·unfold finN at hf
  rcases at_ i hi with ⟨a, e⟩ | ⟨a, e⟩
  ·rw [e] at hf ⊢; have := h.fin i a hf; omega
  ·rw [e, hr.1] at hf; cases hf
 ·unfold finN at hf
  rcases at_ i hi with ⟨a, e⟩ | ⟨a, e⟩
  ·rw [e] at hf ⊢
   rcases at_ j hj with ⟨b, f⟩ | ⟨b, f⟩
   ·rw [f]; exact h.ne1 i j a b hf
   ·rw [f, h1]; have := (h.fin i a hf).2; omega
  ·rw [e, hr.1] at hf; cases hf
 ·unfold finN at hf hg
  rcases at_ i hi with ⟨a, e⟩ | ⟨a, e⟩
  ·rcases at_ j hj with ⟨b, f⟩ | ⟨b, f⟩
   ·rw [e] at hf ⊢; rw [f] at hg ⊢; exact h.ne2 i j a b hij hf hg
   ·rw [f, hr.1] at hg; cases hg
  ·rw [e, hr.1] at hf; cases hf
 ·unfold finN
  rcases at_ j hj with ⟨b, f⟩ | ⟨b, f⟩
  ·rw [f, rowAt_app (by omega)] at hth ⊢; exact h.thr i j hij b hth
  ·rw [f, rowAt_app (by omega)] at hth ⊢
   have hi : i < l.length := by omega
   have hfin := ht i hi hth
   exact ⟨hfin, by rw [h1]; exact (h.fin i hi hfin).2⟩
 ·unfold finN at hf
  rcases at_ i hi with ⟨a, e⟩ | ⟨a, e⟩
  ·rw [e] at hf ⊢; exact h.opn i a hf
  ·rw [e]; exact hr.2
theorem WF.close {n : Nat} {l : List Rw} (h : WF n l) {k : Nat} (hk : k < l.length) (ho : finN l k = false) {r : Rw} (h1 : r.thread = (rowAt l k).thread) (h2 : r.frm = (rowAt l k).frm) (h3 : r.till = (n : Int)) (h4 : r.fin = true) : WF (n + 1) (l.set k r) := by
 have hlen : (l.set k r).length = l.length := List.length_set
 have at_ : ∀ i, rowAt (l.set k r) i = if k = i then r else rowAt l i := fun i => rowAt_set hk
 have frm_ : ∀ i, (rowAt (l.set k r) i).frm = (rowAt l i).frm := fun i => by
  rw [at_]; split
  ·rename_i e; rw [h2, e]
  ·rfl
 have thr_ : ∀ i, (rowAt (l.set k r) i).thread = (rowAt l i).thread := fun i => by
  rw [at_]; split
  ·rename_i e; rw [h1, e]
  ·rfl
 have ne_ : ∀ i, k ≠ i -> rowAt (l.set k r) i = rowAt l i := fun i hi => by rw [at_, if_neg hi]
 have eq_ : rowAt (l.set k r) k = r := by rw [at_, if_pos rfl]
 refine ⟨fun i j hij hj => ?_, fun i hi => ?_, fun i hi hf => ?_, fun i j hi hj hf => ?_, fun i j hi hj hij hf hg => ?_, fun i j hij hj hth => ?_, fun i hi hf => ?_⟩ <;> rw [hlen] at *
 ·rw [frm_, frm_]; exact h.asc i j hij hj
 ·rw [frm_]; have := h.lo i hi; omega
 ·rw [frm_]
  unfold finN at hf
  by_cases e : k = i
  ·subst e; rw [eq_, h3]; have := h.lo k hi; omega
  ·rw [ne_ i e] at hf ⊢; have := h.fin i hi hf; omega
 ·rw [frm_]
  unfold finN at hf
  by_cases e : k = i
  ·subst e; rw [eq_, h3]; have := (h.lo j hj).2; omega
  ·rw [ne_ i e] at hf ⊢; exact h.ne1 i j hi hj hf
 ·unfold finN at hf hg
  by_cases e : k = i
  ·subst e
   rw [ne_ j hij] at hg ⊢
   rw [eq_, h3]; have := (h.fin j hj hg).2; omega
  ·rw [ne_ i e] at hf ⊢
   by_cases f : k = j
   ·subst f; rw [eq_, h3]; have := (h.fin i hi hf).2; omega
   ·rw [ne_ j f] at hg ⊢; exact h.ne2 i j hi hj hij hf hg
 ·rw [thr_, thr_] at hth
  rw [frm_]
  have := h.thr i j hij hj hth
  unfold finN at *
  by_cases e : k = i
  ·subst e; rw [ho] at this; cases this.1
  ·rw [ne_ i e]; exact this
 ·unfold finN at hf
  by_cases e : k = i
  ·subst e; rw [eq_, h4] at hf; cases hf
  ·rw [ne_ i e] at hf ⊢; exact h.opn i hi hf
theorem oneE_ri {m m' : MR} {x : Evt} (h : RI m) (ho : oneE m x = (.normal, m')) : RI m' /\ m'.i = m.i + 1 := by
 unfold oneE at ho
 split at ho
 ·cases ho
 ·split at ho
  ·cases ho
  ·rename_i hb hne
   split at ho
   ·rename_i hbeg
    cases ho
    have hno : (lkI x.thread 0 m.mp).2 = false := by
     cases hh : (lkI x.thread 0 m.mp).2 with
     | false => rfl
     | true => rw [hh, hbeg] at hne; exact absurd rfl hne
    have hnone : lkO x.thread m.mp = none := by unfold lkO; rw [hno]; rfl
    have free : ∀ k, k < m.rs.length -> (rowAt m.rs k).thread = x.thread -> finN m.rs k = true := fun k hk ht => by
     cases hf : finN m.rs k with
     | true => rfl
     | false =>
       have := (h.map x.thread k).2 ⟨k, rfl, hk, ht, hf⟩
       rw [hnone] at this; cases this
    refine ⟨⟨h.wf.push (r := newRw x m.i) rfl (fun i hi ht => free i hi ht) ⟨rfl, rfl, rfl, rfl⟩, nd_pt _ _ _ h.nd, fun t i => ?_⟩, rfl⟩
    show lkO t (ptI x.thread m.rs.length m.mp) = some i ↔ _
    rw [lkO_pt]
    constructor
    ·intro hi
     split at hi
     ·rename_i e
      cases hi
      exact ⟨m.rs.length, rfl, by simp, by rw [rowAt_end]; exact e.symm, by unfold finN; rw [rowAt_end]; rfl⟩
     ·obtain ⟨k, e, hk, ht, hf⟩ := (h.map t i).1 hi
      exact ⟨k, e, by simp; omega, by rw [rowAt_app hk]; exact ht, by unfold finN; rw [rowAt_app hk]; exact hf⟩
    ·rintro ⟨k, e, hk, ht, hf⟩
     unfold finN at hf
     simp only [List.length_append, List.length_singleton] at hk
     by_cases hlt : k < m.rs.length
     ·rw [rowAt_app hlt] at ht hf
      have hne' : ¬ t = x.thread := fun e2 => by
       have := free k hlt (by rw [ht, e2])
       unfold finN at this
       rw [hf] at this; cases this
      rw [if_neg hne']
      exact (h.map t i).2 ⟨k, e, hlt, ht, hf⟩
     ·have ek : k = m.rs.length := by omega
      subst ek
      rw [rowAt_end] at ht
      have ht : x.thread = t := ht
      rw [if_pos ht.symm, e]
   ·rename_i hbeg
    cases ho
    have hyes : (lkI x.thread 0 m.mp).2 = true := by
     cases hh : (lkI x.thread 0 m.mp).2 with
     | true => rfl
     | false =>
       have : x.begins = false := by simpa using hbeg
       rw [hh, this] at hne; exact absurd rfl hne
    have hsome : lkO x.thread m.mp = some (lkI x.thread 0 m.mp).1 := by unfold lkO; rw [hyes]; rfl
    obtain ⟨k, e, hk, ht, hf⟩ := (h.map _ _).1 hsome
    have ek : (lkI x.thread 0 m.mp).1.toNat = k := by omega
    rw [ek]
    refine ⟨⟨h.wf.close hk hf (r := ansRw x m.i (m.rs.getD k krows.dflt)) rfl rfl rfl rfl, nd_dl _ _ h.nd, fun t i => ?_⟩, rfl⟩
    show lkO t (dlI x.thread m.mp) = some i ↔ _
    rw [lkO_dl _ _ _ h.nd]
    have hlen : (m.rs.set k (ansRw x m.i (m.rs.getD k krows.dflt))).length = m.rs.length := List.length_set
    constructor
    ·intro hi
     split at hi
     ·cases hi
     ·rename_i hne'
      obtain ⟨k', e', hk', ht', hf'⟩ := (h.map t i).1 hi
      have hkk : k ≠ k' := fun e2 => hne' (by rw [<- ht', <- e2, ht])
      exact ⟨k', e', by rw [hlen]; exact hk', by rw [rowAt_set hk, if_neg hkk]; exact ht', by unfold finN; rw [rowAt_set hk, if_neg hkk]; exact hf'⟩
    ·rintro ⟨k', e', hk', ht', hf'⟩
     rw [hlen] at hk'
     unfold finN at hf'
     rw [rowAt_set hk] at ht' hf'
     by_cases hkk : k = k'
     ·rw [if_pos hkk] at hf'; cases hf'
     ·rw [if_neg hkk] at ht' hf'
      have h1 := (h.map t i).2 ⟨k', e', hk', ht', hf'⟩
      have hne' : ¬ t = x.thread := fun e2 => by
       rw [e2, hsome, e, e'] at h1
       have := Option.some.inj h1
       omega
      rw [if_neg hne']
      exact h1
theorem rowsGo_ri : ∀ (e : List Evt) (m : MR), RI m -> (rowsGo e m).2.w = none -> m.w = none -> RI (rowsGo e m).2 /\ (rowsGo e m).2.i = m.i + e.length
 | [], m, h, _, _ => ⟨h, rfl⟩
 | x :: r, m, h, hw, hm => by
   simp only [rowsGo] at hw ⊢
   cases ho : oneE m x with
   | mk ex m' =>
     rw [ho] at hw
     cases ex with
     | normal =>
       obtain ⟨h1, h2⟩ := oneE_ri h ho
       have hm' : m'.w = none := by
        unfold oneE at ho
        split at ho
        ·cases ho
        ·split at ho
         ·cases ho
         ·split at ho <;> cases ho <;> rfl
       obtain ⟨g1, g2⟩ := rowsGo_ri r m' h1 hw hm'
       exact ⟨g1, by rw [g2, h2]; simp; omega⟩
     | exit j =>
       exfalso
       unfold oneE at ho
       split at ho
       ·cases ho
       ·split at ho
        ·cases ho
        ·split at ho <;> cases ho
     | ret =>
       exfalso
       simp only at hw
       unfold oneE at ho
       split at ho
       ·cases ho; cases hw
       ·split at ho
        ·cases ho; cases hw
        ·split at ho <;> cases ho
theorem ofOk_wf {l : List Rw} (h : ofOk l = true) : WF (ofK l) l := by
 unfold ofOk at h
 split at h
 ·cases h
 ·split at h
  ·cases h
  ·rename_i h1 h2
   have hs := (sameL_iff _ _).1 h
   have hw : (rowsM (ofEv l)).w = none := by
    unfold errR at h2
    cases hh : (rowsM (ofEv l)).w with
    | none => rfl
    | some w => rw [hh] at h2; cases h2
   have r0 : RI rows0 := ⟨⟨fun i j _ hj => absurd hj (Nat.not_lt_zero _), fun i hi => absurd hi (Nat.not_lt_zero _), fun i hi => absurd hi (Nat.not_lt_zero _), fun i j hi => absurd hi (Nat.not_lt_zero _), fun i j hi => absurd hi (Nat.not_lt_zero _), fun i j _ hj => absurd hj (Nat.not_lt_zero _), fun i hi => absurd hi (Nat.not_lt_zero _)⟩, List.nodup_nil, fun t i => ⟨fun h => (by cases h), fun ⟨k, _, hk, _⟩ => absurd hk (Nat.not_lt_zero _)⟩⟩
   obtain ⟨g1, g2⟩ := rowsGo_ri (ofEv l) rows0 r0 hw rfl
   have g3 := g1.wf
   rw [show (rowsGo (ofEv l) rows0).2.rs = l from hs, g2, ofEv, ofM_len] at g3
   exact g3.mono (by show 0 + _ <= _; omega)
end Go.Proofs.YtpapbhbnaalhcaaDoor

namespace Go.Proofs.YtpapbhbnaalhcaaDoor
open Go Go.Sx Go.Proofs
set_option linter.unusedVariables false
set_option maxRecDepth 100000
def cntT : List B1 -> Nat
 | [] => 0
 | b :: r => cntT r + (if b.val then 1 else 0)
theorem cntT_set : ∀ (l : List B1) (p : Nat), p < l.length -> (l.getD p kbools.dflt).val = false -> cntT (l.set p ⟨true⟩) = cntT l + 1
 | b :: r, 0, _, h => by
   have h : b.val = false := h
   simp [cntT, h]
 | b :: r, p + 1, hp, h => by
   have := cntT_set r p (by simpa using hp) (by simpa [List.getD] using h)
   simp only [List.set_cons_succ, cntT, this]
   omega
theorem cntT_le : ∀ l : List B1, cntT l <= l.length
 | [] => Nat.le_refl _
 | b :: r => by
   have := cntT_le r
   simp only [cntT, List.length_cons]
   split <;> omega
theorem cntT_all : ∀ (l : List B1), cntT l = l.length -> ∀ p, p < l.length -> (l.getD p kbools.dflt).val = true
 | b :: r, h, p, hp => by
   have hr := cntT_le r
   simp only [cntT, List.length_cons] at h
   cases p with
   | zero =>
     show b.val = true
     cases hb : b.val with
     | true => rfl
     | false => rw [hb] at h; simp at h; omega
   | succ p =>
     have : cntT r = r.length := by
      split at h <;> omega
     have := cntT_all r this p (by simpa using hp)
     simpa [List.getD] using this
theorem cntT_rep : ∀ n, cntT (List.replicate n ⟨false⟩) = 0
 | 0 => rfl
 | n + 1 => by simp [List.replicate_succ, cntT, cntT_rep n]
def Occ (l : List Rw) (i p : Nat) : Prop := ∃ j, j < i /\ ((rowAt l j).frm = (p : Int) \/ finN l j = true /\ (rowAt l j).till = (p : Int))
structure OI (l : List Rw) (i : Nat) (m : MO) : Prop where
 ev : m.ev.length = ofK l
 tk : m.tk.length = ofK l
 er : m.er = false
 occ : ∀ p, p < ofK l -> ((m.tk.getD p kbools.dflt).val = true ↔ Occ l i p)
 cnt : cntT m.tk = i + ((l.take i).filter Rw.fin).length
 beg : ∀ j, j < i -> m.ev.getD (rowAt l j).frm.toNat kevents.dflt = evB (rowAt l j)
 ans : ∀ j, j < i -> finN l j = true -> m.ev.getD (rowAt l j).till.toNat kevents.dflt = evE (rowAt l j)
theorem ev_set {e : List Evt} {p q : Nat} {x : Evt} (h : p < e.length) : (e.set p x).getD q kevents.dflt = if p = q then x else e.getD q kevents.dflt := by
 simp only [List.getD, List.getElem?_set]
 split
 ·first | rfl | (rw [if_pos (by omega)]; rfl)
 ·rfl
theorem tk_set {e : List B1} {p q : Nat} {x : B1} (h : p < e.length) : (e.set p x).getD q kbools.dflt = if p = q then x else e.getD q kbools.dflt := by
 simp only [List.getD, List.getElem?_set]
 split
 ·first | rfl | (rw [if_pos (by omega)]; rfl)
 ·rfl
theorem take_fin (l : List Rw) (i : Nat) (h : i < l.length) : ((l.take (i + 1)).filter Rw.fin).length = ((l.take i).filter Rw.fin).length + (if finN l i then 1 else 0) := by
 rw [List.take_add_one, List.filter_append, List.length_append, List.getElem?_eq_getElem h]
 have e : rowAt l i = l[i] := by simp [rowAt, List.getD, h]
 unfold finN
 rw [e]
 cases hf : l[i].fin with
 | true => simp [hf]
 | false => simp [hf]
theorem oneO_oi {l : List Rw} (h : WF (ofK l) l) {i : Nat} (hi : i < l.length) {m : MO} (hm : OI l i m) : ∃ m', oneO m (rowAt l i) = (.normal, m') /\ OI l (i + 1) m' := by
 have hlo := h.lo i hi
 obtain ⟨f, hf⟩ : ∃ f : Nat, (rowAt l i).frm = (f : Int) := ⟨(rowAt l i).frm.toNat, by omega⟩
 have hfK : f < ofK l := by omega
 have hfree : (m.tk.getD f kbools.dflt).val = false := by
  cases hh : (m.tk.getD f kbools.dflt).val with
  | false => rfl
  | true =>
    obtain ⟨j, hj, h1 | ⟨h1, h2⟩⟩ := (hm.occ f hfK).1 hh
    ·have := h.asc j i hj hi; omega
    ·exact absurd (h2.trans hf.symm) (h.ne1 j i (by omega) hi h1)
 have hp1 : putM m.ev m.tk (rowAt l i).frm (evB (rowAt l i)) = some (m.ev.set f (evB (rowAt l i)), m.tk.set f ⟨true⟩) := by
  unfold putM
  rw [hf, Int.toNat_natCast, if_pos ⟨by omega, by rw [hm.ev]; omega, hfree⟩]
 have hcnt1 := cntT_set m.tk f (by rw [hm.tk]; exact hfK) hfree
 have hfl : f < m.ev.length := by rw [hm.ev]; exact hfK
 have hft : f < m.tk.length := by rw [hm.tk]; exact hfK
 cases hfin : (rowAt l i).fin with
 | false =>
   have hfin' : finN l i = false := hfin
   refine ⟨⟨m.i + 1, m.ev.set f (evB (rowAt l i)), m.tk.set f ⟨true⟩, false⟩, ?_, ?_⟩
   ·unfold oneO
    rw [hp1]
    simp only [hfin]
    rfl
   ·refine ⟨by simp [hm.ev], by simp [hm.tk], rfl, fun p hp => ?_, ?_, fun j hj => ?_, fun j hj hjf => ?_⟩
    ·rw [tk_set hft]
     by_cases e : f = p
     ·rw [if_pos e]
      exact ⟨fun _ => ⟨i, by omega, .inl (by rw [hf, e])⟩, fun _ => rfl⟩
     ·rw [if_neg e, hm.occ p hp]
      constructor
      ·rintro ⟨j, hj, h1⟩; exact ⟨j, by omega, h1⟩
      ·rintro ⟨j, hj, h1⟩
       by_cases ej : j = i
       ·subst ej
        rcases h1 with h1 | ⟨h1, _⟩
        ·omega
        ·rw [hfin'] at h1; cases h1
       ·exact ⟨j, by omega, h1⟩
    ·simp only
     rw [hcnt1, hm.cnt, take_fin l i hi, hfin']
     simp; omega
    ·simp only
     rw [ev_set hfl]
     by_cases ej : j = i
     ·subst ej; rw [hf, Int.toNat_natCast, if_pos rfl]
     ·have := h.asc j i (by omega) hi
      have := h.lo j (by omega)
      rw [if_neg (by omega)]
      exact hm.beg j (by omega)
    ·simp only
     rw [ev_set hfl]
     by_cases ej : j = i
     ·subst ej; rw [hfin'] at hjf; cases hjf
     ·have h1 := h.ne1 j i (by omega) hi hjf
      have h2 := h.fin j (by omega) hjf
      have h3 := h.lo j (by omega)
      rw [if_neg (by omega)]
      exact hm.ans j (by omega) hjf
 | true =>
   have hfin' : finN l i = true := hfin
   have hti := h.fin i hi hfin'
   obtain ⟨t, ht⟩ : ∃ t : Nat, (rowAt l i).till = (t : Int) := ⟨(rowAt l i).till.toNat, by omega⟩
   have htK : t < ofK l := by omega
   have hft2 : f ≠ t := by omega
   have hfree2 : ((m.tk.set f ⟨true⟩).getD t kbools.dflt).val = false := by
    rw [tk_set hft, if_neg hft2]
    cases hh : (m.tk.getD t kbools.dflt).val with
    | false => rfl
    | true =>
      obtain ⟨j, hj, h1 | ⟨h1, h2⟩⟩ := (hm.occ t htK).1 hh
      ·exact absurd (ht.trans h1.symm) (h.ne1 i j hi (by omega) hfin')
      ·exact absurd (h2.trans ht.symm) (h.ne2 j i (by omega) hi (by omega) h1 hfin')
   have hcnt2 := cntT_set (m.tk.set f ⟨true⟩) t (by simp [hm.tk]; exact htK) hfree2
   have hp2 : putM (m.ev.set f (evB (rowAt l i))) (m.tk.set f ⟨true⟩) (rowAt l i).till (evE (rowAt l i)) = some ((m.ev.set f (evB (rowAt l i))).set t (evE (rowAt l i)), (m.tk.set f ⟨true⟩).set t ⟨true⟩) := by
    unfold putM
    rw [ht, Int.toNat_natCast, if_pos ⟨by omega, by rw [List.length_set, hm.ev]; omega, hfree2⟩]
   have htl : t < (m.ev.set f (evB (rowAt l i))).length := by rw [List.length_set, hm.ev]; exact htK
   have htt : t < (m.tk.set f (⟨true⟩ : B1)).length := by rw [List.length_set, hm.tk]; exact htK
   refine ⟨⟨m.i + 1, (m.ev.set f (evB (rowAt l i))).set t (evE (rowAt l i)), (m.tk.set f ⟨true⟩).set t ⟨true⟩, false⟩, ?_, ?_⟩
   ·unfold oneO
    rw [hp1]
    simp only [hfin, hp2]
    rfl
   ·refine ⟨by simp [hm.ev], by simp [hm.tk], rfl, fun p hp => ?_, ?_, fun j hj => ?_, fun j hj hjf => ?_⟩
    ·rw [tk_set htt]
     by_cases e2 : t = p
     ·rw [if_pos e2]
      exact ⟨fun _ => ⟨i, by omega, .inr ⟨hfin', by rw [ht, e2]⟩⟩, fun _ => rfl⟩
     ·rw [if_neg e2, tk_set hft]
      by_cases e : f = p
      ·rw [if_pos e]
       exact ⟨fun _ => ⟨i, by omega, .inl (by rw [hf, e])⟩, fun _ => rfl⟩
      ·rw [if_neg e, hm.occ p hp]
       constructor
       ·rintro ⟨j, hj, h1⟩; exact ⟨j, by omega, h1⟩
       ·rintro ⟨j, hj, h1⟩
        by_cases ej : j = i
        ·subst ej
         rcases h1 with h1 | ⟨_, h1⟩ <;> omega
        ·exact ⟨j, by omega, h1⟩
    ·simp only
     rw [hcnt2, hcnt1, hm.cnt, take_fin l i hi, hfin']
     simp; omega
    ·simp only
     rw [ev_set htl, ev_set hfl]
     by_cases ej : j = i
     ·subst ej; rw [hf, Int.toNat_natCast, if_neg (fun e => hft2 e.symm), if_pos rfl]
     ·have h1 := h.asc j i (by omega) hi
      have h2 := h.lo j (by omega)
      have h3 := h.ne1 i j hi (by omega) hfin'
      rw [if_neg (by omega), if_neg (by omega)]
      exact hm.beg j (by omega)
    ·simp only
     rw [ev_set htl, ev_set hfl]
     by_cases ej : j = i
     ·subst ej; rw [ht, Int.toNat_natCast, if_pos rfl]
     ·have h1 := h.ne1 j i (by omega) hi hjf
      have h2 := h.fin j (by omega) hjf
      have h3 := h.lo j (by omega)
      have h4 := h.ne2 j i (by omega) hi ej hjf hfin'
      rw [if_neg (by omega), if_neg (by omega)]
      exact hm.ans j (by omega) hjf
theorem ofGo_oi {l : List Rw} (h : WF (ofK l) l) : ∀ (k i : Nat) (m : MO), i + k = l.length -> OI l i m -> ∃ m', ofGo (l.drop i) m = (.exit 0, m') /\ OI l l.length m'
 | 0, i, m, hk, hm => by
   have e : i = l.length := by omega
   subst e
   rw [List.drop_length]
   exact ⟨m, rfl, hm⟩
 | k + 1, i, m, hk, hm => by
   have hi : i < l.length := by omega
   obtain ⟨m', h1, h2⟩ := oneO_oi h hi hm
   obtain ⟨m'', h3, h4⟩ := ofGo_oi h k (i + 1) m' (by omega) h2
   refine ⟨m'', ?_, h4⟩
   rw [drop_cons l krows.dflt hi, ofGo, show l.getD i krows.dflt = rowAt l i from rfl, h1]
   exact h3
theorem ofM_oi {l : List Rw} (h : WF (ofK l) l) : OI l l.length (ofM l (ofK l)) := by
 have h0 : OI l 0 (of0 (ofK l)) := by
  refine ⟨by simp [of0], by simp [of0], rfl, fun p hp => ?_, by simp [of0, cntT_rep], fun j hj => absurd hj (Nat.not_lt_zero _), fun j hj => absurd hj (Nat.not_lt_zero _)⟩
  constructor
  ·intro hh
   have : ((List.replicate (ofK l) (⟨false⟩ : B1)).getD p kbools.dflt).val = true := hh
   simp [List.getD, hp] at this
  ·rintro ⟨j, hj, _⟩; exact absurd hj (Nat.not_lt_zero _)
 obtain ⟨m', h1, h2⟩ := ofGo_oi h l.length 0 _ (by omega) h0
 rw [List.drop_zero] at h1
 unfold ofM
 rw [h1]
 exact h2
theorem occ_all {l : List Rw} (h : WF (ofK l) l) {p : Nat} (hp : p < ofK l) : Occ l l.length p := by
 have hm := ofM_oi h
 refine (hm.occ p hp).1 (cntT_all _ ?_ p (by rw [hm.tk]; exact hp))
 rw [hm.cnt, hm.tk, List.take_length]
 rfl
def part (p : Nat) (r : Rw) : Rw := if r.fin = true /\ r.till < (p : Int) then r else newRw (evB r) r.frm
structure SI (l : List Rw) (p : Nat) (m : MR) : Prop where
 i : m.i = p
 w : m.w = none
 nd : (m.mp.map Prod.fst).Nodup
 c : ∃ c, c <= l.length /\ (∀ j, j < c -> (rowAt l j).frm < (p : Int)) /\ (∀ j, c <= j -> j < l.length -> (p : Int) <= (rowAt l j).frm) /\ m.rs = (l.take c).map (part p) /\
   ∀ t i, lkO t m.mp = some i ↔ ∃ k : Nat, i = (k : Int) /\ k < c /\ (rowAt l k).thread = t /\ ¬ (finN l k = true /\ (rowAt l k).till < (p : Int))
theorem badE_B (r : Rw) : badE (evB r) = false := by simp [badE, evB]
theorem badE_E (r : Rw) : badE (evE r) = false := by simp [badE, evE]
theorem getD_take {l : List Rw} {c k : Nat} (h : k < c) (f : Rw -> Rw) (hc : c <= l.length) : ((l.take c).map f).getD k krows.dflt = f (rowAt l k) := by
 have h1 : k < l.length := by omega
 simp [List.getD, rowAt, h, h1]
theorem lk_none {t : Int} {mp : List (Int × Int)} (h : lkO t mp = none) : (lkI t 0 mp).2 = false := by
 unfold lkO at h
 cases hh : (lkI t 0 mp).2 with
 | false => rfl
 | true => rw [hh] at h; simp at h
theorem lk_some {t k : Int} {mp : List (Int × Int)} (h : lkO t mp = some k) : (lkI t 0 mp).2 = true /\ (lkI t 0 mp).1 = k := by
 unfold lkO at h
 cases hh : (lkI t 0 mp).2 with
 | false => rw [hh] at h; simp at h
 | true => rw [hh] at h; simp at h; exact ⟨rfl, h⟩
theorem oneE_si {l : List Rw} (h : WF (ofK l) l) {p : Nat} (hp : p < ofK l) {m : MR} (hm : SI l p m) : ∃ m', oneE m ((ofEv l).getD p kevents.dflt) = (.normal, m') /\ SI l (p + 1) m' := by
 obtain ⟨hi, hw, hnd, c, hc, hlt, hge, hrs, hmap⟩ := hm
 have ho := ofM_oi h
 obtain ⟨j, hj, hfr | ⟨hfin, htl⟩⟩ := occ_all h hp
 ·-- a row begins
  have hjc : c <= j := Nat.le_of_not_lt fun hh => by have := hlt j hh; omega
  have ej : j = c := by
   rcases Nat.lt_or_ge c j with hh | hh
   ·have h1 := h.asc c j hh hj
    have h2 := hge c (Nat.le_refl _) (by omega)
    omega
   ·omega
  subst ej
  have hev : (ofEv l).getD p kevents.dflt = evB (rowAt l j) := by
   have := ho.beg j hj
   rw [hfr, Int.toNat_natCast] at this
   exact this
  rw [hev]
  have hnone : lkO (rowAt l j).thread m.mp = none := by
   cases hh : lkO (rowAt l j).thread m.mp with
   | none => rfl
   | some i =>
     obtain ⟨k, _, hk, ht, hn⟩ := (hmap _ _).1 hh
     have := h.thr k j hk hj ht
     exact absurd ⟨this.1, by omega⟩ hn
  have hl2 := lk_none hnone
  refine ⟨⟨m.i + 1, m.rs ++ [newRw (evB (rowAt l j)) m.i], ptI (rowAt l j).thread m.rs.length m.mp, none⟩, ?_, ?_⟩
  ·unfold oneE
   rw [badE_B, show (evB (rowAt l j)).thread = (rowAt l j).thread from rfl, show (evB (rowAt l j)).begins = true from rfl, hl2]
   rfl
  ·have hlen : m.rs.length = j := by rw [hrs]; simp; omega
   refine ⟨by simp only; omega, rfl, nd_pt _ _ _ hnd, j + 1, by omega, fun k hk => ?_, fun k hk hkl => ?_, ?_, fun t i => ?_⟩
   ·by_cases e : k = j
    ·subst e; omega
    ·have := hlt k (by omega); omega
   ·have := h.asc j k (by omega) hkl; omega
   ·simp only
    rw [List.take_add_one, List.map_append, hrs, hi]
    congr 1
    ·refine List.map_congr_left fun r hr => ?_
     obtain ⟨k, hk⟩ := List.mem_iff_getElem?.1 hr
     rw [List.getElem?_take] at hk
     split at hk
     ·rename_i hkj
      have hrk : r = rowAt l k := by simp [rowAt, List.getD, hk]
      have hkl : k < l.length := by omega
      unfold part
      by_cases hf : finN l k = true
      ·have hne := h.ne1 k j hkl hj hf
       rw [hrk]
       have e : ((rowAt l k).fin = true /\ (rowAt l k).till < (p : Int)) ↔ ((rowAt l k).fin = true /\ (rowAt l k).till < ((p + 1 : Nat) : Int)) := by
        constructor <;> (rintro ⟨a, b⟩; exact ⟨a, by omega⟩)
       simp only [e]
      ·have hf' : ¬ (rowAt l k).fin = true := hf
       rw [hrk, if_neg (fun a => hf' a.1), if_neg (fun a => hf' a.1)]
     ·cases hk
    ·have e : l[j]? = some (rowAt l j) := by simp [rowAt, List.getD, hj]
     rw [e]
     simp only [Option.toList_some, List.map_cons, List.map_nil]
     unfold part
     rw [if_neg, hfr]
     rintro ⟨a, b⟩
     have := h.fin j hj a
     omega
   ·simp only
    rw [lkO_pt, hlen]
    constructor
    ·intro hh
     split at hh
     ·rename_i e
      cases hh
      refine ⟨j, rfl, by omega, e.symm, fun a => ?_⟩
      have := h.fin j hj a.1
      omega
     ·obtain ⟨k, e, hk, ht, hn⟩ := (hmap t i).1 hh
      refine ⟨k, e, by omega, ht, fun a => hn ⟨a.1, ?_⟩⟩
      have := h.ne1 k j (by omega) hj a.1
      omega
    ·rintro ⟨k, e, hk, ht, hn⟩
     by_cases ek : k = j
     ·subst ek; rw [if_pos ht.symm, e]
     ·have hkj : k < j := by omega
      rw [if_neg]
      ·exact (hmap t i).2 ⟨k, e, hkj, ht, fun a => hn ⟨a.1, by omega⟩⟩
      ·intro e2
       have := h.thr k j hkj hj (by rw [ht, e2])
       exact hn ⟨this.1, by omega⟩
 ·-- a row is answered
  have hfin' : (rowAt l j).fin = true := hfin
  have h1 := h.fin j hj hfin
  have hjc : j < c := Nat.lt_of_not_le fun hh => by have := hge j hh hj; omega
  have hev : (ofEv l).getD p kevents.dflt = evE (rowAt l j) := by
   have := ho.ans j hj hfin
   rw [htl, Int.toNat_natCast] at this
   exact this
  rw [hev]
  have hsome : lkO (rowAt l j).thread m.mp = some (j : Int) := (hmap _ _).2 ⟨j, rfl, hjc, rfl, fun a => by have := a.2; omega⟩
  obtain ⟨hl2, hl1⟩ := lk_some hsome
  refine ⟨⟨m.i + 1, m.rs.set j (ansRw (evE (rowAt l j)) m.i (m.rs.getD j krows.dflt)), dlI (rowAt l j).thread m.mp, none⟩, ?_, ?_⟩
  ·unfold oneE
   rw [badE_E, show (evE (rowAt l j)).thread = (rowAt l j).thread from rfl, show (evE (rowAt l j)).begins = false from rfl, hl2, hl1]
   rfl
  ·have hpj : part p (rowAt l j) = newRw (evB (rowAt l j)) (rowAt l j).frm := by
    unfold part
    rw [if_neg (fun a => by have := a.2; omega)]
   refine ⟨by simp only; omega, rfl, nd_dl _ _ hnd, c, hc, fun k hk => by have := hlt k hk; omega, fun k hk hkl => ?_, ?_, fun t i => ?_⟩
   ·have h2 := hge k hk hkl
    have h3 := h.ne1 j k hj hkl hfin
    omega
   ·simp only
    rw [hrs, getD_take hjc _ hc, hpj, hi]
    refine List.ext_getElem? fun k => ?_
    rw [List.getElem?_set]
    by_cases ek : j = k
    ·subst ek
     rw [if_pos rfl, if_pos (by simp; omega)]
     have e : ((l.take c).map (part (p + 1)))[j]? = some (part (p + 1) (rowAt l j)) := by simp [rowAt, List.getD, hjc, hj]
     rw [e]
     unfold part
     rw [if_pos ⟨hfin', by omega⟩]
     have : rowAt l j = ⟨(rowAt l j).thread, (rowAt l j).kind, (rowAt l j).key, (rowAt l j).val, (rowAt l j).tall, (rowAt l j).code, (rowAt l j).aval, (rowAt l j).frm, (rowAt l j).till, (rowAt l j).fin⟩ := rfl
     rw [this, htl, hfin']
     rfl
    ·rw [if_neg ek]
     by_cases hkc : k < c
     ·have hkl : k < l.length := by omega
      have e : ∀ q, ((l.take c).map (part q))[k]? = some (part q (rowAt l k)) := fun q => by simp [rowAt, List.getD, hkc, hkl]
      rw [e, e]
      unfold part
      by_cases hf : finN l k = true
      ·have hne := h.ne2 k j hkl hj (fun e => ek e.symm) hf hfin
       have e : ((rowAt l k).fin = true /\ (rowAt l k).till < (p : Int)) ↔ ((rowAt l k).fin = true /\ (rowAt l k).till < ((p + 1 : Nat) : Int)) := by
        constructor <;> (rintro ⟨a, b⟩; exact ⟨a, by omega⟩)
       simp only [e]
      ·have hf' : ¬ (rowAt l k).fin = true := hf
       rw [if_neg (fun a => hf' a.1), if_neg (fun a => hf' a.1)]
     ·rw [List.getElem?_eq_none (by simp; omega), List.getElem?_eq_none (by simp; omega)]
   ·simp only
    rw [lkO_dl _ _ _ hnd]
    constructor
    ·intro hh
     split at hh
     ·cases hh
     ·rename_i hne
      obtain ⟨k, e, hk, ht, hn⟩ := (hmap t i).1 hh
      have ekj : k ≠ j := fun e2 => hne (by rw [<- ht, e2])
      refine ⟨k, e, hk, ht, fun a => hn ⟨a.1, ?_⟩⟩
      have := h.ne2 k j (by omega) hj ekj a.1 hfin
      omega
    ·rintro ⟨k, e, hk, ht, hn⟩
     have h2 := (hmap t i).2 ⟨k, e, hk, ht, fun a => hn ⟨a.1, by omega⟩⟩
     rw [if_neg]
     ·exact h2
     ·intro e2
      rw [e2, hsome] at h2
      have := Option.some.inj h2
      have ekj : k = j := by omega
      subst ekj
      exact hn ⟨hfin, by omega⟩
theorem rowsGo_si {l : List Rw} (h : WF (ofK l) l) : ∀ (k p : Nat) (m : MR), p + k = ofK l -> SI l p m -> ∃ m', rowsGo ((ofEv l).drop p) m = (.exit 0, m') /\ SI l (ofK l) m'
 | 0, p, m, hk, hm => by
   have e : p = ofK l := by omega
   subst e
   have : (ofEv l).drop (ofK l) = [] := List.drop_of_length_le (by rw [ofEv, ofM_len]; exact Nat.le_refl _)
   rw [this]
   exact ⟨m, rfl, hm⟩
 | k + 1, p, m, hk, hm => by
   have hp : p < ofK l := by omega
   obtain ⟨m', h1, h2⟩ := oneE_si h hp hm
   obtain ⟨m'', h3, h4⟩ := rowsGo_si h k (p + 1) m' (by omega) h2
   refine ⟨m'', ?_, h4⟩
   rw [drop_cons (ofEv l) kevents.dflt (by rw [ofEv, ofM_len]; exact hp), rowsGo, h1]
   exact h3
theorem wf_ofOk {l : List Rw} (h : WF (ofK l) l) : ofOk l = true := by
 have h0 : SI l 0 rows0 := by
  refine ⟨rfl, rfl, List.nodup_nil, 0, Nat.zero_le _, fun j hj => absurd hj (Nat.not_lt_zero _), fun j _ hj => ?_, rfl, fun t i => ⟨fun hh => (by cases hh), fun ⟨k, _, hk, _⟩ => absurd hk (Nat.not_lt_zero _)⟩⟩
  have := (h.lo j hj).1
  omega
 obtain ⟨m', h1, h2⟩ := rowsGo_si h (ofK l) 0 _ (by omega) h0
 rw [List.drop_zero] at h1
 obtain ⟨_, hw, _, c, hc, hlt, hge, hrs, _⟩ := h2
 have ec : c = l.length := by
  rcases Nat.lt_or_ge c l.length with hh | hh
  ·have h3 := hge c (Nat.le_refl _) hh
   have h4 := (h.lo c hh).2
   omega
  ·omega
 subst ec
 have hrl : m'.rs = l := by
  rw [hrs, List.take_length]
  refine List.ext_getElem? fun k => ?_
  by_cases hk : k < l.length
  ·have e : l[k]? = some (rowAt l k) := by simp [rowAt, List.getD, hk]
   rw [List.getElem?_map, e]
   simp only [Option.map_some, Option.some.injEq]
   unfold part
   have eta : rowAt l k = ⟨(rowAt l k).thread, (rowAt l k).kind, (rowAt l k).key, (rowAt l k).val, (rowAt l k).tall, (rowAt l k).code, (rowAt l k).aval, (rowAt l k).frm, (rowAt l k).till, (rowAt l k).fin⟩ := rfl
   cases hf : finN l k with
   | true =>
     have hf' : (rowAt l k).fin = true := hf
     rw [if_pos ⟨hf', (h.fin k hk hf).2⟩]
   | false =>
     have hf' : (rowAt l k).fin = false := hf
     rw [if_neg (fun a => by rw [hf'] at a; exact Bool.noConfusion a.1)]
     obtain ⟨q1, q2, q3⟩ := h.opn k hk hf
     conv => rhs; rw [eta, q1, q2, q3, hf']
     rfl
  ·rw [List.getElem?_eq_none (by simp; omega), List.getElem?_eq_none (by omega)]
 have er := (ofM_oi h).er
 unfold ofOk
 rw [er]
 have hM : rowsM (ofEv l) = m' := by unfold rowsM; rw [h1]
 have hE : errR (ofEv l) = false := by unfold errR; rw [hM, hw]; rfl
 rw [hE, hM, hrl]
 exact (sameL_iff _ _).2 rfl
theorem ofOk_iff (l : List Rw) : ofOk l = true ↔ WF (ofK l) l := ⟨ofOk_wf, wf_ofOk⟩
end Go.Proofs.YtpapbhbnaalhcaaDoor

namespace Go.Sx
set_option linter.unusedVariables false
variable {AV : Type} {P : Program}
def onlyS (ks : List Nat) (nt : Nat) (r : Ex × St AV) : Ex × St AV := (r.1, { E := only ks r.2.E nt, H := r.2.H })
structure QAt (N : Env AV) (cal : Callee AV) (lp : Nat -> Option (St AV -> T (Ex × St AV))) (nt : Nat) (c : Code) (s s' : St AV) (ex : Ex) where
 M : Type
 fam : M -> St AV
 step : M -> T (Ex × M)
 ks : List Nat
 run : ∀ m r, (step m).val = some r -> ((xc N cal lp nt c (fam m)).map (onlyS ks nt)).val = some (r.1, fam r.2)
 heap : ∀ m, (fam m).H = s.H
 m : M
 k : Nat
 m' : M
 ent : Says nt s.E (fam m).E
 it : iter step k m = some (ex, m')
 fin : s' = fam m'
 cl : Closed N s -> Closed N s'
theorem loopOk_q {N N' : Env AV} (hF : N'.F = N.F) (hG : N'.G = N.G) (hT : TblOk P N) {cal : Callee AV} (hcal : CalOk P N cal) {lp : Nat -> Option (St AV -> T (Ex × St AV))} {nt : Nat} {c : Code} (hlp : LpOk P N nt c lp)
 {g : St AV -> T (Ex × St AV)} (h : ∀ s s' ex, (g s).val = some (ex, s') -> Nonempty (QAt N cal lp nt c s s' ex)) : LoopOk P N' nt c g := by
 refine loopOk_fam hF hG hT hcal hlp fun s s' ex hg => ?_
 obtain ⟨M, fam, step, ks, hrun, heap, m, k, m', ent, it, rfl, cl⟩ := h s s' ex hg
 refine ⟨⟨{ ι := { p : Nat × M // iter step p.1 p.2 = some (ex, m') }, fam := fun p => fam p.1.2, ks := ks, μ := fun p => p.1.1, i0 := ⟨(k, m), it⟩, says := ent, heap := heap m, step := fun i => ?_ }⟩, heap m', cl⟩
 obtain ⟨⟨j, n⟩, hi⟩ := i
 cases j with
 | zero => cases hi
 | succ j =>
   simp only [iter] at hi
   have one : ∀ r, (step n).val = some r -> ∃ s1, (xc N cal lp nt c (fam n)).val = some (r.1, s1) /\ only ks s1.E nt = (fam r.2).E /\ s1.H = (fam r.2).H := fun r hr => by
    have h1 := hrun n r hr
    rw [T.val_map] at h1
    obtain ⟨⟨e1, s1⟩, g1, g2⟩ := Option.map_eq_some_iff.1 h1
    simp only [onlyS, Prod.mk.injEq] at g2
    obtain ⟨g2, g3⟩ := g2
    subst g2
    exact ⟨s1, g1, by rw [<- g3], by rw [<- g3]⟩
   have fin : ∀ s1 : St AV, only ks s1.E nt = (fam m').E -> Says nt s1.E (fam m').E := fun s1 h1 => by
    rw [<- h1]
    exact says_only fun k _ _ => .inl rfl
   split at hi
   ·rename_i m2 hs
    obtain ⟨s1, g1, g2, g3⟩ := one _ hs
    refine ⟨.normal, s1, g1, ⟨(j, m2), hi⟩, by simp, ?_⟩
    show (⟨only ks s1.E nt, s1.H⟩ : St AV) = fam m2
    rw [g2, g3]
   ·rename_i id m2 hs
    cases hi
    obtain ⟨s1, g1, g2, g3⟩ := one _ hs
    exact ⟨.exit id, s1, g1, rfl, fin s1 g2, g3⟩
   ·rename_i m2 hs
    cases hi
    obtain ⟨s1, g1, g2, g3⟩ := one _ hs
    exact ⟨.ret, s1, g1, rfl, fin s1 g2, g3⟩
   ·cases hi
end Go.Sx
