import Derived.Test.YtpapbhbnaalhcaaDoorJx
import Derived.Shelf.Strconv.AppendIntPublic10
import Derived.Shelf.Lay
import Derived.Ground.NamesProg
import Derived.Lib.ItoaLen
import Derived.Lib.Hide
import Derived.Laws.IdiomStrings
import Derived.OwnWalk
import Derived.WalkKit
import Derived.BigCall
import Derived.Handy
namespace Go.Proofs.YtpapbhbnaalhcaaDoor
open Go Go.Sx Go.Proofs
set_option linter.unusedVariables false
set_option maxRecDepth 100000
def ksU : List Nat := [1, 7, 11, 42, 43, 44]
def famU (b : Bool) (l : List Rw) (m : CreedM) (ev : List Evt) (n k : Nat) (a : List N1) (dn : Int) (d : List (Int × ByteArray)) (i : Int) : St AV :=
 { E := only ksU [(1, .v (.c (.vs 7 0 n 10 false))), (7, .v (.c (.ptr 8 0))), (11, .v (.c (.ptr 11 0))), (42, .v (.c (.vs 7 0 n 10 false))), (43, .v (.c (.it .i64 n))), (44, .v (.c (.it .i64 i)))] 83, H := hpL b l m ev n k a dn d }
noncomputable def LU : Code := loopAt 11 (loopsOf (bodyOf Tryd.f10))
def lpI : Nat -> Option (St AV -> T (Ex × St AV)) := fun id => match Nat.beq id 16 with | true => some gI | false => none
def innU (b : Bool) (l : List Rw) (m : CreedM) (ev : List Evt) (n k : Nat) (a : List N1) (dn : Int) (d : List (Int × ByteArray)) (i : Int) : T (Ex × St AV) :=
 .need (decide (m.vals.length = m.vals.length /\ m.pairs.length = m.pairs.length)) (.need (decide (n = l.length /\ k = l.length /\ n = l.length /\ n = l.length /\ (n : Int) = (l.length : Int) /\ n = l.length /\ (n : Int) = (l.length : Int) /\ i = i /\ l.length <= 12 /\ a.length = l.length /\ 0 <= i /\ i < (l.length : Int)))
  (.leaf (.normal, famU b l m ev l.length l.length (bitA (l.getD (0 + i.toNat) krows.dflt) i.toNat l 0 a) dn d (IntKind.wrap .i64 (i + 1)))))
theorem uR (σ : Sg) (b : Bool) (l : List Rw) (m : CreedM) (ev : List Evt) (n k : Nat) (a : List N1) (dn : Int) (d : List (Int × ByteArray)) (i : Int) : (xc (NV σ) (joinCal (lv (NV σ) (fun _ => none) 5)) lpI 83 LU (famU b l m ev n k a dn d i)).bind (backS 13 83 ksU pkJ) =
 .ite (decide (i < (n : Int))) (.need (decide (0 <= i /\ i < (n : Int))) (.need (decide (0 + i.toNat < l.length))
  (.ite (l.getD (0 + i.toNat) krows.dflt).fin
    (.need (decide (0 <= i)) (innU b l m ev n k a (bitI .or .i64 dn (shI .shl .i64 1 i)) d i))
    (innU b l m ev n k a dn d i))))
  (.leaf (.exit 0, famU b l m ev n k a dn d i)) := by kernel_rfl
def dnU (r : Rw) (i : Nat) (dn : Int) : Int := match r.fin with
 | true => bitI .or .i64 dn (shI .shl .i64 1 i)
 | false => dn
def goL (l : List Rw) : List Rw -> Nat -> Int -> List N1 -> Int × List N1
 | [], i, dn, a => (dn, a)
 | r :: q, i, dn, a => goL l q (i + 1) (dnU r i dn) (bitA r i l 0 a)
theorem goL_len (l : List Rw) : ∀ (q : List Rw) (i : Nat) (dn : Int) (a : List N1), (goL l q i dn a).2.length = a.length
 | [], i, dn, a => rfl
 | r :: q, i, dn, a => by simp only [goL]; rw [goL_len, bitA_len]
structure MU where
 i : Nat
 dn : Int
 a : List N1
def stepU (l : List Rw) (m : MU) : T (Ex × MU) := .need (decide (l.length <= 12 /\ m.a.length = l.length /\ m.i <= l.length))
 (.leaf (if m.i < l.length then (.normal, ⟨m.i + 1, dnU (l.getD m.i krows.dflt) m.i m.dn, bitA (l.getD m.i krows.dflt) m.i l 0 m.a⟩) else (.exit 0, m)))
def famUM (b : Bool) (l : List Rw) (c : CreedM) (ev : List Evt) (d : List (Int × ByteArray)) (m : MU) : St AV := famU b l c ev l.length l.length m.a m.dn d m.i
theorem stepU_run (σ : Sg) (b : Bool) (l : List Rw) (c : CreedM) (ev : List Evt) (d : List (Int × ByteArray)) (m : MU) (q : Ex × MU) (h : (stepU l m).val = some q) :
 ((xc (NV σ) (joinCal (lv (NV σ) (fun _ => none) 5)) lpI 83 LU (famUM b l c ev d m)).bind (backS 13 83 ksU pkJ)).val = some (q.1, famUM b l c ev d q.2) := by
 replace h := need_some h
 obtain ⟨hb, h⟩ := h
 obtain ⟨h1, h2, h3⟩ := of_decide_eq_true hb
 simp only [T.val, Option.some.injEq] at h
 subst h
 obtain ⟨i, dn, a⟩ := m
 simp only at h2 h3
 show ((xc (NV σ) (joinCal (lv (NV σ) (fun _ => none) 5)) lpI 83 LU (famU b l c ev l.length l.length a dn d i)).bind (backS 13 83 ksU pkJ)).val = _
 rw [uR]
 by_cases hlt : i < l.length
 ·have d1 : decide ((i : Int) < (l.length : Int)) = true := decide_eq_true (by omega)
  have d2 : decide (0 <= (i : Int) /\ (i : Int) < (l.length : Int)) = true := decide_eq_true (by omega)
  have d3 : decide (0 + (i : Int).toNat < l.length) = true := decide_eq_true (by omega)
  have d6 : decide (0 <= (i : Int)) = true := decide_eq_true (by omega)
  have e1 : 0 + (i : Int).toNat = i := by omega
  have hw : IntKind.wrap .i64 ((i : Int) + 1) = ((i + 1 : Nat) : Int) := wrapS (by omega)
  have inn : ∀ dn, (innU b l c ev l.length l.length a dn d i).val = some (.normal, famUM b l c ev d ⟨i + 1, dn, bitA (l.getD i krows.dflt) i l 0 a⟩) := fun dn => by
   unfold innU
   have t1 : decide (c.vals.length = c.vals.length /\ c.pairs.length = c.pairs.length) = true := decide_eq_true ⟨rfl, rfl⟩
   have t2 : decide (l.length = l.length /\ l.length = l.length /\ l.length = l.length /\ l.length = l.length /\ (l.length : Int) = (l.length : Int) /\ l.length = l.length /\ (l.length : Int) = (l.length : Int) /\ (i : Int) = i /\ l.length <= 12 /\ a.length = l.length /\ 0 <= (i : Int) /\ (i : Int) < (l.length : Int)) = true := decide_eq_true ⟨rfl, rfl, rfl, rfl, rfl, rfl, rfl, rfl, h1, h2, by omega, by omega⟩
   rw [nv t1, nv t2]
   simp only [T.val, hw, Int.toNat_natCast, Nat.zero_add]
   rfl
  simp only [if_pos hlt]
  rw [ivT d1, nv d2, nv d3]
  simp only [e1, dnU]
  cases hf : (l.getD i krows.dflt).fin with
  | true => rw [ivT rfl, nv d6]; exact inn _
  | false => rw [ivF rfl]; exact inn _
 ·have d1 : decide ((i : Int) < (l.length : Int)) = false := decide_eq_false (by omega)
  simp only [if_neg hlt]
  rw [ivF d1]
  rfl
theorem iterU (l : List Rw) (hl : l.length <= 12) : ∀ (k i : Nat) (dn : Int) (a : List N1), a.length = l.length -> i + k = l.length -> iter (stepU l) (k + 1) ⟨i, dn, a⟩ = some (.exit 0, ⟨l.length, (goL l (l.drop i) i dn a).1, (goL l (l.drop i) i dn a).2⟩)
 | 0, i, dn, a, ha, hk => by
   have d1 : decide (l.length <= 12 /\ a.length = l.length /\ i <= l.length) = true := decide_eq_true ⟨hl, ha, by omega⟩
   simp only [iter, stepU, T.val, d1, if_neg (show ¬ i < l.length by omega)]
   rw [List.drop_of_length_le (by omega), show i = l.length by omega]
   rfl
 | k + 1, i, dn, a, ha, hk => by
   have d1 : decide (l.length <= 12 /\ a.length = l.length /\ i <= l.length) = true := decide_eq_true ⟨hl, ha, by omega⟩
   have hlt : i < l.length := by omega
   rw [iter]
   simp only [stepU, T.val, d1, if_pos hlt]
   rw [iterU l hl k (i + 1) _ _ (by rw [bitA_len]; exact ha) (by omega), drop_cons l krows.dflt hlt]
   rfl
def setsL (l : List Rw) : Int × List N1 := goL l l 0 0 (List.replicate l.length ⟨0⟩)
def gUg (sets : List Rw -> Int × List N1) (s : St AV) : T (Ex × St AV) := match s.H with
 | [some (.abs (.sent 0)), some (.abs (.sent 1)), some (.abs (.sent 2)), none, none, none, none, some (.abs (.rowsB b l)), some (.abs c), some (.abs (.events ev)), some (.abs (.ints a)), some (.cells [.vs 7 0 n 10 false, .vs 10 0 k 1 false, .il .i64 0, .mp (some 12), .snil] ty), some (.abs (.mpS d))] =>
   match Sx.look s.E 1, Sx.look s.E 7, Sx.look s.E 11, Sx.look s.E 42, Sx.look s.E 43, Sx.look s.E 44, creedY c, Nat.beq ty tSearch with
   | .v (.c (.vs 7 0 n1 10 false)), .v (.c (.ptr 8 0)), .v (.c (.ptr 11 0)), .v (.c (.vs 7 0 n2 10 false)), .v (.c (.it .i64 n3)), .v (.c (.il .i64 0)), some (m, cb), true =>
     .need cb (.need (decide (n = l.length /\ k = l.length /\ n1 = l.length /\ n2 = l.length /\ n3 = (l.length : Int) /\ l.length <= 12 /\ a = List.replicate l.length ⟨0⟩))
      (.leaf (.exit 0, famU b l m ev l.length l.length (sets l).2 (sets l).1 d l.length)))
   | _, _, _, _, _, _, _, _ => .fail "Linear: loop"
 | _ => .fail "Linear: loop"
def gU : St AV -> T (Ex × St AV) := gUg setsL
theorem enter_cells {N : Env AV} {nt : Nat} {E : Ev} {H : Hp AV} {n : Nat} {l l' : List Cell} {ty : TypeId} (hn : hget H n = some (.cells l ty)) (hl : ∀ ρ, denL ρ l' = denL ρ l) (hN : ∀ c ∈ l', c.name ≠ none -> c ∈ l) : Enter N nt { E := E, H := H } { E := E, H := lset H n (some (.cells l' ty)) } := fun hc => by
 have hlt := hget_lt hn
 have get : ∀ m, hget (lset H n (some (.cells l' ty))) m = if m = n then some (.cells l' ty) else hget H m := fun m => by
  by_cases h2 : m = n
  ·subst h2; rw [if_pos rfl, hget_lset_self _ hlt]
  ·rw [if_neg h2, hget_lset_ne _ fun e => h2 e.symm]
 have pers : ∀ m c, hget H m = some c -> ∃ c', hget (lset H n (some (.cells l' ty))) m = some c' := fun m c h => by
  rw [get]
  by_cases h2 : m = n
  ·rw [if_pos h2]; exact ⟨_, rfl⟩
  ·rw [if_neg h2]; exact ⟨c, h⟩
 have src : ∀ m c, hget (lset H n (some (.cells l' ty))) m = some c -> ∃ d, hget H m = some d /\ (∀ ρ w, d.q N ρ m w -> c.q N ρ m w) /\ ∀ ρ k, c.fp ρ m k ↔ d.fp ρ m k := fun m c h => by
  rw [get] at h
  split at h
  ·rename_i e
   subst e
   cases h
   refine ⟨_, hn, fun ρ w hq => ?_, fun ρ k => Iff.rfl⟩
   show w.heap[ρ m]? = _
   rw [hl ρ]
   exact hq
  ·exact ⟨c, h, fun _ _ h => h, fun _ _ => Iff.rfl⟩
 refine ⟨⟨fun k => (hc.E k).mono fun m c h => pers m c h, fun m x hx => ?_⟩, by show H.length <= (lset H n _).length; rw [length_lset]; exact Nat.le_refl _, fun ρ a w hat => ⟨ρ, ⟨hat.em, ?_⟩, ⟨pers, fun _ _ _ => rfl, fun m hm h => ?_, by show H.length <= (lset H n _).length; rw [length_lset]; exact Nat.le_refl _, fun _ _ _ => rfl, fun m c k hm hk => ?_, rfl, rfl, rfl, Nat.le_refl _⟩⟩⟩
 ·have hx' : hget (lset H n (some (.cells l' ty))) m = some x := hx
  clear hx
  rw [get] at hx'
  split at hx'
  ·rename_i e
   subst e
   cases hx'
   intro c hcm
   intro j hj
   have hcm : c ∈ l' := hcm
   have := hN c hcm (by rw [hj]; exact fun h => by cases h)
   obtain ⟨y, hy⟩ := hc.H m _ hn c this j hj
   exact pers j y hy
  ·exact (hc.H m x hx').mono fun m c h => pers m c h
 ·refine hat.own.sub ⟨fun m c h => ?_, fun m m' c d hne h h' k hk hk' => ?_, hat.own.glb⟩ fun m c k h hk => ?_
  ·obtain ⟨d, h1, h2, _⟩ := src m c h
   exact h2 ρ w (hat.own.q m d h1)
  ·obtain ⟨c', h1, _, h3⟩ := src m c h
   obtain ⟨d', g1, _, g3⟩ := src m' d h'
   exact hat.own.dis m m' c' d' hne h1 g1 k ((h3 ρ k).1 hk) ((g3 ρ k).1 hk')
  ·obtain ⟨d, h1, _, h3⟩ := src m c h
   exact ⟨m, d, h1, (h3 ρ k).1 hk⟩
 ·have h : hget H m = none := h
  show hget (lset H n _) m = none
  rw [get]
  split
  ·rename_i e; subst e; rw [h] at hn; cases hn
  ·exact h
 ·obtain ⟨d, h1, _, h3⟩ := src m c hm
  exact .inr ⟨m, d, h1, (h3 ρ k).1 hk⟩
theorem lpI_ok {σ : Sg} : LpOk Tryd.prog (NV σ) 83 LU lpI := fun id b hb g hg => by
 unfold lpI at hg
 split at hg
 ·rename_i e
  have e := (beq_iff _ _).1 e
  subst e
  cases hg
  have : b = LI := by
   have h := oneLoop_spec (id := 16) (l := loopsOf LU) (by kernel_rfl) (16, b) hb rfl
   rw [show b = loopAt 16 (loopsOf LU) from h]
   have : loopAt 16 (loopsOf LU) = LI := by kernel_rfl
   exact this
  rw [this]
  exact gI_ok rfl rfl
 ·cases hg
theorem gU_ok {σ : Sg} {N' : Env AV} (hF : N'.F = (NV σ).F) (hG : N'.G = (NV σ).G) : LoopOk Tryd.prog N' 83 LU gU := by
 have hcal : CalOk Tryd.prog (NV σ) (joinCal (lv (NV σ) (fun _ => none) 5)) := joinCal_ok (lv_ok okV lpsV hvV (fun f g h => by cases h) 5)
 refine loopOk_it (N := NV σ) hF hG okV hcal (lp := lpI) lpI_ok fun s s' ex hgs => ?_
 obtain ⟨E1, H1⟩ := s
 unfold gU gUg at hgs
 split at hgs
 ·rename_i b l c ev a n k ty d hs
  simp only at hs
  subst hs
  split at hgs
  ·rename_i n1 n2 n3 m cb e1 e7 e11 e42 e43 e44 ec et
   have et := (beq_iff _ _).1 et
   subst et
   replace hgs := need_some hgs
   obtain ⟨hcb, hgs⟩ := hgs
   subst hcb
   have hc := creedY_spec ec
   subst hc
   replace hgs := need_some hgs
   obtain ⟨hb, hgs⟩ := hgs
   obtain ⟨rfl, rfl, rfl, rfl, rfl, hl, rfl⟩ := of_decide_eq_true hb
   simp only [T.val, Option.some.injEq, Prod.mk.injEq] at hgs
   obtain ⟨rfl, rfl⟩ := hgs
   refine ⟨{ M := MU, fam := famUM b l m ev d, step := stepU l, ks := ksU, pk := pkJ, hpk := pkJ_ok, L := 13, len := rfl, hGL := (by show 7 <= 13; decide), run := stepU_run σ b l m ev d, m := ⟨0, 0, List.replicate l.length ⟨0⟩⟩, k := l.length + 1, m' := ⟨l.length, (setsL l).1, (setsL l).2⟩, ent := ?_, it := ?_, fin := rfl }⟩
   ·refine Enter.trans (enter_cells (n := 11) (l' := [.vs 7 0 l.length 10 false, .vs 10 0 l.length 1 false, .it .i64 0, .mp (some 12), .snil]) rfl (fun ρ => rfl) fun c hc hn => ?_) ?_
    ·simp only [List.mem_cons, List.not_mem_nil, or_false] at hc ⊢
     rcases hc with rfl | rfl | rfl | rfl | rfl
     ·exact .inl rfl
     ·exact .inr (.inl rfl)
     ·exact absurd rfl hn
     ·exact .inr (.inr (.inr (.inl rfl)))
     ·exact absurd rfl hn
    ·refine enter_only (N := NV σ) (s := ⟨E1, _⟩) (l := []) (fun a ha => by cases ha) (by show 7 <= 13; decide) fun k hk => ?_
     simp only [ksU, List.mem_cons, List.not_mem_nil, or_false] at hk
     rcases hk with rfl | rfl | rfl | rfl | rfl | rfl
     ·exact .inl e1.symm
     ·exact .inl e7.symm
     ·exact .inl e11.symm
     ·exact .inl e42.symm
     ·exact .inl e43.symm
     ·exact .inr (.inl (sayIl e44))
   ·rw [iterU l hl l.length 0 0 _ (by simp) (by omega)]
    rfl
  ·simp [T.val] at hgs
 ·simp [T.val] at hgs
def lpUg (sets : List Rw -> Int × List N1) : Lp := lpAdd 10 11 (gUg sets) noLp
def lpU : Lp := lpUg setsL
theorem lpU_ok {σ : Sg} : LpsOk Tryd.prog (NVl lpU σ) := lpsAdd lpsV (fn := Tryd.f10) (by kernel_rfl) (c := bodyOf Tryd.f10) (by kernel_rfl) (nt := 83) (by kernel_rfl) (b := LU) (oneLoop_spec (by kernel_rfl)) (gU_ok rfl rfl)
end Go.Proofs.YtpapbhbnaalhcaaDoor

namespace Go.Proofs.YtpapbhbnaalhcaaDoor
open Go Go.Sx Go.Proofs
set_option linter.unusedVariables false
set_option maxRecDepth 100000
noncomputable def tabL (σ : Sg) (fm : FI -> FR) : Tab := tabAdd 20 (sumC isS findM (findN fm)) (tabAdd 8 (sumG isS argM (newS σ)) (tabAdd 11 (sumG isS rowM (ofS σ)) fun _ => none))
noncomputable def linR (σ : Sg) (sets : List Rw -> Int × List N1) (fm : FI -> FR) (st : Int) (b : Bool) (l : List Rw) : T (SV × List AV × List AV) :=
 runN (lpUg sets) σ (tabL σ fm) 10 linM [.v (.c (.it .i64 st)), .v (.c (.vs 7 0 l.length 10 false))] [.rowsB b l]
def inL (sets : List Rw -> Int × List N1) (st : Int) (b : Bool) (l : List Rw) : FI := ⟨b, l, (sets l).2, (sets l).1, 0, [], [], ⟨st, [], []⟩⟩
def errL (σ : Sg) (b : Bool) (l : List Rw) (i : Nat) : T (SV × List AV × List AV) := .leaf (.tup [.c .snil, .c (.bl false), .c (errC σ i)], [.rowsB b l], [])
def isL (b : Bool) (l : List Rw) (r : FR) : T (SV × List AV × List AV) := .ite (!r.is) (.leaf (.tup [.c .snil, .c (.bl false), .c .inil], [.rowsB b l], []))
 (.leaf (.tup [.c (.vs 8 0 r.order.length 1 false), .c (.bl true), .c .inil], [.rowsB b l], [.ints r.order]))
theorem linR_eq (σ : Sg) (sets : List Rw -> Int × List N1) (fm : FI -> FR) (st : Int) (b : Bool) (l : List Rw) : linR σ sets fm st b l =
 .ite (decide (1 <= st /\ st <= 5)) (.need (decide (l.length = l.length /\ l.length <= 1000)) (.ite (ofOk l) (.ite (decide ((l.length : Int) > 12)) (errL σ b l 1)
  (.need (decide (0 <= (l.length : Int) /\ (l.length : Int) = (l.length : Int) /\ (l.length : Int).toNat * (SI.bytes si39 + 1) <= lim)) (.need true
    (.need (decide (l.length = l.length /\ (l.length : Int).toNat = l.length /\ l.length = l.length /\ l.length = l.length /\ (l.length : Int) = (l.length : Int) /\ l.length <= 12 /\ List.replicate (l.length : Int).toNat (⟨0⟩ : N1) = List.replicate l.length ⟨0⟩))
      (.need true (.need (decide (l.length = l.length /\ l.length = (sets l).2.length)) (.need (fm (inL sets st b l)).okB (.ite (fm (inL sets st b l)).mv (isL b l (fm (inL sets st b l))) (isL b l (fm (inL sets st b l)))))))))))
  (errL σ b l 0))) (errL σ b l 0) := by kernel_rfl
theorem setsL_len (l : List Rw) : (setsL l).2.length = l.length := by unfold setsL; rw [goL_len]; simp
def linV (σ : Sg) (fm : FI -> FR) (st : Int) (b : Bool) (l : List Rw) : T (SV × List AV × List AV) :=
 .ite (decide (1 <= st /\ st <= 5)) (.ite (ofOk l) (.ite (decide ((l.length : Int) > 12)) (errL σ b l 1) (.need (fm (inL setsL st b l)).okB (isL b l (fm (inL setsL st b l))))) (errL σ b l 0)) (errL σ b l 0)
theorem lin_val (σ : Sg) (fm : FI -> FR) (st : Int) (b : Bool) (l : List Rw) (hl : l.length <= 1000) : (linR σ setsL fm st b l).val = (linV σ fm st b l).val := by
 rw [linR_eq]
 unfold linV
 cases h1 : decide (1 <= st /\ st <= 5) with
 | false => rw [ivF rfl, ivF rfl]
 | true =>
   rw [ivT rfl, ivT rfl, nv (decide_eq_true ⟨rfl, hl⟩)]
   cases h2 : ofOk l with
   | false => rw [ivF rfl, ivF rfl]
   | true =>
     rw [ivT rfl, ivT rfl]
     cases h3 : decide ((l.length : Int) > 12) with
     | true => rw [ivT rfl, ivT rfl]
     | false =>
       have h3 := of_decide_eq_false h3
       rw [ivF rfl, ivF rfl, nv (decide_eq_true ⟨by omega, rfl, by simp only [si39, lim, Int.toNat_natCast]; omega⟩), nv rfl, nv (decide_eq_true ⟨rfl, Int.toNat_natCast _, rfl, rfl, rfl, by omega, by rw [Int.toNat_natCast]⟩), nv rfl, nv (decide_eq_true ⟨rfl, (setsL_len l).symm⟩)]
       cases h4 : (fm (inL setsL st b l)).okB with
       | false => rfl
       | true =>
         rw [nv rfl, nv rfl]
         cases (fm (inL setsL st b l)).mv with
         | true => rw [ivT rfl]
         | false => rw [ivF rfl]
def linS (σ : Sg) (fm : FI -> FR) (args : List SV) (l : List AV) : T (SV × List AV × List AV) := match args, l with
 | [.v (.c k), .v (.c (.vs n 0 len 10 false))], [a] => match iOf k, Nat.beq n 7, rowsX a with
   | some st, true, some (b, rs) => .need (decide (len = rs.length /\ rs.length <= 1000)) (linV σ fm st b rs)
   | _, _, _ => .fail "Linear"
 | _, _ => .fail "Linear"
theorem linS_ok {σ : Sg} (hcont : FnOk Tryd.prog (NV σ) 37 (sumG isS contM contS)) (k : Nat) : FnOk Tryd.prog (NV σ) 10 (sumG isS linM (linS σ (fmK k))) := by
 have ht : TabOk Tryd.prog (NV σ) (tabL σ (fmK k)) := tabAdd_ok (lp := noLp) (findN_ok hcont k) (tabAdd_ok (lp := noLp) newS_ok (tabAdd_ok (lp := noLp) ofS_ok fun f g h => by cases h))
 refine fnOk_env (N := NVl lpU σ) (N' := NV σ) rfl rfl ?_
 refine sumG_ok isS_ok rfl fun args l v l' nw h hl hargs => ?_
 unfold linS at h
 split at h
 ·rename_i kc n len a
  split at h
  ·rename_i st b rs h0 h1 h2
   have hn := (beq_iff _ _).1 h1
   subst hn
   replace h := need_some h
   obtain ⟨hb, h⟩ := h
   obtain ⟨rfl, hsm⟩ := of_decide_eq_true hb
   rw [<- lin_val σ (fmK k) st b rs hsm] at h
   have ha : Alike (NVl lpU σ) [a] [.rowsB b rs] := ⟨fun lc S w => rowsX_q h2 lc S w, trivial⟩
   have hc := (runN_ok lpU_ok (tabOk_lp (lp := noLp) ht) (M := linM) rfl (l := [.rowsB b rs]) (fun x hx => by
    simp only [List.mem_cons, List.not_mem_nil, or_false] at hx
    rcases hx with rfl | rfl
    ·exact cl_it _
    ·exact cl_vs (hpO_at linM [.rowsB b rs] 0 _ rfl)) h).1
   have hl1 : l' = [.rowsB b rs] := by
    rw [lin_val σ (fmK k) st b rs hsm] at h
    have lv : ∀ (i : Nat), (errL σ b rs i).val = some (v, l', nw) -> l' = [.rowsB b rs] := fun i h => by
     simp only [errL, T.val, Option.some.injEq, Prod.mk.injEq] at h
     exact h.2.1.symm
    have li : ∀ r, (isL b rs r).val = some (v, l', nw) -> l' = [.rowsB b rs] := fun r h => by
     unfold isL at h
     cases hr : (!r.is) with
     | true =>
       rw [hr, ivT rfl] at h
       simp only [T.val, Option.some.injEq, Prod.mk.injEq] at h
       exact h.2.1.symm
     | false =>
       rw [hr, ivF rfl] at h
       simp only [T.val, Option.some.injEq, Prod.mk.injEq] at h
       exact h.2.1.symm
    unfold linV at h
    cases h1 : decide (1 <= st /\ st <= 5) with
    | false => rw [h1, ivF rfl] at h; exact lv _ h
    | true =>
      rw [h1, ivT rfl] at h
      cases h2 : ofOk rs with
      | false => rw [h2, ivF rfl] at h; exact lv _ h
      | true =>
        rw [h2, ivT rfl] at h
        cases h3 : decide ((rs.length : Int) > 12) with
        | true => rw [h3, ivT rfl] at h; exact lv _ h
        | false =>
          rw [h3, ivF rfl] at h
          replace h := need_some h
          exact li _ h.2
   subst hl1
   have hc := ctr_alike (l := [a]) (m := [.rowsB b rs]) (l' := [.rowsB b rs]) (m' := [.rowsB b rs]) ha (Alike.refl _) hc
   exact ctr_args hc fun ρ => by
    simp only [List.map_cons, List.map_nil, SV.den, V1.den, iOf_den h0]
    rfl
  ·simp [T.val] at h
 ·simp [T.val] at h
end Go.Proofs.YtpapbhbnaalhcaaDoor

namespace Go.Proofs.YtpapbhbnaalhcaaDoor
open Go Go.Sx Go.Proofs
set_option linter.unusedVariables false
set_option maxRecDepth 100000
def ksV : List Nat := [0, 2, 3]
def famV (l : List N1) (n : Nat) (i j : Int) : St AV := { E := only ksV [(0, .v (.c (.vs 7 0 n 1 false))), (2, .v (.c (.it .i64 i))), (3, .v (.c (.it .i64 j)))] 28, H := hp7 [.ints l] }
noncomputable def LV : Code := loopAt 1 (loopsOf (bodyOf Tryd.f55))
theorem vR (σ : Sg) (l : List N1) (n : Nat) (i j : Int) : (xc (NV σ) (joinCal (lv (NV σ) (fun _ => none) 5)) (fun _ => none) 28 LV (famV l n i j)).bind (backS 8 28 ksV pkJ) =
 .ite (decide (i < j)) (.need (decide (0 <= j /\ j < (n : Int))) (.need (decide (0 + j.toNat < l.length)) (.need (decide (0 <= i /\ i < (n : Int))) (.need (decide (0 + i.toNat < l.length)) (.need (decide (0 <= i /\ i < (n : Int))) (.need (decide (0 + i.toNat < l.length))
  (.need (decide (0 <= j /\ j < (n : Int))) (.need (decide (0 + j.toNat < (l.set (0 + i.toNat) (⟨(l.getD (0 + j.toNat) kints.dflt).val⟩ : N1)).length))
    (.leaf (.normal, famV ((l.set (0 + i.toNat) ⟨(l.getD (0 + j.toNat) kints.dflt).val⟩).set (0 + j.toNat) ⟨(l.getD (0 + i.toNat) kints.dflt).val⟩) n (IntKind.wrap .i64 (i + 1)) (IntKind.wrap .i64 (j - 1)))))))))))) 
  (.leaf (.exit 0, famV l n i j)) := by kernel_rfl
def revAt (l : List N1) (i k : Nat) : N1 := if k < i \/ l.length <= k + i then l.getD (l.length - 1 - k) kints.dflt else l.getD k kints.dflt
def revTo (l : List N1) (i : Nat) : List N1 := (List.range l.length).map (revAt l i)
theorem revTo_len (l : List N1) (i : Nat) : (revTo l i).length = l.length := by simp [revTo]
theorem revTo_at (l : List N1) (i k : Nat) (h : k < l.length) (d : N1) : (revTo l i).getD k d = revAt l i k := by
 simp [revTo, List.getD, h]
theorem revTo_zero (l : List N1) : revTo l 0 = l := by
 refine List.ext_getElem (by simp [revTo]) fun k h1 h2 => ?_
 simp only [revTo, List.getElem_map, List.getElem_range, revAt]
 rw [if_neg (by omega)]
 simp [List.getD, h2]
theorem revTo_end (l : List N1) (i : Nat) (h : l.length <= 2 * i + 1) : revTo l i = l.reverse := by
 refine List.ext_getElem (by simp [revTo]) fun k h1 h2 => ?_
 have hk : k < l.length := by simpa using h2
 simp only [revTo, List.getElem_map, List.getElem_range, revAt, List.getElem_reverse]
 by_cases hc : k < i \/ l.length <= k + i
 ·rw [if_pos hc]
  simp [List.getD, show l.length - 1 - k < l.length by omega]
 ·rw [if_neg hc]
  have e : k = l.length - 1 - k := by omega
  simp only [List.getD, <- e, List.getElem?_eq_getElem hk, Option.getD_some]
theorem revTo_step (l : List N1) (i : Nat) (h : 2 * i + 1 < l.length) : (((revTo l i).set i ⟨((revTo l i).getD (l.length - 1 - i) kints.dflt).val⟩).set (l.length - 1 - i) ⟨((revTo l i).getD i kints.dflt).val⟩) = revTo l (i + 1) := by
 have e1 : (⟨((revTo l i).getD (l.length - 1 - i) kints.dflt).val⟩ : N1) = l.getD (l.length - 1 - i) kints.dflt := by
  rw [revTo_at l i _ (by omega), revAt, if_neg (by omega)]
 have e2 : (⟨((revTo l i).getD i kints.dflt).val⟩ : N1) = l.getD i kints.dflt := by
  rw [revTo_at l i _ (by omega), revAt, if_neg (by omega)]
 rw [e1, e2]
 refine List.ext_getElem (by simp [revTo]) fun k h1 h2 => ?_
 have hk : k < l.length := by simpa [revTo] using h2
 simp only [List.getElem_set, revTo, List.getElem_map, List.getElem_range, revAt]
 by_cases c1 : l.length - 1 - i = k
 ·rw [if_pos c1, if_pos (by omega), show l.length - 1 - k = i by omega]
 ·rw [if_neg c1]
  by_cases c2 : i = k
  ·rw [if_pos c2, if_pos (by omega), c2]
  ·rw [if_neg c2]
   by_cases c3 : k < i \/ l.length <= k + i
   ·rw [if_pos c3, if_pos (by omega)]
   ·rw [if_neg c3, if_neg (by omega)]
def stepV (n i : Nat) : T (Ex × Nat) := .need (decide (smallN n /\ 2 * i <= n)) (.leaf (if 2 * i + 1 < n then (.normal, i + 1) else (.exit 0, i)))
theorem wrapI {z : Int} (h : -1000000000 < z /\ z < 1000000000) : IntKind.wrap .i64 z = z := wrap_in (by omega)
theorem stepV_run (σ : Sg) (l : List N1) (i : Nat) (q : Ex × Nat) (h : (stepV l.length i).val = some q) :
 ((xc (NV σ) (joinCal (lv (NV σ) (fun _ => none) 5)) (fun _ => none) 28 LV (famV (revTo l i) l.length i ((l.length : Int) - 1 - i))).bind (backS 8 28 ksV pkJ)).val = some (q.1, famV (revTo l q.2) l.length q.2 ((l.length : Int) - 1 - q.2)) := by
 replace h := need_some h
 obtain ⟨hb, h⟩ := h
 obtain ⟨hs, hi⟩ := of_decide_eq_true hb
 simp only [smallN] at hs
 simp only [T.val, Option.some.injEq] at h
 subst h
 rw [vR]
 by_cases hlt : 2 * i + 1 < l.length
 ·have hl := revTo_len l i
  have ej : (l.length : Int) - 1 - i = ((l.length - 1 - i : Nat) : Int) := by omega
  simp only [if_pos hlt]
  rw [ej]
  have e1 : 0 + (i : Int).toNat = i := by omega
  have e2 : 0 + ((l.length - 1 - i : Nat) : Int).toNat = l.length - 1 - i := by omega
  rw [ivT (decide_eq_true (by omega)), nv (decide_eq_true (by omega)), nv (decide_eq_true (by omega)), nv (decide_eq_true (by omega)), nv (decide_eq_true (by omega)), nv (decide_eq_true (by omega)), nv (decide_eq_true (by omega)), nv (decide_eq_true (by omega)), nv (decide_eq_true (by rw [List.length_set]; omega))]
  rw [e1, e2, revTo_step l i hlt, wrapI (by omega), wrapI (by omega)]
  simp only [T.val]
  rw [show (i : Int) + 1 = ((i + 1 : Nat) : Int) by omega, show ((l.length - 1 - i : Nat) : Int) - 1 = (l.length : Int) - 1 - ((i + 1 : Nat) : Int) by omega]
 ·simp only [if_neg hlt]
  rw [ivF (decide_eq_false (by omega))]
  rfl
theorem iterV (n : Nat) (hs : smallN n) : ∀ (k i : Nat), 2 * i <= n -> n <= 2 * i + 2 * k + 1 -> iter (stepV n) (k + 1) i = some (.exit 0, n / 2)
 | 0, i, hi, hk => by
   simp only [iter, stepV, T.val, decide_eq_true (show smallN n /\ 2 * i <= n from ⟨hs, hi⟩), if_neg (show ¬ 2 * i + 1 < n by omega), show n / 2 = i by omega]
 | k + 1, i, hi, hk => by
   rw [iter]
   by_cases hlt : 2 * i + 1 < n
   ·simp only [stepV, T.val, decide_eq_true (show smallN n /\ 2 * i <= n from ⟨hs, hi⟩), if_pos hlt]
    exact iterV n hs k (i + 1) (by omega) (by omega)
   ·simp only [stepV, T.val, decide_eq_true (show smallN n /\ 2 * i <= n from ⟨hs, hi⟩), if_neg hlt, show n / 2 = i by omega]
def gV (s : St AV) : T (Ex × St AV) := match s.H with
 | [none, none, none, none, none, none, none, some (.abs (.ints l))] => match Sx.look s.E 0, Sx.look s.E 2, Sx.look s.E 3 with
   | .v (.c (.vs 7 0 n 1 false)), .v (.c (.il .i64 0)), .v (.c (.it .i64 j)) => .need (decide (n = l.length /\ j = (l.length : Int) - 1 /\ smallN l.length))
      (.leaf (.exit 0, famV l.reverse l.length (l.length / 2 : Nat) ((l.length : Int) - 1 - (l.length / 2 : Nat))))
   | _, _, _ => .fail "Reverse"
 | _ => .fail "Reverse"
theorem gV_ok {σ : Sg} {N' : Env AV} (hF : N'.F = (NV σ).F) (hG : N'.G = (NV σ).G) : LoopOk Tryd.prog N' 28 LV gV := by
 have hcal : CalOk Tryd.prog (NV σ) (joinCal (lv (NV σ) (fun _ => none) 5)) := joinCal_ok (lv_ok okV lpsV hvV (fun f g h => by cases h) 5)
 refine loopOk_it (N := NV σ) hF hG okV hcal (lp := fun _ => none) (fun _ _ _ g hg => by cases hg) fun s s' ex hgs => ?_
 obtain ⟨E1, H1⟩ := s
 unfold gV at hgs
 split at hgs
 ·rename_i l hs
  simp only at hs
  subst hs
  split at hgs
  ·rename_i n j e0 e2 e3
   replace hgs := need_some hgs
   obtain ⟨hb, hgs⟩ := hgs
   obtain ⟨rfl, rfl, hsm⟩ := of_decide_eq_true hb
   simp only [T.val, Option.some.injEq, Prod.mk.injEq] at hgs
   obtain ⟨rfl, rfl⟩ := hgs
   refine ⟨{ M := Nat, fam := fun i => famV (revTo l i) l.length i ((l.length : Int) - 1 - i), step := stepV l.length, ks := ksV, pk := pkJ, hpk := pkJ_ok, L := 8, len := rfl, hGL := (by show 7 <= 8; decide), run := stepV_run σ l, m := 0, k := l.length + 1, m' := l.length / 2, ent := ?_, it := iterV l.length hsm l.length 0 (by omega) (by omega), fin := by rw [revTo_end l _ (by omega)] }⟩
   rw [revTo_zero]
   refine enter_only (N := NV σ) (s := ⟨E1, _⟩) (l := []) (fun a ha => by cases ha) (by show 7 <= 8; decide) fun k hk => ?_
   simp only [ksV, List.mem_cons, List.not_mem_nil, or_false] at hk
   rcases hk with rfl | rfl | rfl
   ·exact .inl e0.symm
   ·exact .inr (.inl (sayIl e2))
   ·refine .inl ?_
    rw [e3]
    show SV.v (V1.c (Cell.it IntKind.i64 ((l.length : Int) - 1 - ((0 : Nat) : Int)))) = _
    rw [show (l.length : Int) - 1 - ((0 : Nat) : Int) = (l.length : Int) - 1 by omega]
  ·simp [T.val] at hgs
 ·simp [T.val] at hgs
def lpV : Lp := lpAdd 55 1 gV noLp
theorem lpV_ok {σ : Sg} : LpsOk Tryd.prog (NVl lpV σ) := lpsAdd lpsV (fn := Tryd.f55) (by kernel_rfl) (c := bodyOf Tryd.f55) (by kernel_rfl) (nt := 28) (by kernel_rfl) (b := LV) (oneLoop_spec (by kernel_rfl)) (gV_ok rfl rfl)
theorem revR (σ : Sg) (l : List N1) : runN lpV σ (fun _ => none) 55 noM [.v (.c (.vs 7 0 l.length 1 false))] [.ints l] =
 .need (decide (l.length = l.length /\ IntKind.wrap .i64 ((l.length : Int) - 1) = (l.length : Int) - 1 /\ smallN l.length)) (.leaf (.tup [], [.ints l.reverse], [])) := by kernel_rfl
theorem rev_ctr {σ : Sg} (l : List N1) (hsm : smallN l.length) : Ctr Tryd.prog (NV σ) 55 [.v (.c (.vs 7 0 l.length 1 false))] (hpO noM [.ints l]) (.tup []) (hpO noM [.ints l.reverse]) := by
 have hs2 : l.length < 1000000000 := by simp only [smallN] at hsm; omega
 have hr : (runN lpV σ (fun _ => none) 55 noM [.v (.c (.vs 7 0 l.length 1 false))] [.ints l]).val = some (.tup [], [.ints l.reverse], []) := by
  rw [revR, nv (decide_eq_true ⟨rfl, wrapI (by omega), hsm⟩)]
  rfl
 have h := (runN_ok (σ := σ) lpV_ok (fun f g h => by cases h) (M := noM) rfl (l := [.ints l]) (fun x hx => by
  rw [List.mem_singleton.1 hx]
  exact cl_vs (hpO_at noM [.ints l] 0 _ rfl)) hr).1
 refine ⟨h.1, h.2.1, fun ρ w hO => (h.2.2 ρ w (own_env (N := NV σ) (N' := NVl lpV σ) rfl rfl hO)).mono ?_⟩
 rintro e w' ⟨ρ', he, o, ev⟩
 exact ⟨ρ', he, own_env (N := NVl lpV σ) (N' := NV σ) rfl rfl o, evo_env (NV σ) ev⟩
end Go.Proofs.YtpapbhbnaalhcaaDoor

namespace Go.Proofs.YtpapbhbnaalhcaaDoor
open Go Go.Sx Go.Proofs
set_option linter.unusedVariables false
set_option maxRecDepth 100000
end Go.Proofs.YtpapbhbnaalhcaaDoor

namespace Go.Proofs
open Go.Shelf
open Go.Shelf in
def Tryd.laysAI_ren : Go.Shelf.Ren := ⟨fun | 176 => 50 | 249 => 56 | 288 => 58 | 283 => 59 | 284 => 60 | 285 => 61 | 286 => 62 | 129 => 64 | 317 => 63 | 318 => 65 | 319 => 66 | 320 => 67 | 337 => 68 | 338 => 69 | n => n, fun | 37 => 156 | 2 => 2 | 3 => 3 | 53 => 171 | 4 => 4 | 9 => 9 | 171 => 174 | 0 => 0 | 173 => 177 | 212 => 181 | 51 => 182 | 5 => 5 | 20 => 20 | 213 => 183 | 46 => 25 | 232 => 187 | 233 => 188 | n => n, fun | 17 => 4 | 18 => 5 | 19 => 6 | n => n⟩
theorem Tryd.laysAI : Go.Proofs.LaysM.n176 Tryd.prog Tryd.laysAI_ren := {
 mixed := by kernel_rfl
 f129 := Tryd.func64.trans (congrArg some (by kernel_rfl))
 f176 := Tryd.func50.trans (congrArg some (by kernel_rfl))
 f249 := Tryd.func56.trans (congrArg some (by kernel_rfl))
 f283 := Tryd.func59.trans (congrArg some (by kernel_rfl))
 f284 := Tryd.func60.trans (congrArg some (by kernel_rfl))
 f285 := Tryd.func61.trans (congrArg some (by kernel_rfl))
 f286 := Tryd.func62.trans (congrArg some (by kernel_rfl))
 f288 := Tryd.func58.trans (congrArg some (by kernel_rfl))
 f317 := Tryd.func63.trans (congrArg some (by kernel_rfl))
 f318 := Tryd.func65.trans (congrArg some (by kernel_rfl))
 f319 := Tryd.func66.trans (congrArg some (by kernel_rfl))
 f320 := Tryd.func67.trans (congrArg some (by kernel_rfl))
 f337 := Tryd.func68.trans (congrArg some (by kernel_rfl))
 f338 := Tryd.func69.trans (congrArg some (by kernel_rfl))
 t0 := Tryd.underlying0
 a0 := Tryd.isAgg0
 z0 := Tryd.sizeOf0
 v0 := Tryd.zeroValue0
 t2 := Tryd.underlying2
 a2 := Tryd.isAgg2
 z2 := Tryd.sizeOf2
 v2 := Tryd.zeroValue2
 t3 := Tryd.underlying3
 a3 := Tryd.isAgg3
 z3 := Tryd.sizeOf3
 v3 := Tryd.zeroValue3
 t4 := Tryd.underlying4
 a4 := Tryd.isAgg4
 z4 := Tryd.sizeOf4
 v4 := Tryd.zeroValue4
 t5 := Tryd.underlying5
 a5 := Tryd.isAgg5
 z5 := Tryd.sizeOf5
 v5 := Tryd.zeroValue5
 t9 := Tryd.underlying9
 a9 := Tryd.isAgg9
 z9 := Tryd.sizeOf9
 v9 := Tryd.zeroValue9
 t20 := Tryd.underlying20
 a20 := Tryd.isAgg20
 z20 := Tryd.sizeOf20
 v20 := Tryd.zeroValue20
 t37 := Tryd.underlying156
 a37 := Tryd.isAgg156
 z37 := Tryd.sizeOf156
 v37 := Tryd.zeroValue156
 t46 := Tryd.underlying25
 a46 := Tryd.isAgg25
 z46 := Tryd.sizeOf25
 v46 := Tryd.zeroValue25
 t51 := Tryd.underlying182
 a51 := Tryd.isAgg182
 z51 := Tryd.sizeOf182
 v51 := Tryd.zeroValue182
 t53 := Tryd.underlying171
 a53 := Tryd.isAgg171
 z53 := Tryd.sizeOf171
 v53 := Tryd.zeroValue171
 t171 := Tryd.underlying174
 a171 := Tryd.isAgg174
 z171 := Tryd.sizeOf174
 v171 := Tryd.zeroValue174
 t173 := Tryd.underlying177
 a173 := Tryd.isAgg177
 z173 := Tryd.sizeOf177
 v173 := Tryd.zeroValue177
 t212 := Tryd.underlying181
 a212 := Tryd.isAgg181
 z212 := Tryd.sizeOf181
 v212 := Tryd.zeroValue181
 t213 := Tryd.underlying183
 a213 := Tryd.isAgg183
 z213 := Tryd.sizeOf183
 t232 := Tryd.underlying187
 a232 := Tryd.isAgg187
 z232 := Tryd.sizeOf187
 v232 := Tryd.zeroValue187
 t233 := Tryd.underlying188
 a233 := Tryd.isAgg188
 z233 := Tryd.sizeOf188
 v233 := Tryd.zeroValue188
 g17 := by kernel_rfl
 g18 := by kernel_rfl
 g19 := by kernel_rfl
 i0 := by kernel_rfl
 i2 := by kernel_rfl
 i3 := by kernel_rfl
 i4 := by kernel_rfl
 i5 := by kernel_rfl
 i9 := by kernel_rfl
 i20 := by kernel_rfl
 i37 := by kernel_rfl
 i46 := by kernel_rfl
 i51 := by kernel_rfl
 i53 := by kernel_rfl
 i171 := by kernel_rfl
 i173 := by kernel_rfl
 i212 := by kernel_rfl
 i232 := by kernel_rfl
 i233 := by kernel_rfl
 m17 := by kernel_rfl
 m18 := by kernel_rfl
 m19 := by kernel_rfl }
end Go.Proofs
namespace Go.Proofs.YtpapbhbnaalhcaaDoor
open Go Go.Sx Go.Proofs Go.Shelf Go.RowKit
set_option linter.unusedVariables false
set_option maxRecDepth 100000
theorem app_int (B n : Nat) (i : Int) (h0 : -9223372036854775808 <= i) (h1 : i <= 9223372036854775807) (sv : Value) (xs : List Value) (w : World) (hown : w.ownsRow B 5 1 sv n xs) (hBw : B <= w.heap.size) (hlim : n + 21 <= 140737488355328)
 (htab : Lib.TabBelow Tryd.prog B w "internal/strconv.uint64pow10" .u64 Lib.pow10Tab) :
 Calls Tryd.prog 50 #[sv, .int .i64 i, .int .i64 10] w fun e w' => ∃ v', e = .returned v' /\ w'.ownsRow B 5 1 v' (n + (Lib.itoa i).length) (xs ++ Lib.byteCells (Lib.itoa i)) /\ Below B w w' /\ Lib.OthersKept 5 none w w' := Any.strconv_AppendInt_10 Tryd.laysAI B n i h0 h1 sv xs w hown hBw hlim htab
def RowJ (B : Nat) (e : TypeId) (w : World) (v : Value) (n : Nat) (xs : List Value) : Prop := ∃ (a : Option Addr) (c : Nat), v = .slice a n c /\ (n = 0 \/ ∃ g cur, a = some ⟨g, 0, none⟩ /\ B <= g /\ w.heap[g]? = some (.cells cur e (0, 0)) /\ ∀ (j : Nat) u, xs[j]? = some u -> cur[j]? = some u)
def txtV (vs : List N1) (k : Nat) : List UInt8 := (vs.take k).flatMap fun v => numB v.val 32
theorem rangeV {vs : List N1} (h : ∀ x ∈ vs, -9223372036854775808 <= x.val /\ x.val <= 9223372036854775807) (k : Nat) : -9223372036854775808 <= (vs.getD k kints.dflt).val /\ (vs.getD k kints.dflt).val <= 9223372036854775807 := by
 by_cases hk : k < vs.length
 ·have : vs.getD k kints.dflt = vs[k] := by simp [List.getD, hk]
  rw [this]
  exact h _ (List.getElem_mem hk)
 ·have : vs.getD k kints.dflt = kints.dflt := by simp [List.getD, Nat.le_of_not_lt hk]
  rw [this]
  exact ⟨by decide, by decide⟩
theorem txtV_len (vs : List N1) (h : ∀ x ∈ vs, -9223372036854775808 <= x.val /\ x.val <= 9223372036854775807) (k : Nat) : (txtV vs k).length <= 22 * k := by
 induction k with
 | zero => simp [txtV]
 | succ k ih =>
   by_cases hk : k < vs.length
   ·have hx := h _ (List.getElem_mem hk)
    have hl := Lib.itoa_length_le _ hx.1 hx.2
    unfold txtV at ih ⊢
    rw [List.take_add_one, List.flatMap_append, List.length_append, List.getElem?_eq_getElem hk]
    have e : (List.flatMap (fun v : N1 => numB v.val 32) (some vs[k]).toList).length = (Lib.itoa vs[k].val).length + 1 := by simp [numB]
    rw [e]
    omega
   ·unfold txtV at ih ⊢
    rw [List.take_of_length_le (by omega)] at ih ⊢
    omega
theorem txtV_succ (vs : List N1) (k : Nat) (h : k < vs.length) : txtV vs (k + 1) = txtV vs k ++ (Lib.itoa (vs.getD k kints.dflt).val ++ [32]) := by
 unfold txtV
 rw [List.take_add_one, List.flatMap_append, List.getElem?_eq_getElem h]
 have : vs.getD k kints.dflt = vs[k] := by simp [List.getD, h]
 rw [this]
 simp [numB]
theorem own_below {w w' : World} {B : Nat} {e : TypeId} {es : Nat} {v : Value} {n : Nat} {xs : List Value} (h : w.ownsRow B e es v n xs) (hb : Below w.heap.size w w') : w'.ownsRow B e es v n xs := by
 refine ⟨h.1, ?_⟩
 rcases h.2 with hn | ⟨g, cap, cur, hv, hB, hg, rest⟩
 ·exact .inl hn
 ·have hlt : g < w.heap.size := (Array.getElem?_eq_some_iff.1 hg).1
  exact .inr ⟨g, cap, cur, hv, hB, by rw [hb.block g hlt]; exact hg, rest⟩
theorem own_eq {w : World} {B : Nat} {v : Value} {n : Nat} {xs : List Value} {l : List UInt8} (h : w.ownsRow B 5 1 v n xs) (hx : xs = Lib.byteCells l) (hn : n = l.length) : w.ownsRow B 5 1 v l.length (Lib.byteCells l) := by
 rw [<- hx, <- hn]; exact h
def txtP (ps : List Pr) (k : Nat) : List UInt8 := (ps.take k).flatMap fun p => numB p.key 61 ++ numB p.val 32
theorem pair_at : ∀ (ps : List Pr) (k : Nat), k < ps.length -> (ps.flatMap fun x => [Value.int .i64 x.key, Value.int .i64 x.val])[k * 2]? = some (.int .i64 (ps.getD k kpairs.dflt).key) /\ (ps.flatMap fun x => [Value.int .i64 x.key, Value.int .i64 x.val])[k * 2 + 1]? = some (.int .i64 (ps.getD k kpairs.dflt).val)
 | [], k, h => by simp at h
 | x :: r, 0, h => by simp
 | x :: r, k + 1, h => by
   have := pair_at r k (by simpa using h)
   rw [show (k + 1) * 2 = k * 2 + 2 by omega, show k * 2 + 2 + 1 = (k * 2 + 1) + 2 by omega]
   simpa using this
abbrev RangeP (p : Pr) : Prop := -9223372036854775808 <= p.key /\ p.key <= 9223372036854775807 /\ -9223372036854775808 <= p.val /\ p.val <= 9223372036854775807
theorem rangeP {ps : List Pr} (h : ∀ x ∈ ps, RangeP x) (k : Nat) : RangeP (ps.getD k kpairs.dflt) := by
 by_cases hk : k < ps.length
 ·have : ps.getD k kpairs.dflt = ps[k] := by simp [List.getD, hk]
  rw [this]
  exact h _ (List.getElem_mem hk)
 ·have : ps.getD k kpairs.dflt = kpairs.dflt := by simp [List.getD, Nat.le_of_not_lt hk]
  rw [this]
  exact ⟨by decide, by decide, by decide, by decide⟩
theorem txtP_len (ps : List Pr) (h : ∀ x ∈ ps, RangeP x) (k : Nat) : (txtP ps k).length <= 44 * k := by
 induction k with
 | zero => simp [txtP]
 | succ k ih =>
   by_cases hk : k < ps.length
   ·have hx := h _ (List.getElem_mem hk)
    have hl := Lib.itoa_length_le _ hx.1 hx.2.1
    have hl2 := Lib.itoa_length_le _ hx.2.2.1 hx.2.2.2
    unfold txtP at ih ⊢
    rw [List.take_add_one, List.flatMap_append, List.length_append, List.getElem?_eq_getElem hk]
    have e : (List.flatMap (fun p : Pr => numB p.key 61 ++ numB p.val 32) (some ps[k]).toList).length = (Lib.itoa ps[k].key).length + 1 + ((Lib.itoa ps[k].val).length + 1) := by simp [numB]; omega
    rw [e]
    omega
   ·unfold txtP at ih ⊢
    rw [List.take_of_length_le (by omega)] at ih ⊢
    omega
theorem txtP_succ (ps : List Pr) (k : Nat) (h : k < ps.length) : txtP ps (k + 1) = txtP ps k ++ (Lib.itoa (ps.getD k kpairs.dflt).key ++ [61] ++ (Lib.itoa (ps.getD k kpairs.dflt).val ++ [32])) := by
 unfold txtP
 rw [List.take_add_one, List.flatMap_append, List.getElem?_eq_getElem h]
 have : ps.getD k kpairs.dflt = ps[k] := by simp [List.getD, h]
 rw [this]
 simp [numB]
theorem txtV_all (vs : List N1) : txtV vs vs.length = vs.flatMap fun v => numB v.val 32 := by unfold txtV; rw [List.take_length]
theorem txtP_all (ps : List Pr) : txtP ps ps.length = ps.flatMap fun p => numB p.key 61 ++ numB p.val 32 := by unfold txtP; rw [List.take_length]
theorem conv_nil (w : World) : (convert 156 9 (.slice none 0 0)).run Tryd.prog w = .ok (.string ⟨#[]⟩) w := by kernel_rfl
theorem conv_own {w : World} {B : Nat} {v : Value} {l : List UInt8} (h : w.ownsRow B 5 1 v l.length (Lib.byteCells l)) : (convert 156 9 v).run Tryd.prog w = .ok (.string ⟨l.toArray⟩) w := by
 rcases h.2 with ⟨rfl, h0⟩ | ⟨g, cap, cur, rfl, -, -, -, -, -, -⟩
 ·have : l = [] := List.eq_nil_of_length_eq_zero h0
  subst this
  exact conv_nil w
 ·exact run_convert_bytes_back (P := Tryd.prog) w 156 9 5 ⟨g, 0, none⟩ cap l Tryd.underlying156 Tryd.underlying5 Tryd.underlying9 (fun j hj => h.cells (g := g) rfl j _ (by simp [Lib.byteCells, hj]))
theorem infoByte : (Tryd.prog.info? 5).map (fun i => (i.zero, i.size, i.bytes)) = some (some (.int .u8 0), 1, 1) := by kernel_rfl
set_option maxHeartbeats 6400000 in
theorem cont_walk (p : Value) (w : World) (vs : List N1) (ps : List Pr)
 (hV : Calls Tryd.prog 49 #[p] w fun e w' => ∃ v, e = .returned v /\ RowJ w.heap.size 3 w' v vs.length (vs.map fun x => .int .i64 x.val) /\ Below w.heap.size w w')
 (hP : ∀ w2, Below w.heap.size w w2 -> Calls Tryd.prog 51 #[p] w2 fun e w' => ∃ v, e = .returned v /\ RowJ w2.heap.size 98 w' v ps.length (ps.flatMap fun x => [.int .i64 x.key, .int .i64 x.val]) /\ Below w2.heap.size w2 w')
 (hvl : vs.length <= 1000) (hpl : ps.length <= 1000) (hvr : ∀ x ∈ vs, -9223372036854775808 <= x.val /\ x.val <= 9223372036854775807)
 (hpr : ∀ x ∈ ps, -9223372036854775808 <= x.key /\ x.key <= 9223372036854775807 /\ -9223372036854775808 <= x.val /\ x.val <= 9223372036854775807)
 (htab : Lib.TabIs Tryd.prog w "internal/strconv.uint64pow10" .u64 Lib.pow10Tab) :
 Calls Tryd.prog 37 #[p] w fun e w' => e = .returned (.string ⟨(vs.flatMap (fun v => numB v.val 32) ++ ps.flatMap fun p => numB p.key 61 ++ numB p.val 32).toArray⟩) /\ Below w.heap.size w w' := by
 obtain ⟨i0, hi, hz0, hz1, hz2⟩ := info_parts infoByte
 have hT := Lib.tabBelow_of_tabIs htab
 go_enter Tryd.func37, Tryd.ntmps37
 go_wp2_with (go_at_call 49; refine hV.mono ?_; rintro e w1 ⟨v1, rfl, hown1, hnx1⟩; refine Hid.out ?_)
 refine Lib.hid ?_
 obtain ⟨a1, c1, rfl, hA⟩ := hown1
 rcases hA with h0 | ⟨g, cur, rfl, hgB, hg, hcur⟩
 ·obtain rfl : vs = [] := List.eq_nil_of_length_eq_zero h0
  go_wp2
  refine wp_loop_rounds 1 ?_
  rw [rounds_succ]
  go_wp2_with (go_at_call 51; refine (hP w1 hnx1).mono ?_; rintro e w4 ⟨v4, rfl, hown4, hnx4⟩; refine Hid.out ?_)
  refine Lib.hid ?_
  have hown5 : w4.ownsRow w.heap.size 5 1 (.slice none 0 0) (txtV [] 0).length (Lib.byteCells (txtV [] 0)) := World.ownsRow_nil _ _ _ _
  have hnx5 : Below w.heap.size w w4 := hnx1.trans (hnx4.mono hnx1.size)
  obtain ⟨a4, c4, rfl, hA4⟩ := hown4
  rcases hA4 with h04 | ⟨g4, cur4, rfl, hgB4, hg4, hcur4⟩
  ·obtain rfl : ps = [] := List.eq_nil_of_length_eq_zero h04
   have hcv := conv_own hown5
   go_wp2
   refine wp_loop_rounds 1 ?_
   rw [rounds_succ]
   go_wp2
   go_ret
   exact ⟨rfl, hnx5⟩
  ·go_wp2
   go_loopw [3, 24] (fun v i wr' => ∃ k : Nat, k <= ps.length /\ i = .int .i64 k /\ wr'.ownsRow w.heap.size 5 1 v (txtV [] 0 ++ txtP ps k).length (Lib.byteCells (txtV [] 0 ++ txtP ps k)) /\ Below w.heap.size w wr' /\ w4.heap.size <= wr'.heap.size /\ Lib.OthersKept 5 none w4 wr')
    (fun _ i _ => ps.length - (intOf i).toNat)
   case atStart => exact ⟨0, Nat.zero_le _, rfl, by rw [show txtV [] 0 ++ txtP ps 0 = txtV [] 0 by simp [txtP]]; exact hown5, hnx5, Nat.le_refl _, Lib.OthersKept.refl _ _ _⟩
   case round =>
    obtain ⟨k, hk, rfl, hown, hnx, hsz4, hok⟩ := hrel
    have hcx0 : k < ps.length -> wr.cell? ⟨g4, k * 2, none⟩ = some (.int .i64 (ps.getD k kpairs.dflt).key) := fun hlt => by
     have h1 := hok g4 _ hg4 (by simp) (fun c fz h => by cases h)
     simp [World.cell?, h1, hcur4 _ _ (pair_at ps k hlt).1]
    have hcx1 : k < ps.length -> wr.cell? ⟨g4, k * 2 + 1, none⟩ = some (.int .i64 (ps.getD k kpairs.dflt).val) := fun hlt => by
     have h1 := hok g4 _ hg4 (by simp) (fun c fz h => by cases h)
     simp [World.cell?, h1, hcur4 _ _ (pair_at ps k hlt).2]
    have hsB' := hnx.size
    have hcv := conv_own hown
    obtain ⟨r1, r2, r3, r4⟩ := rangeP hpr k
    have hTl : (txtV [] 0).length <= 0 := by simp [txtV]
    have hTp := txtP_len ps hpr k
    have hTe : (txtV [] 0 ++ txtP ps k).length = (txtV [] 0).length + (txtP ps k).length := List.length_append
    have hil := Lib.itoa_length_le _ r1 r2
    have hil2 := Lib.itoa_length_le _ r3 r4
    obtain ⟨x, hx⟩ : ∃ x : Int, x = (ps.getD k kpairs.dflt).key := ⟨_, rfl⟩
    obtain ⟨y, hy⟩ : ∃ y : Int, y = (ps.getD k kpairs.dflt).val := ⟨_, rfl⟩
    rw [<- hx] at hcx0 r1 r2 hil
    rw [<- hy] at hcx1 r3 r4 hil2
    have HX := Lib.hid hx
    have HY := Lib.hid hy
    clear hx hy
    go_wp2_with (go_at_call 50; refine (app_int w.heap.size _ x r1 r2 _ _ _ (hown.alloc _) (by simp; omega) (by omega) (hT.on (hnx.alloc hsB' _))).mono ?_; rintro e w5 ⟨v5, rfl, hownA, hnxA, hokA⟩; refine Hid.out ?_)
    ·have hlt : k < ps.length := by assumption
     refine Lib.hid ?_
     have sA := hnxA.size
     simp at sA
     go_wp2_with (at_builtin; refine wpList_append_own _ rfl _ _ 156 rfl w.heap.size 5 i0 (.int .u8 0) 1 1 Tryd.underlying156 hi hz0 hz1 hz2 rfl (by decide) _ _ _ rfl (hownA.alloc _) ⟨w5.heap.size, 0, none⟩ 1 1 [Value.int .u8 61] rfl rfl (by intro j u' hj; match j, hj with | 0, hj => simp at hj; subst hj; simp [Addr.add]) (by intro u' hu'; simp at hu'; subst hu'; rfl) (by unfold maxLen; omega) (by omega) (by simp; omega) ?_)
     intro v6 w6 hownB hgrowB _
     have sB := hgrowB.size
     simp at sB
     have hnx6 : Below w.heap.size w w6 := (((hnx.alloc hsB' _).trans hnxA).alloc (by omega) _).grown hgrowB (by simp; omega) (fun j hj => (hownA.lt j hj).1)
     have hokB : Lib.OthersKept 5 none (wr.alloc (.cells #[.int .i64 x, .int .i64 y] 98)) w6 := (hokA.alloc _).grown hgrowB (Lib.ownsRow_kind (hownA.alloc _))
     have hcB : w6.cell? ⟨wr.heap.size, 1, none⟩ = some (.int .i64 y) := by
      have h1 := hokB wr.heap.size (.cells #[.int .i64 x, .int .i64 y] 98) (by show (wr.heap.push _)[wr.heap.size]? = _; exact Array.getElem?_push_size) (by simp) (fun c fz h => by cases h)
      simp [World.cell?, h1]
     have eB := hnx6.size
     go_wp2_with (go_at_call 50; refine (app_int w.heap.size _ y r3 r4 _ _ w6 hownB eB (by omega) (hT.on hnx6)).mono ?_; rintro e w7 ⟨v7, rfl, hownC, hnxC, hokC⟩; refine Hid.out ?_)
     refine Lib.hid ?_
     have sC := hnxC.size
     go_wp2_with (at_builtin; refine wpList_append_own _ rfl _ _ 156 rfl w.heap.size 5 i0 (.int .u8 0) 1 1 Tryd.underlying156 hi hz0 hz1 hz2 rfl (by decide) _ _ _ rfl (hownC.alloc _) ⟨w7.heap.size, 0, none⟩ 1 1 [Value.int .u8 32] rfl rfl (by intro j u' hj; match j, hj with | 0, hj => simp at hj; subst hj; simp [Addr.add]) (by intro u' hu'; simp at hu'; subst hu'; rfl) (by unfold maxLen; omega) (by omega) (by simp; omega) ?_)
     intro v8 w8 hownD hgrowD _
     have sD := hgrowD.size
     simp at sD
     have hnx8 : Below w.heap.size w w8 := ((hnx6.trans hnxC).alloc (by omega) _).grown hgrowD (by simp; omega) (fun j hj => (hownC.lt j hj).1)
     have hok8 : Lib.OthersKept 5 none w4 w8 := ((((hok.alloc _).trans hokB).trans hokC).alloc _).grown hgrowD (Lib.ownsRow_kind (hownC.alloc _))
     go_wp2
     case roundEnd =>
      have hx := HX.out
      have hy := HY.out
      subst hx hy
      refine ⟨⟨k + 1, by omega, by go_num, ?_, hnx8, by omega, hok8⟩, by simp [intOf]; omega⟩
      refine own_eq hownD ?_ ?_
      ·rw [txtP_succ ps k hlt]; simp [Lib.byteCells]
      ·rw [txtP_succ ps k hlt]; simp; omega
    ·obtain rfl : k = ps.length := by omega
     go_ret
     exact ⟨by rw [txtP_all]; rfl, hnx⟩
 ·go_wp2
  go_loopw [3, 11] (fun v i wr => ∃ k : Nat, k <= vs.length /\ i = .int .i64 k /\ wr.ownsRow w.heap.size 5 1 v (txtV vs k).length (Lib.byteCells (txtV vs k)) /\ Below w.heap.size w wr /\ w1.heap.size <= wr.heap.size /\ Lib.OthersKept 5 none w1 wr)
   (fun _ i _ => vs.length - (intOf i).toNat)
  case atStart => exact ⟨0, Nat.zero_le _, rfl, World.ownsRow_nil _ _ _ _, hnx1, Nat.le_refl _, Lib.OthersKept.refl _ _ _⟩
  case round =>
   obtain ⟨k, hk, rfl, hown, hnx, hsz, hok⟩ := hrel
   have hcx : k < vs.length -> wr.cell? ⟨g, k, none⟩ = some (.int .i64 (vs.getD k kints.dflt).val) := fun hlt => by
    have h1 := hok g _ hg (by simp) (fun c fz h => by cases h)
    have h2 : (vs.map fun x => Value.int .i64 x.val)[k]? = some (.int .i64 (vs.getD k kints.dflt).val) := by simp [List.getD, hlt]
    simp [World.cell?, h1, hcur k _ h2]
   have hsB := hnx.size
   have hr := rangeV hvr k
   have hTl := txtV_len vs hvr k
   have hil := Lib.itoa_length_le _ hr.1 hr.2
   obtain ⟨x, hx⟩ : ∃ x : Int, x = (vs.getD k kints.dflt).val := ⟨_, rfl⟩
   rw [<- hx] at hcx hr hil
   have HX := Lib.hid hx
   clear hx
   go_wp2_with (first
    | (go_at_call 50; refine (app_int w.heap.size _ x hr.1 hr.2 _ _ wr hown hsB (by omega) (hT.on hnx)).mono ?_; rintro e w2 ⟨v2, rfl, hown2, hnx2, hok2⟩)
    | (at_builtin; refine wpList_append_own _ rfl _ _ 156 rfl w.heap.size 5 i0 (.int .u8 0) 1 1 Tryd.underlying156 hi hz0 hz1 hz2 rfl (by decide) _ _ _ rfl (hown2.alloc _) ⟨w2.heap.size, 0, none⟩ 1 1 [Value.int .u8 32] rfl rfl (by intro j u' hj; match j, hj with | 0, hj => simp at hj; subst hj; simp [Addr.add]) (by intro u' hu'; simp at hu'; subst hu'; rfl) (by unfold maxLen; omega) (by omega) (by have := hnx2.size; simp; omega) ?_; intro v3 w3 hown3 hgrow _)
    | (go_at_call 51; refine (hP wr hnx).mono ?_; rintro e w4 ⟨v4, rfl, hown4, hnx4⟩; refine Hid.out ?_))
   case roundEnd =>
    have hlt : k < vs.length := by assumption
    have hnxw2 : Below w.heap.size w w2 := hnx.trans hnx2
    have s2 := hnxw2.size
    refine ⟨⟨k + 1, by omega, by go_num, ?_, (hnxw2.alloc s2 _).grown hgrow (by simp; omega) (fun j hj => (hown2.lt j hj).1), ?_, ((hok.trans hok2).alloc _).grown hgrow (Lib.ownsRow_kind (hown2.alloc _))⟩, by simp [intOf]; omega⟩
    ·have hx := HX.out
     subst hx
     refine own_eq hown3 ?_ ?_
     ·rw [txtV_succ vs k hlt]; simp [Lib.byteCells]
     ·rw [txtV_succ vs k hlt]; simp; omega
    ·have q1 := hgrow.size; have q2 := hnx2.size; simp at q1; omega
   obtain rfl : k = vs.length := by omega
   refine Lib.hid ?_
   have hown5 := own_below hown hnx4
   have hnx5 : Below w.heap.size w w4 := hnx.trans (hnx4.mono hsB)
   obtain ⟨a4, c4, rfl, hA4⟩ := hown4
   rcases hA4 with h04 | ⟨g4, cur4, rfl, hgB4, hg4, hcur4⟩
   ·obtain rfl : ps = [] := List.eq_nil_of_length_eq_zero h04
    have hcv := conv_own hown5
    go_wp2
    refine wp_loop_rounds 1 ?_
    rw [rounds_succ]
    go_wp2
    go_ret
    exact ⟨by rw [txtV_all]; simp, hnx5⟩
   ·go_wp2
    go_loopw [3, 24] (fun v i wr' => ∃ k : Nat, k <= ps.length /\ i = .int .i64 k /\ wr'.ownsRow w.heap.size 5 1 v (txtV vs vs.length ++ txtP ps k).length (Lib.byteCells (txtV vs vs.length ++ txtP ps k)) /\ Below w.heap.size w wr' /\ w4.heap.size <= wr'.heap.size /\ Lib.OthersKept 5 none w4 wr')
     (fun _ i _ => ps.length - (intOf i).toNat)
    case atStart => exact ⟨0, Nat.zero_le _, rfl, by rw [show txtV vs vs.length ++ txtP ps 0 = txtV vs vs.length by simp [txtP]]; exact hown5, hnx5, Nat.le_refl _, Lib.OthersKept.refl _ _ _⟩
    case round =>
     clear hok hnx hown
     obtain ⟨k, hk, rfl, hown, hnx, hsz4, hok⟩ := hrel
     have hcx0 : k < ps.length -> wr.cell? ⟨g4, k * 2, none⟩ = some (.int .i64 (ps.getD k kpairs.dflt).key) := fun hlt => by
      have h1 := hok g4 _ hg4 (by simp) (fun c fz h => by cases h)
      simp [World.cell?, h1, hcur4 _ _ (pair_at ps k hlt).1]
     have hcx1 : k < ps.length -> wr.cell? ⟨g4, k * 2 + 1, none⟩ = some (.int .i64 (ps.getD k kpairs.dflt).val) := fun hlt => by
      have h1 := hok g4 _ hg4 (by simp) (fun c fz h => by cases h)
      simp [World.cell?, h1, hcur4 _ _ (pair_at ps k hlt).2]
     have hsB' := hnx.size
     have hcv := conv_own hown
     obtain ⟨r1, r2, r3, r4⟩ := rangeP hpr k
     have hTl := txtV_len vs hvr vs.length
     have hTp := txtP_len ps hpr k
     have hTe : (txtV vs vs.length ++ txtP ps k).length = (txtV vs vs.length).length + (txtP ps k).length := List.length_append
     have hil := Lib.itoa_length_le _ r1 r2
     have hil2 := Lib.itoa_length_le _ r3 r4
     obtain ⟨x, hx⟩ : ∃ x : Int, x = (ps.getD k kpairs.dflt).key := ⟨_, rfl⟩
     obtain ⟨y, hy⟩ : ∃ y : Int, y = (ps.getD k kpairs.dflt).val := ⟨_, rfl⟩
     rw [<- hx] at hcx0 r1 r2 hil
     rw [<- hy] at hcx1 r3 r4 hil2
     have HX := Lib.hid hx
     have HY := Lib.hid hy
     clear hx hy
     go_wp2_with (go_at_call 50; refine (app_int w.heap.size _ x r1 r2 _ _ _ (hown.alloc _) (by simp; omega) (by omega) (hT.on (hnx.alloc hsB' _))).mono ?_; rintro e w5 ⟨v5, rfl, hownA, hnxA, hokA⟩; refine Hid.out ?_)
     ·have hlt : k < ps.length := by assumption
      refine Lib.hid ?_
      have sA := hnxA.size
      simp at sA
      go_wp2_with (at_builtin; refine wpList_append_own _ rfl _ _ 156 rfl w.heap.size 5 i0 (.int .u8 0) 1 1 Tryd.underlying156 hi hz0 hz1 hz2 rfl (by decide) _ _ _ rfl (hownA.alloc _) ⟨w5.heap.size, 0, none⟩ 1 1 [Value.int .u8 61] rfl rfl (by intro j u' hj; match j, hj with | 0, hj => simp at hj; subst hj; simp [Addr.add]) (by intro u' hu'; simp at hu'; subst hu'; rfl) (by unfold maxLen; omega) (by omega) (by simp; omega) ?_)
      intro v6 w6 hownB hgrowB _
      have sB := hgrowB.size
      simp at sB
      have hnx6 : Below w.heap.size w w6 := (((hnx.alloc hsB' _).trans hnxA).alloc (by omega) _).grown hgrowB (by simp; omega) (fun j hj => (hownA.lt j hj).1)
      have hokB : Lib.OthersKept 5 none (wr.alloc (.cells #[.int .i64 x, .int .i64 y] 98)) w6 := (hokA.alloc _).grown hgrowB (Lib.ownsRow_kind (hownA.alloc _))
      have hcB : w6.cell? ⟨wr.heap.size, 1, none⟩ = some (.int .i64 y) := by
       have h1 := hokB wr.heap.size (.cells #[.int .i64 x, .int .i64 y] 98) (by show (wr.heap.push _)[wr.heap.size]? = _; exact Array.getElem?_push_size) (by simp) (fun c fz h => by cases h)
       simp [World.cell?, h1]
      have eB := hnx6.size
      go_wp2_with (go_at_call 50; refine (app_int w.heap.size _ y r3 r4 _ _ w6 hownB eB (by omega) (hT.on hnx6)).mono ?_; rintro e w7 ⟨v7, rfl, hownC, hnxC, hokC⟩; refine Hid.out ?_)
      refine Lib.hid ?_
      have sC := hnxC.size
      go_wp2_with (at_builtin; refine wpList_append_own _ rfl _ _ 156 rfl w.heap.size 5 i0 (.int .u8 0) 1 1 Tryd.underlying156 hi hz0 hz1 hz2 rfl (by decide) _ _ _ rfl (hownC.alloc _) ⟨w7.heap.size, 0, none⟩ 1 1 [Value.int .u8 32] rfl rfl (by intro j u' hj; match j, hj with | 0, hj => simp at hj; subst hj; simp [Addr.add]) (by intro u' hu'; simp at hu'; subst hu'; rfl) (by unfold maxLen; omega) (by omega) (by simp; omega) ?_)
      intro v8 w8 hownD hgrowD _
      have sD := hgrowD.size
      simp at sD
      have hnx8 : Below w.heap.size w w8 := ((hnx6.trans hnxC).alloc (by omega) _).grown hgrowD (by simp; omega) (fun j hj => (hownC.lt j hj).1)
      have hok8 : Lib.OthersKept 5 none w4 w8 := ((((hok.alloc _).trans hokB).trans hokC).alloc _).grown hgrowD (Lib.ownsRow_kind (hownC.alloc _))
      go_wp2
      case roundEnd =>
       have hx := HX.out
       have hy := HY.out
       subst hx hy
       refine ⟨⟨k + 1, by omega, by go_num, ?_, hnx8, by omega, hok8⟩, by simp [intOf]; omega⟩
       refine own_eq hownD ?_ ?_
       ·rw [txtP_succ ps k hlt]; simp [Lib.byteCells]
       ·rw [txtP_succ ps k hlt]; simp; omega
     ·obtain rfl : k = ps.length := by omega
      go_ret
      exact ⟨by rw [txtV_all, txtP_all]; rfl, hnx⟩
end Go.Proofs.YtpapbhbnaalhcaaDoor
