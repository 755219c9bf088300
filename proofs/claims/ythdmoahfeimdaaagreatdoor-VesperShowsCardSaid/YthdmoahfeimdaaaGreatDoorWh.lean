import Derived.Test.YthdmoahfeimdaaaGreatDoorWp
import Derived.Lib.ItoaLen
import Derived.Test.YthdmoahfeimdaaaGreatDoorSxM
import Derived.WideKeyArgs
import Derived.ChangeSame
import Derived.RowKit
import Derived.RowKit3
import Derived.LaidLaws
import Derived.Deep.DeepHandedRow
import Derived.SevenTiedAt
import Derived.JoinedCond
import Derived.OpenShut
import Derived.Deep.Slices
namespace Go.Proofs.YthdmoahfeimdaaaGreatDoor
open Go Go.Sx Go.Proofs
set_option linter.unusedVariables false
set_option maxRecDepth 100000
abbrev inP (q : Pr) : Prop := inI q.key /\ inI q.val
def stepP (p : List Pr) (m : MV) : T (Ex × MV) := .need (decide (p.length <= 60 /\ m.k <= p.length /\ m.has.length <= 1000 /\ (∀ a ∈ p, inP a) /\ (m.sh = 0 \/ m.sh = 1)))
 (.leaf (if m.k < p.length then (.normal, ⟨m.k + 1, m.has ++ [txP (p.getD m.k kpairs.dflt)], 1⟩) else (.exit 4, m)))
def famPM (e : Nat) (l : List N1) (p : List Pr) (nn : Nat) (m : MV) : St AV := famP e m.sh l p nn p.length m.k m.has.length m.has
theorem catL (a b : Int) (ha : inI a) (hb : inI b) : Nat.ble (strLen ⟨(Lib.itoa a).toArray⟩ + strLen ⟨#[61]⟩) 9223372036854775807 = true /\ Nat.ble (strLen (strCat ⟨(Lib.itoa a).toArray⟩ ⟨#[61]⟩) + strLen ⟨(Lib.itoa b).toArray⟩) 9223372036854775807 = true := by
 have h1 := Lib.itoa_length_le a ha.1 ha.2
 have h2 := Lib.itoa_length_le b hb.1 hb.2
 have e1 : ∀ c, strLen ⟨(Lib.itoa c).toArray⟩ = (Lib.itoa c).length := fun c => by simp [strLen]
 have e2 : strLen ⟨#[61]⟩ = 1 := rfl
 have e3 : strLen (strCat ⟨(Lib.itoa a).toArray⟩ ⟨#[61]⟩) = (Lib.itoa a).length + 1 := by simp [strLen, strCat]
 rw [e1, e2, e3, e1]
 exact ⟨Nat.ble_eq_true_of_le (by omega), Nat.ble_eq_true_of_le (by omega)⟩
theorem stepP_run (σ : Sg) (e : Nat) (he : e = 0 \/ e = 1) (l : List N1) (p : List Pr) (nn : Nat) (m : MV) (q : Ex × MV) (h : (stepP p m).val = some q) :
 ((xc (NV σ) (joinCal (lv (NV σ) tabT 5)) (fun _ => none) 124 LP (famPM e l p nn m)).bind (backS (19 + e) 124 ksP pkW)).val = some (q.1, famPM e l p nn q.2) := by
 replace h := need_some h
 obtain ⟨hb, h⟩ := h
 obtain ⟨h1, h2, h3, h4, h5⟩ := of_decide_eq_true hb
 simp only [T.val, Option.some.injEq] at h
 subst h
 obtain ⟨k, has, sh⟩ := m
 simp only at h2 h3 h5
 have e1 : 0 + (k : Int).toNat = k := by omega
 have hw : IntKind.wrap .i64 ((k : Int) + 1) = ((k + 1 : Nat) : Int) := wrapS (by omega)
 rcases he with rfl | rfl <;> rcases h5 with rfl | rfl
 ·show ((xc (NV σ) (joinCal (lv (NV σ) tabT 5)) (fun _ => none) 124 LP (famP 0 0 l p nn p.length k has.length has)).bind (backS 19 124 ksP pkW)).val = _
  rw [pR00]
  by_cases hlt : k < p.length
  ·have hq := h4 _ (getD_mem hlt kpairs.dflt)
   obtain ⟨c1, c2⟩ := catL _ _ hq.1 hq.2
   rw [ivT (decide_eq_true (by omega)), nv (decide_eq_true (by omega)), e1, nv (decide_eq_true hlt), nv (decide_eq_true hq.1), nv c1, nv (decide_eq_true hq.2), nv c2, nv (fitT rfl h3), hw]
   simp only [if_pos hlt, T.val, famPM, List.length_append, List.length_singleton]
  ·simp only [if_neg hlt]
   rw [ivF (decide_eq_false (by omega))]
   rfl
 ·show ((xc (NV σ) (joinCal (lv (NV σ) tabT 5)) (fun _ => none) 124 LP (famP 0 1 l p nn p.length k has.length has)).bind (backS 19 124 ksP pkW)).val = _
  rw [pR01]
  by_cases hlt : k < p.length
  ·have hq := h4 _ (getD_mem hlt kpairs.dflt)
   obtain ⟨c1, c2⟩ := catL _ _ hq.1 hq.2
   rw [ivT (decide_eq_true (by omega)), nv (decide_eq_true (by omega)), e1, nv (decide_eq_true hlt), nv (decide_eq_true hq.1), nv c1, nv (decide_eq_true hq.2), nv c2, nv (fitT rfl h3), hw]
   simp only [if_pos hlt, T.val, famPM, List.length_append, List.length_singleton]
  ·simp only [if_neg hlt]
   rw [ivF (decide_eq_false (by omega))]
   rfl
 ·show ((xc (NV σ) (joinCal (lv (NV σ) tabT 5)) (fun _ => none) 124 LP (famP 1 0 l p nn p.length k has.length has)).bind (backS 20 124 ksP pkW)).val = _
  rw [pR10]
  by_cases hlt : k < p.length
  ·have hq := h4 _ (getD_mem hlt kpairs.dflt)
   obtain ⟨c1, c2⟩ := catL _ _ hq.1 hq.2
   rw [ivT (decide_eq_true (by omega)), nv (decide_eq_true (by omega)), e1, nv (decide_eq_true hlt), nv (decide_eq_true hq.1), nv c1, nv (decide_eq_true hq.2), nv c2, nv (fitT rfl h3), hw]
   simp only [if_pos hlt, T.val, famPM, List.length_append, List.length_singleton]
  ·simp only [if_neg hlt]
   rw [ivF (decide_eq_false (by omega))]
   rfl
 ·show ((xc (NV σ) (joinCal (lv (NV σ) tabT 5)) (fun _ => none) 124 LP (famP 1 1 l p nn p.length k has.length has)).bind (backS 20 124 ksP pkW)).val = _
  rw [pR11]
  by_cases hlt : k < p.length
  ·have hq := h4 _ (getD_mem hlt kpairs.dflt)
   obtain ⟨c1, c2⟩ := catL _ _ hq.1 hq.2
   rw [ivT (decide_eq_true (by omega)), nv (decide_eq_true (by omega)), e1, nv (decide_eq_true hlt), nv (decide_eq_true hq.1), nv c1, nv (decide_eq_true hq.2), nv c2, nv (fitT rfl h3), hw]
   simp only [if_pos hlt, T.val, famPM, List.length_append, List.length_singleton]
  ·simp only [if_neg hlt]
   rw [ivF (decide_eq_false (by omega))]
   rfl
theorem iterP (p : List Pr) (hl : p.length <= 60) (hr : ∀ a ∈ p, inP a) : ∀ (q k : Nat) (has : List Tx) (sh : Nat), k + q = p.length -> has.length + q <= 1000 -> (sh = 0 \/ sh = 1) ->
 iter (stepP p) (q + 1) ⟨k, has, sh⟩ = some (.exit 4, ⟨p.length, has ++ (p.drop k).map txP, if q = 0 then sh else 1⟩) := by
 intro q
 induction q with
 | zero =>
   intro k has sh hk hh hs
   have e : k = p.length := by omega
   subst e
   rw [iter, stepP, nv (decide_eq_true ⟨hl, Nat.le_refl _, by omega, hr, hs⟩)]
   simp only [T.val, if_neg (Nat.lt_irrefl _), List.drop_length, List.map_nil, List.append_nil, if_true]
 | succ q ih =>
   intro k has sh hk hh hs
   have hlt : k < p.length := by omega
   rw [iter, stepP, nv (decide_eq_true ⟨hl, by show k <= _; omega, by show has.length <= 1000; omega, hr, hs⟩)]
   simp only [T.val, if_pos hlt]
   rw [ih (k + 1) (has ++ [txP (p.getD k kpairs.dflt)]) 1 (by omega) (by simp; omega) (.inr rfl), drop_map_succ txP hlt kpairs.dflt]
   simp
def goP (e : Nat) (l : List N1) (p : List Pr) (n : Nat) (has : List Tx) : T (Ex × St AV) := .ite (decide (p.length = 0)) (.leaf (.exit 4, famP e 0 l p n p.length p.length has.length has)) (.leaf (.exit 4, famP e 1 l p n p.length p.length (has.length + p.length) (has ++ p.map txP)))
def okP (l : List N1) (p : List Pr) (n m m1 : Nat) (m2 : Int) (len : Nat) (has : List Tx) : Bool := decide (m = p.length /\ m1 = m /\ m2 = (m : Int) /\ len = has.length /\ has.length <= 500 /\ p.length <= 60 /\ ∀ a ∈ p, inP a)
def gPl (s : St AV) : T (Ex × St AV) := match s.H with
 | [none, none, none, none, none, none, none, none, none, none, none, none, none, none, some (.abs (.intsA l)), some (.abs (.pairsA p)), some (.cells [.snil, .vs 14 0 n 1 false, .vs 15 0 m 2 false, .il .i64 0, .il .i64 0, .il .i64 0, .il .i64 0, .il .i64 0, .il .i64 0] t1),
     some (.cells [.pnil, .snil] t2), some (.abs (.strs has))] => match Sx.look s.E 3, Sx.look s.E 5, Sx.look s.E 11, Sx.look s.E 78, Sx.look s.E 79, Sx.look s.E 80, Nat.beq t1 28, Nat.beq t2 55 with
   | .v (.c (.ptr 16 0)), .v (.c (.ptr 17 0)), .v (.c (.vs 18 0 len 1 false)), .v (.c (.vs 15 0 m1 2 false)), .v (.c (.it .i64 m2)), .v (.c (.il .i64 0)), true, true => .need (okP l p n m m1 m2 len has) (goP 0 l p n has)
   | _, _, _, _, _, _, _, _ => .fail "pairs"
 | [none, none, none, none, none, none, none, none, none, none, none, none, none, none, some (.abs (.intsA l)), some (.abs (.pairsA p)), some (.cells [.snil, .vs 14 0 n 1 false, .vs 15 0 m 2 false, .il .i64 0, .il .i64 0, .il .i64 0, .il .i64 0, .il .i64 0, .il .i64 0] t1),
     some (.cells [.pnil, .snil] t2), some .dead, some (.abs (.strs has))] => match Sx.look s.E 3, Sx.look s.E 5, Sx.look s.E 11, Sx.look s.E 78, Sx.look s.E 79, Sx.look s.E 80, Nat.beq t1 28, Nat.beq t2 55 with
   | .v (.c (.ptr 16 0)), .v (.c (.ptr 17 0)), .v (.c (.vs 19 0 len 1 false)), .v (.c (.vs 15 0 m1 2 false)), .v (.c (.it .i64 m2)), .v (.c (.il .i64 0)), true, true => .need (okP l p n m m1 m2 len has) (goP 1 l p n has)
   | _, _, _, _, _, _, _, _ => .fail "pairs"
 | _ => .fail "pairs"
theorem goP_spec {e : Nat} {l : List N1} {p : List Pr} {n : Nat} {has : List Tx} {ex : Ex} {s' : St AV} (h : (goP e l p n has).val = some (ex, s')) : ex = .exit 4 /\ s' = famPM e l p n ⟨p.length, has ++ (p.drop 0).map txP, if p.length = 0 then 0 else 1⟩ := by
 unfold goP at h
 by_cases h0 : p.length = 0
 ·rw [decide_eq_true h0, ivT rfl] at h
  simp only [T.val, Option.some.injEq, Prod.mk.injEq] at h
  obtain ⟨rfl, rfl⟩ := h
  have : p = [] := List.eq_nil_of_length_eq_zero h0
  subst this
  simp [famPM]
 ·rw [decide_eq_false h0, ivF rfl] at h
  simp only [T.val, Option.some.injEq, Prod.mk.injEq] at h
  obtain ⟨rfl, rfl⟩ := h
  refine ⟨rfl, ?_⟩
  simp only [famPM, if_neg h0, List.drop_zero, List.length_append, List.length_map]
theorem gPl_ok {σ : Sg} (ht : TabR σ) {N' : Env AV} (hF : N'.F = (NV σ).F) (hG : N'.G = (NV σ).G) : LoopOk Tryz.prog N' 124 LP gPl := by
 have hcal : CalOk Tryz.prog (NV σ) (joinCal (lv (NV σ) tabT 5)) := joinCal_ok (lv_ok okV lpsV hvV (tabT_ok ht) 5)
 refine loopOk_it (N := NV σ) hF hG okV hcal (lp := fun _ => none) (fun _ _ _ g hg => by cases hg) fun s s' ex hgs => ?_
 obtain ⟨E1, H1⟩ := s
 unfold gPl at hgs
 split at hgs
 ·rename_i l p n m t1 t2 has hs
  simp only at hs
  subst hs
  split at hgs
  ·rename_i len m1 m2 e3 e5 e11 e78 e79 e80 et1 et2
   simp only at e3 e5 e11 e78 e79 e80
   have et1 := (beq_iff _ _).1 et1
   have et2 := (beq_iff _ _).1 et2
   subst et1 et2
   replace hgs := need_some hgs
   obtain ⟨hb, hgs⟩ := hgs
   obtain ⟨rfl, rfl, rfl, rfl, hh, hl, hr⟩ := of_decide_eq_true hb
   obtain ⟨rfl, rfl⟩ := goP_spec hgs
   refine ⟨{ M := MV, fam := famPM 0 l p n, step := stepP p, ks := ksP, pk := pkW, hpk := pkW_ok, L := 19, len := rfl, hGL := (by show 14 <= 19; decide), run := stepP_run σ 0 (by decide) l p n, m := ⟨0, has, 0⟩, k := p.length + 1, m' := _, ent := ?_, it := iterP p hl hr p.length 0 has 0 (by omega) (by omega) (.inl rfl), fin := rfl }⟩
   refine enter_pack (N := NV σ) (n := 18) (c := .abs (.strs has)) (c' := .abs (.strs has)) (E' := [(3, .v (.c (.ptr 16 0))), (5, .v (.c (.ptr 17 0))), (11, .v (.c (.vs 18 0 has.length 1 false))), (78, .v (.c (.vs 15 0 p.length 2 false))), (79, .v (.c (.it .i64 p.length))), (80, .v (.c (.it .i64 (0 : Nat))))]) rfl (Lesser.refl _) rfl fun k hk => ?_
   simp only [ksP, List.mem_cons, List.not_mem_nil, or_false] at hk
   rcases hk with rfl | rfl | rfl | rfl | rfl | rfl
   ·exact .inl e3.symm
   ·exact .inl e5.symm
   ·exact .inl e11.symm
   ·exact .inl e78.symm
   ·exact .inl e79.symm
   ·exact .inr ⟨by rw [e80]; rintro ⟨⟩, (plainIl _ _).cl _, fun ρ => by rw [e80]; rfl⟩
  ·simp [T.val] at hgs
 ·rename_i l p n m t1 t2 has hs
  simp only at hs
  subst hs
  split at hgs
  ·rename_i len m1 m2 e3 e5 e11 e78 e79 e80 et1 et2
   simp only at e3 e5 e11 e78 e79 e80
   have et1 := (beq_iff _ _).1 et1
   have et2 := (beq_iff _ _).1 et2
   subst et1 et2
   replace hgs := need_some hgs
   obtain ⟨hb, hgs⟩ := hgs
   obtain ⟨rfl, rfl, rfl, rfl, hh, hl, hr⟩ := of_decide_eq_true hb
   obtain ⟨rfl, rfl⟩ := goP_spec hgs
   refine ⟨{ M := MV, fam := famPM 1 l p n, step := stepP p, ks := ksP, pk := pkW, hpk := pkW_ok, L := 20, len := rfl, hGL := (by show 14 <= 20; decide), run := stepP_run σ 1 (by decide) l p n, m := ⟨0, has, 0⟩, k := p.length + 1, m' := _, ent := ?_, it := iterP p hl hr p.length 0 has 0 (by omega) (by omega) (.inl rfl), fin := rfl }⟩
   refine enter_pack (N := NV σ) (n := 19) (c := .abs (.strs has)) (c' := .abs (.strs has)) (E' := [(3, .v (.c (.ptr 16 0))), (5, .v (.c (.ptr 17 0))), (11, .v (.c (.vs 19 0 has.length 1 false))), (78, .v (.c (.vs 15 0 p.length 2 false))), (79, .v (.c (.it .i64 p.length))), (80, .v (.c (.it .i64 (0 : Nat))))]) rfl (Lesser.refl _) rfl fun k hk => ?_
   simp only [ksP, List.mem_cons, List.not_mem_nil, or_false] at hk
   rcases hk with rfl | rfl | rfl | rfl | rfl | rfl
   ·exact .inl e3.symm
   ·exact .inl e5.symm
   ·exact .inl e11.symm
   ·exact .inl e78.symm
   ·exact .inl e79.symm
   ·exact .inr ⟨by rw [e80]; rintro ⟨⟩, (plainIl _ _).cl _, fun ρ => by rw [e80]; rfl⟩
  ·simp [T.val] at hgs
 ·simp [T.val] at hgs
end Go.Proofs.YthdmoahfeimdaaaGreatDoor

namespace Go.Proofs.YthdmoahfeimdaaaGreatDoor
open Go Go.Sx Go.Proofs
set_option linter.unusedVariables false
set_option maxRecDepth 100000
def lpTell : Lp := lpAdd 8 16 gVl (lpAdd 8 21 gPl noLp)
def hsT : Tx := ⟨⟨#[104, 97, 115]⟩⟩
def itB (n : Int) : ByteArray := ⟨(Lib.itoa n).toArray⟩
def j2 : List UInt8 := joinL [⟨#[108, 101, 102, 116]⟩, itB 0, itB 0, itB 0, itB 0] [32]
def j3 : List UInt8 := joinL [⟨#[115, 116, 101, 112, 115]⟩, itB 0, ⟨#[109, 111, 115, 116]⟩, itB 0] [32]
abbrev fitB (n : Nat) : Bool := decide (n <= 140737488355328)
def nt1 {α : Type} : Nat -> T α -> T α
 | 0, t => t
 | k + 1, t => .need true (nt1 k t)
def txtT (has : List Tx) : List UInt8 := ((((([] : List UInt8) ++ joinL (has.map Tx.val) [32]) ++ [10]) ++ j2 ++ [10]) ++ j3) ++ [10]
def tailT (l : List N1) (p : List Pr) (len : Nat) (has : List Tx) : T (Ex × St AV) :=
 .need (decide (len = has.length /\ 0 < has.length /\ has.length <= 100000)) (.need (fitB (joinL (has.map Tx.val) [32]).length) (.need (fitB (([] : List UInt8).length + (joinL (has.map Tx.val) [32]).length)) (.need (fitB ((([] : List UInt8) ++ joinL (has.map Tx.val) [32]).length + 1))
  (nt1 6 (.need (fitB (((([] : List UInt8) ++ joinL (has.map Tx.val) [32]) ++ [10]).length + j2.length)) (.need (fitB ((((([] : List UInt8) ++ joinL (has.map Tx.val) [32]) ++ [10]) ++ j2).length + 1))
    (nt1 4 (.need (fitB ((((([] : List UInt8) ++ joinL (has.map Tx.val) [32]) ++ [10]) ++ j2 ++ [10]).length + j3.length)) (.need (fitB (((((([] : List UInt8) ++ joinL (has.map Tx.val) [32]) ++ [10]) ++ j2 ++ [10]) ++ j3).length + 1))
      (.need (decide (0 < (txtT has).length)) (.leaf (stV (.v (.c (.sv ⟨(txtT has).toArray⟩)), hpC nM [.abs (.intsA l), .abs (.pairsA p)])))))))))))))
theorem tellR (σ : Sg) (l : List N1) (p : List Pr) (n m : Nat) : runC lpTell σ tabT 8 nM [.v (.c (.il .i64 1)), .v (.agg (rep n m))] [.abs (.intsA l), .abs (.pairsA p)] =
 .need (decide (n = l.length /\ n = n /\ (n : Int) = (n : Int) /\ l.length <= 60 /\ ∀ a ∈ l, inI a.val)) (.ite (decide (l.length = 0))
  (.need (okP l p l.length m m (m : Int) 1 [hsT]) (.ite (decide (p.length = 0)) (tailT l p [hsT].length [hsT]) (tailT l p ([hsT].length + p.length) ([hsT] ++ p.map txP))))
  (.need (okP l p l.length m m (m : Int) (1 + l.length) (hsT :: l.map txV)) (.ite (decide (p.length = 0)) (tailT l p (hsT :: l.map txV).length (hsT :: l.map txV)) (tailT l p ((hsT :: l.map txV).length + p.length) ((hsT :: l.map txV) ++ p.map txP))))) := by kernel_rfl
end Go.Proofs.YthdmoahfeimdaaaGreatDoor

namespace Go.Proofs.YthdmoahfeimdaaaGreatDoor
open Go Go.Sx Go.Proofs
set_option linter.unusedVariables false
set_option maxRecDepth 100000
variable {σ : Sg}
theorem lps_tell (ht : TabR σ) : LpsOk Tryz.prog (NVl lpTell σ) :=
 lpsAdd (lpsAdd lpsV (fn := Tryz.f8) (by kernel_rfl) (c := bodyOf Tryz.f8) (by kernel_rfl) (nt := 124) (by kernel_rfl) (b := LP) (oneLoop_spec (by kernel_rfl)) (gPl_ok ht rfl rfl))
  (fn := Tryz.f8) (by kernel_rfl) (c := bodyOf Tryz.f8) (by kernel_rfl) (nt := 124) (by kernel_rfl) (b := LV) (oneLoop_spec (by kernel_rfl)) (gVl_ok ht rfl rfl)
theorem join_le (s : UInt8) (b : Nat) : ∀ (xs : List (List UInt8)), (∀ x ∈ xs, x.length <= b) -> (Lib.join xs [s]).length <= (b + 1) * xs.length
 | [], _ => by simp [Lib.join, List.intercalate]
 | [x], h => by
   have := h x (by simp)
   simp [Lib.join, List.intercalate]; omega
 | x :: y :: r, h => by
   have h1 := h x (by simp)
   have h2 := join_le s b (y :: r) fun z hz => h z (List.mem_cons_of_mem _ hz)
   have e : Lib.join (x :: y :: r) [s] = x ++ [s] ++ Lib.join (y :: r) [s] := by simp [Lib.join, List.intercalate, List.intersperse]
   rw [e]
   have e3 : (b + 1) * (x :: y :: r).length = (b + 1) * (y :: r).length + (b + 1) := by rw [List.length_cons, Nat.mul_add, Nat.mul_one]
   rw [e3]
   simp only [List.length_append, List.length_singleton]
   omega
def hasT (l : List N1) (p : List Pr) : List Tx := hsT :: (l.map txV ++ p.map txP)
def tellB (l : List N1) (p : List Pr) : List UInt8 := txtT (hasT l p)
theorem txV_le {a : N1} (h : inI a.val) : (txV a).val.data.toList.length <= 50 := by
 have := Lib.itoa_length_le a.val h.1 h.2
 simp [txV, txI]; omega
theorem txP_le {a : Pr} (h : inP a) : (txP a).val.data.toList.length <= 50 := by
 have h1 := Lib.itoa_length_le a.key h.1.1 h.1.2
 have h2 := Lib.itoa_length_le a.val h.2.1 h.2.2
 simp [txP, strCat]; omega
theorem has_le {l : List N1} {p : List Pr} (hl : l.length <= 60) (hp : p.length <= 60) (hr : ∀ a ∈ l, inI a.val) (hq : ∀ a ∈ p, inP a) : (joinL ((hasT l p).map Tx.val) [32]).length <= 51 * 121 := by
 have h := join_le 32 50 (((hasT l p).map Tx.val).map (·.data.toList)) fun x hx => by
  simp only [hasT, List.map_cons, List.mem_cons, List.map_append, List.map_map, List.mem_append, List.mem_map] at hx
  rcases hx with rfl | ⟨a, ha, rfl⟩ | ⟨a, ha, rfl⟩
  ·decide
  ·exact txV_le (hr a ha)
  ·exact txP_le (hq a ha)
 have e : (((hasT l p).map Tx.val).map (·.data.toList)).length <= 121 := by simp [hasT]; omega
 exact Nat.le_trans h (Nat.mul_le_mul_left 51 e)
theorem nt1_val {α : Type} (t : T α) : ∀ k, (nt1 k t).val = t.val
 | 0 => rfl
 | k + 1 => nt1_val t k
theorem fB {n : Nat} (h : n <= 140737488355328) : fitB n = true := decide_eq_true h
theorem tail_val {l : List N1} {p : List Pr} {len : Nat} {has : List Tx} (h1 : len = has.length) (h0 : 0 < has.length) (h2 : has.length <= 1000) (hj : (joinL (has.map Tx.val) [32]).length <= 51 * 121) :
 (tailT l p len has).val = some (stV (.v (.c (.sv ⟨(txtT has).toArray⟩)), hpC nM [.abs (.intsA l), .abs (.pairsA p)])) := by
 have e2 : j2.length <= 100 := by decide +kernel
 have e3 : j3.length <= 100 := by decide +kernel
 unfold tailT
 rw [nv (decide_eq_true ⟨h1, h0, by omega⟩), nv (fB (by omega)), nv (fB (by simp only [List.length_nil]; omega)), nv (fB (by simp only [List.nil_append]; omega)), nt1_val,
  nv (fB (by simp only [List.nil_append, List.length_append, List.length_singleton]; omega)), nv (fB (by simp only [List.nil_append, List.length_append, List.length_singleton]; omega)), nt1_val,
  nv (fB (by simp only [List.nil_append, List.length_append, List.length_singleton]; omega)), nv (fB (by simp only [List.nil_append, List.length_append, List.length_singleton]; omega)),
  nv (decide_eq_true (by simp only [txtT, List.length_append, List.length_singleton]; omega))]
 rfl
theorem tell_val {l : List N1} {p : List Pr} (hl : l.length <= 60) (hp : p.length <= 60) (hr : ∀ a ∈ l, inI a.val) (hq : ∀ a ∈ p, inP a) :
 (runC lpTell σ tabT 8 nM [.v (.c (.il .i64 1)), .v (.agg (rep l.length p.length))] [.abs (.intsA l), .abs (.pairsA p)]).val = some (stV (.v (.c (.sv ⟨(tellB l p).toArray⟩)), hpC nM [.abs (.intsA l), .abs (.pairsA p)])) := by
 have hj := has_le hl hp hr hq
 rw [tellR, nv (decide_eq_true ⟨rfl, rfl, rfl, hl, hr⟩)]
 have ok : ∀ (len : Nat) (has : List Tx), len = has.length -> has.length <= 500 -> okP l p l.length p.length p.length (p.length : Int) len has = true := fun len has h1 h2 => decide_eq_true ⟨rfl, rfl, rfl, h1, h2, hp, hq⟩
 unfold tellB
 by_cases h0 : l.length = 0
 ·have el : l = [] := List.eq_nil_of_length_eq_zero h0
  rw [ivT (decide_eq_true h0), nv (ok 1 [hsT] rfl (by decide))]
  by_cases g0 : p.length = 0
  ·have ep : p = [] := List.eq_nil_of_length_eq_zero g0
   rw [ivT (decide_eq_true g0)]
   have e : hasT l p = [hsT] := by subst el ep; rfl
   rw [e] at hj ⊢
   exact tail_val rfl (by decide) (by decide) hj
  ·rw [ivF (decide_eq_false g0)]
   have e : hasT l p = [hsT] ++ p.map txP := by subst el; rfl
   rw [e] at hj ⊢
   exact tail_val (by simp; omega) (by simp) (by simp; omega) hj
 ·rw [ivF (decide_eq_false h0), nv (ok (1 + l.length) (hsT :: l.map txV) (by simp [Nat.add_comm]) (by simp; omega))]
  by_cases g0 : p.length = 0
  ·have ep : p = [] := List.eq_nil_of_length_eq_zero g0
   rw [ivT (decide_eq_true g0)]
   have e : hasT l p = hsT :: l.map txV := by subst ep; simp [hasT]
   rw [e] at hj ⊢
   exact tail_val rfl (by simp) (by simp; omega) hj
  ·rw [ivF (decide_eq_false g0)]
   have e : hasT l p = (hsT :: l.map txV) ++ p.map txP := rfl
   rw [e] at hj ⊢
   exact tail_val (by simp; omega) (by simp) (by simp; omega) hj
def tellT (args : List SV) (ch : List (Chunk AV)) : T (SV × List (Chunk AV) × List (Chunk AV)) := match args, ch with
 | [.v (.c (.il .i64 1)), .v (.agg [.snil, .vs 14 0 n 1 false, .vs 15 0 m 2 false, .il .i64 0, .il .i64 0, .il .i64 0, .il .i64 0, .il .i64 0, .il .i64 0])], [.abs (.intsA l), .abs (.pairsA p)] =>
   .need (decide (n = l.length /\ m = p.length /\ l.length <= 60 /\ p.length <= 60 /\ (∀ a ∈ l, inI a.val) /\ ∀ a ∈ p, inP a)) (.leaf (.v (.c (.sv ⟨(tellB l p).toArray⟩)), [.abs (.intsA l), .abs (.pairsA p)], []))
 | _, _ => .fail "Tell"
theorem tellT_ok (ht : TabR σ) {lp : Lp} : FnOk Tryz.prog (NVl lp σ) 8 (sumC isS nM tellT) := by
 refine fnOk_env (N := NVl lpTell σ) (N' := NVl lp σ) rfl rfl (sumC_ok isS_ok rfl fun args ch v l' nw h hlen ha hC => ?_)
 unfold tellT at h
 split at h
 ·rename_i n m l p
  replace h := need_some h
  obtain ⟨hb, h⟩ := h
  obtain ⟨rfl, rfl, hl, hp, hr, hq⟩ := of_decide_eq_true hb
  simp only [T.val, Option.some.injEq, Prod.mk.injEq] at h
  obtain ⟨rfl, rfl, rfl⟩ := h
  exact runC_ctr (lps_tell ht) (tabT_ok ht) rfl (tell_val hl hp hr hq) (by rintro ⟨⟩)
 ·simp [T.val] at h
end Go.Proofs.YthdmoahfeimdaaaGreatDoor

namespace Go.Proofs.YthdmoahfeimdaaaGreatDoor
open Go Go.Sx Go.Proofs
set_option linter.unusedVariables false
set_option maxRecDepth 100000
variable {σ : Sg} {lp : Lp}
def wiN {α : Type} (σ : Sg) : List Nat -> T α -> T α
 | [], t => t
 | j :: r, t => .need (decide (σ 3 = σ 3 /\ σ j = σ j)) (wiN σ r t)
theorem wiN_val {α : Type} (σ : Sg) (t : T α) : ∀ l, (wiN σ l t).val = t.val
 | [] => rfl
 | j :: r => by
   rw [wiN, decide_eq_true ⟨rfl, rfl⟩]
   exact wiN_val σ t r
theorem run_awake (σ : Sg) : runC noLp σ (tabW σ) 6 (mkF 6) [] [] =
 nt1 55 (wiN σ [0, 4, 5, 6, 7, 8, 9, 10, 11, 2] (.need (decide (σ 3 = σ 3)) (.need true (.leaf (stV (.v (.c (.bl true)), hpC (mkF 6) [])))))) := by kernel_rfl
theorem awake_val (σ : Sg) : (runC noLp σ (tabW σ) 6 (mkF 6) [] []).val = some (stV (.v (.c (.bl true)), hpC (mkF 6) [])) := by
 rw [run_awake, nt1_val, wiN_val, decide_eq_true rfl]
 rfl
def awakeT (args : List SV) (l : List (Chunk AV)) : T (SV × List (Chunk AV) × List (Chunk AV)) := match args, l with
 | [], [] => .leaf (.v (.c (.bl true)), [], [])
 | _, _ => .fail "awake"
noncomputable def awakeG : List SV -> Hp AV -> T (SV × Hp AV) := sumC isS (mkF 6) awakeT
theorem awakeG_ok (hs : SentR σ) : FnOk Tryz.prog (NVl lp σ) 6 awakeG := by
 refine sumC_ok isS_ok (mkF_len _).symm fun args l v l' nw h hlen ha hC => ?_
 unfold awakeT at h
 split at h
 ·simp only [T.val, Option.some.injEq, Prod.mk.injEq] at h
  obtain ⟨rfl, rfl, rfl⟩ := h
  exact ctr_lp (runC_ctr lpsV (tabW_ok hs) (mkF_len _) (awake_val σ) (by rintro ⟨⟩))
 ·simp [T.val] at h
end Go.Proofs.YthdmoahfeimdaaaGreatDoor

namespace Go.Proofs.YthdmoahfeimdaaaGreatDoor
open Go Go.Sx Go.Proofs
set_option linter.unusedVariables false
set_option maxRecDepth 100000
variable {σ : Sg} {lp : Lp}
abbrev TellF := List N1 -> List Pr -> List UInt8
def tellP (tb : TellF) (args : List SV) (ch : List (Chunk AV)) : T (SV × List (Chunk AV) × List (Chunk AV)) := match args, ch with
 | [.v (.c (.il .i64 1)), .v (.agg [.snil, .vs 14 0 n 1 false, .vs 15 0 m 2 false, .il .i64 0, .il .i64 0, .il .i64 0, .il .i64 0, .il .i64 0, .il .i64 0])], [.abs (.intsA l), .abs (.pairsA p)] =>
   .need (decide (n = l.length /\ m = p.length /\ l.length <= 60 /\ p.length <= 60 /\ (∀ a ∈ l, inI a.val) /\ ∀ a ∈ p, inP a)) (.leaf (.v (.c (.sv ⟨(tb l p).toArray⟩)), [.abs (.intsA l), .abs (.pairsA p)], []))
 | _, _ => .fail "Tell"
noncomputable def tabL (tb : TellF) : Tab := tabAdd 8 (sumC isS nM (tellP tb)) (tabAdd 6 awakeG fun _ => none)
theorem tabL_ok (hs : SentR σ) (ht : TabR σ) : TabOk Tryz.prog (NVl lp σ) (tabL tellB) :=
 tabAdd_ok (tellT_ok ht) (tabAdd_ok (awakeG_ok hs) tab0_ok)
end Go.Proofs.YthdmoahfeimdaaaGreatDoor

namespace Go.Proofs.YthdmoahfeimdaaaGreatDoor
open Go Go.Sx Go.Proofs
set_option linter.unusedVariables false
set_option maxRecDepth 100000
variable {σ : Sg} {lp : Lp}
def ksS : List Nat := [0, 1, 5, 6, 7, 8]
noncomputable def LS : Code := loopAt 11 (loopsOf (bodyOf Tryz.f5))
noncomputable def mS : List Bool := mkF 5
noncomputable def famS (l : List N1) (p : List Pr) (n m : Nat) (bs : List UInt8) (i b s : Int) : St AV :=
 { E := only ksS [(0, .v (.c (.vs 14 0 n 1 false))), (1, .v (.c (.vs 15 0 m 2 false))), (5, .v (.c (.sv ⟨bs.toArray⟩))), (6, .v (.c (.it .i64 b))), (7, .v (.c (.it .i64 s))), (8, .v (.c (.it .i64 i)))] 68,
   H := hpO mS [.intsA l, .pairsA p] }
abbrev byL (bs : List UInt8) (i : Int) : Int := byteI ⟨bs.toArray⟩ i
abbrev inB (bs : List UInt8) (i : Int) : Bool := decide (0 <= i /\ i < (bs.length : Int))
abbrev ltB (bs : List UInt8) (i : Int) : Bool := decide (i < (strLen ⟨bs.toArray⟩ : Int)) == true
theorem sR (σ : Sg) (l : List N1) (p : List Pr) (n m : Nat) (bs : List UInt8) (i b s : Int) : (xc (NV σ) (joinCal (lv (NV σ) (fun _ => none) 5)) (fun _ => none) 68 LS (famS l p n m bs i b s)).bind (backS 16 68 ksS noPk) =
 .need (match ltB bs i with | true => inB bs i | false => true) (.ite (match ltB bs i with | true => byL bs i != 10 | false => false)
  (.need (inB bs i) (.ite (byL bs i == 32)
    (.need (inB bs i) (.ite (byL bs i == 61) (.leaf (.normal, famS l p n m bs (IntKind.wrap .i64 (i + 1)) (IntKind.wrap .i64 (b + 1)) (IntKind.wrap .i64 (s + 1)))) (.leaf (.normal, famS l p n m bs (IntKind.wrap .i64 (i + 1)) (IntKind.wrap .i64 (b + 1)) s))))
    (.need (inB bs i) (.ite (byL bs i == 61) (.leaf (.normal, famS l p n m bs (IntKind.wrap .i64 (i + 1)) b (IntKind.wrap .i64 (s + 1)))) (.leaf (.normal, famS l p n m bs (IntKind.wrap .i64 (i + 1)) b s))))))
  (.leaf (.exit 0, famS l p n m bs i b s))) := by kernel_rfl
structure MS where
 k : Nat
 b : Nat
 s : Nat
def nextS (c : UInt8) (m : MS) : MS := ⟨m.k + 1, if c = 32 then m.b + 1 else m.b, if c = 61 then m.s + 1 else m.s⟩
def goS (m : MS) : List UInt8 -> Ex × MS
 | [] => (.exit 0, m)
 | c :: _ => if c = 10 then (.exit 0, m) else (.normal, nextS c m)
def stepS (bs : List UInt8) (m : MS) : T (Ex × MS) := .need (decide (bs.length <= 100000 /\ m.k <= bs.length /\ m.b <= m.k /\ m.s <= m.k)) (.leaf (goS m (bs.drop m.k)))
noncomputable def famSM (l : List N1) (p : List Pr) (n m : Nat) (bs : List UInt8) (x : MS) : St AV := famS l p n m bs x.k x.b x.s
theorem nth_getElem {α : Type} : ∀ (l : List α) (n : Nat), nth l n = l[n]?
 | [], 0 => rfl
 | [], n + 1 => rfl
 | x :: l, 0 => rfl
 | x :: l, n + 1 => by rw [List.getElem?_cons_succ]; exact nth_getElem l n
theorem by_is {bs : List UInt8} {k : Nat} {c : UInt8} {r : List UInt8} (h : bs.drop k = c :: r) : byL bs k = (c.toNat : Int) /\ k < bs.length := by
 have hk : bs[k]? = some c := by
  have := congrArg (fun l => l[0]?) h
  simpa using this
 refine ⟨?_, (List.getElem?_eq_some_iff.1 hk).1⟩
 unfold byL byteI
 rw [show ((⟨bs.toArray⟩ : ByteArray).data.toList) = bs from rfl, show ((k : Int)).toNat = k from rfl, nth_getElem, hk]
theorem u8_ne {c d : UInt8} : ((c.toNat : Int) == (d.toNat : Int)) = decide (c = d) := by
 by_cases h : c = d
 ·subst h; simp
 ·rw [decide_eq_false h]
  have : c.toNat ≠ d.toNat := fun e => h (UInt8.toNat_inj.1 e)
  exact beq_eq_false_iff_ne.2 (by omega)
theorem stepS_run (σ : Sg) (l : List N1) (p : List Pr) (n m : Nat) (bs : List UInt8) (x : MS) (q : Ex × MS) (h : (stepS bs x).val = some q) :
 ((xc (NV σ) (joinCal (lv (NV σ) (fun _ => none) 5)) (fun _ => none) 68 LS (famSM l p n m bs x)).bind (backS 16 68 ksS noPk)).val = some (q.1, famSM l p n m bs q.2) := by
 replace h := need_some h
 obtain ⟨hb, h⟩ := h
 obtain ⟨h1, h2, h3, h4⟩ := of_decide_eq_true hb
 simp only [T.val, Option.some.injEq] at h
 subst h
 obtain ⟨k, b, s⟩ := x
 simp only at h2 h3 h4
 have hw : ∀ {j : Nat}, j <= k -> IntKind.wrap .i64 ((j : Int) + 1) = ((j + 1 : Nat) : Int) := fun hj => wrapS (by omega)
 unfold famSM
 rw [sR]
 have e32 : (32 : Int) = ((32 : UInt8).toNat : Int) := by decide
 have e61 : (61 : Int) = ((61 : UInt8).toNat : Int) := by decide
 have e10 : (10 : Int) = ((10 : UInt8).toNat : Int) := by decide
 cases hd : bs.drop k with
 | nil =>
   have hk : bs.length <= k := by simpa using hd
   have hl : ltB bs k = false := by
    have : decide ((k : Int) < (strLen ⟨bs.toArray⟩ : Int)) = false := decide_eq_false (by show ¬ (k : Int) < (bs.length : Int); omega)
    unfold ltB; rw [this]; rfl
   simp only [hl]
   rw [nv rfl, ivF rfl]
   simp only [hd, goS, T.val]
 | cons c r =>
   obtain ⟨hb, hk⟩ := by_is hd
   have hl : ltB bs k = true := by
    have : decide ((k : Int) < (strLen ⟨bs.toArray⟩ : Int)) = true := decide_eq_true (by show (k : Int) < (bs.length : Int); omega)
    unfold ltB; rw [this]; rfl
   have hin : inB bs k = true := decide_eq_true (by omega)
   simp only [hl, hin]
   rw [nv rfl, hb]
   have c10 : ((c.toNat : Int) != 10) = !decide (c = 10) := by rw [bne, e10, u8_ne]
   have c32 : ((c.toNat : Int) == 32) = decide (c = 32) := by rw [e32, u8_ne]
   have c61 : ((c.toNat : Int) == 61) = decide (c = 61) := by rw [e61, u8_ne]
   rw [c10, c32, c61]
   simp only [hd, goS]
   by_cases g0 : c = 10
   ·rw [ivF (by rw [decide_eq_true g0]; rfl)]
    simp only [if_pos g0, T.val]
   ·rw [ivT (by rw [decide_eq_false g0]; rfl), nv rfl]
    simp only [if_neg g0, nextS]
    by_cases g1 : c = 32
    ·rw [ivT (decide_eq_true g1), nv rfl]
     by_cases g2 : c = 61
     ·rw [ivT (decide_eq_true g2)]
      simp only [if_pos g1, if_pos g2, T.val, hw (Nat.le_refl k), hw h3, hw h4]
     ·rw [ivF (decide_eq_false g2)]
      simp only [if_pos g1, if_neg g2, T.val, hw (Nat.le_refl k), hw h3, hw h4]
    ·rw [ivF (decide_eq_false g1), nv rfl]
     by_cases g2 : c = 61
     ·rw [ivT (decide_eq_true g2)]
      simp only [if_neg g1, if_pos g2, T.val, hw (Nat.le_refl k), hw h3, hw h4]
     ·rw [ivF (decide_eq_false g2)]
      simp only [if_neg g1, if_neg g2, T.val, hw (Nat.le_refl k), hw h3, hw h4]
def endS (m : MS) : List UInt8 -> MS
 | [] => m
 | c :: r => if c = 10 then m else endS (nextS c m) r
def lenS : List UInt8 -> Nat
 | [] => 0
 | c :: r => if c = 10 then 0 else lenS r + 1
theorem iterS (bs : List UInt8) (hl : bs.length <= 100000) : ∀ (r : List UInt8) (m : MS), bs.drop m.k = r -> m.k <= bs.length -> m.b <= m.k -> m.s <= m.k -> iter (stepS bs) (lenS r + 1) m = some (.exit 0, endS m r)
 | [], m, hd, h1, h2, h3 => by
   rw [lenS, iter, stepS, nv (decide_eq_true ⟨hl, h1, h2, h3⟩)]
   simp only [hd, goS, T.val, endS]
 | c :: r, m, hd, h1, h2, h3 => by
   by_cases g0 : c = 10
   ·rw [lenS, if_pos g0, iter, stepS, nv (decide_eq_true ⟨hl, h1, h2, h3⟩)]
    simp only [hd, goS, if_pos g0, T.val, endS]
   ·obtain ⟨_, hk⟩ := by_is hd
    rw [lenS, if_neg g0, iter, stepS, nv (decide_eq_true ⟨hl, h1, h2, h3⟩)]
    simp only [hd, goS, if_neg g0, T.val, endS]
    refine iterS bs hl r (nextS c m) ?_ (by show m.k + 1 <= _; omega) ?_ ?_
    ·show bs.drop (m.k + 1) = r
     have e : bs.drop (m.k + 1) = (bs.drop m.k).drop 1 := by rw [List.drop_drop]
     rw [e, hd]; rfl
    ·show (if c = 32 then m.b + 1 else m.b) <= m.k + 1
     split <;> omega
    ·show (if c = 61 then m.s + 1 else m.s) <= m.k + 1
     split <;> omega
noncomputable def gSl (s : St AV) : T (Ex × St AV) := match s.H with
 | [some (.abs (.sent 0)), some (.abs (.sent 1)), some (.abs (.sent 2)), some (.abs (.sent 3)), some (.abs (.sent 4)), some (.abs (.sent 5)), some (.abs (.sent 6)), some (.abs (.sent 7)), some (.abs (.sent 8)), some (.abs (.sent 9)), some (.abs (.sent 10)), some (.abs (.sent 11)), some (.abs (.sent 12)), some (.abs (.sent 13)),
     some (.abs (.intsA l)), some (.abs (.pairsA p))] => match Sx.look s.E 0, Sx.look s.E 1, Sx.look s.E 5, Sx.look s.E 6, Sx.look s.E 7, Sx.look s.E 8 with
   | .v (.c (.vs 14 0 n 1 false)), .v (.c (.vs 15 0 m 2 false)), .v (.c (.sv t)), .v (.c (.il .i64 0)), .v (.c (.il .i64 0)), .v (.c (.il .i64 0)) => .need (decide (t.data.toList.length <= 100000))
     (.leaf (.exit 0, famSM l p n m t.data.toList (endS ⟨0, 0, 0⟩ t.data.toList)))
   | _, _, _, _, _, _ => .fail "text"
 | _ => .fail "text"
theorem enter_ks {N : Env AV} {nt : Nat} {E E' : Ev} {H : Hp AV} {ks : List Nat} (hE : ∀ k ∈ ks, Sx.look E' k = Sx.look E k \/ (Sx.look E k ≠ .unk /\ Plain (Sx.look E' k) /\ ∀ ρ, (Sx.look E' k).den ρ = (Sx.look E k).den ρ)) : Enter N nt { E := E, H := H } { E := only ks E' nt, H := H } := by
 refine enter_says ⟨fun k hk => ?_, fun k hk => ?_⟩ rfl
 ·show Sx.look (only ks E' nt) k = _ \/ Sx.look (only ks E' nt) k = _ \/ _
  simp only [only_look, if_pos hk]
  cases hh : hasN ks k with
  | false => exact .inl rfl
  | true =>
    rcases hE k ((hasN_iff _ _).1 hh) with e | ⟨e0, e1, e2⟩
    ·exact .inr (.inl e)
    ·exact .inr (.inr ⟨e0, e1, e2⟩)
 ·show Sx.look (only ks E' nt) k = _
  rw [only_look, if_neg (by omega)]
theorem mS_is : sentL AV.sent 0 mS = [some (.abs (.sent 0)), some (.abs (.sent 1)), some (.abs (.sent 2)), some (.abs (.sent 3)), some (.abs (.sent 4)), some (.abs (.sent 5)), some (.abs (.sent 6)), some (.abs (.sent 7)), some (.abs (.sent 8)), some (.abs (.sent 9)), some (.abs (.sent 10)), some (.abs (.sent 11)), some (.abs (.sent 12)), some (.abs (.sent 13))] := by kernel_rfl
theorem gSl_ok {σ : Sg} {N' : Env AV} (hF : N'.F = (NV σ).F) (hG : N'.G = (NV σ).G) : LoopOk Tryz.prog N' 68 LS gSl := by
 have hcal : CalOk Tryz.prog (NV σ) (joinCal (lv (NV σ) (fun _ => none) 5)) := joinCal_ok (lv_ok okV lpsV hvV tab0_ok 5)
 refine loopOk_it (N := NV σ) hF hG okV hcal (lp := fun _ => none) (fun _ _ _ g hg => by cases hg) fun s s' ex hgs => ?_
 obtain ⟨E1, H1⟩ := s
 unfold gSl at hgs
 split at hgs
 ·rename_i l p hs
  simp only at hs
  subst hs
  split at hgs
  ·rename_i n m t e0 e1 e5 e6 e7 e8
   simp only at e0 e1 e5 e6 e7 e8
   replace hgs := need_some hgs
   obtain ⟨hb, hgs⟩ := hgs
   have hl := of_decide_eq_true hb
   simp only [T.val, Option.some.injEq, Prod.mk.injEq] at hgs
   obtain ⟨rfl, rfl⟩ := hgs
   refine ⟨{ M := MS, fam := famSM l p n m t.data.toList, step := stepS t.data.toList, ks := ksS, pk := noPk, hpk := (fun d a h => by cases h), L := 16, len := rfl, hGL := (by show 14 <= 16; decide), run := stepS_run σ l p n m t.data.toList, m := ⟨0, 0, 0⟩, k := _, m' := _, ent := ?_, it := iterS _ hl _ ⟨0, 0, 0⟩ rfl (Nat.zero_le _) (Nat.le_refl _) (Nat.le_refl _), fin := rfl }⟩
   have eH : (famSM l p n m t.data.toList ⟨0, 0, 0⟩).H = [some (.abs (.sent 0)), some (.abs (.sent 1)), some (.abs (.sent 2)), some (.abs (.sent 3)), some (.abs (.sent 4)), some (.abs (.sent 5)), some (.abs (.sent 6)), some (.abs (.sent 7)), some (.abs (.sent 8)), some (.abs (.sent 9)), some (.abs (.sent 10)), some (.abs (.sent 11)), some (.abs (.sent 12)), some (.abs (.sent 13)),
    some (.abs (.intsA l)), some (.abs (.pairsA p))] := by
    show sentL AV.sent 0 mS ++ absL [.intsA l, .pairsA p] = _
    rw [mS_is]; rfl
   have := enter_ks (N := NV σ) (nt := 68) (E := E1) (H := (famSM l p n m t.data.toList ⟨0, 0, 0⟩).H) (ks := ksS) (E' := [(0, .v (.c (.vs 14 0 n 1 false))), (1, .v (.c (.vs 15 0 m 2 false))), (5, .v (.c (.sv ⟨t.data.toList.toArray⟩))), (6, .v (.c (.it .i64 (0 : Nat)))), (7, .v (.c (.it .i64 (0 : Nat)))), (8, .v (.c (.it .i64 (0 : Nat))))]) fun k hk => ?_
   ·rw [<- eH]; exact this
   ·simp only [ksS, List.mem_cons, List.not_mem_nil, or_false] at hk
    rcases hk with rfl | rfl | rfl | rfl | rfl | rfl
    ·exact .inl e0.symm
    ·exact .inl e1.symm
    ·exact .inl e5.symm
    ·exact .inr ⟨by rw [e6]; rintro ⟨⟩, plainIl _ _, fun ρ => by rw [e6]; rfl⟩
    ·exact .inr ⟨by rw [e7]; rintro ⟨⟩, plainIl _ _, fun ρ => by rw [e7]; rfl⟩
    ·exact .inr ⟨by rw [e8]; rintro ⟨⟩, plainIl _ _, fun ρ => by rw [e8]; rfl⟩
  ·simp [T.val] at hgs
 ·simp [T.val] at hgs
end Go.Proofs.YthdmoahfeimdaaaGreatDoor

namespace Go.Proofs.YthdmoahfeimdaaaGreatDoor
open Go Go.Sx Go.Proofs
set_option linter.unusedVariables false
set_option maxRecDepth 100000
noncomputable def lpS : Lp := lpAdd 5 11 gSl noLp
theorem showsR (σ : Sg) (tb : TellF) (l : List N1) (p : List Pr) (n m : Nat) : runC lpS σ (tabL tb) 5 mS [.v (.c (.vs 14 0 n 1 false)), .v (.c (.vs 15 0 m 2 false))] [.abs (.intsA l), .abs (.pairsA p)] =
 .ite (match decide ((n : Int) > 60) == false with | true => decide ((m : Int) > 60) | false => true) (.leaf (stV (.v (.c (.bl true)), hpO mS [.intsA l, .pairsA p])))
  (.need (decide (n = l.length /\ m = p.length /\ l.length <= 60 /\ p.length <= 60 /\ (∀ a ∈ l, inI a.val) /\ ∀ a ∈ p, inP a))
    (.need (match decide ((strLen ⟨(tb l p).toArray⟩ : Int) < 4) == false with | true => decide ((0 : Int) <= 0 /\ (0 : Int) <= 3 /\ (3 : Int) <= (strLen ⟨(tb l p).toArray⟩ : Int)) | false => true)
      (.ite (match decide ((strLen ⟨(tb l p).toArray⟩ : Int) < 4) == false with | true => !strEq (cutTx ⟨(tb l p).toArray⟩ 0 3) ⟨#[104, 97, 115]⟩ | false => true) (.leaf (stV (.v (.c (.bl false)), hpO mS [.intsA l, .pairsA p])))
        (.need (decide ((tb l p).length <= 100000)) (.leaf (stV (.v (.c (.bt (match (((endS ⟨0, 0, 0⟩ (tb l p)).b : Int) == IntKind.wrap .i64 ((n : Int) + (m : Int))) == true with | true => (((endS ⟨0, 0, 0⟩ (tb l p)).s : Int) == (m : Int)) | false => false))), hpO mS [.intsA l, .pairsA p]))))))) := by kernel_rfl
end Go.Proofs.YthdmoahfeimdaaaGreatDoor

namespace Go.Sx
open Go
set_option linter.unusedVariables false
def partB (c : UInt8) : Bool := c == 32 || (c == 61 || c == 10)
theorem digit_part {i : Nat} (h : i < 10) : partB (UInt8.ofNat (48 + i)) = false := by
 have : ∀ i : Fin 10, partB (UInt8.ofNat (48 + i.val)) = false := by decide
 exact this ⟨i, h⟩
theorem dec_part : ∀ (u : Nat), ∀ c ∈ Lib.decDigits u, partB c = false := by
 intro u
 induction u using Nat.strongRecOn with
 | _ u ih =>
   intro c hc
   rw [Lib.decDigits] at hc
   split at hc
   ·rw [List.mem_singleton.1 hc]; exact digit_part (by assumption)
   ·rcases List.mem_append.1 hc with h | h
    ·exact ih _ (by omega) c h
    ·rw [List.mem_singleton.1 h]; exact digit_part (by omega)
theorem itoa_part (n : Int) : ∀ c ∈ Lib.itoa n, partB c = false := by
 intro c hc
 unfold Lib.itoa at hc
 split at hc
 ·rcases List.mem_cons.1 hc with rfl | h
  ·decide
  ·exact dec_part _ c h
 ·exact dec_part _ c hc
def scanB : List UInt8 -> Nat × Nat
 | [] => (0, 0)
 | c :: l => if c = 10 then (0, 0) else ((if c = 32 then 1 else 0) + (scanB l).1, (if c = 61 then 1 else 0) + (scanB l).2)
theorem scanB_32 (l : List UInt8) : scanB (32 :: l) = (1 + (scanB l).1, (scanB l).2) := by
 show (if (32 : UInt8) = 10 then (0, 0) else ((if (32 : UInt8) = 32 then 1 else 0) + (scanB l).1, (if (32 : UInt8) = 61 then 1 else 0) + (scanB l).2)) = _
 rw [if_neg (by decide), if_pos rfl, if_neg (by decide), Nat.zero_add]
theorem scanB_61 (l : List UInt8) : scanB (61 :: l) = ((scanB l).1, 1 + (scanB l).2) := by
 show (if (61 : UInt8) = 10 then (0, 0) else ((if (61 : UInt8) = 32 then 1 else 0) + (scanB l).1, (if (61 : UInt8) = 61 then 1 else 0) + (scanB l).2)) = _
 rw [if_neg (by decide), if_neg (by decide), if_pos rfl, Nat.zero_add]
theorem scanB_word : ∀ {w : List UInt8}, (∀ c ∈ w, partB c = false) -> ∀ l, scanB (w ++ l) = scanB l
 | [], _, l => rfl
 | c :: w, h, l => by
   have hc := h c List.mem_cons_self
   have h1 : ¬ c = 10 := fun e => by subst e; cases hc
   have h2 : ¬ c = 32 := fun e => by subst e; cases hc
   have h3 : ¬ c = 61 := fun e => by subst e; cases hc
   rw [List.cons_append, scanB, if_neg h1, if_neg h2, if_neg h3, scanB_word (fun x hx => h x (List.mem_cons_of_mem _ hx)) l, Nat.zero_add, Nat.zero_add]
def valW (v : Int) : List UInt8 := 32 :: Lib.itoa v
def pairW (p : Int × Int) : List UInt8 := 32 :: (Lib.itoa p.1 ++ 61 :: Lib.itoa p.2)
def hasW (vals : List Int) (pairs : List (Int × Int)) : List UInt8 := [104, 97, 115] ++ (vals.flatMap valW ++ (pairs.flatMap pairW ++ [10]))
theorem scanB_vals : ∀ (vals : List Int) (l : List UInt8), scanB (vals.flatMap valW ++ l) = (vals.length + (scanB l).1, (scanB l).2)
 | [], l => by simp
 | v :: vals, l => by
   rw [List.flatMap_cons, List.append_assoc, show valW v ++ (vals.flatMap valW ++ l) = 32 :: (Lib.itoa v ++ (vals.flatMap valW ++ l)) from rfl, scanB_32, scanB_word (itoa_part v), scanB_vals vals l]
   simp; omega
theorem scanB_pairs : ∀ (pairs : List (Int × Int)) (l : List UInt8), scanB (pairs.flatMap pairW ++ l) = (pairs.length + (scanB l).1, pairs.length + (scanB l).2)
 | [], l => by simp
 | p :: pairs, l => by
   have e : pairW p ++ (pairs.flatMap pairW ++ l) = 32 :: (Lib.itoa p.1 ++ 61 :: (Lib.itoa p.2 ++ (pairs.flatMap pairW ++ l))) := by simp [pairW]
   rw [List.flatMap_cons, List.append_assoc, e, scanB_32, scanB_word (itoa_part p.1), scanB_61, scanB_word (itoa_part p.2), scanB_pairs pairs l]
   simp; omega
theorem scan_has (vals : List Int) (pairs : List (Int × Int)) (l : List UInt8) : scanB (hasW vals pairs ++ l) = (vals.length + pairs.length, pairs.length) := by
 unfold hasW
 rw [List.append_assoc, scanB_word (by decide), List.append_assoc, scanB_vals, List.append_assoc, scanB_pairs]
 simp [scanB]
end Go.Sx

namespace Go.Proofs.YthdmoahfeimdaaaGreatDoor
open Go Go.Sx Go.Proofs
set_option linter.unusedVariables false
set_option maxRecDepth 100000
theorem endS_scan : ∀ (bs : List UInt8) (m : MS), (endS m bs).b = m.b + (scanB bs).1 /\ (endS m bs).s = m.s + (scanB bs).2
 | [], m => ⟨rfl, rfl⟩
 | c :: r, m => by
   by_cases h : c = 10
   ·simp [endS, scanB, if_pos h]
   ·have ih := endS_scan r (nextS c m)
    rw [endS, if_neg h, scanB, if_neg h, ih.1, ih.2]
    constructor
    ·show (if c = 32 then m.b + 1 else m.b) + _ = _
     split <;> simp <;> omega
    ·show (if c = 61 then m.s + 1 else m.s) + _ = _
     split <;> simp <;> omega
theorem join_flat (s : UInt8) (x : List UInt8) : ∀ (xs : List (List UInt8)), Lib.join (x :: xs) [s] = x ++ xs.flatMap fun y => s :: y := by
 intro xs
 induction xs generalizing x with
 | nil => simp [Lib.join, List.intercalate]
 | cons y r ih =>
   have e : Lib.join (x :: y :: r) [s] = x ++ [s] ++ Lib.join (y :: r) [s] := by simp [Lib.join, List.intercalate, List.intersperse]
   rw [e, ih]; simp
theorem tell_is (l : List N1) (p : List Pr) : ∃ r, tellB l p = hasW (l.map (·.val)) (p.map fun a => (a.key, a.val)) ++ r := by
 have e : joinL ((hasT l p).map Tx.val) [32] ++ [10] = hasW (l.map (·.val)) (p.map fun a => (a.key, a.val)) := by
  show Lib.join (((hasT l p).map Tx.val).map (·.data.toList)) [32] ++ [10] = _
  have e1 : ((hasT l p).map Tx.val).map (·.data.toList) = [104, 97, 115] :: (l.map (fun a => Lib.itoa a.val) ++ p.map fun a => Lib.itoa a.key ++ 61 :: Lib.itoa a.val) := by
   simp only [hasT, List.map_cons, List.map_append, List.map_map]
   refine congrArg (List.cons [104, 97, 115]) ?_
   refine congr (congrArg _ (List.map_congr_left fun a _ => rfl)) (List.map_congr_left fun a _ => ?_)
   simp [txP, strCat]
  rw [e1, join_flat]
  simp [hasW, List.flatMap_append, List.flatMap_map]
  constructor <;> rfl
 refine ⟨j2 ++ ([10] ++ (j3 ++ [10])), ?_⟩
 rw [<- e]
 unfold tellB txtT
 simp only [List.nil_append, List.append_assoc]
end Go.Proofs.YthdmoahfeimdaaaGreatDoor

namespace Go.Sx
open Go.ChangeShapes Go.WideShapes Go.RowKit
theorem Quiet.same {W W' : World} (h : Quiet W W') {p : MemPlace} (hp : p.block < W.heap.size) : W.sameAt W' p := by
 cases p with
 | cell b off =>
   have := h.block b hp
   simp only [World.sameAt, World.cell?, this]
 | map b => exact h.block b hp
theorem Quiet.frozen {W W' : World} (h : Quiet W W') (a : Addr) (ha : a.block < W.heap.size) : W'.frozen? a = W.frozen? a := by
 simp only [World.frozen?, h.block a.block ha]
theorem Quiet.kept {W W' : World} (h : Quiet W W') (may : MemPlace -> Prop) : W.keptBut W' may := by
 refine ⟨h.os, h.output, fun i hi => ?_⟩
 rw [h.block i hi]
 cases hx : W.heap[i]? with
 | none => trivial
 | some o => cases o <;> simp
section
variable {H : Type} {enc : TypeId × Value -> H} {P : Program}
theorem trodAll_stays (hl : laidOutB P = true) {W W' : World} {sp' : Nat -> Bool} : ∀ {ts : List TypeId} {vs : List Value} {ds : List (DataW H)} {ps : List MemPlace}, (∀ t ∈ ts, P.readableRec t = true /\ t < P.types.size) ->
 DataW.TrodAll enc P W 0 (fun _ => true) true ts vs ds ps -> (∀ p ∈ ps, W.sameAt W' p) -> (∀ p ∈ ps, sp' p.block = true) -> DataW.TrodAll enc P W' 0 sp' true ts vs ds ps
 | [], [], [], _, _, h, _, _ => h
 | t :: ts, v :: vs, d :: ds, ps, ht, h, hs, hsp => by
   obtain ⟨p, q, h1, h2, rfl⟩ := h
   have := ht t (List.mem_cons_self ..)
   refine ⟨p, q, WideElems.Trod_stays hl this.1 this.2 h1 (fun x hx => hs x (List.mem_append_left _ hx)) (fun x hx => hsp x (List.mem_append_left _ hx)), ?_, rfl⟩
   exact trodAll_stays hl (fun x hx => ht x (List.mem_cons_of_mem _ hx)) h2 (fun x hx => hs x (List.mem_append_right _ hx)) (fun x hx => hsp x (List.mem_append_right _ hx))
 | [], [], _ :: _, _, _, h, _, _ => by simp [DataW.TrodAll] at h
 | [], _ :: _, _, _, _, h, _, _ => by simp [DataW.TrodAll] at h
 | _ :: _, [], _, _, _, h, _, _ => by simp [DataW.TrodAll] at h
 | _ :: _, _ :: _, [], _, _, h, _, _ => by simp [DataW.TrodAll] at h
theorem post_of_quiet (hl : laidOutB P = true) {f : Func} {s : ChangeSpec} {apart fresh handsOn again : Bool} {W W' : World} {args : Array Value} {ds gs : List (DataW H)} {before : List MemPlace} {tb : TypeId}
 (hvars : s.vars = []) (hpar : ∀ t ∈ f.params.toList, P.readableRec t = true /\ t < P.types.size) (hres : f.resultTypes = #[tb]) (htb : P.underlying tb = some .bool)
 (hW : DataW.Whole enc P f.params.toList s.vars apart W args.toList ds gs before)
 (hspec : s.fn H ds = { results := [.lit (.bool true)], args := ds }) (hq : Quiet W W') :
 s.post enc P f apart fresh handsOn again W args (.bool true) W' := by
 have hW' := hW
 obtain ⟨p, q, hA, hV, rfl, hfz, hnd⟩ := hW
 rw [hvars] at hV
 obtain ⟨rfl, rfl⟩ := trodVars_none hV
 have hlt := hW'.lt
 simp only [List.append_nil] at hW' hlt hfz
 have hspec' : s.fn H (ds ++ []) = { results := [.lit (.bool true)], args := ds } := by rw [List.append_nil]; exact hspec
 have hok := ok_one (P := P) (W' := W') (f := f) (v := .bool true) hres rfl (okWide_bool_mk htb true)
 have hold : ∀ p' ∈ p, (fun b => decide (b < W.heap.size)) p'.block = true := fun p' hp => by simpa using hlt p' hp
 have hargs : ∀ sp : Nat -> Bool, (∀ x ∈ p, sp x.block = true) -> DataW.TrodAll enc P W' 0 sp true f.params.toList args.toList (s.fn H (ds ++ [])).args p := by
  intro sp hsp
  rw [hspec']
  exact trodAll_stays hl hpar hA (fun x hx => hq.same (hlt x hx)) hsp
 have hres' : ∀ (b : Nat) (sp : Nat -> Bool) (hd : Bool), DataW.TrodAll enc P W' b sp hd f.resultTypes.toList ((Value.bool true).resultList f.resultTypes.size) (s.fn H (ds ++ [])).results [] := by
  intro b sp hd
  rw [hspec', hres]
  exact ⟨[], [], shut_bool htb _, rfl, rfl⟩
 have hvars' : ∀ sp : Nat -> Bool, DataW.TrodVars enc P W' sp s.vars (s.fn H (ds ++ [])).vars [] := by
  intro sp
  rw [hspec', hvars]
  exact rfl
 refine ⟨ds, [], p, [], p, [], hW', hres' _ _ _, hargs _ hold, hvars' _, World.keptBut_mono (fun x hx => ⟨hx, Or.inr (by simpa using hx)⟩) (hq.kept _), fun _ => ?_⟩
 obtain ⟨_, _, _, _, _, hz, hn⟩ := hW'
 refine ⟨hok, _, _, ([] ++ p) ++ [], ⟨[] ++ p, [], trodAll_append (hargs _ (fun _ _ => rfl)) (hres' _ _ _), hvars' _, rfl, ?_, ?_⟩, ?_⟩
 ·intro b off hp
  simp only [List.nil_append, List.append_nil] at hp
  rw [hq.frozen _ (hlt _ hp)]
  exact hfz b off hp
 ·intro ha
  simpa using hnd ha
 ·intro x hx _
  simpa using hx
end
structure SentTy (P : Program) (ti tp te ts : TypeId) : Prop where
 hi : ∃ ms, P.underlying ti = some (.interface ms)
 row : ∀ u, P.typeName? 3 u = some "*errors.errorString" -> u = tp
 hp : P.underlying tp = some (.pointer te)
 he : ∃ f : Field, P.underlying te = some (.struct #[f]) /\ f.type = ts /\ f.offset = 0
 hs : P.underlying ts = some .string
 hc : P.cellsOf te = 1
 hcs : P.cellsOf ts = 1
def sent (text : List UInt8) : DataW Unit := .iface "*errors.errorString" (.ptr (.agg [.lit (.string text)]))
end Go.Sx

namespace Go.Sx
open Go.ChangeShapes Go.WideShapes
def flatOk : List FK -> List Value -> Prop
 | [], [] => True
 | .bool :: ks, .bool _ :: vs => flatOk ks vs
 | .int k :: ks, .int k' _ :: vs => k' = k /\ flatOk ks vs
 | .str :: ks, .string _ :: vs => flatOk ks vs
 | _, _ => False
theorem flatOk_append : ∀ {ks ks' : List FK} {vs vs' : List Value}, flatOk ks vs -> flatOk ks' vs' -> flatOk (ks ++ ks') (vs ++ vs')
 | [], _, [], _, _, h' => h'
 | [], _, _ :: _, _, h, _ => by simp [flatOk] at h
 | k :: _, _, [], _, h, _ => by cases k <;> simp [flatOk] at h
 | k :: ks, ks', v :: vs, vs', h, h' => by
   cases k <;> cases v <;> first | exact flatOk_append (ks := ks) (vs := vs) h h' | exact ⟨h.1, flatOk_append (ks := ks) (vs := vs) h.2 h'⟩ | exact absurd h (by simp [flatOk])
theorem cellsOf_size {P : Program} {t : TypeId} {n : Nat} (h : sizeT P t = some n) : P.cellsOf t = n := by
 unfold sizeT at h
 unfold Program.cellsOf
 cases hi : P.info? t with
 | none => rw [hi] at h; cases h
 | some i => rw [hi] at h; cases h; rfl
section
variable {H : Type} {enc : TypeId × Value -> H} {P : Program} {w : World} {base : Nat} {sp : Nat -> Bool} {held : Bool}
theorem flat_fields {rec : TypeId -> Option (List FK)} {cs : List Value} {n : Nat}
 (hrec : ∀ t ks vs x, rec t = some ks -> DataW.trod enc P w base sp held n t vs = some x -> P.cellsOf t = ks.length -> flatOk ks vs) :
 ∀ (fs : List Field) (off : Nat) (ks : List FK), flatFs P rec fs off = some ks -> (∀ f ∈ fs, ∃ y, DataW.trod enc P w base sp held n f.type ((cs.drop f.offset).take (P.cellsOf f.type)) = some y) -> flatOk ks ((cs.drop off).take ks.length)
 | [], off, ks, h, _ => by
   simp only [flatFs, Option.some.injEq] at h
   subst h
   simp [flatOk]
 | f :: fs, off, ks, h, hf => by
   simp only [flatFs] at h
   split at h
   ·cases h
   ·split at h
    ·cases h
    ·rename_i hoff
     have hoff := (beq_iff _ _).1 hoff
     split at h
     ·cases h
     ·rename_i k1 hk1
      split at h
      ·cases h
      ·rename_i m hm
       split at h
       ·cases h
       ·rename_i hlen
        have hlen := (beq_iff _ _).1 hlen
        split at h
        ·rename_i l hl
         cases h
         have hc := cellsOf_size hm
         obtain ⟨y, hy⟩ := hf f (List.mem_cons_self ..)
         have h1 := hrec f.type k1 _ y hk1 hy (hc.trans hlen)
         rw [hoff, hc, hlen] at h1
         have h2 := flat_fields hrec fs (off + m) l hl (fun g hg => hf g (List.mem_cons_of_mem _ hg))
         have e : (cs.drop off).take (k1 ++ l).length = (cs.drop off).take k1.length ++ (cs.drop (off + m)).take l.length := by
          rw [List.length_append, List.take_add, List.drop_drop, hlen]
         rw [e]
         exact flatOk_append h1 h2
        ·cases h
theorem trod_flat : ∀ (d n : Nat) (t : TypeId) (ks : List FK) (cs : List Value) (x : DataW H × List MemPlace), flatT P d t = some ks -> DataW.trod enc P w base sp held n t cs = some x -> P.cellsOf t = ks.length -> flatOk ks cs
 | 0, _, _, _, _, _, h, _, _ => by simp [flatT] at h
 | d + 1, n, t, ks, cs, x, h, ht, hc => by
   simp only [flatT] at h
   split at h
   ·rename_i hu
    cases h
    obtain ⟨b, rfl, _⟩ := DataW.trod_bool hu ht
    simp [flatOk]
   ·rename_i k hu
    cases h
    obtain ⟨m, rfl, _⟩ := DataW.trod_int hu ht
    simp [flatOk]
   ·rename_i hu
    cases h
    obtain ⟨m, rfl, _⟩ := DataW.trod_string hu ht
    simp [flatOk]
   ·rename_i fs hu
    split at h
    ·cases h
    ·obtain ⟨xs, m, rfl, _, hl, hxl, hx⟩ := DataW.trod_struct hu ht
     have := flat_fields (H := H) (enc := enc) (w := w) (base := base) (sp := sp) (held := held) (n := m) (cs := cs) (fun t ks vs x h1 h2 h3 => trod_flat d m t ks vs x h1 h2 h3) fs.toList 0 ks h (fun f hf => by
      obtain ⟨i, hi⟩ := List.mem_iff_getElem?.1 hf
      have hi' : fs[i]? = some f := by simpa using hi
      have hlt : i < xs.length := by rw [hxl]; exact (Array.getElem?_eq_some_iff.1 hi').1
      exact ⟨xs[i], by rw [hx i f hi', List.getElem?_eq_getElem hlt]⟩)
     rw [List.drop_zero, List.take_of_length_le (by omega)] at this
     exact this
   ·rename_i len e hu
    split at h
    ·rename_i sz hs
     obtain ⟨xs, m, rfl, _, hl, hxl, hx⟩ := DataW.trod_array hu ht
     have := flat_fields (H := H) (enc := enc) (w := w) (base := base) (sp := sp) (held := held) (n := m) (cs := cs) (fun t ks vs x h1 h2 h3 => trod_flat d m t ks vs x h1 h2 h3) (arrFs e sz len 0) 0 ks h (fun f hf => by
      rw [arrFs_eq] at hf
      obtain ⟨i, hi, rfl⟩ := List.mem_map.1 hf
      have hi : i < len := by simpa using List.mem_range'_1.1 hi
      have hlt : i < xs.length := by omega
      have hx := hx i hi
      rw [cellsOf_size hs] at hx
      exact ⟨xs[i], by simp only [arrFd]; rw [cellsOf_size hs, hx, List.getElem?_eq_getElem hlt]⟩)
     rw [List.drop_zero, List.take_of_length_le (by omega)] at this
     exact this
    ·cases h
   ·cases h
end
end Go.Sx

namespace Go.Sx
open Go.ChangeShapes Go.WideShapes
def flatW (vs : List Value) : Prop := ∀ v ∈ vs, ∀ k n, v = .int k n -> (Lit.int k n).wf = true
theorem flatW_append {vs vs' : List Value} (h : flatW vs) (h' : flatW vs') : flatW (vs ++ vs') := fun v hv => by
 rcases List.mem_append.1 hv with g | g
 ·exact h v g
 ·exact h' v g
section
variable {H : Type} {enc : TypeId × Value -> H} {P : Program} {w : World} {base : Nat} {sp : Nat -> Bool} {held : Bool}
theorem flatW_fields {rec : TypeId -> Option (List FK)} {cs : List Value} {n : Nat}
 (hrec : ∀ t ks vs x, rec t = some ks -> DataW.trod enc P w base sp held n t vs = some x -> P.cellsOf t = ks.length -> flatW vs) :
 ∀ (fs : List Field) (off : Nat) (ks : List FK), flatFs P rec fs off = some ks -> (∀ f ∈ fs, ∃ y, DataW.trod enc P w base sp held n f.type ((cs.drop f.offset).take (P.cellsOf f.type)) = some y) -> flatW ((cs.drop off).take ks.length)
 | [], off, ks, h, _ => by
   simp only [flatFs, Option.some.injEq] at h
   subst h
   intro v hv; simp at hv
 | f :: fs, off, ks, h, hf => by
   simp only [flatFs] at h
   split at h
   ·cases h
   ·split at h
    ·cases h
    ·rename_i hoff
     have hoff := (beq_iff _ _).1 hoff
     split at h
     ·cases h
     ·rename_i k1 hk1
      split at h
      ·cases h
      ·rename_i m hm
       split at h
       ·cases h
       ·rename_i hlen
        have hlen := (beq_iff _ _).1 hlen
        split at h
        ·rename_i l hl
         cases h
         have hc := cellsOf_size hm
         obtain ⟨y, hy⟩ := hf f (List.mem_cons_self ..)
         have h1 := hrec f.type k1 _ y hk1 hy (hc.trans hlen)
         rw [hoff, hc, hlen] at h1
         have h2 := flatW_fields hrec fs (off + m) l hl (fun g hg => hf g (List.mem_cons_of_mem _ hg))
         have e : (cs.drop off).take (k1 ++ l).length = (cs.drop off).take k1.length ++ (cs.drop (off + m)).take l.length := by
          rw [List.length_append, List.take_add, List.drop_drop, hlen]
         rw [e]
         exact flatW_append h1 h2
        ·cases h
theorem trod_flatW : ∀ (d n : Nat) (t : TypeId) (ks : List FK) (cs : List Value) (x : DataW H × List MemPlace), flatT P d t = some ks -> DataW.trod enc P w base sp held n t cs = some x -> P.cellsOf t = ks.length -> flatW cs
 | 0, _, _, _, _, _, h, _, _ => by simp [flatT] at h
 | d + 1, n, t, ks, cs, x, h, ht, hc => by
   simp only [flatT] at h
   split at h
   ·rename_i hu
    cases h
    obtain ⟨b, rfl, _⟩ := DataW.trod_bool hu ht
    intro v hv k n e; rw [List.mem_singleton.1 hv] at e; cases e
   ·rename_i k hu
    cases h
    obtain ⟨m, rfl, _, hw⟩ := DataW.trod_int hu ht
    intro v hv k n e; rw [List.mem_singleton.1 hv] at e; cases e; exact hw
   ·rename_i hu
    cases h
    obtain ⟨m, rfl, _⟩ := DataW.trod_string hu ht
    intro v hv k n e; rw [List.mem_singleton.1 hv] at e; cases e
   ·rename_i fs hu
    split at h
    ·cases h
    ·obtain ⟨xs, m, rfl, _, hl, hxl, hx⟩ := DataW.trod_struct hu ht
     have := flatW_fields (H := H) (enc := enc) (w := w) (base := base) (sp := sp) (held := held) (n := m) (cs := cs) (fun t ks vs x h1 h2 h3 => trod_flatW d m t ks vs x h1 h2 h3) fs.toList 0 ks h (fun f hf => by
      obtain ⟨i, hi⟩ := List.mem_iff_getElem?.1 hf
      have hi' : fs[i]? = some f := by simpa using hi
      have hlt : i < xs.length := by rw [hxl]; exact (Array.getElem?_eq_some_iff.1 hi').1
      exact ⟨xs[i], by rw [hx i f hi', List.getElem?_eq_getElem hlt]⟩)
     rw [List.drop_zero, List.take_of_length_le (by omega)] at this
     exact this
   ·rename_i len e hu
    split at h
    ·rename_i sz hs
     obtain ⟨xs, m, rfl, _, hl, hxl, hx⟩ := DataW.trod_array hu ht
     have := flatW_fields (H := H) (enc := enc) (w := w) (base := base) (sp := sp) (held := held) (n := m) (cs := cs) (fun t ks vs x h1 h2 h3 => trod_flatW d m t ks vs x h1 h2 h3) (arrFs e sz len 0) 0 ks h (fun f hf => by
      rw [arrFs_eq] at hf
      obtain ⟨i, hi, rfl⟩ := List.mem_map.1 hf
      have hi : i < len := by simpa using List.mem_range'_1.1 hi
      have hlt : i < xs.length := by omega
      have hx := hx i hi
      rw [cellsOf_size hs] at hx
      exact ⟨xs[i], by simp only [arrFd]; rw [cellsOf_size hs, hx, List.getElem?_eq_getElem hlt]⟩)
     rw [List.drop_zero, List.take_of_length_le (by omega)] at this
     exact this
    ·cases h
   ·cases h
end
end Go.Sx
