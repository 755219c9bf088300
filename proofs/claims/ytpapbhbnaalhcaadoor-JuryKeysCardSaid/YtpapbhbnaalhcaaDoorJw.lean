import Derived.Test.YtpapbhbnaalhcaaDoorSxLn
import Derived.Test.YtpapbhbnaalhcaaDoorJi
namespace Go.Proofs.YtpapbhbnaalhcaaDoor
open Go Go.Sx Go.Proofs
set_option linter.unusedVariables false
set_option maxRecDepth 100000
def ksW : List Nat := [3, 6, 7, 8]
def famW (b : Bool) (l : List Rw) (len : Nat) (i : Int) (n : Nat) (acc : List Rw) : St AV := { E := only ksW [(3, .v (.c (.vs 8 0 n 10 false))), (6, .v (.c (.vs 7 0 len 10 false))), (7, .v (.c (.it .i64 len))), (8, .v (.c (.it .i64 i)))] 20, H := hp7 [.rowsB b l, .rows acc] }
noncomputable def LW : Code := loopAt 3 (loopsOf (bodyOf Tryd.f21))
abbrev fitL (n bytes : Nat) : Prop := n * (bytes + 1) <= lim
theorem wR (σ : Sg) (b : Bool) (l : List Rw) (len : Nat) (i : Int) (n : Nat) (acc : List Rw) : (xc (NV σ) (joinCal (lv (NV σ) (fun _ => none) 5)) (fun _ => none) 20 LW (famW b l len i n acc)).bind (backS 8 20 ksW pkJ) =
 .ite (decide (i < (len : Int))) (.need (decide (0 <= i /\ i < (len : Int))) (.need (decide (0 + i.toNat < l.length)) (.ite (l.getD (0 + i.toNat) krows.dflt).fin
  (.need (decide (n = (F2 σ).len (.rows acc) /\ fitL (n + 1) 80)) (.leaf (.normal, famW b l len (IntKind.wrap .i64 (i + 1)) (n + 1) (acc ++ [l.getD (0 + i.toNat) krows.dflt]))))
  (.leaf (.normal, famW b l len (IntKind.wrap .i64 (i + 1)) n acc)))))
 (.leaf (.exit 0, famW b l len i n acc)) := by kernel_rfl
abbrev smallN (n : Nat) : Prop := n <= 100000
theorem wrapS {n : Nat} (h : n < 1000000000) : IntKind.wrap .i64 ((n : Int) + 1) = ((n + 1 : Nat) : Int) := by rw [wrap_in (by omega)]; omega
theorem toN (n : Nat) : (0 + ((n : Nat) : Int).toNat) = n := by omega
def stepW (l : List Rw) (m : Nat × List Rw) : T (Ex × (Nat × List Rw)) := .need (decide (smallN l.length /\ m.1 <= l.length /\ m.2.length <= m.1))
 (.leaf (if m.1 < l.length then (.normal, (m.1 + 1, if (l.getD m.1 krows.dflt).fin then m.2 ++ [l.getD m.1 krows.dflt] else m.2)) else (.exit 0, m)))
theorem stepW_run (σ : Sg) (b : Bool) (l : List Rw) (m : Nat × List Rw) (r : Ex × (Nat × List Rw)) (h : (stepW l m).val = some r) :
 ((xc (NV σ) (joinCal (lv (NV σ) (fun _ => none) 5)) (fun _ => none) 20 LW (famW b l l.length m.1 m.2.length m.2)).bind (backS 8 20 ksW pkJ)).val = some (r.1, famW b l l.length r.2.1 r.2.2.length r.2.2) := by
 obtain ⟨i, acc⟩ := m
 obtain ⟨hb, h⟩ := need_some h
 obtain ⟨hs, hi, ha⟩ := of_decide_eq_true hb
 simp only at hs hi ha
 simp only [T.val, Option.some.injEq] at h
 subst h
 rw [wR]
 have l1 : (F2 σ).len (.rows acc) = acc.length := rfl
 by_cases hlt : i < l.length
 ·have d1 : decide ((i : Int) < (l.length : Int)) = true := decide_eq_true (by omega)
  have d2 : decide (0 <= (i : Int) /\ (i : Int) < (l.length : Int)) = true := decide_eq_true (by omega)
  have d3 : decide (i < l.length) = true := decide_eq_true hlt
  have d4 : decide (fitL (acc.length + 1) 80) = true := decide_eq_true (by simp only [fitL, lim]; omega)
  cases hf : (l.getD i krows.dflt).fin with
  | true => simp only [T.val, d1, d2, d3, l1, true_and, d4, toN, hf, wrapS (show i < 1000000000 by omega), if_pos hlt, if_true, List.length_append, List.length_singleton]
  | false => simp only [T.val, d1, d2, d3, toN, hf, wrapS (show i < 1000000000 by omega), if_pos hlt, Bool.false_eq_true, if_false]
 ·have d1 : decide ((i : Int) < (l.length : Int)) = false := decide_eq_false (by omega)
  simp only [T.val, d1, if_neg hlt]
theorem drop_cons {α : Type} (l : List α) (d : α) {i : Nat} (h : i < l.length) : l.drop i = l.getD i d :: l.drop (i + 1) := by
 rw [List.drop_eq_getElem_cons h, List.getD, List.getElem?_eq_getElem h]
 rfl
theorem iterW (l : List Rw) (hs : smallN l.length) : ∀ (k i : Nat) (acc : List Rw), i + k = l.length -> acc.length <= i -> iter (stepW l) (k + 1) (i, acc) = some (.exit 0, (l.length, acc ++ (l.drop i).filter Rw.fin))
 | 0, i, acc, hk, ha => by
   have d : decide (smallN l.length /\ i <= l.length /\ acc.length <= i) = true := decide_eq_true ⟨hs, by omega, ha⟩
   have e : i = l.length := by omega
   subst e
   simp only [iter, stepW, T.val, d, if_neg (Nat.lt_irrefl l.length)]
   simp
 | k + 1, i, acc, hk, ha => by
   have d : decide (smallN l.length /\ i <= l.length /\ acc.length <= i) = true := decide_eq_true ⟨hs, by omega, ha⟩
   have hlt : i < l.length := by omega
   rw [iter]
   simp only [stepW, T.val, d, if_pos hlt]
   rw [iterW l hs k (i + 1) _ (by omega) (by split <;> (try simp only [List.length_append, List.length_singleton]) <;> omega), drop_cons l krows.dflt hlt, List.filter_cons]
   cases (l.getD i krows.dflt).fin <;> simp
def gW (s : St AV) : T (Ex × St AV) := match s.H with
 | [none, none, none, none, none, none, none, some (.abs (.rowsB b l))] => match Sx.look s.E 3, Sx.look s.E 6, Sx.look s.E 7, Sx.look s.E 8 with
   | .v (.c .snil), .v (.c (.vs 7 0 len 10 false)), .v (.c (.it .i64 n)), .v (.c (.il .i64 0)) =>
     .need (decide (len = l.length /\ n = (l.length : Int) /\ smallN l.length)) (.leaf (.exit 0, famW b l l.length l.length (l.filter Rw.fin).length (l.filter Rw.fin)))
   | _, _, _, _ => .fail "Whole"
 | _ => .fail "Whole"
theorem enter_only {nt : Nat} {N : Env AV} {s : St AV} {ks : List Nat} {E' : Ev} {l : List AV} (hl : ∀ a ∈ l, ∃ es ty, N.F.arr a = some (es, ty, [])) (hG : N.G <= s.H.length)
 (hE : ∀ k ∈ ks, Sx.look E' k = Sx.look s.E k \/ (Sx.look s.E k ≠ .unk /\ Plain (Sx.look E' k) /\ ∀ ρ, (Sx.look E' k).den ρ = (Sx.look s.E k).den ρ) \/ (Sx.look s.E k = .v (.c .snil) /\ ∃ j es, j < l.length /\ Sx.look E' k = .v (.c (.vs (s.H.length + j) 0 0 es false)))) : Enter N nt s { E := only ks E' nt, H := s.H ++ absL l } := by
 refine enter_grow (l := l) rfl hl hG (fun k hk => ?_) fun k hk => by simp only [only_look, if_neg (show ¬ k < nt by omega)]
 simp only [only_look, if_pos hk]
 cases hh : hasN ks k with
 | false => exact .inl rfl
 | true => exact .inr (hE k ((hasN_iff _ _).1 hh))
theorem plainIl (k : IntKind) (n : Int) : Plain (.v (.c (.it k n))) := fun c hc => by
 simp [V1.cells] at hc; subst hc; rfl
theorem sayIl {v : SV} {n : Int} (h : v = .v (.c (.il .i64 n))) : v ≠ .unk /\ Plain (.v (.c (.it .i64 n))) /\ ∀ ρ, (SV.v (.c (.it .i64 n))).den ρ = v.den ρ := by
 subst h
 exact ⟨(fun h => by cases h), plainIl _ _, fun ρ => rfl⟩
theorem gW_ok {σ : Sg} {N' : Env AV} (hF : N'.F = (NV σ).F) (hG : N'.G = (NV σ).G) : LoopOk Tryd.prog N' 20 LW gW := by
 have hcal : CalOk Tryd.prog (NV σ) (joinCal (lv (NV σ) (fun _ => none) 5)) := joinCal_ok (lv_ok okV lpsV hvV (fun f g h => by cases h) 5)
 refine loopOk_it (N := NV σ) hF hG okV hcal (lp := fun _ => none) (fun _ _ _ g hg => by cases hg) fun s s' ex hgs => ?_
 obtain ⟨E1, H1⟩ := s
 unfold gW at hgs
 split at hgs
 ·rename_i b l hs
  simp only at hs
  subst hs
  split at hgs
  ·rename_i len n e3 e6 e7 e8
   replace hgs := need_some hgs
   obtain ⟨hb, hgs⟩ := hgs
   obtain ⟨rfl, rfl, hsm⟩ := of_decide_eq_true hb
   simp only [T.val, Option.some.injEq, Prod.mk.injEq] at hgs
   obtain ⟨rfl, rfl⟩ := hgs
   refine ⟨{ M := Nat × List Rw, fam := fun m => famW b l l.length m.1 m.2.length m.2, step := stepW l, ks := ksW, pk := pkJ, hpk := pkJ_ok, L := 8, len := rfl, hGL := Nat.le_succ 7, run := stepW_run σ b l, m := (0, []), k := l.length + 1, m' := (l.length, l.filter Rw.fin), ent := ?_, it := ?_, fin := rfl }⟩
   ·refine enter_only (N := NV σ) (s := ⟨E1, _⟩) (l := [.rows []]) (fun a ha => ⟨10, krows.ty, by rw [List.mem_singleton.1 ha]; rfl⟩) (Nat.le_succ 7) fun k hk => ?_
    simp only [ksW, List.mem_cons, List.not_mem_nil, or_false] at hk
    rcases hk with rfl | rfl | rfl | rfl
    ·exact .inr (.inr ⟨e3, 0, 10, by simp, rfl⟩)
    ·exact .inl e6.symm
    ·exact .inl e7.symm
    ·exact .inr (.inl (sayIl e8))
   ·have := iterW l hsm l.length 0 [] (by omega) (Nat.le_refl _)
    simpa using this
  ·simp [T.val] at hgs
 ·simp [T.val] at hgs
def lpW : Lp := lpAdd 21 3 gW noLp
theorem lpW_ok {σ : Sg} : LpsOk Tryd.prog (NVl lpW σ) := lpsAdd lpsV (fn := Tryd.f21) (by kernel_rfl) (c := bodyOf Tryd.f21) (by kernel_rfl) (nt := 20) (by kernel_rfl) (b := LW) (oneLoop_spec (by kernel_rfl)) (gW_ok rfl rfl)
noncomputable def wholeR_T (σ : Sg) (b : Bool) (l : List Rw) : T (SV × List AV × List AV) :=
 let x0 : Int := (↑(List.length l) : Int);
 T.need (decide (List.length l = List.length l /\ x0 = x0 /\ smallN (List.length l))) (T.leaf (SV.v (V1.c (Cell.vs 8 0 (List.length (List.filter Rw.fin l)) 10 false)), [AV.rowsB b l], [AV.rows (List.filter Rw.fin l)]))
theorem wholeR (σ : Sg) (b : Bool) (l : List Rw) : runN lpW σ (fun _ => none) 21 noM [.v (.c (.vs 7 0 l.length 10 false))] [.rowsB b l] = wholeR_T σ b l := by kernel_rfl
theorem whole_val (σ : Sg) (b : Bool) (l : List Rw) (h : smallN l.length) : (wholeR_T σ b l).val = some (.v (.c (.vs 8 0 (l.filter Rw.fin).length 10 false)), [.rowsB b l], [.rows (l.filter Rw.fin)]) := by
 simp only [wholeR_T, T.val, true_and, decide_eq_true h]
theorem cl_vs {H : Hp AV} {n o len es : Nat} {kn : Bool} {x : Chunk AV} (h : hget H n = some x) : ClV H (.v (.c (.vs n o len es kn))) := by
 intro c hc
 simp [V1.cells] at hc
 subst hc
 intro m hm
 cases hm
 exact ⟨_, h⟩
def wholeS (args : List SV) (l : List AV) : T (SV × List AV × List AV) := match args, l with
 | [.v (.c (.vs n 0 len 10 false))], [a] => match Nat.beq n 7, rowsX a with
   | true, some (b, rs) => .need (decide (len = rs.length /\ smallN rs.length)) (.leaf (.v (.c (.vs (7 + 1) 0 (rs.filter Rw.fin).length 10 false)), [a], [.rows (rs.filter Rw.fin)]))
   | _, _ => .fail "Whole"
 | _, _ => .fail "Whole"
theorem wholeS_ok {σ : Sg} : FnOk Tryd.prog (NV σ) 21 (sumG isS noM wholeS) := by
 refine fnOk_env (N := NVl lpW σ) (N' := NV σ) rfl rfl ?_
 refine sumG_ok isS_ok rfl fun args l v l' nw h hl hargs => ?_
 unfold wholeS at h
 split at h
 ·rename_i n len a
  split at h
  ·rename_i b rs h1 h2
   have hn := (beq_iff _ _).1 h1
   subst hn
   replace h := need_some h
   obtain ⟨hb, h⟩ := h
   obtain ⟨rfl, hsm⟩ := of_decide_eq_true hb
   simp only [T.val, Option.some.injEq, Prod.mk.injEq] at h
   obtain ⟨rfl, rfl, rfl⟩ := h
   have hr := whole_val σ b rs hsm
   rw [<- wholeR] at hr
   have hc := (runN_ok lpW_ok (fun f g h => by cases h) (M := noM) rfl (l := [.rowsB b rs]) (fun x hx => by
    rw [List.mem_singleton.1 hx]
    exact cl_vs (hpO_at noM [.rowsB b rs] 0 _ rfl)) hr).1
   have ha : Alike (NVl lpW σ) [a] [.rowsB b rs] := ⟨fun lc S w => rowsX_q h2 lc S w, trivial⟩
   exact ctr_alike (l := [a]) (m := [.rowsB b rs]) (l' := [a]) (m' := [.rowsB b rs]) ha ha.symm hc
  ·simp [T.val] at h
 ·simp [T.val] at h
end Go.Proofs.YtpapbhbnaalhcaaDoor

namespace Go.Proofs.YtpapbhbnaalhcaaDoor
open Go Go.Sx Go.Proofs
set_option linter.unusedVariables false
set_option maxRecDepth 100000
def ksQ : List Nat := [0, 1, 4, 12, 13]
def famQ (b c : Bool) (l m : List Rw) (n k : Nat) (i : Int) : St AV := { E := only ksQ [(0, .v (.c (.vs 7 0 n 10 false))), (1, .v (.c (.vs 8 0 k 10 false))), (4, .v (.c (.bl false))), (12, .v (.c (.it .i64 n))), (13, .v (.c (.it .i64 i)))] 26, H := hp7 [.rowsB b l, .rowsB c m] }
noncomputable def LQ : Code := loopAt 4 (loopsOf (bodyOf Tryd.f40))
def rwEq (a b : Rw) : Bool := match eqL a.enc b.enc with | some (x, _) => x | none => false
theorem qR (σ : Sg) (b c : Bool) (l m : List Rw) (n k : Nat) (i : Int) : (xc (NV σ) (joinCal (lv (NV σ) (fun _ => none) 5)) (fun _ => none) 26 LQ (famQ b c l m n k i)).bind (backS 9 26 ksQ pkJ) =
 .ite (decide (i < (n : Int))) (.need (andK (decide (0 <= i /\ i < (n : Int))) (andK (decide (0 + i.toNat < l.length)) (andK (decide (0 <= i /\ i < (k : Int))) (decide (0 + i.toNat < m.length)))))
  (.ite (!rwEq (l.getD (0 + i.toNat) krows.dflt) (m.getD (0 + i.toNat) krows.dflt))
    (.leaf (.ret, famQ b c l m n k i))
    (.leaf (.normal, famQ b c l m n k (IntKind.wrap .i64 (i + 1))))))
 (.leaf (.exit 0, famQ b c l m n k i)) := by kernel_rfl
theorem rwEq_iff (a b : Rw) : rwEq a b = true ↔ a = b := by
 have e : rwEq a b = (a.thread == b.thread && (a.kind == b.kind && (a.key == b.key && (a.val == b.val && (a.tall == b.tall && (a.code == b.code && (a.aval == b.aval && (a.frm == b.frm && (a.till == b.till && a.fin == b.fin))))))))) := rfl
 rw [e]
 cases a; cases b
 simp
def partAt : List Rw -> List Rw -> Nat
 | a :: l, b :: m => match rwEq a b with | true => partAt l m + 1 | false => 0
 | _, _ => 0
def sameL : List Rw -> List Rw -> Bool
 | [], [] => true
 | a :: l, b :: m => match rwEq a b with | true => sameL l m | false => false
 | _, _ => false
theorem sameL_iff : ∀ (l m : List Rw), sameL l m = true ↔ l = m
 | [], [] => by simp [sameL]
 | [], _ :: _ => by simp [sameL]
 | _ :: _, [] => by simp [sameL]
 | a :: l, b :: m => by
   simp only [sameL]
   cases h : rwEq a b with
   | true =>
     have := (rwEq_iff a b).1 h
     subst this
     simp [sameL_iff l m]
   | false =>
     have : a ≠ b := fun e => by rw [(rwEq_iff a b).2 e] at h; cases h
     simp [this]
def stepQ (l m : List Rw) (i : Nat) : T (Ex × Nat) := .need (decide (smallN l.length /\ l.length = m.length /\ i <= l.length))
 (.leaf (if i < l.length then (if rwEq (l.getD i krows.dflt) (m.getD i krows.dflt) then (.normal, i + 1) else (.ret, i)) else (.exit 0, i)))
theorem stepQ_run (σ : Sg) (b c : Bool) (l m : List Rw) (i : Nat) (r : Ex × Nat) (h : (stepQ l m i).val = some r) :
 ((xc (NV σ) (joinCal (lv (NV σ) (fun _ => none) 5)) (fun _ => none) 26 LQ (famQ b c l m l.length m.length i)).bind (backS 9 26 ksQ pkJ)).val = some (r.1, famQ b c l m l.length m.length r.2) := by
 replace h := need_some h
 obtain ⟨hb, h⟩ := h
 obtain ⟨hs, hl, hi⟩ := of_decide_eq_true hb
 simp only [T.val, Option.some.injEq] at h
 subst h
 rw [qR]
 by_cases hlt : i < l.length
 ·have d1 : decide ((i : Int) < (l.length : Int)) = true := decide_eq_true (by omega)
  have d2 : decide (0 <= (i : Int) /\ (i : Int) < (l.length : Int)) = true := decide_eq_true (by omega)
  have d3 : decide (i < l.length) = true := decide_eq_true hlt
  have d4 : decide (0 <= (i : Int) /\ (i : Int) < (m.length : Int)) = true := decide_eq_true (by omega)
  have d5 : decide (i < m.length) = true := decide_eq_true (by omega)
  cases hf : rwEq (l.getD i krows.dflt) (m.getD i krows.dflt) with
  | true => simp only [T.val, andK, d1, d2, d3, d4, d5, toN, hf, wrapS (show i < 1000000000 by omega), if_pos hlt, if_true, Bool.not_true]
  | false => simp only [T.val, andK, d1, d2, d3, d4, d5, toN, hf, if_pos hlt, Bool.false_eq_true, if_false, Bool.not_false]
 ·have d1 : decide ((i : Int) < (l.length : Int)) = false := decide_eq_false (by omega)
  simp only [T.val, d1, if_neg hlt]
theorem iterQ (l m : List Rw) (hs : smallN l.length) (hl : l.length = m.length) : ∀ (k i : Nat), i + k = l.length -> iter (stepQ l m) (k + 1) i = some (if sameL (l.drop i) (m.drop i) then (.exit 0, i + partAt (l.drop i) (m.drop i)) else (.ret, i + partAt (l.drop i) (m.drop i)))
 | 0, i, hk => by
   have e : i = l.length := by omega
   have d : decide (smallN l.length /\ l.length = m.length /\ i <= l.length) = true := decide_eq_true ⟨hs, hl, by omega⟩
   simp only [iter, stepQ, T.val, d, if_neg (show ¬ i < l.length by omega)]
   rw [List.drop_of_length_le (by omega), List.drop_of_length_le (by omega)]
   simp [sameL, partAt]
 | k + 1, i, hk => by
   have d : decide (smallN l.length /\ l.length = m.length /\ i <= l.length) = true := decide_eq_true ⟨hs, hl, by omega⟩
   have hlt : i < l.length := by omega
   rw [iter]
   simp only [stepQ, T.val, d, if_pos hlt]
   rw [drop_cons l krows.dflt hlt, drop_cons m krows.dflt (by omega)]
   cases hf : rwEq (l.getD i krows.dflt) (m.getD i krows.dflt) with
   | true =>
     simp only [if_true, sameL, partAt, hf]
     rw [iterQ l m hs hl k (i + 1) (by omega)]
     rw [show i + 1 + partAt (l.drop (i + 1)) (m.drop (i + 1)) = i + (partAt (l.drop (i + 1)) (m.drop (i + 1)) + 1) by omega]
   | false =>
     simp only [sameL, partAt, hf, Bool.false_eq_true, if_false, Nat.add_zero]
def gQ (s : St AV) : T (Ex × St AV) := match s.H with
 | [none, none, none, none, none, none, none, some (.abs (.rowsB b l)), some (.abs (.rowsB c m))] => match Sx.look s.E 0, Sx.look s.E 1, Sx.look s.E 4, Sx.look s.E 12, Sx.look s.E 13 with
   | .v (.c (.vs 7 0 n 10 false)), .v (.c (.vs 8 0 k 10 false)), .v (.c (.bl false)), .v (.c (.it .i64 n')), .v (.c (.il .i64 0)) =>
     .need (decide (n = l.length /\ k = m.length /\ n' = (l.length : Int) /\ smallN l.length /\ l.length = m.length)) (.ite (sameL l m) (.leaf (.exit 0, famQ b c l m l.length m.length (partAt l m))) (.leaf (.ret, famQ b c l m l.length m.length (partAt l m))))
   | _, _, _, _, _ => .fail "Equal"
 | _ => .fail "Equal"
theorem gQ_ok {σ : Sg} {N' : Env AV} (hF : N'.F = (NV σ).F) (hG : N'.G = (NV σ).G) : LoopOk Tryd.prog N' 26 LQ gQ := by
 have hcal : CalOk Tryd.prog (NV σ) (joinCal (lv (NV σ) (fun _ => none) 5)) := joinCal_ok (lv_ok okV lpsV hvV (fun f g h => by cases h) 5)
 refine loopOk_it (N := NV σ) hF hG okV hcal (lp := fun _ => none) (fun _ _ _ g hg => by cases hg) fun s s' ex hgs => ?_
 obtain ⟨E1, H1⟩ := s
 unfold gQ at hgs
 split at hgs
 ·rename_i b l c m hs
  simp only at hs
  subst hs
  split at hgs
  ·rename_i n k n' e0 e1 e4 e12 e13
   replace hgs := need_some hgs
   obtain ⟨hb, hgs⟩ := hgs
   obtain ⟨rfl, rfl, rfl, hsm, hlm⟩ := of_decide_eq_true hb
   have hgs : (if sameL l m then (Ex.exit 0, partAt l m) else (.ret, partAt l m)).1 = ex /\ famQ b c l m l.length m.length (partAt l m) = s' := by
    cases hh : sameL l m <;> simp only [T.val, hh, Option.some.injEq, Prod.mk.injEq] at hgs <;> simpa using hgs
   obtain ⟨hx, rfl⟩ := hgs
   refine ⟨{ M := Nat, fam := fun i => famQ b c l m l.length m.length i, step := stepQ l m, ks := ksQ, pk := pkJ, hpk := pkJ_ok, L := 9, len := rfl, hGL := (by show 7 <= 9; decide), run := stepQ_run σ b c l m, m := 0, k := l.length + 1, m' := partAt l m, ent := ?_, it := ?_, fin := rfl }⟩
   ·refine enter_only (N := NV σ) (s := ⟨E1, _⟩) (l := []) (fun a ha => by cases ha) (by show 7 <= 9; decide) fun k hk => ?_
    simp only [ksQ, List.mem_cons, List.not_mem_nil, or_false] at hk
    rcases hk with rfl | rfl | rfl | rfl | rfl
    ·exact .inl e0.symm
    ·exact .inl e1.symm
    ·exact .inl e4.symm
    ·exact .inl e12.symm
    ·exact .inr (.inl (sayIl e13))
   ·have := iterQ l m hsm hlm l.length 0 (by omega)
    rw [this]
    simp only [List.drop_zero, Nat.zero_add]
    rw [<- hx]
    cases sameL l m <;> rfl
  ·simp [T.val] at hgs
 ·simp [T.val] at hgs
def lpQ : Lp := lpAdd 40 4 gQ noLp
theorem lpQ_ok {σ : Sg} : LpsOk Tryd.prog (NVl lpQ σ) := lpsAdd lpsV (fn := Tryd.f40) (by kernel_rfl) (c := bodyOf Tryd.f40) (by kernel_rfl) (nt := 26) (by kernel_rfl) (b := LQ) (oneLoop_spec (by kernel_rfl)) (gQ_ok rfl rfl)
noncomputable def sameR_T (σ : Sg) (b c : Bool) (l m : List Rw) : T (SV × List AV × List AV) :=
 let x0 : Int := (↑(List.length l) : Int);
 let y0 : T (SV × List AV × List AV) := (T.leaf (SV.v (V1.c (Cell.bl false)), [AV.rowsB b l, AV.rowsB c m], []));
 T.ite (x0 != (↑(List.length m) : Int)) y0 (T.need (decide (List.length l = List.length l /\ List.length m = List.length m /\ x0 = x0 /\ smallN (List.length l) /\ List.length l = List.length m)) (T.ite (sameL l m) (T.leaf (SV.v (V1.c (Cell.bl true)), [AV.rowsB b l, AV.rowsB c m], [])) y0))
theorem sameR (σ : Sg) (b c : Bool) (l m : List Rw) : runN lpQ σ (fun _ => none) 24 noM [.v (.c (.vs 7 0 l.length 10 false)), .v (.c (.vs 8 0 m.length 10 false))] [.rowsB b l, .rowsB c m] = sameR_T σ b c l m := by kernel_rfl
theorem same_val (σ : Sg) (b c : Bool) (l m : List Rw) (h : smallN l.length) : ∃ x : Cell, (sameR_T σ b c l m).val = some (.v (.c x), [.rowsB b l, .rowsB c m], []) /\ x.name = none /\ ∀ ρ : Nm, x.den ρ = .bool (sameL l m) := by
 by_cases hl : l.length = m.length
 ·have d1 : ((l.length : Int) != (m.length : Int)) = false := by simp [hl]
  have d2 : decide (smallN l.length /\ l.length = m.length) = true := decide_eq_true ⟨h, hl⟩
  cases hh : sameL l m <;> simp only [sameR_T, T.val, d1, true_and, d2, hh] <;> exact ⟨_, rfl, rfl, fun ρ => rfl⟩
 ·have d1 : ((l.length : Int) != (m.length : Int)) = true := by simp; omega
  have hh : sameL l m = false := by
   cases hh : sameL l m with
   | false => rfl
   | true => exact absurd (congrArg List.length ((sameL_iff l m).1 hh)) hl
  simp only [sameR_T, T.val, d1]
  exact ⟨_, rfl, rfl, fun ρ => by rw [hh]; rfl⟩
theorem cl_plain {H : Hp AV} {x : Cell} (h : x.name = none) : ClV H (.v (.c x)) := fun c hc => by
 simp [V1.cells] at hc
 subst hc
 intro m hm
 rw [h] at hm
 cases hm
def sameS (args : List SV) (l : List AV) : T (SV × List AV × List AV) := match args, l with
 | [.v (.c (.vs n 0 len 10 false)), .v (.c (.vs k 0 len' 10 false))], [a, a'] => match Nat.beq n 7, Nat.beq k (7 + 1), rowsX a, rowsX a' with
   | true, true, some (b, rs), some (b', rs') => .need (decide (len = rs.length /\ len' = rs'.length /\ smallN rs.length)) (.leaf (.v (.c (.bt (sameL rs rs'))), [a, a'], []))
   | _, _, _, _ => .fail "Same"
 | _, _ => .fail "Same"
theorem sameS_ok {σ : Sg} : FnOk Tryd.prog (NV σ) 24 (sumG isS noM sameS) := by
 refine fnOk_env (N := NVl lpQ σ) (N' := NV σ) rfl rfl ?_
 refine sumG_ok isS_ok rfl fun args l v l' nw h hl hargs => ?_
 unfold sameS at h
 split at h
 ·rename_i n len k len' a a'
  split at h
  ·rename_i b rs b' rs' h1 h1' h2 h2'
   have hn := (beq_iff _ _).1 h1
   have hk := (beq_iff _ _).1 h1'
   subst hn hk
   replace h := need_some h
   obtain ⟨hb, h⟩ := h
   obtain ⟨rfl, rfl, hsm⟩ := of_decide_eq_true hb
   simp only [T.val, Option.some.injEq, Prod.mk.injEq] at h
   obtain ⟨rfl, rfl, rfl⟩ := h
   obtain ⟨x, hr, hx1, hx2⟩ := same_val σ b b' rs rs' hsm
   rw [<- sameR] at hr
   have hc := (runN_ok lpQ_ok (fun f g h => by cases h) (M := noM) rfl (l := [.rowsB b rs, .rowsB b' rs']) (fun y hy => by
    simp only [List.mem_cons, List.not_mem_nil, or_false] at hy
    rcases hy with rfl | rfl
    ·exact cl_vs (hpO_at noM [.rowsB b rs, .rowsB b' rs'] 0 _ rfl)
    ·exact cl_vs (hpO_at noM [.rowsB b rs, .rowsB b' rs'] 1 _ rfl)) hr).1
   have ha : Alike (NVl lpQ σ) [a, a'] [.rowsB b rs, .rowsB b' rs'] := ⟨fun lc S w => rowsX_q h2 lc S w, fun lc S w => rowsX_q h2' lc S w, trivial⟩
   exact ctr_val (ctr_alike (l := [a, a']) (m := [.rowsB b rs, .rowsB b' rs']) (l' := [a, a']) (m' := [.rowsB b rs, .rowsB b' rs']) ha ha.symm hc) (cl_plain rfl) fun ρ => (hx2 ρ).symm
  ·simp [T.val] at h
 ·simp [T.val] at h
end Go.Proofs.YtpapbhbnaalhcaaDoor

namespace Go.Proofs.YtpapbhbnaalhcaaDoor
open Go Go.Sx Go.Proofs
set_option linter.unusedVariables false
set_option maxRecDepth 100000
def rowM : List Bool := [true, false, true, false, false, false, false]
def ksR : List Nat := [2, 3, 4, 5, 11, 12, 13]
def woeE (w : Option (Int × Nat)) (n : Nat) : List (Nat × SV) := match w with
 | none => [(3, .v (.c .inil)), (4, .v (.c (.vs 9 0 n 10 false)))]
 | some _ => [(3, .v (.c (.ifc tPWoe (.ptr 9 0)))), (4, .v (.c (.vs 10 0 n 10 false)))]
def woeH (σ : Sg) (w : Option (Int × Nat)) : Hp AV := match w with
 | none => []
 | some (p, k) => [some (.cells [.it .i64 p, .ifc 189 (.op k (σ k))] tWoe)]
def famR (σ : Sg) (e : List Evt) (len : Nat) (i : Int) (n : Nat) (rs : List Rw) (mp : List (Int × Int)) (w : Option (Int × Nat)) : St AV :=
 { E := only ksR ((2, .v (.c .snil)) :: (woeE w n ++ [(5, .v (.c (.mp (some 8)))), (11, .v (.c (.vs 7 0 len 8 false))), (12, .v (.c (.it .i64 len))), (13, .v (.c (.it .i64 i)))])) 90,
   H := hpO rowM [.events e, .mpI mp] ++ (woeH σ w ++ absL [.rows rs]) }
noncomputable def LR : Code := loopAt 4 (loopsOf (bodyOf Tryd.f23))
def badE (x : Evt) : Bool :=
 match x.begins == true with
 | true => match (!(x.code == 0 && x.aval == 0)) == false with
   | true => match (!x.begins) == true with
     | true => !(x.kind == 0 && (x.key == 0 && (x.val == 0 && x.tall == 0)))
     | false => false
   | false => true
 | false => match (!x.begins) == true with
   | true => !(x.kind == 0 && (x.key == 0 && (x.val == 0 && x.tall == 0)))
   | false => false
def newRw (x : Evt) (i : Int) : Rw := ⟨x.thread, x.kind, x.key, x.val, x.tall, 0, 0, i, 0, false⟩
def setA (rs : List Rw) (k : Nat) (f : Rw -> Rw) : List Rw := rs.set k (f (rs.getD k krows.dflt))
def ans1 (x : Evt) (r : Rw) : Rw := ⟨r.thread, r.kind, r.key, r.val, r.tall, x.code, x.aval, r.frm, r.till, r.fin⟩
def ans2 (i : Int) (r : Rw) : Rw := ⟨r.thread, r.kind, r.key, r.val, r.tall, r.code, r.aval, r.frm, i, r.fin⟩
def ans3 (r : Rw) : Rw := ⟨r.thread, r.kind, r.key, r.val, r.tall, r.code, r.aval, r.frm, r.till, true⟩
def ansT (rs : List Rw) (n : Nat) (p : Int) (x : Evt) (i : Int) (k : List Rw -> T (Ex × St AV)) : T (Ex × St AV) :=
 .need (decide (0 <= p /\ p < (n : Int))) (.need (decide (0 + p.toNat < rs.length))
  (.need (decide (0 <= p /\ p < (n : Int))) (.need (decide (0 + p.toNat < (setA rs (0 + p.toNat) (ans1 x)).length))
    (.need (decide (0 <= p /\ p < (n : Int))) (.need (decide (0 + p.toNat < (setA (setA rs (0 + p.toNat) (ans1 x)) (0 + p.toNat) (ans2 i)).length))
      (k (setA (setA (setA rs (0 + p.toNat) (ans1 x)) (0 + p.toNat) (ans2 i)) (0 + p.toNat) ans3)))))))
def evtT (σ : Sg) (e : List Evt) (len : Nat) (i : Int) (n : Nat) (rs : List Rw) (mp : List (Int × Int)) (x : Evt) : T (Ex × St AV) :=
 .ite (badE x) (.leaf (.ret, famR σ e len i n rs mp (some (i, 0))))
  (.ite ((lkI x.thread 0 mp).2 == x.begins) (.leaf (.ret, famR σ e len i n rs mp (some (i, 2))))
    (.ite x.begins
      (.need (decide (n = (F2 σ).len (.rows rs) /\ fitL (n + 1) 80)) (.leaf (.normal, famR σ e len (IntKind.wrap .i64 (i + 1)) (n + 1) (rs ++ [newRw x i]) (ptI x.thread n mp) none)))
      (ansT rs n (lkI x.thread 0 mp).1 x i fun r => .leaf (.normal, famR σ e len (IntKind.wrap .i64 (i + 1)) n r (dlI x.thread mp) none))))
theorem rR (σ : Sg) (e : List Evt) (len : Nat) (i : Int) (n : Nat) (rs : List Rw) (mp : List (Int × Int)) : (xc (NV σ) (joinCal (lv (NV σ) (fun _ => none) 5)) (fun _ => none) 90 LR (famR σ e len i n rs mp none)).bind (backS 9 90 ksR pkJ) =
 .ite (decide (i < (len : Int))) (.need (decide (0 <= i /\ i < (len : Int))) (.need (decide (0 + i.toNat < e.length)) (evtT σ e len i n rs mp (e.getD (0 + i.toNat) kevents.dflt))))
  (.leaf (.exit 0, famR σ e len i n rs mp none)) := by kernel_rfl
structure MR where
 i : Nat
 rs : List Rw
 mp : List (Int × Int)
 w : Option (Int × Nat)
def ansRw (x : Evt) (i : Int) (r : Rw) : Rw := ⟨r.thread, r.kind, r.key, r.val, r.tall, x.code, x.aval, r.frm, i, true⟩
def oneE (m : MR) (x : Evt) : Ex × MR :=
 if badE x then (.ret, ⟨m.i, m.rs, m.mp, some (m.i, 0)⟩)
 else if (lkI x.thread 0 m.mp).2 == x.begins then (.ret, ⟨m.i, m.rs, m.mp, some (m.i, 2)⟩)
 else if x.begins then (.normal, ⟨m.i + 1, m.rs ++ [newRw x m.i], ptI x.thread m.rs.length m.mp, none⟩)
 else (.normal, ⟨m.i + 1, m.rs.set (lkI x.thread 0 m.mp).1.toNat (ansRw x m.i (m.rs.getD (lkI x.thread 0 m.mp).1.toNat krows.dflt)), dlI x.thread m.mp, none⟩)
def rowsGo : List Evt -> MR -> Ex × MR
 | [], m => (.exit 0, m)
 | x :: r, m => match oneE m x with
   | (.normal, m') => rowsGo r m'
   | (.exit k, m') => (.exit k, m')
   | (.ret, m') => (.ret, m')
def mpB (mp : List (Int × Int)) (n : Nat) : Prop := ∀ p ∈ mp, 0 <= p.2 /\ p.2 < (n : Int)
theorem lkI_mem {n d : Int} : ∀ {l : List (Int × Int)}, (lkI n d l).2 = true -> ∃ p ∈ l, n = p.1 /\ (lkI n d l).1 = p.2
 | [], h => by simp [lkI] at h
 | p :: r, h => by
   simp only [lkI] at h ⊢
   split
   ·rename_i hp; exact ⟨p, List.mem_cons_self, by simpa using hp, rfl⟩
   ·rename_i hp
    rw [if_neg hp] at h
    obtain ⟨q, h1, h2⟩ := lkI_mem h
    exact ⟨q, List.mem_cons_of_mem _ h1, h2⟩
theorem ptI_mem {n m : Int} {p : Int × Int} : ∀ {l : List (Int × Int)}, p ∈ ptI n m l -> p.2 = m \/ p ∈ l
 | [], h => by simp only [ptI, List.mem_singleton] at h; subst h; exact .inl rfl
 | q :: r, h => by
   simp only [ptI] at h
   split at h
   ·rcases List.mem_cons.1 h with rfl | h
    ·exact .inl rfl
    ·exact .inr (List.mem_cons_of_mem _ h)
   ·rcases List.mem_cons.1 h with rfl | h
    ·exact .inr List.mem_cons_self
    ·rcases ptI_mem h with h | h
     ·exact .inl h
     ·exact .inr (List.mem_cons_of_mem _ h)
theorem dlI_mem {n : Int} {p : Int × Int} : ∀ {l : List (Int × Int)}, p ∈ dlI n l -> p ∈ l
 | [], h => by cases h
 | q :: r, h => by
   simp only [dlI] at h
   split at h
   ·exact List.mem_cons_of_mem _ h
   ·rcases List.mem_cons.1 h with rfl | h
    ·exact List.mem_cons_self
    ·exact List.mem_cons_of_mem _ (dlI_mem h)
def invR (e : List Evt) (m : MR) : Prop := smallN e.length /\ m.i <= e.length /\ m.rs.length <= m.i /\ m.w = none /\ mpB m.mp m.rs.length
theorem oneE_inv {e : List Evt} {m m' : MR} {x : Evt} (h : invR e m) (hlt : m.i < e.length) (ho : oneE m x = (.normal, m')) : invR e m' /\ m'.i = m.i + 1 := by
 obtain ⟨h1, h2, h3, h4, h5⟩ := h
 unfold oneE at ho
 split at ho
 ·cases ho
 ·split at ho
  ·cases ho
  ·split at ho
   ·cases ho
    refine ⟨⟨h1, hlt, by simp; omega, rfl, fun p hp => ?_⟩, rfl⟩
    rcases ptI_mem hp with hp | hp
    ·rw [hp]; simp; omega
    ·have := h5 p hp; simp; omega
   ·cases ho
    refine ⟨⟨h1, hlt, by simp; omega, rfl, fun p hp => ?_⟩, rfl⟩
    have := h5 p (dlI_mem hp)
    simpa using this
noncomputable def stepR (e : List Evt) (m : MR) : T (Ex × MR) := .need (@decide (invR e m) (Classical.propDecidable _)) (.leaf (if m.i < e.length then oneE m (e.getD m.i kevents.dflt) else (.exit 0, m)))
def famM (σ : Sg) (e : List Evt) (m : MR) : St AV := famR σ e e.length m.i m.rs.length m.rs m.mp m.w
theorem setA_len (rs : List Rw) (k : Nat) (f : Rw -> Rw) : (setA rs k f).length = rs.length := by simp [setA]
theorem setA3 (rs : List Rw) (k : Nat) (x : Evt) (i : Int) (h : k < rs.length) : setA (setA (setA rs k (ans1 x)) k (ans2 i)) k ans3 = rs.set k (ansRw x i (rs.getD k krows.dflt)) := by
 simp only [setA, List.getD, List.getElem?_set, List.length_set, List.set_set, h, if_true, Option.getD_some]
 rfl
theorem stepR_run (σ : Sg) (e : List Evt) (m : MR) (r : Ex × MR) (h : (stepR e m).val = some r) :
 ((xc (NV σ) (joinCal (lv (NV σ) (fun _ => none) 5)) (fun _ => none) 90 LR (famM σ e m)).bind (backS 9 90 ksR pkJ)).val = some (r.1, famM σ e r.2) := by
 replace h := need_some h
 obtain ⟨hb, h⟩ := h
 have hinv : invR e m := by
  by_cases hi : invR e m
  ·exact hi
  ·simp [hi] at hb
 simp only [T.val, Option.some.injEq] at h
 subst h
 obtain ⟨i, rs, mp, w⟩ := m
 obtain ⟨h1, h2, h3, h4, h5⟩ := hinv
 simp only at h1 h2 h3 h4 h5
 subst h4
 show ((xc (NV σ) (joinCal (lv (NV σ) (fun _ => none) 5)) (fun _ => none) 90 LR (famR σ e e.length i rs.length rs mp none)).bind (backS 9 90 ksR pkJ)).val = _
 rw [rR]
 by_cases hlt : i < e.length
 ·have d1 : decide ((i : Int) < (e.length : Int)) = true := decide_eq_true (by omega)
  have d2 : decide (0 <= (i : Int) /\ (i : Int) < (e.length : Int)) = true := decide_eq_true (by omega)
  have d3 : decide (i < e.length) = true := decide_eq_true hlt
  simp only [T.val, d1, d2, d3, toN, if_pos hlt]
  generalize e.getD i kevents.dflt = x
  simp only [evtT, T.val, oneE]
  cases hb : badE x with
  | true => rfl
  | false =>
    simp only [Bool.false_eq_true, if_false]
    cases hl : (lkI x.thread 0 mp).2 == x.begins with
    | true => rfl
    | false =>
      simp only [Bool.false_eq_true, if_false]
      cases hx : x.begins with
      | true =>
        have l1 : (F2 σ).len (.rows rs) = rs.length := rfl
        have d4 : decide (fitL (rs.length + 1) 80) = true := decide_eq_true (by simp only [fitL, lim]; omega)
        simp only [T.val, l1, true_and, d4, if_true, wrapS (show i < 1000000000 by omega), famM, List.length_append, List.length_singleton]
      | false =>
        have h2 : (lkI x.thread 0 mp).2 = true := by
         rw [hx] at hl
         cases hh : (lkI x.thread 0 mp).2 with
         | true => rfl
         | false => rw [hh] at hl; cases hl
        obtain ⟨p, hp, _, hp2⟩ := lkI_mem h2
        have h6 := h5 p hp
        rw [<- hp2] at h6
        generalize (lkI x.thread 0 mp).1 = q at h6
        obtain ⟨k, rfl⟩ : ∃ k : Nat, q = k := ⟨q.toNat, by omega⟩
        have hk : k < rs.length := by omega
        have d5 : decide (0 <= (k : Int) /\ (k : Int) < (rs.length : Int)) = true := decide_eq_true (by omega)
        have d6 : decide (k < rs.length) = true := decide_eq_true hk
        simp only [ansT, T.val, d5, Int.toNat_natCast, Nat.zero_add, setA_len, d6, wrapS (show i < 1000000000 by omega), Bool.false_eq_true, if_false, famM, List.length_set, setA3 _ _ _ _ hk]
 ·have d1 : decide ((i : Int) < (e.length : Int)) = false := decide_eq_false (by omega)
  simp only [T.val, d1, if_neg hlt, famM]
theorem iterR (e : List Evt) : ∀ (k : Nat) (m : MR), invR e m -> m.i + k = e.length -> iter (stepR e) (k + 1) m = some (rowsGo (e.drop m.i) m)
 | 0, m, h, hk => by
   simp only [iter, stepR, T.val, h, decide_true, if_neg (show ¬ m.i < e.length by omega)]
   rw [List.drop_of_length_le (by omega)]
   rfl
 | k + 1, m, h, hk => by
   have hlt : m.i < e.length := by omega
   rw [iter]
   simp only [stepR, T.val, h, decide_true, if_pos hlt]
   rw [drop_cons e kevents.dflt hlt]
   simp only [rowsGo]
   cases ho : oneE m (e.getD m.i kevents.dflt) with
   | mk ex m' =>
     cases ex with
     | normal =>
       obtain ⟨g1, g2⟩ := oneE_inv h hlt ho
       simp only
       rw [iterR e k m' g1 (by omega), g2]
     | exit id => rfl
     | ret => rfl
def rows0 : MR := ⟨0, [], [], none⟩
def rowsM (e : List Evt) : MR := (rowsGo e rows0).2
theorem rowsGo_end : ∀ (l : List Evt) (m : MR), m.w = none -> ((rowsGo l m).1 = .exit 0 /\ (rowsGo l m).2.w = none) \/ ((rowsGo l m).1 = .ret /\ ∃ w, (rowsGo l m).2.w = some w)
 | [], m, h => .inl ⟨rfl, h⟩
 | x :: r, m, h => by
   simp only [rowsGo]
   cases ho : oneE m x with
   | mk ex m' =>
     unfold oneE at ho
     split at ho
     ·cases ho; exact .inr ⟨rfl, _, rfl⟩
     ·split at ho
      ·cases ho; exact .inr ⟨rfl, _, rfl⟩
      ·split at ho
       ·cases ho; exact rowsGo_end r _ rfl
       ·cases ho; exact rowsGo_end r _ rfl
def errR (e : List Evt) : Bool := (rowsM e).w.isSome
def wErr (m : MR) : Int × Nat := match m.w with | some w => w | none => (0, 0)
def gR (σ : Sg) (s : St AV) : T (Ex × St AV) := match s.H with
 | [some (.abs (.sent 0)), none, some (.abs (.sent 2)), none, none, none, none, some (.abs (.events e)), some (.abs (.mpI []))] => match Sx.look s.E 2, Sx.look s.E 3, Sx.look s.E 4, Sx.look s.E 5, Sx.look s.E 11, Sx.look s.E 12, Sx.look s.E 13 with
   | .v (.c .snil), .v (.c .inil), .v (.c .snil), .v (.c (.mp (some 8))), .v (.c (.vs 7 0 len 8 false)), .v (.c (.it .i64 n)), .v (.c (.il .i64 0)) =>
     .need (decide (len = e.length /\ n = (e.length : Int) /\ smallN e.length))
      (.ite (errR e) (.leaf (.ret, famR σ e e.length (rowsM e).i (rowsM e).rs.length (rowsM e).rs (rowsM e).mp (some (wErr (rowsM e)))))
        (.leaf (.exit 0, famR σ e e.length (rowsM e).i (rowsM e).rs.length (rowsM e).rs (rowsM e).mp none)))
   | _, _, _, _, _, _, _ => .fail "Rows"
 | _ => .fail "Rows"
theorem gR_ok {σ : Sg} {N' : Env AV} (hF : N'.F = (NV σ).F) (hG : N'.G = (NV σ).G) : LoopOk Tryd.prog N' 90 LR (gR σ) := by
 have hcal : CalOk Tryd.prog (NV σ) (joinCal (lv (NV σ) (fun _ => none) 5)) := joinCal_ok (lv_ok okV lpsV hvV (fun f g h => by cases h) 5)
 refine loopOk_it (N := NV σ) hF hG okV hcal (lp := fun _ => none) (fun _ _ _ g hg => by cases hg) fun s s' ex hgs => ?_
 obtain ⟨E1, H1⟩ := s
 unfold gR at hgs
 split at hgs
 ·rename_i e hs
  simp only at hs
  subst hs
  split at hgs
  ·rename_i len n e2 e3 e4 e5 e11 e12 e13
   replace hgs := need_some hgs
   obtain ⟨hb, hgs⟩ := hgs
   obtain ⟨rfl, rfl, hsm⟩ := of_decide_eq_true hb
   have hgo : (rowsGo e rows0).1 = ex /\ famM σ e (rowsM e) = s' := by
    rcases rowsGo_end e rows0 rfl with ⟨g1, g2⟩ | ⟨g1, w, g2⟩
    ·have g2' : (rowsM e).w = none := g2
     have : errR e = false := by unfold errR; rw [g2']; rfl
     simp only [T.val, this, Option.some.injEq, Prod.mk.injEq] at hgs
     obtain ⟨rfl, rfl⟩ := hgs
     exact ⟨g1, by unfold famM; rw [g2']⟩
    ·have g2' : (rowsM e).w = some w := g2
     have : errR e = true := by unfold errR; rw [g2']; rfl
     simp only [T.val, this, Option.some.injEq, Prod.mk.injEq] at hgs
     obtain ⟨rfl, rfl⟩ := hgs
     exact ⟨g1, by unfold famM wErr; rw [g2']⟩
   obtain ⟨hx, rfl⟩ := hgo
   refine ⟨{ M := MR, fam := famM σ e, step := stepR e, ks := ksR, pk := pkJ, hpk := pkJ_ok, L := 9, len := rfl, hGL := (by show 7 <= 9; decide), run := stepR_run σ e, m := rows0, k := e.length + 1, m' := rowsM e, ent := ?_, it := ?_, fin := rfl }⟩
   ·refine enter_only (N := NV σ) (s := ⟨E1, _⟩) (l := [.rows []]) (fun a ha => ⟨10, krows.ty, by rw [List.mem_singleton.1 ha]; rfl⟩) (by show 7 <= 9; decide) fun k hk => ?_
    simp only [ksR, List.mem_cons, List.not_mem_nil, or_false] at hk
    rcases hk with rfl | rfl | rfl | rfl | rfl | rfl | rfl
    ·exact .inl e2.symm
    ·exact .inl e3.symm
    ·exact .inr (.inr ⟨e4, 0, 10, by simp, rfl⟩)
    ·exact .inl e5.symm
    ·exact .inl e11.symm
    ·exact .inl e12.symm
    ·exact .inr (.inl (sayIl e13))
   ·rw [iterR e e.length rows0 ⟨hsm, Nat.zero_le _, Nat.le_refl _, rfl, fun p hp => by cases hp⟩ (by show 0 + _ = _; omega), <- hx]
    rfl
  ·simp [T.val] at hgs
 ·simp [T.val] at hgs
def lpR (σ : Sg) : Lp := lpAdd 23 4 (gR σ) noLp
theorem lpR_ok {σ : Sg} : LpsOk Tryd.prog (NVl (lpR σ) σ) := lpsAdd lpsV (fn := Tryd.f23) (by kernel_rfl) (c := bodyOf Tryd.f23) (by kernel_rfl) (nt := 90) (by kernel_rfl) (b := LR) (oneLoop_spec (by kernel_rfl)) (gR_ok rfl rfl)
def woeV (σ : Sg) (w : Int × Nat) : AV := .obj 1 tWoe [.p (.it .i64 w.1), .p (.ifc 189 (.op w.2 (σ w.2)))]
theorem rowsR (σ : Sg) (e : List Evt) : runN (lpR σ) σ (fun _ => none) 23 rowM [.v (.c (.vs 7 0 e.length 8 false))] [.events e] =
 .need (decide (e.length = e.length /\ (e.length : Int) = (e.length : Int) /\ smallN e.length))
  (.ite (errR e) (.need true (.leaf (.tup [.c .snil, .c (.ifc tPWoe (.ptr 8 0))], [.events e], [woeV σ (wErr (rowsM e))])))
    (.leaf (.tup [.c (.vs 8 0 (rowsM e).rs.length 10 false), .c .inil], [.events e], [.rows (rowsM e).rs]))) := by kernel_rfl
def rowsS (σ : Sg) (args : List SV) (l : List AV) : T (SV × List AV × List AV) := match args, l with
 | [.v (.c (.vs n 0 len 8 false))], [.events e] => match Nat.beq n 7 with
   | true => .need (decide (len = e.length /\ smallN e.length))
      (.ite (errR e) (.leaf (.tup [.c .snil, .c (.ifc tPWoe (.ptr (7 + 1) 0))], [.events e], [woeV σ (wErr (rowsM e))]))
        (.leaf (.tup [.c (.vs (7 + 1) 0 (rowsM e).rs.length 10 false), .c .inil], [.events e], [.rows (rowsM e).rs])))
   | false => .fail "Rows"
 | _, _ => .fail "Rows"
theorem rowsS_ok {σ : Sg} : FnOk Tryd.prog (NV σ) 23 (sumG isS rowM (rowsS σ)) := by
 refine fnOk_env (N := NVl (lpR σ) σ) (N' := NV σ) rfl rfl ?_
 refine sumG_ok isS_ok rfl fun args l v l' nw h hl hargs => ?_
 unfold rowsS at h
 split at h
 ·rename_i n len e
  split at h
  ·rename_i h1
   have hn := (beq_iff _ _).1 h1
   subst hn
   replace h := need_some h
   obtain ⟨hb, h⟩ := h
   obtain ⟨rfl, hsm⟩ := of_decide_eq_true hb
   have hr : (runN (lpR σ) σ (fun _ => none) 23 rowM [.v (.c (.vs 7 0 e.length 8 false))] [.events e]).val = some (v, l', nw) := by
    rw [rowsR]
    cases hh : errR e <;> simp only [T.val, true_and, decide_eq_true hsm, hh] at h ⊢ <;> exact h
   exact (runN_ok lpR_ok (fun f g h => by cases h) (M := rowM) rfl (l := [.events e]) (fun x hx => by
    rw [List.mem_singleton.1 hx]
    exact cl_vs (hpO_at rowM [.events e] 0 _ rfl)) hr).1
  ·simp [T.val] at h
 ·simp [T.val] at h
end Go.Proofs.YtpapbhbnaalhcaaDoor
