import Derived.Test.YtpapbhbnaalhcaaDoorJw
import Derived.Test.YtpapbhbnaalhcaaDoorJs
import Derived.Lib.ItoaMem
import Derived.Test.YtpapbhbnaalhcaaDoorSxLn
namespace Go.Proofs.YtpapbhbnaalhcaaDoor
open Go Go.Sx Go.Proofs
set_option linter.unusedVariables false
set_option maxRecDepth 100000
def ksO : List Nat := [0, 2, 3, 5, 7, 23, 24, 25]
def errC (σ : Sg) (i : Nat) : Cell := .ifc 189 (.op i (σ i))
def famO (σ : Sg) (b : Bool) (l wl : List Rw) (len k : Nat) (nn i : Int) (ev : List Evt) (tk : List B1) (er : Bool) : St AV :=
 { E := only ksO [(0, .v (.c (.vs 7 0 len 10 false))), (2, .v (.c .snil)), (3, .v (.c (match er with | true => errC σ 0 | false => .inil))), (5, .v (.c (.ptr 11 0))), (7, .clo 22 [.ptr 8 0, .ptr 13 0, .ptr 11 0]),
     (23, .v (.c (.vs 7 0 len 10 false))), (24, .v (.c (.it .i64 len))), (25, .v (.c (.it .i64 i)))] 71,
   H := hpO rowM [.rowsB b l] ++ [some (.cells [.it .i64 nn] 3), some (.abs (.rows wl)), some (.abs (.events ev)), some (.cells [.vs 10 0 k 8 false] 43), some (.abs (.bools tk)), some (.cells [.vs 12 0 k 1 false] 67)] }
noncomputable def LO : Code := loopAt 6 (loopsOf (bodyOf Tryd.f11))
def evB (r : Rw) : Evt := ⟨r.thread, true, r.kind, r.key, r.val, r.tall, 0, 0⟩
def evE (r : Rw) : Evt := ⟨r.thread, false, 0, 0, 0, 0, r.code, r.aval⟩
def putN (tk : List B1) (k : Nat) (nn p : Int) : Bool := match decide (p < 0) == false with
 | true => match decide (p >= nn) == false with
   | true => match decide (0 <= p /\ p < (k : Int)) with
     | true => decide (0 + p.toNat < tk.length)
     | false => false
   | false => true
 | false => true
def putB (tk : List B1) (nn p : Int) : Bool := match decide (p < 0) == false with
 | true => match decide (p >= nn) == false with
   | true => (tk.getD (0 + p.toNat) kbools.dflt).val
   | false => true
 | false => true
def putT (tk : List B1) (ev : List Evt) (k : Nat) (nn p : Int) (x : Evt) (no : T (Ex × St AV)) (yes : List Evt -> List B1 -> T (Ex × St AV)) : T (Ex × St AV) :=
 .need (putN tk k nn p) (.ite (putB tk nn p) no
  (.need (decide (0 <= p /\ p < (k : Int))) (.need (decide (0 + p.toNat < ev.length)) (.need (decide (0 <= p /\ p < (k : Int))) (.need (decide (0 + p.toNat < tk.length))
    (yes (ev.set (0 + p.toNat) x) (tk.set (0 + p.toNat) ⟨true⟩)))))))
theorem oR (σ : Sg) (b : Bool) (l wl : List Rw) (len k : Nat) (nn i : Int) (ev : List Evt) (tk : List B1) : (xc (NV σ) (joinCal (lv (NV σ) (fun _ => none) 5)) (fun _ => none) 71 LO (famO σ b l wl len k nn i ev tk false)).bind (backS 14 71 ksO pkJ) =
 .ite (decide (i < (len : Int))) (.need (decide (0 <= i /\ i < (len : Int))) (.need (decide (0 + i.toNat < l.length))
  (putT tk ev k nn (l.getD (0 + i.toNat) krows.dflt).frm (evB (l.getD (0 + i.toNat) krows.dflt)) (.leaf (.ret, famO σ b l wl len k nn i ev tk true)) fun ev1 tk1 =>
    .ite ((l.getD (0 + i.toNat) krows.dflt).fin == true)
     (putT tk1 ev1 k nn (l.getD (0 + i.toNat) krows.dflt).till (evE (l.getD (0 + i.toNat) krows.dflt)) (.leaf (.ret, famO σ b l wl len k nn i ev1 tk1 true)) fun ev2 tk2 =>
       .leaf (.normal, famO σ b l wl len k nn (IntKind.wrap .i64 (i + 1)) ev2 tk2 false))
     (.leaf (.normal, famO σ b l wl len k nn (IntKind.wrap .i64 (i + 1)) ev1 tk1 false)))))
  (.leaf (.exit 0, famO σ b l wl len k nn i ev tk false)) := by kernel_rfl
structure MO where
 i : Nat
 ev : List Evt
 tk : List B1
 er : Bool
def putM (ev : List Evt) (tk : List B1) (p : Int) (x : Evt) : Option (List Evt × List B1) :=
 if 0 <= p /\ p < (ev.length : Int) /\ (tk.getD p.toNat kbools.dflt).val = false then some (ev.set p.toNat x, tk.set p.toNat ⟨true⟩) else none
def oneO (m : MO) (r : Rw) : Ex × MO := match putM m.ev m.tk r.frm (evB r) with
 | none => (.ret, ⟨m.i, m.ev, m.tk, true⟩)
 | some (ev, tk) => if r.fin then (match putM ev tk r.till (evE r) with
    | none => (.ret, ⟨m.i, ev, tk, true⟩)
    | some (ev, tk) => (.normal, ⟨m.i + 1, ev, tk, false⟩))
   else (.normal, ⟨m.i + 1, ev, tk, false⟩)
def ofGo : List Rw -> MO -> Ex × MO
 | [], m => (.exit 0, m)
 | x :: r, m => match oneO m x with
   | (.normal, m') => ofGo r m'
   | (.exit k, m') => (.exit k, m')
   | (.ret, m') => (.ret, m')
def invO (l : List Rw) (n : Nat) (m : MO) : Prop := smallN l.length /\ m.i <= l.length /\ m.ev.length = n /\ m.tk.length = n /\ m.er = false
theorem putM_len {ev ev' : List Evt} {tk tk' : List B1} {p : Int} {x : Evt} (h : putM ev tk p x = some (ev', tk')) : ev'.length = ev.length /\ tk'.length = tk.length := by
 unfold putM at h
 split at h
 ·cases h; simp
 ·cases h
theorem oneO_inv {l : List Rw} {n : Nat} {m m' : MO} {x : Rw} (h : invO l n m) (hlt : m.i < l.length) (ho : oneO m x = (.normal, m')) : invO l n m' /\ m'.i = m.i + 1 := by
 obtain ⟨h1, h2, h3, h4, h5⟩ := h
 unfold oneO at ho
 split at ho
 ·cases ho
 ·rename_i ev tk hp
  obtain ⟨q1, q2⟩ := putM_len hp
  split at ho
  ·split at ho
   ·cases ho
   ·rename_i ev2 tk2 hp2
    obtain ⟨q3, q4⟩ := putM_len hp2
    cases ho
    exact ⟨⟨h1, hlt, by simp only; omega, by simp only; omega, rfl⟩, rfl⟩
  ·cases ho
   exact ⟨⟨h1, hlt, by simp only; omega, by simp only; omega, rfl⟩, rfl⟩
noncomputable def stepO (l : List Rw) (n : Nat) (m : MO) : T (Ex × MO) := .need (@decide (invO l n m) (Classical.propDecidable _)) (.leaf (if m.i < l.length then oneO m (l.getD m.i krows.dflt) else (.exit 0, m)))
def famOM (σ : Sg) (b : Bool) (l wl : List Rw) (n : Nat) (m : MO) : St AV := famO σ b l wl l.length n n m.i m.ev m.tk m.er
theorem putT_val {tk : List B1} {ev : List Evt} {n : Nat} (he : ev.length = n) (ht : tk.length = n) (p : Int) (x : Evt) (no : T (Ex × St AV)) (yes : List Evt -> List B1 -> T (Ex × St AV)) :
 (putT tk ev n n p x no yes).val = match putM ev tk p x with | none => no.val | some (a, b) => (yes a b).val := by
 unfold putT putM putN putB
 by_cases h1 : p < 0
 ·have d1 : (decide (p < 0) == false) = false := by simp [h1]
  rw [if_neg (by omega)]
  simp only [T.val, d1]
 ·have d1 : (decide (p < 0) == false) = true := by simp; omega
  by_cases h2 : p >= (n : Int)
  ·have d2 : (decide (p >= (n : Int)) == false) = false := by simp [h2]
   rw [if_neg (by omega)]
   simp only [T.val, d1, d2]
  ·have d2 : (decide (p >= (n : Int)) == false) = true := by simp; omega
   obtain ⟨k, rfl⟩ : ∃ k : Nat, p = k := ⟨p.toNat, by omega⟩
   have d3 : decide (0 <= (k : Int) /\ (k : Int) < (n : Int)) = true := decide_eq_true (by omega)
   have d4 : decide (k < tk.length) = true := decide_eq_true (by omega)
   have d5 : decide (k < ev.length) = true := decide_eq_true (by omega)
   simp only [T.val, d1, d2, d3, Int.toNat_natCast, Nat.zero_add, d4, d5]
   cases hb : (tk.getD k kbools.dflt).val with
   | true => rw [if_neg (by simp)]
   | false => rw [if_pos ⟨by omega, by omega, rfl⟩]
theorem stepO_run (σ : Sg) (b : Bool) (l wl : List Rw) (n : Nat) (m : MO) (r : Ex × MO) (h : (stepO l n m).val = some r) :
 ((xc (NV σ) (joinCal (lv (NV σ) (fun _ => none) 5)) (fun _ => none) 71 LO (famOM σ b l wl n m)).bind (backS 14 71 ksO pkJ)).val = some (r.1, famOM σ b l wl n r.2) := by
 replace h := need_some h
 obtain ⟨hb, h⟩ := h
 have hinv : invO l n m := by
  by_cases hi : invO l n m
  ·exact hi
  ·simp [hi] at hb
 simp only [T.val, Option.some.injEq] at h
 subst h
 obtain ⟨i, ev, tk, er⟩ := m
 obtain ⟨h1, h2, h3, h4, h5⟩ := hinv
 simp only at h1 h2 h3 h4 h5
 subst h5
 show ((xc (NV σ) (joinCal (lv (NV σ) (fun _ => none) 5)) (fun _ => none) 71 LO (famO σ b l wl l.length n n i ev tk false)).bind (backS 14 71 ksO pkJ)).val = _
 rw [oR]
 by_cases hlt : i < l.length
 ·have d1 : decide ((i : Int) < (l.length : Int)) = true := decide_eq_true (by omega)
  have d2 : decide (0 <= (i : Int) /\ (i : Int) < (l.length : Int)) = true := decide_eq_true (by omega)
  have d3 : decide (i < l.length) = true := decide_eq_true hlt
  simp only [T.val, d1, d2, d3, toN, if_pos hlt]
  generalize l.getD i krows.dflt = x
  rw [putT_val h3 h4]
  simp only [oneO]
  cases hp : putM ev tk x.frm (evB x) with
  | none => rfl
  | some q =>
    obtain ⟨ev1, tk1⟩ := q
    obtain ⟨q1, q2⟩ := putM_len hp
    simp only [T.val]
    cases hf : x.fin with
    | false => simp only [show (false == true) = false from rfl, Bool.false_eq_true, if_false, wrapS (show i < 1000000000 by omega), famOM]
    | true =>
      simp only [show (true == true) = true from rfl, if_true]
      rw [putT_val (by omega) (by omega)]
      cases hp2 : putM ev1 tk1 x.till (evE x) with
      | none => rfl
      | some q => simp only [T.val, wrapS (show i < 1000000000 by omega), famOM]
 ·have d1 : decide ((i : Int) < (l.length : Int)) = false := decide_eq_false (by omega)
  simp only [T.val, d1, if_neg hlt, famOM]
theorem iterO (l : List Rw) (n : Nat) : ∀ (k : Nat) (m : MO), invO l n m -> m.i + k = l.length -> iter (stepO l n) (k + 1) m = some (ofGo (l.drop m.i) m)
 | 0, m, h, hk => by
   simp only [iter, stepO, T.val, h, decide_true, if_neg (show ¬ m.i < l.length by omega)]
   rw [List.drop_of_length_le (by omega)]
   rfl
 | k + 1, m, h, hk => by
   have hlt : m.i < l.length := by omega
   rw [iter]
   simp only [stepO, T.val, h, decide_true, if_pos hlt]
   rw [drop_cons l krows.dflt hlt]
   simp only [ofGo]
   cases ho : oneO m (l.getD m.i krows.dflt) with
   | mk ex m' =>
     cases ex with
     | normal =>
       obtain ⟨g1, g2⟩ := oneO_inv h hlt ho
       simp only
       rw [iterO l n k m' g1 (by omega), g2]
     | exit id => rfl
     | ret => rfl
def of0 (n : Nat) : MO := ⟨0, List.replicate n ⟨0, false, 0, 0, 0, 0, 0, 0⟩, List.replicate n ⟨false⟩, false⟩
def ofM (l : List Rw) (n : Nat) : MO := (ofGo l (of0 n)).2
theorem ofGo_end : ∀ (l : List Rw) (m : MO), m.er = false -> ((ofGo l m).1 = .exit 0 /\ (ofGo l m).2.er = false) \/ ((ofGo l m).1 = .ret /\ (ofGo l m).2.er = true)
 | [], m, h => .inl ⟨rfl, h⟩
 | x :: r, m, h => by
   simp only [ofGo]
   cases ho : oneO m x with
   | mk ex m' =>
     unfold oneO at ho
     split at ho
     ·cases ho; exact .inr ⟨rfl, rfl⟩
     ·split at ho
      ·split at ho
       ·cases ho; exact .inr ⟨rfl, rfl⟩
       ·cases ho; exact ofGo_end r _ rfl
      ·cases ho; exact ofGo_end r _ rfl
def gO (σ : Sg) (s : St AV) : T (Ex × St AV) := match s.H with
 | [some (.abs (.sent 0)), none, some (.abs (.sent 2)), none, none, none, none, some (.abs (.rowsB b l)), some (.cells [.it .i64 nn] 3), some (.abs (.rows wl)), some (.abs (.events ev)), some (.cells [.vs 10 0 k 8 false] 43), some (.abs (.bools tk)), some (.cells [.vs 12 0 k' 1 false] 67)] =>
   match Sx.look s.E 0, Sx.look s.E 2, Sx.look s.E 3, Sx.look s.E 5, Sx.look s.E 7, Sx.look s.E 23, Sx.look s.E 24, Sx.look s.E 25 with
   | .v (.c (.vs 7 0 len 10 false)), .v (.c .snil), .v (.c .inil), .v (.c (.ptr 11 0)), .clo 22 [.ptr 8 0, .ptr 13 0, .ptr 11 0], .v (.c (.vs 7 0 len' 10 false)), .v (.c (.it .i64 n')), .v (.c (.il .i64 0)) =>
     .need (decide (len = l.length /\ len' = l.length /\ n' = (l.length : Int) /\ smallN l.length /\ k' = k /\ nn = (k : Int) /\ ev = List.replicate k ⟨0, false, 0, 0, 0, 0, 0, 0⟩ /\ tk = List.replicate k ⟨false⟩))
      (.ite (ofM l k).er (.leaf (.ret, famO σ b l wl l.length k k (ofM l k).i (ofM l k).ev (ofM l k).tk true))
        (.leaf (.exit 0, famO σ b l wl l.length k k (ofM l k).i (ofM l k).ev (ofM l k).tk false)))
   | _, _, _, _, _, _, _, _ => .fail "Of"
 | _ => .fail "Of"
theorem gO_ok {σ : Sg} {N' : Env AV} (hF : N'.F = (NV σ).F) (hG : N'.G = (NV σ).G) : LoopOk Tryd.prog N' 71 LO (gO σ) := by
 have hcal : CalOk Tryd.prog (NV σ) (joinCal (lv (NV σ) (fun _ => none) 5)) := joinCal_ok (lv_ok okV lpsV hvV (fun f g h => by cases h) 5)
 refine loopOk_it (N := NV σ) hF hG okV hcal (lp := fun _ => none) (fun _ _ _ g hg => by cases hg) fun s s' ex hgs => ?_
 obtain ⟨E1, H1⟩ := s
 unfold gO at hgs
 split at hgs
 ·rename_i b l nn wl ev k tk k' hs
  simp only at hs
  subst hs
  split at hgs
  ·rename_i len len' n' e0 e2 e3 e5 e7 e23 e24 e25
   replace hgs := need_some hgs
   obtain ⟨hb, hgs⟩ := hgs
   obtain ⟨rfl, rfl, rfl, hsm, rfl, rfl, rfl, rfl⟩ := of_decide_eq_true hb
   rename Nat => k
   have hgo : (ofGo l (of0 k)).1 = ex /\ famOM σ b l wl k (ofM l k) = s' := by
    rcases ofGo_end l (of0 k) rfl with ⟨g1, g2⟩ | ⟨g1, g2⟩
    ·have g2' : (ofM l k).er = false := g2
     simp only [T.val, g2', Option.some.injEq, Prod.mk.injEq] at hgs
     obtain ⟨rfl, rfl⟩ := hgs
     exact ⟨g1, by unfold famOM; rw [g2']⟩
    ·have g2' : (ofM l k).er = true := g2
     simp only [T.val, g2', Option.some.injEq, Prod.mk.injEq] at hgs
     obtain ⟨rfl, rfl⟩ := hgs
     exact ⟨g1, by unfold famOM; rw [g2']⟩
   obtain ⟨hx, rfl⟩ := hgo
   refine ⟨{ M := MO, fam := famOM σ b l wl k, step := stepO l k, ks := ksO, pk := pkJ, hpk := pkJ_ok, L := 14, len := rfl, hGL := (by show 7 <= 14; decide), run := stepO_run σ b l wl k, m := of0 k, k := l.length + 1, m' := ofM l k, ent := ?_, it := ?_, fin := rfl }⟩
   ·refine enter_only (N := NV σ) (s := ⟨E1, _⟩) (l := []) (fun a ha => by cases ha) (by show 7 <= 14; decide) fun k hk => ?_
    simp only [ksO, List.mem_cons, List.not_mem_nil, or_false] at hk
    rcases hk with rfl | rfl | rfl | rfl | rfl | rfl | rfl | rfl
    ·exact .inl e0.symm
    ·exact .inl e2.symm
    ·exact .inl e3.symm
    ·exact .inl e5.symm
    ·exact .inl e7.symm
    ·exact .inl e23.symm
    ·exact .inl e24.symm
    ·exact .inr (.inl (sayIl e25))
   ·rw [iterO l k l.length (of0 k) ⟨hsm, Nat.zero_le _, by simp [of0], by simp [of0], rfl⟩ (by show 0 + _ = _; omega), <- hx]
    rfl
  ·simp [T.val] at hgs
 ·simp [T.val] at hgs
def lpO (σ : Sg) : Lp := lpAdd 11 6 (gO σ) noLp
theorem lpO_ok {σ : Sg} : LpsOk Tryd.prog (NVl (lpO σ) σ) := lpsAdd lpsV (fn := Tryd.f11) (by kernel_rfl) (c := bodyOf Tryd.f11) (by kernel_rfl) (nt := 71) (by kernel_rfl) (b := LO) (oneLoop_spec (by kernel_rfl)) (gO_ok rfl rfl)
def tabO (σ : Sg) : Tab := tabAdd 21 (sumG isS noM wholeS) (tabAdd 23 (sumG isS rowM (rowsS σ)) (tabAdd 24 (sumG isS noM sameS) fun _ => none))
theorem tabO_ok {σ : Sg} : TabOk Tryd.prog (NV σ) (tabO σ) := tabAdd_ok (lp := noLp) wholeS_ok (tabAdd_ok (lp := noLp) rowsS_ok (tabAdd_ok (lp := noLp) sameS_ok fun f g h => by cases h))
noncomputable def ofR_T (σ : Sg) (b : Bool) (l : List Rw) : T (SV × List AV × List AV) :=
 let x0 : Int := (↑(List.length l) : Int);
 let x1 : List AV := [AV.rowsB b l];
 let x2 : Int := IntKind.wrap IntKind.i64 (x0 + (↑(List.length (List.filter Rw.fin l)) : Int));
 let x3 : Nat := Int.toNat x2;
 let x4 : MO := ofM l x3;
 let x5 : List Evt := MO.ev x4;
 let x6 : List B1 := List.replicate x3 (B1.mk false);
 let x7 : List Rw := MR.rs (rowsM x5);
 let x8 : Nat := List.length x5;
 let x9 : Nat := List.length x7;
 let x10 : List Evt := List.replicate x3 (Evt.mk 0 false 0 0 0 0 0 0);
 let y0 : T (SV × List AV × List AV) := (T.leaf (SV.tup [V1.c Cell.snil, V1.c (Cell.ifc 189 (Cell.op 0 (σ.1 0)))], x1, []));
 T.need (decide (List.length l = List.length l /\ smallN (List.length l))) (T.need (decide (0 <= x2 /\ x2 = x2 /\ x3 * (SI.bytes si43 + 1) <= lim)) (T.need (decide (0 <= x2 /\ x2 = x2 /\ x3 * (SI.bytes si67 + 1) <= lim)) (T.need (decide (List.length l = List.length l /\ List.length l = List.length l /\ x0 = x0 /\ smallN (List.length l) /\ x3 = x3 /\ x2 = (↑x3 : Int) /\ x10 = x10 /\ x6 = x6)) (T.ite (MO.er x4) y0 (T.need (decide (x3 = x8 /\ smallN x8)) (T.ite (errR x5) y0 (T.need (decide (x9 = x9 /\ List.length l = List.length l /\ smallN x9)) (T.ite (!sameL x7 l) y0 (T.leaf (SV.tup [V1.c (Cell.vs 8 0 x3 8 false), V1.c Cell.inil], x1, [AV.events x4.2]))))))))))
theorem ofR (σ : Sg) (b : Bool) (l : List Rw) : runN (lpO σ) σ (tabO σ) 11 rowM [.v (.c (.vs 7 0 l.length 10 false))] [.rowsB b l] = ofR_T σ b l := by kernel_rfl
theorem ofGo_len : ∀ (l : List Rw) (m : MO), (ofGo l m).2.ev.length = m.ev.length
 | [], m => rfl
 | x :: r, m => by
   simp only [ofGo]
   cases ho : oneO m x with
   | mk ex m' =>
     unfold oneO at ho
     split at ho
     ·cases ho; rfl
     ·rename_i ev tk hp
      obtain ⟨q1, _⟩ := putM_len hp
      split at ho
      ·split at ho
       ·cases ho; exact q1
       ·rename_i ev2 tk2 hp2
        obtain ⟨q3, _⟩ := putM_len hp2
        cases ho
        simp only
        rw [ofGo_len r]
        exact q3.trans q1
      ·cases ho
       simp only
       rw [ofGo_len r]
       exact q1
theorem ofM_len (l : List Rw) (n : Nat) : (ofM l n).ev.length = n := by unfold ofM; rw [ofGo_len]; simp [of0]
theorem rowsGo_len : ∀ (l : List Evt) (m : MR), (rowsGo l m).2.rs.length <= m.rs.length + l.length
 | [], m => Nat.le_refl _
 | x :: r, m => by
   simp only [rowsGo]
   cases ho : oneE m x with
   | mk ex m' =>
     unfold oneE at ho
     split at ho
     ·cases ho; simp
     ·split at ho
      ·cases ho; simp
      ·split at ho
       ·cases ho
        simp only
        refine Nat.le_trans (rowsGo_len r _) ?_
        simp <;> omega
       ·cases ho
        simp only
        refine Nat.le_trans (rowsGo_len r _) ?_
        simp <;> omega
theorem rowsM_len (e : List Evt) : (rowsM e).rs.length <= e.length := by
 have h : (rowsM e).rs.length <= ([] : List Rw).length + e.length := rowsGo_len e rows0
 simpa using h
def ofK (l : List Rw) : Nat := l.length + (l.filter Rw.fin).length
def ofEv (l : List Rw) : List Evt := (ofM l (ofK l)).ev
def ofOk (l : List Rw) : Bool := match (ofM l (ofK l)).er with
 | true => false
 | false => match errR (ofEv l) with
   | true => false
   | false => sameL (rowsM (ofEv l)).rs l
def ofS (σ : Sg) (args : List SV) (l : List AV) : T (SV × List AV × List AV) := match args, l with
 | [.v (.c (.vs n 0 len 10 false))], [a] => match Nat.beq n 7, rowsX a with
   | true, some (b, rs) => .need (decide (len = rs.length /\ rs.length <= 1000))
      (.ite (ofOk rs) (.leaf (.tup [.c (.vs (7 + 1) 0 (ofK rs) 8 false), .c .inil], [a], [.events (ofEv rs)]))
        (.leaf (.tup [.c .snil, .c (errC σ 0)], [a], [])))
   | _, _ => .fail "Of"
 | _, _ => .fail "Of"
theorem of_val (σ : Sg) (b : Bool) (l : List Rw) (h : l.length <= 1000) : (ofR_T σ b l).val = some (if ofOk l then (.tup [.c (.vs 8 0 (ofK l) 8 false), .c .inil], [.rowsB b l], [.events (ofEv l)]) else (.tup [.c .snil, .c (errC σ 0)], [.rowsB b l], [])) := by
 have hf : (l.filter Rw.fin).length <= l.length := List.length_filter_le _ _
 have hk : IntKind.wrap .i64 ((l.length : Int) + ((l.filter Rw.fin).length : Int)) = ((ofK l : Nat) : Int) := by
  unfold ofK; rw [wrap_in (by omega)]; omega
 have hK : ofK l <= 2000 := by unfold ofK; omega
 have d1 : decide (smallN l.length) = true := decide_eq_true (by simp only [smallN]; omega)
 have e1 : (((ofK l : Nat) : Int)).toNat = ofK l := Int.toNat_natCast _
 have d2 : decide (0 <= ((ofK l : Nat) : Int) /\ ofK l * (SI.bytes si43 + 1) <= lim) = true := decide_eq_true ⟨by omega, by simp only [si43, lim]; omega⟩
 have d3 : decide (0 <= ((ofK l : Nat) : Int) /\ ofK l * (SI.bytes si67 + 1) <= lim) = true := decide_eq_true ⟨by omega, by simp only [si67, lim]; omega⟩
 have e2 : (ofM l (ofK l)).ev.length = ofK l := ofM_len _ _
 have d4 : decide (smallN (ofK l)) = true := decide_eq_true (by simp only [smallN]; omega)
 have e3 := rowsM_len (ofM l (ofK l)).ev
 have d5 : decide (smallN (rowsM (ofM l (ofK l)).ev).rs.length) = true := decide_eq_true (by simp only [smallN]; omega)
 unfold ofOk ofEv
 simp only [ofR_T, T.val, hk, e1, true_and, and_true, d1, d2, d3, decide_true]
 cases h1 : (ofM l (ofK l)).er with
 | true => rfl
 | false =>
   simp only [e2, true_and, d4]
   cases h2 : errR (ofM l (ofK l)).ev with
   | true => rfl
   | false =>
     simp only [d5]
     cases h3 : sameL (rowsM (ofM l (ofK l)).ev).rs l with
     | true => rfl
     | false => rfl
theorem ofS_ok {σ : Sg} : FnOk Tryd.prog (NV σ) 11 (sumG isS rowM (ofS σ)) := by
 refine fnOk_env (N := NVl (lpO σ) σ) (N' := NV σ) rfl rfl ?_
 refine sumG_ok isS_ok rfl fun args l v l' nw h hl hargs => ?_
 unfold ofS at h
 split at h
 ·rename_i n len a
  split at h
  ·rename_i b rs h1 h2
   have hn := (beq_iff _ _).1 h1
   subst hn
   replace h := need_some h
   obtain ⟨hb, h⟩ := h
   obtain ⟨rfl, hsm⟩ := of_decide_eq_true hb
   have ha : Alike (NVl (lpO σ) σ) [a] [.rowsB b rs] := ⟨fun lc S w => rowsX_q h2 lc S w, trivial⟩
   have go : ∀ (v : SV) (nw : List AV), (ofR_T σ b rs).val = some (v, [.rowsB b rs], nw) -> Ctr Tryd.prog (NVl (lpO σ) σ) 11 [.v (.c (.vs 7 0 rs.length 10 false))] (hpO rowM [a]) v (hpO rowM ([a] ++ nw)) := fun v nw hr => by
    rw [<- ofR] at hr
    have hc := (runN_ok lpO_ok (tabOk_lp (lp := noLp) tabO_ok) (M := rowM) rfl (l := [.rowsB b rs]) (fun x hx => by
     rw [List.mem_singleton.1 hx]
     exact cl_vs (hpO_at rowM [.rowsB b rs] 0 _ rfl)) hr).1
    exact ctr_alike (l := [a]) (m := [.rowsB b rs]) (l' := [a]) (m' := [.rowsB b rs]) ha ha.symm hc
   have hv := of_val σ b rs hsm
   cases hh : ofOk rs with
   | true =>
     simp only [T.val, hh, Option.some.injEq, Prod.mk.injEq] at h
     obtain ⟨rfl, rfl, rfl⟩ := h
     rw [hh, if_pos rfl] at hv
     exact go _ _ hv
   | false =>
     simp only [T.val, hh, Option.some.injEq, Prod.mk.injEq] at h
     obtain ⟨rfl, rfl, rfl⟩ := h
     rw [hh, if_neg (by decide)] at hv
     exact go _ _ hv
  ·simp [T.val] at h
 ·simp [T.val] at h
end Go.Proofs.YtpapbhbnaalhcaaDoor

namespace Go.Proofs.YtpapbhbnaalhcaaDoor
open Go Go.Sx Go.Proofs
set_option linter.unusedVariables false
set_option maxRecDepth 100000
def CreedM.sm (m : CreedM) : Bool := decide (m.vals.length <= 100000 /\ m.pairs.length <= 100000)
def creedY : AV -> Option (CreedM × Bool)
 | .obj 1 ty [.p (.it .i64 st), .s (.ints v) n 1, .s (.pairs p) k 2] => match Nat.beq ty tCreed with
   | true => some (⟨st, v, p⟩, decide (n = v.length /\ k = p.length))
   | false => none
 | _ => none
theorem creedY_spec {a : AV} {m : CreedM} (h : creedY a = some (m, true)) : a = creedV m := by
 unfold creedY at h
 split at h
 ·rename_i ty st v n p k
  split at h
  ·rename_i h2
   simp only [Option.some.injEq, Prod.mk.injEq] at h
   obtain ⟨rfl, hb⟩ := h
   obtain ⟨rfl, rfl⟩ := of_decide_eq_true hb
   have h2 := (beq_iff _ _).1 h2
   subst h2
   rfl
  ·cases h
 ·cases h
theorem kind_iv {k : Int} (h1 : k ≠ 1) (h2 : k ≠ 2) (h3 : k ≠ 3) (h4 : k ≠ 4) (h5 : k ≠ 5) (h6 : k ≠ 6) (h7 : k ≠ 7) (h8 : k ≠ 8) : ∀ c ∈ [(1 : Int), 2, 3, 4, 5, 6, 7, 8], (k == c) = false := by
 intro c hc
 simp only [List.mem_cons, List.not_mem_nil, or_false] at hc
 rcases hc with rfl | rfl | rfl | rfl | rfl | rfl | rfl | rfl <;> simp [*]
theorem may_any (σ : Sg) (m : CreedM) (o : O) (a : An) (hv : m.vals.length <= 100000) (hp : m.pairs.length <= 100000) : ∃ c0 : Cell, (∀ ρ : Nm, c0.den ρ = .int .i64 o.kind) /\ c0.name = none /\ (runM σ 9 m [.v (.agg [c0, .it .i64 o.key, .it .i64 o.val, .it .i64 o.tall]), .v (.agg a.enc)]).val = some (.v (.c (.bl (mayM m o a).1)), [creedV (mayM m o a).2], []) := by
 obtain ⟨k, x, y, z⟩ := o
 by_cases h1 : k = 1
 ·subst h1
  obtain ⟨v, g1, g2⟩ := may1_val σ m ⟨1, x, y, z⟩ a hv hp
  subst g2
  exact ⟨.il .i64 1, fun ρ => rfl, rfl, (congrArg T.val (may1 σ m ⟨1, x, y, z⟩ a)).trans g1⟩
 by_cases h2 : k = 2
 ·subst h2
  obtain ⟨v, g1, g2⟩ := may2_val σ m ⟨2, x, y, z⟩ a hv hp
  subst g2
  exact ⟨.il .i64 2, fun ρ => rfl, rfl, (congrArg T.val (may2 σ m ⟨2, x, y, z⟩ a)).trans g1⟩
 by_cases h3 : k = 3
 ·subst h3
  obtain ⟨v, g1, g2⟩ := may3_val σ m ⟨3, x, y, z⟩ a hv hp
  subst g2
  exact ⟨.il .i64 3, fun ρ => rfl, rfl, (congrArg T.val (may3 σ m ⟨3, x, y, z⟩ a)).trans g1⟩
 by_cases h4 : k = 4
 ·subst h4
  obtain ⟨v, g1, g2⟩ := may4_val σ m ⟨4, x, y, z⟩ a hv hp
  subst g2
  exact ⟨.il .i64 4, fun ρ => rfl, rfl, (congrArg T.val (may4 σ m ⟨4, x, y, z⟩ a)).trans g1⟩
 by_cases h5 : k = 5
 ·subst h5
  obtain ⟨v, g1, g2⟩ := may5_val σ m ⟨5, x, y, z⟩ a hv hp
  subst g2
  exact ⟨.il .i64 5, fun ρ => rfl, rfl, (congrArg T.val (may5 σ m ⟨5, x, y, z⟩ a)).trans g1⟩
 by_cases h6 : k = 6
 ·subst h6
  obtain ⟨v, g1, g2⟩ := may6_val σ m ⟨6, x, y, z⟩ a hv hp
  subst g2
  exact ⟨.il .i64 6, fun ρ => rfl, rfl, (congrArg T.val (may6 σ m ⟨6, x, y, z⟩ a)).trans g1⟩
 by_cases h7 : k = 7
 ·subst h7
  obtain ⟨v, g1, g2⟩ := may7_val σ m ⟨7, x, y, z⟩ a hv hp
  subst g2
  exact ⟨.il .i64 7, fun ρ => rfl, rfl, (congrArg T.val (may7 σ m ⟨7, x, y, z⟩ a)).trans g1⟩
 by_cases h8 : k = 8
 ·subst h8
  obtain ⟨v, g1, g2⟩ := may8_val σ m ⟨8, x, y, z⟩ a hv hp
  subst g2
  exact ⟨.il .i64 8, fun ρ => rfl, rfl, (congrArg T.val (may8 σ m ⟨8, x, y, z⟩ a)).trans g1⟩
 have hn := kind_iv h1 h2 h3 h4 h5 h6 h7 h8
 obtain ⟨v, g1, g2⟩ := mayX_val σ m ⟨k, x, y, z⟩ hn a hv hp
 subst g2
 exact ⟨.iv .i64 k [1, 2, 3, 4, 5, 6, 7, 8] hn, fun ρ => rfl, rfl, (congrArg T.val (mayX σ m ⟨k, x, y, z⟩ hn a)).trans g1⟩
theorem do_any (σ : Sg) (m : CreedM) (o : O) (hv : m.vals.length <= 100000) (hp : m.pairs.length <= 100000) : ∃ (c0 : Cell) (v : SV), (∀ ρ : Nm, c0.den ρ = .int .i64 o.kind) /\ c0.name = none /\ (runM σ 44 m [.v (.agg [c0, .it .i64 o.key, .it .i64 o.val, .it .i64 o.tall])]).val = some (v, [creedV (doM m o).2], []) /\ doQ σ (doM m o).1 v := by
 obtain ⟨k, x, y, z⟩ := o
 by_cases h1 : k = 1
 ·subst h1
  obtain ⟨v, g1, g2⟩ := do1_val σ m ⟨1, x, y, z⟩ hv hp
  exact ⟨.il .i64 1, v, fun ρ => rfl, rfl, (congrArg T.val (do1 σ m ⟨1, x, y, z⟩)).trans g1, g2⟩
 by_cases h2 : k = 2
 ·subst h2
  obtain ⟨v, g1, g2⟩ := do2_val σ m ⟨2, x, y, z⟩ hv hp
  exact ⟨.il .i64 2, v, fun ρ => rfl, rfl, (congrArg T.val (do2 σ m ⟨2, x, y, z⟩)).trans g1, g2⟩
 by_cases h3 : k = 3
 ·subst h3
  obtain ⟨v, g1, g2⟩ := do3_val σ m ⟨3, x, y, z⟩ hv hp
  exact ⟨.il .i64 3, v, fun ρ => rfl, rfl, (congrArg T.val (do3 σ m ⟨3, x, y, z⟩)).trans g1, g2⟩
 by_cases h4 : k = 4
 ·subst h4
  obtain ⟨v, g1, g2⟩ := do4_val σ m ⟨4, x, y, z⟩ hv hp
  exact ⟨.il .i64 4, v, fun ρ => rfl, rfl, (congrArg T.val (do4 σ m ⟨4, x, y, z⟩)).trans g1, g2⟩
 by_cases h5 : k = 5
 ·subst h5
  obtain ⟨v, g1, g2⟩ := do5_val σ m ⟨5, x, y, z⟩ hv hp
  exact ⟨.il .i64 5, v, fun ρ => rfl, rfl, (congrArg T.val (do5 σ m ⟨5, x, y, z⟩)).trans g1, g2⟩
 by_cases h6 : k = 6
 ·subst h6
  obtain ⟨v, g1, g2⟩ := do6_val σ m ⟨6, x, y, z⟩ hv hp
  exact ⟨.il .i64 6, v, fun ρ => rfl, rfl, (congrArg T.val (do6 σ m ⟨6, x, y, z⟩)).trans g1, g2⟩
 by_cases h7 : k = 7
 ·subst h7
  obtain ⟨v, g1, g2⟩ := do7_val σ m ⟨7, x, y, z⟩ hv hp
  exact ⟨.il .i64 7, v, fun ρ => rfl, rfl, (congrArg T.val (do7 σ m ⟨7, x, y, z⟩)).trans g1, g2⟩
 by_cases h8 : k = 8
 ·subst h8
  obtain ⟨v, g1, g2⟩ := do8_val σ m ⟨8, x, y, z⟩ hv hp
  exact ⟨.il .i64 8, v, fun ρ => rfl, rfl, (congrArg T.val (do8 σ m ⟨8, x, y, z⟩)).trans g1, g2⟩
 have hn := kind_iv h1 h2 h3 h4 h5 h6 h7 h8
 obtain ⟨v, g1, g2⟩ := doX_val σ m ⟨k, x, y, z⟩ hn hv hp
 exact ⟨.iv .i64 k [1, 2, 3, 4, 5, 6, 7, 8] hn, v, fun ρ => rfl, rfl, (congrArg T.val (doX σ m ⟨k, x, y, z⟩ hn)).trans g1, g2⟩
noncomputable def mayS (args : List SV) (l : List AV) : T (SV × List AV × List AV) := match args, l with
 | [.v (.c (.ptr n 0)), .v (.agg cs), .v (.agg ds)], [a] => match Nat.beq n 7, O.dec cs, An.dec ds, creedY a with
   | true, some o, some an, some (m, b) => .need b (.need m.sm (.leaf (.v (.c (.bt (mayM m o an).1)), [creedV (mayM m o an).2], [])))
   | _, _, _, _ => .fail "May"
 | _, _ => .fail "May"
theorem anc_names (a : An) : ∀ x ∈ a.enc, x.name = none := fun x hx => by
 simp only [An.enc, List.mem_cons, List.not_mem_nil, or_false] at hx
 rcases hx with rfl | rfl <;> rfl
theorem dec_den {cs ds : List Cell} (h : denL Nm.id ds = denL Nm.id cs) (h1 : ∀ c ∈ cs, c.name = none) (h2 : ∀ c ∈ ds, c.name = none) (ρ : Nm) : denL ρ cs = denL ρ ds := by
 rw [names_den h1 ρ Nm.id, names_den h2 ρ Nm.id, h]
theorem mayS_ok {σ : Sg} : FnOk Tryd.prog (NV σ) 9 (sumG isS fitM mayS) := by
 refine sumG_ok isS_ok rfl fun args l v l' nw h hl hargs => ?_
 unfold mayS at h
 split at h
 ·rename_i n cs ds a
  split at h
  ·rename_i o an m b h1 h2 h3 h4
   have hn := (beq_iff _ _).1 h1
   subst hn
   replace h := need_some h
   obtain ⟨hb, h⟩ := h
   subst hb
   have ha := creedY_spec h4
   subst ha
   replace h := need_some h
   obtain ⟨hb, h⟩ := h
   obtain ⟨hv, hp⟩ := of_decide_eq_true hb
   simp only [T.val, Option.some.injEq, Prod.mk.injEq] at h
   obtain ⟨rfl, rfl, rfl⟩ := h
   obtain ⟨c0, e1, e2, e3⟩ := may_any σ m o an hv hp
   obtain ⟨q1, q2⟩ := O.dec_ok cs o h2
   obtain ⟨r1, r2⟩ := An.dec_ok ds an h3
   have hcn : ∀ x ∈ [c0, .it .i64 o.key, .it .i64 o.val, .it .i64 o.tall], x.name = none := fun x hx => by
    simp only [List.mem_cons, List.not_mem_nil, or_false] at hx
    rcases hx with rfl | rfl | rfl | rfl
    ·exact e2
    all_goals rfl
   have hc := runC_ctr tabF_ok (M := fitM) rfl (fun H x hx => by
    simp only [List.mem_cons, List.not_mem_nil, or_false] at hx
    rcases hx with rfl | rfl
    ·exact cl_agg hcn
    ·exact cl_agg (anc_names an)) e3
   refine ctr_val (ctr_args hc fun ρ => ?_) (cl_plain rfl) fun ρ => rfl
   have d1 : denL ρ cs = denL ρ [c0, .it .i64 o.key, .it .i64 o.val, .it .i64 o.tall] := by
    rw [dec_den q1 q2 (enc_names o) ρ]
    simp only [O.enc, denL, List.map_cons, List.map_nil, e1 ρ, Cell.den]
   have d2 : denL ρ ds = denL ρ an.enc := dec_den r1 r2 (anc_names an) ρ
   simp only [List.map_cons, List.map_nil, SV.den, V1.den, d1, d2]
  ·simp [T.val] at h
 ·simp [T.val] at h
noncomputable def doS (σ : Sg) (args : List SV) (l : List AV) : T (SV × List AV × List AV) := match args, l with
 | [.v (.c (.ptr n 0)), .v (.agg cs)], [a] => match Nat.beq n 7, O.dec cs, creedY a with
   | true, some o, some (m, b) => .need b (.need m.sm (.ite (fitsM m.st o) (.leaf (.tup [.agg [.it .i64 (ansM m o).code, .it .i64 (ansM m o).val], .c .inil], [creedV (doM m o).2], []))
      (.leaf (.tup [.agg [.il .i64 0, .il .i64 0], .c (errC σ 0)], [creedV (doM m o).2], []))))
   | _, _, _ => .fail "Do"
 | _, _ => .fail "Do"
theorem doS_ok {σ : Sg} : FnOk Tryd.prog (NV σ) 44 (sumG isS fitM (doS σ)) := by
 refine sumG_ok isS_ok rfl fun args l v l' nw h hl hargs => ?_
 unfold doS at h
 split at h
 ·rename_i n cs a
  split at h
  ·rename_i o m b h1 h2 h4
   have hn := (beq_iff _ _).1 h1
   subst hn
   replace h := need_some h
   obtain ⟨hb, h⟩ := h
   subst hb
   have ha := creedY_spec h4
   subst ha
   replace h := need_some h
   obtain ⟨hb, h⟩ := h
   obtain ⟨hv, hp⟩ := of_decide_eq_true hb
   obtain ⟨c0, u, e1, e2, e3, e4⟩ := do_any σ m o hv hp
   obtain ⟨q1, q2⟩ := O.dec_ok cs o h2
   have hcn : ∀ x ∈ [c0, .it .i64 o.key, .it .i64 o.val, .it .i64 o.tall], x.name = none := fun x hx => by
    simp only [List.mem_cons, List.not_mem_nil, or_false] at hx
    rcases hx with rfl | rfl | rfl | rfl
    ·exact e2
    all_goals rfl
   have hc := runC_ctr tabF_ok (M := fitM) rfl (fun H x hx => by rw [List.mem_singleton.1 hx]; exact cl_agg hcn) e3
   have hc' := ctr_args (args' := [.v (.c (.ptr 7 0)), .v (.agg cs)]) hc fun ρ => by
    have d1 : denL ρ cs = denL ρ [c0, .it .i64 o.key, .it .i64 o.val, .it .i64 o.tall] := by
     rw [dec_den q1 q2 (enc_names o) ρ]
     simp only [O.enc, denL, List.map_cons, List.map_nil, e1 ρ, Cell.den]
    simp only [List.map_cons, List.map_nil, SV.den, V1.den, d1]
   cases hf : fitsM m.st o with
   | true =>
     simp only [T.val, hf, Option.some.injEq, Prod.mk.injEq] at h
     obtain ⟨rfl, rfl, rfl⟩ := h
     rw [show (doM m o).1 = some (ansM m o) by rw [doM_yes hf]] at e4
     obtain ⟨x0, x1, rfl, n0, n1, hd⟩ := e4
     refine ctr_val hc' (fun x hx => ?_) fun ρ => ?_
     ·simp only [List.mem_cons, List.not_mem_nil, or_false] at hx
      rcases hx with rfl | rfl
      ·intro c hc m' hm'
       simp only [V1.cells, List.mem_cons, List.not_mem_nil, or_false] at hc
       rcases hc with rfl | rfl <;> cases hm'
      ·intro c hc m' hm'
       simp [V1.cells] at hc
       subst hc
       cases hm'
     ·simp only [SV.den, V1.den, denL, List.map_cons, List.map_nil, Cell.den, (hd ρ).1, (hd ρ).2]
   | false =>
     simp only [T.val, hf, Option.some.injEq, Prod.mk.injEq] at h
     obtain ⟨rfl, rfl, rfl⟩ := h
     rw [show (doM m o).1 = none by rw [doM_no hf]] at e4
     subst e4
     exact hc'
  ·simp [T.val] at h
 ·simp [T.val] at h
def _root_.Go.Sx.Rw.op (r : Rw) : O := ⟨r.kind, r.key, r.val, r.tall⟩
def _root_.Go.Sx.Rw.an (r : Rw) : An := ⟨r.code, r.aval⟩
noncomputable def perfM (m : CreedM) (r : Rw) : Bool × CreedM := if r.fin = true then mayM m r.op r.an else (fitsM m.st r.op, (doM m r.op).2)
noncomputable def tabD (σ : Sg) : Tab := tabAdd 9 (sumG isS fitM mayS) (tabAdd 44 (sumG isS fitM (doS σ)) fun _ => none)
theorem tabD_ok {σ : Sg} : TabOk Tryd.prog (NV σ) (tabD σ) := tabAdd_ok (lp := noLp) mayS_ok (tabAdd_ok (lp := noLp) doS_ok fun f g h => by cases h)
noncomputable def perfR_T (σ : Sg) (m : CreedM) (r : Rw) : T (SV × List AV × List AV) :=
 let x0 : CreedM := CreedM.mk (CreedM.st m) (CreedM.vals m) (CreedM.pairs m);
 let x1 : Bool := CreedM.sm x0;
 let x2 : O := O.mk (Rw.kind r) (Rw.key r) (Rw.val r) (Rw.tall r);
 let x3 : CreedM := Prod.snd (doM x0 x2);
 let x4 : CreedM := Prod.snd (mayM x0 x2 (An.mk (Rw.code r) (Rw.aval r)));
 let x5 : Bool :=
  decide
   (List.length (CreedM.vals m) = List.length (CreedM.vals m) /\
    List.length (CreedM.pairs m) = List.length (CreedM.pairs m));
 T.ite (Rw.fin r) (T.need x5 (T.need x1 (T.leaf (SV.v (V1.c (Cell.bt (Prod.fst (mayM x0 x2 (An.mk (Rw.code r) (Rw.aval r)))))), [AV.obj 1 58 [GC.p (Cell.it IntKind.i64 (CreedM.st x4)), GC.s (AV.ints x4.2) (List.length (CreedM.vals x4)) 1, GC.s (AV.pairs x4.3) (List.length (CreedM.pairs x4)) 2]], [])))) (T.need x5 (T.need x1 (T.ite (fitsM (CreedM.st m) x2) (T.leaf (SV.v (V1.c (Cell.bl true)), [AV.obj 1 58 [GC.p (Cell.it IntKind.i64 (CreedM.st x3)), GC.s (AV.ints x3.2) (List.length (CreedM.vals x3)) 1, GC.s (AV.pairs x3.3) (List.length (CreedM.pairs x3)) 2]], [])) (T.leaf (SV.v (V1.c (Cell.bl false)), [AV.obj 1 58 [GC.p (Cell.it IntKind.i64 (CreedM.st x3)), GC.s (AV.ints x3.2) (List.length (CreedM.vals x3)) 1, GC.s (AV.pairs x3.3) (List.length (CreedM.pairs x3)) 2]], [])))))
theorem perfR (σ : Sg) (m : CreedM) (r : Rw) : runN noLp σ (tabD σ) 33 fitM [.v (.c (.ptr 7 0)), .v (.agg r.enc)] [creedV m] = perfR_T σ m r := by kernel_rfl
end Go.Proofs.YtpapbhbnaalhcaaDoor

namespace Go.Proofs.YtpapbhbnaalhcaaDoor
open Go Go.Sx Go.Proofs
set_option linter.unusedVariables false
set_option maxRecDepth 100000
theorem rw_names (r : Rw) : ∀ x ∈ r.enc, x.name = none := fun x hx => by
 simp only [Rw.enc, List.mem_cons, List.not_mem_nil, or_false] at hx
 rcases hx with rfl | rfl | rfl | rfl | rfl | rfl | rfl | rfl | rfl | rfl <;> rfl
noncomputable def perfS (args : List SV) (l : List AV) : T (SV × List AV × List AV) := match args, l with
 | [.v (.c (.ptr n 0)), .v (.agg cs)], [a] => match Nat.beq n 7, Rw.dec cs, creedY a with
   | true, some r, some (m, b) => .need b (.need m.sm (.leaf (.v (.c (.bt (perfM m r).1)), [creedV (perfM m r).2], [])))
   | _, _, _ => .fail "perform"
 | _, _ => .fail "perform"
theorem perf_val (σ : Sg) (m : CreedM) (r : Rw) (h : m.sm = true) : ∃ c : Cell, (perfR_T σ m r).val = some (.v (.c c), [creedV (perfM m r).2], []) /\ c.name = none /\ ∀ ρ : Nm, c.den ρ = .bool (perfM m r).1 := by
 obtain ⟨st, vals, pairs⟩ := m
 unfold perfM Rw.op Rw.an
 cases hf : r.fin with
 | true =>
   simp only [perfR_T, T.val, hf, h, decide_true, if_true]
   exact ⟨_, rfl, rfl, fun ρ => rfl⟩
 | false =>
   simp only [perfR_T, T.val, hf, h, decide_true, Bool.false_eq_true, if_false]
   cases hh : fitsM st ⟨r.kind, r.key, r.val, r.tall⟩ with
   | true => simp only [T.val]; exact ⟨_, rfl, rfl, fun ρ => rfl⟩
   | false => simp only [T.val]; exact ⟨_, rfl, rfl, fun ρ => rfl⟩
theorem perfS_ok {σ : Sg} : FnOk Tryd.prog (NV σ) 33 (sumG isS fitM perfS) := by
 refine sumG_ok isS_ok rfl fun args l v l' nw h hl hargs => ?_
 unfold perfS at h
 split at h
 ·rename_i n cs a
  split at h
  ·rename_i r m b h1 h2 h4
   have hn := (beq_iff _ _).1 h1
   subst hn
   replace h := need_some h
   obtain ⟨hb, h⟩ := h
   subst hb
   have ha := creedY_spec h4
   subst ha
   replace h := need_some h
   obtain ⟨hb, h⟩ := h
   simp only [T.val, Option.some.injEq, Prod.mk.injEq] at h
   obtain ⟨rfl, rfl, rfl⟩ := h
   obtain ⟨c, e1, e2, e3⟩ := perf_val σ m r hb
   rw [<- perfR] at e1
   obtain ⟨q1, q2⟩ := Rw.dec_ok cs r h2
   have hc := (runN_ok lpsV tabD_ok (M := fitM) rfl (l := [creedV m]) (fun x hx => by
    simp only [List.mem_cons, List.not_mem_nil, or_false] at hx
    rcases hx with rfl | rfl
    ·exact cl_ptr (hpO_at fitM [creedV m] 0 _ rfl)
    ·exact cl_agg (rw_names r)) e1).1
   refine ctr_val (ctr_args hc fun ρ => ?_) (cl_plain rfl) fun ρ => (e3 ρ).symm
   simp only [List.map_cons, List.map_nil, SV.den, V1.den, dec_den q1 q2 (rw_names r) ρ]
  ·simp [T.val] at h
 ·simp [T.val] at h
def dupY (args : List SV) (l : List AV) : T (SV × List AV × List AV) := match args, l with
 | [.v (.c (.ptr n 0))], [a] => match Nat.beq n 7, creedY a with
   | true, some (m, b) => .need b (.need m.sm (.leaf (.v (.c (.ptr (7 + 1) 0)), [creedV m], [creedV m])))
   | _, _ => .fail "Clone"
 | _, _ => .fail "Clone"
theorem dupY_ok {σ : Sg} : FnOk Tryd.prog (NV σ) 38 (sumG isS noM dupY) := by
 refine sumG_ok isS_ok rfl fun args l v l' nw h hl hargs => ?_
 unfold dupY at h
 split at h
 ·rename_i n a
  split at h
  ·rename_i m b h1 h3
   have hn := (beq_iff _ _).1 h1
   subst hn
   replace h := need_some h
   obtain ⟨hb, h⟩ := h
   subst hb
   have ha := creedY_spec h3
   subst ha
   replace h := need_some h
   obtain ⟨hb, h⟩ := h
   obtain ⟨hv, hp⟩ := of_decide_eq_true hb
   simp only [T.val, Option.some.injEq, Prod.mk.injEq] at h
   obtain ⟨rfl, rfl, rfl⟩ := h
   have g1 := dup_val σ m (by omega) (by omega)
   rw [<- cloneR] at g1
   exact runC_ctr tabK_ok (M := noM) rfl (args := []) (fun H x hx => by cases hx) g1
  ·simp [T.val] at h
 ·simp [T.val] at h
def numB (n : Int) (c : UInt8) : List UInt8 := Lib.itoa n ++ [c]
def ctextB (m : CreedM) : List UInt8 := (if m.st = 1 then m.vals.reverse else m.vals).flatMap (fun v => numB v.val 32) ++ m.pairs.flatMap fun p => numB p.key 61 ++ numB p.val 32
def ctext (m : CreedM) : ByteArray := ⟨(ctextB m).toArray⟩
def contM : List Bool := [false, false, false, false, false, false, false]
def in64 (n : Int) : Bool := decide (-9223372036854775808 <= n /\ n <= 9223372036854775807)
def contOk (m : CreedM) : Bool := decide (m.vals.length <= 1000 /\ m.pairs.length <= 1000) && (m.vals.all (fun v => in64 v.val) && m.pairs.all fun p => in64 p.key && in64 p.val)
def contS (args : List SV) (l : List AV) : T (SV × List AV × List AV) := match args, l with
 | [.v (.c (.ptr n 0))], [a] => match Nat.beq n 7, creedY a with
   | true, some (m, b) => .need b (.need (contOk m) (.leaf (.v (.c (.sv (ctext m))), [creedV m], [])))
   | _, _ => .fail "contents"
 | _, _ => .fail "contents"
end Go.Proofs.YtpapbhbnaalhcaaDoor

namespace Go.Sx
set_option linter.unusedVariables false
variable {AV : Type} {P : Program} {N : Env AV}
theorem Back.own {L nt : Nat} {s t : St AV} {π : Nat -> Nat} (h : Back N L nt s t π) {ρ : Nm} {w : World} (ho : Own N ρ s.H w) : Own N (ρ.ren π) t.H w := by
 refine ⟨⟨fun n c hc => ?_, fun n m c d hnm hc hd k hk hk' => ?_, fun g hg => ?_⟩, ho.ro.1, fun n c k hc hk => ?_⟩
 ·obtain ⟨d, g1, g2⟩ := h.H n c hc
  exact q_ren.1 ((g2 ρ (π n) w).1 (ho.q _ _ g1))
 ·obtain ⟨c', g1, g2⟩ := h.H n c hc
  obtain ⟨d', g3, g4⟩ := h.H m d hd
  rw [<- fp_ren] at hk hk'
  exact ho.dis (π n) (π m) _ _ (fun e => hnm (h.inj n m c d hc hd e)) g1 g3 k (((g2 ρ (π n) w).2 k).1 hk) (((g4 ρ (π m) w).2 k).1 hk')
 ·show ρ (π g) = g
  rw [h.fix g (by have := h.G; omega)]
  exact ho.glb g hg
 ·obtain ⟨d, g1, g2⟩ := h.H n c hc
  rw [<- fp_ren] at hk
  exact ho.ro.2 (π n) _ k g1 (((g2 ρ (π n) w).2 k).1 hk)
def stV (r : SV × Hp AV) : Ex × St AV := (.ret, { E := only [0] [(0, r.1)] 1, H := r.2 })
theorem ctr_back {L : Nat} {f : FuncId} {args : List SV} {H H2 : Hp AV} {v : SV} (hL : H.length = L) (hG : N.G <= L) (hc : Ctr P N f args H v H2) {pk : Chunk AV -> Option AV} (hpk : ∀ d a, pk d = some a -> ∀ π, Lesser N (d.ren π) (.abs a))
 {v' : SV} {H' : Hp AV} (hv : v' ≠ .unk) (hb : (backS L 1 [0] pk (stV (v, H2))).val = some (stV (v', H'))) : Ctr P N f args H v' H' := by
 subst hL
 obtain ⟨_, π, hb⟩ := backS_ok hpk hG hb
 obtain ⟨h1, h2, h3⟩ := hc
 have e0 : v = v'.ren π := hb.E 0 (by omega) hv
 refine ⟨hb.cl.E 0, ⟨hb.cl.H, trivial⟩, fun ρ w hO => (h3 ρ w hO).mono ?_⟩
 rintro e w' ⟨ρ', rfl, o, ev⟩
 refine ⟨ρ'.ren π, ?_, hb.own o, hb.evo rfl ev⟩
 rw [e0, SV.den_ren]
theorem opn_nil {H : Hp AV} (hC : ClHp N H) {n : Nat} {l l' : List Cell} {ty : TypeId} (hn : hget H n = some (.cells l ty)) {a : AV} {es : Nat} {aty : TypeId} (ha : N.F.arr a = some (es, aty, []))
 (hl : ∀ ρ ρ' : Nm, (∀ m, m < H.length -> ρ'.L m = ρ.L m) -> ρ'.L H.length = ⟨0, 0, 0⟩ -> denL ρ' l' = denL ρ l) (hG : N.G <= H.length) : Opn N H (lset H n (some (.cells l' ty)) ++ absL [a]) := fun ρ w hO => by
 have hlt := hget_lt hn
 have get : ∀ m, hget (lset H n (some (.cells l' ty)) ++ absL [a]) m = if m < H.length then (if m = n then some (.cells l' ty) else hget H m) else if m = H.length then some (.abs a) else none := fun m => by
  rw [hget_append, length_lset]
  by_cases h1 : m < H.length
  ·rw [if_pos h1, if_pos h1]
   by_cases h2 : m = n
   ·subst h2; rw [if_pos rfl, hget_lset_self _ h1]
   ·rw [if_neg h2, hget_lset_ne _ fun e => h2 e.symm]
  ·rw [if_neg h1, if_neg h1]
   by_cases h2 : m = H.length
   ·subst h2; rw [if_pos rfl, Nat.sub_self]; rfl
   ·rw [if_neg h2]
    obtain ⟨k, hk⟩ : ∃ k, m - H.length = k + 1 := ⟨m - H.length - 1, by omega⟩
    rw [hk]; rfl
 let ρ' : Nm := ⟨fun m => if m < H.length then ρ.L m else ⟨0, 0, 0⟩, fun m => if m < H.length then ρ.S m else fun _ => False⟩
 have eL : ∀ m, m < H.length -> ρ'.L m = ρ.L m := fun m h => if_pos h
 have eS : ∀ m, m < H.length -> ρ'.S m = ρ.S m := fun m h => if_pos h
 have eL0 : ρ'.L H.length = ⟨0, 0, 0⟩ := if_neg (by omega)
 have eS0 : ρ'.S H.length = fun _ => False := if_neg (by omega)
 have agr : ∀ m c, hget H m = some c -> ρ'.L m = ρ.L m := fun m c h => eL m (hget_lt h)
 have fp0 : ∀ m c k, hget (lset H n (some (.cells l' ty)) ++ absL [a]) m = some c -> c.fp ρ' m k -> ∃ d, hget H m = some d /\ d.fp ρ m k := fun m c k hc hk => by
  rw [get] at hc
  split at hc
  ·rename_i h1
   split at hc
   ·rename_i h2
    cases hc
    subst h2
    rw [fp_congr (eL _ h1) (eS _ h1)] at hk
    exact ⟨_, hn, hk⟩
   ·rw [fp_congr (eL m h1) (eS m h1)] at hk
    exact ⟨c, hc, hk⟩
  ·split at hc
   ·rename_i h2
    cases hc
    subst h2
    have hk : ρ'.S H.length k := hk
    rw [eS0] at hk
    exact hk.elim
   ·cases hc
 refine ⟨ρ', hO.sub ⟨fun m c hc => ?_, fun m m' c d hne hc hd k hk hk' => ?_, fun g hg => ?_⟩ fun m c k hc hk => ?_, fun m h => eL m h, fun m d k hd hk => ?_⟩
 ·rw [get] at hc
  split at hc
  ·rename_i h1
   split at hc
   ·rename_i h2
    cases hc
    subst h2
    have hq := hO.q _ _ hn
    have e := hl ρ ρ' eL eL0
    have hf : ρ' m = ρ m := by simp only [Nm.f, eL m h1]
    show w.heap[ρ' m]? = _
    rw [hf, e]
    exact hq
   ·exact q_keep (hO.q m c hc) (eL m h1) (eS m h1) (denL_congr (hC.1 m c hc) fun x y hy => agr x y hy) (fun _ _ => rfl)
  ·split at hc
   ·rename_i h2
    cases hc
    subst h2
    show N.F.q a _ _ _
    rw [eL0, eS0]
    exact ((N.F.arr_q a _ _ _ ha).2 _ _ _).2 (.inl ⟨Nat.zero_le _, rfl, fun k h => h⟩)
   ·cases hc
 ·obtain ⟨c', h1, h2⟩ := fp0 m c k hc hk
  obtain ⟨d', h3, h4⟩ := fp0 m' d k hd hk'
  exact hO.dis m m' c' d' hne h1 h3 k h2 h4
 ·show (ρ'.L g).b = g
  rw [eL g (by omega)]
  exact hO.glb g hg
 ·obtain ⟨c', h1, h2⟩ := fp0 m c k hc hk
  exact ⟨m, c', h1, h2⟩
 ·obtain ⟨c', h1, h2⟩ := fp0 m d k hd hk
  exact ⟨m, c', h1, h2⟩
end Go.Sx
