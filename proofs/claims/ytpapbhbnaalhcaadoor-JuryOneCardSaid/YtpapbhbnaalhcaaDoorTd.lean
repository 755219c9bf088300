import Derived.Test.YtpapbhbnaalhcaaDoorTc
namespace Go.Proofs.YtpapbhbnaalhcaaDoor
open Go Go.Sx Go.Proofs
set_option linter.unusedVariables false
set_option maxRecDepth 100000
theorem plFl : Plain (.v (.c (.bl false))) := by
 intro c hc
 simp [V1.cells] at hc
 subst hc; rfl
def famS (x6 : SV) (H : Hp AV) : St AV := { E := only ksK [(6, x6), (12, .v (.c .snil)), (15, .v (.c (.il .i64 0)))] 126, H := H }
theorem runS (σ : Sg) (x6 : SV) (H : Hp AV) : (xc (NV σ) (joinCal (lv (NV σ) (fun _ => none) 5)) (fun _ => none) 126 LK (famS x6 H)).map (onlyS ksK 126) = .leaf (.exit 2, famS x6 H) := by kernel_rfl
def gK (s : St AV) : T (Ex × St AV) := match Sx.look s.E 12, Sx.look s.E 15 with
 | .v (.c (.vs 11 0 n 1 false)), .v (.c (.il .i64 0)) => match s.H with
   | h0 :: h1 :: h2 :: h3 :: h4 :: h5 :: h6 :: h7 :: h8 :: h9 :: h10 :: some (.abs (.ints o)) :: r => .need (decide (n = o.length /\ o.length <= 1000)) (.ite (ordI 0 o)
      (.leaf (.exit 2, famKA ⟨h0, h1, h2, h3, h4, h5, h6, h7, h8, h9, h10, r⟩ o o.length (Sx.look s.E 6) o.length)) (.leaf (.ret, famKA ⟨h0, h1, h2, h3, h4, h5, h6, h7, h8, h9, h10, r⟩ o o.length (.v (.c (.bl false))) (stopI 0 o))))
   | _ => .fail "JuryOne: order"
 | .v (.c (.vs 12 0 n 1 false)), .v (.c (.il .i64 0)) => match s.H with
   | h0 :: h1 :: h2 :: h3 :: h4 :: h5 :: h6 :: h7 :: h8 :: h9 :: h10 :: h11 :: some (.abs (.ints o)) :: r => .need (decide (n = o.length /\ o.length <= 1000)) (.ite (ordI 0 o)
      (.leaf (.exit 2, famKB ⟨h0, h1, h2, h3, h4, h5, h6, h7, h8, h9, h10, h11, r⟩ o o.length (Sx.look s.E 6) o.length)) (.leaf (.ret, famKB ⟨h0, h1, h2, h3, h4, h5, h6, h7, h8, h9, h10, h11, r⟩ o o.length (.v (.c (.bl false))) (stopI 0 o))))
   | _ => .fail "JuryOne: order"
 | .v (.c .snil), .v (.c (.il .i64 0)) => .leaf (.exit 2, famS (Sx.look s.E 6) s.H)
 | _, _ => .fail "JuryOne: order"
theorem gK_ok {σ : Sg} {N' : Env AV} (hF : N'.F = (NV σ).F) (hG : N'.G = (NV σ).G) : LoopOk Tryd.prog N' 126 LK gK := by
 have hcal : CalOk Tryd.prog (NV σ) (joinCal (lv (NV σ) (fun _ => none) 5)) := joinCal_ok (lv_ok okV lpsV hvV (fun f g h => by cases h) 5)
 refine loopOk_q (N := NV σ) hF hG okV hcal (lp := fun _ => none) (fun _ _ _ g hg => by cases hg) fun s s' ex hgs => ?_
 obtain ⟨E1, H1⟩ := s
 unfold gK at hgs
 split at hgs
 ·rename_i n e12 e15
  split at hgs
  ·rename_i h0 h1 h2 h3 h4 h5 h6 h7 h8 h9 h10 o r hs
   simp only at hs e12 e15
   subst hs
   replace hgs := need_some hgs
   obtain ⟨hb, hgs⟩ := hgs
   obtain ⟨rfl, hl⟩ := of_decide_eq_true hb
   obtain ⟨m', hit, hfin⟩ : ∃ m', iter (stepK o) (o.length + 1) (0, false) = some (ex, m') /\ s' = famBKA ⟨h0, h1, h2, h3, h4, h5, h6, h7, h8, h9, h10, r⟩ (Sx.look E1 6) o m' := by
    have hi := iterK o hl o.length 0 (by omega)
    rw [List.drop_zero] at hi
    cases h7 : ordI 0 o with
    | true =>
      rw [h7] at hi hgs
      rw [ivT rfl] at hgs
      simp only [T.val, Option.some.injEq, Prod.mk.injEq] at hgs
      obtain ⟨rfl, rfl⟩ := hgs
      exact ⟨_, hi, rfl⟩
    | false =>
      rw [h7] at hi hgs
      rw [ivF rfl] at hgs
      simp only [T.val, Option.some.injEq, Prod.mk.injEq] at hgs
      obtain ⟨rfl, rfl⟩ := hgs
      exact ⟨_, hi, rfl⟩
   refine ⟨{ M := Nat × Bool, fam := famBKA ⟨h0, h1, h2, h3, h4, h5, h6, h7, h8, h9, h10, r⟩ (Sx.look E1 6) o, step := stepK o, ks := ksK, run := stepKA_run σ _ _ o, heap := fun _ => rfl, m := (0, false), k := o.length + 1, m' := m', ent := ?_, it := hit, fin := hfin, cl := ?_ }⟩
   ·refine says_only (nt := 126) (ks := ksK) (E := E1) fun k hk _ => ?_
    simp only [ksK, List.mem_cons, List.not_mem_nil, or_false] at hk
    rcases hk with rfl | rfl | rfl
    ·exact .inl rfl
    ·exact .inl e12.symm
    ·exact .inr ⟨(by rw [e15]; intro h; cases h), plIt _, fun ρ => (by rw [e15]; rfl)⟩
   ·intro hc
    rw [hfin]
    refine closed_ks (fun k hk => ?_) hc.H
    simp only [ksK, List.mem_cons, List.not_mem_nil, or_false] at hk
    rcases hk with rfl | rfl | rfl
    ·obtain ⟨i, ret⟩ := m'
     cases ret with
     | true => exact plFl.cl _
     | false => exact hc.E 6
    ·have := hc.E 12; rw [e12] at this; exact this
    ·exact (plIt _).cl _
  ·simp [T.val] at hgs
 ·rename_i n e12 e15
  split at hgs
  ·rename_i h0 h1 h2 h3 h4 h5 h6 h7 h8 h9 h10 h11 o r hs
   simp only at hs e12 e15
   subst hs
   replace hgs := need_some hgs
   obtain ⟨hb, hgs⟩ := hgs
   obtain ⟨rfl, hl⟩ := of_decide_eq_true hb
   obtain ⟨m', hit, hfin⟩ : ∃ m', iter (stepK o) (o.length + 1) (0, false) = some (ex, m') /\ s' = famBKB ⟨h0, h1, h2, h3, h4, h5, h6, h7, h8, h9, h10, h11, r⟩ (Sx.look E1 6) o m' := by
    have hi := iterK o hl o.length 0 (by omega)
    rw [List.drop_zero] at hi
    cases h7 : ordI 0 o with
    | true =>
      rw [h7] at hi hgs
      rw [ivT rfl] at hgs
      simp only [T.val, Option.some.injEq, Prod.mk.injEq] at hgs
      obtain ⟨rfl, rfl⟩ := hgs
      exact ⟨_, hi, rfl⟩
    | false =>
      rw [h7] at hi hgs
      rw [ivF rfl] at hgs
      simp only [T.val, Option.some.injEq, Prod.mk.injEq] at hgs
      obtain ⟨rfl, rfl⟩ := hgs
      exact ⟨_, hi, rfl⟩
   refine ⟨{ M := Nat × Bool, fam := famBKB ⟨h0, h1, h2, h3, h4, h5, h6, h7, h8, h9, h10, h11, r⟩ (Sx.look E1 6) o, step := stepK o, ks := ksK, run := stepKB_run σ _ _ o, heap := fun _ => rfl, m := (0, false), k := o.length + 1, m' := m', ent := ?_, it := hit, fin := hfin, cl := ?_ }⟩
   ·refine says_only (nt := 126) (ks := ksK) (E := E1) fun k hk _ => ?_
    simp only [ksK, List.mem_cons, List.not_mem_nil, or_false] at hk
    rcases hk with rfl | rfl | rfl
    ·exact .inl rfl
    ·exact .inl e12.symm
    ·exact .inr ⟨(by rw [e15]; intro h; cases h), plIt _, fun ρ => (by rw [e15]; rfl)⟩
   ·intro hc
    rw [hfin]
    refine closed_ks (fun k hk => ?_) hc.H
    simp only [ksK, List.mem_cons, List.not_mem_nil, or_false] at hk
    rcases hk with rfl | rfl | rfl
    ·obtain ⟨i, ret⟩ := m'
     cases ret with
     | true => exact plFl.cl _
     | false => exact hc.E 6
    ·have := hc.E 12; rw [e12] at this; exact this
    ·exact (plIt _).cl _
  ·simp [T.val] at hgs
 ·rename_i e12 e15
  simp only at e12 e15
  simp only [T.val, Option.some.injEq, Prod.mk.injEq] at hgs
  obtain ⟨rfl, rfl⟩ := hgs
  refine ⟨{ M := Unit, fam := fun _ => famS (Sx.look E1 6) H1, step := fun _ => .leaf (.exit 2, ()), ks := ksK, run := fun m q h => ?_, heap := fun _ => rfl, m := (), k := 1, m' := (), ent := ?_, it := rfl, fin := rfl, cl := ?_ }⟩
  ·simp only [T.val, Option.some.injEq] at h
   subst h
   rw [runS]
   rfl
  ·refine says_only (nt := 126) (ks := ksK) (E := E1) fun k hk _ => ?_
   simp only [ksK, List.mem_cons, List.not_mem_nil, or_false] at hk
   rcases hk with rfl | rfl | rfl
   ·exact .inl rfl
   ·exact .inl e12.symm
   ·exact .inl e15.symm
  ·intro hc
   refine closed_ks (fun k hk => ?_) hc.H
   simp only [ksK, List.mem_cons, List.not_mem_nil, or_false] at hk
   rcases hk with rfl | rfl | rfl
   ·exact hc.E 6
   ·have := hc.E 12; rw [e12] at this; exact this
   ·have := hc.E 15; rw [e15] at this; exact this
 ·simp [T.val] at hgs
def lpOne (V : OneV) : Lp := lpAdd 3 12 (gJg V) (lpAdd 3 20 gK noLp)
noncomputable def tabOn (σ : Sg) (L : LinV) : Tab := tabAdd 7 (sumG isS linM treeT) (tabAdd 8 (sumG isS argM (newS σ)) (tabAdd 10 (packT (sumG isS linM (linP σ L))) fun _ => none))
theorem tabOn_ok {σ : Sg} (ht : TabR σ) : TabOk Tryd.prog (NV σ) (tabOn σ linT) :=
 tabAdd_ok (lp := noLp) (awake_ok ht) (tabAdd_ok (lp := noLp) newS_ok (tabAdd_ok (lp := noLp) (packT_ok (linP_ok ht)) fun f g h => by cases h))
noncomputable def oneR_T (σ : Sg) (L : LinV) (V : OneV) (s : Int) (l : List O) (a : List An) : T (SV × List AV × List AV) :=
 let x0 : Nat := List.length (OneV.rs V l a);
 let x1 : Int := (↑(List.length l) : Int);
 let x2 : Bool := LinV.ok L (OneV.rs V l a);
 let x3 : Int := 1 + Int.tmod (IntKind.wrap IntKind.u64 s) 5;
 let x4 : Bool := OneV.may V l a x3;
 let x5 : List N1 := LinV.ord L x3 true [];
 let x6 : Bool := LinV.is L x3 (OneV.rs V l a);
 let x7 : List N1 := LinV.ord L x3 true (OneV.rs V l a);
 let x8 : Nat := List.length x5;
 let x9 : Nat := List.length x7;
 let x10 : Bool := decide ((↑x0 : Int) > 12);
 let x11 : Bool := decide (List.length l = x0 /\ x0 <= 1000);
 let x12 : Bool := decide (1 <= x3 /\ x3 <= 5);
 let y0 : T (SV × List AV × List AV) := (T.leaf (SV.v (V1.c (Cell.bl true)), [AV.opsA l, AV.answersA a], []));
 let y1 : T (SV × List AV × List AV) := (T.leaf (SV.v (V1.c (Cell.bl false)), [AV.opsA l, AV.answersA a], []));
 let y2 : T (SV × List AV × List AV) := (T.need (decide (x9 = x9 /\ x9 <= 1000)) (T.ite (ordI 0 x7) y0 y1));
 let y3 : T (SV × List AV × List AV) := (T.ite (match (!false == x4) == false with | true => false | false => true) y1 y0);
 let y4 : T (SV × List AV × List AV) := (T.ite (match (!true == x4) == false with | true => (match ((↑x9 : Int) != x1) == false with | true => false | false => true) | false => true) y1 y2);
 let y5 : T (SV × List AV × List AV) := (T.ite x10 y1 (T.ite x6 y4 y3));
 let y6 : T (SV × List AV × List AV) := (T.ite x12 (T.ite x2 y5 y1) y1);
 T.ite (match decide (x1 > 12) == false with | true => decide ((↑(List.length a) : Int) < x1) | false => true) y0 (T.ite x12 (T.need true (T.need true (T.need (decide (List.length l = List.length l /\ List.length a = List.length a /\ List.length l <= 12 /\ List.length l <= List.length a /\ x3 = x3)) (T.ite (decide (0 < List.length l)) (T.ite (decide (1 < List.length l)) (T.ite (OneV.ask V l a x3) (T.need x11 y6) (T.need x11 (T.ite x12 (T.ite x2 (T.ite x10 y1 (T.ite x6 y1 y0)) y1) y1))) (T.need x11 y6)) (T.need true (T.ite x12 (T.ite (LinV.ok L []) (T.ite false y1 (T.ite (LinV.is L x3 []) (T.ite (match ((↑x8 : Int) != x1) == false with | true => false | false => true) y1 (T.need (decide (x8 = x8 /\ x8 <= 1000)) (T.ite (ordI 0 x5) y0 y1))) y1)) y1) y1)))))) y1)
theorem oneR (σ : Sg) (L : LinV) (V : OneV) (s : Int) (l : List O) (a : List An) : runN (lpOne V) σ (tabOn σ L) 3 linM [.v (.c (.it .i64 s)), .v (.c (.vs 7 0 l.length 4 false)), .v (.c (.vs (7 + 1) 0 a.length 2 false))] [.opsA l, .answersA a] = oneR_T σ L V s l a := by kernel_rfl
end Go.Proofs.YtpapbhbnaalhcaaDoor
