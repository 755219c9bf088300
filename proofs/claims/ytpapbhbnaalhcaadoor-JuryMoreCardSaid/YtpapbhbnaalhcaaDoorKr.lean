import Derived.Test.YtpapbhbnaalhcaaDoorKq
namespace Go.Proofs.YtpapbhbnaalhcaaDoor
open Go Go.Sx Go.Proofs
set_option linter.unusedVariables false
set_option maxRecDepth 100000
def ksMoreL : List Nat := [0, 1, 6, 10, 11, 12, 13]
structure XMoreL where
 h0 : Option (Chunk AV)
 h1 : Option (Chunk AV)
 h2 : Option (Chunk AV)
 h3 : Option (Chunk AV)
 h4 : Option (Chunk AV)
 h5 : Option (Chunk AV)
 h6 : Option (Chunk AV)
 r : Hp AV
 x0 : SV
 x10 : SV
 x11 : SV
 x12 : SV
 x6 : SV
def famMoreL (x : XMoreL) (b : Bool) (l : List Rw) (n : Nat) (x6 : SV) (i : Int) : St AV :=
 { E := only ksMoreL [(0, x.x0), (1, .v (.c (.vs 7 0 n 10 false))), (6, x6), (10, x.x10), (11, x.x11), (12, x.x12), (13, .v (.c (.it .i64 i)))] 96,
   H := x.h0 :: x.h1 :: x.h2 :: x.h3 :: x.h4 :: x.h5 :: x.h6 :: some (.abs (.rowsB b l)) :: x.r }
noncomputable def LMoreL : Code := loopAt 12 (loopsOf (bodyOf Tryd.f4))
theorem runMoreL (σ : Sg) (x : XMoreL) (b : Bool) (l : List Rw) (n : Nat) (i : Int) : (xc (NV σ) (joinCal (lv (NV σ) (fun _ => none) 5)) (fun _ => none) 96 LMoreL (famMoreL x b l n x.x6 i)).map (onlyS ksMoreL 96) =
 .ite (decide (i < (n : Int))) (.need (needA n l.length i)
  (.ite ((l.getD (0 + i.toNat) krows.dflt).thread == 77) (.leaf (.ret, famMoreL x b l n (.v (.c (.bl true))) i))
    (.leaf (.normal, famMoreL x b l n x.x6 (IntKind.wrap .i64 (i + 1))))))
  (.leaf (.exit 0, famMoreL x b l n x.x6 i)) := by kernel_rfl
def stepMoreL (l : List Rw) (m : Nat × Bool) : T (Ex × (Nat × Bool)) := .need (decide (l.length <= 1000 /\ m.1 <= l.length /\ m.2 = false))
 (.leaf (if m.1 < l.length then (if (l.getD m.1 krows.dflt).thread = 77 then (.ret, (m.1, true)) else (.normal, (m.1 + 1, false))) else (.exit 0, m)))
def famBMoreL (x : XMoreL) (b : Bool) (l : List Rw) (m : Nat × Bool) : St AV := famMoreL x b l l.length (match m.2 with | true => .v (.c (.bl true)) | false => x.x6) m.1
theorem stepMoreL_run (σ : Sg) (x : XMoreL) (b : Bool) (l : List Rw) (m : Nat × Bool) (q : Ex × (Nat × Bool)) (h : (stepMoreL l m).val = some q) :
 ((xc (NV σ) (joinCal (lv (NV σ) (fun _ => none) 5)) (fun _ => none) 96 LMoreL (famBMoreL x b l m)).map (onlyS ksMoreL 96)).val = some (q.1, famBMoreL x b l q.2) := by
 replace h := need_some h
 obtain ⟨hb, h⟩ := h
 obtain ⟨h1, h2, h3⟩ := of_decide_eq_true hb
 simp only [T.val, Option.some.injEq] at h
 subst h
 obtain ⟨i, ret⟩ := m
 simp only at h2 h3
 subst h3
 have e : famBMoreL x b l (i, false) = famMoreL x b l l.length x.x6 i := rfl
 rw [e, runMoreL]
 by_cases hlt : i < l.length
 ·have e1 : 0 + (i : Int).toNat = i := by omega
  have hw : IntKind.wrap .i64 ((i : Int) + 1) = ((i + 1 : Nat) : Int) := wrapS (by omega)
  have d2 : needA l.length l.length i = true := by
   unfold needA
   rw [decide_eq_true (show 0 <= (i : Int) /\ (i : Int) < (l.length : Int) by omega)]
   exact decide_eq_true (by omega)
  simp only [if_pos hlt]
  rw [ivT (decide_eq_true (by omega)), nv d2, e1, hw]
  by_cases h7 : (l.getD i krows.dflt).thread = 77
  ·rw [ivT (by simpa using h7), if_pos h7]
   rfl
  ·rw [ivF (by simpa using h7), if_neg h7]
   rfl
 ·simp only [if_neg hlt]
  rw [ivF (decide_eq_false (by omega))]
  rfl
theorem iterMoreL (l : List Rw) (hl : l.length <= 1000) : ∀ (k i : Nat), i + k = l.length -> iter (stepMoreL l) (k + 1) (i, false) = some (match has77 (l.drop i) with | true => (.ret, (i + at77 (l.drop i), true)) | false => (.exit 0, (l.length, false)))
 | 0, i, hk => by
   have e : i = l.length := by omega
   subst e
   simp only [iter, stepMoreL, T.val, decide_eq_true (show l.length <= 1000 /\ l.length <= l.length /\ True from ⟨hl, Nat.le_refl _, trivial⟩), if_neg (Nat.lt_irrefl _), List.drop_length]
   rfl
 | k + 1, i, hk => by
   have hlt : i < l.length := by omega
   rw [iter]
   simp only [stepMoreL, T.val, decide_eq_true (show l.length <= 1000 /\ i <= l.length /\ True from ⟨hl, by omega, trivial⟩), if_pos hlt]
   rw [drop_cons l krows.dflt hlt]
   by_cases h7 : (l.getD i krows.dflt).thread = 77
   ·rw [if_pos h7]
    simp only [has77_cons, at77, h7, beq_self_eq_true, Bool.true_or, Nat.add_zero]
   ·have h7' : ((l.getD i krows.dflt).thread == 77) = false := by simpa using h7
    rw [if_neg h7]
    simp only [has77_cons, at77, h7', Bool.false_or]
    rw [iterMoreL l hl k (i + 1) (by omega)]
    cases has77 (l.drop (i + 1)) with
    | true => simp only; rw [show i + 1 + at77 (l.drop (i + 1)) = i + (at77 (l.drop (i + 1)) + 1) by omega]
    | false => rfl
def gMoreL (s : St AV) : T (Ex × St AV) := match s.H with
 | h0 :: h1 :: h2 :: h3 :: h4 :: h5 :: h6 :: some (.abs (.rowsB b l)) :: r => match Sx.look s.E 1, Sx.look s.E 13 with
   | .v (.c (.vs 7 0 n 10 false)), .v (.c (.il .i64 0)) => .need (decide (n = l.length /\ l.length <= 1000)) (.ite (has77 l)
      (.leaf (.ret, famMoreL ⟨h0, h1, h2, h3, h4, h5, h6, r, Sx.look s.E 0, Sx.look s.E 10, Sx.look s.E 11, Sx.look s.E 12, Sx.look s.E 6⟩ b l l.length (.v (.c (.bl true))) (at77 l)))
      (.leaf (.exit 0, famMoreL ⟨h0, h1, h2, h3, h4, h5, h6, r, Sx.look s.E 0, Sx.look s.E 10, Sx.look s.E 11, Sx.look s.E 12, Sx.look s.E 6⟩ b l l.length (Sx.look s.E 6) l.length)))
   | _, _ => .fail "77"
 | _ => .fail "77"
theorem gMoreL_ok {σ : Sg} {N' : Env AV} (hF : N'.F = (NV σ).F) (hG : N'.G = (NV σ).G) : LoopOk Tryd.prog N' 96 LMoreL gMoreL := by
 have hcal : CalOk Tryd.prog (NV σ) (joinCal (lv (NV σ) (fun _ => none) 5)) := joinCal_ok (lv_ok okV lpsV hvV (fun f g h => by cases h) 5)
 refine loopOk_q (N := NV σ) hF hG okV hcal (lp := fun _ => none) (fun _ _ _ g hg => by cases hg) fun s s' ex hgs => ?_
 obtain ⟨E1, H1⟩ := s
 unfold gMoreL at hgs
 split at hgs
 ·rename_i h0 h1 h2 h3 h4 h5 h6 b l r hs
  simp only at hs
  subst hs
  split at hgs
  ·rename_i n e1 e13
   simp only at e1 e13
   replace hgs := need_some hgs
   obtain ⟨hb, hgs⟩ := hgs
   obtain ⟨rfl, hl⟩ := of_decide_eq_true hb
   obtain ⟨m', hit, hfin⟩ : ∃ m', iter (stepMoreL l) (l.length + 1) (0, false) = some (ex, m') /\ s' = famBMoreL ⟨h0, h1, h2, h3, h4, h5, h6, r, Sx.look E1 0, Sx.look E1 10, Sx.look E1 11, Sx.look E1 12, Sx.look E1 6⟩ b l m' := by
    have hi := iterMoreL l hl l.length 0 (by omega)
    rw [List.drop_zero, Nat.zero_add] at hi
    cases h7 : has77 l with
    | true =>
      rw [h7] at hi hgs
      rw [ivT rfl] at hgs
      simp only [T.val, Option.some.injEq, Prod.mk.injEq] at hgs
      obtain ⟨rfl, rfl⟩ := hgs
      exact ⟨_, hi, rfl⟩
    | false =>
      rw [h7] at hi hgs
      rw [ivF rfl] at hgs
      simp only [T.val, Option.some.injEq, Prod.mk.injEq] at hgs
      obtain ⟨rfl, rfl⟩ := hgs
      exact ⟨_, hi, rfl⟩
   refine ⟨{ M := Nat × Bool, fam := famBMoreL ⟨h0, h1, h2, h3, h4, h5, h6, r, Sx.look E1 0, Sx.look E1 10, Sx.look E1 11, Sx.look E1 12, Sx.look E1 6⟩ b l, step := stepMoreL l, ks := ksMoreL, run := stepMoreL_run σ _ b l, heap := fun _ => rfl, m := (0, false), k := l.length + 1, m' := m', ent := ?_, it := hit, fin := hfin, cl := ?_ }⟩
   ·refine says_only (nt := 96) (ks := ksMoreL) (E := E1) fun k hk _ => ?_
    simp only [ksMoreL, List.mem_cons, List.not_mem_nil, or_false] at hk
    rcases hk with rfl | rfl | rfl | rfl | rfl | rfl | rfl
    ·exact .inl rfl
    ·exact .inl e1.symm
    ·exact .inl rfl
    ·exact .inl rfl
    ·exact .inl rfl
    ·exact .inl rfl
    ·exact .inr ⟨(by rw [e13]; intro h; cases h), plIt _, fun ρ => (by rw [e13]; rfl)⟩
   ·intro hc
    rw [hfin]
    refine closed_ks (fun k hk => ?_) hc.H
    simp only [ksMoreL, List.mem_cons, List.not_mem_nil, or_false] at hk
    rcases hk with rfl | rfl | rfl | rfl | rfl | rfl | rfl
    ·exact hc.E 0
    ·have := hc.E 1; rw [e1] at this; exact this
    ·obtain ⟨i, ret⟩ := m'
     cases ret with
     | true => exact plTr.cl _
     | false => exact hc.E 6
    ·exact hc.E 10
    ·exact hc.E 11
    ·exact hc.E 12
    ·exact (plIt _).cl _
  ·simp [T.val] at hgs
 ·simp [T.val] at hgs
def lpMore : Lp := lpAdd 4 12 gMoreL noLp
theorem lpMore_ok {σ : Sg} : LpsOk Tryd.prog (NVl lpMore σ) := lpsAdd lpsV (fn := Tryd.f4) (by kernel_rfl) (c := bodyOf Tryd.f4) (by kernel_rfl) (nt := 96) (by kernel_rfl) (b := LMoreL) (oneLoop_spec (by kernel_rfl)) (gMoreL_ok rfl rfl)
noncomputable def moreR_T (σ : Sg) (L : LinV) (s : Int) (b : Bool) (l : List Rw) (o : O) : T (SV × List AV × List AV) :=
 let x0 : Int := (↑(List.length l) : Int);
 let x1 : Addr := Sg.σ σ 0;
 let x2 : Nat := SI.bytes si31 + 1;
 let x3 : Nat := List.length l + 1;
 let x4 : Int := 1 + Int.tmod (IntKind.wrap IntKind.u64 s) 5;
 let x5 : List Rw := [Rw.mk 0 0 0 0 0 0 0 5 0 false];
 let x6 : Bool := LinV.ok L x5;
 let x7 : List Rw := l ++ [Rw.mk 77 (O.kind o) (O.key o) (O.val o) (O.tall o) 0 0 ((↑(LinV.k L l) : Int)) 0 false];
 let x8 : Nat := List.length x7;
 let x9 : Bool := LinV.ok L x7;
 let x10 : Bool := decide (List.length l = List.length l /\ List.length l <= 1000);
 let x11 : Bool := LinV.is L x4 x5;
 let x12 : Bool := LinV.is L x4 x7;
 let x13 : Bool := decide (List.length l = Intf.len (F2 σ) (AV.rows l) /\ List.length l * x2 <= lim);
 let x14 : Bool := decide ((↑x8 : Int) > 12);
 let x15 : Bool := decide (List.length l = Intf.len (F2 σ) (AV.rows l) /\ x3 * x2 <= lim);
 let x16 : Bool := decide (1 <= x4 /\ x4 <= 5);
 let x17 : Bool := decide (x3 = x8 /\ x8 <= 1000);
 let y0 : T (SV × List AV × List AV) := (T.ite x11 (T.fail "Is") (T.fail "Is"));
 let y1 : T (SV × List AV × List AV) := (T.ite false (T.fail "Is") y0);
 let y2 : T (SV × List AV × List AV) := (T.leaf (SV.v (V1.c (Cell.bl true)), [AV.rowsB b l], []));
 let y3 : T (SV × List AV × List AV) := (T.need (decide (x1 = x1)) y2);
 let y4 : T (SV × List AV × List AV) := (T.ite x16 (T.ite x6 y1 y3) y3);
 let y5 : T (SV × List AV × List AV) := (T.leaf (SV.v (V1.c (Cell.bl false)), [AV.rowsB b l], []));
 let y6 : T (SV × List AV × List AV) := (T.ite false y5 (T.ite x11 y5 y5));
 let y7 : T (SV × List AV × List AV) := (T.ite x16 (T.ite x6 y6 y5) y5);
 let y8 : T (SV × List AV × List AV) := (T.ite x12 (T.need true y7) (T.need true y7));
 let y9 : T (SV × List AV × List AV) := (T.ite x14 (T.need true y7) y8);
 let y10 : T (SV × List AV × List AV) := (T.ite x9 y9 (T.need true y7));
 let y11 : T (SV × List AV × List AV) := (T.ite x16 y10 (T.need true y7));
 let y12 : T (SV × List AV × List AV) := (T.ite (has77 l) y2 (T.need x17 y11));
 let y13 : T (SV × List AV × List AV) := (T.need x15 (T.need x10 y12));
 T.ite (decide (x0 > 7)) y2 (T.need x10 (T.ite (LinV.ok L l) (T.need x10 (T.ite x16 (T.ite (LinV.ok L l) (T.ite (decide (x0 > 12)) (T.need x13 y13) (T.ite (LinV.is L x4 l) (T.need x13 (T.need x15 (T.need x10 (T.ite (has77 l) y2 (T.need x17 (T.ite x16 (T.ite x9 (T.ite x14 (T.need true y7) (T.ite x12 (T.need true y4) (T.need true y7))) (T.need true y7)) (T.need true y7))))))) (T.need x13 (T.need x15 (T.need x10 (T.ite (has77 l) y2 (T.need x17 (T.ite x16 (T.ite x9 (T.ite x14 (T.need true y7) (T.ite x12 (T.need true y7) (T.need true y4))) (T.need true y7)) (T.need true y7))))))))) (T.need x13 y13)) (T.need x13 y13))) y2))
theorem moreR (σ : Sg) (L : LinV) (s : Int) (b : Bool) (l : List Rw) (o : O) : runN lpMore σ (tabY σ L) 4 linM [.v (.c (.it .i64 s)), .v (.c (.vs 7 0 l.length 10 false)), .v (.agg o.enc)] [.rowsB b l] = moreR_T σ L s b l o := by kernel_rfl
end Go.Proofs.YtpapbhbnaalhcaaDoor
