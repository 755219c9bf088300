import Derived.Test.YtpapbhbnaalhcaaDoorKq
namespace Go.Proofs.YtpapbhbnaalhcaaDoor
open Go Go.Sx Go.Proofs
set_option linter.unusedVariables false
set_option maxRecDepth 100000
def ksFullL : List Nat := [1, 6, 7, 8, 10, 11]
structure XFullL where
 h0 : Option (Chunk AV)
 h1 : Option (Chunk AV)
 h2 : Option (Chunk AV)
 h3 : Option (Chunk AV)
 h4 : Option (Chunk AV)
 h5 : Option (Chunk AV)
 h6 : Option (Chunk AV)
 r : Hp AV
 x7 : SV
 x8 : SV
 x10 : SV
 x6 : SV
def famFullL (x : XFullL) (b : Bool) (l : List Rw) (n : Nat) (x6 : SV) (i : Int) : St AV :=
 { E := only ksFullL [(1, .v (.c (.vs 7 0 n 10 false))), (6, x6), (7, x.x7), (8, x.x8), (10, x.x10), (11, .v (.c (.it .i64 i)))] 109,
   H := x.h0 :: x.h1 :: x.h2 :: x.h3 :: x.h4 :: x.h5 :: x.h6 :: some (.abs (.rowsB b l)) :: x.r }
noncomputable def LFullL : Code := loopAt 18 (loopsOf (bodyOf Tryd.f6))
theorem runFullL (σ : Sg) (x : XFullL) (b : Bool) (l : List Rw) (n : Nat) (i : Int) : (xc (NV σ) (joinCal (lv (NV σ) (fun _ => none) 5)) (fun _ => none) 109 LFullL (famFullL x b l n x.x6 i)).map (onlyS ksFullL 109) =
 .ite (decide (i < (n : Int))) (.need (needA n l.length i)
  (.ite ((l.getD (0 + i.toNat) krows.dflt).thread == 77) (.leaf (.ret, famFullL x b l n (.v (.c (.bl true))) i))
    (.leaf (.normal, famFullL x b l n x.x6 (IntKind.wrap .i64 (i + 1))))))
  (.leaf (.exit 1, famFullL x b l n x.x6 i)) := by kernel_rfl
def stepFullL (l : List Rw) (m : Nat × Bool) : T (Ex × (Nat × Bool)) := .need (decide (l.length <= 1000 /\ m.1 <= l.length /\ m.2 = false))
 (.leaf (if m.1 < l.length then (if (l.getD m.1 krows.dflt).thread = 77 then (.ret, (m.1, true)) else (.normal, (m.1 + 1, false))) else (.exit 1, m)))
def famBFullL (x : XFullL) (b : Bool) (l : List Rw) (m : Nat × Bool) : St AV := famFullL x b l l.length (match m.2 with | true => .v (.c (.bl true)) | false => x.x6) m.1
theorem stepFullL_run (σ : Sg) (x : XFullL) (b : Bool) (l : List Rw) (m : Nat × Bool) (q : Ex × (Nat × Bool)) (h : (stepFullL l m).val = some q) :
 ((xc (NV σ) (joinCal (lv (NV σ) (fun _ => none) 5)) (fun _ => none) 109 LFullL (famBFullL x b l m)).map (onlyS ksFullL 109)).val = some (q.1, famBFullL x b l q.2) := by
 replace h := need_some h
 obtain ⟨hb, h⟩ := h
 obtain ⟨h1, h2, h3⟩ := of_decide_eq_true hb
 simp only [T.val, Option.some.injEq] at h
 subst h
 obtain ⟨i, ret⟩ := m
 simp only at h2 h3
 subst h3
 have e : famBFullL x b l (i, false) = famFullL x b l l.length x.x6 i := rfl
 rw [e, runFullL]
 by_cases hlt : i < l.length
 ·have e1 : 0 + (i : Int).toNat = i := by omega
  have hw : IntKind.wrap .i64 ((i : Int) + 1) = ((i + 1 : Nat) : Int) := wrapS (by omega)
  have d2 : needA l.length l.length i = true := by
   unfold needA
   rw [decide_eq_true (show 0 <= (i : Int) /\ (i : Int) < (l.length : Int) by omega)]
   exact decide_eq_true (by omega)
  simp only [if_pos hlt]
  rw [ivT (decide_eq_true (by omega)), nv d2, e1, hw]
  by_cases h7 : (l.getD i krows.dflt).thread = 77
  ·rw [ivT (by simpa using h7), if_pos h7]
   rfl
  ·rw [ivF (by simpa using h7), if_neg h7]
   rfl
 ·simp only [if_neg hlt]
  rw [ivF (decide_eq_false (by omega))]
  rfl
theorem iterFullL (l : List Rw) (hl : l.length <= 1000) : ∀ (k i : Nat), i + k = l.length -> iter (stepFullL l) (k + 1) (i, false) = some (match has77 (l.drop i) with | true => (.ret, (i + at77 (l.drop i), true)) | false => (.exit 1, (l.length, false)))
 | 0, i, hk => by
   have e : i = l.length := by omega
   subst e
   simp only [iter, stepFullL, T.val, decide_eq_true (show l.length <= 1000 /\ l.length <= l.length /\ True from ⟨hl, Nat.le_refl _, trivial⟩), if_neg (Nat.lt_irrefl _), List.drop_length]
   rfl
 | k + 1, i, hk => by
   have hlt : i < l.length := by omega
   rw [iter]
   simp only [stepFullL, T.val, decide_eq_true (show l.length <= 1000 /\ i <= l.length /\ True from ⟨hl, by omega, trivial⟩), if_pos hlt]
   rw [drop_cons l krows.dflt hlt]
   by_cases h7 : (l.getD i krows.dflt).thread = 77
   ·rw [if_pos h7]
    simp only [has77_cons, at77, h7, beq_self_eq_true, Bool.true_or, Nat.add_zero]
   ·have h7' : ((l.getD i krows.dflt).thread == 77) = false := by simpa using h7
    rw [if_neg h7]
    simp only [has77_cons, at77, h7', Bool.false_or]
    rw [iterFullL l hl k (i + 1) (by omega)]
    cases has77 (l.drop (i + 1)) with
    | true => simp only; rw [show i + 1 + at77 (l.drop (i + 1)) = i + (at77 (l.drop (i + 1)) + 1) by omega]
    | false => rfl
def gFullL (s : St AV) : T (Ex × St AV) := match s.H with
 | h0 :: h1 :: h2 :: h3 :: h4 :: h5 :: h6 :: some (.abs (.rowsB b l)) :: r => match Sx.look s.E 1, Sx.look s.E 11 with
   | .v (.c (.vs 7 0 n 10 false)), .v (.c (.il .i64 0)) => .need (decide (n = l.length /\ l.length <= 1000)) (.ite (has77 l)
      (.leaf (.ret, famFullL ⟨h0, h1, h2, h3, h4, h5, h6, r, Sx.look s.E 7, Sx.look s.E 8, Sx.look s.E 10, Sx.look s.E 6⟩ b l l.length (.v (.c (.bl true))) (at77 l)))
      (.leaf (.exit 1, famFullL ⟨h0, h1, h2, h3, h4, h5, h6, r, Sx.look s.E 7, Sx.look s.E 8, Sx.look s.E 10, Sx.look s.E 6⟩ b l l.length (Sx.look s.E 6) l.length)))
   | _, _ => .fail "77"
 | _ => .fail "77"
theorem gFullL_ok {σ : Sg} {N' : Env AV} (hF : N'.F = (NV σ).F) (hG : N'.G = (NV σ).G) : LoopOk Tryd.prog N' 109 LFullL gFullL := by
 have hcal : CalOk Tryd.prog (NV σ) (joinCal (lv (NV σ) (fun _ => none) 5)) := joinCal_ok (lv_ok okV lpsV hvV (fun f g h => by cases h) 5)
 refine loopOk_q (N := NV σ) hF hG okV hcal (lp := fun _ => none) (fun _ _ _ g hg => by cases hg) fun s s' ex hgs => ?_
 obtain ⟨E1, H1⟩ := s
 unfold gFullL at hgs
 split at hgs
 ·rename_i h0 h1 h2 h3 h4 h5 h6 b l r hs
  simp only at hs
  subst hs
  split at hgs
  ·rename_i n e1 e13
   simp only at e1 e13
   replace hgs := need_some hgs
   obtain ⟨hb, hgs⟩ := hgs
   obtain ⟨rfl, hl⟩ := of_decide_eq_true hb
   obtain ⟨m', hit, hfin⟩ : ∃ m', iter (stepFullL l) (l.length + 1) (0, false) = some (ex, m') /\ s' = famBFullL ⟨h0, h1, h2, h3, h4, h5, h6, r, Sx.look E1 7, Sx.look E1 8, Sx.look E1 10, Sx.look E1 6⟩ b l m' := by
    have hi := iterFullL l hl l.length 0 (by omega)
    rw [List.drop_zero, Nat.zero_add] at hi
    cases h7 : has77 l with
    | true =>
      rw [h7] at hi hgs
      rw [ivT rfl] at hgs
      simp only [T.val, Option.some.injEq, Prod.mk.injEq] at hgs
      obtain ⟨rfl, rfl⟩ := hgs
      exact ⟨_, hi, rfl⟩
    | false =>
      rw [h7] at hi hgs
      rw [ivF rfl] at hgs
      simp only [T.val, Option.some.injEq, Prod.mk.injEq] at hgs
      obtain ⟨rfl, rfl⟩ := hgs
      exact ⟨_, hi, rfl⟩
   refine ⟨{ M := Nat × Bool, fam := famBFullL ⟨h0, h1, h2, h3, h4, h5, h6, r, Sx.look E1 7, Sx.look E1 8, Sx.look E1 10, Sx.look E1 6⟩ b l, step := stepFullL l, ks := ksFullL, run := stepFullL_run σ _ b l, heap := fun _ => rfl, m := (0, false), k := l.length + 1, m' := m', ent := ?_, it := hit, fin := hfin, cl := ?_ }⟩
   ·refine says_only (nt := 109) (ks := ksFullL) (E := E1) fun k hk _ => ?_
    simp only [ksFullL, List.mem_cons, List.not_mem_nil, or_false] at hk
    rcases hk with rfl | rfl | rfl | rfl | rfl | rfl
    ·exact .inl e1.symm
    ·exact .inl rfl
    ·exact .inl rfl
    ·exact .inl rfl
    ·exact .inl rfl
    ·exact .inr ⟨(by rw [e13]; intro h; cases h), plIt _, fun ρ => (by rw [e13]; rfl)⟩
   ·intro hc
    rw [hfin]
    refine closed_ks (fun k hk => ?_) hc.H
    simp only [ksFullL, List.mem_cons, List.not_mem_nil, or_false] at hk
    rcases hk with rfl | rfl | rfl | rfl | rfl | rfl
    ·have := hc.E 1; rw [e1] at this; exact this
    ·obtain ⟨i, ret⟩ := m'
     cases ret with
     | true => exact plTr.cl _
     | false => exact hc.E 6
    ·exact hc.E 7
    ·exact hc.E 8
    ·exact hc.E 10
    ·exact (plIt _).cl _
  ·simp [T.val] at hgs
 ·simp [T.val] at hgs
def lpFull : Lp := lpAdd 6 18 gFullL noLp
theorem lpFull_ok {σ : Sg} : LpsOk Tryd.prog (NVl lpFull σ) := lpsAdd lpsV (fn := Tryd.f6) (by kernel_rfl) (c := bodyOf Tryd.f6) (by kernel_rfl) (nt := 109) (by kernel_rfl) (b := LFullL) (oneLoop_spec (by kernel_rfl)) (gFullL_ok rfl rfl)
noncomputable def fullR_T (σ : Sg) (L : LinV) (s : Int) (b : Bool) (l : List Rw) (v : Int) : T (SV × List AV × List AV) :=
 let x0 : Int := (↑(List.length l) : Int);
 let x1 : Int := (↑(LinV.k L l) : Int);
 let x2 : Int := Int.tmod (IntKind.wrap IntKind.u64 v) 256;
 let x3 : Nat := SI.bytes si31 + 1;
 let x4 : Nat := List.length l + 1;
 let x5 : Int := IntKind.wrap IntKind.i64 (x1 + 1);
 let x6 : Int := 1 + Int.tmod (IntKind.wrap IntKind.u64 s) 5;
 let x7 : Bool := LinV.is L x6 l;
 let x8 : Bool := decide (x0 > 12);
 let x9 : Bool := decide (List.length l = List.length l /\ List.length l <= 1000);
 let x10 : List Rw := l ++ [Rw.mk 77 6 x2 0 1 4 0 x1 x5 true];
 let x11 : List Rw := l ++ [Rw.mk 77 4 0 x2 0 4 0 x1 x5 true];
 let x12 : List Rw := l ++ [Rw.mk 77 1 0 x2 0 4 0 x1 x5 true];
 let x13 : List Rw := l ++ [Rw.mk 77 6 x2 0 0 4 0 x1 x5 true];
 let x14 : Nat := List.length x13;
 let x15 : Nat := List.length x10;
 let x16 : Nat := List.length x12;
 let x17 : Bool := LinV.ok L x12;
 let x18 : Bool := LinV.ok L x13;
 let x19 : Bool := LinV.ok L x11;
 let x20 : Bool := LinV.ok L x10;
 let x21 : Nat := List.length x11;
 let x22 : Bool := LinV.is L x6 x11;
 let x23 : Bool := LinV.is L x6 x13;
 let x24 : Bool := LinV.is L x6 x10;
 let x25 : Bool := LinV.is L x6 x12;
 let x26 : Bool := decide (List.length l = Intf.len (F2 σ) (AV.rows l) /\ List.length l * x3 <= lim);
 let x27 : Bool := decide (List.length l = Intf.len (F2 σ) (AV.rows l) /\ x4 * x3 <= lim);
 let x28 : Bool := decide (1 <= x6 /\ x6 <= 5);
 let x29 : Bool := decide ((↑x15 : Int) > 12);
 let x30 : Bool := decide ((↑x14 : Int) > 12);
 let x31 : Bool := decide ((↑x16 : Int) > 12);
 let x32 : Bool := decide ((↑x21 : Int) > 12);
 let x33 : Bool := decide (x4 = x15 /\ x15 <= 1000);
 let x34 : Bool := decide (x4 = x21 /\ x21 <= 1000);
 let x35 : Bool := decide (x4 = x16 /\ x16 <= 1000);
 let x36 : Bool := decide (x4 = x14 /\ x14 <= 1000);
 let y0 : T (SV × List AV × List AV) := (T.leaf (SV.v (V1.c (Cell.bl true)), [AV.rowsB b l], []));
 let y1 : T (SV × List AV × List AV) := (T.leaf (SV.v (V1.c (Cell.bl false)), [AV.rowsB b l], []));
 let y2 : T (SV × List AV × List AV) := (T.ite x31 y1 (T.ite x25 y1 y1));
 let y3 : T (SV × List AV × List AV) := (T.ite x28 (T.ite x17 y2 y1) y1);
 let y4 : T (SV × List AV × List AV) := (T.ite x32 y1 (T.ite x22 y1 y1));
 let y5 : T (SV × List AV × List AV) := (T.ite x28 (T.ite x19 y4 y1) y1);
 let y6 : T (SV × List AV × List AV) := (T.ite x29 y1 (T.ite x24 y1 y1));
 let y7 : T (SV × List AV × List AV) := (T.ite x28 (T.ite x20 y6 y1) y1);
 let y8 : T (SV × List AV × List AV) := (T.ite x30 y1 (T.ite x23 y1 y1));
 let y9 : T (SV × List AV × List AV) := (T.ite x28 (T.ite x18 y8 y1) y1);
 T.ite (decide (x0 > 7)) y0 (T.need x9 (T.ite (LinV.ok L l) (T.ite (x6 == 1) (T.need x9 (T.ite (has77 l) y0 (T.need x26 (T.need x27 (T.need x9 (T.ite x28 (T.ite (LinV.ok L l) (T.ite x8 (T.need x35 y3) (T.ite x7 (T.need x35 (T.ite x28 (T.ite x17 (T.ite x31 y1 (T.ite x25 y0 y1)) y1) y1)) (T.need x35 (T.ite x28 (T.ite x17 (T.ite x31 y1 (T.ite x25 y1 y0)) y1) y1)))) (T.need x35 y3)) (T.need x35 y3))))))) (T.ite (x6 == 2) (T.need x9 (T.ite (has77 l) y0 (T.need x26 (T.need x27 (T.need x9 (T.ite x28 (T.ite (LinV.ok L l) (T.ite x8 (T.need x34 y5) (T.ite x7 (T.need x34 (T.ite x28 (T.ite x19 (T.ite x32 y1 (T.ite x22 y0 y1)) y1) y1)) (T.need x34 (T.ite x28 (T.ite x19 (T.ite x32 y1 (T.ite x22 y1 y0)) y1) y1)))) (T.need x34 y5)) (T.need x34 y5))))))) (T.ite (x6 == 5) (T.need x9 (T.ite (has77 l) y0 (T.need x26 (T.need x27 (T.need x9 (T.ite x28 (T.ite (LinV.ok L l) (T.ite x8 (T.need x33 y7) (T.ite x7 (T.need x33 (T.ite x28 (T.ite x20 (T.ite x29 y1 (T.ite x24 y0 y1)) y1) y1)) (T.need x33 (T.ite x28 (T.ite x20 (T.ite x29 y1 (T.ite x24 y1 y0)) y1) y1)))) (T.need x33 y7)) (T.need x33 y7))))))) (T.need x9 (T.ite (has77 l) y0 (T.need x26 (T.need x27 (T.need x9 (T.ite x28 (T.ite (LinV.ok L l) (T.ite x8 (T.need x36 y9) (T.ite x7 (T.need x36 (T.ite x28 (T.ite x18 (T.ite x30 y1 (T.ite x23 y0 y1)) y1) y1)) (T.need x36 (T.ite x28 (T.ite x18 (T.ite x30 y1 (T.ite x23 y1 y0)) y1) y1)))) (T.need x36 y9)) (T.need x36 y9)))))))))) y0))
theorem fullR (σ : Sg) (L : LinV) (s : Int) (b : Bool) (l : List Rw) (v : Int) : runN lpFull σ (tabY σ L) 6 linM [.v (.c (.it .i64 s)), .v (.c (.vs 7 0 l.length 10 false)), .v (.c (.it .i64 v))] [.rowsB b l] = fullR_T σ L s b l v := by kernel_rfl
end Go.Proofs.YtpapbhbnaalhcaaDoor
