import Derived.Test.YtpapbhbnaalhcaaDoorTj
import Derived.Test.YtpapbhbnaalhcaaDoorTp
namespace Go.Proofs.YtpapbhbnaalhcaaDoor
open Go Go.Sx Go.Proofs
set_option linter.unusedVariables false
set_option maxRecDepth 100000
def askY (L : LinV) (tl : List Rw -> List Rw) (V : KeyV) (st : Int) (l : List Rw) (j : Nat) (no y1 y0 : T (Ex × St AV)) : T (Ex × St AV) :=
 .need (decide ((V.part l j).length = (V.part l j).length /\ (V.part l j).length <= 1000)) (.need (decide ((V.part l j).length = (tl (V.part l j)).length /\ (tl (V.part l j)).length <= 1000))
  (.ite (decide (1 <= st /\ st <= 5)) (.ite (L.ok (tl (V.part l j))) (.ite (decide (((tl (V.part l j)).length : Int) > 12)) no (.ite (L.is st (tl (V.part l j))) y1 y0)) no) no))
noncomputable def outY (L : LinV) (tl : List Rw -> List Rw) (V : KeyV) (st : Int) (l : List Rw) (n : Nat) (i : Int) (unfit no y1 y0 ex : T (Ex × St AV)) : T (Ex × St AV) :=
 .ite (decide (i < (n : Int))) (.need (decide (0 <= i /\ i < (n : Int))) (.need (decide (0 + i.toNat < l.length)) (.ite (!fitsM st (l.getD (0 + i.toNat) krows.dflt).op) unfit
  (.need (decide (n = l.length /\ l.length <= 1000 /\ 0 <= i /\ i < (l.length : Int))) (.ite (V.one l i.toNat) (askY L tl V st l i.toNat no y1 y0) (askY L tl V st l i.toNat no y1 y0)))))) ex
theorem keyP_len (l : List Rw) (i : Nat) : (keyP l i).length <= l.length := by rw [keyP_eq]; exact List.length_filter_le _ _
theorem key_ok {l : List Rw} (h : linT.ok l = true) (i : Nat) : linT.ok (tellL (keyP l i)) = true := by
 rw [keyP_eq]; exact told_ok h _
theorem outY_val {V : KeyV} (hV : V.part = keyP) {l : List Rw} {st : Int} (h1 : l.length <= 7) (h2 : 1 <= st /\ st <= 5) {i : Nat} (h3 : i <= l.length) (hok : linT.ok l = true) (unfit no y1 y0 ex : T (Ex × St AV)) :
 (outY linT tellL V st l l.length i unfit no y1 y0 ex).val = if i < l.length then (if fitsM st (l.getD i krows.dflt).op = true then (match linT.is st (tellL (keyP l i)) with | true => y1.val | false => y0.val) else unfit.val) else ex.val := by
 unfold outY
 by_cases hlt : i < l.length
 ·have e1 : 0 + (i : Int).toNat = i := by omega
  have e2 : (i : Int).toNat = i := Int.toNat_natCast i
  have hask : (askY linT tellL V st l i no y1 y0).val = (match linT.is st (tellL (keyP l i)) with | true => y1.val | false => y0.val) := by
   unfold askY
   rw [hV]
   have hp := keyP_len l i
   have ht : (tellL (keyP l i)).length = (keyP l i).length := by simp [tellL]
   rw [nv (decide_eq_true ⟨rfl, by omega⟩), nv (decide_eq_true ⟨ht.symm, by omega⟩), ivT (decide_eq_true h2), ivT (key_ok hok i), ivF (decide_eq_false (by omega))]
   cases linT.is st (tellL (keyP l i)) with
   | true => exact ivT rfl
   | false => exact ivF rfl
  rw [ivT (decide_eq_true (by omega)), nv (decide_eq_true (by omega)), e1, nv (decide_eq_true hlt), e2, if_pos hlt]
  cases hf : fitsM st (l.getD i krows.dflt).op with
  | true =>
    rw [ivF (c := !true) rfl, nv (decide_eq_true ⟨rfl, by omega, by omega, by omega⟩), if_pos rfl]
    cases V.one l i with
    | true => rw [ivT rfl, hask]
    | false => rw [ivF rfl, hask]
  | false =>
    rw [ivT (c := !false) rfl, if_neg (by decide)]
 ·rw [ivF (decide_eq_false (by omega)), if_neg hlt]
structure MY where
 i : Nat
 all : Bool
 x : Bool
noncomputable def stepY (l : List Rw) (st : Int) (m : MY) : T (Ex × MY) := .need (decide (l.length <= 7 /\ (1 <= st /\ st <= 5) /\ m.i <= l.length /\ m.x = false) && linT.ok l)
 (.leaf (if m.i < l.length then (if fitsM st (l.getD m.i krows.dflt).op = true then (.normal, ⟨m.i + 1, m.all && linT.is st (tellL (keyP l m.i)), false⟩) else (.ret, ⟨m.i, m.all, true⟩)) else (.exit 0, m)))
noncomputable def endY (l : List Rw) (st : Int) : Nat -> Nat -> Bool -> MY
 | 0, i, all => ⟨i, all, false⟩
 | k + 1, i, all => if fitsM st (l.getD i krows.dflt).op = true then endY l st k (i + 1) (all && linT.is st (tellL (keyP l i))) else ⟨i, all, true⟩
theorem endY_i {l : List Rw} {st : Int} : ∀ (k i : Nat) (all : Bool), i + k = l.length -> (endY l st k i all).x = false -> (endY l st k i all).i = l.length
 | 0, i, all, hk, h => by rw [endY]; simp only; omega
 | k + 1, i, all, hk, h => by
   rw [endY] at h ⊢
   split at h
   ·rename_i hf
    rw [if_pos hf]
    exact endY_i k (i + 1) _ (by omega) h
   ·cases h
theorem iterY (l : List Rw) (st : Int) (hl : l.length <= 7) (hst : 1 <= st /\ st <= 5) (hok : linT.ok l = true) : ∀ (k i : Nat) (all : Bool), i + k = l.length -> iter (stepY l st) (k + 1) ⟨i, all, false⟩ = some ((match (endY l st k i all).x with | true => .ret | false => .exit 0), endY l st k i all)
 | 0, i, all, hk => by
   have e : i = l.length := by omega
   subst e
   rw [iter, stepY, nv (by rw [hok, Bool.and_true]; exact decide_eq_true ⟨hl, hst, Nat.le_refl _, rfl⟩)]
   simp only [T.val, if_neg (Nat.lt_irrefl _)]
   rfl
 | k + 1, i, all, hk => by
   have hlt : i < l.length := by omega
   rw [iter, stepY, nv (by rw [hok, Bool.and_true]; exact decide_eq_true ⟨hl, hst, by show i <= _; omega, rfl⟩)]
   simp only [T.val, if_pos hlt]
   rw [endY]
   by_cases hf : fitsM st (l.getD i krows.dflt).op = true
   ·rw [if_pos hf, if_pos hf]
    exact iterY l st hl hst hok k (i + 1) _ (by omega)
   ·rw [if_neg hf, if_neg hf]
noncomputable def keyT : KeyV where
 part := keyP
 one := keyO
 stop := fun l st => (endY l st l.length 0 true).i
 all := fun l st => (endY l st l.length 0 true).all
 ret := fun l st => (endY l st l.length 0 true).x
theorem yRAt (σ : Sg) (L : LinV) (tl : List Rw -> List Rw) (V : KeyV) (b : Bool) (l : List Rw) (o : List N1) (st : Int) (isv : Bool) (n : Nat) (i : Int) : (xc (NV σ) (joinCal (lv (NV σ) (tabY2 σ L tl) 5)) (lpZA V) 93 LY (famYA b l o st false isv true n i)).bind (backS 8 93 ksY pkJ) =
 outY L tl V st l n i (.leaf (.ret, famYA b l o st true isv true n i)) (.leaf (.ret, famYA b l o st false isv true l.length i)) (.leaf (.normal, famYA b l o st false isv true l.length (IntKind.wrap .i64 (i + 1)))) (.leaf (.normal, famYA b l o st false isv false l.length (IntKind.wrap .i64 (i + 1)))) (.leaf (.exit 0, famYA b l o st false isv true n i)) := by kernel_rfl
theorem yRAf (σ : Sg) (L : LinV) (tl : List Rw -> List Rw) (V : KeyV) (b : Bool) (l : List Rw) (o : List N1) (st : Int) (isv : Bool) (n : Nat) (i : Int) : (xc (NV σ) (joinCal (lv (NV σ) (tabY2 σ L tl) 5)) (lpZA V) 93 LY (famYA b l o st false isv false n i)).bind (backS 8 93 ksY pkJ) =
 outY L tl V st l n i (.leaf (.ret, famYA b l o st true isv false n i)) (.leaf (.ret, famYA b l o st false isv false l.length i)) (.leaf (.normal, famYA b l o st false isv false l.length (IntKind.wrap .i64 (i + 1)))) (.leaf (.normal, famYA b l o st false isv false l.length (IntKind.wrap .i64 (i + 1)))) (.leaf (.exit 0, famYA b l o st false isv false n i)) := by kernel_rfl
def famYMA (b : Bool) (l : List Rw) (o : List N1) (st : Int) (isv : Bool) (m : MY) : St AV := famYA b l o st m.x isv m.all l.length m.i
theorem stepYA_run {σ : Sg} {V : KeyV} (hV : V.part = keyP) (b : Bool) (l : List Rw) (o : List N1) (st : Int) (isv : Bool) (m : MY) (q : Ex × MY) (h : (stepY l st m).val = some q) :
 ((xc (NV σ) (joinCal (lv (NV σ) (tabY2 σ linT tellL) 5)) (lpZA V) 93 LY (famYMA b l o st isv m)).bind (backS 8 93 ksY pkJ)).val = some (q.1, famYMA b l o st isv q.2) := by
 replace h := need_some h
 obtain ⟨hb, h⟩ := h
 rw [Bool.and_eq_true] at hb
 obtain ⟨hb, hok⟩ := hb
 obtain ⟨h1, h2, h3, h4⟩ := of_decide_eq_true hb
 simp only [T.val, Option.some.injEq] at h
 subst h
 obtain ⟨i, all, x⟩ := m
 simp only at h3 h4
 subst h4
 cases all with
 | true =>
   show ((xc (NV σ) (joinCal (lv (NV σ) (tabY2 σ linT tellL) 5)) (lpZA V) 93 LY (famYA b l o st false isv true l.length i)).bind (backS 8 93 ksY pkJ)).val = _
   rw [yRAt, outY_val hV h1 h2 h3 hok]
   by_cases hlt : i < l.length
   ·have hw : IntKind.wrap .i64 ((i : Int) + 1) = ((i + 1 : Nat) : Int) := wrapS (by omega)
    simp only [if_pos hlt]
    rw [hw]
    by_cases hf : fitsM st (l.getD i krows.dflt).op = true
    ·rw [if_pos hf, if_pos hf]
     cases hi : linT.is st (tellL (keyP l i)) <;> rfl
    ·rw [if_neg hf, if_neg hf]
     rfl
   ·simp only [if_neg hlt]
    rfl
 | false =>
   show ((xc (NV σ) (joinCal (lv (NV σ) (tabY2 σ linT tellL) 5)) (lpZA V) 93 LY (famYA b l o st false isv false l.length i)).bind (backS 8 93 ksY pkJ)).val = _
   rw [yRAf, outY_val hV h1 h2 h3 hok]
   by_cases hlt : i < l.length
   ·have hw : IntKind.wrap .i64 ((i : Int) + 1) = ((i + 1 : Nat) : Int) := wrapS (by omega)
    simp only [if_pos hlt]
    rw [hw]
    by_cases hf : fitsM st (l.getD i krows.dflt).op = true
    ·rw [if_pos hf, if_pos hf]
     cases hi : linT.is st (tellL (keyP l i)) <;> rfl
    ·rw [if_neg hf, if_neg hf]
     rfl
   ·simp only [if_neg hlt]
    rfl
def gYA (V : KeyV) (ok : List Rw -> Bool) (s : St AV) : T (Ex × St AV) := match s.H with
 | [some (.abs (.sent 0)), some (.abs (.sent 1)), some (.abs (.sent 2)), none, none, none, none, some (.abs (.rowsB b l))] => match Sx.look s.E 1, Sx.look s.E 4, Sx.look s.E 5, Sx.look s.E 7, Sx.look s.E 9, Sx.look s.E 10 with
   | .v (.c (.vs 7 0 n 10 false)), .v (.c (.bl false)), .v (.c c5), .v (.c (.bl isv)), .v (.c (.bl true)), .v (.c (.il .i64 0)) => match iOf c5 with
     | some st => .need (ok l) (.need (decide (n = l.length /\ l.length <= 7 /\ 1 <= st /\ st <= 5)) (.ite (V.ret l st)
        (.ite (V.all l st) (.leaf (.ret, famYA b l [] st true isv true l.length (V.stop l st))) (.leaf (.ret, famYA b l [] st true isv false l.length (V.stop l st))))
        (.ite (V.all l st) (.leaf (.exit 0, famYA b l [] st false isv true l.length l.length)) (.leaf (.exit 0, famYA b l [] st false isv false l.length l.length)))))
     | none => .fail "JuryKeys"
   | _, _, _, _, _, _ => .fail "JuryKeys"
 | _ => .fail "JuryKeys"
theorem lpZA_ok {σ : Sg} {V : KeyV} (hp : V.part = keyP) (ho : V.one = keyO) : LpOk Tryd.prog (NV σ) 93 LY (lpZA V) := fun id b hb g hg => by
 unfold lpZA at hg
 split at hg
 ·rename_i e
  have e := (beq_iff _ _).1 e
  subst e
  cases hg
  have : b = LZ := by
   have h := oneLoop_spec (id := 17) (l := loopsOf LY) (by kernel_rfl) (17, b) hb rfl
   rw [show b = loopAt 17 (loopsOf LY) from h]
   have : loopAt 17 (loopsOf LY) = LZ := by kernel_rfl
   exact this
  rw [this]
  exact gZA_ok hp ho rfl rfl
 ·cases hg
theorem gYA_ok {σ : Sg} (ht : TabR σ) {N' : Env AV} (hF : N'.F = (NV σ).F) (hG : N'.G = (NV σ).G) : LoopOk Tryd.prog N' 93 LY (gYA keyT linT.ok) := by
 have hcal : CalOk Tryd.prog (NV σ) (joinCal (lv (NV σ) (tabY2 σ linT tellL) 5)) := joinCal_ok (lv_ok okV lpsV hvV (tabY2_ok ht) 5)
 refine loopOk_it (N := NV σ) hF hG okV hcal (lp := lpZA keyT) (lpZA_ok rfl rfl) fun s s' ex hgs => ?_
 obtain ⟨E1, H1⟩ := s
 unfold gYA at hgs
 split at hgs
 ·rename_i b l hs
  simp only at hs
  subst hs
  split at hgs
  ·rename_i n c5 isv e1 e4 e5 e7 e9 e10
   simp only at e1 e4 e5 e7 e9 e10
   split at hgs
   ·rename_i st hst
    replace hgs := need_some hgs
    obtain ⟨hok, hgs⟩ := hgs
    replace hgs := need_some hgs
    obtain ⟨hb, hgs⟩ := hgs
    obtain ⟨rfl, hl, hs1, hs5⟩ := of_decide_eq_true hb
    have hgo : ex = (match (endY l st l.length 0 true).x with | true => .ret | false => .exit 0) /\ s' = famYMA b l [] st isv (endY l st l.length 0 true) := by
     have er : keyT.ret l st = (endY l st l.length 0 true).x := rfl
     have ea : keyT.all l st = (endY l st l.length 0 true).all := rfl
     have es : keyT.stop l st = (endY l st l.length 0 true).i := rfl
     have hend := endY_i (l := l) (st := st) l.length 0 true (by omega)
     unfold famYMA
     rw [er, ea, es] at hgs
     cases hx : (endY l st l.length 0 true).x <;> cases ha : (endY l st l.length 0 true).all <;> simp only [hx, ha, T.val, Option.some.injEq, Prod.mk.injEq] at hgs <;> obtain ⟨rfl, rfl⟩ := hgs <;> refine ⟨rfl, ?_⟩ <;> first | rfl | rw [hend hx]
    obtain ⟨rfl, rfl⟩ := hgo
    refine ⟨{ M := MY, fam := famYMA b l [] st isv, step := stepY l st, ks := ksY, pk := pkJ, hpk := pkJ_ok, L := 8, len := rfl, hGL := (by show 7 <= 8; decide), run := stepYA_run (V := keyT) rfl b l [] st isv, m := ⟨0, true, false⟩, k := l.length + 1, m' := endY l st l.length 0 true, ent := ?_, it := iterY l st hl ⟨hs1, hs5⟩ hok l.length 0 true (by omega), fin := rfl }⟩
    refine enter_only (N := NV σ) (s := ⟨E1, _⟩) (l := []) (fun a ha => by cases ha) (by show 7 <= 8; decide) fun k hk => ?_
    simp only [ksY, List.mem_cons, List.not_mem_nil, or_false] at hk
    rcases hk with rfl | rfl | rfl | rfl | rfl | rfl
    ·exact .inl e1.symm
    ·exact .inl e4.symm
    ·refine .inr (.inl ⟨?_, plIt _, fun ρ => ?_⟩)
     ·show Sx.look E1 5 ≠ _
      rw [e5]; intro h; cases h
     ·show Value.int .i64 st = (Sx.look E1 5).den ρ
      rw [e5]
      exact (iOf_den hst ρ).symm
    ·exact .inl e7.symm
    ·exact .inl e9.symm
    ·exact .inr (.inl (sayIl e10))
   ·simp [T.val] at hgs
  ·simp [T.val] at hgs
 ·simp [T.val] at hgs
theorem yRBt (σ : Sg) (L : LinV) (tl : List Rw -> List Rw) (V : KeyV) (b : Bool) (l : List Rw) (o : List N1) (st : Int) (isv : Bool) (n : Nat) (i : Int) : (xc (NV σ) (joinCal (lv (NV σ) (tabY2 σ L tl) 5)) (lpZB V) 93 LY (famYB b l o st false isv true n i)).bind (backS 9 93 ksY pkJ) =
 outY L tl V st l n i (.leaf (.ret, famYB b l o st true isv true n i)) (.leaf (.ret, famYB b l o st false isv true l.length i)) (.leaf (.normal, famYB b l o st false isv true l.length (IntKind.wrap .i64 (i + 1)))) (.leaf (.normal, famYB b l o st false isv false l.length (IntKind.wrap .i64 (i + 1)))) (.leaf (.exit 0, famYB b l o st false isv true n i)) := by kernel_rfl
theorem yRBf (σ : Sg) (L : LinV) (tl : List Rw -> List Rw) (V : KeyV) (b : Bool) (l : List Rw) (o : List N1) (st : Int) (isv : Bool) (n : Nat) (i : Int) : (xc (NV σ) (joinCal (lv (NV σ) (tabY2 σ L tl) 5)) (lpZB V) 93 LY (famYB b l o st false isv false n i)).bind (backS 9 93 ksY pkJ) =
 outY L tl V st l n i (.leaf (.ret, famYB b l o st true isv false n i)) (.leaf (.ret, famYB b l o st false isv false l.length i)) (.leaf (.normal, famYB b l o st false isv false l.length (IntKind.wrap .i64 (i + 1)))) (.leaf (.normal, famYB b l o st false isv false l.length (IntKind.wrap .i64 (i + 1)))) (.leaf (.exit 0, famYB b l o st false isv false n i)) := by kernel_rfl
def famYMB (b : Bool) (l : List Rw) (o : List N1) (st : Int) (isv : Bool) (m : MY) : St AV := famYB b l o st m.x isv m.all l.length m.i
theorem stepYB_run {σ : Sg} {V : KeyV} (hV : V.part = keyP) (b : Bool) (l : List Rw) (o : List N1) (st : Int) (isv : Bool) (m : MY) (q : Ex × MY) (h : (stepY l st m).val = some q) :
 ((xc (NV σ) (joinCal (lv (NV σ) (tabY2 σ linT tellL) 5)) (lpZB V) 93 LY (famYMB b l o st isv m)).bind (backS 9 93 ksY pkJ)).val = some (q.1, famYMB b l o st isv q.2) := by
 replace h := need_some h
 obtain ⟨hb, h⟩ := h
 rw [Bool.and_eq_true] at hb
 obtain ⟨hb, hok⟩ := hb
 obtain ⟨h1, h2, h3, h4⟩ := of_decide_eq_true hb
 simp only [T.val, Option.some.injEq] at h
 subst h
 obtain ⟨i, all, x⟩ := m
 simp only at h3 h4
 subst h4
 cases all with
 | true =>
   show ((xc (NV σ) (joinCal (lv (NV σ) (tabY2 σ linT tellL) 5)) (lpZB V) 93 LY (famYB b l o st false isv true l.length i)).bind (backS 9 93 ksY pkJ)).val = _
   rw [yRBt, outY_val hV h1 h2 h3 hok]
   by_cases hlt : i < l.length
   ·have hw : IntKind.wrap .i64 ((i : Int) + 1) = ((i + 1 : Nat) : Int) := wrapS (by omega)
    simp only [if_pos hlt]
    rw [hw]
    by_cases hf : fitsM st (l.getD i krows.dflt).op = true
    ·rw [if_pos hf, if_pos hf]
     cases hi : linT.is st (tellL (keyP l i)) <;> rfl
    ·rw [if_neg hf, if_neg hf]
     rfl
   ·simp only [if_neg hlt]
    rfl
 | false =>
   show ((xc (NV σ) (joinCal (lv (NV σ) (tabY2 σ linT tellL) 5)) (lpZB V) 93 LY (famYB b l o st false isv false l.length i)).bind (backS 9 93 ksY pkJ)).val = _
   rw [yRBf, outY_val hV h1 h2 h3 hok]
   by_cases hlt : i < l.length
   ·have hw : IntKind.wrap .i64 ((i : Int) + 1) = ((i + 1 : Nat) : Int) := wrapS (by omega)
    simp only [if_pos hlt]
    rw [hw]
    by_cases hf : fitsM st (l.getD i krows.dflt).op = true
    ·rw [if_pos hf, if_pos hf]
     cases hi : linT.is st (tellL (keyP l i)) <;> rfl
    ·rw [if_neg hf, if_neg hf]
     rfl
   ·simp only [if_neg hlt]
    rfl
def gYB (V : KeyV) (ok : List Rw -> Bool) (s : St AV) : T (Ex × St AV) := match s.H with
 | [some (.abs (.sent 0)), some (.abs (.sent 1)), some (.abs (.sent 2)), none, none, none, none, some (.abs (.rowsB b l)), some (.abs (.ints o))] => match Sx.look s.E 1, Sx.look s.E 4, Sx.look s.E 5, Sx.look s.E 7, Sx.look s.E 9, Sx.look s.E 10 with
   | .v (.c (.vs 7 0 n 10 false)), .v (.c (.bl false)), .v (.c c5), .v (.c (.bl isv)), .v (.c (.bl true)), .v (.c (.il .i64 0)) => match iOf c5 with
     | some st => .need (ok l) (.need (decide (n = l.length /\ l.length <= 7 /\ 1 <= st /\ st <= 5)) (.ite (V.ret l st)
        (.ite (V.all l st) (.leaf (.ret, famYB b l o st true isv true l.length (V.stop l st))) (.leaf (.ret, famYB b l o st true isv false l.length (V.stop l st))))
        (.ite (V.all l st) (.leaf (.exit 0, famYB b l o st false isv true l.length l.length)) (.leaf (.exit 0, famYB b l o st false isv false l.length l.length)))))
     | none => .fail "JuryKeys"
   | _, _, _, _, _, _ => .fail "JuryKeys"
 | _ => .fail "JuryKeys"
theorem lpZB_ok {σ : Sg} {V : KeyV} (hp : V.part = keyP) (ho : V.one = keyO) : LpOk Tryd.prog (NV σ) 93 LY (lpZB V) := fun id b hb g hg => by
 unfold lpZB at hg
 split at hg
 ·rename_i e
  have e := (beq_iff _ _).1 e
  subst e
  cases hg
  have : b = LZ := by
   have h := oneLoop_spec (id := 17) (l := loopsOf LY) (by kernel_rfl) (17, b) hb rfl
   rw [show b = loopAt 17 (loopsOf LY) from h]
   have : loopAt 17 (loopsOf LY) = LZ := by kernel_rfl
   exact this
  rw [this]
  exact gZB_ok hp ho rfl rfl
 ·cases hg
theorem gYB_ok {σ : Sg} (ht : TabR σ) {N' : Env AV} (hF : N'.F = (NV σ).F) (hG : N'.G = (NV σ).G) : LoopOk Tryd.prog N' 93 LY (gYB keyT linT.ok) := by
 have hcal : CalOk Tryd.prog (NV σ) (joinCal (lv (NV σ) (tabY2 σ linT tellL) 5)) := joinCal_ok (lv_ok okV lpsV hvV (tabY2_ok ht) 5)
 refine loopOk_it (N := NV σ) hF hG okV hcal (lp := lpZB keyT) (lpZB_ok rfl rfl) fun s s' ex hgs => ?_
 obtain ⟨E1, H1⟩ := s
 unfold gYB at hgs
 split at hgs
 ·rename_i b l o hs
  simp only at hs
  subst hs
  split at hgs
  ·rename_i n c5 isv e1 e4 e5 e7 e9 e10
   simp only at e1 e4 e5 e7 e9 e10
   split at hgs
   ·rename_i st hst
    replace hgs := need_some hgs
    obtain ⟨hok, hgs⟩ := hgs
    replace hgs := need_some hgs
    obtain ⟨hb, hgs⟩ := hgs
    obtain ⟨rfl, hl, hs1, hs5⟩ := of_decide_eq_true hb
    have hgo : ex = (match (endY l st l.length 0 true).x with | true => .ret | false => .exit 0) /\ s' = famYMB b l o st isv (endY l st l.length 0 true) := by
     have er : keyT.ret l st = (endY l st l.length 0 true).x := rfl
     have ea : keyT.all l st = (endY l st l.length 0 true).all := rfl
     have es : keyT.stop l st = (endY l st l.length 0 true).i := rfl
     have hend := endY_i (l := l) (st := st) l.length 0 true (by omega)
     unfold famYMB
     rw [er, ea, es] at hgs
     cases hx : (endY l st l.length 0 true).x <;> cases ha : (endY l st l.length 0 true).all <;> simp only [hx, ha, T.val, Option.some.injEq, Prod.mk.injEq] at hgs <;> obtain ⟨rfl, rfl⟩ := hgs <;> refine ⟨rfl, ?_⟩ <;> first | rfl | rw [hend hx]
    obtain ⟨rfl, rfl⟩ := hgo
    refine ⟨{ M := MY, fam := famYMB b l o st isv, step := stepY l st, ks := ksY, pk := pkJ, hpk := pkJ_ok, L := 9, len := rfl, hGL := (by show 7 <= 9; decide), run := stepYB_run (V := keyT) rfl b l o st isv, m := ⟨0, true, false⟩, k := l.length + 1, m' := endY l st l.length 0 true, ent := ?_, it := iterY l st hl ⟨hs1, hs5⟩ hok l.length 0 true (by omega), fin := rfl }⟩
    refine enter_only (N := NV σ) (s := ⟨E1, _⟩) (l := []) (fun a ha => by cases ha) (by show 7 <= 9; decide) fun k hk => ?_
    simp only [ksY, List.mem_cons, List.not_mem_nil, or_false] at hk
    rcases hk with rfl | rfl | rfl | rfl | rfl | rfl
    ·exact .inl e1.symm
    ·exact .inl e4.symm
    ·refine .inr (.inl ⟨?_, plIt _, fun ρ => ?_⟩)
     ·show Sx.look E1 5 ≠ _
      rw [e5]; intro h; cases h
     ·show Value.int .i64 st = (Sx.look E1 5).den ρ
      rw [e5]
      exact (iOf_den hst ρ).symm
    ·exact .inl e7.symm
    ·exact .inl e9.symm
    ·exact .inr (.inl (sayIl e10))
   ·simp [T.val] at hgs
  ·simp [T.val] at hgs
 ·simp [T.val] at hgs
end Go.Proofs.YtpapbhbnaalhcaaDoor
