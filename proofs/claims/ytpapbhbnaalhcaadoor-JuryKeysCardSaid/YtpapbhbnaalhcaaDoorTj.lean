import Derived.Test.YtpapbhbnaalhcaaDoorTi
namespace Go.Proofs.YtpapbhbnaalhcaaDoor
open Go Go.Sx Go.Proofs
set_option linter.unusedVariables false
set_option maxRecDepth 100000
structure KeyV where
 part : List Rw -> Nat -> List Rw
 one : List Rw -> Nat -> Bool
 stop : List Rw -> Int -> Nat
 all : List Rw -> Int -> Bool
 ret : List Rw -> Int -> Bool
def goZ (l : List Rw) (i : Nat) : Nat -> MZ
 | 0 => ⟨0, [], 0⟩
 | k + 1 => oneZ l i (goZ l i k)
theorem goZ_k (l : List Rw) (i : Nat) : ∀ k, (goZ l i k).k = k
 | 0 => rfl
 | k + 1 => by
   rw [goZ]
   unfold oneZ
   split <;> simp only [goZ_k l i k]
theorem goZ_inv (l : List Rw) (i : Nat) : ∀ k, (goZ l i k).p.length <= k /\ ((goZ l i k).sh = 0 /\ (goZ l i k).p = [] \/ (goZ l i k).sh = 2 /\ (goZ l i k).p = [] \/ (goZ l i k).sh = 1 /\ (goZ l i k).p ≠ [] \/ (goZ l i k).sh = 3 /\ (goZ l i k).p ≠ [])
 | 0 => ⟨Nat.le_refl _, .inl ⟨rfl, rfl⟩⟩
 | k + 1 => by
   obtain ⟨h1, h2⟩ := goZ_inv l i k
   rw [goZ]
   unfold oneZ
   split
   ·simp only [List.length_append, List.length_singleton]
    refine ⟨by omega, ?_⟩
    rcases h2 with ⟨h2, h3⟩ | ⟨h2, h3⟩ | ⟨h2, h3⟩ | ⟨h2, h3⟩ <;> rw [h2] <;> simp [shY]
   ·simp only
    refine ⟨by omega, ?_⟩
    rcases h2 with ⟨h2, h3⟩ | ⟨h2, h3⟩ | ⟨h2, h3⟩ | ⟨h2, h3⟩ <;> rw [h2] <;> simp [shN, h3]
theorem goZ_p (l : List Rw) (i : Nat) : ∀ k, k <= l.length -> (goZ l i k).p = (l.take k).filter fun r => r.key == (l.getD i krows.dflt).key
 | 0, _ => by simp [goZ]
 | k + 1, hk => by
   have ih := goZ_p l i k (by omega)
   have e : l.take (k + 1) = l.take k ++ [l.getD k krows.dflt] := by
    rw [List.take_add_one]
    simp [List.getD, show k < l.length by omega]
   rw [goZ, e, List.filter_append, <- ih]
   unfold oneZ
   rw [goZ_k]
   cases hc : ((l.getD k krows.dflt).key == (l.getD i krows.dflt).key) with
   | true =>
     have e2 : [l.getD k krows.dflt].filter (fun r => r.key == (l.getD i krows.dflt).key) = [l.getD k krows.dflt] := by rw [List.filter_cons_of_pos (p := fun r : Rw => r.key == (l.getD i krows.dflt).key) hc]; rfl
     rw [e2]
   | false =>
     have e2 : [l.getD k krows.dflt].filter (fun r => r.key == (l.getD i krows.dflt).key) = [] := by rw [List.filter_cons_of_neg (p := fun r : Rw => r.key == (l.getD i krows.dflt).key) (by rw [hc]; decide)]; rfl
     rw [e2, List.append_nil]
theorem iterZ (l : List Rw) (i : Nat) (hl : l.length <= 1000) (hi : i < l.length) : ∀ (q k : Nat), k + q = l.length -> iter (stepZ l i) (q + 1) (goZ l i k) = some (.exit 2, ⟨l.length, (goZ l i l.length).p, shX (goZ l i l.length).sh⟩) := by
 have ok : ∀ k, k <= l.length -> decide (l.length <= 1000 /\ i < l.length /\ (goZ l i k).k <= l.length /\ (goZ l i k).p.length <= (goZ l i k).k /\ ((goZ l i k).sh = 0 /\ (goZ l i k).p = [] \/ (goZ l i k).sh = 2 /\ (goZ l i k).p = [] \/ (goZ l i k).sh = 1 /\ (goZ l i k).p ≠ [] \/ (goZ l i k).sh = 3 /\ (goZ l i k).p ≠ [])) = true := fun k hk => by
  obtain ⟨h1, h2⟩ := goZ_inv l i k
  exact decide_eq_true ⟨hl, hi, by rw [goZ_k]; exact hk, by rw [goZ_k]; exact h1, h2⟩
 intro q
 induction q with
 | zero =>
   intro k hk
   have e : k = l.length := by omega
   subst e
   rw [iter, stepZ, nv (ok _ (Nat.le_refl _))]
   simp only [T.val, goZ_k, if_neg (Nat.lt_irrefl _)]
 | succ q ih =>
   intro k hk
   have hlt : k < l.length := by omega
   rw [iter, stepZ, nv (ok _ (by omega))]
   simp only [T.val, goZ_k, if_pos hlt]
   exact ih (k + 1) (by omega)
def keyP (l : List Rw) (i : Nat) : List Rw := (goZ l i l.length).p
def keyO (l : List Rw) (i : Nat) : Bool := (goZ l i l.length).sh == 3
theorem keyP_eq (l : List Rw) (i : Nat) : keyP l i = l.filter fun r => r.key == (l.getD i krows.dflt).key := by
 unfold keyP
 rw [goZ_p l i _ (Nat.le_refl _), List.take_length]
theorem key_sh {l : List Rw} {i : Nat} (hi : i < l.length) : shX (goZ l i l.length).sh = if keyO l i then 3 else 1 := by
 have hne : (goZ l i l.length).p ≠ [] := fun h => by
  have h0 := keyP_eq l i
  unfold keyP at h0
  rw [h] at h0
  have hm : l.getD i krows.dflt ∈ l.filter fun r => r.key == (l.getD i krows.dflt).key := by
   refine List.mem_filter.2 ⟨?_, by simp⟩
   have : l.getD i krows.dflt = l[i] := by simp [List.getD, hi]
   rw [this]; exact List.getElem_mem hi
  rw [<- h0] at hm
  cases hm
 unfold keyO
 rcases (goZ_inv l i l.length).2 with ⟨h2, h3⟩ | ⟨h2, h3⟩ | ⟨h2, h3⟩ | ⟨h2, h3⟩
 ·exact absurd h3 hne
 ·exact absurd h3 hne
 ·rw [h2]; rfl
 ·rw [h2]; rfl
def ksY : List Nat := [1, 4, 5, 7, 9, 10]
noncomputable def LY : Code := loopAt 11 (loopsOf (bodyOf Tryd.f5))
noncomputable def tabY2 (σ : Sg) (L : LinV) (tl : List Rw -> List Rw) : Tab := tabAdd 13 (sumG isS fitM fitsS) (tabAdd 14 (packT (sumG isS noM (telS tl))) (tabAdd 10 (packT (sumG isS linM (linP σ L))) fun _ => none))
theorem tabY2_ok {σ : Sg} (ht : TabR σ) : TabOk Tryd.prog (NV σ) (tabY2 σ linT tellL) :=
 tabAdd_ok (lp := noLp) fitsS_ok (tabAdd_ok (lp := noLp) (packT_ok telS_ok) (tabAdd_ok (lp := noLp) (packT_ok (linP_ok ht)) fun f g h => by cases h))
def gZA (V : KeyV) (s : St AV) : T (Ex × St AV) := match s.H with
 | [some (.abs (.sent 0)), some (.abs (.sent 1)), some (.abs (.sent 2)), none, none, none, none, some (.abs (.rowsB b l)), some (.vec [] 10 ty)] => match Sx.look s.E 1, Sx.look s.E 4, Sx.look s.E 5, Sx.look s.E 7, Sx.look s.E 9, Sx.look s.E 10, Sx.look s.E 11, Sx.look s.E 12, Nat.beq ty 37 with
   | .v (.c (.vs 7 0 n 10 false)), .v (.c (.bl false)), .v (.c (.it .i64 st)), .v (.c (.bl isv)), .v (.c (.bl all)), .v (.c (.it .i64 i)), .v (.c (.vs 8 0 0 10 true)), .v (.c (.il .i64 0)), true =>
     .need (decide (n = l.length /\ l.length <= 1000 /\ 0 <= i /\ i < (l.length : Int))) (.ite (V.one l i.toNat)
      (.leaf (.exit 2, famZA 3 b l [] st isv all (V.part l i.toNat) l.length (V.part l i.toNat).length i l.length)) (.leaf (.exit 2, famZA 1 b l [] st isv all (V.part l i.toNat) l.length (V.part l i.toNat).length i l.length)))
   | _, _, _, _, _, _, _, _, _ => .fail "JuryKeys"
 | _ => .fail "JuryKeys"
theorem gZA_ok {σ : Sg} {V : KeyV} (hp : V.part = keyP) (ho : V.one = keyO) {N' : Env AV} (hF : N'.F = (NV σ).F) (hG : N'.G = (NV σ).G) : LoopOk Tryd.prog N' 93 LZ (gZA V) := by
 have hcal : CalOk Tryd.prog (NV σ) (joinCal (lv (NV σ) (fun _ => none) 5)) := joinCal_ok (lv_ok okV lpsV hvV (fun f g h => by cases h) 5)
 refine loopOk_it (N := NV σ) hF hG okV hcal (lp := fun _ => none) (fun _ _ _ g hg => by cases hg) fun s s' ex hgs => ?_
 obtain ⟨E1, H1⟩ := s
 unfold gZA at hgs
 split at hgs
 ·rename_i b l ty hs
  simp only at hs
  subst hs
  split at hgs
  ·rename_i n st isv all i e1 e4 e5 e7 e9 e10 e11 e12 et
   simp only at e1 e4 e5 e7 e9 e10 e11 e12
   have et := (beq_iff _ _).1 et
   subst et
   replace hgs := need_some hgs
   obtain ⟨hb, hgs⟩ := hgs
   obtain ⟨rfl, hl, hi0, hi1⟩ := of_decide_eq_true hb
   obtain ⟨j, rfl⟩ : ∃ j : Nat, i = j := ⟨i.toNat, by omega⟩
   rw [hp, ho, Int.toNat_natCast] at hgs
   have hj : j < l.length := by omega
   have hgo : ex = .exit 2 /\ s' = famZMA b l [] st isv all j ⟨l.length, (goZ l j l.length).p, shX (goZ l j l.length).sh⟩ := by
    unfold famZMA
    rw [key_sh hj]
    cases hone : keyO l j with
    | true =>
      rw [hone, ivT rfl] at hgs
      simp only [T.val, Option.some.injEq, Prod.mk.injEq] at hgs
      obtain ⟨rfl, rfl⟩ := hgs
      exact ⟨rfl, rfl⟩
    | false =>
      rw [hone, ivF rfl] at hgs
      simp only [T.val, Option.some.injEq, Prod.mk.injEq] at hgs
      obtain ⟨rfl, rfl⟩ := hgs
      exact ⟨rfl, rfl⟩
   obtain ⟨rfl, rfl⟩ := hgo
   refine ⟨{ M := MZ, fam := famZMA b l [] st isv all j, step := stepZ l j, ks := ksZ, pk := pkJ, hpk := pkJ_ok, L := 9, len := rfl, hGL := (by show 7 <= 9; decide), run := stepZA_run σ b l [] st isv all j, m := goZ l j 0, k := l.length + 1, m' := ⟨l.length, (goZ l j l.length).p, shX (goZ l j l.length).sh⟩, ent := ?_, it := iterZ l j hl hj l.length 0 (by omega), fin := rfl }⟩
   refine enter_only (N := NV σ) (s := ⟨E1, _⟩) (l := []) (fun a ha => by cases ha) (by show 7 <= 9; decide) fun k hk => ?_
   simp only [ksZ, List.mem_cons, List.not_mem_nil, or_false] at hk
   rcases hk with rfl | rfl | rfl | rfl | rfl | rfl | rfl | rfl
   ·exact .inl e1.symm
   ·exact .inl e4.symm
   ·exact .inl e5.symm
   ·exact .inl e7.symm
   ·exact .inl e9.symm
   ·exact .inl e10.symm
   ·exact .inl e11.symm
   ·exact .inr (.inl (sayIl e12))
  ·simp [T.val] at hgs
 ·simp [T.val] at hgs
def lpZA (V : KeyV) : Nat -> Option (St AV -> T (Ex × St AV)) := fun id => match Nat.beq id 17 with | true => some (gZA V) | false => none
def famYA (b : Bool) (l : List Rw) (o : List N1) (st : Int) (x4 isv all : Bool) (n : Nat) (i : Int) : St AV :=
 { E := only ksY [(1, .v (.c (.vs 7 0 n 10 false))), (4, .v (.c (.bl x4))), (5, .v (.c (.it .i64 st))), (7, .v (.c (.bl isv))), (9, .v (.c (.bl all))), (10, .v (.c (.it .i64 i)))] 93,
   H := hpO linM [.rowsB b l] }
def gZB (V : KeyV) (s : St AV) : T (Ex × St AV) := match s.H with
 | [some (.abs (.sent 0)), some (.abs (.sent 1)), some (.abs (.sent 2)), none, none, none, none, some (.abs (.rowsB b l)), some (.abs (.ints o)), some (.vec [] 10 ty)] => match Sx.look s.E 1, Sx.look s.E 4, Sx.look s.E 5, Sx.look s.E 7, Sx.look s.E 9, Sx.look s.E 10, Sx.look s.E 11, Sx.look s.E 12, Nat.beq ty 37 with
   | .v (.c (.vs 7 0 n 10 false)), .v (.c (.bl false)), .v (.c (.it .i64 st)), .v (.c (.bl isv)), .v (.c (.bl all)), .v (.c (.it .i64 i)), .v (.c (.vs 9 0 0 10 true)), .v (.c (.il .i64 0)), true =>
     .need (decide (n = l.length /\ l.length <= 1000 /\ 0 <= i /\ i < (l.length : Int))) (.ite (V.one l i.toNat)
      (.leaf (.exit 2, famZB 3 b l o st isv all (V.part l i.toNat) l.length (V.part l i.toNat).length i l.length)) (.leaf (.exit 2, famZB 1 b l o st isv all (V.part l i.toNat) l.length (V.part l i.toNat).length i l.length)))
   | _, _, _, _, _, _, _, _, _ => .fail "JuryKeys"
 | _ => .fail "JuryKeys"
theorem gZB_ok {σ : Sg} {V : KeyV} (hp : V.part = keyP) (ho : V.one = keyO) {N' : Env AV} (hF : N'.F = (NV σ).F) (hG : N'.G = (NV σ).G) : LoopOk Tryd.prog N' 93 LZ (gZB V) := by
 have hcal : CalOk Tryd.prog (NV σ) (joinCal (lv (NV σ) (fun _ => none) 5)) := joinCal_ok (lv_ok okV lpsV hvV (fun f g h => by cases h) 5)
 refine loopOk_it (N := NV σ) hF hG okV hcal (lp := fun _ => none) (fun _ _ _ g hg => by cases hg) fun s s' ex hgs => ?_
 obtain ⟨E1, H1⟩ := s
 unfold gZB at hgs
 split at hgs
 ·rename_i b l o ty hs
  simp only at hs
  subst hs
  split at hgs
  ·rename_i n st isv all i e1 e4 e5 e7 e9 e10 e11 e12 et
   simp only at e1 e4 e5 e7 e9 e10 e11 e12
   have et := (beq_iff _ _).1 et
   subst et
   replace hgs := need_some hgs
   obtain ⟨hb, hgs⟩ := hgs
   obtain ⟨rfl, hl, hi0, hi1⟩ := of_decide_eq_true hb
   obtain ⟨j, rfl⟩ : ∃ j : Nat, i = j := ⟨i.toNat, by omega⟩
   rw [hp, ho, Int.toNat_natCast] at hgs
   have hj : j < l.length := by omega
   have hgo : ex = .exit 2 /\ s' = famZMB b l o st isv all j ⟨l.length, (goZ l j l.length).p, shX (goZ l j l.length).sh⟩ := by
    unfold famZMB
    rw [key_sh hj]
    cases hone : keyO l j with
    | true =>
      rw [hone, ivT rfl] at hgs
      simp only [T.val, Option.some.injEq, Prod.mk.injEq] at hgs
      obtain ⟨rfl, rfl⟩ := hgs
      exact ⟨rfl, rfl⟩
    | false =>
      rw [hone, ivF rfl] at hgs
      simp only [T.val, Option.some.injEq, Prod.mk.injEq] at hgs
      obtain ⟨rfl, rfl⟩ := hgs
      exact ⟨rfl, rfl⟩
   obtain ⟨rfl, rfl⟩ := hgo
   refine ⟨{ M := MZ, fam := famZMB b l o st isv all j, step := stepZ l j, ks := ksZ, pk := pkJ, hpk := pkJ_ok, L := 10, len := rfl, hGL := (by show 7 <= 10; decide), run := stepZB_run σ b l o st isv all j, m := goZ l j 0, k := l.length + 1, m' := ⟨l.length, (goZ l j l.length).p, shX (goZ l j l.length).sh⟩, ent := ?_, it := iterZ l j hl hj l.length 0 (by omega), fin := rfl }⟩
   refine enter_only (N := NV σ) (s := ⟨E1, _⟩) (l := []) (fun a ha => by cases ha) (by show 7 <= 10; decide) fun k hk => ?_
   simp only [ksZ, List.mem_cons, List.not_mem_nil, or_false] at hk
   rcases hk with rfl | rfl | rfl | rfl | rfl | rfl | rfl | rfl
   ·exact .inl e1.symm
   ·exact .inl e4.symm
   ·exact .inl e5.symm
   ·exact .inl e7.symm
   ·exact .inl e9.symm
   ·exact .inl e10.symm
   ·exact .inl e11.symm
   ·exact .inr (.inl (sayIl e12))
  ·simp [T.val] at hgs
 ·simp [T.val] at hgs
def lpZB (V : KeyV) : Nat -> Option (St AV -> T (Ex × St AV)) := fun id => match Nat.beq id 17 with | true => some (gZB V) | false => none
def famYB (b : Bool) (l : List Rw) (o : List N1) (st : Int) (x4 isv all : Bool) (n : Nat) (i : Int) : St AV :=
 { E := only ksY [(1, .v (.c (.vs 7 0 n 10 false))), (4, .v (.c (.bl x4))), (5, .v (.c (.it .i64 st))), (7, .v (.c (.bl isv))), (9, .v (.c (.bl all))), (10, .v (.c (.it .i64 i)))] 93,
   H := hpO linM [.rowsB b l, .ints o] }
end Go.Proofs.YtpapbhbnaalhcaaDoor
