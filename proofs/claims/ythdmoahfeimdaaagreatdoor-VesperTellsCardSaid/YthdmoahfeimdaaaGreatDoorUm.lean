import Derived.Test.YthdmoahfeimdaaaGreatDoorUe
namespace Go.Proofs.YthdmoahfeimdaaaGreatDoor
open Go Go.Sx Go.Proofs
set_option linter.unusedVariables false
set_option maxRecDepth 100000
variable {σ : Sg} {lp : Lp}
structure MT where
 k : Nat
 bs : List UInt8
def stepT (n B ex : Nat) (f : Nat -> List UInt8) (m : MT) : T (Ex × MT) := .need (decide (m.k <= n /\ m.bs.length <= B)) (.leaf (if m.k < n then (.normal, ⟨m.k + 1, m.bs ++ f m.k⟩) else (.exit ex, m)))
def catF (f : Nat -> List UInt8) : Nat -> Nat -> List UInt8
 | _, 0 => []
 | k, q + 1 => f k ++ catF f (k + 1) q
theorem iterT {n B ex c : Nat} {f : Nat -> List UInt8} (hf : ∀ k, k < n -> (f k).length <= c) : ∀ (q k : Nat) (bs : List UInt8), k + q = n -> bs.length + q * c <= B -> iter (stepT n B ex f) (q + 1) ⟨k, bs⟩ = some (.exit ex, ⟨n, bs ++ catF f k q⟩) := by
 intro q
 induction q with
 | zero =>
   intro k bs hk hb
   have e : k = n := by omega
   subst e
   rw [iter, stepT, nv (decide_eq_true ⟨Nat.le_refl _, by show bs.length <= _; omega⟩)]
   simp only [T.val, if_neg (Nat.lt_irrefl _), catF, List.append_nil]
 | succ q ih =>
   intro k bs hk hb
   have hlt : k < n := by omega
   have h1 := hf k hlt
   have e : (q + 1) * c = q * c + c := Nat.succ_mul q c
   rw [iter, stepT, nv (decide_eq_true ⟨by show k <= _; omega, by show bs.length <= _; omega⟩)]
   simp only [T.val, if_pos hlt]
   rw [ih (k + 1) (bs ++ f k) (by omega) (by rw [List.length_append]; omega), catF, List.append_assoc]
def ksH : List Nat := [0, 1, 5, 6]
def ksI : List Nat := [0, 1, 5, 7]
noncomputable def LH : Code := loopAt 3 (loopsOf (bodyOf Tryz.f19))
noncomputable def LI : Code := loopAt 7 (loopsOf (bodyOf Tryz.f19))
def famH (l : List N1) (p : List Pr) (n m : Nat) (bs : List UInt8) (i : Int) : St AV :=
 { E := only ksH [(0, .v (.c (.vs 14 0 n 1 false))), (1, .v (.c (.vs 15 0 m 2 false))), (5, .v (.c (.sv ⟨bs.toArray⟩))), (6, .v (.c (.it .i64 i)))] 47, H := hpO nM [.intsA l, .pairsA p] }
def famI (l : List N1) (p : List Pr) (n m : Nat) (bs : List UInt8) (i : Int) : St AV :=
 { E := only ksI [(0, .v (.c (.vs 14 0 n 1 false))), (1, .v (.c (.vs 15 0 m 2 false))), (5, .v (.c (.sv ⟨bs.toArray⟩))), (7, .v (.c (.it .i64 i)))] 47, H := hpO nM [.intsA l, .pairsA p] }
abbrev tb (bs : List UInt8) : ByteArray := ⟨bs.toArray⟩
def eqT : ByteArray := ⟨#[61]⟩
def hasV (l : List N1) (k : Nat) : Int := (l.getD k kints.dflt).val
def hasK (p : List Pr) (k : Nat) : Int := (p.getD k kpairs.dflt).key
def hasW2 (p : List Pr) (k : Nat) : Int := (p.getD k kpairs.dflt).val
theorem hR (σ : Sg) (db : DigF) (l : List N1) (p : List Pr) (n m : Nat) (bs : List UInt8) (i : Int) : (xc (NV σ) (joinCal (lv (NV σ) (tabHs db) 5)) (fun _ => none) 47 LH (famH l p n m bs i)).bind (backS 16 47 ksH noPk) =
 .ite (decide (i < (n : Int))) (.need (bc (bM (strLen (tb bs) + strLen spT)) (bc (decide (0 <= i /\ i < (n : Int))) (bc (decide (0 + i.toNat < l.length)) (bc (okS0 (hasV l (0 + i.toNat))) (bM (strLen (strCat (tb bs) spT) + strLen (dbT db (hasV l (0 + i.toNat)))))))))
  (.leaf (.normal, famH l p n m (strCat (strCat (tb bs) spT) (dbT db (hasV l (0 + i.toNat)))).data.toList (IntKind.wrap .i64 (i + 1))))) (.leaf (.exit 0, famH l p n m bs i)) := by kernel_rfl
theorem iR (σ : Sg) (db : DigF) (l : List N1) (p : List Pr) (n m : Nat) (bs : List UInt8) (i : Int) : (xc (NV σ) (joinCal (lv (NV σ) (tabHs db) 5)) (fun _ => none) 47 LI (famI l p n m bs i)).bind (backS 16 47 ksI noPk) =
 .ite (decide (i < (m : Int))) (.need (bc (bM (strLen (tb bs) + strLen spT)) (bc (decide (0 <= i /\ i < (m : Int))) (bc (decide (0 + i.toNat < p.length)) (bc (okS0 (hasK p (0 + i.toNat))) (bc (bM (strLen (strCat (tb bs) spT) + strLen (dbT db (hasK p (0 + i.toNat))))) (bc (bM (strLen (strCat (strCat (tb bs) spT) (dbT db (hasK p (0 + i.toNat)))) + strLen eqT))
  (bc (decide (0 <= i /\ i < (m : Int))) (bc (decide (0 + i.toNat < p.length)) (bc (okS0 (hasW2 p (0 + i.toNat))) (bM (strLen (strCat (strCat (strCat (tb bs) spT) (dbT db (hasK p (0 + i.toNat)))) eqT) + strLen (dbT db (hasW2 p (0 + i.toNat))))))))))))))
  (.leaf (.normal, famI l p n m (strCat (strCat (strCat (strCat (tb bs) spT) (dbT db (hasK p (0 + i.toNat)))) eqT) (dbT db (hasW2 p (0 + i.toNat)))).data.toList (IntKind.wrap .i64 (i + 1))))) (.leaf (.exit 2, famI l p n m bs i)) := by kernel_rfl
def fH (l : List N1) (k : Nat) : List UInt8 := 32 :: itoL (hasV l k)
def fI (p : List Pr) (k : Nat) : List UInt8 := 32 :: (itoL (hasK p k) ++ 61 :: itoL (hasW2 p k))
def famHM (l : List N1) (p : List Pr) (n m : Nat) (x : MT) : St AV := famH l p n m x.bs x.k
def famIM (l : List N1) (p : List Pr) (n m : Nat) (x : MT) : St AV := famI l p n m x.bs x.k
theorem stepH_run (σ : Sg) (l : List N1) (p : List Pr) (m : Nat) (hn : l.length <= 1000) (hs : ∀ k, k < l.length -> smI (hasV l k)) (x : MT) (q : Ex × MT) (h : (stepT l.length 100000 0 (fH l) x).val = some q) :
 ((xc (NV σ) (joinCal (lv (NV σ) (tabHs itoL) 5)) (fun _ => none) 47 LH (famHM l p l.length m x)).bind (backS 16 47 ksH noPk)).val = some (q.1, famHM l p l.length m q.2) := by
 replace h := need_some h
 obtain ⟨hb, h⟩ := h
 obtain ⟨h1, h2⟩ := of_decide_eq_true hb
 simp only [T.val, Option.some.injEq] at h
 subst h
 obtain ⟨k, bs⟩ := x
 simp only at h1 h2
 have e1 : 0 + (k : Int).toNat = k := by omega
 have hw : IntKind.wrap .i64 ((k : Int) + 1) = ((k + 1 : Nat) : Int) := wrapS (by omega)
 have lb : strLen (tb bs) = bs.length := rfl
 dsimp only [famHM]
 rw [hR]
 by_cases hk : k < l.length
 ·have hv := hs k hk
  have d := len_ds hv
  rw [ivT (decide_eq_true (by show (k : Int) < _; omega)), e1, nv (bcT (bmT (by rw [len_sp]; omega)) (bcT (decide_eq_true (by omega)) (bcT (decide_eq_true hk) (bcT (okS_of hv) (bmT (by rw [len_cat, len_sp]; omega)))))), hw]
  simp only [if_pos hk, T.val]
  congr 3
  show (bs ++ [32]) ++ itoL (hasV l k) = bs ++ 32 :: itoL (hasV l k)
  simp
 ·rw [ivF (decide_eq_false (by show ¬ (k : Int) < _; omega))]
  simp only [if_neg hk, T.val]
theorem stepI_run (σ : Sg) (l : List N1) (p : List Pr) (n : Nat) (hn : p.length <= 1000) (hs : ∀ k, k < p.length -> smI (hasK p k) /\ smI (hasW2 p k)) (x : MT) (q : Ex × MT) (h : (stepT p.length 100000 2 (fI p) x).val = some q) :
 ((xc (NV σ) (joinCal (lv (NV σ) (tabHs itoL) 5)) (fun _ => none) 47 LI (famIM l p n p.length x)).bind (backS 16 47 ksI noPk)).val = some (q.1, famIM l p n p.length q.2) := by
 replace h := need_some h
 obtain ⟨hb, h⟩ := h
 obtain ⟨h1, h2⟩ := of_decide_eq_true hb
 simp only [T.val, Option.some.injEq] at h
 subst h
 obtain ⟨k, bs⟩ := x
 simp only at h1 h2
 have e1 : 0 + (k : Int).toNat = k := by omega
 have hw : IntKind.wrap .i64 ((k : Int) + 1) = ((k + 1 : Nat) : Int) := wrapS (by omega)
 have lb : strLen (tb bs) = bs.length := rfl
 have le : strLen eqT = 1 := rfl
 dsimp only [famIM]
 rw [iR]
 by_cases hk : k < p.length
 ·obtain ⟨hv, hu⟩ := hs k hk
  have d := len_ds hv
  have d2 := len_ds hu
  have r1 : decide (0 <= (k : Int) /\ (k : Int) < (p.length : Int)) = true := decide_eq_true (by omega)
  rw [ivT (decide_eq_true (by show (k : Int) < _; omega)), e1, nv (bcT (bmT (by rw [len_sp]; omega)) (bcT r1 (bcT (decide_eq_true hk) (bcT (okS_of hv) (bcT (bmT (by rw [len_cat, len_sp]; omega)) (bcT (bmT (by rw [len_cat, len_cat, len_sp, le]; omega))
   (bcT r1 (bcT (decide_eq_true hk) (bcT (okS_of hu) (bmT (by rw [len_cat, len_cat, len_cat, len_sp, le]; omega))))))))))), hw]
  simp only [if_pos hk, T.val]
  congr 3
  show (((bs ++ [32]) ++ itoL (hasK p k)) ++ [61]) ++ itoL (hasW2 p k) = bs ++ 32 :: (itoL (hasK p k) ++ 61 :: itoL (hasW2 p k))
  simp
 ·rw [ivF (decide_eq_false (by show ¬ (k : Int) < _; omega))]
  simp only [if_neg hk, T.val]
end Go.Proofs.YthdmoahfeimdaaaGreatDoor

namespace Go.Proofs.YthdmoahfeimdaaaGreatDoor
open Go Go.Sx Go.Proofs
set_option linter.unusedVariables false
set_option maxRecDepth 100000
variable {σ : Sg} {lp : Lp}
theorem smV {l : List N1} (h : ∀ a ∈ l, smI a.val) : ∀ k, k < l.length -> smI (hasV l k) := fun k hk => h _ (getD_mem hk _)
theorem smP {p : List Pr} (h : ∀ a ∈ p, smI a.key /\ smI a.val) : ∀ k, k < p.length -> smI (hasK p k) /\ smI (hasW2 p k) := fun k hk => h _ (getD_mem hk kpairs.dflt)
theorem fH_le {l : List N1} (h : ∀ a ∈ l, smI a.val) : ∀ k, k < l.length -> (fH l k).length <= 50 := fun k hk => by
 have := len_ds (smV h k hk)
 have e : strLen (dbT itoL (hasV l k)) = (itoL (hasV l k)).length := rfl
 unfold fH; simp; omega
theorem fI_le {p : List Pr} (h : ∀ a ∈ p, smI a.key /\ smI a.val) : ∀ k, k < p.length -> (fI p k).length <= 50 := fun k hk => by
 have h1 := len_ds (smP h k hk).1
 have h2 := len_ds (smP h k hk).2
 have e1 : strLen (dbT itoL (hasK p k)) = (itoL (hasK p k)).length := rfl
 have e2 : strLen (dbT itoL (hasW2 p k)) = (itoL (hasW2 p k)).length := rfl
 unfold fI; simp; omega
abbrev CatV := List N1 -> List UInt8
abbrev CatP := List Pr -> List UInt8
def catH (l : List N1) : List UInt8 := catF (fH l) 0 l.length
def catI (p : List Pr) : List UInt8 := catF (fI p) 0 p.length
def gHl (cv : CatV) (s : St AV) : T (Ex × St AV) := match s.H with
 | [none, none, none, none, none, none, none, none, none, none, none, none, none, none, some (.abs (.intsA l)), some (.abs (.pairsA p))] => match Sx.look s.E 0, Sx.look s.E 1, Sx.look s.E 5, Sx.look s.E 6 with
   | .v (.c (.vs 14 0 n 1 false)), .v (.c (.vs 15 0 m 2 false)), .v (.c (.st t)), .v (.c (.il .i64 0)) => .need (decide (n = l.length /\ l.length <= 100 /\ (∀ a ∈ l, smI a.val) /\ t.data.toList.length <= 1000))
     (.leaf (.exit 0, famH l p l.length m (t.data.toList ++ cv l) l.length))
   | _, _, _, _ => .fail "values"
 | _ => .fail "values"
def gIl (cp : CatP) (s : St AV) : T (Ex × St AV) := match s.H with
 | [none, none, none, none, none, none, none, none, none, none, none, none, none, none, some (.abs (.intsA l)), some (.abs (.pairsA p))] => match Sx.look s.E 0, Sx.look s.E 1, Sx.look s.E 5, Sx.look s.E 7 with
   | .v (.c (.vs 14 0 n 1 false)), .v (.c (.vs 15 0 m 2 false)), .v (.c (.sv t)), .v (.c (.il .i64 0)) => .need (decide (m = p.length /\ p.length <= 100 /\ (∀ a ∈ p, smI a.key /\ smI a.val) /\ t.data.toList.length <= 20000))
     (.leaf (.exit 2, famI l p n p.length (t.data.toList ++ cp p) p.length))
   | _, _, _, _ => .fail "pairs"
 | _ => .fail "pairs"
theorem gHl_ok {N' : Env AV} (hF : N'.F = (NV σ).F) (hG : N'.G = (NV σ).G) : LoopOk Tryz.prog N' 47 LH (gHl catH) := by
 have hcal : CalOk Tryz.prog (NV σ) (joinCal (lv (NV σ) (tabHs itoL) 5)) := joinCal_ok (lv_ok okV lpsV hvV (tabAdd_ok dig22_ok tab0_ok) 5)
 refine loopOk_it (N := NV σ) hF hG okV hcal (lp := fun _ => none) (fun _ _ _ g hg => by cases hg) fun s s' ex hgs => ?_
 obtain ⟨E1, H1⟩ := s
 unfold gHl at hgs
 split at hgs
 ·rename_i l p hs
  simp only at hs
  subst hs
  split at hgs
  ·rename_i n m t e0 e1 e5 e6
   simp only at e0 e1 e5 e6
   replace hgs := need_some hgs
   obtain ⟨hb, hgs⟩ := hgs
   obtain ⟨rfl, hl, hr, ht⟩ := of_decide_eq_true hb
   simp only [T.val, Option.some.injEq, Prod.mk.injEq] at hgs
   obtain ⟨rfl, rfl⟩ := hgs
   refine ⟨{ M := MT, fam := famHM l p l.length m, step := stepT l.length 100000 0 (fH l), ks := ksH, pk := noPk, hpk := (fun d a h => by cases h), L := 16, len := rfl, hGL := (by show 14 <= 16; decide), run := stepH_run σ l p m (by omega) (smV hr), m := ⟨0, t.data.toList⟩, k := _, m' := _, ent := ?_, it := iterT (c := 50) (fH_le hr) l.length 0 _ (by omega) (by omega), fin := rfl }⟩
   refine enter_ks (N := NV σ) (nt := 47) (E := E1) (ks := ksH) (E' := [(0, .v (.c (.vs 14 0 l.length 1 false))), (1, .v (.c (.vs 15 0 m 2 false))), (5, .v (.c (.sv ⟨t.data.toList.toArray⟩))), (6, .v (.c (.it .i64 (0 : Nat))))]) fun k hk => ?_
   simp only [ksH, List.mem_cons, List.not_mem_nil, or_false] at hk
   rcases hk with rfl | rfl | rfl | rfl
   ·exact .inl e0.symm
   ·exact .inl e1.symm
   ·exact .inr ⟨by rw [e5]; rintro ⟨⟩, plSv _, fun ρ => by rw [e5]; rfl⟩
   ·exact .inr ⟨by rw [e6]; rintro ⟨⟩, plainIl _ _, fun ρ => by rw [e6]; rfl⟩
  ·simp [T.val] at hgs
 ·simp [T.val] at hgs
theorem gIl_ok {N' : Env AV} (hF : N'.F = (NV σ).F) (hG : N'.G = (NV σ).G) : LoopOk Tryz.prog N' 47 LI (gIl catI) := by
 have hcal : CalOk Tryz.prog (NV σ) (joinCal (lv (NV σ) (tabHs itoL) 5)) := joinCal_ok (lv_ok okV lpsV hvV (tabAdd_ok dig22_ok tab0_ok) 5)
 refine loopOk_it (N := NV σ) hF hG okV hcal (lp := fun _ => none) (fun _ _ _ g hg => by cases hg) fun s s' ex hgs => ?_
 obtain ⟨E1, H1⟩ := s
 unfold gIl at hgs
 split at hgs
 ·rename_i l p hs
  simp only at hs
  subst hs
  split at hgs
  ·rename_i n m t e0 e1 e5 e6
   simp only at e0 e1 e5 e6
   replace hgs := need_some hgs
   obtain ⟨hb, hgs⟩ := hgs
   obtain ⟨rfl, hl, hr, ht⟩ := of_decide_eq_true hb
   simp only [T.val, Option.some.injEq, Prod.mk.injEq] at hgs
   obtain ⟨rfl, rfl⟩ := hgs
   refine ⟨{ M := MT, fam := famIM l p n p.length, step := stepT p.length 100000 2 (fI p), ks := ksI, pk := noPk, hpk := (fun d a h => by cases h), L := 16, len := rfl, hGL := (by show 14 <= 16; decide), run := stepI_run σ l p n (by omega) (smP hr), m := ⟨0, t.data.toList⟩, k := _, m' := _, ent := ?_, it := iterT (c := 50) (fI_le hr) p.length 0 _ (by omega) (by omega), fin := rfl }⟩
   refine enter_ks (N := NV σ) (nt := 47) (E := E1) (ks := ksI) (E' := [(0, .v (.c (.vs 14 0 n 1 false))), (1, .v (.c (.vs 15 0 p.length 2 false))), (5, .v (.c (.sv ⟨t.data.toList.toArray⟩))), (7, .v (.c (.it .i64 (0 : Nat))))]) fun k hk => ?_
   simp only [ksI, List.mem_cons, List.not_mem_nil, or_false] at hk
   rcases hk with rfl | rfl | rfl | rfl
   ·exact .inl e0.symm
   ·exact .inl e1.symm
   ·exact .inl e5.symm
   ·exact .inr ⟨by rw [e6]; rintro ⟨⟩, plainIl _ _, fun ρ => by rw [e6]; rfl⟩
  ·simp [T.val] at hgs
 ·simp [T.val] at hgs
def lpH (cv : CatV) (cp : CatP) : Lp := lpAdd 19 3 (gHl cv) (lpAdd 19 7 (gIl cp) noLp)
theorem lps_has : LpsOk Tryz.prog (NVl (lpH catH catI) σ) :=
 lpsAdd (lpsAdd lpsV (fn := Tryz.f19) (by kernel_rfl) (c := bodyOf Tryz.f19) (by kernel_rfl) (nt := 47) (by kernel_rfl) (b := LI) (oneLoop_spec (by kernel_rfl)) (gIl_ok rfl rfl))
  (fn := Tryz.f19) (by kernel_rfl) (c := bodyOf Tryz.f19) (by kernel_rfl) (nt := 47) (by kernel_rfl) (b := LH) (oneLoop_spec (by kernel_rfl)) (gHl_ok rfl rfl)
def hasTx : List UInt8 := [104, 97, 115]
theorem hasR (σ : Sg) (cv : CatV) (cp : CatP) (l : List N1) (p : List Pr) (n m : Nat) : runC (lpH cv cp) σ (tabHs itoL) 19 nM [.v (.c (.vs 14 0 n 1 false)), .v (.c (.vs 15 0 m 2 false))] [.abs (.intsA l), .abs (.pairsA p)] =
 .need (decide (n = l.length /\ l.length <= 100 /\ (∀ a ∈ l, smI a.val) /\ hasTx.length <= 1000)) (.need (decide (m = p.length /\ p.length <= 100 /\ (∀ a ∈ p, smI a.key /\ smI a.val) /\ (hasTx ++ cv l).length <= 20000))
  (.need (bM (strLen (tb ((hasTx ++ cv l) ++ cp p)) + strLen nlT)) (.leaf (stV (.v (.c (.sv (strCat (tb ((hasTx ++ cv l) ++ cp p)) nlT))), hpC nM [.abs (.intsA l), .abs (.pairsA p)]))))) := by kernel_rfl
end Go.Proofs.YthdmoahfeimdaaaGreatDoor

namespace Go.Proofs.YthdmoahfeimdaaaGreatDoor
open Go Go.Sx Go.Proofs
set_option linter.unusedVariables false
set_option maxRecDepth 100000
variable {σ : Sg} {lp : Lp}
theorem catF_le {f : Nat -> List UInt8} {n c : Nat} (hf : ∀ k, k < n -> (f k).length <= c) : ∀ (q k : Nat), k + q = n -> (catF f k q).length <= q * c
 | 0, k, _ => by simp [catF]
 | q + 1, k, h => by
   have h1 := hf k (by omega)
   have h2 := catF_le hf q (k + 1) (by omega)
   have e : (q + 1) * c = q * c + c := Nat.succ_mul q c
   rw [catF, List.length_append]; omega
def hasL (l : List N1) (p : List Pr) : List UInt8 := ((hasTx ++ catH l) ++ catI p) ++ [10]
abbrev HasF := List N1 -> List Pr -> List UInt8
def hasP (hb : HasF) (args : List SV) (ch : List (Chunk AV)) : T (SV × List (Chunk AV) × List (Chunk AV)) := match args, ch with
 | [.v (.c (.vs 14 0 n 1 false)), .v (.c (.vs 15 0 m 2 false))], [.abs (.intsA l), .abs (.pairsA p)] => .need (decide (n = l.length /\ m = p.length /\ l.length <= 100 /\ p.length <= 100 /\ (∀ a ∈ l, smI a.val) /\ ∀ a ∈ p, smI a.key /\ smI a.val))
     (.leaf (.v (.c (.sv ⟨(hb l p).toArray⟩)), [.abs (.intsA l), .abs (.pairsA p)], []))
 | _, _ => .fail "Has"
theorem catH_le {l : List N1} (h : ∀ a ∈ l, smI a.val) (hl : l.length <= 100) : (catH l).length <= 5000 := Nat.le_trans (catF_le (fH_le h) l.length 0 (by omega)) (by omega)
theorem catI_le {p : List Pr} (h : ∀ a ∈ p, smI a.key /\ smI a.val) (hl : p.length <= 100) : (catI p).length <= 5000 := Nat.le_trans (catF_le (fI_le h) p.length 0 (by omega)) (by omega)
theorem has_ok : FnOk Tryz.prog (NVl lp σ) 19 (sumC isS nM (hasP hasL)) := by
 refine fnOk_env (N := NVl (lpH catH catI) σ) (N' := NVl lp σ) rfl rfl (sumC_ok isS_ok rfl fun args ch x l' nw h hlen ha hC => ?_)
 unfold hasP at h
 split at h
 ·rename_i n m l p
  replace h := need_some h
  obtain ⟨hb, h⟩ := h
  obtain ⟨rfl, rfl, hl, hp, hr, hq⟩ := of_decide_eq_true hb
  simp only [T.val, Option.some.injEq, Prod.mk.injEq] at h
  obtain ⟨rfl, rfl, rfl⟩ := h
  have b1 := catH_le hr hl
  have b2 := catI_le hq hp
  have b0 : hasTx.length = 3 := rfl
  have hx : (runC (lpH catH catI) σ (tabHs itoL) 19 nM [.v (.c (.vs 14 0 l.length 1 false)), .v (.c (.vs 15 0 p.length 2 false))] [.abs (.intsA l), .abs (.pairsA p)]).val = some (stV (.v (.c (.sv ⟨(hasL l p).toArray⟩)), hpC nM [.abs (.intsA l), .abs (.pairsA p)])) := by
   rw [hasR, nv (decide_eq_true ⟨rfl, hl, hr, by omega⟩), nv (decide_eq_true ⟨rfl, hp, hq, by rw [List.length_append]; omega⟩), nv (bmT (by show (((hasTx ++ catH l) ++ catI p).length + 1) <= _; simp only [List.length_append]; omega))]
   rfl
  exact runC_ctr lps_has (tabAdd_ok dig22_ok tab0_ok) rfl hx (by rintro ⟨⟩)
 ·simp [T.val] at h
def lfT : ByteArray := ⟨#[108, 101, 102, 116]⟩
def stT : ByteArray := ⟨#[10, 115, 116, 101, 112, 115, 32]⟩
def moT : ByteArray := ⟨#[32, 109, 111, 115, 116, 32]⟩
def aD (db : DigF) (B : ByteArray) (n : Int) : ByteArray := strCat (strCat B spT) (dbT db n)
theorem endsR (σ : Sg) (db : DigF) (a b c d s m : Int) : runC noLp σ (tabD0 db) 20 nM [.v (.agg [i6 a, i6 b, i6 c, i6 d]), .v (.c (i6 s)), .v (.c (i6 m))] [] =
 .need (bc (okS0 a) (bM (strLen (strCat lfT spT) + strLen (dbT db a)))) (.need (bc (bM (strLen (aD db lfT a) + strLen spT)) (bc (okS0 b) (bM (strLen (strCat (aD db lfT a) spT) + strLen (dbT db b)))))
  (.need (bc (bM (strLen (aD db (aD db lfT a) b) + strLen spT)) (bc (okS0 c) (bM (strLen (strCat (aD db (aD db lfT a) b) spT) + strLen (dbT db c)))))
  (.need (bc (bM (strLen (aD db (aD db (aD db lfT a) b) c) + strLen spT)) (bc (okS0 d) (bM (strLen (strCat (aD db (aD db (aD db lfT a) b) c) spT) + strLen (dbT db d)))))
  (.need (bc (bM (strLen (aD db (aD db (aD db (aD db lfT a) b) c) d) + strLen stT)) (bc (okS0 s) (bc (bM (strLen (strCat (aD db (aD db (aD db (aD db lfT a) b) c) d) stT) + strLen (dbT db s)))
    (bc (bM (strLen (strCat (strCat (aD db (aD db (aD db (aD db lfT a) b) c) d) stT) (dbT db s)) + strLen moT)) (bc (okS0 m) (bc (bM (strLen (strCat (strCat (strCat (aD db (aD db (aD db (aD db lfT a) b) c) d) stT) (dbT db s)) moT) + strLen (dbT db m)))
      (bM (strLen (strCat (strCat (strCat (strCat (aD db (aD db (aD db (aD db lfT a) b) c) d) stT) (dbT db s)) moT) (dbT db m)) + strLen nlT))))))))
    (lfR (.sv (strCat (strCat (strCat (strCat (strCat (aD db (aD db (aD db (aD db lfT a) b) c) d) stT) (dbT db s)) moT) (dbT db m)) nlT))))))) := by kernel_rfl
def endsL (a b c d s m : Int) : List UInt8 := [108, 101, 102, 116] ++ (32 :: (itoL a ++ 32 :: (itoL b ++ 32 :: (itoL c ++ 32 :: (itoL d ++ ([10, 115, 116, 101, 112, 115, 32] ++ (itoL s ++ ([32, 109, 111, 115, 116, 32] ++ (itoL m ++ [10]))))))))) 
theorem len_aD {B : ByteArray} {n : Int} (h : smI n) : strLen (aD itoL B n) <= strLen B + 22 := by
 have := len_ds h
 unfold aD; rw [len_cat, len_cat, len_sp]; omega
theorem ends_val {a b c d s m : Int} (ha : smI a) (hb : smI b) (hc : smI c) (hd : smI d) (hs : smI s) (hm : smI m) : (runC noLp σ (tabD0 itoL) 20 nM [.v (.agg [i6 a, i6 b, i6 c, i6 d]), .v (.c (i6 s)), .v (.c (i6 m))] []).val = some (stV (.v (.c (.sv ⟨(endsL a b c d s m).toArray⟩)), hpC nM [])) := by
 have l0 : strLen lfT = 4 := rfl
 have ls : strLen stT = 7 := rfl
 have lm : strLen moT = 6 := rfl
 have ln : strLen nlT = 1 := rfl
 have g1 := len_aD (B := lfT) ha
 have g2 := len_aD (B := aD itoL lfT a) hb
 have g3 := len_aD (B := aD itoL (aD itoL lfT a) b) hc
 have g4 := len_aD (B := aD itoL (aD itoL (aD itoL lfT a) b) c) hd
 have k1 := len_ds ha
 have k2 := len_ds hb
 have k3 := len_ds hc
 have k4 := len_ds hd
 have k5 := len_ds hs
 have k6 := len_ds hm
 rw [endsR, nv (bcT (okS_of ha) (bmT (by rw [len_cat, len_sp]; omega))), nv (bcT (bmT (by rw [len_sp]; omega)) (bcT (okS_of hb) (bmT (by rw [len_cat, len_sp]; omega)))), nv (bcT (bmT (by rw [len_sp]; omega)) (bcT (okS_of hc) (bmT (by rw [len_cat, len_sp]; omega)))),
  nv (bcT (bmT (by rw [len_sp]; omega)) (bcT (okS_of hd) (bmT (by rw [len_cat, len_sp]; omega)))),
  nv (bcT (bmT (by omega)) (bcT (okS_of hs) (bcT (bmT (by rw [len_cat]; omega)) (bcT (bmT (by rw [len_cat, len_cat]; omega)) (bcT (okS_of hm) (bcT (bmT (by rw [len_cat, len_cat, len_cat]; omega)) (bmT (by rw [len_cat, len_cat, len_cat, len_cat]; omega))))))))]
 have e : strCat (strCat (strCat (strCat (strCat (aD itoL (aD itoL (aD itoL (aD itoL lfT a) b) c) d) stT) (dbT itoL s)) moT) (dbT itoL m)) nlT = ⟨(endsL a b c d s m).toArray⟩ := txEq (by
  show (((((((((((([108, 101, 102, 116] ++ [32]) ++ itoL a) ++ [32]) ++ itoL b) ++ [32]) ++ itoL c) ++ [32]) ++ itoL d) ++ [10, 115, 116, 101, 112, 115, 32]) ++ itoL s) ++ [32, 109, 111, 115, 116, 32]) ++ itoL m) ++ [10] = _
  simp [endsL])
 rw [e]; rfl
abbrev EndF := Int -> Int -> Int -> Int -> Int -> Int -> List UInt8
def endP (eb : EndF) (args : List SV) (ch : List (Chunk AV)) : T (SV × List (Chunk AV) × List (Chunk AV)) := match args, ch with
 | [.v (.agg [.it .i64 a, .it .i64 b, .it .i64 c, .it .i64 d]), .v (.c (.it .i64 s)), .v (.c (.it .i64 m))], [] => .need (decide (smI a /\ smI b /\ smI c /\ smI d /\ smI s /\ smI m)) (.leaf (.v (.c (.sv ⟨(eb a b c d s m).toArray⟩)), [], []))
 | _, _ => .fail "Ends"
theorem ends_ok : FnOk Tryz.prog (NVl lp σ) 20 (sumC isS nM (endP endsL)) := by
 refine fnOk_env (N := NVl noLp σ) (N' := NVl lp σ) rfl rfl (sumC_ok isS_ok rfl fun args ch x l' nw h hlen ha hC => ?_)
 unfold endP at h
 split at h
 ·rename_i a b c d s m
  replace h := need_some h
  obtain ⟨hb0, h⟩ := h
  obtain ⟨ha', hb, hc, hd, hs, hm⟩ := of_decide_eq_true hb0
  simp only [T.val, Option.some.injEq, Prod.mk.injEq] at h
  obtain ⟨rfl, rfl, rfl⟩ := h
  exact runC_ctr lpsV (tabAdd_ok dig22_ok tab0_ok) rfl (ends_val ha' hb hc hd hs hm) (by rintro ⟨⟩)
 ·simp [T.val] at h
noncomputable def tabTd (rb : RowF) (hb : HasF) (eb : EndF) : Tab := tabAdd 18 (sumC isS nM (rowP rb)) (tabAdd 19 (sumC isS nM (hasP hb)) (tabAdd 20 (sumC isS nM (endP eb)) fun _ => none))
theorem tabTd_ok : TabOk Tryz.prog (NVl lp σ) (tabTd rowL hasL endsL) := tabAdd_ok row22_ok (tabAdd_ok has_ok (tabAdd_ok ends_ok tab0_ok))
end Go.Proofs.YthdmoahfeimdaaaGreatDoor

namespace Go.Proofs.YthdmoahfeimdaaaGreatDoor
open Go Go.Sx Go.Proofs
set_option linter.unusedVariables false
set_option maxRecDepth 100000
variable {σ : Sg} {lp : Lp}
structure Nu where
 a : Int
 b : Int
 c : Int
 d : Int
 t : Int
 o : Int
def repC (n m k : Nat) (u : Nu) : List Cell := [.vs 14 0 n 10 false, .vs 15 0 m 1 false, .vs 16 0 k 2 false, i6 u.a, i6 u.b, i6 u.c, i6 u.d, i6 u.t, i6 u.o]
def ksD : List Nat := [0, 3, 5, 6]
noncomputable def LD : Code := loopAt 3 (loopsOf (bodyOf Tryz.f9))
def famD (rs : List Rw) (l : List N1) (p : List Pr) (n m k : Nat) (u : Nu) (s : Int) (bs : List UInt8) (i : Int) : St AV :=
 { E := only ksD [(0, .v (.c (i6 s))), (3, .v (.c (.ptr 17 0))), (5, .v (.c (.sv ⟨bs.toArray⟩))), (6, .v (.c (.it .i64 i)))] 48, H := hpO nM [.rowsA rs, .intsA l, .pairsA p] ++ [some (.cells (repC n m k u) 28)] }
def rwA (rb : RowF) (s : Int) (r : Rw) : List UInt8 := rb s r.thread r.kind r.key r.val r.tall r.code r.aval r.frm r.till r.fin
abbrev rwAt (rs : List Rw) (k : Nat) : Rw := rs.getD k krows.dflt
def okR (r : Rw) : Bool := smR r.thread r.kind r.code r.aval r.frm r.till
theorem dR (σ : Sg) (rb : RowF) (hb : HasF) (eb : EndF) (rs : List Rw) (l : List N1) (p : List Pr) (n m k : Nat) (u : Nu) (s : Int) (bs : List UInt8) (i : Int) : (xc (NV σ) (joinCal (lv (NV σ) (tabTd rb hb eb) 5)) (fun _ => none) 48 LD (famD rs l p n m k u s bs i)).bind (backS 18 48 ksD noPk) =
 .ite (decide (i < (n : Int))) (.need (bc (decide (0 <= i /\ i < (n : Int))) (bc (decide (0 + i.toNat < rs.length)) (bc (okR (rwAt rs (0 + i.toNat))) (bM (strLen (tb bs) + strLen (tb (rwA rb s (rwAt rs (0 + i.toNat)))))))))
  (.leaf (.normal, famD rs l p n m k u s (bs ++ rwA rb s (rwAt rs (0 + i.toNat))) (IntKind.wrap .i64 (i + 1))))) (.leaf (.exit 0, famD rs l p n m k u s bs i)) := by kernel_rfl
def famDM (rs : List Rw) (l : List N1) (p : List Pr) (n m k : Nat) (u : Nu) (s : Int) (x : MT) : St AV := famD rs l p n m k u s x.bs x.k
def fD (s : Int) (rs : List Rw) (k : Nat) : List UInt8 := rwA rowL s (rwAt rs k)
theorem len_op {s k e v l : Int} (hk : smI k) : strLen (opTx s k e v l) <= 80 := by
 unfold opTx
 cases hfit : fitsB s k e v l with
 | true =>
   obtain ⟨_, _, g1, g2, g3, g4, g5, g6⟩ := fits_k hfit
   exact len_line (by constructor <;> omega) (by constructor <;> omega) (by constructor <;> omega)
 | false =>
   have := len_ds hk
   have e : strLen (itT k) = strLen (dbT itoL k) := rfl
   have hop : strLen opT = 3 := rfl
   show strLen (strCat opT (itT k)) <= 80
   rw [len_cat]; omega
theorem row_le {s : Int} {r : Rw} (h : okR r = true) : (rwA rowL s r).length <= 300 := by
 obtain ⟨ht, hk, ha, hb, hf, ho⟩ := of_decide_eq_true h
 have h1 := len_ds ht
 have h2 := len_ds hf
 have h3 := len_ds ho
 have h4 := word_le (sm_in ha) (sm_in hb)
 have h5 := len_op (s := s) (e := r.key) (v := r.val) (l := r.tall) hk
 have e1 : strLen (dbT itoL r.thread) = (itoL r.thread).length := rfl
 have e2 : strLen (dbT itoL r.frm) = (itoL r.frm).length := rfl
 have e3 : strLen (dbT itoL r.till) = (itoL r.till).length := rfl
 have e5 : strLen (opTx s r.kind r.key r.val r.tall) = (opTx s r.kind r.key r.val r.tall).data.toList.length := rfl
 unfold rwA rowL endL
 cases r.fin <;> simp only [List.length_append, List.length_cons, List.length_nil] <;> omega
theorem stepD_run (σ : Sg) (rs : List Rw) (l : List N1) (p : List Pr) (m k : Nat) (u : Nu) (s : Int) (hn : rs.length <= 1000) (hs : ∀ a ∈ rs, okR a = true) (x : MT) (q : Ex × MT) (h : (stepT rs.length 100000 0 (fD s rs) x).val = some q) :
 ((xc (NV σ) (joinCal (lv (NV σ) (tabTd rowL hasL endsL) 5)) (fun _ => none) 48 LD (famDM rs l p rs.length m k u s x)).bind (backS 18 48 ksD noPk)).val = some (q.1, famDM rs l p rs.length m k u s q.2) := by
 replace h := need_some h
 obtain ⟨hb, h⟩ := h
 obtain ⟨h1, h2⟩ := of_decide_eq_true hb
 simp only [T.val, Option.some.injEq] at h
 subst h
 obtain ⟨j, bs⟩ := x
 simp only at h1 h2
 have e1 : 0 + (j : Int).toNat = j := by omega
 have hw : IntKind.wrap .i64 ((j : Int) + 1) = ((j + 1 : Nat) : Int) := wrapS (by omega)
 have lb : strLen (tb bs) = bs.length := rfl
 dsimp only [famDM]
 rw [dR]
 by_cases hk : j < rs.length
 ·have hv := hs _ (getD_mem hk krows.dflt)
  have d := row_le (s := s) hv
  have lr : strLen (tb (rwA rowL s (rwAt rs j))) = (rwA rowL s (rwAt rs j)).length := rfl
  have d' : (rwA rowL s (rwAt rs j)).length <= 300 := d
  rw [ivT (decide_eq_true (by show (j : Int) < _; omega)), e1, nv (bcT (decide_eq_true (by omega)) (bcT (decide_eq_true hk) (bcT hv (bmT (by omega))))), hw]
  simp only [if_pos hk, T.val]
  rfl
 ·rw [ivF (decide_eq_false (by show ¬ (j : Int) < _; omega))]
  simp only [if_neg hk, T.val]
def catD (s : Int) (rs : List Rw) : List UInt8 := catF (fD s rs) 0 rs.length
abbrev CatR := Int -> List Rw -> List UInt8
def gDl (cr : CatR) (s : St AV) : T (Ex × St AV) := match s.H with
 | [none, none, none, none, none, none, none, none, none, none, none, none, none, none, some (.abs (.rowsA rs)), some (.abs (.intsA l)), some (.abs (.pairsA p)), some (.cells [.vs 14 0 n 10 false, .vs 15 0 m 1 false, .vs 16 0 k 2 false, .it .i64 a, .it .i64 b, .it .i64 c, .it .i64 d, .it .i64 t, .it .i64 o] ty)] =>
   match Sx.look s.E 0, Sx.look s.E 3, Sx.look s.E 5, Sx.look s.E 6, Nat.beq ty 28 with
   | .v (.c (.it .i64 st)), .v (.c (.ptr 17 0)), .v (.c (.st x)), .v (.c (.il .i64 0)), true => .need (decide (n = rs.length /\ rs.length <= 100 /\ (∀ a ∈ rs, okR a = true) /\ x.data.toList.length <= 1000))
     (.leaf (.exit 0, famD rs l p rs.length m k ⟨a, b, c, d, t, o⟩ st (x.data.toList ++ cr st rs) rs.length))
   | _, _, _, _, _ => .fail "rows"
 | _ => .fail "rows"
theorem fD_le {s : Int} {rs : List Rw} (h : ∀ a ∈ rs, okR a = true) : ∀ k, k < rs.length -> (fD s rs k).length <= 300 := fun k hk => row_le (h _ (getD_mem hk krows.dflt))
theorem gDl_ok {N' : Env AV} (hF : N'.F = (NV σ).F) (hG : N'.G = (NV σ).G) : LoopOk Tryz.prog N' 48 LD (gDl catD) := by
 have hcal : CalOk Tryz.prog (NV σ) (joinCal (lv (NV σ) (tabTd rowL hasL endsL) 5)) := joinCal_ok (lv_ok okV lpsV hvV tabTd_ok 5)
 refine loopOk_it (N := NV σ) hF hG okV hcal (lp := fun _ => none) (fun _ _ _ g hg => by cases hg) fun s s' ex hgs => ?_
 obtain ⟨E1, H1⟩ := s
 unfold gDl at hgs
 split at hgs
 ·rename_i rs l p n m k a b c d t o ty hs
  simp only at hs
  subst hs
  split at hgs
  ·rename_i st x e0 e3 e5 e6 ety
   have ety := (beq_iff _ _).1 ety
   subst ety
   simp only at e0 e3 e5 e6
   replace hgs := need_some hgs
   obtain ⟨hb, hgs⟩ := hgs
   obtain ⟨rfl, hl, hr, ht⟩ := of_decide_eq_true hb
   simp only [T.val, Option.some.injEq, Prod.mk.injEq] at hgs
   obtain ⟨rfl, rfl⟩ := hgs
   refine ⟨{ M := MT, fam := famDM rs l p rs.length m k ⟨a, b, c, d, t, o⟩ st, step := stepT rs.length 100000 0 (fD st rs), ks := ksD, pk := noPk, hpk := (fun d a h => by cases h), L := 18, len := rfl, hGL := (by show 14 <= 18; decide), run := stepD_run σ rs l p m k ⟨a, b, c, d, t, o⟩ st (by omega) hr, m := ⟨0, x.data.toList⟩, k := _, m' := _, ent := ?_, it := iterT (c := 300) (fD_le hr) rs.length 0 _ (by omega) (by omega), fin := rfl }⟩
   refine enter_ks (N := NV σ) (nt := 48) (E := E1) (ks := ksD) (E' := [(0, .v (.c (i6 st))), (3, .v (.c (.ptr 17 0))), (5, .v (.c (.sv ⟨x.data.toList.toArray⟩))), (6, .v (.c (.it .i64 (0 : Nat))))]) fun k hk => ?_
   simp only [ksD, List.mem_cons, List.not_mem_nil, or_false] at hk
   rcases hk with rfl | rfl | rfl | rfl
   ·exact .inl e0.symm
   ·exact .inl e3.symm
   ·exact .inr ⟨by rw [e5]; rintro ⟨⟩, plSv _, fun ρ => by rw [e5]; rfl⟩
   ·exact .inr ⟨by rw [e6]; rintro ⟨⟩, plainIl _ _, fun ρ => by rw [e6]; rfl⟩
  ·simp [T.val] at hgs
 ·simp [T.val] at hgs
def lpD (cr : CatR) : Lp := lpAdd 9 3 (gDl cr) noLp
theorem lps_told : LpsOk Tryz.prog (NVl (lpD catD) σ) :=
 lpsAdd lpsV (fn := Tryz.f9) (by kernel_rfl) (c := bodyOf Tryz.f9) (by kernel_rfl) (nt := 48) (by kernel_rfl) (b := LD) (oneLoop_spec (by kernel_rfl)) (gDl_ok rfl rfl)
end Go.Proofs.YthdmoahfeimdaaaGreatDoor

namespace Go.Proofs.YthdmoahfeimdaaaGreatDoor
open Go Go.Sx Go.Proofs
set_option linter.unusedVariables false
set_option maxRecDepth 100000
variable {σ : Sg} {lp : Lp}
abbrev okLens (rs : List Rw) (l : List N1) (p : List Pr) (n m k : Nat) : Prop := n = rs.length /\ m = l.length /\ k = p.length /\ rs.length <= 100 /\ l.length <= 100 /\ p.length <= 100
abbrev okNums (rs : List Rw) (l : List N1) (p : List Pr) (u : Nu) : Prop := (∀ a ∈ rs, okR a = true) /\ (∀ a ∈ l, smI a.val) /\ (∀ a ∈ p, smI a.key /\ smI a.val) /\ smI u.a /\ smI u.b /\ smI u.c /\ smI u.d /\ smI u.t /\ smI u.o
theorem toldR (σ : Sg) (cr : CatR) (rb : RowF) (hb : HasF) (eb : EndF) (rs : List Rw) (l : List N1) (p : List Pr) (n m k : Nat) (u : Nu) (s : Int) : runC (lpD cr) σ (tabTd rb hb eb) 9 nM [.v (.c (i6 s)), .v (.agg (repC n m k u))] [.abs (.rowsA rs), .abs (.intsA l), .abs (.pairsA p)] =
 .need (decide (n = rs.length /\ rs.length <= 100 /\ (∀ a ∈ rs, okR a = true) /\ ([] : List UInt8).length <= 1000)) (.need (decide (m = l.length /\ k = p.length /\ l.length <= 100 /\ p.length <= 100 /\ (∀ a ∈ l, smI a.val) /\ ∀ a ∈ p, smI a.key /\ smI a.val))
  (.need (bM (strLen (tb ([] ++ cr s rs)) + strLen (tb (hb l p)))) (.need (decide (smI u.a /\ smI u.b /\ smI u.c /\ smI u.d /\ smI u.t /\ smI u.o)) (.need (bM (strLen (strCat (tb ([] ++ cr s rs)) (tb (hb l p))) + strLen (tb (eb u.a u.b u.c u.d u.t u.o))))
    (.leaf (stV (.v (.c (.sv (strCat (strCat (tb ([] ++ cr s rs)) (tb (hb l p))) (tb (eb u.a u.b u.c u.d u.t u.o))))), hpC nM [.abs (.rowsA rs), .abs (.intsA l), .abs (.pairsA p)]))))))) := by kernel_rfl
def toldL (s : Int) (rs : List Rw) (l : List N1) (p : List Pr) (u : Nu) : List UInt8 := (catD s rs ++ hasL l p) ++ endsL u.a u.b u.c u.d u.t u.o
theorem ends_le {u : Nu} (h1 : smI u.a) (h2 : smI u.b) (h3 : smI u.c) (h4 : smI u.d) (h5 : smI u.t) (h6 : smI u.o) : (endsL u.a u.b u.c u.d u.t u.o).length <= 1000 := by
 have k1 : (itoL u.a).length <= 21 := len_ds h1
 have k2 : (itoL u.b).length <= 21 := len_ds h2
 have k3 : (itoL u.c).length <= 21 := len_ds h3
 have k4 : (itoL u.d).length <= 21 := len_ds h4
 have k5 : (itoL u.t).length <= 21 := len_ds h5
 have k6 : (itoL u.o).length <= 21 := len_ds h6
 unfold endsL
 simp only [List.length_append, List.length_cons, List.length_nil]
 omega
theorem has_len {l : List N1} {p : List Pr} (hl : l.length <= 100) (hp : p.length <= 100) (hr : ∀ a ∈ l, smI a.val) (hq : ∀ a ∈ p, smI a.key /\ smI a.val) : (hasL l p).length <= 20000 := by
 have b1 := catH_le hr hl
 have b2 := catI_le hq hp
 have b0 : hasTx.length = 3 := rfl
 unfold hasL
 simp only [List.length_append, List.length_singleton]; omega
theorem catD_le {s : Int} {rs : List Rw} (hr : ∀ a ∈ rs, okR a = true) (hl : rs.length <= 100) : (catD s rs).length <= 30000 := Nat.le_trans (catF_le (fD_le hr) rs.length 0 (by omega)) (by omega)
theorem told_val {s : Int} {rs : List Rw} {l : List N1} {p : List Pr} {n m k : Nat} {u : Nu} (h : okLens rs l p n m k) (g : okNums rs l p u) : (runC (lpD catD) σ (tabTd rowL hasL endsL) 9 nM [.v (.c (i6 s)), .v (.agg (repC n m k u))] [.abs (.rowsA rs), .abs (.intsA l), .abs (.pairsA p)]).val =
 some (stV (.v (.c (.sv ⟨(toldL s rs l p u).toArray⟩)), hpC nM [.abs (.rowsA rs), .abs (.intsA l), .abs (.pairsA p)])) := by
 obtain ⟨rfl, rfl, rfl, hn, hl, hp⟩ := h
 obtain ⟨g1, g2, g3, g4, g5, g6, g7, g8, g9⟩ := g
 have b1 := catD_le (s := s) g1 hn
 have b2 := has_len hl hp g2 g3
 have b3 := ends_le g4 g5 g6 g7 g8 g9
 have l1 : strLen (tb ([] ++ catD s rs)) = (catD s rs).length := rfl
 have l2 : strLen (tb (hasL l p)) = (hasL l p).length := rfl
 have l3 : strLen (tb (endsL u.a u.b u.c u.d u.t u.o)) = (endsL u.a u.b u.c u.d u.t u.o).length := rfl
 rw [toldR, nv (decide_eq_true ⟨rfl, hn, g1, by decide⟩), nv (decide_eq_true ⟨rfl, rfl, hl, hp, g2, g3⟩), nv (bmT (by omega)), nv (decide_eq_true ⟨g4, g5, g6, g7, g8, g9⟩), nv (bmT (by rw [len_cat]; omega))]
 rfl
abbrev ToldF := Int -> List Rw -> List N1 -> List Pr -> Nu -> List UInt8
def toldP (tf : ToldF) (args : List SV) (ch : List (Chunk AV)) : T (SV × List (Chunk AV) × List (Chunk AV)) := match args, ch with
 | [.v (.c (.it .i64 s)), .v (.agg [.vs 14 0 n 10 false, .vs 15 0 m 1 false, .vs 16 0 k 2 false, .it .i64 a, .it .i64 b, .it .i64 c, .it .i64 d, .it .i64 t, .it .i64 o])], [.abs (.rowsA rs), .abs (.intsA l), .abs (.pairsA p)] =>
   .need (decide (okLens rs l p n m k)) (.need (decide (okNums rs l p ⟨a, b, c, d, t, o⟩)) (.leaf (.v (.c (.sv ⟨(tf s rs l p ⟨a, b, c, d, t, o⟩).toArray⟩)), [.abs (.rowsA rs), .abs (.intsA l), .abs (.pairsA p)], [])))
 | _, _ => .fail "told"
theorem told_ok : FnOk Tryz.prog (NVl lp σ) 9 (sumC isS nM (toldP toldL)) := by
 refine fnOk_env (N := NVl (lpD catD) σ) (N' := NVl lp σ) rfl rfl (sumC_ok isS_ok rfl fun args ch x l' nw h hlen ha hC => ?_)
 unfold toldP at h
 split at h
 ·rename_i s n m k a b c d t o rs l p
  replace h := need_some h
  obtain ⟨h1, h⟩ := h
  replace h := need_some h
  obtain ⟨h2, h⟩ := h
  simp only [T.val, Option.some.injEq, Prod.mk.injEq] at h
  obtain ⟨rfl, rfl, rfl⟩ := h
  exact runC_ctr lps_told tabTd_ok rfl (told_val (u := ⟨a, b, c, d, t, o⟩) (of_decide_eq_true h1) (of_decide_eq_true h2)) (by rintro ⟨⟩)
 ·simp [T.val] at h
end Go.Proofs.YthdmoahfeimdaaaGreatDoor

namespace Go.Proofs.YthdmoahfeimdaaaGreatDoor
open Go Go.Sx Go.Proofs
set_option linter.unusedVariables false
set_option maxRecDepth 100000
variable {σ : Sg} {lp : Lp}
noncomputable def LG (id : Nat) : Code := loopAt id (loopsOf (bodyOf Tryz.f7))
def hpG (rs : List Rw) (l : List N1) (p : List Pr) (n m k : Nat) (u : Nu) : Hp AV := hpO nM [.rowsA rs, .intsA l, .pairsA p] ++ [some (.cells (repC n m k u) 28)]
def famG (t : Nat) (rs : List Rw) (l : List N1) (p : List Pr) (n m k : Nat) (u : Nu) (d : Bool) (i : Int) : St AV :=
 { E := only [1, 2, t] [(1, .v (.c (.ptr 17 0))), (2, .v (.c (.bl d))), (t, .v (.c (.it .i64 i)))] 151, H := hpG rs l p n m k u }
abbrev gtM (n : Int) : Bool := decide (n > -9223372036854775808)
def bd (b x : Bool) : Bool := match b with | true => x | false => true
def badR (r : Rw) : Bool := bd ((!gtM r.thread) == false) (bd ((!gtM r.frm) == false) (bd ((!gtM r.till) == false) (bd ((!gtM r.kind) == false) (bd ((!gtM r.code) == false) (!gtM r.aval)))))
theorem gR (σ : Sg) (rs : List Rw) (l : List N1) (p : List Pr) (n m k : Nat) (u : Nu) (i : Int) : (xc (NV σ) (joinCal (lv (NV σ) (fun _ => none) 5)) (fun _ => none) 151 (LG 4) (famG 3 rs l p n m k u false i)).bind (backS 18 151 [1, 2, 3] noPk) =
 .ite (decide (i < (n : Int))) (.need (decide (0 <= i /\ i < (n : Int))) (.need (decide (0 + i.toNat < rs.length)) (.ite (badR (rwAt rs (0 + i.toNat))) (.leaf (.ret, famG 3 rs l p n m k u true i)) (.leaf (.normal, famG 3 rs l p n m k u false (IntKind.wrap .i64 (i + 1)))))))
  (.leaf (.exit 0, famG 3 rs l p n m k u false i)) := by kernel_rfl
theorem gR2 (σ : Sg) (rs : List Rw) (l : List N1) (p : List Pr) (n m k : Nat) (u : Nu) (i : Int) : (xc (NV σ) (joinCal (lv (NV σ) (fun _ => none) 5)) (fun _ => none) 151 (LG 10) (famG 5 rs l p n m k u false i)).bind (backS 18 151 [1, 2, 5] noPk) =
 .ite (decide (i < (m : Int))) (.need (bc (decide (0 <= i /\ i < (m : Int))) (decide (0 + i.toNat < l.length))) (.ite (!gtM (hasV l (0 + i.toNat))) (.leaf (.ret, famG 5 rs l p n m k u true i)) (.leaf (.normal, famG 5 rs l p n m k u false (IntKind.wrap .i64 (i + 1))))))
  (.leaf (.exit 2, famG 5 rs l p n m k u false i)) := by kernel_rfl
theorem gR3 (σ : Sg) (rs : List Rw) (l : List N1) (p : List Pr) (n m k : Nat) (u : Nu) (i : Int) : (xc (NV σ) (joinCal (lv (NV σ) (fun _ => none) 5)) (fun _ => none) 151 (LG 15) (famG 6 rs l p n m k u false i)).bind (backS 18 151 [1, 2, 6] noPk) =
 .ite (decide (i < (k : Int))) (.need (bc (decide (0 <= i /\ i < (k : Int))) (bc (decide (0 + i.toNat < p.length)) (bd ((!gtM (hasK p (0 + i.toNat))) == false) (bc (decide (0 <= i /\ i < (k : Int))) (decide (0 + i.toNat < p.length))))))
  (.ite (bd ((!gtM (hasK p (0 + i.toNat))) == false) (!gtM (hasW2 p (0 + i.toNat)))) (.leaf (.ret, famG 6 rs l p n m k u true i)) (.leaf (.normal, famG 6 rs l p n m k u false (IntKind.wrap .i64 (i + 1))))))
  (.leaf (.exit 4, famG 6 rs l p n m k u false i)) := by kernel_rfl
structure MG where
 k : Nat
 d : Bool
def stepG (n ex : Nat) (bad : Nat -> Bool) (m : MG) : T (Ex × MG) := .need (decide (m.k <= n /\ n <= 1000 /\ m.d = false)) (.leaf (if m.k < n then (match bad m.k with | true => (.ret, ⟨m.k, true⟩) | false => (.normal, ⟨m.k + 1, false⟩)) else (.exit ex, m)))
def srch (ex : Nat) (bad : Nat -> Bool) : Nat -> Nat -> Ex × MG
 | k, 0 => (.exit ex, ⟨k, false⟩)
 | k, q + 1 => match bad k with | true => (.ret, ⟨k, true⟩) | false => srch ex bad (k + 1) q
def lenG (bad : Nat -> Bool) : Nat -> Nat -> Nat
 | _, 0 => 0
 | k, q + 1 => match bad k with | true => 0 | false => lenG bad (k + 1) q + 1
theorem iterG {n ex : Nat} {bad : Nat -> Bool} (hn : n <= 1000) : ∀ (q k : Nat), k + q = n -> iter (stepG n ex bad) (lenG bad k q + 1) ⟨k, false⟩ = some (srch ex bad k q) := by
 intro q
 induction q with
 | zero =>
   intro k hk
   have e : k = n := by omega
   subst e
   rw [lenG, iter, stepG, nv (decide_eq_true ⟨Nat.le_refl _, hn, rfl⟩)]
   simp only [T.val, if_neg (Nat.lt_irrefl _), srch]
 | succ q ih =>
   intro k hk
   have hlt : k < n := by omega
   rw [lenG, srch]
   cases hb : bad k with
   | true =>
     rw [iter, stepG, nv (decide_eq_true ⟨by show k <= _; omega, hn, rfl⟩)]
     simp only [T.val, if_pos hlt, hb]
   | false =>
     simp only
     rw [iter, stepG, nv (decide_eq_true ⟨by show k <= _; omega, hn, rfl⟩)]
     simp only [T.val, if_pos hlt, hb]
     exact ih (k + 1) (by omega)
theorem bdT {b x : Bool} (h : x = true) : bd b x = true := by subst h; cases b <;> rfl
theorem stepGR_run (σ : Sg) (rs : List Rw) (l : List N1) (p : List Pr) (m k : Nat) (u : Nu) (x : MG) (q : Ex × MG) (h : (stepG rs.length 0 (fun j => badR (rwAt rs j)) x).val = some q) :
 ((xc (NV σ) (joinCal (lv (NV σ) (fun _ => none) 5)) (fun _ => none) 151 (LG 4) (famG 3 rs l p rs.length m k u x.d x.k)).bind (backS 18 151 [1, 2, 3] noPk)).val = some (q.1, famG 3 rs l p rs.length m k u q.2.d q.2.k) := by
 replace h := need_some h
 obtain ⟨hb, h⟩ := h
 obtain ⟨h1, h2, h3⟩ := of_decide_eq_true hb
 simp only [T.val, Option.some.injEq] at h
 subst h
 obtain ⟨j, d⟩ := x
 simp only at h1 h2 h3
 subst h3
 have e1 : 0 + (j : Int).toNat = j := by omega
 have hw : IntKind.wrap .i64 ((j : Int) + 1) = ((j + 1 : Nat) : Int) := wrapS (by omega)
 dsimp only
 rw [gR]
 by_cases hk : j < rs.length
 ·rw [ivT (decide_eq_true (by omega)), nv (decide_eq_true (show 0 <= (j : Int) /\ (j : Int) < (rs.length : Int) by omega)), e1, nv (decide_eq_true hk), hw]
  simp only [if_pos hk]
  cases hbad : (fun j => badR (rwAt rs j)) j with
  | true => rw [ivT hbad]; dsimp only at hbad; rw [hbad]; rfl
  | false => rw [ivF hbad]; dsimp only at hbad; rw [hbad]; rfl
 ·rw [ivF (decide_eq_false (by omega))]
  simp only [if_neg hk, T.val]
theorem stepGV_run (σ : Sg) (rs : List Rw) (l : List N1) (p : List Pr) (n k : Nat) (u : Nu) (x : MG) (q : Ex × MG) (h : (stepG l.length 2 (fun j => !gtM (hasV l j)) x).val = some q) :
 ((xc (NV σ) (joinCal (lv (NV σ) (fun _ => none) 5)) (fun _ => none) 151 (LG 10) (famG 5 rs l p n l.length k u x.d x.k)).bind (backS 18 151 [1, 2, 5] noPk)).val = some (q.1, famG 5 rs l p n l.length k u q.2.d q.2.k) := by
 replace h := need_some h
 obtain ⟨hb, h⟩ := h
 obtain ⟨h1, h2, h3⟩ := of_decide_eq_true hb
 simp only [T.val, Option.some.injEq] at h
 subst h
 obtain ⟨j, d⟩ := x
 simp only at h1 h2 h3
 subst h3
 have e1 : 0 + (j : Int).toNat = j := by omega
 have hw : IntKind.wrap .i64 ((j : Int) + 1) = ((j + 1 : Nat) : Int) := wrapS (by omega)
 dsimp only
 rw [gR2]
 by_cases hk : j < l.length
 ·rw [ivT (decide_eq_true (by omega)), e1, nv (bcT (decide_eq_true (by omega)) (decide_eq_true hk)), hw]
  simp only [if_pos hk]
  cases hbad : (fun j => !gtM (hasV l j)) j with
  | true => rw [ivT hbad]; dsimp only at hbad; rw [hbad]; rfl
  | false => rw [ivF hbad]; dsimp only at hbad; rw [hbad]; rfl
 ·rw [ivF (decide_eq_false (by omega))]
  simp only [if_neg hk, T.val]
theorem stepGP_run (σ : Sg) (rs : List Rw) (l : List N1) (p : List Pr) (n m : Nat) (u : Nu) (x : MG) (q : Ex × MG) (h : (stepG p.length 4 (fun j => bd ((!gtM (hasK p j)) == false) (!gtM (hasW2 p j))) x).val = some q) :
 ((xc (NV σ) (joinCal (lv (NV σ) (fun _ => none) 5)) (fun _ => none) 151 (LG 15) (famG 6 rs l p n m p.length u x.d x.k)).bind (backS 18 151 [1, 2, 6] noPk)).val = some (q.1, famG 6 rs l p n m p.length u q.2.d q.2.k) := by
 replace h := need_some h
 obtain ⟨hb, h⟩ := h
 obtain ⟨h1, h2, h3⟩ := of_decide_eq_true hb
 simp only [T.val, Option.some.injEq] at h
 subst h
 obtain ⟨j, d⟩ := x
 simp only at h1 h2 h3
 subst h3
 have e1 : 0 + (j : Int).toNat = j := by omega
 have hw : IntKind.wrap .i64 ((j : Int) + 1) = ((j + 1 : Nat) : Int) := wrapS (by omega)
 dsimp only
 rw [gR3]
 by_cases hk : j < p.length
 ·rw [ivT (decide_eq_true (by omega)), e1, nv (bcT (decide_eq_true (by omega)) (bcT (decide_eq_true hk) (bdT (bcT (decide_eq_true (by omega)) (decide_eq_true hk))))), hw]
  simp only [if_pos hk]
  cases hbad : (fun j => bd ((!gtM (hasK p j)) == false) (!gtM (hasW2 p j))) j with
  | true => rw [ivT hbad]; dsimp only at hbad; rw [hbad]; rfl
  | false => rw [ivF hbad]; dsimp only at hbad; rw [hbad]; rfl
 ·rw [ivF (decide_eq_false (by omega))]
  simp only [if_neg hk, T.val]
end Go.Proofs.YthdmoahfeimdaaaGreatDoor

namespace Go.Proofs.YthdmoahfeimdaaaGreatDoor
open Go Go.Sx Go.Proofs
set_option linter.unusedVariables false
set_option maxRecDepth 100000
variable {σ : Sg} {lp : Lp}
def anyB (bad : Nat -> Bool) : Nat -> Nat -> Bool
 | _, 0 => false
 | k, q + 1 => match bad k with | true => true | false => anyB bad (k + 1) q
def fstB (bad : Nat -> Bool) : Nat -> Nat -> Nat
 | k, 0 => k
 | k, q + 1 => match bad k with | true => k | false => fstB bad (k + 1) q
theorem srch_is (ex : Nat) (bad : Nat -> Bool) : ∀ (q k : Nat), srch ex bad k q = match anyB bad k q with | true => (.ret, ⟨fstB bad k q, true⟩) | false => (.exit ex, ⟨k + q, false⟩)
 | 0, k => rfl
 | q + 1, k => by
   rw [srch, anyB, fstB]
   cases bad k with
   | true => rfl
   | false =>
     simp only
     rw [srch_is ex bad q (k + 1), show k + 1 + q = k + (q + 1) by omega]
theorem anyB_iff {bad : Nat -> Bool} : ∀ {q k : Nat}, anyB bad k q = false ↔ ∀ j, k <= j -> j < k + q -> bad j = false
 | 0, k => ⟨fun _ j h1 h2 => by omega, fun _ => rfl⟩
 | q + 1, k => by
   rw [anyB]
   cases hb : bad k with
   | true => exact ⟨fun h => (by cases h), fun h => absurd (h k (Nat.le_refl _) (by omega)) (by rw [hb]; decide)⟩
   | false =>
     simp only
     rw [anyB_iff (q := q) (k := k + 1)]
     exact ⟨fun h j h1 h2 => by
      by_cases e : j = k
      ·subst e; exact hb
      ·exact h j (by omega) (by omega), fun h j h1 h2 => h j (by omega) (by omega)⟩
structure GrF where
 r : List Rw -> Bool
 rk : List Rw -> Nat
 v : List N1 -> Bool
 vk : List N1 -> Nat
 p : List Pr -> Bool
 pk : List Pr -> Nat
def bR (rs : List Rw) (j : Nat) : Bool := badR (rwAt rs j)
def bV (l : List N1) (j : Nat) : Bool := !gtM (hasV l j)
def bP (p : List Pr) (j : Nat) : Bool := bd ((!gtM (hasK p j)) == false) (!gtM (hasW2 p j))
def grF : GrF := ⟨fun rs => anyB (bR rs) 0 rs.length, fun rs => fstB (bR rs) 0 rs.length, fun l => anyB (bV l) 0 l.length, fun l => fstB (bV l) 0 l.length, fun p => anyB (bP p) 0 p.length, fun p => fstB (bP p) 0 p.length⟩
def gGR (gf : GrF) (s : St AV) : T (Ex × St AV) := match s.H with
 | [none, none, none, none, none, none, none, none, none, none, none, none, none, none, some (.abs (.rowsA rs)), some (.abs (.intsA l)), some (.abs (.pairsA p)), some (.cells [.vs 14 0 n 10 false, .vs 15 0 m 1 false, .vs 16 0 k 2 false, .it .i64 a, .it .i64 b, .it .i64 c, .it .i64 d, .it .i64 t, .it .i64 o] ty)] =>
   match Sx.look s.E 1, Sx.look s.E 2, Sx.look s.E 3, Nat.beq ty 28 with
   | .v (.c (.ptr 17 0)), .v (.c (.bl false)), .v (.c (.il .i64 0)), true => .need (decide (n = rs.length /\ rs.length <= 1000))
     (.ite (gf.r rs) (.leaf (.ret, famG 3 rs l p rs.length m k ⟨a, b, c, d, t, o⟩ true (gf.rk rs))) (.leaf (.exit 0, famG 3 rs l p rs.length m k ⟨a, b, c, d, t, o⟩ false rs.length)))
   | _, _, _, _ => .fail "great"
 | _ => .fail "great"
theorem gGR_ok {N' : Env AV} (hF : N'.F = (NV σ).F) (hG : N'.G = (NV σ).G) : LoopOk Tryz.prog N' 151 (LG 4) (gGR grF) := by
 have hcal : CalOk Tryz.prog (NV σ) (joinCal (lv (NV σ) (fun _ => none) 5)) := joinCal_ok (lv_ok okV lpsV hvV tab0_ok 5)
 refine loopOk_it (N := NV σ) hF hG okV hcal (lp := fun _ => none) (fun _ _ _ g hg => by cases hg) fun s s' ex hgs => ?_
 obtain ⟨E1, H1⟩ := s
 unfold gGR at hgs
 split at hgs
 ·rename_i rs l p n m k a b c d t o ty hs
  simp only at hs
  subst hs
  split at hgs
  ·rename_i e1 e2 e3 ety
   have ety := (beq_iff _ _).1 ety
   subst ety
   simp only at e1 e2 e3
   replace hgs := need_some hgs
   obtain ⟨hb, hgs⟩ := hgs
   obtain ⟨rfl, hl⟩ := of_decide_eq_true hb
   have hsr := srch_is 0 (bR rs) rs.length 0
   have hgo : ex = (srch 0 (bR rs) 0 rs.length).1 /\ s' = famG 3 rs l p rs.length m k ⟨a, b, c, d, t, o⟩ (srch 0 (bR rs) 0 rs.length).2.d (srch 0 (bR rs) 0 rs.length).2.k := by
    rw [hsr]
    cases ha : anyB (bR rs) 0 rs.length with
    | true =>
      rw [ivT (show grF.r rs = true from ha)] at hgs
      simp only [T.val, Option.some.injEq, Prod.mk.injEq] at hgs
      exact ⟨hgs.1.symm, hgs.2.symm⟩
    | false =>
      rw [ivF (show grF.r rs = false from ha)] at hgs
      simp only [T.val, Option.some.injEq, Prod.mk.injEq] at hgs
      refine ⟨hgs.1.symm, hgs.2.symm.trans ?_⟩
      simp only [Nat.zero_add]
   obtain ⟨rfl, rfl⟩ := hgo
   refine ⟨{ M := MG, fam := fun x => famG 3 rs l p rs.length m k ⟨a, b, c, d, t, o⟩ x.d x.k, step := stepG rs.length 0 (bR rs), ks := [1, 2, 3], pk := noPk, hpk := (fun d a h => by cases h), L := 18, len := rfl, hGL := (by show 14 <= 18; decide), run := stepGR_run σ rs l p m k ⟨a, b, c, d, t, o⟩, m := ⟨0, false⟩, k := _, m' := _, ent := ?_, it := iterG hl rs.length 0 (by omega), fin := rfl }⟩
   refine enter_ks (N := NV σ) (nt := 151) (E := E1) (ks := [1, 2, 3]) (E' := [(1, .v (.c (.ptr 17 0))), (2, .v (.c (.bl false))), (3, .v (.c (.it .i64 (0 : Nat))))]) fun j hk => ?_
   simp only [List.mem_cons, List.not_mem_nil, or_false] at hk
   rcases hk with rfl | rfl | rfl
   ·exact .inl e1.symm
   ·exact .inl e2.symm
   ·exact .inr ⟨by rw [e3]; rintro ⟨⟩, plainIl _ _, fun ρ => by rw [e3]; rfl⟩
  ·simp [T.val] at hgs
 ·simp [T.val] at hgs
def gGV (gf : GrF) (s : St AV) : T (Ex × St AV) := match s.H with
 | [none, none, none, none, none, none, none, none, none, none, none, none, none, none, some (.abs (.rowsA rs)), some (.abs (.intsA l)), some (.abs (.pairsA p)), some (.cells [.vs 14 0 n 10 false, .vs 15 0 m 1 false, .vs 16 0 k 2 false, .it .i64 a, .it .i64 b, .it .i64 c, .it .i64 d, .it .i64 t, .it .i64 o] ty)] =>
   match Sx.look s.E 1, Sx.look s.E 2, Sx.look s.E 5, Nat.beq ty 28 with
   | .v (.c (.ptr 17 0)), .v (.c (.bl false)), .v (.c (.il .i64 0)), true => .need (decide (m = l.length /\ l.length <= 1000))
     (.ite (gf.v l) (.leaf (.ret, famG 5 rs l p n l.length k ⟨a, b, c, d, t, o⟩ true (gf.vk l))) (.leaf (.exit 2, famG 5 rs l p n l.length k ⟨a, b, c, d, t, o⟩ false l.length)))
   | _, _, _, _ => .fail "great"
 | _ => .fail "great"
theorem gGV_ok {N' : Env AV} (hF : N'.F = (NV σ).F) (hG : N'.G = (NV σ).G) : LoopOk Tryz.prog N' 151 (LG 10) (gGV grF) := by
 have hcal : CalOk Tryz.prog (NV σ) (joinCal (lv (NV σ) (fun _ => none) 5)) := joinCal_ok (lv_ok okV lpsV hvV tab0_ok 5)
 refine loopOk_it (N := NV σ) hF hG okV hcal (lp := fun _ => none) (fun _ _ _ g hg => by cases hg) fun s s' ex hgs => ?_
 obtain ⟨E1, H1⟩ := s
 unfold gGV at hgs
 split at hgs
 ·rename_i rs l p n m k a b c d t o ty hs
  simp only at hs
  subst hs
  split at hgs
  ·rename_i e1 e2 e3 ety
   have ety := (beq_iff _ _).1 ety
   subst ety
   simp only at e1 e2 e3
   replace hgs := need_some hgs
   obtain ⟨hb, hgs⟩ := hgs
   obtain ⟨rfl, hl⟩ := of_decide_eq_true hb
   have hsr := srch_is 2 (bV l) l.length 0
   have hgo : ex = (srch 2 (bV l) 0 l.length).1 /\ s' = famG 5 rs l p n l.length k ⟨a, b, c, d, t, o⟩ (srch 2 (bV l) 0 l.length).2.d (srch 2 (bV l) 0 l.length).2.k := by
    rw [hsr]
    cases ha : anyB (bV l) 0 l.length with
    | true =>
      rw [ivT (show grF.v l = true from ha)] at hgs
      simp only [T.val, Option.some.injEq, Prod.mk.injEq] at hgs
      exact ⟨hgs.1.symm, hgs.2.symm⟩
    | false =>
      rw [ivF (show grF.v l = false from ha)] at hgs
      simp only [T.val, Option.some.injEq, Prod.mk.injEq] at hgs
      refine ⟨hgs.1.symm, hgs.2.symm.trans ?_⟩
      simp only [Nat.zero_add]
   obtain ⟨rfl, rfl⟩ := hgo
   refine ⟨{ M := MG, fam := fun x => famG 5 rs l p n l.length k ⟨a, b, c, d, t, o⟩ x.d x.k, step := stepG l.length 2 (bV l), ks := [1, 2, 5], pk := noPk, hpk := (fun d a h => by cases h), L := 18, len := rfl, hGL := (by show 14 <= 18; decide), run := stepGV_run σ rs l p n k ⟨a, b, c, d, t, o⟩, m := ⟨0, false⟩, k := _, m' := _, ent := ?_, it := iterG hl l.length 0 (by omega), fin := rfl }⟩
   refine enter_ks (N := NV σ) (nt := 151) (E := E1) (ks := [1, 2, 5]) (E' := [(1, .v (.c (.ptr 17 0))), (2, .v (.c (.bl false))), (5, .v (.c (.it .i64 (0 : Nat))))]) fun j hk => ?_
   simp only [List.mem_cons, List.not_mem_nil, or_false] at hk
   rcases hk with rfl | rfl | rfl
   ·exact .inl e1.symm
   ·exact .inl e2.symm
   ·exact .inr ⟨by rw [e3]; rintro ⟨⟩, plainIl _ _, fun ρ => by rw [e3]; rfl⟩
  ·simp [T.val] at hgs
 ·simp [T.val] at hgs
def gGP (gf : GrF) (s : St AV) : T (Ex × St AV) := match s.H with
 | [none, none, none, none, none, none, none, none, none, none, none, none, none, none, some (.abs (.rowsA rs)), some (.abs (.intsA l)), some (.abs (.pairsA p)), some (.cells [.vs 14 0 n 10 false, .vs 15 0 m 1 false, .vs 16 0 k 2 false, .it .i64 a, .it .i64 b, .it .i64 c, .it .i64 d, .it .i64 t, .it .i64 o] ty)] =>
   match Sx.look s.E 1, Sx.look s.E 2, Sx.look s.E 6, Nat.beq ty 28 with
   | .v (.c (.ptr 17 0)), .v (.c (.bl false)), .v (.c (.il .i64 0)), true => .need (decide (k = p.length /\ p.length <= 1000))
     (.ite (gf.p p) (.leaf (.ret, famG 6 rs l p n m p.length ⟨a, b, c, d, t, o⟩ true (gf.pk p))) (.leaf (.exit 4, famG 6 rs l p n m p.length ⟨a, b, c, d, t, o⟩ false p.length)))
   | _, _, _, _ => .fail "great"
 | _ => .fail "great"
theorem gGP_ok {N' : Env AV} (hF : N'.F = (NV σ).F) (hG : N'.G = (NV σ).G) : LoopOk Tryz.prog N' 151 (LG 15) (gGP grF) := by
 have hcal : CalOk Tryz.prog (NV σ) (joinCal (lv (NV σ) (fun _ => none) 5)) := joinCal_ok (lv_ok okV lpsV hvV tab0_ok 5)
 refine loopOk_it (N := NV σ) hF hG okV hcal (lp := fun _ => none) (fun _ _ _ g hg => by cases hg) fun s s' ex hgs => ?_
 obtain ⟨E1, H1⟩ := s
 unfold gGP at hgs
 split at hgs
 ·rename_i rs l p n m k a b c d t o ty hs
  simp only at hs
  subst hs
  split at hgs
  ·rename_i e1 e2 e3 ety
   have ety := (beq_iff _ _).1 ety
   subst ety
   simp only at e1 e2 e3
   replace hgs := need_some hgs
   obtain ⟨hb, hgs⟩ := hgs
   obtain ⟨rfl, hl⟩ := of_decide_eq_true hb
   have hsr := srch_is 4 (bP p) p.length 0
   have hgo : ex = (srch 4 (bP p) 0 p.length).1 /\ s' = famG 6 rs l p n m p.length ⟨a, b, c, d, t, o⟩ (srch 4 (bP p) 0 p.length).2.d (srch 4 (bP p) 0 p.length).2.k := by
    rw [hsr]
    cases ha : anyB (bP p) 0 p.length with
    | true =>
      rw [ivT (show grF.p p = true from ha)] at hgs
      simp only [T.val, Option.some.injEq, Prod.mk.injEq] at hgs
      exact ⟨hgs.1.symm, hgs.2.symm⟩
    | false =>
      rw [ivF (show grF.p p = false from ha)] at hgs
      simp only [T.val, Option.some.injEq, Prod.mk.injEq] at hgs
      refine ⟨hgs.1.symm, hgs.2.symm.trans ?_⟩
      simp only [Nat.zero_add]
   obtain ⟨rfl, rfl⟩ := hgo
   refine ⟨{ M := MG, fam := fun x => famG 6 rs l p n m p.length ⟨a, b, c, d, t, o⟩ x.d x.k, step := stepG p.length 4 (bP p), ks := [1, 2, 6], pk := noPk, hpk := (fun d a h => by cases h), L := 18, len := rfl, hGL := (by show 14 <= 18; decide), run := stepGP_run σ rs l p n m ⟨a, b, c, d, t, o⟩, m := ⟨0, false⟩, k := _, m' := _, ent := ?_, it := iterG hl p.length 0 (by omega), fin := rfl }⟩
   refine enter_ks (N := NV σ) (nt := 151) (E := E1) (ks := [1, 2, 6]) (E' := [(1, .v (.c (.ptr 17 0))), (2, .v (.c (.bl false))), (6, .v (.c (.it .i64 (0 : Nat))))]) fun j hk => ?_
   simp only [List.mem_cons, List.not_mem_nil, or_false] at hk
   rcases hk with rfl | rfl | rfl
   ·exact .inl e1.symm
   ·exact .inl e2.symm
   ·exact .inr ⟨by rw [e3]; rintro ⟨⟩, plainIl _ _, fun ρ => by rw [e3]; rfl⟩
  ·simp [T.val] at hgs
 ·simp [T.val] at hgs
def lpG (gf : GrF) : Lp := lpAdd 7 4 (gGR gf) (lpAdd 7 10 (gGV gf) (lpAdd 7 15 (gGP gf) noLp))
end Go.Proofs.YthdmoahfeimdaaaGreatDoor
