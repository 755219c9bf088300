import Derived.Test.YtpapbhbnaalhcaaDoorTa
import Derived.Test.YtpapbhbnaalhcaaDoorKm
namespace Go.Proofs.YtpapbhbnaalhcaaDoor
open Go Go.Sx Go.Proofs
set_option linter.unusedVariables false
set_option maxRecDepth 100000
structure OneV where
 m : List O -> List An -> Int -> CreedM
 rs : List O -> List An -> List Rw
 may : List O -> List An -> Int -> Bool
 ask : List O -> List An -> Int -> Bool
def emptyC (m : CreedM) : Bool := match m.vals with
 | [] => match m.pairs with
   | [] => true
   | _ :: _ => false
 | _ :: _ => false
theorem emptyC_eq {m : CreedM} (h : emptyC m = true) : m = ⟨m.st, [], []⟩ := by
 obtain ⟨st, v, p⟩ := m
 cases v with
 | nil =>
   cases p with
   | nil => rfl
   | cons => cases h
 | cons => cases h
def gJg (V : OneV) (s : St AV) : T (Ex × St AV) := match s.H with
 | [some (.abs (.sent 0)), some (.abs (.sent 1)), some (.abs (.sent 2)), none, none, none, none, some (.abs (.opsA l)), some (.abs (.answersA a)), some (.abs c), some (.vec [] 10 ty)] =>
   match Sx.look s.E 0, Sx.look s.E 1, Sx.look s.E 2, Sx.look s.E 7, Sx.look s.E 9, Sx.look s.E 10, Sx.look s.E 11, creedY c, Nat.beq ty 37 with
   | .v (.c c0), .v (.c (.vs 7 0 n 4 false)), .v (.c (.vs 8 0 k 2 false)), .v (.c (.ptr 9 0)), .v (.c (.vs 10 0 0 10 true)), .v (.c (.bl true)), .v (.c (.il .i64 0)), some (m, b), true => match iOf c0 with
     | some st => .need b (.need (emptyC m) (.need (decide (n = l.length /\ k = a.length /\ l.length <= 12 /\ l.length <= a.length /\ m.st = st))
        (.ite (decide (0 < l.length)) (.ite (decide (1 < l.length)) (.ite (V.ask l a st) (.leaf (.exit 0, famJ 1 l a st (V.m l a st) (V.rs l a) l.length a.length l.length (.bt (V.may l a st)) l.length)) (.leaf (.exit 0, famJ 1 l a st (V.m l a st) (V.rs l a) l.length a.length l.length (.bl false) l.length)))
          (.leaf (.exit 0, famJ 3 l a st (V.m l a st) (V.rs l a) l.length a.length l.length (.bt (V.may l a st)) l.length)))
          (.leaf (.exit 0, famJ 2 l a st ⟨st, [], []⟩ [] l.length a.length 0 (.bl true) l.length)))))
     | none => .fail "JuryOne"
   | _, _, _, _, _, _, _, _, _ => .fail "JuryOne"
 | _ => .fail "JuryOne"
noncomputable def oneT : OneV where
 m := fun l a st => (cJ l a l.length (⟨st, [], []⟩, true)).1
 rs := fun l a => oneL l.length (opJ l) (anJ a)
 may := fun l a st => (cJ l a l.length (⟨st, [], []⟩, true)).2
 ask := fun l a st => askJ l a ⟨st, [], []⟩ l.length
theorem gJ_ok {σ : Sg} {N' : Env AV} (hF : N'.F = (NV σ).F) (hG : N'.G = (NV σ).G) : LoopOk Tryd.prog N' 126 LJ (gJg oneT) := by
 have hcal : CalOk Tryd.prog (NV σ) (joinCal (lv (NV σ) tabM 5)) := joinCal_ok (lv_ok okV lpsV hvV tabM_ok 5)
 refine loopOk_it (N := NV σ) hF hG okV hcal (lp := fun _ => none) (fun _ _ _ g hg => by cases hg) fun s s' ex hgs => ?_
 obtain ⟨E1, H1⟩ := s
 unfold gJg at hgs
 split at hgs
 ·rename_i l a c ty hs
  simp only at hs
  subst hs
  split at hgs
  ·rename_i c0 n k m b e0 e1 e2 e7 e9 e10 e11 ec et
   have et := (beq_iff _ _).1 et
   subst et
   split at hgs
   ·rename_i st hst
    replace hgs := need_some hgs
    obtain ⟨hcb, hgs⟩ := hgs
    subst hcb
    have hc := creedY_spec ec
    subst hc
    replace hgs := need_some hgs
    obtain ⟨hem, hgs⟩ := hgs
    replace hgs := need_some hgs
    obtain ⟨hb, hgs⟩ := hgs
    obtain ⟨rfl, rfl, h1, h2, h3⟩ := of_decide_eq_true hb
    have hm : m = ⟨st, [], []⟩ := by rw [emptyC_eq hem, h3]
    subst hm
    have hgo : ex = .exit 0 /\ s' = famJM l a st (outJ l a st) := by
     by_cases hl : 0 < l.length
     ·rw [ivT (decide_eq_true hl)] at hgs
      by_cases hl2 : 1 < l.length
      ·rw [ivT (decide_eq_true hl2)] at hgs
       obtain ⟨p, hp⟩ : ∃ p, l.length = p + 2 := ⟨l.length - 2, by omega⟩
       have esh : shO l.length = 1 := by rw [hp]; rfl
       have elen : (oneL l.length (opJ l) (anJ a)).length = l.length := oneL_len _ _ _
       cases hask : askJ l a ⟨st, [], []⟩ l.length with
       | true =>
         have hask' : oneT.ask l a st = true := hask
         rw [ivT hask'] at hgs
         simp only [T.val, Option.some.injEq, Prod.mk.injEq] at hgs
         obtain ⟨rfl, rfl⟩ := hgs
         refine ⟨rfl, ?_⟩
         unfold famJM outJ
         rw [esh, hask, elen]
         rfl
       | false =>
         have hask' : oneT.ask l a st = false := hask
         rw [ivF hask'] at hgs
         simp only [T.val, Option.some.injEq, Prod.mk.injEq] at hgs
         obtain ⟨rfl, rfl⟩ := hgs
         refine ⟨rfl, ?_⟩
         unfold famJM outJ
         rw [esh, hask, elen]
         rfl
      ·rw [ivF (decide_eq_false hl2)] at hgs
       have e1l : l.length = 1 := by omega
       have esh : shO l.length = 3 := by rw [e1l]; rfl
       have elen : (oneL l.length (opJ l) (anJ a)).length = l.length := oneL_len _ _ _
       simp only [T.val, Option.some.injEq, Prod.mk.injEq] at hgs
       obtain ⟨rfl, rfl⟩ := hgs
       refine ⟨rfl, ?_⟩
       unfold famJM outJ
       rw [esh, elen]
       rfl
     ·rw [ivF (decide_eq_false hl)] at hgs
      have e0l : l = [] := List.eq_nil_of_length_eq_zero (by omega)
      simp only [T.val, Option.some.injEq, Prod.mk.injEq] at hgs
      obtain ⟨rfl, rfl⟩ := hgs
      subst e0l
      exact ⟨rfl, rfl⟩
    obtain ⟨rfl, rfl⟩ := hgo
    refine ⟨{ M := MJ, fam := famJM l a st, step := stepJ l a, ks := ksJ, pk := pkJ, hpk := pkJ_ok, L := 11, len := rfl, hGL := (by show 7 <= 11; decide), run := stepJ_run σ l a st, m := endJ l a st 0, k := l.length + 1, m' := outJ l a st, ent := ?_, it := iterJ l a st h1 h2 l.length 0 (by omega), fin := rfl }⟩
    refine enter_only (N := NV σ) (s := ⟨E1, _⟩) (l := []) (fun a ha => by cases ha) (by show 7 <= 11; decide) fun k hk => ?_
    simp only [ksJ, List.mem_cons, List.not_mem_nil, or_false] at hk
    rcases hk with rfl | rfl | rfl | rfl | rfl | rfl | rfl
    ·refine .inr (.inl ⟨?_, plIt _, fun ρ => ?_⟩)
     ·show Sx.look E1 0 ≠ _
      rw [e0]; intro h; cases h
     ·show Value.int .i64 st = (Sx.look E1 0).den ρ
      rw [e0]
      exact (iOf_den hst ρ).symm
    ·exact .inl e1.symm
    ·exact .inl e2.symm
    ·exact .inl e7.symm
    ·exact .inl e9.symm
    ·exact .inl e10.symm
    ·exact .inr (.inl (sayIl e11))
   ·simp [T.val] at hgs
  ·simp [T.val] at hgs
 ·simp [T.val] at hgs
end Go.Proofs.YtpapbhbnaalhcaaDoor
