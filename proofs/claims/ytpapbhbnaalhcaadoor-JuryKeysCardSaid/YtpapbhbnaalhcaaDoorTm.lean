import Derived.Test.YtpapbhbnaalhcaaDoorTl
import Derived.Test.YtpapbhbnaalhcaaDoorKq
namespace Go.Proofs.YtpapbhbnaalhcaaDoor
open Go Go.Sx Go.Proofs
set_option linter.unusedVariables false
set_option maxRecDepth 100000
theorem mod3 (s : Int) : 0 <= Int.tmod (IntKind.wrap .u64 s) 3 /\ Int.tmod (IntKind.wrap .u64 s) 3 < 3 := by
 have h : 0 <= IntKind.wrap .u64 s := by
  unfold IntKind.wrap
  simp only [IntKind.bits, IntKind.signed, Bool.false_and, Bool.false_eq_true, if_false]
  exact Int.emod_nonneg _ (by decide)
 exact ⟨Int.tmod_nonneg _ h, Int.tmod_lt_of_pos _ (by decide)⟩
theorem endY_spec {l : List Rw} {st : Int} : ∀ (k i : Nat) (all : Bool), i + k = l.length -> (endY l st k i all).x = false -> (∀ j, i <= j -> j < l.length -> fitsM st (rowAt l j).op = true) /\ ((endY l st k i all).all = true ↔ all = true /\ ∀ j, i <= j -> j < l.length -> linT.is st (tellL (keyP l j)) = true)
 | 0, i, all, hk, h => ⟨fun j h1 h2 => absurd h2 (by omega), ⟨fun h => ⟨h, fun j h1 h2 => absurd h2 (by omega)⟩, fun h => h.1⟩⟩
 | k + 1, i, all, hk, h => by
   rw [endY] at h ⊢
   split at h
   ·rename_i hf
    rw [if_pos hf]
    obtain ⟨g1, g2⟩ := endY_spec k (i + 1) _ (by omega) h
    refine ⟨fun j h1 h2 => ?_, ?_⟩
    ·rcases Nat.eq_or_lt_of_le h1 with e | e
     ·subst e; exact hf
     ·exact g1 j e h2
    ·rw [g2, Bool.and_eq_true]
     constructor
     ·rintro ⟨⟨a1, a2⟩, a3⟩
      refine ⟨a1, fun j h1 h2 => ?_⟩
      rcases Nat.eq_or_lt_of_le h1 with e | e
      ·subst e; exact a2
      ·exact a3 j e h2
     ·rintro ⟨a1, a2⟩
      exact ⟨⟨a1, a2 i (Nat.le_refl _) (by omega)⟩, fun j h1 h2 => a2 j (by omega) h2⟩
   ·cases h
theorem keys_law {l : List Rw} {st : Int} (hl : l.length <= 7) (hst : st = 3 \/ st = 4 \/ st = 5) (hok : linT.ok l = true) (hret : keyT.ret l st = false) : linT.is st l = keyT.all l st := by
 have hok' : ofOk l = true := hok
 obtain ⟨h1, h2⟩ := endY_spec l.length 0 true (by omega) hret
 have hn := wf_nodup (ofOk_wf hok')
 have hf : ∀ r, r ∈ l -> fitsM st r.op = true := fun r hr => by
  obtain ⟨i, hi, rfl⟩ := mem_rowAt hr
  exact h1 i (Nat.zero_le _) hi
 have hk := lin_keys hn hst hf
 have e : linT.is st l = true ↔ keyT.all l st = true := by
  rw [linT_is (by omega), hk]
  have e2 : keyT.all l st = (endY l st l.length 0 true).all := rfl
  rw [e2, h2]
  constructor
  ·intro h
   refine ⟨rfl, fun j _ hj => ?_⟩
   have hp := keyP_len l j
   rw [linT_is (by unfold tellL; rw [List.length_map]; omega), keyP_eq, told_lin hok']
   exact h _ (rowAt_mem hj)
  ·rintro ⟨_, h⟩ r hr
   obtain ⟨j, hj, rfl⟩ := mem_rowAt hr
   have := h j (Nat.zero_le _) hj
   have hp := keyP_len l j
   rw [linT_is (by unfold tellL; rw [List.length_map]; omega), keyP_eq, told_lin hok'] at this
   exact this
 cases h3 : linT.is st l <;> cases h4 : keyT.all l st <;> rw [h3, h4] at e <;> simp at e ⊢
theorem key_val (σ : Sg) (s : Int) (b : Bool) (l : List Rw) : (keyR_T σ linT keyT s b l).val = some (.v (.c (.bl true)), [.rowsB b l], []) := by
 unfold keyR_T
 dsimp only
 by_cases h7 : (l.length : Int) > 7
 ·rw [ivT (decide_eq_true h7)]
  rfl
 ·have h7' : l.length <= 7 := by omega
  have hs := mod3 s
  have h345 : 3 + Int.tmod (IntKind.wrap .u64 s) 3 = 3 \/ 3 + Int.tmod (IntKind.wrap .u64 s) 3 = 4 \/ 3 + Int.tmod (IntKind.wrap .u64 s) 3 = 5 := by omega
  generalize 3 + Int.tmod (IntKind.wrap .u64 s) 3 = st at h345 ⊢
  have hst : decide (1 <= st /\ st <= 5) = true := decide_eq_true (by omega)
  rw [ivF (decide_eq_false h7), nv (decide_eq_true ⟨rfl, by omega⟩), ivT hst]
  cases hok : linT.ok l with
  | false => rw [ivF rfl]; rfl
  | true =>
    rw [ivT rfl, ivF (decide_eq_false (by omega))]
    have d4 : decide (l.length = l.length /\ l.length <= 7 /\ 1 <= st /\ st <= 5) = true := decide_eq_true ⟨rfl, h7', by omega⟩
    cases hret : keyT.ret l st with
    | true =>
      cases hi : linT.is st l with
      | true =>
        rw [ivT rfl, nv rfl, nv d4, ivT rfl]
        cases keyT.all l st <;> rfl
      | false =>
        rw [ivF rfl, nv rfl, nv d4, ivT rfl]
        cases keyT.all l st <;> rfl
    | false =>
      have hlaw := keys_law h7' h345 hok hret
      cases hi : linT.is st l with
      | true =>
        rw [hi] at hlaw
        rw [ivT rfl, nv rfl, nv d4, ivF rfl, <- hlaw]
        rfl
      | false =>
        rw [hi] at hlaw
        rw [ivF rfl, nv rfl, nv d4, ivF rfl, <- hlaw]
        rfl
theorem gYg_ok {σ : Sg} (ht : TabR σ) {N' : Env AV} (hF : N'.F = (NV σ).F) (hG : N'.G = (NV σ).G) : LoopOk Tryd.prog N' 93 LY (gYg keyT linT.ok) := by
 intro L s s' ex hg hcl hL
 unfold gYg at hg
 split at hg
 ·exact gYA_ok ht hF hG L s s' ex hg hcl hL
 ·exact gYB_ok ht hF hG L s s' ex hg hcl hL
theorem lpKeys_ok {σ : Sg} (ht : TabR σ) : LpsOk Tryd.prog (NVl (lpKeys keyT linT.ok) σ) := lpsAdd lpsV (fn := Tryd.f5) (by kernel_rfl) (c := bodyOf Tryd.f5) (by kernel_rfl) (nt := 93) (by kernel_rfl) (b := LY) (oneLoop_spec (by kernel_rfl)) (gYg_ok ht rfl rfl)
theorem juryKeys_calls (s : Int) (lc : Sx.Loc) (l : List Rw) (ad : Nat -> Addr) (W : World) (hq : fixQ (sgOf W ad) krows l lc (fun _ => False))
 (hg : ∀ n, n < 3 -> W.heap[n]? = some (.cells #[.iface 189 (.pointer (some (ad n)))] 28 (0, 0))) (ht : TabR (sgOf W ad)) :
 Calls Tryd.prog 5 #[.int .i64 s, vsDen lc 0 l.length 10] W fun e w' => e = .returned (.bool true) /\ Quiet W w' := by
 have hr : (runN (lpKeys keyT linT.ok) (sgOf W ad) (tabKs (sgOf W ad) linT) 5 linM [.v (.c (.it .i64 s)), .v (.c (.vs 7 0 l.length 10 false))] [.rowsB false l]).val = some (.v (.c (.bl true)), [.rowsB false l], []) := by
  rw [keyR, key_val]
 have hc := (runN_ok (σ := sgOf W ad) (lpKeys_ok ht) (tab_env (tabKs_ok ht)) (M := linM) rfl (l := [.rowsB false l]) (fun x hx => by
  simp only [List.mem_cons, List.not_mem_nil, or_false] at hx
  rcases hx with rfl | rfl
  ·exact cl_plain rfl
  ·exact cl_vs (hpO_at linM [.rowsB false l] 0 _ rfl)) hr).1
 have hQ := quietJ (L := [(lc, .rowsB false l)]) hc (fun ρ => rfl) (fun x hx w _ => by rw [List.mem_singleton.1 hx]; exact rowsB_q hq w) (sgOf_has W ad) (fun k hk => if_pos hk) hg
 have e : ([.v (.c (.it .i64 s)), .v (.c (.vs 7 0 l.length 10 false))].map (SV.den (nmL [(lc, .rowsB false l)]))).toArray = #[.int .i64 s, vsDen lc 0 l.length 10] := by
  simp only [List.map_cons, List.map_nil]
  rw [den_row (L := [(lc, .rowsB false l)]) 0 l.length 10]
  rfl
 rw [e] at hQ
 exact hQ
end Go.Proofs.YtpapbhbnaalhcaaDoor
