import Derived.Test.YtpapbhbnaalhcaaDoorKq
namespace Go.Proofs.YtpapbhbnaalhcaaDoor
open Go Go.Sx Go.Proofs
set_option linter.unusedVariables false
set_option maxRecDepth 100000
def ksG : List Nat := [0, 1, 5, 6]
def famG (b : Bool) (l : List Rw) (n : Nat) (v c i : Int) : St AV :=
 { E := only ksG [(0, .v (.c (.vs 7 0 n 10 false))), (1, .v (.c (.it .i64 v))), (5, .v (.c (.it .i64 c))), (6, .v (.c (.it .i64 i)))] 39, H := hpO noM [.rowsB b l] }
noncomputable def LG : Code := loopAt 3 (loopsOf (bodyOf Tryd.f32))
def endG (r : Rw) (v : Int) : Bool := match r.fin == true with
 | true => decide (r.till < v)
 | false => false
def ndG (n len : Nat) (i : Int) (r : Rw) : Bool := match decide (0 <= i /\ i < (n : Int)) with
 | true => match decide (0 + i.toNat < len) with
   | true => match r.fin == true with
     | true => needA n len i
     | false => true
   | false => false
 | false => false
theorem tgR (σ : Sg) (b : Bool) (l : List Rw) (n : Nat) (v c i : Int) : (xc (NV σ) (joinCal (lv (NV σ) (fun _ => none) 5)) (fun _ => none) 39 LG (famG b l n v c i)).map (onlyS ksG 39) =
 .ite (decide (i < (n : Int))) (.need (needA n l.length i) (.ite (decide ((l.getD (0 + i.toNat) krows.dflt).frm < v))
  (.need (ndG n l.length i (l.getD (0 + i.toNat) krows.dflt)) (.ite (endG (l.getD (0 + i.toNat) krows.dflt) v)
    (.leaf (.normal, famG b l n v (IntKind.wrap .i64 (IntKind.wrap .i64 (c + 1) + 1)) (IntKind.wrap .i64 (i + 1)))) (.leaf (.normal, famG b l n v (IntKind.wrap .i64 (c + 1)) (IntKind.wrap .i64 (i + 1))))))
  (.need (ndG n l.length i (l.getD (0 + i.toNat) krows.dflt)) (.ite (endG (l.getD (0 + i.toNat) krows.dflt) v)
    (.leaf (.normal, famG b l n v (IntKind.wrap .i64 (c + 1)) (IntKind.wrap .i64 (i + 1)))) (.leaf (.normal, famG b l n v c (IntKind.wrap .i64 (i + 1))))))))
  (.leaf (.exit 0, famG b l n v c i)) := by kernel_rfl
def oneB (r : Rw) (v : Int) : Nat := (if r.frm < v then 1 else 0) + (if r.fin = true /\ r.till < v then 1 else 0)
def belN : List Rw -> Int -> Nat
 | [], _ => 0
 | r :: l, v => oneB r v + belN l v
theorem endG_iff (r : Rw) (v : Int) : endG r v = decide (r.fin = true /\ r.till < v) := by
 unfold endG
 cases r.fin <;> simp
def stepG (l : List Rw) (v : Int) (m : Nat × Nat) : T (Ex × (Nat × Nat)) := .need (decide (l.length <= 1000 /\ m.1 <= l.length /\ m.2 <= 2 * m.1))
 (.leaf (if m.1 < l.length then (.normal, (m.1 + 1, m.2 + oneB (l.getD m.1 krows.dflt) v)) else (.exit 0, m)))
theorem stepG_run (σ : Sg) (b : Bool) (l : List Rw) (v : Int) (m : Nat × Nat) (q : Ex × (Nat × Nat)) (h : (stepG l v m).val = some q) :
 ((xc (NV σ) (joinCal (lv (NV σ) (fun _ => none) 5)) (fun _ => none) 39 LG (famG b l l.length v m.2 m.1)).map (onlyS ksG 39)).val = some (q.1, famG b l l.length v q.2.2 q.2.1) := by
 replace h := need_some h
 obtain ⟨hb, h⟩ := h
 obtain ⟨h1, h2, h3⟩ := of_decide_eq_true hb
 simp only [T.val, Option.some.injEq] at h
 subst h
 obtain ⟨i, c⟩ := m
 simp only at h2 h3
 rw [tgR]
 by_cases hlt : i < l.length
 ·have e1 : 0 + (i : Int).toNat = i := by omega
  have hw : IntKind.wrap .i64 ((i : Int) + 1) = ((i + 1 : Nat) : Int) := wrapS (by omega)
  have hc : IntKind.wrap .i64 ((c : Int) + 1) = ((c + 1 : Nat) : Int) := wrapS (by omega)
  have hc2 : IntKind.wrap .i64 (((c + 1 : Nat) : Int) + 1) = ((c + 1 + 1 : Nat) : Int) := wrapS (by omega)
  have dA : decide (0 <= (i : Int) /\ (i : Int) < (l.length : Int)) = true := decide_eq_true (by omega)
  have d2 : needA l.length l.length i = true := by
   unfold needA
   rw [dA]
   exact decide_eq_true (by omega)
  have d3 : ndG l.length l.length i (l.getD i krows.dflt) = true := by
   unfold ndG
   rw [dA, e1, decide_eq_true hlt, d2]
   cases (l.getD i krows.dflt).fin <;> rfl
  simp only [if_pos hlt]
  rw [ivT (decide_eq_true (by omega)), nv d2, e1, hw, hc, hc2]
  unfold oneB
  by_cases c1 : (l.getD i krows.dflt).frm < v
  ·rw [ivT (decide_eq_true c1), nv d3, if_pos c1]
   by_cases c2 : (l.getD i krows.dflt).fin = true /\ (l.getD i krows.dflt).till < v
   ·rw [ivT (by rw [endG_iff]; exact decide_eq_true c2), if_pos c2]
    rfl
   ·rw [ivF (by rw [endG_iff]; exact decide_eq_false c2), if_neg c2]
    rfl
  ·rw [ivF (decide_eq_false c1), nv d3, if_neg c1]
   by_cases c2 : (l.getD i krows.dflt).fin = true /\ (l.getD i krows.dflt).till < v
   ·rw [ivT (by rw [endG_iff]; exact decide_eq_true c2), if_pos c2]
    simp only [T.val, Nat.zero_add]
   ·rw [ivF (by rw [endG_iff]; exact decide_eq_false c2), if_neg c2]
    simp only [T.val, Nat.add_zero]
 ·simp only [if_neg hlt]
  rw [ivF (decide_eq_false (by omega))]
  rfl
theorem oneB_le (r : Rw) (v : Int) : oneB r v <= 2 := by
 unfold oneB
 split <;> split <;> omega
theorem iterG (l : List Rw) (v : Int) (hl : l.length <= 1000) : ∀ (k i c : Nat), i + k = l.length -> c <= 2 * i -> iter (stepG l v) (k + 1) (i, c) = some (.exit 0, (l.length, c + belN (l.drop i) v))
 | 0, i, c, hk, hc => by
   have e : i = l.length := by omega
   subst e
   simp only [iter, stepG, T.val, decide_eq_true (show l.length <= 1000 /\ l.length <= l.length /\ c <= 2 * l.length from ⟨hl, Nat.le_refl _, hc⟩), if_neg (Nat.lt_irrefl _), List.drop_length]
   rfl
 | k + 1, i, c, hk, hc => by
   have hlt : i < l.length := by omega
   have := oneB_le (l.getD i krows.dflt) v
   rw [iter]
   simp only [stepG, T.val, decide_eq_true (show l.length <= 1000 /\ i <= l.length /\ c <= 2 * i from ⟨hl, by omega, hc⟩), if_pos hlt]
   rw [drop_cons l krows.dflt hlt, belN, iterG l v hl k (i + 1) _ (by omega) (by omega), Nat.add_assoc]
def gG (s : St AV) : T (Ex × St AV) := match s.H with
 | [none, none, none, none, none, none, none, some (.abs (.rowsB b l))] => match Sx.look s.E 0, Sx.look s.E 1, Sx.look s.E 5, Sx.look s.E 6 with
   | .v (.c (.vs 7 0 n 10 false)), .v (.c (.it .i64 v)), .v (.c (.il .i64 0)), .v (.c (.il .i64 0)) => .need (decide (n = l.length /\ l.length <= 1000)) (.leaf (.exit 0, famG b l l.length v (belN l v) l.length))
   | _, _, _, _ => .fail "below"
 | _ => .fail "below"
theorem gG_ok {σ : Sg} {N' : Env AV} (hF : N'.F = (NV σ).F) (hG : N'.G = (NV σ).G) : LoopOk Tryd.prog N' 39 LG gG := by
 have hcal : CalOk Tryd.prog (NV σ) (joinCal (lv (NV σ) (fun _ => none) 5)) := joinCal_ok (lv_ok okV lpsV hvV (fun f g h => by cases h) 5)
 refine loopOk_q (N := NV σ) hF hG okV hcal (lp := fun _ => none) (fun _ _ _ g hg => by cases hg) fun s s' ex hgs => ?_
 obtain ⟨E1, H1⟩ := s
 unfold gG at hgs
 split at hgs
 ·rename_i b l hs
  simp only at hs
  subst hs
  split at hgs
  ·rename_i n v e0 e1 e5 e6
   simp only at e0 e1 e5 e6
   replace hgs := need_some hgs
   obtain ⟨hb, hgs⟩ := hgs
   obtain ⟨rfl, hl⟩ := of_decide_eq_true hb
   simp only [T.val, Option.some.injEq, Prod.mk.injEq] at hgs
   obtain ⟨rfl, rfl⟩ := hgs
   have hi := iterG l v hl l.length 0 0 (by omega) (Nat.le_refl _)
   rw [List.drop_zero, Nat.zero_add] at hi
   refine ⟨{ M := Nat × Nat, fam := fun m => famG b l l.length v m.2 m.1, step := stepG l v, ks := ksG, run := stepG_run σ b l v, heap := fun _ => rfl, m := (0, 0), k := l.length + 1, m' := (l.length, belN l v), ent := ?_, it := hi, fin := rfl, cl := ?_ }⟩
   ·refine says_only (nt := 39) (ks := ksG) (E := E1) fun k hk _ => ?_
    simp only [ksG, List.mem_cons, List.not_mem_nil, or_false] at hk
    rcases hk with rfl | rfl | rfl | rfl
    ·exact .inl e0.symm
    ·exact .inl e1.symm
    ·exact .inr ⟨(by rw [e5]; intro h; cases h), plIt _, fun ρ => (by rw [e5]; rfl)⟩
    ·exact .inr ⟨(by rw [e6]; intro h; cases h), plIt _, fun ρ => (by rw [e6]; rfl)⟩
   ·intro hc
    refine closed_ks (fun k hk => ?_) hc.H
    simp only [ksG, List.mem_cons, List.not_mem_nil, or_false] at hk
    rcases hk with rfl | rfl | rfl | rfl
    ·have := hc.E 0; rw [e0] at this; exact this
    ·exact (plIt _).cl _
    ·exact (plIt _).cl _
    ·exact (plIt _).cl _
  ·simp [T.val] at hgs
 ·simp [T.val] at hgs
def lpG : Lp := lpAdd 32 3 gG noLp
theorem lpG_ok {σ : Sg} : LpsOk Tryd.prog (NVl lpG σ) := lpsAdd lpsV (fn := Tryd.f32) (by kernel_rfl) (c := bodyOf Tryd.f32) (by kernel_rfl) (nt := 39) (by kernel_rfl) (b := LG) (oneLoop_spec (by kernel_rfl)) (gG_ok rfl rfl)
theorem belR (σ : Sg) (b : Bool) (l : List Rw) (v : Int) : runN lpG σ (fun _ => none) 32 noM [.v (.c (.vs 7 0 l.length 10 false)), .v (.c (.it .i64 v))] [.rowsB b l] =
 .need (decide (l.length = l.length /\ l.length <= 1000)) (.leaf (.v (.c (.it .i64 (belN l v))), [.rowsB b l], [])) := by kernel_rfl
def belS (args : List SV) (l : List AV) : T (SV × List AV × List AV) := match args, l with
 | [.v (.c (.vs n 0 len 10 false)), .v (.c (.it .i64 v))], [a] => match Nat.beq n 7, rowsX a with
   | true, some (b, rs) => .need (decide (len = rs.length /\ rs.length <= 1000)) (.leaf (.v (.c (.it .i64 (belN rs v))), [a], []))
   | _, _ => .fail "below"
 | _, _ => .fail "below"
theorem belS_ok {σ : Sg} : FnOk Tryd.prog (NV σ) 32 (sumG isS noM belS) := by
 refine fnOk_env (N := NVl lpG σ) (N' := NV σ) rfl rfl ?_
 refine sumG_ok isS_ok rfl fun args l v l' nw h hl hargs => ?_
 unfold belS at h
 split at h
 ·rename_i n len v a
  split at h
  ·rename_i b rs h1 h2
   have hn := (beq_iff _ _).1 h1
   subst hn
   replace h := need_some h
   obtain ⟨hb, h⟩ := h
   obtain ⟨rfl, hsm⟩ := of_decide_eq_true hb
   simp only [T.val, Option.some.injEq, Prod.mk.injEq] at h
   obtain ⟨rfl, rfl, rfl⟩ := h
   have ha : Alike (NVl lpG σ) [a] [.rowsB b rs] := ⟨fun lc S w => rowsX_q h2 lc S w, trivial⟩
   have hr : (runN lpG σ (fun _ => none) 32 noM [.v (.c (.vs 7 0 rs.length 10 false)), .v (.c (.it .i64 v))] [.rowsB b rs]).val = some (.v (.c (.it .i64 (belN rs v))), [.rowsB b rs], []) := by
    rw [belR, nv (decide_eq_true ⟨rfl, hsm⟩)]
    rfl
   have hc := (runN_ok lpG_ok (fun f g h => by cases h) (M := noM) rfl (l := [.rowsB b rs]) (fun x hx => by
    simp only [List.mem_cons, List.not_mem_nil, or_false] at hx
    rcases hx with rfl | rfl
    ·exact cl_vs (hpO_at noM [.rowsB b rs] 0 _ rfl)
    ·exact cl_plain rfl) hr).1
   exact ctr_alike (l := [a]) (m := [.rowsB b rs]) (l' := [a]) (m' := [.rowsB b rs]) ha ha.symm hc
  ·simp [T.val] at h
 ·simp [T.val] at h
end Go.Proofs.YtpapbhbnaalhcaaDoor
