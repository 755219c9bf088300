import Derived.Test.YtpapbhbnaalhcaaDoorTg
namespace Go.Proofs.YtpapbhbnaalhcaaDoor
open Go Go.Sx Go.Proofs
set_option linter.unusedVariables false
set_option maxRecDepth 100000
noncomputable def tabH : Tab := tabAdd 32 (sumG isS noM belS) fun _ => none
theorem tabH_ok {σ : Sg} : TabOk Tryd.prog (NV σ) tabH := tabAdd_ok (lp := noLp) belS_ok fun f g h => by cases h
def ksT : List Nat := [0, 3, 4]
def famT (l o : List Rw) (n k : Nat) (i : Int) : St AV :=
 { E := only ksT [(0, .v (.c (.vs 7 0 n 10 false))), (3, .v (.c (.vs 9 0 k 10 false))), (4, .v (.c (.it .i64 i)))] 42, H := hpO noM [.rows l] ++ [some .dead, some (.abs (.rows o))] }
noncomputable def LT : Code := loopAt 3 (loopsOf (bodyOf Tryd.f14))
def frmR (r : Rw) (v : Int) : Rw := ⟨r.thread, r.kind, r.key, r.val, r.tall, r.code, r.aval, v, r.till, r.fin⟩
def tilR (r : Rw) (v : Int) : Rw := ⟨r.thread, r.kind, r.key, r.val, r.tall, r.code, r.aval, r.frm, v, r.fin⟩
def setF (l o : List Rw) (j : Nat) : List Rw := o.set j (frmR (o.getD j krows.dflt) ((belN l (l.getD j krows.dflt).frm : Nat) : Int))
def setT (l o : List Rw) (j : Nat) : List Rw := o.set j (tilR (o.getD j krows.dflt) ((belN l (l.getD j krows.dflt).till : Nat) : Int))
theorem ttR (σ : Sg) (l o : List Rw) (n k : Nat) (i : Int) : (xc (NV σ) (joinCal (lv (NV σ) tabH 5)) (fun _ => none) 42 LT (famT l o n k i)).bind (backS 10 42 ksT pkJ) =
 .ite (decide (i < (n : Int))) (.need (decide (0 <= i /\ i < (n : Int))) (.need (decide (0 + i.toNat < l.length)) (.need (decide (n = l.length /\ l.length <= 1000)) (.need (decide (0 <= i /\ i < (k : Int))) (.need (decide (0 + i.toNat < o.length)) (.need (needA n l.length i)
  (.ite (l.getD (0 + i.toNat) krows.dflt).fin
    (.need (decide (0 <= i /\ i < (n : Int))) (.need (decide (0 + i.toNat < l.length)) (.need (decide (n = l.length /\ l.length <= 1000)) (.need (decide (0 <= i /\ i < (k : Int))) (.need (decide (0 + i.toNat < (setF l o (0 + i.toNat)).length))
      (.leaf (.normal, famT l (setT l (setF l o (0 + i.toNat)) (0 + i.toNat)) n k (IntKind.wrap .i64 (i + 1)))))))))
    (.leaf (.normal, famT l (setF l o (0 + i.toNat)) n k (IntKind.wrap .i64 (i + 1)))))))))))
  (.leaf (.exit 0, famT l o n k i)) := by kernel_rfl
def tell (l : List Rw) (r : Rw) : Rw := ⟨r.thread, r.kind, r.key, r.val, r.tall, r.code, r.aval, ((belN l r.frm : Nat) : Int), if r.fin then ((belN l r.till : Nat) : Int) else r.till, r.fin⟩
def oneH (l o : List Rw) (i : Nat) : List Rw := if (l.getD i krows.dflt).fin = true then setT l (setF l o i) i else setF l o i
def tellTo (l : List Rw) (i : Nat) : List Rw := (List.range l.length).map fun k => if k < i then tell l (l.getD k krows.dflt) else l.getD k krows.dflt
theorem tellTo_len (l : List Rw) (i : Nat) : (tellTo l i).length = l.length := by simp [tellTo]
theorem tellTo_zero (l : List Rw) : tellTo l 0 = l := by
 refine List.ext_getElem (by simp [tellTo]) fun k h1 h2 => ?_
 simp only [tellTo, List.getElem_map, List.getElem_range, if_neg (Nat.not_lt_zero _)]
 simp [List.getD, h2]
theorem tellTo_end (l : List Rw) : tellTo l l.length = l.map (tell l) := by
 refine List.ext_getElem (by simp [tellTo]) fun k h1 h2 => ?_
 have hk : k < l.length := by simpa using h2
 simp only [tellTo, List.getElem_map, List.getElem_range, if_pos hk]
 simp [List.getD, hk]
theorem tellTo_at {l : List Rw} {i k : Nat} (h : k < l.length) : (tellTo l i).getD k krows.dflt = if k < i then tell l (l.getD k krows.dflt) else l.getD k krows.dflt := by
 simp [tellTo, List.getD, h]
theorem tellTo_step (l : List Rw) (i : Nat) (h : i < l.length) : oneH l (tellTo l i) i = tellTo l (i + 1) := by
 have hi : i < (tellTo l i).length := by rw [tellTo_len]; exact h
 have e0 : (tellTo l i).getD i krows.dflt = l.getD i krows.dflt := by rw [tellTo_at h, if_neg (Nat.lt_irrefl _)]
 have hF : setF l (tellTo l i) i = (tellTo l i).set i (frmR (l.getD i krows.dflt) ((belN l (l.getD i krows.dflt).frm : Nat) : Int)) := by unfold setF; rw [e0]
 have hone : oneH l (tellTo l i) i = (tellTo l i).set i (tell l (l.getD i krows.dflt)) := by
  unfold oneH
  split
  ·rename_i hf
   unfold setT
   rw [hF]
   have : ((tellTo l i).set i (frmR (l.getD i krows.dflt) ((belN l (l.getD i krows.dflt).frm : Nat) : Int))).getD i krows.dflt = frmR (l.getD i krows.dflt) ((belN l (l.getD i krows.dflt).frm : Nat) : Int) := by
    simp [List.getD, hi]
   rw [this, List.set_set]
   congr 1
   unfold tell
   rw [if_pos hf]
   rfl
  ·rename_i hf
   rw [hF]
   congr 1
   unfold tell
   rw [if_neg hf]
   rfl
 rw [hone]
 refine List.ext_getElem (by simp [tellTo]) fun k h1 h2 => ?_
 have hk : k < l.length := by simpa [tellTo] using h2
 simp only [List.getElem_set, tellTo, List.getElem_map, List.getElem_range]
 by_cases e : i = k
 ·subst e
  rw [if_pos rfl, if_pos (Nat.lt_succ_self _)]
 ·rw [if_neg e]
  by_cases h3 : k < i
  ·rw [if_pos h3, if_pos (by omega)]
  ·rw [if_neg h3, if_neg (by omega)]
def stepH (l : List Rw) (m : Nat × List Rw) : T (Ex × (Nat × List Rw)) := .need (decide (l.length <= 1000 /\ m.2.length = l.length /\ m.1 <= l.length))
 (.leaf (if m.1 < l.length then (.normal, (m.1 + 1, oneH l m.2 m.1)) else (.exit 0, m)))
theorem stepH_run (σ : Sg) (l : List Rw) (m : Nat × List Rw) (q : Ex × (Nat × List Rw)) (h : (stepH l m).val = some q) :
 ((xc (NV σ) (joinCal (lv (NV σ) tabH 5)) (fun _ => none) 42 LT (famT l m.2 l.length l.length m.1)).bind (backS 10 42 ksT pkJ)).val = some (q.1, famT l q.2.2 l.length l.length q.2.1) := by
 replace h := need_some h
 obtain ⟨hb, h⟩ := h
 obtain ⟨h1, h2, h3⟩ := of_decide_eq_true hb
 simp only [T.val, Option.some.injEq] at h
 subst h
 obtain ⟨i, o⟩ := m
 simp only at h2 h3
 rw [ttR]
 by_cases hlt : i < l.length
 ·have e1 : 0 + (i : Int).toNat = i := by omega
  have hw : IntKind.wrap .i64 ((i : Int) + 1) = ((i + 1 : Nat) : Int) := wrapS (by omega)
  have dA : decide (0 <= (i : Int) /\ (i : Int) < (l.length : Int)) = true := decide_eq_true (by omega)
  have dL : decide (True /\ l.length <= 1000) = true := decide_eq_true ⟨trivial, h1⟩
  have d2 : needA l.length l.length i = true := by
   unfold needA
   rw [dA]
   exact decide_eq_true (by omega)
  have hl2 : (setF l o i).length = o.length := by unfold setF; simp
  simp only [if_pos hlt]
  rw [ivT (decide_eq_true (by omega)), nv dA, e1, nv (decide_eq_true hlt), nv dL, nv dA, nv (decide_eq_true (by omega)), nv d2, hw]
  unfold oneH
  cases hf : (l.getD i krows.dflt).fin with
  | true =>
    rw [ivT rfl, nv dA, nv (decide_eq_true hlt), nv dL, nv dA, nv (decide_eq_true (by omega)), if_pos rfl]
    rfl
  | false =>
    rw [ivF rfl, if_neg (by decide)]
    rfl
 ·simp only [if_neg hlt]
  rw [ivF (decide_eq_false (by omega))]
  rfl
theorem iterH (l : List Rw) (hl : l.length <= 1000) : ∀ (k i : Nat), i + k = l.length -> iter (stepH l) (k + 1) (i, tellTo l i) = some (.exit 0, (l.length, l.map (tell l)))
 | 0, i, hk => by
   have e : i = l.length := by omega
   subst e
   simp only [iter, stepH, T.val, decide_eq_true (show l.length <= 1000 /\ (tellTo l l.length).length = l.length /\ l.length <= l.length from ⟨hl, tellTo_len _ _, Nat.le_refl _⟩), if_neg (Nat.lt_irrefl _)]
   rw [tellTo_end]
 | k + 1, i, hk => by
   have hlt : i < l.length := by omega
   rw [iter]
   simp only [stepH, T.val, decide_eq_true (show l.length <= 1000 /\ (tellTo l i).length = l.length /\ i <= l.length from ⟨hl, tellTo_len _ _, by omega⟩), if_pos hlt]
   rw [tellTo_step l i hlt]
   exact iterH l hl k (i + 1) (by omega)
def gT (tl : List Rw -> List Rw) (s : St AV) : T (Ex × St AV) := match s.H with
 | [none, none, none, none, none, none, none, some (.abs (.rows l)), some .dead, some (.abs (.rows o))] => match Sx.look s.E 0, Sx.look s.E 3, Sx.look s.E 4 with
   | .v (.c (.vs 7 0 n 10 false)), .v (.c (.vs 9 0 k 10 false)), .v (.c (.il .i64 0)) => .need (decide (n = l.length /\ k = l.length /\ l.length <= 1000 /\ o = l)) (.leaf (.exit 0, famT l (tl l) l.length l.length l.length))
   | _, _, _ => .fail "told"
 | _ => .fail "told"
def tellL (l : List Rw) : List Rw := l.map (tell l)
theorem gT_ok {σ : Sg} {N' : Env AV} (hF : N'.F = (NV σ).F) (hG : N'.G = (NV σ).G) : LoopOk Tryd.prog N' 42 LT (gT tellL) := by
 have hcal : CalOk Tryd.prog (NV σ) (joinCal (lv (NV σ) tabH 5)) := joinCal_ok (lv_ok okV lpsV hvV tabH_ok 5)
 refine loopOk_it (N := NV σ) hF hG okV hcal (lp := fun _ => none) (fun _ _ _ g hg => by cases hg) fun s s' ex hgs => ?_
 obtain ⟨E1, H1⟩ := s
 unfold gT at hgs
 split at hgs
 ·rename_i l o hs
  simp only at hs
  subst hs
  split at hgs
  ·rename_i n k e0 e3 e4
   simp only at e0 e3 e4
   replace hgs := need_some hgs
   obtain ⟨hb, hgs⟩ := hgs
   obtain ⟨rfl, rfl, hl, rfl⟩ := of_decide_eq_true hb
   simp only [T.val, Option.some.injEq, Prod.mk.injEq] at hgs
   obtain ⟨rfl, rfl⟩ := hgs
   refine ⟨{ M := Nat × List Rw, fam := fun m => famT o m.2 o.length o.length m.1, step := stepH o, ks := ksT, pk := pkJ, hpk := pkJ_ok, L := 10, len := rfl, hGL := (by show 7 <= 10; decide), run := stepH_run σ o, m := (0, tellTo o 0), k := o.length + 1, m' := (o.length, o.map (tell o)), ent := ?_, it := iterH o hl o.length 0 (by omega), fin := rfl }⟩
   rw [tellTo_zero]
   refine enter_only (N := NV σ) (s := ⟨E1, _⟩) (l := []) (fun a ha => by cases ha) (by show 7 <= 10; decide) fun k hk => ?_
   simp only [ksT, List.mem_cons, List.not_mem_nil, or_false] at hk
   rcases hk with rfl | rfl | rfl
   ·exact .inl e0.symm
   ·exact .inl e3.symm
   ·exact .inr (.inl (sayIl e4))
  ·simp [T.val] at hgs
 ·simp [T.val] at hgs
def lpT (tl : List Rw -> List Rw) : Lp := lpAdd 14 3 (gT tl) noLp
theorem lpT_ok {σ : Sg} : LpsOk Tryd.prog (NVl (lpT tellL) σ) := lpsAdd lpsV (fn := Tryd.f14) (by kernel_rfl) (c := bodyOf Tryd.f14) (by kernel_rfl) (nt := 42) (by kernel_rfl) (b := LT) (oneLoop_spec (by kernel_rfl)) (gT_ok rfl rfl)
theorem telR (σ : Sg) (tl : List Rw -> List Rw) (l : List Rw) : runN (lpT tl) σ (fun _ => none) 14 noM [.v (.c (.vs 7 0 l.length 10 false))] [.rows l] =
 .need (decide (l.length = Intf.len (F2 σ) (AV.rows l) /\ l.length * (SI.bytes si31 + 1) <= lim)) (.need (decide (l.length = l.length /\ l.length = l.length /\ l.length <= 1000 /\ l = l)) (.leaf (.v (.c (.vs (7 + 1) 0 l.length 10 false)), [.rows l], [.rows (tl l)]))) := by kernel_rfl
def telS (tl : List Rw -> List Rw) (args : List SV) (l : List AV) : T (SV × List AV × List AV) := match args, l with
 | [.v (.c (.vs n 0 len 10 false))], [.rows rs] => match Nat.beq n 7 with
   | true => .need (decide (len = rs.length /\ rs.length <= 1000)) (.leaf (.v (.c (.vs (7 + 1) 0 rs.length 10 false)), [.rows rs], [.rows (tl rs)]))
   | false => .fail "told"
 | _, _ => .fail "told"
theorem telS_ok {σ : Sg} : FnOk Tryd.prog (NV σ) 14 (sumG isS noM (telS tellL)) := by
 refine fnOk_env (N := NVl (lpT tellL) σ) (N' := NV σ) rfl rfl ?_
 refine sumG_ok isS_ok rfl fun args l v l' nw h hl hargs => ?_
 unfold telS at h
 split at h
 ·rename_i n len rs
  split at h
  ·rename_i h1
   have hn := (beq_iff _ _).1 h1
   subst hn
   replace h := need_some h
   obtain ⟨hb, h⟩ := h
   obtain ⟨rfl, hsm⟩ := of_decide_eq_true hb
   simp only [T.val, Option.some.injEq, Prod.mk.injEq] at h
   obtain ⟨rfl, rfl, rfl⟩ := h
   have hr : (runN (lpT tellL) σ (fun _ => none) 14 noM [.v (.c (.vs 7 0 rs.length 10 false))] [.rows rs]).val = some (.v (.c (.vs (7 + 1) 0 rs.length 10 false)), [.rows rs], [.rows (tellL rs)]) := by
    rw [telR, nv (decide_eq_true ⟨rfl, by
     have : SI.bytes si31 <= 1000 := by decide
     have : lim = 1099511627776 := rfl
     have : rs.length * (SI.bytes si31 + 1) <= 1000 * 1001 := Nat.mul_le_mul hsm (by omega)
     omega⟩), nv (decide_eq_true ⟨rfl, rfl, hsm, rfl⟩)]
    rfl
   exact (runN_ok lpT_ok (fun f g h => by cases h) (M := noM) rfl (l := [.rows rs]) (fun x hx => by
    rw [List.mem_singleton.1 hx]
    exact cl_vs (hpO_at noM [.rows rs] 0 _ rfl)) hr).1
  ·simp [T.val] at h
 ·simp [T.val] at h
end Go.Proofs.YtpapbhbnaalhcaaDoor
