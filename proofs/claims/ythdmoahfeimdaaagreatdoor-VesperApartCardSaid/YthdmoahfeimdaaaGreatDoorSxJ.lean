import Derived.Test.YthdmoahfeimdaaaGreatDoorSxHa
namespace Go.Sx
variable {AV : Type} {P : Program} {N : Env AV}
theorem hget_mask (R : List Nat) : ∀ (H : Hp AV) (i n : Nat), hget (maskH R i H) n = if sees R (i + n) = true then hget H n else none
 | [], i, n => by simp [maskH, hget]
 | x :: r, i, 0 => by
   simp only [maskH, hget, Nat.add_zero]
   cases sees R i <;> simp
 | x :: r, i, n + 1 => by
   simp only [maskH, hget]
   rw [hget_mask R r (i + 1) n]
   simp only [Nat.add_assoc, Nat.add_comm 1 n]
theorem mask_len (R : List Nat) : ∀ (H : Hp AV) (i : Nat), (maskH R i H).length = H.length
 | [], _ => rfl
 | _ :: r, i => by simp [maskH, mask_len R r (i + 1)]
theorem pers_spec : ∀ {A B : Hp AV}, persB A B = true -> A.length <= B.length /\ (∀ n c, hget A n = some c -> ∃ c', hget B n = some c') /\ (∀ n, n < A.length -> hget A n = none -> hget B n = none)
 | [], B, _ => by simp [hget]
 | x :: r, [], h => by cases x <;> simp [persB] at h
 | none :: r, none :: q, h => by
   simp only [persB] at h
   obtain ⟨h1, h2, h3⟩ := pers_spec h
   refine ⟨by simp; exact h1, fun n c hc => ?_, fun n hn hc => ?_⟩
   ·cases n with
    | zero => simp [hget] at hc
    | succ n => exact h2 n c hc
   ·cases n with
    | zero => rfl
    | succ n => exact h3 n (by simpa using hn) hc
 | none :: r, some y :: q, h => by simp [persB] at h
 | some x :: r, none :: q, h => by simp [persB] at h
 | some x :: r, some y :: q, h => by
   simp only [persB] at h
   obtain ⟨h1, h2, h3⟩ := pers_spec h
   refine ⟨by simp; exact h1, fun n c hc => ?_, fun n hn hc => ?_⟩
   ·cases n with
    | zero => exact ⟨y, rfl⟩
    | succ n => exact h2 n c hc
   ·cases n with
    | zero => simp [hget] at hc
    | succ n => exact h3 n (by simpa using hn) hc
theorem hget_merge (R : List Nat) : ∀ (H B : Hp AV) (i n : Nat), H.length <= B.length ->
 hget (mergeH R i H B) n = if n < H.length then (match hget H n with | none => none | some x => if sees R (i + n) = true then hget B n else some x) else hget B n
 | [], B, i, n, _ => by simp [mergeH]
 | x :: r, [], i, n, h => by simp at h
 | none :: r, y :: q, i, 0, _ => by simp [mergeH, hget]
 | some x :: r, y :: q, i, 0, _ => by
   simp only [mergeH, hget, Nat.add_zero, List.length_cons, Nat.zero_lt_succ, if_true]
   cases sees R i <;> simp
 | none :: r, y :: q, i, n + 1, h => by
   simp only [mergeH, hget]
   rw [hget_merge R r q (i + 1) n (by simpa using h)]
   simp only [Nat.add_assoc, Nat.add_comm 1 n, List.length_cons, Nat.add_lt_add_iff_right]
 | some x :: r, y :: q, i, n + 1, h => by
   simp only [mergeH, hget]
   rw [hget_merge R r q (i + 1) n (by simpa using h)]
   simp only [Nat.add_assoc, Nat.add_comm 1 n, List.length_cons, Nat.add_lt_add_iff_right]
theorem merge_len (R : List Nat) : ∀ (H B : Hp AV) (i : Nat), H.length <= B.length -> (mergeH R i H B).length = B.length
 | [], B, _, _ => by simp [mergeH]
 | x :: r, [], i, h => by simp at h
 | none :: r, y :: q, i, h => by simp [mergeH, merge_len R r q (i + 1) (by simpa using h)]
 | some x :: r, y :: q, i, h => by simp [mergeH, merge_len R r q (i + 1) (by simpa using h)]
def Does (P : Program) (g : Tgt) (vs : List Value) (w : World) (K : Value -> World -> Prop) : Prop :=
 match g with
 | .fn f => Calls P f vs.toArray w fun e w' => ∃ v, e = .returned v /\ K v w'
 | .op op => ∀ (ev : Operand -> Value) (o : Oper), o.op = op -> op.operands.toList.map ev = vs -> ∃ v w', ((execOp ev o).run P w = .ok (.value v) w' \/ ((execOp ev o).run P w = .ok .skip w' /\ v = undef)) /\ K v w'
theorem Does.mono {P : Program} {g : Tgt} {vs : List Value} {w : World} {K K' : Value -> World -> Prop} (h : Does P g vs w K) (hk : ∀ v w', K v w' -> K' v w') : Does P g vs w K' := by
 cases g with
 | fn f => exact Calls.mono h fun e w' ⟨v, he, hv⟩ => ⟨v, he, hk v w' hv⟩
 | op o => exact fun ev o' ho hv => let ⟨v, w', h1, h2⟩ := h ev o' ho hv; ⟨v, w', h1, hk v w' h2⟩
def CalOk (P : Program) (N : Env AV) (cal : Callee AV) : Prop :=
 ∀ (f : Tgt) (args : List SV) (H : Hp AV) (v : SV) (H' : Hp AV), (cal f args H).val = some (v, H') -> (∀ x ∈ args, ClV H x) -> ClHp N H ->
   ClV H' v /\ ClHp N H' /\ ∀ (ρ : Nm) (w : World), Own N ρ H w ->
    Does P f (args.map (SV.den ρ)) w fun e w' => ∃ ρ', e = v.den ρ' /\ Own N ρ' H' w' /\ Evo N H.length ρ H w ρ' H' w'
theorem callV_sound {cal : Callee AV} (hcal : CalOk P N cal) {gn : List Nat} {f : Tgt} {args : List SV} {H : Hp AV} {v : SV} {H' : Hp AV} (h : (callV cal gn f args H).val = some (v, H')) (hC : ClHp N H) :
 ClV H' v /\ ClHp N H' /\ (∀ n c, hget H n = some c -> ∃ c', hget H' n = some c') /\ ∀ (ρ : Nm) (w : World), Own N ρ H w ->
  Does P f (args.map (SV.den ρ)) w fun e w' => ∃ ρ', e = v.den ρ' /\ Own N ρ' H' w' /\ Evo N H.length ρ H w ρ' H' w' := by
 unfold callV at h
 generalize reach H 400 (namesVs args ++ gn) [] = R at h
 simp only at h
 split at h
 ·simp [T.val] at h
 ·rename_i hargs
  split at h
  ·simp [T.val] at h
  ·rename_i hheap
   obtain ⟨⟨v', B⟩, hr, h⟩ := T.bind_some h
   simp only at h
   split at h
   ·simp [T.val] at h
   ·rename_i hpers
    simp only [T.val, Option.some.injEq, Prod.mk.injEq] at h
    obtain ⟨rfl, rfl⟩ := h
    obtain ⟨hlen, hp1, hp2⟩ := pers_spec hpers
    rw [mask_len] at hlen
    have hA : ∀ n, hget (maskH R 0 H) n = if sees R n = true then hget H n else none := fun n => by rw [hget_mask, Nat.zero_add]
    have hM : ∀ n, hget (mergeH R 0 H B) n = if n < H.length then (match hget H n with | none => none | some x => if sees R n = true then hget B n else some x) else hget B n := fun n => by rw [hget_merge _ _ _ _ _ hlen, Nat.zero_add]
    have hCA : ClHp N (maskH R 0 H) := by
     exact ⟨clHs_iff.1 hheap, trivial⟩
    obtain ⟨hv, hCB, hcalls⟩ := hcal f args _ _ _ hr (clVs_iff.1 hargs) hCA
    have seen : ∀ n c, hget B n = some c -> n < H.length -> sees R n = true /\ ∃ x, hget H n = some x := by
     intro n c hc hn
     cases hAn : hget (maskH R 0 H) n with
     | none =>
       have := hp2 n (by rw [mask_len]; exact hn) hAn
       rw [this] at hc; cases hc
     | some x =>
       rw [hA] at hAn
       split at hAn
       ·rename_i hs; exact ⟨hs, x, hAn⟩
       ·cases hAn
    have toM : ∀ n c, hget B n = some c -> hget (mergeH R 0 H B) n = some c := by
     intro n c hc
     rw [hM]
     by_cases hn : n < H.length
     ·obtain ⟨hs, x, hx⟩ := seen n c hc hn
      rw [if_pos hn, hx]
      simp only [hs, if_true]
      exact hc
     ·rw [if_neg hn]; exact hc
    have persM : ∀ n c, hget H n = some c -> ∃ c', hget (mergeH R 0 H B) n = some c' := by
     intro n c hc
     have hn := hget_lt hc
     by_cases hs : sees R n = true
     ·obtain ⟨c', hc'⟩ := hp1 n c (by rw [hA, if_pos hs]; exact hc)
      exact ⟨c', toM n c' hc'⟩
     ·exact ⟨c, by rw [hM, if_pos hn, hc]; simp [hs]⟩
    have src : ∀ n c, hget (mergeH R 0 H B) n = some c -> (hget B n = some c /\ ¬ (n < H.length /\ ¬ sees R n = true)) \/ (hget H n = some c /\ n < H.length /\ ¬ sees R n = true) := by
     intro n c hc
     rw [hM] at hc
     split at hc
     ·rename_i hn
      split at hc
      ·cases hc
      ·rename_i x hx
       split at hc
       ·rename_i hs; exact .inl ⟨hc, fun h => h.2 hs⟩
       ·rename_i hs; cases hc; exact .inr ⟨hx, hn, hs⟩
     ·rename_i hn; exact .inl ⟨hc, fun h => hn h.1⟩
    have hCM : ClHp N (mergeH R 0 H B) := by
     refine ⟨fun n x hc => ?_, trivial⟩
     rcases src n _ hc with ⟨hb, _⟩ | ⟨hh, _⟩
     ·exact (hCB.1 n x hb).mono fun m c hm => ⟨c, toM m c hm⟩
     ·exact (hC.1 n x hh).mono persM
    refine ⟨hv.mono fun m c hm => ⟨c, toM m c hm⟩, hCM, persM, ?_⟩
    intro ρ w hO
    have hOA : Own N ρ (maskH R 0 H) w := by
     have sub : ∀ n c, hget (maskH R 0 H) n = some c -> hget H n = some c := fun n c hc => by
      rw [hA] at hc
      split at hc
      ·exact hc
      ·cases hc
     exact hO.sub ⟨fun n c hc => hO.q n c (sub n c hc), fun n m c d hnm hc hd => hO.dis n m c d hnm (sub n c hc) (sub m d hd), hO.glb⟩ fun n c k hc hk => ⟨n, c, sub n c hc, hk⟩
    have sub : ∀ n c, hget (maskH R 0 H) n = some c -> hget H n = some c /\ sees R n = true := fun n c hc => by
     rw [hA] at hc
     split at hc
     ·rename_i hs; exact ⟨hc, hs⟩
     ·cases hc
    refine (hcalls ρ w hOA).mono ?_
    rintro e w₁ ⟨ρ₁, rfl, hO₁, hE⟩
    let ρ' : Nm := ⟨fun n => if n < H.length /\ ¬ sees R n = true then ρ.L n else ρ₁.L n, fun n => if n < H.length /\ ¬ sees R n = true then ρ.S n else ρ₁.S n⟩
    have hB2 : ∀ n c, hget B n = some c -> ¬ (n < H.length /\ ¬ sees R n = true) := fun n c hc ⟨hn, hs⟩ => hs (seen n c hc hn).1
    have hB' : ∀ n c, hget B n = some c -> ρ'.L n = ρ₁.L n := fun n c hc => if_neg (hB2 n c hc)
    have hBS : ∀ n c, hget B n = some c -> ρ'.S n = ρ₁.S n := fun n c hc => if_neg (hB2 n c hc)
    have hH' : ∀ n c, hget H n = some c -> ρ'.L n = ρ.L n := by
     intro n c hc
     show (if _ then _ else _) = _
     by_cases hs : sees R n = true
     ·rw [if_neg (fun h => h.2 hs)]
      exact hE.agree n c (by rw [hA, if_pos hs]; exact hc)
     ·rw [if_pos ⟨hget_lt hc, hs⟩]
    have hHS : ∀ n c, hget H n = some c -> ¬ sees R n = true -> ρ'.S n = ρ.S n := fun n c hc hs => if_pos ⟨hget_lt hc, hs⟩
    refine ⟨ρ', by rw [SV.den_congr hv hB'], hO.up2 ⟨⟨?_, ?_, ?_⟩, ⟨persM, hH', ?_, ?_, ?_, ?_, hE.os, hE.tape, hE.output, hE.size⟩⟩⟩
    ·intro n c hc
     rcases src n c hc with ⟨hb, hno⟩ | ⟨hh, hn, hs⟩
     ·exact q_keep (hO₁.q n c hb) (hB' n c hb) (hBS n c hb) (denL_congr (hCB.1 n c hb) hB') (fun _ _ => rfl)
     ·refine q_keep (hO.q n c hh) (hH' n c hh) (hHS n c hh hs) (denL_congr (hC.1 n c hh) hH') (fun k hk => ?_)
      refine hE.frame k (hO.lt hh hk) fun m d hd hk' => ?_
      obtain ⟨hd', hs'⟩ := sub m d hd
      exact hO.dis m n d c (fun e => hs (e ▸ hs')) hd' hh k hk' hk
    ·intro n m c d hnm hc hd k hk hk'
     rcases src n c hc with ⟨hb, _⟩ | ⟨hh, hn, hs⟩
     ·rw [fp_congr (hB' n c hb) (hBS n c hb)] at hk
      rcases src m d hd with ⟨hb2, _⟩ | ⟨hh2, hn2, hs2⟩
      ·rw [fp_congr (hB' m d hb2) (hBS m d hb2)] at hk'
       exact hO₁.dis n m c d hnm hb hb2 k hk hk'
      ·rw [fp_congr (hH' m d hh2) (hHS m d hh2 hs2)] at hk'
       rcases hE.new n c k hb hk with h1 | ⟨q, x, hq, hkq⟩
       ·have := hO.lt hh2 hk'; omega
       ·obtain ⟨hq', hsq⟩ := sub q x hq
        exact hO.dis q m x d (fun e => hs2 (e ▸ hsq)) hq' hh2 k hkq hk'
     ·rw [fp_congr (hH' n c hh) (hHS n c hh hs)] at hk
      rcases src m d hd with ⟨hb2, _⟩ | ⟨hh2, hn2, hs2⟩
      ·rw [fp_congr (hB' m d hb2) (hBS m d hb2)] at hk'
       rcases hE.new m d k hb2 hk' with h1 | ⟨q, x, hq, hkq⟩
       ·have := hO.lt hh hk; omega
       ·obtain ⟨hq', hsq⟩ := sub q x hq
        exact hO.dis q n x c (fun e => hs (e ▸ hsq)) hq' hh k hkq hk
      ·rw [fp_congr (hH' m d hh2) (hHS m d hh2 hs2)] at hk'
       exact hO.dis n m c d hnm hh hh2 k hk hk'
    ·intro g hg
     show (if _ then _ else _ : Loc).b = _
     split
     ·exact hO.glb g hg
     ·exact hO₁.glb g hg
    ·intro n hn hh
     rw [hM, if_pos hn, hh]
    ·rw [merge_len _ _ _ _ hlen]; exact hlen
    ·intro k hk hno
     exact hE.frame k hk fun m d hd hk' => hno m d (sub m d hd).1 hk'
    ·intro n c k hc hk
     rcases src n c hc with ⟨hb, _⟩ | ⟨hh, _, hs⟩
     ·rw [fp_congr (hB' n c hb) (hBS n c hb)] at hk
      rcases hE.new n c k hb hk with h1 | ⟨q, x, hq, hkq⟩
      ·exact .inl h1
      ·exact .inr ⟨q, x, (sub q x hq).1, hkq⟩
     ·rw [fp_congr (hH' n c hh) (hHS n c hh hs)] at hk
      exact .inr ⟨n, c, hh, hk⟩
theorem Evo.weaken {L L' : Nat} {ρ ρ' : Nm} {H H' : Hp AV} {w w' : World} (h : Evo N L ρ H w ρ' H' w') (hL : L' <= L) : Evo N L' ρ H w ρ' H' w' :=
 ⟨h.pers, h.agree, fun n hn => h.non n (Nat.lt_of_lt_of_le hn hL), h.len, h.frame, h.new, h.os, h.tape, h.output, h.size⟩
theorem callV_len {cal : Callee AV} {G : List Nat} {f : Tgt} {args : List SV} {H : Hp AV} {v : SV} {H' : Hp AV} (h : (callV cal G f args H).val = some (v, H')) : H.length <= H'.length := by
 unfold callV at h
 simp only at h
 split at h
 ·simp [T.val] at h
 ·split at h
  ·simp [T.val] at h
  ·obtain ⟨⟨v', B⟩, hr, h⟩ := T.bind_some h
   simp only at h
   split at h
   ·simp [T.val] at h
   ·rename_i hpers
    simp only [T.val, Option.some.injEq, Prod.mk.injEq] at h
    obtain ⟨rfl, rfl⟩ := h
    obtain ⟨hlen, _⟩ := pers_spec hpers
    rw [mask_len] at hlen
    rw [merge_len _ _ _ _ hlen]; exact hlen
theorem stepOp_len {cal : Callee AV} {nm : Nat} {o : Oper} {s s' : St AV} (h : (stepOp N cal nm o s).val = some s') : s.H.length <= s'.H.length := by
 unfold stepOp at h
 split at h
 ·obtain ⟨⟨v, H'⟩, hr, h⟩ := T.bind_some h
  simp only [T.val, Option.some.injEq] at h
  subst h
  exact callV_len hr
 ·simp [T.val] at h
 ·obtain ⟨r, hr, h⟩ := T.bind_some h
  simp only [T.val, Option.some.injEq] at h
  subst h
  show s.H.length <= (updH s.H r.2).length
  cases r.2 with
  | none => exact Nat.le_refl _
  | some p => simp [updH, length_lset]
theorem svs_den (ρ : Nm) : ∀ cs : List Cell, (svs cs).map (SV.den ρ) = denL ρ cs
 | [] => rfl
 | c :: r => by rw [svs, List.map_cons, svs_den ρ r]; rfl
theorem stepOp_wp (hT : TblOk P N) {cal : Callee AV} (hcal : CalOk P N cal) {nt L nm : Nat} {o : Oper} {s s' : St AV} (h : (stepOp N cal nm o s).val = some s') (hcl : Closed N s) (hL : L <= nm) (hH : L <= s.H.length) (hd : ∀ d, o.dst = some d -> d < nt) :
 Closed N s' /\
 ∀ {ρ : Nm} {a : Act} {w : World}, At N nt ρ s a w -> ∀ {K : Act -> World -> Prop} {Q : Exit -> Act -> World -> Prop},
   (∀ a' w', Lands N nt L ρ s w a s' a' w' -> K a' w') -> o.wp P a w K Q := by
 unfold stepOp at h
 split at h
 ·-- a call
  rename_i g l hcal?
  obtain ⟨⟨v, H'⟩, hr, h⟩ := T.bind_some h
  simp only [T.val, Option.some.injEq] at h
  subst h
  obtain ⟨hv, hC', hp, hcalls⟩ := callV_sound (P := P) hcal hr (closed_hp hcl)
  refine ⟨⟨cl_put hcl.E hp hv, hC'.1⟩, ?_⟩
  intro ρ a w hat K Q hK
  have hev := evOk_of hat.em hcl hat.own.glb
  unfold callee? at hcal?
  split at hcal?
  ·-- an operation of more than one step
   simp only [Option.some.injEq] at hcal?
   split at hcal?
   ·rename_i l' h2
    cases hcal?
    have hargs := (evls_den hev h2).1
    obtain ⟨v', w', hrun, ρ', rfl, hO', hE'⟩ := hcalls ρ w hat.own a.eval o rfl hargs
    unfold Oper.wp
    rcases hrun with hrun | ⟨hrun, hu⟩
    ·rw [hrun]
     exact hK _ _ ⟨⟨ρ', hat.em.put hd hcl.E hE'.agree v, hO', hE'.weaken hH⟩, by cases o.dst <;> rfl⟩
    ·rw [hrun, Oper.upon_skip, <- hu]
     exact hK _ _ ⟨⟨ρ', hat.em.put hd hcl.E hE'.agree v, hO', hE'.weaken hH⟩, by cases o.dst <;> rfl⟩
   ·cases hcal?
  ·split at hcal?
   ·rename_i c hop
    split at hcal?
    ·rename_i f hf
     simp only [Option.some.injEq] at hcal?
     split at hcal?
     ·rename_i g' l' h1 h2
      split at hcal?
      ·rename_i fn hfn
       cases hcal?
       obtain ⟨k1, k2, k3⟩ := hT.fn g' fn hfn
       have hargs := (evls_den hev h2).1
       have hfv := hev.den _ _ h1
       have hr' : (execOp a.eval o).run P w = .ok (.enter g' (l.map (SV.den ρ)).toArray) w := by
        obtain ⟨dst, op, ty, pos, after, guard⟩ := o
        simp only at hop
        subst hop
        obtain ⟨cal', args, tys⟩ := c
        simp only at hf h2 hargs
        subst hf
        have ha : args.map a.eval = (l.map (SV.den ρ)).toArray := by
         rw [<- hargs, <- Array.toList_map, Array.toArray_toList]
        have hb : fn.body.isNone = false := by cases hbb : fn.body <;> simp_all
        have k3' : ¬ (fn.name == "runtime.NumGoroutine") = true := by rw [k3]; decide
        simp only [execOp, resolve, hfv, SV.den, V1.den, Cell.den, Deferred.ofValue, Sem.run_bind, Sem.run_pure, Result.andThen_ok, invoke, callFunc, program, Sem.run, k1, if_neg k3', hb, ha, Bool.false_eq_true, if_false, Array.append_empty, Array.empty_append]
       unfold Oper.wp
       rw [hr']
       show Calls P g' _ w _
       refine Calls.mono (hcalls ρ w hat.own) ?_
       rintro e w' ⟨_, rfl, ρ', rfl, hO', hE'⟩
       exact hK _ _ ⟨⟨ρ', hat.em.put hd hcl.E hE'.agree v, hO', hE'.weaken hH⟩, by cases o.dst <;> rfl⟩
      ·cases hcal?
     ·rename_i g' cs l' h1 h2
      split at hcal?
      ·rename_i fn hfn
       cases hcal?
       obtain ⟨k1, k2, k3⟩ := hT.fn g' fn hfn
       have hargs := (evls_den hev h2).1
       have hfv := hev.den _ _ h1
       have hr' : (execOp a.eval o).run P w = .ok (.enter g' ((l' ++ svs cs).map (SV.den ρ)).toArray) w := by
        obtain ⟨dst, op, ty, pos, after, guard⟩ := o
        simp only at hop
        subst hop
        obtain ⟨cal', args, tys⟩ := c
        simp only at hf h2 hargs
        subst hf
        have ha : args.map a.eval = (l'.map (SV.den ρ)).toArray := by
         rw [<- hargs, <- Array.toList_map, Array.toArray_toList]
        have hb : fn.body.isNone = false := by cases hbb : fn.body <;> simp_all
        have k3' : ¬ (fn.name == "runtime.NumGoroutine") = true := by rw [k3]; decide
        have hsv : (svs cs).map (SV.den ρ) = denL ρ cs := svs_den ρ cs
        simp only [execOp, resolve, hfv, SV.den, Deferred.ofValue, Sem.run_bind, Sem.run_pure, Result.andThen_ok, invoke, callFunc, program, Sem.run, k1, if_neg k3', hb, ha, Bool.false_eq_true, if_false, List.map_append, hsv, List.append_toArray, List.nil_append]
       unfold Oper.wp
       rw [hr']
       show Calls P g' _ w _
       refine Calls.mono (hcalls ρ w hat.own) ?_
       rintro e w' ⟨_, rfl, ρ', rfl, hO', hE'⟩
       exact hK _ _ ⟨⟨ρ', hat.em.put hd hcl.E hE'.agree v, hO', hE'.weaken hH⟩, by cases o.dst <;> rfl⟩
      ·cases hcal?
     ·cases hcal?
    ·rename_i r m hf
     simp only [Option.some.injEq] at hcal?
     split at hcal?
     ·rename_i tr xr l' h1 h2
      split at hcal?
      ·rename_i g' hm
       split at hcal?
       ·rename_i fn hfn
        cases hcal?
        obtain ⟨k1, k2, k3⟩ := hT.fn g' fn hfn
        have hargs := (evls_den hev h2).1
        have hfv := hev.den _ _ h1
        have hr' : (execOp a.eval o).run P w = .ok (.enter g' ((SV.v (.c xr) :: l').map (SV.den ρ)).toArray) w := by
         obtain ⟨dst, op, ty, pos, after, guard⟩ := o
         simp only at hop
         subst hop
         obtain ⟨cal', args, tys⟩ := c
         simp only at hf h2 hargs
         subst hf
         have ha : args.map a.eval = (l'.map (SV.den ρ)).toArray := by
          rw [<- hargs, <- Array.toList_map, Array.toArray_toList]
         have hb : fn.body.isNone = false := by cases hbb : fn.body <;> simp_all
         have k3' : ¬ (fn.name == "runtime.NumGoroutine") = true := by rw [k3]; decide
         have hmt := hT.mt tr m g' hm (xr.den ρ) w
         have hex : (#[Value.iface tr (xr.den ρ)] ++ (l'.map (SV.den ρ)).toArray).extract 1 (#[Value.iface tr (xr.den ρ)] ++ (l'.map (SV.den ρ)).toArray).size = (l'.map (SV.den ρ)).toArray := by
          apply Array.ext'
          rw [Array.toList_extract]
          simp [List.extract]
          exact List.take_of_length_le (by simp)
         have h0 : (#[Value.iface tr (xr.den ρ)] ++ (l'.map (SV.den ρ)).toArray)[0]? = some (Value.iface tr (xr.den ρ)) := by simp
         simp only [execOp, resolve, hfv, SV.den, V1.den, Cell.den, Sem.run_bind, Sem.run_pure, Result.andThen_ok, invoke, ha, h0, hex, callMethod, program, Sem.run, hmt, callFunc, k1, if_neg k3', hb, Bool.false_eq_true, if_false]
         simp [SV.den, V1.den]
        unfold Oper.wp
        rw [hr']
        show Calls P g' _ w _
        refine Calls.mono (hcalls ρ w hat.own) ?_
        rintro e w' ⟨_, rfl, ρ', rfl, hO', hE'⟩
        exact hK _ _ ⟨⟨ρ', hat.em.put hd hcl.E hE'.agree v, hO', hE'.weaken hH⟩, by cases o.dst <;> rfl⟩
       ·cases hcal?
      ·cases hcal?
     ·cases hcal?
    ·cases hcal?
   ·cases hcal?
 ·simp [T.val] at h
 ·obtain ⟨r, hr, h⟩ := T.bind_some h
  simp only [T.val, Option.some.injEq] at h
  subst h
  exact light_wp hT hr hcl hL hd
end Go.Sx

namespace Go.Sx
variable {AV : Type} {P : Program} {N : Env AV}
theorem wanted_eq {ρ : Nm} {nt : Nat} {E : Ev} {a : Act} (hE : EM ρ nt E a) (ops : Array Oper) (o : Oper) {b k : Bool} (h : wantedS ops.toList o E = some (b, k)) : Region.wanted o (yielded ops a.tmps) = b := by
 unfold wantedS at h
 unfold Region.wanted
 cases hg : o.guard with
 | none => simp only [hg, Option.some.injEq, Prod.mk.injEq] at h; exact h.1
 | some p =>
   obtain ⟨j, want⟩ := p
   simp only [hg, nth_eq, Array.getElem?_toList] at h
   simp only [yielded]
   cases hj : ops[j]? with
   | none => simp only [hj, Option.some.injEq, Prod.mk.injEq] at h; simp [<- h.1]
   | some oj =>
     simp only [hj] at h
     simp only [Option.bind_some]
     cases hd : oj.dst with
     | none => simp only [hd, Option.some.injEq, Prod.mk.injEq] at h; simp [<- h.1]
     | some d =>
       simp only [hd] at h
       simp only [Option.bind_some]
       cases hl : look E d with
       | unk => simp [hl] at h
       | tup l =>
         have hget := hE.get d (by rw [hl]; simp)
         rw [hl] at hget h
         simp only [Option.some.injEq, Prod.mk.injEq] at h
         cases ht : a.tmps[d]? with
         | none => simp [<- h.1]
         | some v =>
           have : a.tmps.getD d undef = v := by simp [ht]
           rw [this] at hget
           subst hget
           simp [SV.den, <- h.1]
       | clo f l =>
         have hget := hE.get d (by rw [hl]; simp)
         rw [hl] at hget h
         simp only [Option.some.injEq, Prod.mk.injEq] at h
         cases ht : a.tmps[d]? with
         | none => simp [<- h.1]
         | some v =>
           have : a.tmps.getD d undef = v := by simp [ht]
           rw [this] at hget
           subst hget
           simp [SV.den, <- h.1]
       | v x =>
         have hget := hE.get d (by rw [hl]; simp)
         rw [hl] at hget h
         cases ht : a.tmps[d]? with
         | none =>
           have : a.tmps.getD d undef = undef := by simp [ht]
           rw [this] at hget
           cases x with
           | agg l => simp [SV.den, V1.den, undef] at hget
           | c x =>
             cases x with
             | vs n o len es kn =>
               simp only [SV.den, V1.den, Cell.den, undef, vsDen] at hget
               split at hget <;> cases hget
             | sf n o es z f p =>
               simp only [SV.den, V1.den, Cell.den, undef, vsDen] at hget
               split at hget <;> cases hget
             | _ => simp [SV.den, V1.den, Cell.den, undef] at hget
         | some v =>
           have : a.tmps.getD d undef = v := by simp [ht]
           rw [this] at hget
           subst hget
           cases x with
           | agg l => simp only [Option.some.injEq, Prod.mk.injEq] at h; simp [SV.den, V1.den, <- h.1]
           | c x =>
             cases x with
             | vs n o len es kn =>
               simp [boolC] at h
               by_cases hz : len = 0 /\ (ρ.L n).c = 0 <;> simp [SV.den, V1.den, Cell.den, vsDen, hz, <- h.1]
             | sf n o es z f p =>
               simp [boolC] at h
               by_cases hz : (f.ap (ρ.L n)).c = 0 <;> simp [SV.den, V1.den, Cell.den, vsDen, hz, <- h.1]
             | _ => simp [boolC] at h <;> simp [SV.den, V1.den, Cell.den, <- h.1]
def step1v (N : Env AV) (cal : Callee AV) (base : Nat) (all : List Oper) (i : Nat) (o : Oper) (s : St AV) : Option (St AV × Ent) :=
 match wantedS all o s.E with
 | none => none
 | some (b, _) => if b = true then ((stepOp N cal (nmOf all base i) o s).val.map fun s' => (s', entOf N (nmOf all base i) (evl N.G s.H s.E) s.H s'.H o.op)) else some ({ s with E := putE s.E o.dst undefV }, .pure)
theorem step1_val {cal : Callee AV} {base : Nat} {all : List Oper} {i : Nat} {o : Oper} {s : St AV} : (step1 N cal base all i o s).val = step1v N cal base all i o s := by
 unfold step1 step1v
 cases wantedS all o s.E with
 | none => rfl
 | some p =>
   obtain ⟨b, k⟩ := p
   cases k <;> cases b <;> simp [T.val, T.val_map]
theorem nmOf_ge : ∀ (all : List Oper) (b i : Nat), b <= nmOf all b i
 | [], b, _ => Nat.le_refl _
 | _ :: _, b, 0 => Nat.le_refl _
 | o :: r, b, i + 1 => by
   simp only [nmOf]
   split
   ·exact Nat.le_trans (Nat.le_succ b) (nmOf_ge r (b + 1) i)
   ·exact nmOf_ge r b i
theorem step1_wp (hT : TblOk P N) {cal : Callee AV} (hcal : CalOk P N cal) {nt L base i : Nat} {ops : Array Oper} {o : Oper} {s s' : St AV} {en : Ent} (h : (step1 N cal base ops.toList i o s).val = some (s', en)) (hcl : Closed N s) (hL : L <= base) (hH : L <= s.H.length) (hd : ∀ d, o.dst = some d -> d < nt) :
 Closed N s' /\
 ∀ {ρ : Nm} {a : Act} {w : World}, At N nt ρ s a w -> ∀ {K : Act -> World -> Prop} {Q : Exit -> Act -> World -> Prop},
   (∀ a' w', Lands N nt L ρ s w a s' a' w' -> K a' w') -> if Region.wanted o (yielded ops a.tmps) = true then o.wp P a w K Q else K (a.put o.dst undef) w := by
 rw [step1_val] at h
 unfold step1v at h
 split at h
 ·cases h
 ·rename_i b k hw
  split at h
  ·rename_i hb
   obtain ⟨s1, hs, he⟩ := Option.map_eq_some_iff.1 h
   cases he
   obtain ⟨h1, h2⟩ := stepOp_wp (P := P) (nt := nt) hT hcal hs hcl (Nat.le_trans hL (nmOf_ge _ _ _)) hH hd
   refine ⟨h1, fun {ρ a w} hat K Q hK => ?_⟩
   rw [wanted_eq hat.em ops o hw, if_pos hb]
   exact h2 hat hK
  ·rename_i hb
   cases h
   refine ⟨⟨cl_put hcl.E (fun n c h => ⟨c, h⟩) (undef_cl _), hcl.H⟩, fun {ρ a w} hat K Q hK => ?_⟩
   rw [wanted_eq hat.em ops o hw, if_neg hb]
   exact hK _ _ ⟨⟨ρ, hat.em.put hd hcl.E (fun _ _ _ => rfl) undefV, hat.own, Evo.refl _ _ _ _⟩, by cases o.dst <;> rfl⟩
theorem Lands.trans {nt L : Nat} {ρ : Nm} {s s₁ s₂ : St AV} {w w₁ w₂ : World} {a a₁ a₂ : Act} (h : ∀ ρ₁, EM ρ₁ nt s₁.E a₁ -> Own N ρ₁ s₁.H w₁ -> Evo N L ρ s.H w ρ₁ s₁.H w₁ -> Lands N nt L ρ₁ s₁ w₁ a₁ s₂ a₂ w₂) (h₁ : Lands N nt L ρ s w a s₁ a₁ w₁) : Lands N nt L ρ s w a s₂ a₂ w₂ := by
 obtain ⟨⟨ρ₁, e1, o1, v1⟩, d1⟩ := h₁
 obtain ⟨⟨ρ₂, e2, o2, v2⟩, d2⟩ := h ρ₁ e1 o1 v1
 exact ⟨⟨ρ₂, e2, o2, v1.trans v2⟩, d2.trans d1⟩
theorem step1_len {cal : Callee AV} {base : Nat} {all : List Oper} {i : Nat} {o : Oper} {s : St AV} {r : St AV × Ent} (h : (step1 N cal base all i o s).val = some r) : s.H.length <= r.1.H.length := by
 rw [step1_val] at h
 unfold step1v at h
 split at h
 ·cases h
 ·split at h
  ·obtain ⟨s1, hs, he⟩ := Option.map_eq_some_iff.1 h
   cases he
   exact stepOp_len hs
  ·cases h; exact Nat.le_refl _
theorem stepOps_wp (hT : TblOk P N) {cal : Callee AV} (hcal : CalOk P N cal) {nt L base : Nat} (ops : Array Oper) (hL : L <= base) :
 ∀ (r : List Oper) (i : Nat) (s s' : St AV), (stepOps N cal base ops.toList i r s).val = some s' -> Closed N s -> L <= s.H.length -> (∀ o ∈ r, ∀ d, o.dst = some d -> d < nt) ->
   Closed N s' /\ ∀ {ρ : Nm} {a : Act} {w : World}, At N nt ρ s a w -> ∀ {Q : Exit -> Act -> World -> Prop}, (∀ a' w', Lands N nt L ρ s w a s' a' w' -> Q .normal a' w') -> wpList P ops Q r a w
 | [], i, s, s', h, hcl, _, _ => by
   simp only [stepOps, T.val, Option.some.injEq] at h
   subst h
   exact ⟨hcl, fun {ρ a w} hat Q hQ => hQ _ _ ⟨⟨ρ, hat.em, hat.own, Evo.refl _ _ _ _⟩, rfl⟩⟩
 | o :: r, i, s, s', h, hcl, hH, hd => by
   simp only [stepOps] at h
   obtain ⟨⟨s₁, en⟩, h1, h2⟩ := T.bind_some h
   obtain ⟨c1, k1⟩ := step1_wp (P := P) hT hcal h1 hcl hL hH (hd o (by simp))
   have hlen : L <= s₁.H.length := Nat.le_trans hH (step1_len h1)
   obtain ⟨c2, k2⟩ := stepOps_wp hT hcal ops hL r (i + 1) s₁ s' h2 c1 hlen (fun o' ho => hd o' (by simp [ho]))
   refine ⟨c2, fun {ρ a w} hat Q hQ => ?_⟩
   unfold wpList
   have := k1 hat (K := wpList P ops Q r) (Q := Q) (fun a₁ w₁ h₁ => by
    obtain ⟨⟨ρ₁, e1, o1, v1⟩, d1⟩ := h₁
    refine k2 ⟨e1, o1⟩ fun a₂ w₂ h₂ => hQ a₂ w₂ ?_
    obtain ⟨⟨ρ₂, e2, o2, v2⟩, d2⟩ := h₂
    exact ⟨⟨ρ₂, e2, o2, v1.trans v2⟩, d2.trans d1⟩)
   split
   ·rename_i hw; rw [if_pos hw] at this; exact .inl this
   ·rename_i hw; rw [if_neg hw] at this; exact this
end Go.Sx

namespace Go.Sx
variable {AV : Type} {N : Env AV}
def eff (N : Env AV) (cal : Callee AV) (W : Bool) (nm : Nat) (o : Op) (ev : Operand -> Option SV) (H : Hp AV) : Option (SV × Hp AV × Ent) :=
 match W with
 | false => some (undefV, H, .pure)
 | true => match callee? N ev o with
   | some (some (g, l)) => (callV cal (gnames N g) g l H).val.map fun r => (r.1, r.2, entOf N nm ev H r.2 o)
   | some none => none
   | none => (light N nm ev H o).val.map fun r => (r.1, updH H r.2, entOf N nm ev H (updH H r.2) o)
theorem step1_eff {cal : Callee AV} {base : Nat} {all : List Oper} {i : Nat} {o : Oper} {s : St AV} :
 (step1 N cal base all i o s).val = (wantedS all o s.E).bind fun p => (eff N cal p.1 (nmOf all base i) o.op (evl N.G s.H s.E) s.H).map fun r => ({ E := putE s.E o.dst r.1, H := r.2.1 }, r.2.2) := by
 rw [step1_val]
 unfold step1v eff stepOp
 cases wantedS all o s.E with
 | none => rfl
 | some p =>
   obtain ⟨b, k⟩ := p
   simp only [Option.bind_some]
   cases b with
   | false => simp
   | true =>
     simp only [if_true]
     split
     ·rename_i g l h
      simp only [h]
      rw [T.val_bind]
      cases (callV cal (gnames N g) g l s.H).val with
      | none => rfl
      | some r => rfl
     ·rename_i h; simp [h, T.val]
     ·rename_i h
      simp only [h]
      rw [T.val_bind]
      cases (light N (nmOf all base i) (evl N.G s.H s.E) s.H o.op).val with
      | none => rfl
      | some r => rfl
theorem evlP_congr {ev ev' : Operand -> Option SV} : ∀ l : List (Nat × Operand), (∀ p ∈ l, ev p.2 = ev' p.2) -> evlP ev l = evlP ev' l
 | [], _ => rfl
 | (i, x) :: l, hl => by
   simp only [evlP]
   rw [hl (i, x) (by simp), evlP_congr l (fun q hq => hl q (by simp [hq]))]
theorem lightArr_val {nm : Nat} {H : Hp AV} {arr : Option Arr} {r : SV × Option (Nat × Chunk AV)} (h : (lightArr N nm H arr).val = some r) : hget H nm = none /\ nm < H.length /\ (∃ c, r.2 = some (nm, c)) /\
 ∀ H2 : Hp AV, hget H2 nm = none -> nm < H2.length -> (lightArr N nm H2 arr).val = some r := by
 unfold lightArr at h
 split at h
 ·split at h
  ·rename_i h2 h3 h4
   simp only [T.val, Option.some.injEq] at h
   subst h
   refine ⟨h2, (blt_iff _ _).1 h3, ⟨_, rfl⟩, fun H2 e2 hl => ?_⟩
   have e3 := (blt_iff _ _).2 hl
   simp only [lightArr, e2, e3, h4, T.val]
  ·simp [T.val] at h
 ·simp [T.val] at h
theorem lightMk_val {nm : Nat} {H : Hp AV} {arr : Option Arr} {z : Option (Bool × AV × Nat × Nat)} {r : SV × Option (Nat × Chunk AV)} (h : (lightMk N nm H arr z).val = some r) : hget H nm = none /\ nm < H.length /\ (∃ c, r.2 = some (nm, c)) /\
 ∀ H2 : Hp AV, hget H2 nm = none -> nm < H2.length -> (lightMk N nm H2 arr z).val = some r := by
 unfold lightMk at h ⊢
 split at h
 ·obtain ⟨h1, h2, h3, h4⟩ := lightArr_val h
  exact ⟨h1, h2, h3, h4⟩
 ·unfold lightAbs at h
  split at h
  ·split at h
   ·rename_i h2 h3 h4
    have hb := h
    obtain ⟨rfl, h⟩ := need_val h
    simp only [T.val, Option.some.injEq] at h
    subst h
    refine ⟨h2, (blt_iff _ _).1 h3, ⟨_, rfl⟩, fun H2 e2 hl => ?_⟩
    have e3 := (blt_iff _ _).2 hl
    simp only [lightAbs, e2, e3, h4, T.val]
   ·simp [T.val] at h
  ·simp [T.val] at h
theorem evls_congr {ev ev' : Operand -> Option SV} : ∀ (l : List Operand), (∀ x ∈ l, ev x = ev' x) -> evls ev l = evls ev' l
 | [], _ => rfl
 | x :: r, h => by simp only [evls]; rw [h x (by simp), evls_congr r (fun y hy => h y (by simp [hy]))]
theorem pureOp_congr {ev ev' : Operand -> Option SV} (o : Op) (h : ∀ x ∈ o.operands, ev x = ev' x) : pureOp N ev o = pureOp N ev' o := by
 cases o <;> simp only [pureOp] <;> simp only [Op.operands] at h
 case move x => rw [h x (by simp)]
 case assign x => rw [h x (by simp)]
 case pick c a b => rw [h c (by simp), h a (by simp), h b (by simp)]
 case build t ps =>
  have : ∀ l : List (Nat × Operand), (∀ p ∈ l, ev p.2 = ev' p.2) -> evlP ev l = evlP ev' l := by
   intro l
   induction l with
   | nil => intro _; rfl
   | cons p l ih =>
     intro hl
     obtain ⟨i, x⟩ := p
     simp only [evlP]
     rw [hl (i, x) (by simp), ih (fun q hq => hl q (by simp [hq]))]
  rw [this ps.toList (fun p hp => h p.2 (by simp; exact ⟨p.1, Array.mem_toList_iff.1 hp⟩))]
 case nilCheck x => rw [h x (by simp)]
 case fieldAddr t x i => rw [h x (by simp)]
 case field t x i => rw [h x (by simp)]
 case binOp op t x y t' => rw [h x (by simp), h y (by simp)]
 case unOp op t x => cases op <;> simp only []; rw [h x (by simp)]
 case extract x i => rw [h x (by simp)]
 case makeFunc fn first captured => rw [evls_congr captured.toList (fun x hx => h x (by simp only [Array.mem_append]; exact .inr (Array.mem_toList_iff.1 hx)))]
 case makeInterface t x => rw [h x (by simp)]
 case indexAddr t x i => rw [h x (by simp), h i (by simp)]
 case index t x i => rw [h x (by simp), h i (by simp)]
 case convert a b x => rw [h x (by simp)]
 case call c =>
  split
  ·split
   ·rename_i x t hx ht
    rw [h x (by simp only [Call.operands, Array.mem_append]; exact .inr (by rw [<- Array.mem_toList_iff, hx]; simp))]
   ·rfl
  ·rfl
theorem partS_congr {ev ev' : Operand -> Option SV} (o : Op) (h : ∀ x ∈ o.operands, ev x = ev' x) : partS ev o = partS ev' o := by
 cases o <;> try rfl
 rename_i t x lo hi mx
 have hx : ev x = ev' x := h x (by simp [Op.operands])
 have hb : ∀ (y : Option Operand) (d : Nat), (∀ z, y = some z -> ev z = ev' z) -> bndO ev d y = bndO ev' d y := fun y d hy => by
  cases y with
  | none => rfl
  | some z => simp only [bndO]; rw [hy z rfl]
 simp only [partS]
 rw [hx]
 split
 ·rfl
 ·split
  ·rw [hb lo 0 (fun z hz => h z (by simp [Op.operands, hz])), hb hi _ (fun z hz => h z (by simp [Op.operands, hz]))]
  ·rfl
theorem heavyE_congr {ev ev' : Operand -> Option SV} (o : Op) (h : ∀ x ∈ o.operands, ev x = ev' x) : heavyE ev o = heavyE ev' o := by
 unfold heavyE
 split
 ·rw [partS_congr o h]
 ·rename_i hh
  clear hh
  cases o <;> simp only []
  case convert a b x => simp only [Op.operands] at h; rw [h x (by simp)]
  case call c =>
   simp only [Op.operands, Call.operands] at h
   split
   ·split
    ·rename_i x hx
     rw [h x (by simp only [Array.mem_append]; exact .inr (by rw [<- Array.mem_toList_iff, hx]; simp))]
    ·rfl
   ·rfl
theorem callee_congr {ev ev' : Operand -> Option SV} (o : Op) (h : ∀ x ∈ o.operands, ev x = ev' x) : callee? N ev o = callee? N ev' o := by
 unfold callee?
 rw [heavyE_congr o h]
 split
 ·rw [evls_congr o.operands.toList (fun x hx => h x (Array.mem_toList_iff.1 hx))]
 ·rename_i hh
  clear hh
  cases o <;> simp only []
  case call c =>
   simp only [Op.operands, Call.operands] at h
   split
   ·rename_i f hf
    rw [h f (by rw [hf]; simp), evls_congr c.args.toList (fun x hx => h x (by simp only [Array.mem_append]; exact .inr (Array.mem_toList_iff.1 hx)))]
   ·rename_i f m hf
    rw [h f (by rw [hf]; simp), evls_congr c.args.toList (fun x hx => h x (by simp only [Array.mem_append]; exact .inr (Array.mem_toList_iff.1 hx)))]
   ·rfl
theorem light_congr {ev ev' : Operand -> Option SV} (nm : Nat) (H : Hp AV) (o : Op) (h : ∀ x ∈ o.operands, ev x = ev' x) : light N nm ev H o = light N nm ev' H o := by
 unfold light
 rw [pureOp_congr o h]
 split
 ·rfl
 ·rename_i hpo
  clear hpo
  have hps := partS_congr o h
  cases o <;> simp only [] <;> simp only [Op.operands] at h
  case slice t x lo hi mx => rw [hps]
  case box t x => rw [h x (by simp)]
  case load t x => rw [h x (by simp)]
  case store t x y => rw [h x (by simp), h y (by simp)]
  case makeSlice t x y => rw [h x (by simp), h y (by simp)]
  case buildSlice t len parts => rw [evlP_congr parts.toList (fun p hp => h p.2 (by simp; exact ⟨p.1, Array.mem_toList_iff.1 hp⟩))]
theorem ent_congr {ev ev' : Operand -> Option SV} (nm : Nat) (H H' : Hp AV) (o : Op) (h : ∀ x ∈ o.operands, ev x = ev' x) : entOf N nm ev H H' o = entOf N nm ev' H H' o := by
 unfold entOf
 rw [callee_congr o h]
 split
 ·rfl
 ·rfl
 ·rename_i hpo
  clear hpo
  have hps := partS_congr o h
  cases o <;> simp only [] <;> simp only [Op.operands] at h
  case slice t x lo hi mx => rw [hps]
  case load t x => rw [h x (by simp)]
  case store t x y => rw [h x (by simp)]
theorem eff_congr {cal : Callee AV} {W : Bool} {nm : Nat} {o : Op} {ev ev' : Operand -> Option SV} {H : Hp AV} (h : ∀ x ∈ o.operands, ev x = ev' x) : eff N cal W nm o ev H = eff N cal W nm o ev' H := by
 unfold eff
 rw [callee_congr o h, light_congr nm H o h]
 simp only [ent_congr nm H _ o h]
def isCall : Ent -> Bool
 | .call _ _ => true
 | _ => false
theorem eff_light {cal : Callee AV} {W : Bool} {nm : Nat} {o : Op} {ev : Operand -> Option SV} {H H' : Hp AV} {v : SV} {en : Ent} (h : eff N cal W nm o ev H = some (v, H', en)) (hn : isCall en = false) :
 ∃ u, H' = updH H u /\ (u = none \/ ∃ n c, u = some (n, c) /\ en = .wr n /\ n < H.length) /\
   (∀ n, en = .wr n -> n < H.length /\ (makes o = true) /\ n = nm \/ ∃ c, hget H n = some c) /\
   ∀ H2 : Hp AV, (∀ n, (en = .rd n \/ en = .wr n) -> hget H2 n = hget H n) -> ((makes o = true) -> nm < H2.length) -> eff N cal W nm o ev H2 = some (v, updH H2 u, en) := by
 unfold eff at h
 cases W with
 | false =>
   simp only [Option.some.injEq, Prod.mk.injEq] at h
   obtain ⟨rfl, rfl, rfl⟩ := h
   exact ⟨none, rfl, .inl rfl, (fun n h => by cases h), fun H2 _ _ => rfl⟩
 | true =>
   simp only at h
   split at h
   ·rename_i g l hc
    obtain ⟨r, _, hr⟩ := Option.map_eq_some_iff.1 h
    cases hr
    simp [entOf, hc, isCall] at hn
   ·cases h
   ·rename_i hc
    obtain ⟨⟨v', u⟩, hl, hr⟩ := Option.map_eq_some_iff.1 h
    simp only [Prod.mk.injEq] at hr
    obtain ⟨rfl, rfl, hen⟩ := hr
    have hent : ∀ H2 H3 : Hp AV, entOf N nm ev H2 H3 o = en := fun H2 H3 => by rw [<- hen]; simp only [entOf, hc]
    have done : ∀ H2 : Hp AV, (light N nm ev H2 o).val = some (v', u) -> eff N cal true nm o ev H2 = some (v', updH H2 u, en) := fun H2 h2 => by
     unfold eff
     simp only [hc, h2, Option.map_some, hent H2]
    refine ⟨u, rfl, ?_⟩
    unfold light at hl
    split at hl
    ·-- looks at no memory
     rename_i t ht
     rw [T.val_map] at hl
     obtain ⟨v0, hv0, he⟩ := Option.map_eq_some_iff.1 hl
     cases he
     have hno : ∀ n, en ≠ .wr n := by
      intro n hw
      rw [<- hen] at hw
      simp only [entOf, hc] at hw
      cases o <;> simp [pureOp] at ht hw
     refine ⟨.inl rfl, (fun n h => absurd h (hno n)), fun H2 _ _ => done H2 ?_⟩
     unfold light
     simp only [ht, T.val_map, hv0, Option.map_some]
    ·rename_i hpo
     split at hl
     ·-- alloc
      rename_i t
      split at hl
      ·rename_i kd sz z fl h1 h2 h3 h4
       simp only [T.val, Option.some.injEq, Prod.mk.injEq] at hl
       obtain ⟨rfl, rfl⟩ := hl
       have hwr : en = .wr nm := by rw [<- hen]; simp only [entOf, hc]
       have hlt := (blt_iff _ _).1 h3
       refine ⟨.inr ⟨_, _, rfl, hwr, hlt⟩, (fun n h => .inl ?_), fun H2 hH2 hlen => done H2 ?_⟩
       ·rw [hwr] at h; cases h; exact ⟨hlt, rfl, rfl⟩
       ·have e2 := hH2 nm (.inr hwr)
        rw [h2] at e2
        have e3 := (blt_iff _ _).2 (hlen rfl)
        unfold light
        simp only [hpo, h1, e2, e3, h4, T.val]
      ·simp [T.val] at hl
     ·-- box
      rename_i t x
      split at hl
      ·rename_i b h1 h2 h3 h4
       simp only [T.val, Option.some.injEq, Prod.mk.injEq] at hl
       obtain ⟨rfl, rfl⟩ := hl
       have hwr : en = .wr nm := by rw [<- hen]; simp only [entOf, hc]
       have hlt := (blt_iff _ _).1 h3
       refine ⟨.inr ⟨_, _, rfl, hwr, hlt⟩, (fun n h => .inl ?_), fun H2 hH2 hlen => done H2 ?_⟩
       ·rw [hwr] at h; cases h; exact ⟨hlt, rfl, rfl⟩
       ·have e2 := hH2 nm (.inr hwr)
        rw [h2] at e2
        have e3 := (blt_iff _ _).2 (hlen rfl)
        unfold light
        simp only [hpo, h1, e2, e3, h4, T.val]
      ·simp [T.val] at hl
     ·-- load
      rename_i t x
      split at hl
      ·rename_i p hp
       rw [T.val_map] at hl
       obtain ⟨v0, hv0, he⟩ := Option.map_eq_some_iff.1 hl
       cases he
       have hno : ∀ n, en ≠ .wr n := by
        intro n hw
        rw [<- hen] at hw
        simp only [entOf, hc, hp] at hw
        split at hw <;> cases hw
       refine ⟨.inl rfl, (fun n h => absurd h (hno n)), fun H2 hH2 _ => done H2 ?_⟩
       have e2 : loadV N t H2 p = loadV N t H p := by
        unfold loadV
        split
        ·rename_i n off
         have : en = .rd n := by rw [<- hen]; simp only [entOf, hc, hp]
         rw [hH2 n (.inl this)]
        ·rename_i n idx es off
         have : en = .rd n := by rw [<- hen]; simp only [entOf, hc, hp]
         rw [hH2 n (.inl this)]
        ·rfl
       unfold light
       simp only [hpo, hp, T.val_map, e2, hv0, Option.map_some]
      ·simp [T.val] at hl
     ·-- store
      rename_i t x y
      split at hl
      ·rename_i n off b hx hy
       split at hl
       ·rename_i l ty i h3 h4
        split at hl
        ·rename_i h5
         split at hl
         ·rename_i l' h6
          simp only [T.val, Option.some.injEq, Prod.mk.injEq] at hl
          obtain ⟨rfl, rfl⟩ := hl
          have hwr : en = .wr n := by rw [<- hen]; simp only [entOf, hc, hx]
          refine ⟨.inr ⟨_, _, rfl, hwr, hget_lt h3⟩, (fun m h => .inr ?_), fun H2 hH2 _ => done H2 ?_⟩
          ·rw [hwr] at h; cases h; exact ⟨_, h3⟩
          ·have e2 := hH2 n (.inr hwr)
           rw [h3] at e2
           unfold light
           simp only [hpo, hx, hy, e2, h4, h5, h6, T.val]
         ·simp [T.val] at hl
        ·simp [T.val] at hl
       ·simp [T.val] at hl
      ·rename_i n idx es off b hx hy
       have hwr : en = .wr n := by rw [<- hen]; simp only [entOf, hc, hx]
       split at hl
       ·rename_i l ve ty i h3 h4
        split at hl
        ·rename_i h5
         split at hl
         ·simp [T.val] at hl
         rename_i h50
         split at hl
         ·rename_i l' h6
          simp only [T.val, Option.some.injEq, Prod.mk.injEq] at hl
          obtain ⟨rfl, rfl⟩ := hl
          refine ⟨.inr ⟨_, _, rfl, hwr, hget_lt h3⟩, (fun m h => .inr ?_), fun H2 hH2 _ => done H2 ?_⟩
          ·rw [hwr] at h; cases h; exact ⟨_, h3⟩
          ·have e2 := hH2 n (.inr hwr)
           rw [h3] at e2
           unfold light
           simp only [hpo, hx, hy, e2, h4, h5, h50, h6, T.val]
         ·simp [T.val] at hl
        ·simp [T.val] at hl
       ·rename_i a i h3 h4
        split at hl
        ·rename_i h5
         split at hl
         ·rename_i bb a' h6
          obtain ⟨rfl, hl⟩ := need_val hl
          simp only [T.val, Option.some.injEq, Prod.mk.injEq] at hl
          obtain ⟨rfl, rfl⟩ := hl
          refine ⟨.inr ⟨_, _, rfl, hwr, hget_lt h3⟩, (fun m h => .inr ?_), fun H2 hH2 _ => done H2 ?_⟩
          ·rw [hwr] at h; cases h; exact ⟨_, h3⟩
          ·have e2 := hH2 n (.inr hwr)
           rw [h3] at e2
           unfold light
           simp only [hpo, hx, hy, e2, h4, h5, h6, T.val]
         ·simp [T.val] at hl
        ·simp [T.val] at hl
       ·simp [T.val] at hl
      ·simp [T.val] at hl
     ·-- make
      rename_i t x y
      obtain ⟨h2, hlt, ⟨c, hu⟩, hall⟩ := lightMk_val hl
      simp only at hu
      subst hu
      have hwr : en = .wr nm := by rw [<- hen]; simp only [entOf, hc]
      refine ⟨.inr ⟨_, _, rfl, hwr, hlt⟩, (fun n h => .inl ?_), fun H2 hH2 hlen => done H2 ?_⟩
      ·rw [hwr] at h; cases h; exact ⟨hlt, rfl, rfl⟩
      ·have e2 := hH2 nm (.inr hwr)
       rw [h2] at e2
       unfold light
       simp only [hpo]
       exact hall H2 e2 (hlen rfl)
     ·-- the building of a slice
      rename_i t len parts
      obtain ⟨h2, hlt, ⟨c, hu⟩, hall⟩ := lightArr_val hl
      simp only at hu
      subst hu
      have hwr : en = .wr nm := by rw [<- hen]; simp only [entOf, hc]
      refine ⟨.inr ⟨_, _, rfl, hwr, hlt⟩, (fun n h => .inl ?_), fun H2 hH2 hlen => done H2 ?_⟩
      ·rw [hwr] at h; cases h; exact ⟨hlt, rfl, rfl⟩
      ·have e2 := hH2 nm (.inr hwr)
       rw [h2] at e2
       unfold light
       simp only [hpo]
       exact hall H2 e2 (hlen rfl)
     ·-- a part of a slice
      rename_i t x lo hi mx
      split at hl
      ·rename_i p hp
       obtain ⟨he, si, lst, ty, hs, hn, hes, hfit⟩ := lightSl_spec hl
       simp only [Prod.mk.injEq] at he
       obtain ⟨rfl, rfl⟩ := he
       have hrd : en = .rd p.n := by rw [<- hen]; simp only [entOf, hc, hp]
       refine ⟨.inl rfl, (fun n h => by rw [hrd] at h; cases h), fun H2 hH2 _ => done H2 ?_⟩
       have e2 := hH2 p.n (.inl hrd)
       unfold light
       simp only [hpo, hp]
       unfold lightSl at hl ⊢
       rw [e2]
       exact hl
      ·simp [T.val] at hl
     ·simp [T.val] at hl
theorem kept_spec {R : List Nat} {H K : Hp AV} {n : Nat} (h : keptU N R H K n = true) : hget H n = hget K n := by
 unfold keptU at h
 split at h
 ·unfold keptC at h
  split at h
  ·rename_i a b e1 e2
   rw [e1, e2, N.F.same_ok a b h]
  ·cases h
 ·cases h
theorem kept_mask {R : List Nat} {H H2 B : Hp AV} (hl : H.length <= B.length) (h : maskH R 0 H2 = maskH R 0 H) : keptU N R H2 (mergeH R 0 H2 B) = keptU N R H (mergeH R 0 H B) := by
 have hlen : H2.length = H.length := by have h1 := congrArg List.length h; rw [mask_len, mask_len] at h1; exact h1
 funext n
 unfold keptU
 cases hs : sees R n with
 | false => rfl
 | true =>
   have e : hget H2 n = hget H n := by
    have h1 : hget (maskH R 0 H2) n = hget H2 n := by rw [hget_mask, Nat.zero_add, if_pos hs]
    have h2 : hget (maskH R 0 H) n = hget H n := by rw [hget_mask, Nat.zero_add, if_pos hs]
    rw [<- h1, <- h2, h]
   simp only
   rw [hget_merge _ _ _ _ _ hl, hget_merge _ _ _ _ _ (by omega), hlen, e]
theorem eff_call {cal : Callee AV} {W : Bool} {nm : Nat} {o : Op} {ev : Operand -> Option SV} {H H' : Hp AV} {v : SV} {R : List Nat} {U : Nat -> Bool} (h : eff N cal W nm o ev H = some (v, H', .call R U)) :
 ∃ (nl : List Nat) (B : Hp AV), R = reach H 400 nl [] /\ H.length <= B.length /\ H' = mergeH R 0 H B /\ (∀ n, n < H.length -> (hget H' n).isSome = (hget H n).isSome) /\ (∀ n, U n = true -> hget H' n = hget H n) /\
   ∀ H2 : Hp AV, reach H2 400 nl [] = R -> maskH R 0 H2 = maskH R 0 H -> eff N cal W nm o ev H2 = some (v, mergeH R 0 H2 B, .call R U) := by
 unfold eff at h
 cases W with
 | false => simp at h
 | true =>
   simp only at h
   split at h
   ·rename_i g l hc
    obtain ⟨⟨v', K⟩, hr, he⟩ := Option.map_eq_some_iff.1 h
    simp only [Prod.mk.injEq] at he
    obtain ⟨rfl, rfl, hen⟩ := he
    have hR : reach H 400 (namesVs l ++ gnames N g) [] = R := by
     simp only [entOf, hc, Ent.call.injEq] at hen
     exact hen.1
    have hU : keptU N R H K = U := by
     simp only [entOf, hc, Ent.call.injEq] at hen
     rw [<- hR]
     exact hen.2
    have hr0 := hr
    unfold callV at hr
    rw [hR] at hr
    simp only at hr
    split at hr
    ·simp [T.val] at hr
    ·rename_i hargs
     split at hr
     ·simp [T.val] at hr
     ·rename_i hheap
      obtain ⟨⟨v0, B⟩, hb, hr⟩ := T.bind_some hr
      simp only at hr
      split at hr
      ·simp [T.val] at hr
      ·rename_i hpers
       simp only [T.val, Option.some.injEq, Prod.mk.injEq] at hr
       obtain ⟨rfl, rfl⟩ := hr
       have hlen := (pers_spec hpers).1
       rw [mask_len] at hlen
       refine ⟨_, B, hR.symm, hlen, rfl, fun n hn => ?_, fun n hn => ?_, fun H2 h2 h3 => ?_⟩
       ·rw [hget_merge _ _ _ _ _ hlen, if_pos hn, Nat.zero_add]
        cases hx : hget H n with
        | none => rfl
        | some x =>
          simp only
          split
          ·rename_i hs
           obtain ⟨c', hc'⟩ := (pers_spec hpers).2.1 n x (by rw [hget_mask, Nat.zero_add, if_pos hs]; exact hx)
           rw [hc']; rfl
          ·rfl
       ·rw [<- hU] at hn
        exact (kept_spec hn).symm
       unfold eff
       simp only [hc]
       have : (callV cal (gnames N g) g l H2).val = some (v0, mergeH R 0 H2 B) := by
        unfold callV
        rw [h2, h3]
        simp only [hargs, hheap, T.val_bind, hb, Option.bind_some, hpers, T.val]
       rw [this]
       simp only [Option.map_some, entOf, hc, h2]
       rw [<- hU, kept_mask hlen h3]
   ·cases h
   ·rename_i hc
    obtain ⟨r, _, he⟩ := Option.map_eq_some_iff.1 h
    simp only [Prod.mk.injEq] at he
    obtain ⟨_, _, hen⟩ := he
    simp only [entOf, hc] at hen
    cases o <;> simp at hen
    all_goals (split at hen <;> cases hen)
theorem eff_glb {cal : Callee AV} {W : Bool} {nm : Nat} {o : Op} {ev : Operand -> Option SV} {H H' : Hp AV} {v : SV} {en : Ent} (h : eff N cal W nm o ev H = some (v, H', en)) (hnm : N.G <= nm) (hH : N.G <= H.length) (g : Nat) (hg : g < N.G) :
 (hget H' g).isSome = (hget H g).isSome := by
 cases hi : isCall en with
 | false =>
   obtain ⟨u, rfl, hu, hw, _⟩ := eff_light h hi
   rcases hu with rfl | ⟨n, c, rfl, hen, hlt⟩
   ·rfl
   ·by_cases e : n = g
    ·subst e
     simp only [updH]
     rw [hget_lset_self _ hlt]
     rcases hw n hen with ⟨_, _, rfl⟩ | ⟨c', hc'⟩
     ·omega
     ·rw [hc']; rfl
    ·simp only [updH]
     rw [hget_lset_ne _ e]
 | true =>
   cases en with
   | pure => cases hi
   | rd _ => cases hi
   | wr _ => cases hi
   | call R U =>
     obtain ⟨_, _, _, _, _, k, _⟩ := eff_call h
     exact k g (by omega)
end Go.Sx
