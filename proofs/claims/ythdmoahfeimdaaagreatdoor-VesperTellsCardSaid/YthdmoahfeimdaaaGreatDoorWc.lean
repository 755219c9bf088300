import Derived.Test.YthdmoahfeimdaaaGreatDoorEi
import Derived.Test.YthdmoahfeimdaaaGreatDoorSxM
import Derived.Lib.AppendIntMem
import Derived.Test.YthdmoahfeimdaaaGreatDoorSxOb
namespace Go.Proofs.YthdmoahfeimdaaaGreatDoor
open Go Go.Sx Go.Proofs Go.Shelf Go.RowKit
set_option linter.unusedVariables false
set_option maxRecDepth 100000
theorem own_chunk {AV : Type} {N : Env AV} {ρ : Nm} {H : Hp AV} {w w' : World} (hO : Own N ρ H w) (hC : ClHp N H) {n : Nat} {ck ck' : Chunk AV} (hn : hget H n = some ck) {S' : Nat -> Prop} (hcl' : ck'.cellsOf = [])
 (hq : ck'.q N (ρ.set n (ρ.L n) S') n w') (hf : Fr (ck.fp ρ n) (ck'.fp (ρ.set n (ρ.L n) S') n) w w') (L : Nat) :
 Own N (ρ.set n (ρ.L n) S') (lset H n (some ck')) w' /\ Evo N L ρ H w (ρ.set n (ρ.L n) S') (lset H n (some ck')) w' /\ ClHp N (lset H n (some ck')) := by
 have hlt := hget_lt hn
 have hself := hget_lset_self (H := H) ck' hlt
 have hL : ∀ m, (ρ.set n (ρ.L n) S').L m = ρ.L m := fun m => by by_cases e : m = n <;> simp [Nm.set, e]
 have hSm : ∀ m, m ≠ n -> (ρ.set n (ρ.L n) S').S m = ρ.S m := fun m e => by simp [Nm.set, e]
 have hden : ∀ l, denL (ρ.set n (ρ.L n) S') l = denL ρ l := fun l => by
  unfold denL
  apply List.map_congr_left
  intro c _
  exact den_congr c fun m _ => hL m
 have hold : ∀ m c, m ≠ n -> hget (lset H n (some ck')) m = some c -> hget H m = some c := fun m c h e => by rwa [hget_lset_ne _ (Ne.symm h)] at e
 have pers : ∀ m c, hget H m = some c -> ∃ c', hget (lset H n (some ck')) m = some c' := fun m c h => by
  by_cases e : m = n
  ·subst e; exact ⟨_, hself⟩
  ·exact ⟨c, by rw [hget_lset_ne _ (Ne.symm e)]; exact h⟩
 have other : ∀ m c k, m ≠ n -> hget H m = some c -> c.fp ρ m k -> w'.heap[k]? = w.heap[k]? := fun m c k e hc hk =>
  hf.frame k (hO.lt hc hk) fun hs => hO.dis m n c ck e hc hn k hk hs
 refine hO.up3 ⟨⟨?_, ?_, ?_⟩, ⟨pers, fun m _ _ => hL m, ?_, ?_, ?_, ?_, hf.os, hf.tape, hf.output, hf.size⟩, ?_, trivial⟩
 ·intro m c hc
  by_cases e : m = n
  ·subst e
   rw [hself] at hc
   cases hc
   exact hq
  ·have hc' := hold m c e hc
   exact q_keep (hO.q m c hc') (hL m) (hSm m e) (hden _) (fun k hk => other m c k e hc' hk)
 ·intro m m' c d hmm hc hd k hk hk'
  by_cases e : m = n
  ·subst e
   rw [hself] at hc
   cases hc
   have hd' := hold m' d (Ne.symm hmm) hd
   rw [fp_congr (hL m') (hSm m' (Ne.symm hmm))] at hk'
   rcases hf.new k hk with h1 | h1
   ·have := hO.lt hd' hk'; omega
   ·exact hO.dis m m' ck d hmm hn hd' k h1 hk'
  ·have hc' := hold m c e hc
   rw [fp_congr (hL m) (hSm m e)] at hk
   by_cases e' : m' = n
   ·subst e'
    rw [hself] at hd
    cases hd
    rcases hf.new k hk' with h1 | h1
    ·have := hO.lt hc' hk; omega
    ·exact hO.dis m m' c ck hmm hc' hn k hk h1
   ·have hd' := hold m' d e' hd
    rw [fp_congr (hL m') (hSm m' e')] at hk'
    exact hO.dis m m' c d hmm hc' hd' k hk hk'
 ·intro g hg
  have := hL g
  simp only [Nm.f, this]
  exact hO.glb g hg
 ·intro m _ hh
  by_cases e : m = n
  ·subst e; rw [hn] at hh; cases hh
  ·rw [hget_lset_ne _ (Ne.symm e)]; exact hh
 ·simp [length_lset]
 ·intro k hk hno
  exact hf.frame k hk fun hs => hno n _ hn hs
 ·intro m c k hc hk
  by_cases e : m = n
  ·subst e
   rw [hself] at hc
   cases hc
   rcases hf.new k hk with h1 | h1
   ·exact .inl h1
   ·exact .inr ⟨m, _, hn, h1⟩
  ·have hc' := hold m c e hc
   rw [fp_congr (hL m) (hSm m e)] at hk
   exact .inr ⟨m, c, hc', hk⟩
 ·intro m x hc
  by_cases e : m = n
  ·subst e
   rw [hself] at hc
   cases hc
   intro c hc; rw [hcl'] at hc; cases hc
  ·exact (hC.1 m x (hold m _ e hc)).mono pers
def sheetAt (H : Hp AV) (n : Nat) : Option (Bool × List UInt8) := match hget H n with
 | some (.abs (.sheet k l)) => some (k, l)
 | some (.cells [.pnil, .snil] t) => match Nat.beq t 55 with | true => some (true, []) | false => none
 | _ => none
def txsOf : List Cell -> Option (List ByteArray × Bool)
 | [] => some ([], true)
 | c :: r => match strC c, txsOf r with
   | some (s, k), some (l, k') => some (s :: l, match k with | true => k' | false => false)
   | _, _ => none
def wordsAt (H : Hp AV) : Cell -> Option (Bool × List ByteArray × Bool)
 | .vs n o len 1 true => match sliceCells H 1 (.vs n o len 1 true), Nat.blt 0 len, Nat.ble len 100000 with
   | some cs, true, true => match txsOf cs with
     | some (l, k) => some (true, l, k)
     | none => none
   | _, _, _ => none
 | .vs n 0 len 1 false => match hget H n with
   | some (.abs (.strs l)) => some (decide (len = l.length /\ 0 < l.length /\ l.length <= 100000), l.map Tx.val, false)
   | _ => none
 | _ => none
def mkTx (k : Bool) (s : ByteArray) : Cell := match k with | true => .st s | false => .sv s
theorem mkTx_den (k : Bool) (s : ByteArray) (ρ : Nm) : (mkTx k s).den ρ = .string s := by cases k <;> rfl
theorem mkTx_nm (k : Bool) (s : ByteArray) : (mkTx k s).name = none := by cases k <;> rfl
def joinL (ts : List ByteArray) (sep : List UInt8) : List UInt8 := Lib.join (ts.map (·.data.toList)) sep
def bAnd (a b : Bool) : Bool := match a with | true => b | false => false
def lineG (args : List SV) (H : Hp AV) : T (SV × Hp AV) := match args with
 | [.v (.c (.ptr b 0)), .v (.c ws)] => match sheetAt H b, wordsAt H ws with
   | some (k, l), some (ok, ts, k') => .need ok (.need (decide ((l ++ (joinL ts [32] ++ [10])).length <= 140737488355328)) (.leaf (.tup [], lset H b (some (.abs (.sheet (bAnd k k') (l ++ (joinL ts [32] ++ [10]))))))))
   | _, _ => .fail "line"
 | _ => .fail "line"
def stringG (args : List SV) (H : Hp AV) : T (SV × Hp AV) := match args with
 | [.v (.c (.ptr b 0))] => match hget H b with
   | some (.abs (.sheet k l)) => .need (decide (0 < l.length)) (.leaf (.v (.c (mkTx k ⟨l.toArray⟩)), lset H b (some .dead)))
   | _ => .fail "String"
 | _ => .fail "String"
def joinG (args : List SV) (H : Hp AV) : T (SV × Hp AV) := match args with
 | [.v (.c ws), .v (.c (.st sep))] => match wordsAt H ws with
   | some (ok, ts, k) => .need ok (.need (decide ((joinL ts sep.data.toList).length <= 140737488355328)) (.leaf (.v (.c (mkTx k ⟨(joinL ts sep.data.toList).toArray⟩)), H)))
   | none => .fail "Join"
 | _ => .fail "Join"
theorem extraB : Builder.Extra Tryz.prog Tryz.laysJoin_ren where
 sizeBuilder := by kernel_rfl
 liesBuilder := by kernel_rfl
 t5 := Tryz.underlying5
 a5 := run_isAgg_plain Tryz.underlying5 rfl
 z5 := fun _ => by kernel_rfl
 v5 := fun _ => by kernel_rfl
 infoByte := by kernel_rfl
 cellsByte := by kernel_rfl
 sizeByte := by kernel_rfl
 neB5 := by decide
theorem join_call (bk o c : Nat) (xs : List ByteArray) (sep : ByteArray) (w : World) (hcells : ∀ (j : Nat) (x : ByteArray), xs[j]? = some x -> w.cell? ⟨bk, o + j, none⟩ = some (.string x)) (hbk : bk < w.heap.size) (hcap : xs.length <= c) (hN : xs.length <= 140737488355328)
 (hlen : (joinL xs sep.data.toList).length <= 140737488355328) :
 Calls Tryz.prog 29 #[.slice (some ⟨bk, o, none⟩) xs.length c, .string sep] w fun e w' => e = .returned (.string ⟨(joinL xs sep.data.toList).toArray⟩) /\ Below w.heap.size w w' :=
 Any.strings_Join Tryz.laysJoin extraB bk o c xs sep w hcells hbk hN hcap hlen
section
variable {N : Env AV} {σ : Sg} (hF : N.F = avF σ)
theorem vecQ_cells {l : Sx.Loc} {S : Nat -> Prop} {cs : List Value} {es : Nat} {ty : TypeId} {w : World} (h : vecQ l S cs es ty w) (hne : cs ≠ []) : 0 < l.c /\ cs.length <= (l.c - 1) * es /\ ∀ (j : Nat) v, cs[j]? = some v -> w.cell? ⟨l.b, l.o + j, none⟩ = some v := by
 rcases h with ⟨_, h, _⟩ | ⟨h1, _, row, h3, _, h5, h6⟩
 ·exact absurd h hne
 ·refine ⟨h1, h5, fun j v hv => ?_⟩
  simp only [World.cell?, h3]
  simpa using h6 j v hv
theorem txsOf_spec : ∀ {cs : List Cell} {l : List ByteArray} {k : Bool}, txsOf cs = some (l, k) -> l.length = cs.length /\ ∀ ρ (j : Nat) x, l[j]? = some x -> (denL ρ cs)[j]? = some (.string x)
 | [], l, k, h => by
   simp only [txsOf, Option.some.injEq, Prod.mk.injEq] at h
   obtain ⟨rfl, _⟩ := h
   exact ⟨rfl, fun ρ j x hx => by simp at hx⟩
 | c :: r, l, k, h => by
   simp only [txsOf] at h
   split at h
   ·rename_i s k1 l' k2 h1 h2
    simp only [Option.some.injEq, Prod.mk.injEq] at h
    obtain ⟨rfl, _⟩ := h
    obtain ⟨e1, e2⟩ := txsOf_spec h2
    refine ⟨by simp [e1], fun ρ j x hx => ?_⟩
    cases j with
    | zero =>
      simp only [List.getElem?_cons_zero, Option.some.injEq] at hx
      subst hx
      simp [denL, strC_den ρ h1]
    | succ j =>
      simp only [List.getElem?_cons_succ] at hx
      have := e2 ρ j x hx
      simpa [denL] using this
   ·cases h
theorem vals_strs (l : List Tx) : kstrs.vals l = l.map fun x => Value.string x.val := by
 induction l with
 | nil => rfl
 | cons x r ih =>
   have e1 : kstrs.vals (x :: r) = .string x.val :: kstrs.vals r := rfl
   rw [e1, ih]; rfl
include hF in
theorem wordsAt_spec {ρ : Nm} {H : Hp AV} {w : World} (hO : Own N ρ H w) {c : Cell} {ok : Bool} {ts : List ByteArray} {k : Bool} (h : wordsAt H c = some (ok, ts, k)) (hok : ok = true) :
 ∃ bk o cap, c.den ρ = .slice (some ⟨bk, o, none⟩) ts.length cap /\ (∀ (j : Nat) x, ts[j]? = some x -> w.cell? ⟨bk, o + j, none⟩ = some (.string x)) /\ bk < w.heap.size /\ ts.length <= cap /\ ts.length <= 100000 := by
 have fin : ∀ bk o, 0 < ts.length -> (∀ (j : Nat) x, ts[j]? = some x -> w.cell? ⟨bk, o + j, none⟩ = some (.string x)) -> bk < w.heap.size := fun bk o h0 hc => by
  have := hc 0 _ (List.getElem?_eq_getElem h0)
  exact World.block_lt_of_cell? w _ this
 unfold wordsAt at h
 split at h
 ·rename_i n o len
  split at h
  ·rename_i cs h1 h2 h3
   split at h
   ·rename_i l k' h4
    simp only [Option.some.injEq, Prod.mk.injEq] at h
    obtain ⟨_, rfl, _⟩ := h
    obtain ⟨e1, e2⟩ := txsOf_spec h4
    obtain ⟨_, _, g1, _, g3, _⟩ := sliceCells_spec h1
    have hl : l.length = len := by rw [e1, g3, Nat.mul_one]
    have h2 := (blt_iff _ _).1 h2
    have h3 := Nat.le_of_ble_eq_true h3
    obtain ⟨cap, d1, d2⟩ := vec_src hO (by decide) h2 h1
    have hc : ∀ (j : Nat) x, l[j]? = some x -> w.cell? ⟨ρ n, (ρ.L n).o + o * 1 + j, none⟩ = some (.string x) := fun j x hx => by
     have := d2 j _ (e2 ρ j x hx)
     unfold Addr.add at this
     by_cases hj : j = 0
     ·subst hj; simpa using this
     ·simpa [hj] using this
    have hv := vs_fits hO (by decide) h1
    refine ⟨ρ n, (ρ.L n).o + o * 1, cap, by rw [d1, hl], hc, fin _ _ (by omega) hc, ?_, by omega⟩
    have d1' := d1
    simp only [Cell.den, vsDen] at d1'
    rw [if_neg (by omega)] at d1'
    simp only [Value.slice.injEq] at d1'
    omega
   ·cases h
  ·cases h
 ·rename_i n len
  split at h
  ·rename_i l hn
   simp only [Option.some.injEq, Prod.mk.injEq] at h
   obtain ⟨h1, rfl, _⟩ := h
   rw [hok] at h1
   obtain ⟨h1, h2, h3⟩ := of_decide_eq_true h1
   have hq : N.F.q (.strs l) (ρ.L n) (ρ.S n) w := hO.q n _ hn
   rw [hF] at hq
   have hq : vecQ (ρ.L n) (ρ.S n) (kstrs.vals l) 1 9 w := hq
   rw [vals_strs] at hq
   obtain ⟨c1, c2, c3⟩ := vecQ_cells hq (by intro e; have := congrArg List.length e; rw [List.length_map, List.length_nil] at this; omega)
   simp only [List.length_map, Nat.mul_one] at c2
   have hc : ∀ (j : Nat) x, (l.map Tx.val)[j]? = some x -> w.cell? ⟨ρ n, (ρ.L n).o + 0 * 1 + j, none⟩ = some (.string x) := fun j x hx => by
    rw [show (ρ.L n).o + 0 * 1 + j = (ρ.L n).o + j by omega]
    refine c3 j _ ?_
    rw [List.getElem?_map] at hx ⊢
    obtain ⟨y, hy, rfl⟩ := Option.map_eq_some_iff.1 hx
    rw [hy]; rfl
   refine ⟨ρ n, (ρ.L n).o + 0 * 1, (ρ.L n).c - 1 - 0, ?_, hc, fin _ _ (by simpa using h2) hc, by rw [List.length_map]; omega, by simpa using h3⟩
   simp only [Cell.den, vsDen]
   rw [if_neg (by omega), List.length_map, h1]
  ·cases h
 ·cases h
include hF in
theorem joinG_ok : FnOk Tryz.prog N 29 joinG := by
 refine fnOk_still fun args H v H' h => ?_
 unfold joinG at h
 split at h
 ·rename_i ws sep
  split at h
  ·rename_i ok ts k hw
   replace h := need_some h
   obtain ⟨hok, h⟩ := h
   subst hok
   replace h := need_some h
   obtain ⟨hl, h⟩ := h
   have hl := of_decide_eq_true hl
   simp only [T.val, Option.some.injEq, Prod.mk.injEq] at h
   obtain ⟨rfl, rfl⟩ := h
   refine ⟨rfl, fun c hc => by rw [List.mem_singleton.1 hc]; exact mkTx_nm _ _, fun ρ w hO => ?_⟩
   obtain ⟨bk, o, cap, d1, d2, d3, d4, d5⟩ := wordsAt_spec hF hO hw rfl
   have := join_call bk o cap ts sep w d2 d3 d4 (by omega) hl
   simp only [List.map_cons, List.map_nil, SV.den, V1.den, d1, mkTx_den]
   exact this
  ·simp [T.val] at h
 ·simp [T.val] at h
theorem sheetAt_spec {ρ : Nm} {H : Hp AV} {w : World} (hO : Own N ρ H w) {n : Nat} {k : Bool} {l : List UInt8} (hF : N.F = avF σ) (h : sheetAt H n = some (k, l)) :
 ∃ ck v, hget H n = some ck /\ ShW (ρ n) v (Lib.byteCells l) w /\ ∀ j, ck.fp ρ n j ↔ j = ρ n \/ v.ownBlock = some j := by
 unfold sheetAt at h
 split at h
 ·rename_i k' l' hn
  cases h
  have hq : N.F.q (.sheet k l) (ρ.L n) (ρ.S n) w := hO.q n _ hn
  rw [hF] at hq
  obtain ⟨p, v, h1, h2, h3, h4, h5⟩ : sheetQ (ρ.L n) (ρ.S n) l w := hq
  exact ⟨_, v, hn, ⟨⟨p, h1, h3⟩, by rw [Lib.byteCells_length]; exact h5, h4⟩, h2⟩
 ·rename_i t hn
  split at h
  ·rename_i ht
   have ht := (beq_iff _ _).1 ht
   subst ht
   cases h
   have hq : w.heap[ρ n]? = some (.cells (denL ρ [Cell.pnil, Cell.snil]).toArray 55 (0, 0)) := hO.q n _ hn
   refine ⟨_, .slice none 0 0, hn, ⟨⟨_, .inl rfl, hq⟩, World.ownsRow_nil _ _ _ _, by simp [Value.ownBlock]⟩, fun j => ?_⟩
   show j = ρ n ↔ _
   simp [Value.ownBlock]
  ·cases h
 ·cases h
theorem sheet_put {ρ : Nm} {H : Hp AV} {w w' : World} (hO : Own N ρ H w) (hC : ClHp N H) (hF : N.F = avF σ) {n : Nat} {ck : Chunk AV} (hn : hget H n = some ck) {v v' : Value} (hfp : ∀ j, ck.fp ρ n j ↔ j = ρ n \/ v.ownBlock = some j) {l : List UInt8} (k : Bool)
 (hs : ShW (ρ n) v' (Lib.byteCells l) w') (hf : FrS (ρ n) v.ownBlock v'.ownBlock w w') : ∃ ρ' : Nm, Own N ρ' (lset H n (some (.abs (.sheet k l)))) w' /\ Evo N H.length ρ H w ρ' (lset H n (some (.abs (.sheet k l)))) w' := by
 obtain ⟨p, hp, hb⟩ := hs.p
 have hw := hs.own
 rw [Lib.byteCells_length] at hw
 obtain ⟨o1, o2, _⟩ := own_chunk (ck' := .abs (.sheet k l)) (S' := fun j => j = ρ n \/ v'.ownBlock = some j) hO hC hn rfl (by
  show N.F.q (.sheet k l) _ _ w'
  rw [hF]
  have e1 : (ρ.set n (ρ.L n) fun j => j = ρ n \/ v'.ownBlock = some j).L n = ρ.L n := by simp [Nm.set]
  have e2 : (ρ.set n (ρ.L n) fun j => j = ρ n \/ v'.ownBlock = some j).S n = fun j => j = ρ n \/ v'.ownBlock = some j := by simp [Nm.set]
  rw [e1, e2]
  exact (⟨p, v', hp, fun j => Iff.rfl, hb, hs.ne, hw⟩ : sheetQ (ρ.L n) _ l w')) (by
  have e2 : ∀ j, Chunk.fp (ρ.set n (ρ.L n) fun j => j = ρ n \/ v'.ownBlock = some j) n (Chunk.abs (AV.sheet k l)) j ↔ j = ρ n \/ v'.ownBlock = some j := fun j => by
   show (ρ.set n (ρ.L n) fun j => j = ρ n \/ v'.ownBlock = some j).S n j ↔ _
   simp [Nm.set]
  refine ⟨fun j hj hno => ?_, fun j hj => ?_, hf.os, hf.tape, hf.output, hf.size⟩
  ·rw [hfp] at hno
   exact hf.block j hj (fun e => hno (.inl e)) (fun e => hno (.inr e))
  ·rw [e2] at hj
   rw [hfp]
   rcases hj with rfl | hj
   ·exact .inr (.inl rfl)
   ·rcases hf.new j hj with e | e
    ·exact .inr (.inr e)
    ·exact .inl e) H.length
 exact ⟨_, o1, o2⟩
theorem sheet_cl {H : Hp AV} (hC : ClHp N H) {n : Nat} {ck : Chunk AV} (hn : hget H n = some ck) (k : Bool) (l : List UInt8) : ClHp N (lset H n (some (.abs (.sheet k l)))) := by
 refine ⟨fun m x h => ?_, trivial⟩
 have pers : ∀ m c, hget H m = some c -> ∃ c', hget (lset H n (some (.abs (.sheet k l)))) m = some c' := fun m c h => by
  by_cases e : m = n
  ·subst e; exact ⟨_, hget_lset_self _ (hget_lt hn)⟩
  ·exact ⟨c, by rw [hget_lset_ne _ (Ne.symm e)]; exact h⟩
 by_cases e : m = n
 ·subst e
  rw [hget_lset_self _ (hget_lt hn)] at h
  cases h
  intro c hc; cases hc
 ·rw [hget_lset_ne _ (Ne.symm e)] at h
  exact (hC.1 m x h).mono pers
theorem sheetAt_get {H : Hp AV} {n : Nat} {k : Bool} {l : List UInt8} (h : sheetAt H n = some (k, l)) : ∃ ck, hget H n = some ck := by
 unfold sheetAt at h
 split at h
 ·exact ⟨_, by assumption⟩
 ·exact ⟨_, by assumption⟩
 ·cases h
def wsG (args : List SV) (H : Hp AV) : T (SV × Hp AV) := match args with
 | [.v (.c (.ptr b 0)), .v (.c t)] => match sheetAt H b, strC t with
   | some (k, l), some (s, k') => .need (decide (l.length + s.data.toList.length <= 140737488355328)) (.leaf (.tup [.c (.it .i64 s.data.toList.length), .c .inil], lset H b (some (.abs (.sheet (bAnd k k') (l ++ s.data.toList))))))
   | _, _ => .fail "WriteString"
 | _ => .fail "WriteString"
def wbG (args : List SV) (H : Hp AV) : T (SV × Hp AV) := match args with
 | [.v (.c (.ptr b 0)), .v (.c (.il .u8 c))] => match sheetAt H b, decide (0 <= c /\ c < 256) with
   | some (k, l), true => .need (decide (l.length + 1 <= 140737488355328)) (.leaf (.v (.c .inil), lset H b (some (.abs (.sheet k (l ++ [UInt8.ofNat c.toNat]))))))
   | _, _ => .fail "WriteByte"
 | _ => .fail "WriteByte"
include hF in
theorem wsG_ok : FnOk Tryz.prog N 28 wsG := by
 intro args H v H' h hargs hC
 unfold wsG at h
 split at h
 ·rename_i b t
  split at h
  ·rename_i k l s k' h1 h2
   obtain ⟨hl, h⟩ := need_some h
   have hl := of_decide_eq_true hl
   simp only [T.val, Option.some.injEq, Prod.mk.injEq] at h
   obtain ⟨rfl, rfl⟩ := h
   obtain ⟨ck, hn⟩ := sheetAt_get h1
   refine ⟨fun x hx c hc m hm => ?_, sheet_cl hC hn _ _, fun ρ w hO => ?_⟩
   ·simp only [List.mem_cons, List.not_mem_nil, or_false] at hx
    rcases hx with rfl | rfl <;> (rw [List.mem_singleton.1 hc] at hm; cases hm)
   ·obtain ⟨ck', va, hn', hs, hfp⟩ := sheetAt_spec hO hF h1
    rw [hn] at hn'
    cases hn'
    have hw := ws_walk (ρ b) va (Lib.byteCells l) s w hs (by rw [Lib.byteCells_length]; exact hl)
    simp only [List.map_cons, List.map_nil, SV.den, V1.den, strC_den ρ h2, Cell.den]
    refine hw.mono ?_
    rintro e w' ⟨rfl, v', hs', hf⟩
    have e1 : Lib.byteCells l ++ Lib.strCells s = Lib.byteCells (l ++ s.data.toList) := by simp [Lib.byteCells, Lib.strCells]
    rw [e1] at hs'
    obtain ⟨ρ', o1, o2⟩ := sheet_put hO hC hF hn hfp (bAnd k k') hs' hf
    exact ⟨ρ', rfl, o1, o2⟩
  ·simp [T.val] at h
 ·simp [T.val] at h
include hF in
theorem wbG_ok : FnOk Tryz.prog N 30 wbG := by
 intro args H v H' h hargs hC
 unfold wbG at h
 split at h
 ·rename_i b c
  split at h
  ·rename_i k l h1 h2
   obtain ⟨hl, h⟩ := need_some h
   have hl := of_decide_eq_true hl
   obtain ⟨c0, c1⟩ := of_decide_eq_true h2
   simp only [T.val, Option.some.injEq, Prod.mk.injEq] at h
   obtain ⟨rfl, rfl⟩ := h
   obtain ⟨ck, hn⟩ := sheetAt_get h1
   refine ⟨fun c hc m hm => ?_, sheet_cl hC hn _ _, fun ρ w hO => ?_⟩
   ·rw [List.mem_singleton.1 hc] at hm; cases hm
   ·obtain ⟨ck', va, hn', hs, hfp⟩ := sheetAt_spec hO hF h1
    rw [hn] at hn'
    cases hn'
    have hw := wb_walk (ρ b) va (Lib.byteCells l) c w hs (by rw [Lib.byteCells_length]; exact hl)
    simp only [List.map_cons, List.map_nil, SV.den, V1.den, Cell.den]
    refine hw.mono ?_
    rintro e w' ⟨rfl, v', hs', hf⟩
    have e0 : ((UInt8.ofNat c.toNat).toNat : Int) = c := by
     have : (UInt8.ofNat c.toNat).toNat = c.toNat := UInt8.toNat_ofNat_of_lt' (show c.toNat < 256 by omega)
     rw [this]; omega
    have e1 : Lib.byteCells l ++ [Value.int .u8 c] = Lib.byteCells (l ++ [UInt8.ofNat c.toNat]) := by
     simp only [Lib.byteCells, List.map_append, List.map_cons, List.map_nil]
     rw [e0]
    rw [e1] at hs'
    obtain ⟨ρ', o1, o2⟩ := sheet_put hO hC hF hn hfp k hs' hf
    exact ⟨ρ', rfl, o1, o2⟩
  ·simp [T.val] at h
 ·simp [T.val] at h
include hF in
theorem stringG_ok : FnOk Tryz.prog N 17 stringG := by
 intro args H v H' h hargs hC
 unfold stringG at h
 split at h
 ·rename_i b
  split at h
  ·rename_i k l hn
   ·replace h := need_some h
    obtain ⟨h0, h⟩ := h
    have h0 := of_decide_eq_true h0
    simp only [T.val, Option.some.injEq, Prod.mk.injEq] at h
    obtain ⟨rfl, rfl⟩ := h
    have h1 : sheetAt H b = some (k, l) := by simp only [sheetAt, hn]
    have hcl : ClHp N (lset H b (some .dead)) := by
     refine ⟨fun m y h => ?_, trivial⟩
     have pers : ∀ m c, hget H m = some c -> ∃ c', hget (lset H b (some .dead)) m = some c' := fun m c h => by
      by_cases e : m = b
      ·subst e; exact ⟨_, hget_lset_self _ (hget_lt hn)⟩
      ·exact ⟨c, by rw [hget_lset_ne _ (Ne.symm e)]; exact h⟩
     by_cases e : m = b
     ·subst e
      rw [hget_lset_self _ (hget_lt hn)] at h
      cases h
      intro c hc; cases hc
     ·rw [hget_lset_ne _ (Ne.symm e)] at h
      exact (hC.1 m y h).mono pers
    refine ⟨fun c hc m hm => ?_, hcl, fun ρ w hO => ?_⟩
    ·rw [List.mem_singleton.1 hc, mkTx_nm] at hm; cases hm
    ·obtain ⟨ck', va, hn', hs, hfp⟩ := sheetAt_spec hO hF h1
     rw [hn] at hn'
     cases hn'
     have hw := string_walk (ρ b) va l w hs (by intro e; subst e; simp at h0)
     simp only [List.map_cons, List.map_nil, SV.den, V1.den, Cell.den]
     refine hw.mono ?_
     rintro e w' ⟨rfl, hf⟩
     obtain ⟨o1, o2, _⟩ := own_chunk (ck' := .dead) (S' := fun _ => False) hO hC hn rfl trivial ⟨fun j hj hno => by
      rw [hfp] at hno
      exact hf.block j hj (fun e => hno (.inl e)) (fun e => hno (.inr e)), fun j hj => hj.elim, hf.os, hf.tape, hf.output, hf.size⟩ H.length
     exact ⟨_, by rw [mkTx_den], o1, o2⟩
  ·simp [T.val] at h
 ·simp [T.val] at h
def countG (args : List SV) (H : Hp AV) : T (SV × Hp AV) := match args with
 | [.v (.c t), .v (.c (.st sep))] => match strC t, sep.data.toList with
   | some (s, k), [c] => .leaf (.v (.c (match k with | true => .il .i64 (Lib.countByte s.data.toList c) | false => .it .i64 (Lib.countByte s.data.toList c))), H)
   | _, _ => .fail "Count"
 | _ => .fail "Count"
def indexG (args : List SV) (H : Hp AV) : T (SV × Hp AV) := match args with
 | [.v (.c t), .v (.c (.st sep))] => match strC t, sep.data.toList with
   | some (s, k), [c] => .leaf (.v (.c (match k with | true => .il .i64 (Lib.indexByte s.data.toList c) | false => .it .i64 (Lib.indexByte s.data.toList c))), H)
   | _, _ => .fail "Index"
 | _ => .fail "Index"
theorem sep_one {sep : ByteArray} {c : UInt8} (h : sep.data.toList = [c]) : sep = ⟨#[c]⟩ := by
 cases sep with
 | mk d => congr; rw [<- Array.toArray_toList (xs := d)]; rw [show d.toList = [c] from h]
theorem countG_ok : FnOk Tryz.prog N 116 countG := by
 refine fnOk_still fun args H v H' h => ?_
 unfold countG at h
 split at h
 ·rename_i t sep
  split at h
  ·rename_i s k c h1 h2
   simp only [T.val, Option.some.injEq, Prod.mk.injEq] at h
   obtain ⟨rfl, rfl⟩ := h
   refine ⟨rfl, fun x hx => by rw [List.mem_singleton.1 hx]; cases k <;> rfl, fun ρ w hO => ?_⟩
   have := Any.strings_Count_one Tryz.laysCount s c w
   simp only [List.map_cons, List.map_nil, SV.den, V1.den, strC_den ρ h1, Cell.den, sep_one h2]
   refine Calls.mono this ?_
   rintro e w' ⟨rfl, rfl⟩
   exact ⟨by cases k <;> rfl, Below.refl _ _⟩
  ·simp [T.val] at h
 ·simp [T.val] at h
theorem indexG_ok : FnOk Tryz.prog N 139 indexG := by
 refine fnOk_still fun args H v H' h => ?_
 unfold indexG at h
 split at h
 ·rename_i t sep
  split at h
  ·rename_i s k c h1 h2
   simp only [T.val, Option.some.injEq, Prod.mk.injEq] at h
   obtain ⟨rfl, rfl⟩ := h
   refine ⟨rfl, fun x hx => by rw [List.mem_singleton.1 hx]; cases k <;> rfl, fun ρ w hO => ?_⟩
   have := Any.stringslite_Index_one Tryz.laysIndex s c w
   simp only [List.map_cons, List.map_nil, SV.den, V1.den, strC_den ρ h1, Cell.den, sep_one h2]
   refine Calls.mono this ?_
   rintro e w' ⟨rfl, rfl⟩
   exact ⟨by cases k <;> rfl, Below.refl _ _⟩
  ·simp [T.val] at h
 ·simp [T.val] at h
def TabR (σ : Sg) : Prop := ∃ ty z, σ.R 14 = some (.cells (Lib.pow10Tab.map fun z => Value.int .u64 z).toArray ty z)
theorem tabR_is {σ : Sg} (h : TabR σ) {w : World} (hw : σ.has w) : Lib.TabIs Tryz.prog w "internal/strconv.uint64pow10" .u64 Lib.pow10Tab := by
 obtain ⟨ty, z, hR⟩ := h
 have hb := hw _ _ hR
 have hg : Tryz.prog.globalNamed "internal/strconv.uint64pow10" = some 14 := by kernel_rfl
 unfold Lib.TabIs World.var?
 rw [hg, Option.bind_some, hb]
def itoaG (args : List SV) (H : Hp AV) : T (SV × Hp AV) := match args with
 | [.v (.c t)] => match iOf t with
   | some n => .need (decide (-9223372036854775808 <= n /\ n <= 9223372036854775807)) (.leaf (.v (.c (.sv ⟨(Lib.itoa n).toArray⟩)), H))
   | none => .fail "Itoa"
 | _ => .fail "Itoa"
include hF in
theorem itoaG_ok (ht : TabR σ) : FnOk Tryz.prog N 15 itoaG := by
 refine fnOk_still fun args H v H' h => ?_
 unfold itoaG at h
 split at h
 ·rename_i t
  split at h
  ·rename_i n h1
   obtain ⟨hb, h⟩ := need_some h
   obtain ⟨b1, b2⟩ := of_decide_eq_true hb
   simp only [T.val, Option.some.injEq, Prod.mk.injEq] at h
   obtain ⟨rfl, rfl⟩ := h
   refine ⟨rfl, fun x hx => by rw [List.mem_singleton.1 hx]; rfl, fun ρ w hO => ?_⟩
   have hw : σ.has w := fun k o hk => hO.ro.1 k o (by rw [hF]; exact hk)
   have := Any.strconv_Itoa Tryz.laysItoa n b1 b2 w (tabR_is ht hw)
   have hd : t.den ρ = .int .i64 n := by
    rw [(kindC_name (c := t) (by unfold iOf at h1; split at h1 <;> cases h1 <;> rfl : kindC t = some (.int .i64))).2 ρ Nm.id]
    exact (iOf_spec h1).1
   simp only [List.map_cons, List.map_nil, SV.den, V1.den, hd, Cell.den]
   refine Calls.mono this ?_
   rintro e w' ⟨rfl, kk, os, rfl⟩
   exact ⟨rfl, Lib.below_grow _ w (Nat.le_refl _) kk os⟩
  ·simp [T.val] at h
 ·simp [T.val] at h
end
end Go.Proofs.YthdmoahfeimdaaaGreatDoor

namespace Go.Sx
variable {AV : Type} {P : Program}
end Go.Sx

namespace Go.Sx
variable {AV : Type} {P : Program} {N : Env AV}
def Lesser (N : Env AV) (d c : Chunk AV) : Prop := ∀ ρ n w, (d.q N ρ n w -> c.q N ρ n w) /\ ∀ k, c.fp ρ n k ↔ d.fp ρ n k
theorem Lesser.refl (d : Chunk AV) : Lesser N d d := fun _ _ _ => ⟨id, fun _ => Iff.rfl⟩
structure Back (N : Env AV) (L nt : Nat) (s t : St AV) (π : Nat -> Nat) : Prop where
 E : ∀ k, k < nt -> look t.E k ≠ .unk -> look s.E k = (look t.E k).ren π
 Eo : ∀ k, nt <= k -> look t.E k = undefV
 H : ∀ n c, hget t.H n = some c -> ∃ d, hget s.H (π n) = some d /\ Lesser N d (c.ren π)
 inj : ∀ n m c d, hget t.H n = some c -> hget t.H m = some d -> π n = π m -> n = m
 fix : ∀ n, n < L -> π n = n
 keep : ∀ n c, n < L -> hget s.H n = some c -> ∃ c', hget t.H n = some c'
 len : L <= t.H.length
 G : N.G <= L
 cl : Closed N t
theorem ren_unk {π : Nat -> Nat} {v : SV} (h : v.ren π = .unk) : v = .unk := by
 cases v <;> first | rfl | (simp [SV.ren] at h)
theorem Back.at {L nt : Nat} {s t : St AV} {π : Nat -> Nat} (h : Back N L nt s t π) {ρ : Nm} {a : Act} {w : World} (hat : At N nt ρ s a w) : At N nt (ρ.ren π) t a w := by
 refine ⟨⟨hat.em.size, fun k hk => ?_⟩, ⟨⟨fun n c hc => ?_, fun n m c d hnm hc hd k hk hk' => ?_, fun g hg => ?_⟩, hat.own.ro.1, fun n c k hc hk => ?_⟩⟩
 ·rcases Nat.lt_or_ge k nt with hlt | hge
  case inr =>
   rw [h.Eo k hge]
   have : ¬ k < a.tmps.size := by rw [hat.em.size]; omega
   simp [Array.getD, this, undefV, SV.den, undef]
  have he := h.E k hlt hk
  have hs : look s.E k ≠ .unk := fun e => hk (ren_unk (he.symm.trans e))
  rw [hat.em.get k hs, he, SV.den_ren]
 ·obtain ⟨d, g1, g2⟩ := h.H n c hc
  exact q_ren.1 ((g2 ρ (π n) w).1 (hat.own.q _ _ g1))
 ·obtain ⟨c', g1, g2⟩ := h.H n c hc
  obtain ⟨d', g3, g4⟩ := h.H m d hd
  rw [<- fp_ren] at hk hk'
  exact hat.own.dis (π n) (π m) _ _ (fun e => hnm (h.inj n m c d hc hd e)) g1 g3 k (((g2 ρ (π n) w).2 k).1 hk) (((g4 ρ (π m) w).2 k).1 hk')
 ·show ρ (π g) = g
  rw [h.fix g (by have := h.G; omega)]
  exact hat.own.glb g hg
 ·obtain ⟨d, g1, g2⟩ := h.H n c hc
  rw [<- fp_ren] at hk
  exact hat.own.ro.2 (π n) _ k g1 (((g2 ρ (π n) w).2 k).1 hk)
theorem Back.evo {L nt : Nat} {s t : St AV} {π : Nat -> Nat} (h : Back N L nt s t π) {ρ0 ρ : Nm} {H0 : Hp AV} {w0 w : World} (hL : H0.length = L) (he : Evo N L ρ0 H0 w0 ρ s.H w) : Evo N L ρ0 H0 w0 (ρ.ren π) t.H w := by
 refine ⟨fun n c hc => ?_, fun n c hc => ?_, fun n hn hc => ?_, by rw [hL]; exact h.len, he.frame, fun n c k hc hk => ?_, he.os, he.tape, he.output, he.size⟩
 ·obtain ⟨c', hc'⟩ := he.pers n c hc
  exact h.keep n c' (by have := hget_lt hc; omega) hc'
 ·show ρ.L (π n) = _
  rw [h.fix n (by have := hget_lt hc; omega)]
  exact he.agree n c hc
 ·cases ht : hget t.H n with
  | none => rfl
  | some c =>
    obtain ⟨d, g1, _⟩ := h.H n c ht
    rw [h.fix n hn, he.non n hn hc] at g1
    cases g1
 ·obtain ⟨d, g1, g2⟩ := h.H n c hc
  rw [<- fp_ren] at hk
  exact he.new (π n) _ k g1 (((g2 ρ (π n) w).2 k).1 hk)
theorem loop_ren (hT : TblOk P N) {cal : Callee AV} (hcal : CalOk P N cal) {lp : Nat -> Option (St AV -> T (Ex × St AV))} {nt : Nat} {c : Code} (hlp : LpOk P N nt c lp) {ι : Type} (fam : ι -> St AV) (μ : ι -> Nat) (Fin : Ex -> St AV -> Prop) (L : Nat)
 (hstep : ∀ i, ∃ ex s', (xc N cal lp nt c (fam i)).val = some (ex, s') /\ match ex with
   | .normal => ∃ i' π, μ i' < μ i /\ Back N L nt s' (fam i') π
   | e => Fin e s')
 {ρ0 : Nm} {H0 : Hp AV} {w0 : World} (hL : H0.length = L) : ∀ (n : Nat) (i : ι), μ i < n -> Closed N (fam i) -> L <= (fam i).H.length -> ∀ (ρ : Nm) (a : Act) (w : World), At N nt ρ (fam i) a w -> Evo N L ρ0 H0 w0 ρ (fam i).H w -> ∀ (Q : Exit -> Act -> World -> Prop),
   (∀ ex s' ρ' a' w', Fin ex s' -> Closed N s' -> L <= s'.H.length -> At N nt ρ' s' a' w' -> Evo N L ρ0 H0 w0 ρ' s'.H w' -> a'.defers = a.defers -> Q (exOf ex) a' w') -> Code.rounds P c Q n a w
 | 0, i, h, _, _, _, _, _, _, _, _, _ => by omega
 | n + 1, i, hm, hcl, hH, ρ, a, w, hat, hev, Q, hQ => by
   obtain ⟨ex, s', h1, h2⟩ := hstep i
   obtain ⟨c1, l1, k1⟩ := xc_wp (P := P) hT hcal (nt := nt) (L := L) c hlp (fam i) s' ex h1 hcl hH
   refine wp_mono (k1 hat) ?_
   rintro e a₁ w₁ ⟨rfl, hl⟩
   obtain ⟨⟨ρ₁, e1, o1, v1⟩, d1⟩ := hl
   cases ex with
   | normal =>
     obtain ⟨i', π, hmu, hb⟩ := h2
     have hat' := hb.at (At.mk e1 o1)
     have hev' := hb.evo hL (hev.trans v1)
     exact loop_ren hT hcal hlp fam μ Fin L hstep hL n i' (by omega) hb.cl hb.len _ a₁ w₁ hat' hev' Q fun ex s'' ρ' a' w' hf hc hh ha he hd => hQ ex s'' ρ' a' w' hf hc hh ha he (hd.trans d1)
   | exit id => exact hQ _ s' ρ₁ a₁ w₁ h2 c1 l1 ⟨e1, o1⟩ (hev.trans v1) d1
   | ret => exact hQ _ s' ρ₁ a₁ w₁ h2 c1 l1 ⟨e1, o1⟩ (hev.trans v1) d1
def nameOf (nl : List Nat) (n : Nat) : Nat := match nth nl n with | some m => m | none => n
def idxIn : List Nat -> Nat -> Nat
 | [], _ => 0
 | x :: r, n => match Nat.beq x n with | true => 0 | false => idxIn r n + 1
theorem nameOf_idx : ∀ {nl : List Nat} {n : Nat}, n ∈ nl -> nameOf nl (idxIn nl n) = n
 | x :: r, n, h => by
   simp only [idxIn]
   cases hb : Nat.beq x n with
   | true => exact (beq_iff _ _).1 hb
   | false =>
     rcases List.mem_cons.1 h with rfl | h
     ·rw [Nat.beq_refl] at hb; cases hb
     ·have := nameOf_idx h
      unfold nameOf at this ⊢
      simp only [nth]
      cases hn : nth r (idxIn r n) with
      | some m => rw [hn] at this; exact this
      | none =>
        rw [hn] at this
        exfalso
        rw [nth_eq] at hn
        have hlen : r.length <= idxIn r n := by
         rcases Nat.lt_or_ge (idxIn r n) r.length with hh | hh
         ·rw [List.getElem?_eq_getElem hh] at hn; cases hn
         ·exact hh
        have hlt : ∀ {l : List Nat}, n ∈ l -> idxIn l n < l.length := by
         intro l
         induction l with
         | nil => intro h; cases h
         | cons y l ih =>
           intro h
           simp only [idxIn]
           cases hy : Nat.beq y n with
           | true => simp
           | false =>
             rcases List.mem_cons.1 h with rfl | h
             ·rw [Nat.beq_refl] at hy; cases hy
             ·have := ih h; simp; omega
        have := hlt h
        omega
def refold (nl ks : List Nat) (nt : Nat) (s : St AV) : St AV :=
 { E := only ks (s.E.map fun p => (p.1, p.2.ren (idxIn nl))) nt, H := nl.map fun m => match hget s.H m with | some c => some (c.ren (idxIn nl)) | none => none }
theorem look_map (f : SV -> SV) (h0 : f undefV = undefV) : ∀ (E : Ev) (k : Nat), look (E.map fun p => (p.1, f p.2)) k = f (look E k)
 | [], k => h0.symm
 | (j, v) :: r, k => by
   simp only [List.map_cons, look]
   cases Nat.beq j k with
   | true => rfl
   | false => exact look_map f h0 r k
theorem hget_mapL (f : Nat -> Option (Chunk AV)) : ∀ (nl : List Nat) (n : Nat), hget (nl.map f) n = match nl[n]? with | some m => f m | none => none
 | [], n => by simp [hget]
 | x :: r, 0 => by simp [hget]
 | x :: r, n + 1 => by simp only [List.map_cons, hget, hget_mapL f r n, List.getElem?_cons_succ]
def subN (nl : List Nat) : List Nat -> Bool
 | [] => true
 | n :: r => match hasN nl n with | true => subN nl r | false => false
theorem subN_spec {nl : List Nat} : ∀ {l : List Nat}, subN nl l = true -> ∀ n ∈ l, n ∈ nl
 | [], _, n, h => by cases h
 | x :: r, hs, n, h => by
   simp only [subN] at hs
   split at hs
   ·rename_i hx
    rcases List.mem_cons.1 h with rfl | h
    ·exact (hasN_iff _ _).1 hx
    ·exact subN_spec hs n h
   ·cases hs
def subE (nl : List Nat) (E : Ev) : List Nat -> Bool
 | [] => true
 | k :: r => match subN nl (namesV (look E k)) with | true => subE nl E r | false => false
theorem subE_spec {nl : List Nat} {E : Ev} : ∀ {ks : List Nat}, subE nl E ks = true -> ∀ k ∈ ks, ∀ n ∈ namesV (look E k), n ∈ nl
 | [], _, k, h => by cases h
 | x :: r, hs, k, h => by
   simp only [subE] at hs
   split at hs
   ·rename_i hx
    rcases List.mem_cons.1 h with rfl | h
    ·exact subN_spec hx
    ·exact subE_spec hs k h
   ·cases hs
def subH (nl : List Nat) (H : Hp AV) : List Nat -> Bool
 | [] => true
 | m :: r => match (match hget H m with | some c => subN nl (namesL c.cellsOf) | none => true) with | true => subH nl H r | false => false
theorem subH_spec {nl : List Nat} {H : Hp AV} : ∀ {l : List Nat}, subH nl H l = true -> ∀ m ∈ l, ∀ c, hget H m = some c -> ∀ n ∈ namesL c.cellsOf, n ∈ nl
 | [], _, m, h => by cases h
 | x :: r, hs, m, h => by
   simp only [subH] at hs
   split at hs
   ·rename_i hx
    rcases List.mem_cons.1 h with rfl | h
    ·intro c hc
     rw [hc] at hx
     exact subN_spec hx
    ·exact subH_spec hs m h
   ·cases hs
def fixN : Nat -> Nat -> List Nat -> Bool
 | 0, _, _ => true
 | L + 1, i, x :: r => match Nat.beq x i with | true => fixN L (i + 1) r | false => false
 | _ + 1, _, [] => false
theorem fixN_spec : ∀ {L i : Nat} {nl : List Nat}, fixN L i nl = true -> L <= nl.length /\ ∀ n, n < L -> nl[n]? = some (i + n)
 | 0, _, _, _ => ⟨Nat.zero_le _, fun n h => by omega⟩
 | L + 1, i, [], h => by simp [fixN] at h
 | L + 1, i, x :: r, h => by
   simp only [fixN] at h
   split at h
   ·rename_i hx
    have hx := (beq_iff _ _).1 hx
    obtain ⟨h1, h2⟩ := fixN_spec h
    refine ⟨by simp; omega, fun n hn => ?_⟩
    cases n with
    | zero => simp [hx]
    | succ n =>
      rw [List.getElem?_cons_succ, h2 n (by omega)]
      congr 1
      omega
   ·cases h
def nodupL : List Nat -> Bool
 | [] => true
 | x :: r => match hasN r x with | true => false | false => nodupL r
theorem nodupL_spec : ∀ {l : List Nat}, nodupL l = true -> l.Nodup
 | [], _ => List.nodup_nil
 | x :: r, h => by
   simp only [nodupL] at h
   split at h
   ·cases h
   ·rename_i hx
    exact List.nodup_cons.2 ⟨(fun e => by rw [(hasN_iff _ _).2 e] at hx; cases hx), nodupL_spec h⟩
def foldB (L : Nat) (ks nl : List Nat) (s : St AV) : Bool :=
 match nodupL nl, fixN L 0 nl, subE nl s.E ks, subH nl s.H nl with | true, true, true, true => true | _, _, _, _ => false
theorem cell_ren_id {π σ : Nat -> Nat} {c : Chunk AV} (h : ∀ n ∈ namesL c.cellsOf, π (σ n) = n) : (c.ren σ).ren π = c := by
 have hl : ∀ l : List Cell, (∀ n ∈ namesL l, π (σ n) = n) -> (l.map (Cell.ren σ)).map (Cell.ren π) = l := fun l hl => by
  have := v1_ren_id (π := π) (σ := σ) (x := .agg l) hl
  simpa [V1.ren] using this
 cases c with
 | cells l ty => simp only [Chunk.ren]; rw [hl l h]
 | vec l es ty => simp only [Chunk.ren]; rw [hl l h]
 | dead => rfl
 | abs a => rfl
theorem refold_back {L nt : Nat} {ks nl : List Nat} {s : St AV} (h : foldB L ks nl s = true) (hG : N.G <= L) (hcl : Closed N (refold nl ks nt s)) :
 Back N L nt s (refold nl ks nt s) (nameOf nl) := by
 unfold foldB at h
 split at h
 ·rename_i h1 h2 h3 h4
  have h1 := nodupL_spec h1
  obtain ⟨h2, h2'⟩ := fixN_spec h2
  have h3 := subE_spec h3
  have h4 := subH_spec h4
  have hgt : ∀ n c, hget (refold nl ks nt s).H n = some c -> ∃ m d, nl[n]? = some m /\ hget s.H m = some d /\ c = d.ren (idxIn nl) := by
   intro n c hc
   rw [refold, hget_mapL] at hc
   split at hc
   ·rename_i m hm
    split at hc
    ·rename_i d hd
     cases hc
     exact ⟨m, d, hm, hd, rfl⟩
    ·cases hc
   ·cases hc
  have hnm : ∀ n m, nl[n]? = some m -> nameOf nl n = m := fun n m hm => by unfold nameOf; rw [nth_eq, hm]
  refine ⟨fun k hk hne => ?_, fun k hk => ?_, fun n c hc => ?_, fun n m c d hc hd he => ?_, fun n hn => ?_, fun n c hn hc => ?_, ?_, hG, hcl⟩
  ·have e : look (refold nl ks nt s).E k = match hasN ks k with | true => (look s.E k).ren (idxIn nl) | false => .unk := by
    rw [refold, only_look, if_pos hk, look_map (fun v => v.ren (idxIn nl)) rfl]
    cases hasN ks k <;> rfl
   cases hh : hasN ks k with
   | false => rw [e, hh] at hne; exact absurd rfl hne
   | true =>
     rw [e, hh]
     exact (sv_ren_id fun n hn => nameOf_idx (h3 k ((hasN_iff _ _).1 hh) n hn)).symm
  ·rw [refold, only_look, if_neg (by omega)]
  ·obtain ⟨m, d, g1, g2, rfl⟩ := hgt n c hc
   rw [hnm n m g1, cell_ren_id fun x hx => nameOf_idx (h4 m (List.mem_of_getElem? g1) d g2 x hx)]
   exact ⟨d, g2, Lesser.refl d⟩
  ·obtain ⟨x, _, g1, _, _⟩ := hgt n c hc
   obtain ⟨y, _, g2, _, _⟩ := hgt m d hd
   rw [hnm n x g1, hnm m y g2] at he
   subst he
   obtain ⟨b1, e1⟩ := List.getElem?_eq_some_iff.1 g1
   exact (List.getElem?_inj b1 h1).1 (g1.trans g2.symm)
  ·rw [hnm n n (by rw [h2' n hn]; simp)]
  ·refine ⟨c.ren (idxIn nl), ?_⟩
   rw [refold, hget_mapL, h2' n hn]
   simp [hc]
  ·show L <= (nl.map _).length
   rw [List.length_map]; exact h2
 ·cases h
theorem Back.less {L nt : Nat} {s t u : St AV} {π : Nat -> Nat} (h : Back N L nt s t π) (hE : u.E = t.E) (hlen : u.H.length = t.H.length) (hH : ∀ n, (hget t.H n = none /\ hget u.H n = none) \/ ∃ d c, hget t.H n = some d /\ hget u.H n = some c /\ Lesser N (d.ren π) (c.ren π)) (hcl : Closed N u) : Back N L nt s u π := by
 have get : ∀ n c, hget u.H n = some c -> ∃ d, hget t.H n = some d /\ Lesser N (d.ren π) (c.ren π) := fun n c hc => by
  rcases hH n with ⟨_, h2⟩ | ⟨d, c', h1, h2, h3⟩
  ·rw [h2] at hc; cases hc
  ·rw [h2] at hc; cases hc; exact ⟨d, h1, h3⟩
 refine ⟨fun k hk hne => ?_, fun k hk => by rw [hE]; exact h.Eo k hk, fun n c hc => ?_, fun n m c d hc hd he => ?_, h.fix, fun n c hn hc => ?_, by rw [hlen]; exact h.len, h.G, hcl⟩
 ·rw [hE] at hne ⊢; exact h.E k hk hne
 ·obtain ⟨d, g1, g2⟩ := get n c hc
  obtain ⟨e, g3, g4⟩ := h.H n d g1
  exact ⟨e, g3, fun ρ m w => ⟨fun hq => (g2 ρ m w).1 ((g4 ρ m w).1 hq), fun k => ((g2 ρ m w).2 k).trans ((g4 ρ m w).2 k)⟩⟩
 ·obtain ⟨x, g1, _⟩ := get n c hc
  obtain ⟨y, g2, _⟩ := get m d hd
  exact h.inj n m x y g1 g2 he
 ·obtain ⟨c', hc'⟩ := h.keep n c hn hc
  rcases hH n with ⟨h1, _⟩ | ⟨d, c2, h1, h2, _⟩
  ·rw [h1] at hc'; cases hc'
  ·exact ⟨c2, h2⟩
end Go.Sx

namespace Go.Sx
set_option linter.unusedVariables false
variable {AV : Type} {P : Program} {N : Env AV}
def iter {M : Type} (step : M -> T (Ex × M)) : Nat -> M -> Option (Ex × M)
 | 0, _ => none
 | k + 1, m => match (step m).val with
   | some (.normal, m') => iter step k m'
   | some (.exit i, m') => some (.exit i, m')
   | some (.ret, m') => some (.ret, m')
   | none => none
theorem iter_last {M : Type} {step : M -> T (Ex × M)} {ex : Ex} {m' : M} : ∀ {k : Nat} {m : M}, iter step k m = some (ex, m') -> ∃ m1, (step m1).val = some (ex, m')
 | 0, m, h => by cases h
 | k + 1, m, h => by
   simp only [iter] at h
   split at h
   ·exact iter_last h
   ·rename_i hs; cases h; exact ⟨m, hs⟩
   ·rename_i hs; cases h; exact ⟨m, hs⟩
   ·cases h
def seqN : Nat -> Nat -> List Nat
 | _, 0 => []
 | i, n + 1 => i :: seqN (i + 1) n
def namesE (E : Ev) : List Nat -> List Nat
 | [] => []
 | k :: r => namesV (look E k) ++ namesE E r
def namesAt (H : Hp AV) : List Nat -> List Nat
 | [] => []
 | n :: r => (match hget H n with | some c => namesL c.cellsOf | none => []) ++ namesAt H r
def ordI (H : Hp AV) : Nat -> List Nat -> List Nat
 | 0, a => a
 | k + 1, a => match uniq a (namesAt H a) with
   | b => match Nat.beq b.length a.length with
     | true => b
     | false => ordI H k b
def canonN (L : Nat) (ks : List Nat) (s : St AV) : List Nat := match uniq (seqN 0 L) (namesE s.E ks) with
 | a => ordI s.H 9 a
def packC (pk : Chunk AV -> Option AV) : Option (Chunk AV) -> Option (Chunk AV)
 | none => none
 | some c => match pk c with | some a => some (.abs a) | none => some c
def packS (pk : Chunk AV -> Option AV) (s : St AV) : St AV := { E := s.E, H := s.H.map (packC pk) }
def clKs (H : Hp AV) (E : Ev) : List Nat -> Bool
 | [] => true
 | k :: r => match clV H (look E k) with | true => clKs H E r | false => false
theorem clKs_spec {H : Hp AV} {E : Ev} : ∀ {ks : List Nat}, clKs H E ks = true -> ∀ k ∈ ks, ClV H (look E k)
 | [], _, k, h => by cases h
 | x :: r, hs, k, h => by
   simp only [clKs] at hs
   split at hs
   ·rename_i hx
    rcases List.mem_cons.1 h with rfl | h
    ·exact clV_iff.1 hx
    ·exact clKs_spec hs k h
   ·cases hs
def backS (L nt : Nat) (ks : List Nat) (pk : Chunk AV -> Option AV) (r : Ex × St AV) : T (Ex × St AV) :=
 match canonN L ks r.2 with
 | nl => match foldB L ks nl r.2 with
   | false => .fail "back: names"
   | true => match refold nl ks nt r.2 with
     | s => match packS pk s with
       | t => match clKs s.H s.E ks, clHs s.H s.H, clKs t.H t.E ks, clHs t.H t.H with
         | true, true, true, true => .leaf (r.1, t)
         | _, _, _, _ => .fail "back: closed"
theorem closed_only {nt : Nat} {ks : List Nat} {E : Ev} {H : Hp AV} (h1 : clKs H (only ks E nt) ks = true) (h2 : clHs H H = true) : Closed N { E := only ks E nt, H := H } := by
 refine ⟨fun k => ?_, clHs_iff.1 h2⟩
 by_cases hk : k < nt
 ·cases hh : hasN ks k with
  | true => exact clKs_spec h1 k ((hasN_iff _ _).1 hh)
  | false =>
    simp only [only_look, if_pos hk, hh]
    trivial
 ·simp only [only_look, if_neg hk]
  exact undef_cl _
theorem packC_ren {pk : Chunk AV -> Option AV} (hpk : ∀ d a, pk d = some a -> ∀ π, Lesser N (d.ren π) (.abs a)) (π : Nat -> Nat) (d : Chunk AV) : ∃ c, packC pk (some d) = some c /\ Lesser N (d.ren π) (c.ren π) := by
 simp only [packC]
 split
 ·rename_i a ha; exact ⟨_, rfl, hpk d a ha π⟩
 ·exact ⟨d, rfl, Lesser.refl _⟩
theorem hget_mapF (f : Option (Chunk AV) -> Option (Chunk AV)) (h0 : f none = none) : ∀ (H : Hp AV) (n : Nat), hget (H.map f) n = f (hget H n)
 | [], n => by cases n <;> simp [hget, h0]
 | x :: r, 0 => rfl
 | x :: r, n + 1 => by simp only [List.map_cons, hget]; exact hget_mapF f h0 r n
theorem backS_ok {L nt : Nat} {ks : List Nat} {pk : Chunk AV -> Option AV} (hpk : ∀ d a, pk d = some a -> ∀ π, Lesser N (d.ren π) (.abs a)) (hG : N.G <= L) {r r' : Ex × St AV} (h : (backS L nt ks pk r).val = some r') : r'.1 = r.1 /\ ∃ π, Back N L nt r.2 r'.2 π := by
 unfold backS at h
 simp only at h
 split at h
 ·simp [T.val] at h
 ·rename_i hf
  split at h
  ·rename_i h1 h2 h3 h4
   simp only [T.val, Option.some.injEq] at h
   subst h
   refine ⟨rfl, _, (refold_back hf hG (closed_only h1 h2)).less rfl (by simp [packS]) (fun n => ?_) (closed_only h3 h4)⟩
   show _ \/ ∃ d c, _ /\ hget ((refold _ ks nt r.2).H.map (packC pk)) n = some c /\ _
   rw [hget_mapF _ rfl]
   cases hd : hget (refold (canonN L ks r.2) ks nt r.2).H n with
   | none => exact .inl ⟨rfl, by show hget ((refold _ ks nt r.2).H.map (packC pk)) n = none; rw [hget_mapF _ rfl, hd]; rfl⟩
   | some d =>
     obtain ⟨c, g1, g2⟩ := packC_ren hpk (nameOf (canonN L ks r.2)) d
     exact .inr ⟨d, c, rfl, g1, g2⟩
  ·simp [T.val] at h
def Enter (N : Env AV) (nt : Nat) (s t : St AV) : Prop := Closed N s -> Closed N t /\ s.H.length <= t.H.length /\ ∀ (ρ : Nm) (a : Act) (w : World), At N nt ρ s a w -> ∃ ρ', At N nt ρ' t a w /\ Evo N s.H.length ρ s.H w ρ' t.H w
theorem enter_says {nt : Nat} {s t : St AV} (hE : Says nt s.E t.E) (hH : t.H = s.H) : Enter N nt s t := by
 obtain ⟨E, H⟩ := t
 simp only at hE hH
 subst hH
 exact fun h => ⟨Says.closed (N := N) (N' := N) hE h, Nat.le_refl _, fun ρ a w hat => ⟨ρ, ⟨hE.em hat.em, hat.own⟩, Evo.refl _ _ _ _⟩⟩
theorem Enter.trans {nt : Nat} {s t u : St AV} (h1 : Enter N nt s t) (h2 : Enter N nt t u) : Enter N nt s u := fun h => by
 obtain ⟨c1, l1, k1⟩ := h1 h
 obtain ⟨c2, l2, k2⟩ := h2 c1
 exact ⟨c2, Nat.le_trans l1 l2, fun ρ a w hat => by
  obtain ⟨ρ1, a1, e1⟩ := k1 ρ a w hat
  obtain ⟨ρ2, a2, e2⟩ := k2 ρ1 a w a1
  exact ⟨ρ2, a2, e1.trans (e2.weaken l1)⟩⟩
structure ItAt (N : Env AV) (cal : Callee AV) (lp : Nat -> Option (St AV -> T (Ex × St AV))) (nt : Nat) (c : Code) (s s' : St AV) (ex : Ex) where
 M : Type
 fam : M -> St AV
 step : M -> T (Ex × M)
 ks : List Nat
 pk : Chunk AV -> Option AV
 hpk : ∀ d a, pk d = some a -> ∀ π, Lesser N (d.ren π) (.abs a)
 L : Nat
 len : s.H.length = L
 hGL : N.G <= L
 run : ∀ m r, (step m).val = some r -> ((xc N cal lp nt c (fam m)).bind (backS L nt ks pk)).val = some (r.1, fam r.2)
 m : M
 k : Nat
 m' : M
 ent : Enter N nt s (fam m)
 it : iter step k m = some (ex, m')
 fin : s' = fam m'
theorem loopOk_it {N N' : Env AV} (hF : N'.F = N.F) (hG : N'.G = N.G) (hT : TblOk P N) {cal : Callee AV} (hcal : CalOk P N cal) {lp : Nat -> Option (St AV -> T (Ex × St AV))} {nt : Nat} {c : Code} (hlp : LpOk P N nt c lp)
 {g : St AV -> T (Ex × St AV)} (h : ∀ s s' ex, (g s).val = some (ex, s') -> Nonempty (ItAt N cal lp nt c s s' ex)) : LoopOk P N' nt c g := by
 intro L0 s s' ex hg hcl hL
 obtain ⟨M, fam, step, ks, pk, hpk, L, rfl, hGL, hrun, m, k, m', hent, hit, rfl⟩ := h s s' ex hg
 have one : ∀ m r, (step m).val = some r -> ∃ s1, (xc N cal lp nt c (fam m)).val = some (r.1, s1) /\ ∃ π, Back N s.H.length nt s1 (fam r.2) π := fun m r hr => by
  obtain ⟨⟨e1, s1⟩, h1, h2⟩ := T.bind_some (hrun m r hr)
  obtain ⟨h3, π, h4⟩ := backS_ok hpk hGL h2
  simp only at h3 h4
  exact ⟨s1, by rw [h3]; exact h1, π, h4⟩
 have hclN : Closed N s := closed_env N hcl
 obtain ⟨m1, hm1⟩ := iter_last hit
 obtain ⟨s1, _, _, hb1⟩ := one m1 _ hm1
 simp only at hb1
 refine ⟨closed_env N' hb1.cl, Nat.le_trans hL hb1.len, fun {ρ a w} hat => ?_⟩
 have hatN : At N nt ρ s a w := ⟨hat.em, own_env hF.symm hG.symm hat.own⟩
 obtain ⟨hent1, hent2, hent3⟩ := hent hclN
 obtain ⟨ρ1, hat1, hev1⟩ := hent3 ρ a w hatN
 refine wp_loop_rounds (k + 1) (loop_ren hT hcal hlp (ι := { p : Nat × M // iter step p.1 p.2 = some (ex, m') }) (fun p => fam p.1.2) (fun p => p.1.1) (fun e s1 => e = ex /\ ∃ π, Back N s.H.length nt s1 (fam m') π) s.H.length (fun i => ?_) (ρ0 := ρ) (H0 := s.H) (w0 := w) rfl (k + 1) ⟨(k, m), hit⟩ (by simp) hent1 hent2 ρ1 a w hat1 hev1 _ ?_)
 ·obtain ⟨⟨j, n⟩, hi⟩ := i
  cases j with
  | zero => cases hi
  | succ j =>
    simp only [iter] at hi
    split at hi
    ·rename_i m2 hs
     obtain ⟨s2, g1, π, g2⟩ := one n _ hs
     exact ⟨.normal, s2, g1, ⟨(j, m2), hi⟩, π, by simp, g2⟩
    ·rename_i id m2 hs
     cases hi
     obtain ⟨s2, g1, π, g2⟩ := one n _ hs
     exact ⟨.exit id, s2, g1, rfl, π, g2⟩
    ·rename_i m2 hs
     cases hi
     obtain ⟨s2, g1, π, g2⟩ := one n _ hs
     exact ⟨.ret, s2, g1, rfl, π, g2⟩
    ·cases hi
 ·rintro ex1 s2 ρ2 a' w' ⟨rfl, π, hb⟩ _ _ hat2 hev2 d2
  have h3 := hb.at hat2
  exact ⟨rfl, ⟨ρ2.ren π, h3.em, own_env hF hG h3.own, evo_env N' ((hb.evo rfl hev2).weaken hL)⟩, d2⟩
end Go.Sx

namespace Go.Proofs.YthdmoahfeimdaaaGreatDoor
open Go Go.Sx Go.Proofs
set_option linter.unusedVariables false
set_option maxRecDepth 100000
def ztW (t : TypeId) : Option V1 := match Nat.beq t 3 with
 | true => some (.c (.il .i64 0))
 | false => none
def isZ0 : Option Value -> Bool | some (.int .i64 0) => true | _ => false
theorem ztW_ok : ZtOk Tryz.prog ztW := by
 have h0 : (match Tryz.prog.info? 3 with | some i => isZ0 i.zero | none => false) = true := by kernel_rfl
 intro t z h
 unfold ztW at h
 split at h
 ·rename_i ht
  have ht := (beq_iff _ _).1 ht
  subst ht
  cases h
  refine ⟨fun c hc => (by rw [List.mem_singleton.1 hc]; rfl), ?_⟩
  split at h0
  ·rename_i i hi
   unfold isZ0 at h0
   split at h0
   ·rename_i hz
    exact ⟨i, _, hi, hz, fun _ => rfl⟩
   ·cases h0
  ·cases h0
 ·cases h
abbrev Lp := FuncId -> Nat -> Option (St AV -> T (Ex × St AV))
def noLp : Lp := fun _ _ => none
abbrev gN : Nat := 14
def ltN (k : Nat) : List Nat -> List Nat
 | [] => []
 | x :: r => match Nat.blt x k with | true => x :: ltN k r | false => ltN k r
def mapTr {α β : Type} (f : α -> β) : Tr α -> Tr β
 | .lf => .lf
 | .nd x l r => .nd (match x with | some x => some (f x) | none => none) (mapTr f l) (mapTr f r)
noncomputable def guW : Tr (List Nat) := mapTr (ltN gN) gu
noncomputable def NVl (lp : Lp) (σ : Sg) : Env AV := { tt := tt, ft := ft, gu := guW, G := gN, F := avF σ, hv := hvS (avF σ) tt ztW slT gN, lp := lp, mt := mtF, sl := slT }
noncomputable abbrev NV (σ : Sg) : Env AV := NVl noLp σ
variable {σ : Sg} {lp : Lp}
theorem okV0 : TblOk Tryz.prog { tt := tt, ft := ft, gu := gu, G := gN, F := avF σ, hv := hvS (avF σ) tt ztW slT gN, lp := lp, mt := mtF, sl := slT } := tblOk_mt (tblOk gN (avF σ) (hvS (avF σ) tt ztW slT gN) lp) rfl rfl rfl rfl
theorem okV : TblOk Tryz.prog (NVl lp σ) := by
 obtain ⟨a, b, c, d, e⟩ := okV0 (σ := σ) (lp := lp)
 exact ⟨a, b, c, d, e⟩
theorem lpsV : LpsOk Tryz.prog (NV σ) := fun f fn c _ _ id b _ g hg => by cases hg
theorem hvV : HvOk Tryz.prog (NVl lp σ) := hvS_ok okV slOk ztW_ok rfl
theorem fnOk_env {N N' : Env AV} (hF : N'.F = N.F) (hG : N'.G = N.G) {f : FuncId} {g : List SV -> Hp AV -> T (SV × Hp AV)} (h : FnOk Tryz.prog N f g) : FnOk Tryz.prog N' f g := fun args H v H' hr ha hC => by
 obtain ⟨h1, h2, h3⟩ := h args H v H' hr ha ⟨hC.1, trivial⟩
 refine ⟨h1, ⟨h2.1, trivial⟩, fun ρ w hO => (h3 ρ w (own_env hF.symm hG.symm hO)).mono ?_⟩
 rintro e w' ⟨ρ', he, o, ev⟩
 exact ⟨ρ', he, own_env hF hG o, evo_env N' ev⟩
abbrev Tab := FuncId -> Option (List SV -> Hp AV -> T (SV × Hp AV))
theorem fnV (hlp : LpsOk Tryz.prog (NVl lp σ)) {tab : Tab} (ht : TabOk Tryz.prog (NVl lp σ) tab) (n : Nat) (f : FuncId) : FnOk Tryz.prog (NVl lp σ) f (lv (NVl lp σ) tab n (.fn f)) := lv_fn okV hlp hvV ht n f
def tabAdd (f : FuncId) (g : List SV -> Hp AV -> T (SV × Hp AV)) (tab : Tab) : Tab := fun x => match Nat.beq x f with
 | true => some g
 | false => tab x
theorem tabAdd_ok {f : FuncId} {g : List SV -> Hp AV -> T (SV × Hp AV)} {tab : Tab} (hg : FnOk Tryz.prog (NVl lp σ) f g) (ht : TabOk Tryz.prog (NVl lp σ) tab) : TabOk Tryz.prog (NVl lp σ) (tabAdd f g tab) := by
 intro x y h
 unfold tabAdd at h
 split at h
 ·rename_i e
  have e := (beq_iff _ _).1 e
  subst e
  cases h
  exact hg
 ·exact ht x y h
theorem tab0_ok : TabOk Tryz.prog (NVl lp σ) (fun _ => none) := fun x y h => by cases h
noncomputable def tabA : Tab := tabAdd 116 countG (tabAdd 139 indexG (tabAdd 29 joinG (tabAdd 28 wsG (tabAdd 30 wbG (tabAdd 17 stringG fun _ => none)))))
theorem tabA_ok : TabOk Tryz.prog (NVl lp σ) tabA :=
 tabAdd_ok countG_ok (tabAdd_ok indexG_ok (tabAdd_ok (joinG_ok rfl) (tabAdd_ok (wsG_ok rfl) (tabAdd_ok (wbG_ok rfl) (tabAdd_ok (stringG_ok rfl) tab0_ok)))))
noncomputable def tabT : Tab := tabAdd 15 itoaG (tabAdd 29 joinG (tabAdd 28 wsG (tabAdd 30 wbG (tabAdd 17 stringG fun _ => none))))
theorem tabT_ok (ht : TabR σ) : TabOk Tryz.prog (NVl lp σ) tabT :=
 tabAdd_ok (itoaG_ok rfl ht) (tabAdd_ok (joinG_ok rfl) (tabAdd_ok (wsG_ok rfl) (tabAdd_ok (wbG_ok rfl) (tabAdd_ok (stringG_ok rfl) tab0_ok))))
def allM : List Bool := List.replicate gN true
def hpO (M : List Bool) (l : List AV) : Hp AV := sentL AV.sent 0 M ++ absL l
end Go.Proofs.YthdmoahfeimdaaaGreatDoor
