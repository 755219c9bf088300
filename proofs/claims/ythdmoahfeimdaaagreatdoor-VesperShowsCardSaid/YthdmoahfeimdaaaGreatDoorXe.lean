import Derived.Test.YthdmoahfeimdaaaGreatDoorWh
import Derived.Test.YthdmoahfeimdaaaGreatDoorSxM
import Derived.Deep.Slices
import Derived.Lib.LaidTab
import Derived.LaidSub
namespace Go.Proofs.YthdmoahfeimdaaaGreatDoor
open Go Go.Sx Go.Proofs Go.ChangeShapes Go.WideShapes
set_option linter.unusedVariables false
set_option maxRecDepth 100000
section
variable {P : Program} {W : World}
theorem laid_split : ∀ {l1 l2 : List (String × DataW Unit)} {ps : List MemPlace}, DataW.LaidVars P W (l1 ++ l2) ps -> ∃ p1 p2, ps = p1 ++ p2 /\ DataW.LaidVars P W l1 p1 /\ DataW.LaidVars P W l2 p2
 | [], l2, ps, h => ⟨[], ps, rfl, rfl, h⟩
 | (n, d) :: l1, l2, ps, h => by
   obtain ⟨g, t, cs, fuel, p, q, h1, h2, h3, h4, h5, rfl⟩ := h
   obtain ⟨p1, p2, rfl, g1, g2⟩ := laid_split h5
   exact ⟨MemPlace.row ⟨g, 0, none⟩ cs.size ++ p ++ p1, p2, by simp, ⟨g, t, cs, fuel, p, p1, h1, h2, h3, h4, g1, rfl⟩, g2⟩
theorem sents3 {ti tp te ts : TypeId} (S : SentTy P ti tp te ts) : ∀ {l : List (String × List UInt8)} {gs : List Nat} {ps : List MemPlace},
 l.map (fun x => P.globalNamed x.1) = gs.map some -> (∀ g ∈ gs, (P.globals[g]?).map (·.type) = some ti) -> gs.Nodup ->
 DataW.LaidVars P W (l.map fun x => (x.1, sent x.2)) ps -> ps.Nodup -> (∀ b off, MemPlace.cell b off ∈ ps -> (∃ c t, W.heap[b]? = some (.cells c t (0, 0))) /\ ∀ u v, W.cell? ⟨b, off, none⟩ = some (.iface u v) -> Value.okWide P W .any 0 u v) ->
 ∃ ad : Nat -> Addr, (∀ i ∈ gs, ∀ j ∈ gs, i ≠ j -> ad i ≠ ad j) /\ ∀ i ∈ gs, MemPlace.cell (ad i).block (ad i).off ∈ ps /\ (∃ s, W.cell? (ad i) = some (.string s)) /\ ∃ t, W.heap[i]? = some (.cells #[.iface tp (.pointer (some (ad i)))] t (0, 0))
 | [], [], _, _, _, _, _, _, _ => ⟨fun _ => default, (fun i h => by cases h), fun i h => by cases h⟩
 | [], _ :: _, _, h, _, _, _, _, _ => by simp at h
 | _ :: _, [], _, h, _, _, _, _, _ => by simp at h
 | (n, text) :: l, g :: gs, ps, hn, ht, hgn, h, hnd, hr => by
   simp only [List.map_cons, List.cons.injEq] at hn
   obtain ⟨g', t, cs, fuel, p, q, hg, hty, hv, hd, hq, rfl⟩ := h
   obtain rfl := Option.some.inj (hn.1.symm.trans hg)
   obtain rfl := Option.some.inj ((ht g (List.mem_cons_self ..)).symm.trans hty)
   obtain ⟨l0⟩ := cs
   obtain ⟨ms, hi⟩ := S.hi
   obtain ⟨f, he, hft, hfo⟩ := S.he
   have ok0 : ∀ u v, l0 = [.iface u v] -> Value.okWide P W .any 0 u v := fun u v e => by
    subst e
    exact (hr g 0 (by simp [MemPlace.row])).2 u v (by simpa using World.var?_cell hg hv 0)
   obtain ⟨a, s, rfl, hc0, hs0, hz0, rfl⟩ := errorString_of_trod hi S.row S.hp he hft hfo S.hs S.hc S.hcs hd ok0
   have hnd' := List.nodup_append.1 hnd
   have hgn' := List.nodup_cons.1 hgn
   obtain ⟨ad, h1, h2⟩ := sents3 S hn.2 (fun x hx => ht x (List.mem_cons_of_mem _ hx)) hgn'.2 hq hnd'.2.1 (fun b off hb => hr b off (List.mem_append_right _ hb))
   have self : MemPlace.cell a.block a.off ∈ MemPlace.row ⟨g, 0, none⟩ 1 ++ MemPlace.row a 1 := List.mem_append_right _ (by simp [MemPlace.row])
   have isg : ∀ i ∈ gs, i ≠ g := fun i hi e => hgn'.1 (e ▸ hi)
   have apart : ∀ i ∈ gs, ad i ≠ a := fun i hi e => by
    have := (h2 i hi).1
    rw [e] at this
    exact hnd'.2.2 _ self _ this rfl
   refine ⟨fun i => if i = g then a else ad i, fun i hi j hj hij => ?_, fun i hi => ?_⟩
   ·rcases List.mem_cons.1 hi with rfl | hi2
    ·rcases List.mem_cons.1 hj with rfl | hj
     ·exact absurd rfl hij
     ·simp only [if_pos rfl, if_neg (isg j hj)]; exact fun e => apart j hj e.symm
    ·rcases List.mem_cons.1 hj with ej | hj
     ·subst ej
      simp only [if_pos rfl, if_neg (isg i hi2)]; exact apart i hi2
     ·simp only [if_neg (isg i hi2), if_neg (isg j hj)]; exact h1 i hi2 j hj hij
   ·rcases List.mem_cons.1 hi with rfl | hi
    ·simp only [if_pos rfl]
     refine ⟨List.mem_append_left _ self, ⟨s, hc0⟩, ?_⟩
     obtain ⟨c, t, hb⟩ := (hr i 0 (by simp [MemPlace.row])).1
     refine ⟨t, ?_⟩
     simp only [World.var?, hg, Option.bind_some, hb] at hv
     rw [hb]
     simpa using hv
    ·simp only [if_neg (isg i hi)]
     obtain ⟨g1, g2, g3⟩ := h2 i hi
     exact ⟨List.mem_append_right _ g1, g2, g3⟩
def texts {H : Type} (txs : List (List UInt8)) : DataW H := .agg (txs.map fun x => .lit (.string x))
theorem cells_of_texts {H : Type} {enc : TypeId × Value -> H} {w : World} {base : Nat} {sp : Nat -> Bool} {held : Bool} {fuel : Nat} {t e : TypeId} {n : Nat} {cs : List Value} {txs : List (List UInt8)} {p : List MemPlace}
 (ht : P.underlying t = some (.array n e)) (he : P.underlying e = some .string) (hce : P.cellsOf e = 1) (hct : P.cellsOf t = n)
 (h : DataW.trod enc P w base sp held fuel t cs = some (texts txs, p)) : cs = txs.map fun x => Value.string ⟨x.toArray⟩ := by
 cases fuel with
 | zero => simp [DataW.trod] at h
 | succ fuel =>
   simp only [DataW.trod, ht, hce, hct, Nat.mul_one] at h
   split at h
   ·rename_i hl
    obtain ⟨xs, hm, hx⟩ := Option.map_eq_some_iff.1 h
    have hxs : xs.map (·.1) = txs.map fun z => (DataW.lit (.string z) : DataW H) := by
     have := congrArg Prod.fst hx
     simpa [texts] using this
    have hxl : xs.length = n := by simpa using Lib.mapM_length hm
    have hzl : txs.length = n := by
     have := congrArg List.length hxs
     simp at this
     omega
    apply List.ext_getElem?
    intro i
    by_cases hi : i < n
    ·obtain ⟨b, hb, hf⟩ := Lib.mapM_at hm i i (by simp [hi])
     obtain ⟨z, hc, rfl, _⟩ := DataW.trod_string he hf
     have h1 : cs[i]? = some (.string z) := by
      have := congrArg (·[0]?) hc
      simpa [List.getElem?_take, List.getElem?_drop] using this
     have h2 : (xs.map (·.1))[i]? = some (DataW.lit (.string z.data.toList) : DataW H) := by simp [hb]
     rw [hxs] at h2
     simp only [List.getElem?_map, Option.map_eq_some_iff, DataW.lit.injEq, Lit.string.injEq] at h2
     obtain ⟨z', hz', rfl⟩ := h2
     simp [h1, hz']
    ·rw [List.getElem?_eq_none (by omega), List.getElem?_eq_none (by simp; omega)]
   ·cases h
theorem table_head {name : String} {txs : List (List UInt8)} {rest : List (String × DataW Unit)} {g : Nat} {t e : TypeId} {n : Nat} {ps : List MemPlace}
 (hg : P.globalNamed name = some g) (hty : (P.globals[g]?).map (·.type) = some t) (ht : P.underlying t = some (.array n e)) (he : P.underlying e = some .string) (hce : P.cellsOf e = 1) (hct : P.cellsOf t = n)
 (h : DataW.LaidVars P W ((name, texts txs) :: rest) ps) : ∃ q r, (∃ c t z, W.heap[g]? = some (.cells c t z) /\ c = (txs.map fun x => Value.string ⟨x.toArray⟩).toArray) /\ (∀ off, off < txs.length -> MemPlace.cell g off ∈ r) /\ ps = r ++ q /\ DataW.LaidVars P W rest q := by
 obtain ⟨g', t', cs, fuel, p, q, hg', ht', hvar, hd, hq, rfl⟩ := h
 obtain rfl := Option.some.inj (hg.symm.trans hg')
 obtain rfl := Option.some.inj (hty.symm.trans ht')
 have e1 := cells_of_texts ht he hce hct hd
 refine ⟨q, MemPlace.row ⟨g, 0, none⟩ cs.size ++ p, ?_, fun off ho => ?_, rfl, hq⟩
 ·unfold World.var? at hvar
  rw [hg, Option.bind_some] at hvar
  split at hvar
  ·rename_i c t z hb
   cases hvar
   exact ⟨_, _, _, hb, by rw [<- e1]⟩
  ·cases hvar
 ·refine List.mem_append_left _ ?_
  have : cs.size = txs.length := by
   have := congrArg List.length e1
   simpa using this
  simp [MemPlace.row, this, ho]
end
def sgOf (W : World) (ad : Nat -> Addr) : Sg := ⟨ad, fun k => if k < 14 then none else W.heap[k]?⟩
theorem sgOf_has (W : World) (ad : Nat -> Addr) : (sgOf W ad).has W := fun k o h => by
 unfold sgOf at h
 simp only at h
 split at h
 ·cases h
 ·exact h
theorem sgOf_tab {W : World} {ad : Nat -> Addr} (h : Lib.TabIs Tryz.prog W "internal/strconv.uint64pow10" .u64 Lib.pow10Tab) : TabR (sgOf W ad) := by
 have hg : Tryz.prog.globalNamed "internal/strconv.uint64pow10" = some 14 := by kernel_rfl
 unfold Lib.TabIs World.var? at h
 rw [hg, Option.bind_some] at h
 have hR : (sgOf W ad).R 14 = W.heap[(14 : Nat)]? := by
  show (if 14 < 14 then none else W.heap[(14 : Nat)]?) = _
  exact if_neg (by decide)
 unfold TabR
 rw [hR]
 split at h
 ·rename_i c ty z hb
  cases h
  exact ⟨ty, z, hb⟩
 ·cases h
theorem slice_ok {W : World} {r : Reach} {b0 : Nat} {t e : TypeId} {v : Value} (ht : Tryz.prog.underlying t = some (.slice e)) (hval : Value.okWide Tryz.prog W r b0 t v) : v = .slice none 0 0 \/ ∃ b o len cap, v = .slice (some ⟨b, o, none⟩) len cap /\ len <= cap := by
 unfold Value.okWide at hval
 rw [ht] at hval
 unfold Cell.okWide at hval
 rw [ht] at hval
 dsimp only at hval
 unfold Cell.ok at hval
 rw [ht] at hval
 cases v with
 | slice a len cap =>
   cases a with
   | none =>
     cases len with
     | zero =>
       cases cap with
       | zero => exact .inl rfl
       | succ => exact hval.elim
     | succ => exact hval.elim
   | some a =>
     obtain ⟨b, o, s⟩ := a
     obtain ⟨h1, _, _, h2, _⟩ := hval
     simp only at h2
     subst h2
     exact .inr ⟨b, o, len, cap, rfl, h1⟩
 | _ => exact hval.elim
def VarB (W : World) : Prop := ∀ k, k < 14 -> ∃ (cs : Array Value) (ty : TypeId) (z : Nat × Nat), W.heap[k]? = some (.cells cs ty z) /\ ∀ c ∈ cs.toList, (∃ t p, c = .iface t p) \/ ∃ s, c = .string s
theorem open_came {α : Type} [Inhabited α] (K : AK α) (good : α -> Prop) {H : Type} {enc : TypeId × Value -> H} {W : World} {base : Nat} {sp : Nat -> Bool} {held : Bool} {t e : TypeId} {ks : List FK} (ht : Tryz.prog.underlying t = some (.slice e)) (hc : Tryz.prog.cellsOf e = K.es) (hfl : flatT Tryz.prog 12 e = some ks) (hks : ks.length = K.es)
 (hdec : ∀ cs, flatOk ks cs -> flatW cs -> ∃ a : α, cs = denL Nm.id (K.enc a) /\ good a) (hno : ∀ (a : α) (j : Nat) (x : Value), (denL Nm.id (K.enc a))[j]? = some x -> (∀ t p, x ≠ .iface t p) /\ ∀ s, x ≠ .string s) {v : Value} {d : DataW H} {ps : List MemPlace}
 (hval : v = .slice none 0 0 \/ ∃ b o len cap, v = .slice (some ⟨b, o, none⟩) len cap /\ len <= cap) (hd : DataW.Trod enc Tryz.prog W base sp held t v d ps) {ad : Nat -> Addr} (hs : VarB W) :
 ∃ (lc : Sx.Loc) (l : List α), v = vsDen lc 0 l.length K.es /\ (∀ a ∈ l, good a) /\ fixQ (sgOf W ad) K l lc (fun _ => False) := by
 obtain ⟨fu, hfu⟩ := hd
 rcases hval with rfl | ⟨b, o, len, cap, rfl, hlc⟩
 ·exact ⟨⟨0, 0, 0⟩, [], rfl, (fun _ h => by cases h), fun k h => h, fun w _ => ⟨Nat.zero_le _, fun j v h => (by simp [AK.vals] at h)⟩⟩
 ·rcases Deep.open_slice ht hfu with ⟨h0, _⟩ | ⟨a, len', cap', m, n, D, Pl, hcs, hb, hl, hm, hmm, hx, hel⟩
  ·cases h0
  ·cases hcs
   have each : ∀ i, i < len -> ∃ x : α, good x /\ ∀ k, k < K.es -> W.cell? ((⟨b, o, none⟩ : Addr).add (i * K.es + k)) = (denL Nm.id (K.enc x))[k]? := fun i hi => by
    obtain ⟨cs', h1, h2⟩ := hel i (by rw [hmm]; split <;> omega)
    have hf := trod_flat 12 _ _ ks _ _ hfl h2 (by rw [hc, hks])
    have hw := trod_flatW 12 _ _ ks _ _ hfl h2 (by rw [hc, hks])
    obtain ⟨x, hx, hgx⟩ := hdec cs' hf hw
    obtain ⟨_, _, h5⟩ := World.cells?_some h1
    refine ⟨x, hgx, fun k hk => ?_⟩
    have := h5 k (by rw [hc]; exact hk)
    rw [Deep.add_add, hc] at this
    rw [this, hx]
   obtain ⟨f, hf⟩ := Deep.choose_lt each
   refine ⟨⟨b, o, cap + 1⟩, (List.range len).map f, ?_, fun a ha => ?_, fun k h => h, fun w hw => ⟨?_, fun j v hj => ?_⟩⟩
   ·rw [vsDen_eq, if_neg (fun h => by cases h.2)]
    simp
   ·obtain ⟨i, hi, rfl⟩ := List.mem_map.1 ha
    exact (hf i (by simpa using hi)).1
   ·rw [AK.vals_len]
    simp only [List.length_map, List.length_range, Nat.add_sub_cancel]
    exact Nat.mul_le_mul_right _ hlc
   ·have hjl : j < len * K.es := by
     have := (List.getElem?_eq_some_iff.1 hj).1
     rw [AK.vals_len] at this
     simpa using this
    have hpos : 0 < K.es := Nat.pos_of_ne_zero fun h => by rw [h] at hjl; omega
    have hi : j / K.es < len := (Nat.div_lt_iff_lt_mul hpos).2 hjl
    have hk : j % K.es < K.es := Nat.mod_lt _ hpos
    have ej : j = (j / K.es) * K.es + j % K.es := by rw [Nat.mul_comm]; exact (Nat.div_add_mod _ _).symm
    have hg := K.vals_get ((List.range len).map f) (j / K.es) (j % K.es) (by simpa using hi) hk
    rw [<- ej, hj] at hg
    have hfi : ((List.range len).map f).getD (j / K.es) K.dflt = f (j / K.es) := by simp [List.getD, hi]
    rw [hfi] at hg
    have hW := (hf _ hi).2 _ hk
    rw [<- ej, <- hg] at hW
    have hb3 : ¬ b < 14 := fun h3 => by
     obtain ⟨cs, ty, z, hh, hin⟩ := hs b h3
     have eb : ((⟨b, o, none⟩ : Addr).add j).block = b := by unfold Addr.add; split <;> rfl
     unfold World.cell? at hW
     rw [eb, hh] at hW
     simp only at hW
     split at hW
     ·cases hW
     ·have hm : v ∈ cs.toList := by
       obtain ⟨h1, h2⟩ := Array.getElem?_eq_some_iff.1 hW
       rw [<- h2]; simp
      obtain ⟨n1, n2⟩ := hno _ _ _ hg.symm
      rcases hin v hm with ⟨t, p, e⟩ | ⟨s, e⟩
      ·exact n1 t p e
      ·exact n2 s e
    have hR : (sgOf W ad).R b = W.heap[b]? := if_neg hb3
    have eb : ((⟨b, o, none⟩ : Addr).add j).block = b := by unfold Addr.add; split <;> rfl
    show w.cell? ((⟨b, o, none⟩ : Addr).add j) = some v
    cases hh : W.heap[b]? with
    | none =>
      unfold World.cell? at hW
      rw [eb, hh] at hW
      cases hW
    | some ob =>
      have := hw b ob (by rw [hR, hh])
      rw [<- hW]
      unfold World.cell?
      rw [eb, hh, this]
def nmL (L : List (Sx.Loc × AV)) : Nm := ⟨fun n => if n < 14 then ⟨n, 0, 0⟩ else (L.map Prod.fst).getD (n - 14) ⟨0, 0, 0⟩, fun n k => n < 14 /\ k = n⟩
theorem nmL_glob (L : List (Sx.Loc × AV)) {n : Nat} (h : n < 14) : (nmL L).L n = ⟨n, 0, 0⟩ := if_pos h
def VarS (σ : Sg) (W : World) : Prop := ∀ n, n < 14 -> W.heap[n]? = some (.cells (denL Nm.id (sentW σ n)).toArray (sentT n) (0, 0))
theorem quietX {σ : Sg} {lp : Lp} {f : FuncId} {args : List SV} {L : List (Sx.Loc × AV)} {v : SV} {l' : List (Chunk AV)} {W : World} (h : Ctr Tryz.prog (NVl lp σ) f args (hpO allM (L.map Prod.snd)) v (sentL AV.sent 0 allM ++ chL l')) (hv : ∀ ρ : Nm, v.den ρ = .bool true)
 (hq : ∀ x ∈ L, ∀ w, σ.has w -> (avF σ).q x.2 x.1 (fun _ => False) w) (hs : σ.has W) (hR : ∀ k, k < 14 -> σ.R k = none) (hg : VarS σ W) :
 Calls Tryz.prog f (args.map (SV.den (nmL L))).toArray W fun e w' => e = .returned (.bool true) /\ Quiet W w' := by
 have hlin : ∀ n, allM[n]? = some true ↔ n < 14 := fun n => by
  unfold allM
  rw [List.getElem?_replicate]
  by_cases h : n < gN
  ·rw [if_pos h]; exact ⟨fun _ => h, fun _ => rfl⟩
  ·rw [if_neg h]; exact ⟨(fun e => by cases e), fun e => absurd e h⟩
 have hal : allM.length = 14 := List.length_replicate
 have get : ∀ n c, hget (hpO allM (L.map Prod.snd)) n = some c -> (n < 14 /\ c = .abs (.sent n)) \/ ∃ x, L[n - 14]? = some x /\ 14 <= n /\ c = .abs x.2 := fun n c h => by
  unfold hpO at h
  rw [hget_append, sentL_len, hal] at h
  split at h
  ·obtain ⟨h1, h2⟩ := (sentL_get _ _ _ _ _).1 h
   exact .inl ⟨(hlin n).1 h1, by rw [h2, Nat.zero_add]⟩
  ·rename_i hn
   obtain ⟨a, h1, h2⟩ := (absL_get _ _ _).1 h
   rw [List.getElem?_map, Option.map_eq_some_iff] at h1
   obtain ⟨x, h1, h3⟩ := h1
   exact .inr ⟨x, h1, Nat.le_of_not_lt hn, by rw [h2, h3]⟩
 have fp : ∀ n c k, hget (hpO allM (L.map Prod.snd)) n = some c -> c.fp (nmL L) n k -> n < 14 /\ k = n := fun n c k h hk => by
  rcases get n c h with ⟨h1, rfl⟩ | ⟨x, h1, h2, rfl⟩
  ·have hk : n < 14 /\ k = n := hk
   exact ⟨h1, hk.2⟩
  ·have hk : n < 14 /\ k = n := hk
   omega
 have hO : Own (NVl lp σ) (nmL L) (hpO allM (L.map Prod.snd)) W := by
  refine ⟨⟨fun n c h => ?_, fun n m c d hnm h h' k hk hk' => ?_, fun g hg' => ?_⟩, ⟨hs, fun n c k h hk => ?_⟩⟩
  ·rcases get n c h with ⟨h1, rfl⟩ | ⟨x, h1, h2, rfl⟩
   ·have e : (nmL L).L n = ⟨n, 0, 0⟩ := nmL_glob L h1
    show AV.q σ (.sent n) ((nmL L).L n) ((nmL L).S n) W
    refine ⟨fun k => ?_, ?_⟩
    ·show (n < 14 /\ k = n) ↔ k = ((nmL L).L n).b
     rw [e]
     exact ⟨fun hh => hh.2, fun hh => ⟨h1, hh⟩⟩
    ·rw [e]; exact hg n h1
   ·have hm : x ∈ L := List.mem_of_getElem? h1
    have e : (nmL L).L n = x.1 := by
     show (if n < 14 then _ else _) = _
     rw [if_neg (by omega)]
     simp [List.getD, h1]
    have eS : (nmL L).S n = fun _ => False := funext fun k => propext ⟨fun hh => by have hh : n < 14 /\ k = n := hh; omega, fun hh => hh.elim⟩
    show (avF σ).q x.2 ((nmL L).L n) ((nmL L).S n) W
    rw [e, eS]
    exact hq x hm W hs
  ·obtain ⟨a1, a2⟩ := fp n c k h hk
   obtain ⟨b1, b2⟩ := fp m d k h' hk'
   exact hnm (a2.symm.trans b2)
  ·show ((nmL L).L g).b = g
   rw [nmL_glob L hg']
  ·obtain ⟨a1, a2⟩ := fp n c k h hk
   subst a2
   exact hR k a1
 refine (h.2.2 _ W hO).mono ?_
 rintro e w' ⟨ρ', rfl, hO', hE⟩
 refine ⟨by rw [hv ρ'], ⟨fun k hk => ?_, hE.os, hE.tape, hE.output, hE.size⟩⟩
 by_cases e0 : k < 14
 ·have hk' : hget (sentL AV.sent 0 allM ++ chL l') k = some (.abs (.sent k)) := by
   rw [hget_append, sentL_len, if_pos (by rw [hal]; exact e0)]
   exact (sentL_get _ _ _ _ _).2 ⟨(hlin k).2 e0, by rw [Nat.zero_add]⟩
  have hq' : AV.q σ (.sent k) (ρ'.L k) (ρ'.S k) w' := hO'.q k _ hk'
  have hr0 : (ρ'.L k).b = k := hO'.glb k e0
  have this := hq'.2
  rw [hr0] at this
  rw [this, hg k e0]
 ·refine hE.frame k hk fun n c h hf => ?_
  obtain ⟨a1, a2⟩ := fp n c k h hf
  omega
theorem varB_of {σ : Sg} {W : World} (h : VarS σ W) : VarB W := fun k hk => by
 refine ⟨_, _, _, h k hk, fun c hc => ?_⟩
 have hc : c ∈ denL Nm.id (sentW σ k) := hc
 unfold sentW at hc
 split at hc
 ·unfold denL at hc
  rw [List.map_map] at hc
  obtain ⟨s, _, rfl⟩ := List.mem_map.1 hc
  exact .inr ⟨s, rfl⟩
 ·have hc := List.mem_singleton.1 hc
  exact .inl ⟨_, _, hc⟩
theorem sentR_of {W : World} {ad : Nat -> Addr} {gs : List Nat} {p1 p2 : List MemPlace} {tp : TypeId} (all : ∀ i, i < 14 -> sentTx i = none -> i ∈ gs) (d1 : ∀ i ∈ gs, ∀ j ∈ gs, i ≠ j -> ad i ≠ ad j)
 (d2 : ∀ i ∈ gs, MemPlace.cell (ad i).block (ad i).off ∈ p1 /\ (∃ s, W.cell? (ad i) = some (.string s)) /\ ∃ t, W.heap[i]? = some (.cells #[.iface tp (.pointer (some (ad i)))] t (0, 0)))
 (hr : ∀ b off, MemPlace.cell b off ∈ p1 -> ∃ c t, W.heap[b]? = some (.cells c t (0, 0))) (dis : ∀ x ∈ p1, ∀ y ∈ p2, x ≠ y) (hV : VarS (sgOf W ad) W)
 (tabs : ∀ k, k < 14 -> (sentTx k).isSome = true -> ∀ off, off < (sentW (sgOf W ad) k).length -> MemPlace.cell k off ∈ p2) : SentR (sgOf W ad) := by
 have key : ∀ i ∈ gs, ∃ c t, (sgOf W ad).R (ad i).block = some (.cells c t (0, 0)) := fun i hi => by
  obtain ⟨g1, ⟨s, g2⟩, _⟩ := d2 i hi
  obtain ⟨c, t, hb⟩ := hr _ _ g1
  refine ⟨c, t, ?_⟩
  have hb14 : ¬ (ad i).block < 14 := fun hk => by
   have hw := hV _ hk
   unfold World.cell? at g2
   rw [hw] at g2
   simp only at g2
   split at g2
   ·cases g2
   ·have h2 : (denL Nm.id (sentW (sgOf W ad) (ad i).block))[(ad i).off]? = some (.string s) := by simpa using g2
    have hlt := (List.getElem?_eq_some_iff.1 h2).1
    unfold denL at hlt
    rw [List.length_map] at hlt
    cases ht : sentTx (ad i).block with
    | none =>
      have hm : Value.string s ∈ denL Nm.id (sentW (sgOf W ad) (ad i).block) := List.mem_of_getElem? h2
      unfold sentW at hm
      rw [ht] at hm
      have hm := List.mem_singleton.1 hm
      cases hm
    | some x => exact dis _ g1 _ (tabs _ hk (by rw [ht]; rfl) _ hlt) rfl
  show (if (ad i).block < 14 then none else W.heap[(ad i).block]?) = _
  rw [if_neg hb14, hb]
 exact fun i j hi hj li lj hij => ⟨d1 i (all i li hi) j (all j lj hj) hij, key i (all i li hi), key j (all j lj hj)⟩
theorem wf_in {n : Int} (h : (Lit.int .i64 n).wf = true) : inI n := by
 have h : (decide (IntKind.min .i64 <= n) && decide (n <= IntKind.max .i64)) = true := h
 rw [Bool.and_eq_true, decide_eq_true_eq, decide_eq_true_eq] at h
 have e1 : IntKind.min .i64 = -9223372036854775808 := by decide
 have e2 : IntKind.max .i64 = 9223372036854775807 := by decide
 rw [e1, e2] at h
 exact h
theorem dec_int (cs : List Value) (h : flatOk [.int .i64] cs) (hw : flatW cs) : ∃ a : N1, cs = denL Nm.id (kints.enc a) /\ inI a.val := by
 match cs, h with
 | [.int _ a], h =>
   obtain ⟨rfl, _⟩ := h
   exact ⟨⟨a⟩, rfl, wf_in (hw _ (by simp) _ _ rfl)⟩
theorem dec_pair (cs : List Value) (h : flatOk [.int .i64, .int .i64] cs) (hw : flatW cs) : ∃ a : Pr, cs = denL Nm.id (kpairs.enc a) /\ inP a := by
 match cs, h with
 | [.int _ a, .int _ b], h =>
   obtain ⟨rfl, rfl, _⟩ := h
   exact ⟨⟨a, b⟩, rfl, wf_in (hw _ (by simp) _ _ rfl), wf_in (hw (.int .i64 b) (by simp) _ _ rfl)⟩
theorem no_int (a : N1) (j : Nat) (x : Value) (h : (denL Nm.id (kints.enc a))[j]? = some x) : (∀ t p, x ≠ .iface t p) /\ ∀ s, x ≠ .string s := by
 rcases j with _ | j <;> cases h
 exact ⟨(fun _ _ e => by cases e), fun _ e => by cases e⟩
theorem no_pair (a : Pr) (j : Nat) (x : Value) (h : (denL Nm.id (kpairs.enc a))[j]? = some x) : (∀ t p, x ≠ .iface t p) /\ ∀ s, x ≠ .string s := by
 rcases j with _ | _ | j <;> cases h <;> exact ⟨(fun _ _ e => by cases e), fun _ e => by cases e⟩
end Go.Proofs.YthdmoahfeimdaaaGreatDoor

namespace Go.Proofs.YthdmoahfeimdaaaGreatDoor
open Go Go.Sx Go.Proofs
set_option linter.unusedVariables false
set_option maxRecDepth 100000
variable {σ : Sg}
theorem bsEq_self : ∀ (l : List UInt8), bsEq l l = true
 | [] => rfl
 | c :: l => by rw [bsEq, (beq_iff _ _).2 rfl]; exact bsEq_self l
theorem tell_len {l : List N1} {p : List Pr} (hl : l.length <= 60) (hp : p.length <= 60) (hr : ∀ a ∈ l, inI a.val) (hq : ∀ a ∈ p, inP a) : (tellB l p).length <= 100000 := by
 have hj := has_le hl hp hr hq
 have e2 : j2.length <= 100 := by decide +kernel
 have e3 : j3.length <= 100 := by decide +kernel
 unfold tellB txtT
 simp only [List.nil_append, List.length_append, List.length_singleton]
 omega
theorem shows_val {l : List N1} {p : List Pr} (hr : ∀ a ∈ l, inI a.val) (hq : ∀ a ∈ p, inP a) : ∃ v, (runC lpS σ (tabL tellB) 5 mS [.v (.c (.vs 14 0 l.length 1 false)), .v (.c (.vs 15 0 p.length 2 false))] [.abs (.intsA l), .abs (.pairsA p)]).val = some (stV (v, hpO mS [.intsA l, .pairsA p])) /\ v ≠ .unk /\ ∀ ρ : Nm, v.den ρ = .bool true := by
 rw [showsR]
 by_cases h1 : l.length > 60
 ·rw [ivT (by rw [decide_eq_true (show (l.length : Int) > 60 by omega)]; rfl)]
  exact ⟨_, rfl, (by rintro ⟨⟩), fun ρ => rfl⟩
 ·by_cases h2 : p.length > 60
  ·rw [ivT (by rw [decide_eq_false (show ¬ (l.length : Int) > 60 by omega), decide_eq_true (show (p.length : Int) > 60 by omega)]; rfl)]
   exact ⟨_, rfl, (by rintro ⟨⟩), fun ρ => rfl⟩
  ·have hl : l.length <= 60 := by omega
   have hp : p.length <= 60 := by omega
   rw [ivF (by rw [decide_eq_false (show ¬ (l.length : Int) > 60 by omega), decide_eq_false (show ¬ (p.length : Int) > 60 by omega)]; rfl), nv (decide_eq_true ⟨rfl, rfl, hl, hp, hr, hq⟩)]
   obtain ⟨r, er⟩ := tell_is l p
   have e0 : tellB l p = [104, 97, 115] ++ ((l.map (·.val)).flatMap valW ++ ((p.map fun a => (a.key, a.val)).flatMap pairW ++ [10]) ++ r) := by
    rw [er]; unfold hasW; simp only [List.append_assoc]
   have hlen : 4 <= strLen ⟨(tellB l p).toArray⟩ := by
    show 4 <= (tellB l p).length
    rw [e0]; simp only [List.length_append, List.length_cons, List.length_nil]; omega
   have hlt : decide ((strLen ⟨(tellB l p).toArray⟩ : Int) < 4) = false := decide_eq_false (by omega)
   have ff : (false == false) = true := rfl
   simp only [hlt, ff]
   have hcut : strEq (cutTx ⟨(tellB l p).toArray⟩ 0 3) ⟨#[104, 97, 115]⟩ = true := by
    have : cutTx ⟨(tellB l p).toArray⟩ 0 3 = ⟨#[104, 97, 115]⟩ := by
     unfold cutTx
     show (⟨(((tellB l p).take 3).drop 0).toArray⟩ : ByteArray) = _
     rw [e0]; rfl
    rw [this]
    exact bsEq_self _
   rw [nv (decide_eq_true (by omega)), ivF (show (!strEq (cutTx ⟨(tellB l p).toArray⟩ 0 3) ⟨#[104, 97, 115]⟩) = false by rw [hcut]; rfl), nv (decide_eq_true (tell_len hl hp hr hq))]
   refine ⟨_, rfl, (by rintro ⟨⟩), fun ρ => ?_⟩
   show Value.bool _ = _
   obtain ⟨s1, s2⟩ := endS_scan (tellB l p) ⟨0, 0, 0⟩
   rw [er, scan_has] at s1 s2
   rw [<- er] at s1 s2
   simp only [List.length_map, Nat.zero_add] at s1 s2
   rw [s1, s2, wrapI (by omega)]
   have b1 : (((l.length + p.length : Nat) : Int) == (l.length : Int) + (p.length : Int)) = true := by simp
   rw [b1]
   simp
theorem mS_all : mS = allM := by kernel_rfl
theorem lps_shows : LpsOk Tryz.prog (NVl lpS σ) :=
 lpsAdd lpsV (fn := Tryz.f5) (by kernel_rfl) (c := bodyOf Tryz.f5) (by kernel_rfl) (nt := 68) (by kernel_rfl) (b := LS) (oneLoop_spec (by kernel_rfl)) (gSl_ok rfl rfl)
theorem shows_calls {W : World} {ad : Nat -> Addr} (hV : VarS (sgOf W ad) W) (hS : SentR (sgOf W ad)) (hT : TabR (sgOf W ad)) {lc0 lc1 : Sx.Loc} {l : List N1} {p : List Pr} (hr : ∀ a ∈ l, inI a.val) (hq : ∀ a ∈ p, inP a)
 (h0 : fixQ (sgOf W ad) kints l lc0 (fun _ => False)) (h1 : fixQ (sgOf W ad) kpairs p lc1 (fun _ => False)) :
 Calls Tryz.prog 5 #[vsDen lc0 0 l.length 1, vsDen lc1 0 p.length 2] W fun e w' => e = .returned (.bool true) /\ Quiet W w' := by
 obtain ⟨v, hv, hu, hd⟩ := shows_val (σ := sgOf W ad) hr hq
 have hc := runC_ctr lps_shows (tabL_ok hS hT) (mkF_len _) hv hu
 have em : mkF 5 = allM := mS_all
 have := quietX (σ := sgOf W ad) (lp := lpS) (L := [(lc0, .intsA l), (lc1, .pairsA p)]) (l' := [.abs (.intsA l), .abs (.pairsA p)]) (v := v) (W := W) (args := [.v (.c (.vs 14 0 l.length 1 false)), .v (.c (.vs 15 0 p.length 2 false))]) (f := 5)
  (by
    have h : Ctr Tryz.prog (NVl lpS (sgOf W ad)) 5 [.v (.c (.vs 14 0 l.length 1 false)), .v (.c (.vs 15 0 p.length 2 false))] (hpC mS [.abs (.intsA l), .abs (.pairsA p)]) v (hpO mS [.intsA l, .pairsA p]) := hc
    rw [mS_all] at h
    exact h) hd
  (fun x hx w hw => by
    simp only [List.mem_cons, List.not_mem_nil, or_false] at hx
    rcases hx with rfl | rfl
    ·exact (AV.q_fix (σ := sgOf W ad) (a := .intsA l) (r := ⟨N1, kints, l⟩) rfl rfl lc0 _ w).2 h0
    ·exact (AV.q_fix (σ := sgOf W ad) (a := .pairsA p) (r := ⟨Pr, kpairs, p⟩) rfl rfl lc1 _ w).2 h1) (sgOf_has W ad) (fun k hk => if_pos hk) hV
 exact this
end Go.Proofs.YthdmoahfeimdaaaGreatDoor
