import Derived.Test.YthdmoahfeimdaaaGreatDoorWp
import Derived.Test.YthdmoahfeimdaaaGreatDoorSxM
import Derived.Deep.Slices
import Derived.Lib.LaidTab
import Derived.LaidSub
import Derived.Lib.ItoaLen
namespace Go.Sx
open Go.ChangeShapes Go.WideShapes
def flatW (vs : List Value) : Prop := ∀ v ∈ vs, ∀ k n, v = .int k n -> (Lit.int k n).wf = true
theorem flatW_append {vs vs' : List Value} (h : flatW vs) (h' : flatW vs') : flatW (vs ++ vs') := fun v hv => by
 rcases List.mem_append.1 hv with g | g
 ·exact h v g
 ·exact h' v g
section
variable {H : Type} {enc : TypeId × Value -> H} {P : Program} {w : World} {base : Nat} {sp : Nat -> Bool} {held : Bool}
theorem flatW_fields {rec : TypeId -> Option (List FK)} {cs : List Value} {n : Nat}
 (hrec : ∀ t ks vs x, rec t = some ks -> DataW.trod enc P w base sp held n t vs = some x -> P.cellsOf t = ks.length -> flatW vs) :
 ∀ (fs : List Field) (off : Nat) (ks : List FK), flatFs P rec fs off = some ks -> (∀ f ∈ fs, ∃ y, DataW.trod enc P w base sp held n f.type ((cs.drop f.offset).take (P.cellsOf f.type)) = some y) -> flatW ((cs.drop off).take ks.length)
 | [], off, ks, h, _ => by
   simp only [flatFs, Option.some.injEq] at h
   subst h
   intro v hv; simp at hv
 | f :: fs, off, ks, h, hf => by
   simp only [flatFs] at h
   split at h
   ·cases h
   ·split at h
    ·cases h
    ·rename_i hoff
     have hoff := (beq_iff _ _).1 hoff
     split at h
     ·cases h
     ·rename_i k1 hk1
      split at h
      ·cases h
      ·rename_i m hm
       split at h
       ·cases h
       ·rename_i hlen
        have hlen := (beq_iff _ _).1 hlen
        split at h
        ·rename_i l hl
         cases h
         have hc := cellsOf_size hm
         obtain ⟨y, hy⟩ := hf f (List.mem_cons_self ..)
         have h1 := hrec f.type k1 _ y hk1 hy (hc.trans hlen)
         rw [hoff, hc, hlen] at h1
         have h2 := flatW_fields hrec fs (off + m) l hl (fun g hg => hf g (List.mem_cons_of_mem _ hg))
         have e : (cs.drop off).take (k1 ++ l).length = (cs.drop off).take k1.length ++ (cs.drop (off + m)).take l.length := by
          rw [List.length_append, List.take_add, List.drop_drop, hlen]
         rw [e]
         exact flatW_append h1 h2
        ·cases h
theorem trod_flatW : ∀ (d n : Nat) (t : TypeId) (ks : List FK) (cs : List Value) (x : DataW H × List MemPlace), flatT P d t = some ks -> DataW.trod enc P w base sp held n t cs = some x -> P.cellsOf t = ks.length -> flatW cs
 | 0, _, _, _, _, _, h, _, _ => by simp [flatT] at h
 | d + 1, n, t, ks, cs, x, h, ht, hc => by
   simp only [flatT] at h
   split at h
   ·rename_i hu
    cases h
    obtain ⟨b, rfl, _⟩ := DataW.trod_bool hu ht
    intro v hv k n e; rw [List.mem_singleton.1 hv] at e; cases e
   ·rename_i k hu
    cases h
    obtain ⟨m, rfl, _, hw⟩ := DataW.trod_int hu ht
    intro v hv k n e; rw [List.mem_singleton.1 hv] at e; cases e; exact hw
   ·rename_i hu
    cases h
    obtain ⟨m, rfl, _⟩ := DataW.trod_string hu ht
    intro v hv k n e; rw [List.mem_singleton.1 hv] at e; cases e
   ·rename_i fs hu
    split at h
    ·cases h
    ·obtain ⟨xs, m, rfl, _, hl, hxl, hx⟩ := DataW.trod_struct hu ht
     have := flatW_fields (H := H) (enc := enc) (w := w) (base := base) (sp := sp) (held := held) (n := m) (cs := cs) (fun t ks vs x h1 h2 h3 => trod_flatW d m t ks vs x h1 h2 h3) fs.toList 0 ks h (fun f hf => by
      obtain ⟨i, hi⟩ := List.mem_iff_getElem?.1 hf
      have hi' : fs[i]? = some f := by simpa using hi
      have hlt : i < xs.length := by rw [hxl]; exact (Array.getElem?_eq_some_iff.1 hi').1
      exact ⟨xs[i], by rw [hx i f hi', List.getElem?_eq_getElem hlt]⟩)
     rw [List.drop_zero, List.take_of_length_le (by omega)] at this
     exact this
   ·rename_i len e hu
    split at h
    ·rename_i sz hs
     obtain ⟨xs, m, rfl, _, hl, hxl, hx⟩ := DataW.trod_array hu ht
     have := flatW_fields (H := H) (enc := enc) (w := w) (base := base) (sp := sp) (held := held) (n := m) (cs := cs) (fun t ks vs x h1 h2 h3 => trod_flatW d m t ks vs x h1 h2 h3) (arrFs e sz len 0) 0 ks h (fun f hf => by
      rw [arrFs_eq] at hf
      obtain ⟨i, hi, rfl⟩ := List.mem_map.1 hf
      have hi : i < len := by simpa using List.mem_range'_1.1 hi
      have hlt : i < xs.length := by omega
      have hx := hx i hi
      rw [cellsOf_size hs] at hx
      exact ⟨xs[i], by simp only [arrFd]; rw [cellsOf_size hs, hx, List.getElem?_eq_getElem hlt]⟩)
     rw [List.drop_zero, List.take_of_length_le (by omega)] at this
     exact this
    ·cases h
   ·cases h
end
end Go.Sx

namespace Go.Proofs.YthdmoahfeimdaaaGreatDoor
open Go Go.Sx Go.Proofs Go.ChangeShapes Go.WideShapes
set_option linter.unusedVariables false
set_option maxRecDepth 100000
section
variable {P : Program} {W : World}
theorem laid_split : ∀ {l1 l2 : List (String × DataW Unit)} {ps : List MemPlace}, DataW.LaidVars P W (l1 ++ l2) ps -> ∃ p1 p2, ps = p1 ++ p2 /\ DataW.LaidVars P W l1 p1 /\ DataW.LaidVars P W l2 p2
 | [], l2, ps, h => ⟨[], ps, rfl, rfl, h⟩
 | (n, d) :: l1, l2, ps, h => by
   obtain ⟨g, t, cs, fuel, p, q, h1, h2, h3, h4, h5, rfl⟩ := h
   obtain ⟨p1, p2, rfl, g1, g2⟩ := laid_split h5
   exact ⟨MemPlace.row ⟨g, 0, none⟩ cs.size ++ p ++ p1, p2, by simp, ⟨g, t, cs, fuel, p, p1, h1, h2, h3, h4, g1, rfl⟩, g2⟩
theorem sents3 {ti tp te ts : TypeId} (S : SentTy P ti tp te ts) : ∀ {l : List (String × List UInt8)} {gs : List Nat} {ps : List MemPlace},
 l.map (fun x => P.globalNamed x.1) = gs.map some -> (∀ g ∈ gs, (P.globals[g]?).map (·.type) = some ti) -> gs.Nodup ->
 DataW.LaidVars P W (l.map fun x => (x.1, sent x.2)) ps -> ps.Nodup -> (∀ b off, MemPlace.cell b off ∈ ps -> (∃ c t, W.heap[b]? = some (.cells c t (0, 0))) /\ ∀ u v, W.cell? ⟨b, off, none⟩ = some (.iface u v) -> Value.okWide P W .any 0 u v) ->
 ∃ ad : Nat -> Addr, (∀ i ∈ gs, ∀ j ∈ gs, i ≠ j -> ad i ≠ ad j) /\ ∀ i ∈ gs, MemPlace.cell (ad i).block (ad i).off ∈ ps /\ (∃ s, W.cell? (ad i) = some (.string s)) /\ ∃ t, W.heap[i]? = some (.cells #[.iface tp (.pointer (some (ad i)))] t (0, 0))
 | [], [], _, _, _, _, _, _, _ => ⟨fun _ => default, (fun i h => by cases h), fun i h => by cases h⟩
 | [], _ :: _, _, h, _, _, _, _, _ => by simp at h
 | _ :: _, [], _, h, _, _, _, _, _ => by simp at h
 | (n, text) :: l, g :: gs, ps, hn, ht, hgn, h, hnd, hr => by
   simp only [List.map_cons, List.cons.injEq] at hn
   obtain ⟨g', t, cs, fuel, p, q, hg, hty, hv, hd, hq, rfl⟩ := h
   obtain rfl := Option.some.inj (hn.1.symm.trans hg)
   obtain rfl := Option.some.inj ((ht g (List.mem_cons_self ..)).symm.trans hty)
   obtain ⟨l0⟩ := cs
   obtain ⟨ms, hi⟩ := S.hi
   obtain ⟨f, he, hft, hfo⟩ := S.he
   have ok0 : ∀ u v, l0 = [.iface u v] -> Value.okWide P W .any 0 u v := fun u v e => by
    subst e
    exact (hr g 0 (by simp [MemPlace.row])).2 u v (by simpa using World.var?_cell hg hv 0)
   obtain ⟨a, s, rfl, hc0, hs0, hz0, rfl⟩ := errorString_of_trod hi S.row S.hp he hft hfo S.hs S.hc S.hcs hd ok0
   have hnd' := List.nodup_append.1 hnd
   have hgn' := List.nodup_cons.1 hgn
   obtain ⟨ad, h1, h2⟩ := sents3 S hn.2 (fun x hx => ht x (List.mem_cons_of_mem _ hx)) hgn'.2 hq hnd'.2.1 (fun b off hb => hr b off (List.mem_append_right _ hb))
   have self : MemPlace.cell a.block a.off ∈ MemPlace.row ⟨g, 0, none⟩ 1 ++ MemPlace.row a 1 := List.mem_append_right _ (by simp [MemPlace.row])
   have isg : ∀ i ∈ gs, i ≠ g := fun i hi e => hgn'.1 (e ▸ hi)
   have apart : ∀ i ∈ gs, ad i ≠ a := fun i hi e => by
    have := (h2 i hi).1
    rw [e] at this
    exact hnd'.2.2 _ self _ this rfl
   refine ⟨fun i => if i = g then a else ad i, fun i hi j hj hij => ?_, fun i hi => ?_⟩
   ·rcases List.mem_cons.1 hi with rfl | hi2
    ·rcases List.mem_cons.1 hj with rfl | hj
     ·exact absurd rfl hij
     ·simp only [if_pos rfl, if_neg (isg j hj)]; exact fun e => apart j hj e.symm
    ·rcases List.mem_cons.1 hj with ej | hj
     ·subst ej
      simp only [if_pos rfl, if_neg (isg i hi2)]; exact apart i hi2
     ·simp only [if_neg (isg i hi2), if_neg (isg j hj)]; exact h1 i hi2 j hj hij
   ·rcases List.mem_cons.1 hi with rfl | hi
    ·simp only [if_pos rfl]
     refine ⟨List.mem_append_left _ self, ⟨s, hc0⟩, ?_⟩
     obtain ⟨c, t, hb⟩ := (hr i 0 (by simp [MemPlace.row])).1
     refine ⟨t, ?_⟩
     simp only [World.var?, hg, Option.bind_some, hb] at hv
     rw [hb]
     simpa using hv
    ·simp only [if_neg (isg i hi)]
     obtain ⟨g1, g2, g3⟩ := h2 i hi
     exact ⟨List.mem_append_right _ g1, g2, g3⟩
def texts {H : Type} (txs : List (List UInt8)) : DataW H := .agg (txs.map fun x => .lit (.string x))
theorem cells_of_texts {H : Type} {enc : TypeId × Value -> H} {w : World} {base : Nat} {sp : Nat -> Bool} {held : Bool} {fuel : Nat} {t e : TypeId} {n : Nat} {cs : List Value} {txs : List (List UInt8)} {p : List MemPlace}
 (ht : P.underlying t = some (.array n e)) (he : P.underlying e = some .string) (hce : P.cellsOf e = 1) (hct : P.cellsOf t = n)
 (h : DataW.trod enc P w base sp held fuel t cs = some (texts txs, p)) : cs = txs.map fun x => Value.string ⟨x.toArray⟩ := by
 cases fuel with
 | zero => simp [DataW.trod] at h
 | succ fuel =>
   simp only [DataW.trod, ht, hce, hct, Nat.mul_one] at h
   split at h
   ·rename_i hl
    obtain ⟨xs, hm, hx⟩ := Option.map_eq_some_iff.1 h
    have hxs : xs.map (·.1) = txs.map fun z => (DataW.lit (.string z) : DataW H) := by
     have := congrArg Prod.fst hx
     simpa [texts] using this
    have hxl : xs.length = n := by simpa using Lib.mapM_length hm
    have hzl : txs.length = n := by
     have := congrArg List.length hxs
     simp at this
     omega
    apply List.ext_getElem?
    intro i
    by_cases hi : i < n
    ·obtain ⟨b, hb, hf⟩ := Lib.mapM_at hm i i (by simp [hi])
     obtain ⟨z, hc, rfl, _⟩ := DataW.trod_string he hf
     have h1 : cs[i]? = some (.string z) := by
      have := congrArg (·[0]?) hc
      simpa [List.getElem?_take, List.getElem?_drop] using this
     have h2 : (xs.map (·.1))[i]? = some (DataW.lit (.string z.data.toList) : DataW H) := by simp [hb]
     rw [hxs] at h2
     simp only [List.getElem?_map, Option.map_eq_some_iff, DataW.lit.injEq, Lit.string.injEq] at h2
     obtain ⟨z', hz', rfl⟩ := h2
     simp [h1, hz']
    ·rw [List.getElem?_eq_none (by omega), List.getElem?_eq_none (by simp; omega)]
   ·cases h
theorem table_head {name : String} {txs : List (List UInt8)} {rest : List (String × DataW Unit)} {g : Nat} {t e : TypeId} {n : Nat} {ps : List MemPlace}
 (hg : P.globalNamed name = some g) (hty : (P.globals[g]?).map (·.type) = some t) (ht : P.underlying t = some (.array n e)) (he : P.underlying e = some .string) (hce : P.cellsOf e = 1) (hct : P.cellsOf t = n)
 (h : DataW.LaidVars P W ((name, texts txs) :: rest) ps) : ∃ q r, (∃ c t z, W.heap[g]? = some (.cells c t z) /\ c = (txs.map fun x => Value.string ⟨x.toArray⟩).toArray) /\ (∀ off, off < txs.length -> MemPlace.cell g off ∈ r) /\ ps = r ++ q /\ DataW.LaidVars P W rest q := by
 obtain ⟨g', t', cs, fuel, p, q, hg', ht', hvar, hd, hq, rfl⟩ := h
 obtain rfl := Option.some.inj (hg.symm.trans hg')
 obtain rfl := Option.some.inj (hty.symm.trans ht')
 have e1 := cells_of_texts ht he hce hct hd
 refine ⟨q, MemPlace.row ⟨g, 0, none⟩ cs.size ++ p, ?_, fun off ho => ?_, rfl, hq⟩
 ·unfold World.var? at hvar
  rw [hg, Option.bind_some] at hvar
  split at hvar
  ·rename_i c t z hb
   cases hvar
   exact ⟨_, _, _, hb, by rw [<- e1]⟩
  ·cases hvar
 ·refine List.mem_append_left _ ?_
  have : cs.size = txs.length := by
   have := congrArg List.length e1
   simpa using this
  simp [MemPlace.row, this, ho]
end
def sgOf (W : World) (ad : Nat -> Addr) : Sg := ⟨ad, fun k => if k < 14 then none else W.heap[k]?⟩
theorem sgOf_has (W : World) (ad : Nat -> Addr) : (sgOf W ad).has W := fun k o h => by
 unfold sgOf at h
 simp only at h
 split at h
 ·cases h
 ·exact h
theorem sgOf_tab {W : World} {ad : Nat -> Addr} (h : Lib.TabIs Tryz.prog W "internal/strconv.uint64pow10" .u64 Lib.pow10Tab) : TabR (sgOf W ad) := by
 have hg : Tryz.prog.globalNamed "internal/strconv.uint64pow10" = some 14 := by kernel_rfl
 unfold Lib.TabIs World.var? at h
 rw [hg, Option.bind_some] at h
 have hR : (sgOf W ad).R 14 = W.heap[(14 : Nat)]? := by
  show (if 14 < 14 then none else W.heap[(14 : Nat)]?) = _
  exact if_neg (by decide)
 unfold TabR
 rw [hR]
 split at h
 ·rename_i c ty z hb
  cases h
  exact ⟨ty, z, hb⟩
 ·cases h
theorem slice_ok {W : World} {r : Reach} {b0 : Nat} {t e : TypeId} {v : Value} (ht : Tryz.prog.underlying t = some (.slice e)) (hval : Value.okWide Tryz.prog W r b0 t v) : v = .slice none 0 0 \/ ∃ b o len cap, v = .slice (some ⟨b, o, none⟩) len cap /\ len <= cap := by
 unfold Value.okWide at hval
 rw [ht] at hval
 unfold Cell.okWide at hval
 rw [ht] at hval
 dsimp only at hval
 unfold Cell.ok at hval
 rw [ht] at hval
 cases v with
 | slice a len cap =>
   cases a with
   | none =>
     cases len with
     | zero =>
       cases cap with
       | zero => exact .inl rfl
       | succ => exact hval.elim
     | succ => exact hval.elim
   | some a =>
     obtain ⟨b, o, s⟩ := a
     obtain ⟨h1, _, _, h2, _⟩ := hval
     simp only at h2
     subst h2
     exact .inr ⟨b, o, len, cap, rfl, h1⟩
 | _ => exact hval.elim
def VarB (W : World) : Prop := ∀ k, k < 14 -> ∃ (cs : Array Value) (ty : TypeId) (z : Nat × Nat), W.heap[k]? = some (.cells cs ty z) /\ ∀ c ∈ cs.toList, (∃ t p, c = .iface t p) \/ ∃ s, c = .string s
theorem open_came {α : Type} [Inhabited α] (K : AK α) (good : α -> Prop) {H : Type} {enc : TypeId × Value -> H} {W : World} {base : Nat} {sp : Nat -> Bool} {held : Bool} {t e : TypeId} {ks : List FK} (ht : Tryz.prog.underlying t = some (.slice e)) (hc : Tryz.prog.cellsOf e = K.es) (hfl : flatT Tryz.prog 12 e = some ks) (hks : ks.length = K.es)
 (hdec : ∀ cs, flatOk ks cs -> flatW cs -> ∃ a : α, cs = denL Nm.id (K.enc a) /\ good a) (hno : ∀ (a : α) (j : Nat) (x : Value), (denL Nm.id (K.enc a))[j]? = some x -> (∀ t p, x ≠ .iface t p) /\ ∀ s, x ≠ .string s) {v : Value} {d : DataW H} {ps : List MemPlace}
 (hval : v = .slice none 0 0 \/ ∃ b o len cap, v = .slice (some ⟨b, o, none⟩) len cap /\ len <= cap) (hd : DataW.Trod enc Tryz.prog W base sp held t v d ps) {ad : Nat -> Addr} (hs : VarB W) :
 ∃ (lc : Sx.Loc) (l : List α), v = vsDen lc 0 l.length K.es /\ (∀ a ∈ l, good a) /\ fixQ (sgOf W ad) K l lc (fun _ => False) := by
 obtain ⟨fu, hfu⟩ := hd
 rcases hval with rfl | ⟨b, o, len, cap, rfl, hlc⟩
 ·exact ⟨⟨0, 0, 0⟩, [], rfl, (fun _ h => by cases h), fun k h => h, fun w _ => ⟨Nat.zero_le _, fun j v h => (by simp [AK.vals] at h)⟩⟩
 ·rcases Deep.open_slice ht hfu with ⟨h0, _⟩ | ⟨a, len', cap', m, n, D, Pl, hcs, hb, hl, hm, hmm, hx, hel⟩
  ·cases h0
  ·cases hcs
   have each : ∀ i, i < len -> ∃ x : α, good x /\ ∀ k, k < K.es -> W.cell? ((⟨b, o, none⟩ : Addr).add (i * K.es + k)) = (denL Nm.id (K.enc x))[k]? := fun i hi => by
    obtain ⟨cs', h1, h2⟩ := hel i (by rw [hmm]; split <;> omega)
    have hf := trod_flat 12 _ _ ks _ _ hfl h2 (by rw [hc, hks])
    have hw := trod_flatW 12 _ _ ks _ _ hfl h2 (by rw [hc, hks])
    obtain ⟨x, hx, hgx⟩ := hdec cs' hf hw
    obtain ⟨_, _, h5⟩ := World.cells?_some h1
    refine ⟨x, hgx, fun k hk => ?_⟩
    have := h5 k (by rw [hc]; exact hk)
    rw [Deep.add_add, hc] at this
    rw [this, hx]
   obtain ⟨f, hf⟩ := Deep.choose_lt each
   refine ⟨⟨b, o, cap + 1⟩, (List.range len).map f, ?_, fun a ha => ?_, fun k h => h, fun w hw => ⟨?_, fun j v hj => ?_⟩⟩
   ·rw [vsDen_eq, if_neg (fun h => by cases h.2)]
    simp
   ·obtain ⟨i, hi, rfl⟩ := List.mem_map.1 ha
    exact (hf i (by simpa using hi)).1
   ·rw [AK.vals_len]
    simp only [List.length_map, List.length_range, Nat.add_sub_cancel]
    exact Nat.mul_le_mul_right _ hlc
   ·have hjl : j < len * K.es := by
     have := (List.getElem?_eq_some_iff.1 hj).1
     rw [AK.vals_len] at this
     simpa using this
    have hpos : 0 < K.es := Nat.pos_of_ne_zero fun h => by rw [h] at hjl; omega
    have hi : j / K.es < len := (Nat.div_lt_iff_lt_mul hpos).2 hjl
    have hk : j % K.es < K.es := Nat.mod_lt _ hpos
    have ej : j = (j / K.es) * K.es + j % K.es := by rw [Nat.mul_comm]; exact (Nat.div_add_mod _ _).symm
    have hg := K.vals_get ((List.range len).map f) (j / K.es) (j % K.es) (by simpa using hi) hk
    rw [<- ej, hj] at hg
    have hfi : ((List.range len).map f).getD (j / K.es) K.dflt = f (j / K.es) := by simp [List.getD, hi]
    rw [hfi] at hg
    have hW := (hf _ hi).2 _ hk
    rw [<- ej, <- hg] at hW
    have hb3 : ¬ b < 14 := fun h3 => by
     obtain ⟨cs, ty, z, hh, hin⟩ := hs b h3
     have eb : ((⟨b, o, none⟩ : Addr).add j).block = b := by unfold Addr.add; split <;> rfl
     unfold World.cell? at hW
     rw [eb, hh] at hW
     simp only at hW
     split at hW
     ·cases hW
     ·have hm : v ∈ cs.toList := by
       obtain ⟨h1, h2⟩ := Array.getElem?_eq_some_iff.1 hW
       rw [<- h2]; simp
      obtain ⟨n1, n2⟩ := hno _ _ _ hg.symm
      rcases hin v hm with ⟨t, p, e⟩ | ⟨s, e⟩
      ·exact n1 t p e
      ·exact n2 s e
    have hR : (sgOf W ad).R b = W.heap[b]? := if_neg hb3
    have eb : ((⟨b, o, none⟩ : Addr).add j).block = b := by unfold Addr.add; split <;> rfl
    show w.cell? ((⟨b, o, none⟩ : Addr).add j) = some v
    cases hh : W.heap[b]? with
    | none =>
      unfold World.cell? at hW
      rw [eb, hh] at hW
      cases hW
    | some ob =>
      have := hw b ob (by rw [hR, hh])
      rw [<- hW]
      unfold World.cell?
      rw [eb, hh, this]
def nmL (L : List (Sx.Loc × AV)) : Nm := ⟨fun n => if n < 14 then ⟨n, 0, 0⟩ else (L.map Prod.fst).getD (n - 14) ⟨0, 0, 0⟩, fun n k => n < 14 /\ k = n⟩
theorem nmL_glob (L : List (Sx.Loc × AV)) {n : Nat} (h : n < 14) : (nmL L).L n = ⟨n, 0, 0⟩ := if_pos h
def VarS (σ : Sg) (W : World) : Prop := ∀ n, n < 14 -> W.heap[n]? = some (.cells (denL Nm.id (sentW σ n)).toArray (sentT n) (0, 0))
theorem quietX {σ : Sg} {lp : Lp} {f : FuncId} {args : List SV} {L : List (Sx.Loc × AV)} {v : SV} {l' : List (Chunk AV)} {W : World} (h : Ctr Tryz.prog (NVl lp σ) f args (hpO allM (L.map Prod.snd)) v (sentL AV.sent 0 allM ++ chL l')) (hv : ∀ ρ : Nm, v.den ρ = .bool true)
 (hq : ∀ x ∈ L, ∀ w, σ.has w -> (avF σ).q x.2 x.1 (fun _ => False) w) (hs : σ.has W) (hR : ∀ k, k < 14 -> σ.R k = none) (hg : VarS σ W) :
 Calls Tryz.prog f (args.map (SV.den (nmL L))).toArray W fun e w' => e = .returned (.bool true) /\ Quiet W w' := by
 have hlin : ∀ n, allM[n]? = some true ↔ n < 14 := fun n => by
  unfold allM
  rw [List.getElem?_replicate]
  by_cases h : n < gN
  ·rw [if_pos h]; exact ⟨fun _ => h, fun _ => rfl⟩
  ·rw [if_neg h]; exact ⟨(fun e => by cases e), fun e => absurd e h⟩
 have hal : allM.length = 14 := List.length_replicate
 have get : ∀ n c, hget (hpO allM (L.map Prod.snd)) n = some c -> (n < 14 /\ c = .abs (.sent n)) \/ ∃ x, L[n - 14]? = some x /\ 14 <= n /\ c = .abs x.2 := fun n c h => by
  unfold hpO at h
  rw [hget_append, sentL_len, hal] at h
  split at h
  ·obtain ⟨h1, h2⟩ := (sentL_get _ _ _ _ _).1 h
   exact .inl ⟨(hlin n).1 h1, by rw [h2, Nat.zero_add]⟩
  ·rename_i hn
   obtain ⟨a, h1, h2⟩ := (absL_get _ _ _).1 h
   rw [List.getElem?_map, Option.map_eq_some_iff] at h1
   obtain ⟨x, h1, h3⟩ := h1
   exact .inr ⟨x, h1, Nat.le_of_not_lt hn, by rw [h2, h3]⟩
 have fp : ∀ n c k, hget (hpO allM (L.map Prod.snd)) n = some c -> c.fp (nmL L) n k -> n < 14 /\ k = n := fun n c k h hk => by
  rcases get n c h with ⟨h1, rfl⟩ | ⟨x, h1, h2, rfl⟩
  ·have hk : n < 14 /\ k = n := hk
   exact ⟨h1, hk.2⟩
  ·have hk : n < 14 /\ k = n := hk
   omega
 have hO : Own (NVl lp σ) (nmL L) (hpO allM (L.map Prod.snd)) W := by
  refine ⟨⟨fun n c h => ?_, fun n m c d hnm h h' k hk hk' => ?_, fun g hg' => ?_⟩, ⟨hs, fun n c k h hk => ?_⟩⟩
  ·rcases get n c h with ⟨h1, rfl⟩ | ⟨x, h1, h2, rfl⟩
   ·have e : (nmL L).L n = ⟨n, 0, 0⟩ := nmL_glob L h1
    show AV.q σ (.sent n) ((nmL L).L n) ((nmL L).S n) W
    refine ⟨fun k => ?_, ?_⟩
    ·show (n < 14 /\ k = n) ↔ k = ((nmL L).L n).b
     rw [e]
     exact ⟨fun hh => hh.2, fun hh => ⟨h1, hh⟩⟩
    ·rw [e]; exact hg n h1
   ·have hm : x ∈ L := List.mem_of_getElem? h1
    have e : (nmL L).L n = x.1 := by
     show (if n < 14 then _ else _) = _
     rw [if_neg (by omega)]
     simp [List.getD, h1]
    have eS : (nmL L).S n = fun _ => False := funext fun k => propext ⟨fun hh => by have hh : n < 14 /\ k = n := hh; omega, fun hh => hh.elim⟩
    show (avF σ).q x.2 ((nmL L).L n) ((nmL L).S n) W
    rw [e, eS]
    exact hq x hm W hs
  ·obtain ⟨a1, a2⟩ := fp n c k h hk
   obtain ⟨b1, b2⟩ := fp m d k h' hk'
   exact hnm (a2.symm.trans b2)
  ·show ((nmL L).L g).b = g
   rw [nmL_glob L hg']
  ·obtain ⟨a1, a2⟩ := fp n c k h hk
   subst a2
   exact hR k a1
 refine (h.2.2 _ W hO).mono ?_
 rintro e w' ⟨ρ', rfl, hO', hE⟩
 refine ⟨by rw [hv ρ'], ⟨fun k hk => ?_, hE.os, hE.tape, hE.output, hE.size⟩⟩
 by_cases e0 : k < 14
 ·have hk' : hget (sentL AV.sent 0 allM ++ chL l') k = some (.abs (.sent k)) := by
   rw [hget_append, sentL_len, if_pos (by rw [hal]; exact e0)]
   exact (sentL_get _ _ _ _ _).2 ⟨(hlin k).2 e0, by rw [Nat.zero_add]⟩
  have hq' : AV.q σ (.sent k) (ρ'.L k) (ρ'.S k) w' := hO'.q k _ hk'
  have hr0 : (ρ'.L k).b = k := hO'.glb k e0
  have this := hq'.2
  rw [hr0] at this
  rw [this, hg k e0]
 ·refine hE.frame k hk fun n c h hf => ?_
  obtain ⟨a1, a2⟩ := fp n c k h hf
  omega
theorem varB_of {σ : Sg} {W : World} (h : VarS σ W) : VarB W := fun k hk => by
 refine ⟨_, _, _, h k hk, fun c hc => ?_⟩
 have hc : c ∈ denL Nm.id (sentW σ k) := hc
 unfold sentW at hc
 split at hc
 ·unfold denL at hc
  rw [List.map_map] at hc
  obtain ⟨s, _, rfl⟩ := List.mem_map.1 hc
  exact .inr ⟨s, rfl⟩
 ·have hc := List.mem_singleton.1 hc
  exact .inl ⟨_, _, hc⟩
theorem sentR_of {W : World} {ad : Nat -> Addr} {gs : List Nat} {p1 p2 : List MemPlace} {tp : TypeId} (all : ∀ i, i < 14 -> sentTx i = none -> i ∈ gs) (d1 : ∀ i ∈ gs, ∀ j ∈ gs, i ≠ j -> ad i ≠ ad j)
 (d2 : ∀ i ∈ gs, MemPlace.cell (ad i).block (ad i).off ∈ p1 /\ (∃ s, W.cell? (ad i) = some (.string s)) /\ ∃ t, W.heap[i]? = some (.cells #[.iface tp (.pointer (some (ad i)))] t (0, 0)))
 (hr : ∀ b off, MemPlace.cell b off ∈ p1 -> ∃ c t, W.heap[b]? = some (.cells c t (0, 0))) (dis : ∀ x ∈ p1, ∀ y ∈ p2, x ≠ y) (hV : VarS (sgOf W ad) W)
 (tabs : ∀ k, k < 14 -> (sentTx k).isSome = true -> ∀ off, off < (sentW (sgOf W ad) k).length -> MemPlace.cell k off ∈ p2) : SentR (sgOf W ad) := by
 have key : ∀ i ∈ gs, ∃ c t, (sgOf W ad).R (ad i).block = some (.cells c t (0, 0)) := fun i hi => by
  obtain ⟨g1, ⟨s, g2⟩, _⟩ := d2 i hi
  obtain ⟨c, t, hb⟩ := hr _ _ g1
  refine ⟨c, t, ?_⟩
  have hb14 : ¬ (ad i).block < 14 := fun hk => by
   have hw := hV _ hk
   unfold World.cell? at g2
   rw [hw] at g2
   simp only at g2
   split at g2
   ·cases g2
   ·have h2 : (denL Nm.id (sentW (sgOf W ad) (ad i).block))[(ad i).off]? = some (.string s) := by simpa using g2
    have hlt := (List.getElem?_eq_some_iff.1 h2).1
    unfold denL at hlt
    rw [List.length_map] at hlt
    cases ht : sentTx (ad i).block with
    | none =>
      have hm : Value.string s ∈ denL Nm.id (sentW (sgOf W ad) (ad i).block) := List.mem_of_getElem? h2
      unfold sentW at hm
      rw [ht] at hm
      have hm := List.mem_singleton.1 hm
      cases hm
    | some x => exact dis _ g1 _ (tabs _ hk (by rw [ht]; rfl) _ hlt) rfl
  show (if (ad i).block < 14 then none else W.heap[(ad i).block]?) = _
  rw [if_neg hb14, hb]
 exact fun i j hi hj li lj hij => ⟨d1 i (all i li hi) j (all j lj hj) hij, key i (all i li hi), key j (all j lj hj)⟩
theorem wf_in {n : Int} (h : (Lit.int .i64 n).wf = true) : inI n := by
 have h : (decide (IntKind.min .i64 <= n) && decide (n <= IntKind.max .i64)) = true := h
 rw [Bool.and_eq_true, decide_eq_true_eq, decide_eq_true_eq] at h
 have e1 : IntKind.min .i64 = -9223372036854775808 := by decide
 have e2 : IntKind.max .i64 = 9223372036854775807 := by decide
 rw [e1, e2] at h
 exact h
theorem dec_int (cs : List Value) (h : flatOk [.int .i64] cs) (hw : flatW cs) : ∃ a : N1, cs = denL Nm.id (kints.enc a) /\ inI a.val := by
 match cs, h with
 | [.int _ a], h =>
   obtain ⟨rfl, _⟩ := h
   exact ⟨⟨a⟩, rfl, wf_in (hw _ (by simp) _ _ rfl)⟩
theorem dec_pair (cs : List Value) (h : flatOk [.int .i64, .int .i64] cs) (hw : flatW cs) : ∃ a : Pr, cs = denL Nm.id (kpairs.enc a) /\ inP a := by
 match cs, h with
 | [.int _ a, .int _ b], h =>
   obtain ⟨rfl, rfl, _⟩ := h
   exact ⟨⟨a, b⟩, rfl, wf_in (hw _ (by simp) _ _ rfl), wf_in (hw (.int .i64 b) (by simp) _ _ rfl)⟩
theorem no_int (a : N1) (j : Nat) (x : Value) (h : (denL Nm.id (kints.enc a))[j]? = some x) : (∀ t p, x ≠ .iface t p) /\ ∀ s, x ≠ .string s := by
 rcases j with _ | j <;> cases h
 exact ⟨(fun _ _ e => by cases e), fun _ e => by cases e⟩
theorem no_pair (a : Pr) (j : Nat) (x : Value) (h : (denL Nm.id (kpairs.enc a))[j]? = some x) : (∀ t p, x ≠ .iface t p) /\ ∀ s, x ≠ .string s := by
 rcases j with _ | _ | j <;> cases h <;> exact ⟨(fun _ _ e => by cases e), fun _ e => by cases e⟩
end Go.Proofs.YthdmoahfeimdaaaGreatDoor

namespace Go.Proofs.YthdmoahfeimdaaaGreatDoor
open Go Go.Sx Go.Proofs
set_option linter.unusedVariables false
set_option maxRecDepth 100000
variable {σ : Sg} {lp : Lp}
abbrev i6 (n : Int) : Cell := .it .i64 n
def blT (v : Int) : List UInt8 := 32 :: Lib.itoa v
def wordB (c v : Int) : List UInt8 := if c = 1 then [121, 101, 115] ++ blT v else if c = 2 then [101, 109, 112, 116, 121] else if c = 3 then [104, 97, 100] else if c = 4 then [102, 117, 108, 108] else Lib.itoa c ++ blT v
abbrev okI (n : Int) : Bool := decide (-9223372036854775808 <= n /\ n <= 9223372036854775807)
def wordV (v : V1) : Ex × St AV := stV (.v v, hpC nM [])
theorem wordR (σ : Sg) (c v : Int) : runC noLp σ tabT 10 nM [.v (.agg [i6 c, i6 v])] [] =
 .need (match okI v with | true => Nat.ble (strLen ⟨#[32]⟩ + strLen ⟨(Lib.itoa v).toArray⟩) 9223372036854775807 | false => false)
  (.ite (c == 1) (.need (Nat.ble (strLen ⟨#[121, 101, 115]⟩ + strLen (strCat ⟨#[32]⟩ ⟨(Lib.itoa v).toArray⟩)) 9223372036854775807) (.leaf (wordV (.c (.sv (strCat ⟨#[121, 101, 115]⟩ (strCat ⟨#[32]⟩ ⟨(Lib.itoa v).toArray⟩)))))))
    (.ite (c == 2) (.leaf (wordV (.c (.st ⟨#[101, 109, 112, 116, 121]⟩)))) (.ite (c == 3) (.leaf (wordV (.c (.st ⟨#[104, 97, 100]⟩)))) (.ite (c == 4) (.leaf (wordV (.c (.st ⟨#[102, 117, 108, 108]⟩))))
      (.need (match okI c with | true => Nat.ble (strLen ⟨(Lib.itoa c).toArray⟩ + strLen (strCat ⟨#[32]⟩ ⟨(Lib.itoa v).toArray⟩)) 9223372036854775807 | false => false) (.leaf (wordV (.c (.sv (strCat ⟨(Lib.itoa c).toArray⟩ (strCat ⟨#[32]⟩ ⟨(Lib.itoa v).toArray⟩)))))))))))  := by kernel_rfl
theorem inN (n : Int) (h : inI n) : (Lib.itoa n).length <= 21 := by have := Lib.itoa_length_le n h.1 h.2; omega
theorem bleT {a b : Nat} (h : a <= b) : Nat.ble a b = true := Nat.ble_eq_true_of_le h
theorem word_val {c v : Int} (hc : inI c) (hv : inI v) : ∃ x : V1, (runC noLp σ tabT 10 nM [.v (.agg [i6 c, i6 v])] []).val = some (wordV x) /\ (∀ ρ : Nm, x.den ρ = .string ⟨(wordB c v).toArray⟩) /\ Plain (.v x) := by
 have l1 := inN c hc
 have l2 := inN v hv
 have n1 : (match okI v with | true => Nat.ble (strLen ⟨#[32]⟩ + strLen ⟨(Lib.itoa v).toArray⟩) 9223372036854775807 | false => false) = true := by
  rw [show okI v = true from decide_eq_true hv]
  exact bleT (by show 1 + (Lib.itoa v).length <= _; omega)
 rw [wordR, nv n1]
 by_cases h1 : c = 1
 ·rw [ivT (by simp [h1]), nv (bleT (by show 3 + (32 :: Lib.itoa v).length <= _; simp; omega))]
  exact ⟨_, rfl, (fun ρ => by rw [wordB, if_pos h1]; rfl), by intro x hx; simp [V1.cells] at hx; subst hx; rfl⟩
 rw [ivF (by simp [h1])]
 by_cases h2 : c = 2
 ·rw [ivT (by simp [h2])]
  exact ⟨_, rfl, (fun ρ => by rw [wordB, if_neg h1, if_pos h2]; rfl), by intro x hx; simp [V1.cells] at hx; subst hx; rfl⟩
 rw [ivF (by simp [h2])]
 by_cases h3 : c = 3
 ·rw [ivT (by simp [h3])]
  exact ⟨_, rfl, (fun ρ => by rw [wordB, if_neg h1, if_neg h2, if_pos h3]; rfl), by intro x hx; simp [V1.cells] at hx; subst hx; rfl⟩
 rw [ivF (by simp [h3])]
 by_cases h4 : c = 4
 ·rw [ivT (by simp [h4])]
  exact ⟨_, rfl, (fun ρ => by rw [wordB, if_neg h1, if_neg h2, if_neg h3, if_pos h4]; rfl), by intro x hx; simp [V1.cells] at hx; subst hx; rfl⟩
 have n2 : (match okI c with | true => Nat.ble (strLen ⟨(Lib.itoa c).toArray⟩ + strLen (strCat ⟨#[32]⟩ ⟨(Lib.itoa v).toArray⟩)) 9223372036854775807 | false => false) = true := by
  rw [show okI c = true from decide_eq_true hc]
  exact bleT (by show (Lib.itoa c).length + (32 :: Lib.itoa v).length <= _; simp; omega)
 rw [ivF (by simp [h4]), nv n2]
 exact ⟨_, rfl, (fun ρ => by rw [wordB, if_neg h1, if_neg h2, if_neg h3, if_neg h4]; rfl), by intro x hx; simp [V1.cells] at hx; subst hx; rfl⟩
abbrev WordF := Int -> Int -> List UInt8
def wordP (wb : WordF) (args : List SV) (ch : List (Chunk AV)) : T (SV × List (Chunk AV) × List (Chunk AV)) := match args, ch with
 | [.v (.agg [.it .i64 c, .it .i64 v])], [] => .need (decide (inI c /\ inI v)) (.leaf (.v (.c (.sv ⟨(wb c v).toArray⟩)), [], []))
 | _, _ => .fail "Word"
theorem word_ok (ht : TabR σ) : FnOk Tryz.prog (NVl lp σ) 10 (sumC isS nM (wordP wordB)) := by
 refine fnOk_env (N := NVl noLp σ) (N' := NVl lp σ) rfl rfl (sumC_ok isS_ok rfl fun args ch v l' nw h hlen ha hC => ?_)
 unfold wordP at h
 split at h
 ·rename_i c v
  replace h := need_some h
  obtain ⟨hb, h⟩ := h
  obtain ⟨hc, hv⟩ := of_decide_eq_true hb
  simp only [T.val, Option.some.injEq, Prod.mk.injEq] at h
  obtain ⟨rfl, rfl, rfl⟩ := h
  obtain ⟨x, hx, hd, hp⟩ := word_val (σ := σ) hc hv
  exact ctr_val (runC_ctr lpsV (tabT_ok ht) rfl hx (by rintro ⟨⟩)) ((show Plain (.v (.c (.sv ⟨(wordB c v).toArray⟩))) by intro x hx; simp [V1.cells] at hx; subst hx; rfl).cl _) fun ρ => (hd ρ).symm
 ·simp [T.val] at h
noncomputable def mT : List Bool := mkF 8
end Go.Proofs.YthdmoahfeimdaaaGreatDoor

namespace Go.Proofs.YthdmoahfeimdaaaGreatDoor
open Go Go.Sx Go.Proofs
set_option linter.unusedVariables false
set_option maxRecDepth 100000
def itT (n : Int) : ByteArray := ⟨(Lib.itoa n).toArray⟩
def tailW (wb : WordF) (a b f o : Int) : Bool -> List ByteArray
 | true => [itT f, itT o, ⟨(wb a b).toArray⟩]
 | false => [itT f, ⟨#[111, 112, 101, 110]⟩]
def rowJ (wb : WordF) (op : ByteArray) (t a b f o : Int) (d : Bool) : List UInt8 := joinL (itT t :: op :: tailW wb a b f o d) [32]
end Go.Proofs.YthdmoahfeimdaaaGreatDoor

namespace Go.Proofs.YthdmoahfeimdaaaGreatDoor
open Go Go.Sx Go.Proofs
set_option linter.unusedVariables false
set_option maxRecDepth 100000
section
variable {AV : Type} {P : Program} {N : Env AV}
structure SameH (N : Env AV) (H H' : Hp AV) : Prop where
 len : H.length = H'.length
 non : ∀ m, hget H m = none -> hget H' m = none
 to : ∀ m c, hget H m = some c -> ∃ c', hget H' m = some c' /\ (∀ ρ w, c.q N ρ m w -> c'.q N ρ m w) /\ ∀ ρ k, c'.fp ρ m k ↔ c.fp ρ m k
theorem SameH.back {H H' : Hp AV} (h : SameH N H H') {m : Nat} {c' : Chunk AV} (hc : hget H' m = some c') : ∃ c, hget H m = some c /\ (∀ ρ w, c.q N ρ m w -> c'.q N ρ m w) /\ ∀ ρ k, c'.fp ρ m k ↔ c.fp ρ m k := by
 cases hm : hget H m with
 | none => rw [h.non m hm] at hc; cases hc
 | some c =>
   obtain ⟨c2, g1, g2, g3⟩ := h.to m c hm
   rw [hc] at g1
   cases g1
   exact ⟨c, rfl, g2, g3⟩
theorem SameH.own {H H' : Hp AV} (h : SameH N H H') {ρ : Nm} {w : World} (hO : Own N ρ H w) : Own N ρ H' w := by
 refine hO.sub ⟨fun m c' hc => ?_, fun m m' c d hne hc hd k hk hk' => ?_, hO.glb⟩ fun m d k hd hk => ?_
 ·obtain ⟨c, g1, g2, _⟩ := h.back hc
  exact g2 ρ w (hO.q m c g1)
 ·obtain ⟨c1, g1, _, g3⟩ := h.back hc
  obtain ⟨d1, q1, _, q3⟩ := h.back hd
  exact hO.dis m m' c1 d1 hne g1 q1 k ((g3 ρ k).1 hk) ((q3 ρ k).1 hk')
 ·obtain ⟨c, g1, _, g3⟩ := h.back hd
  exact ⟨m, c, g1, (g3 ρ k).1 hk⟩
end
variable {σ : Sg} {lp : Lp}
theorem word_le {a b : Int} (ha : inI a) (hb : inI b) : (wordB a b).length <= 100 := by
 have := inN a ha
 have := inN b hb
 unfold wordB blT
 repeat' split
 all_goals simp
 all_goals omega
end Go.Proofs.YthdmoahfeimdaaaGreatDoor

namespace Go.Sx
open Go
set_option linter.unusedVariables false
end Go.Sx

namespace Go.Proofs.YthdmoahfeimdaaaGreatDoor
open Go Go.Sx Go.Proofs
set_option linter.unusedVariables false
set_option maxRecDepth 100000
end Go.Proofs.YthdmoahfeimdaaaGreatDoor

namespace Go.Proofs.YthdmoahfeimdaaaGreatDoor
open Go Go.Sx Go.Proofs
set_option linter.unusedVariables false
set_option maxRecDepth 100000
variable {σ : Sg} {lp : Lp}
noncomputable def runB (lp : Lp) (σ : Sg) (tab : Tab) (f : FuncId) (M : List Bool) (args : List SV) (l : List (Chunk AV)) : T (Ex × St AV) :=
 match clVs (hpC M l) args, clHs (hpC M l) (hpC M l) with
 | true, true => (Q.runF (NVl lp σ) (Q.joinCal (Q.lv (NVl lp σ) tab 25)) f args (hpC M l)).bind fun r => backS (M.length + l.length) 1 [0] noPk (stV r)
 | _, _ => .fail "names"
theorem runB_ctr (hlp : LpsOk Tryz.prog (NVl lp σ)) {tab : Tab} (ht : TabOk Tryz.prog (NVl lp σ) tab) {f : FuncId} {M : List Bool} (hM : M.length = gN) {args : List SV} {l : List (Chunk AV)} {v : SV} {H' : Hp AV} (h : (runB lp σ tab f M args l).val = some (stV (v, H'))) (hv : v ≠ .unk) :
 Ctr Tryz.prog (NVl lp σ) f args (hpC M l) v H' := by
 unfold runB at h
 split at h
 ·rename_i h1 h2
  obtain ⟨⟨v1, H2⟩, hr, hb⟩ := T.bind_some h
  rw [Q.runF_eq, Q.joinCal_eq, Q.lv_eq] at hr
  have hctr := (runF_ok okV hlp (joinCal_ok (lv_ok okV hlp hvV ht 25)) f).ctr hr (clVs_iff.1 h1) ⟨clHs_iff.1 h2, trivial⟩
  have hlen : (hpC M l).length = M.length + l.length := by simp [hpC, sentL_len, chL_len]
  exact ctr_back hlen (by show gN <= _; omega) hctr (fun d a h => by cases h) hv hb
 ·simp [T.val] at h
abbrev DigF := Int -> List UInt8
def digP (db : DigF) (ok : Int -> Bool) (args : List SV) (ch : List (Chunk AV)) : T (SV × List (Chunk AV) × List (Chunk AV)) := match args, ch with
 | [.v (.c (.it .i64 n))], [] => .need (ok n) (.leaf (.v (.c (.sv ⟨(db n).toArray⟩)), [], []))
 | _, _ => .fail "digits"
noncomputable def tabD (db : DigF) (ok : Int -> Bool) : Tab := tabAdd 31 (sumC isS nM (digP db ok)) fun _ => none
noncomputable def tabD2 (db : DigF) (ok : Int -> Bool) : Tab := tabAdd 53 (sumC isS nM (digP db ok)) fun _ => none
end Go.Proofs.YthdmoahfeimdaaaGreatDoor

namespace Go.Proofs.YthdmoahfeimdaaaGreatDoor
open Go Go.Sx Go.Proofs
set_option linter.unusedVariables false
set_option maxRecDepth 100000
variable {σ : Sg} {lp : Lp}
def tenT : ByteArray := ⟨#[48, 49, 50, 51, 52, 53, 54, 55, 56, 57]⟩
def itoL (n : Int) : List UInt8 := Lib.itoa n
theorem cut_dg {n : Nat} (h : n < 10) : cutTx tenT n (n + 1) = ⟨#[UInt8.ofNat (48 + n)]⟩ := by
 have : ∀ i : Fin 10, cutTx tenT i.val (i.val + 1) = ⟨#[UInt8.ofNat (48 + i.val)]⟩ := by decide
 exact this ⟨n, h⟩
theorem itoa_pos {n : Int} (h : 0 <= n) : itoL n = Lib.decDigits n.toNat := by unfold itoL Lib.itoa; rw [if_neg (by omega)]
theorem itoa_small {n : Int} (h : 0 <= n) (h1 : n < 10) : itoL n = [UInt8.ofNat (48 + n.toNat)] := by
 rw [itoa_pos h, Lib.decDigits]
 split
 ·rfl
 ·omega
theorem itoa_big {n : Int} (h : 10 <= n) : itoL n = itoL (n.tdiv 10) ++ [UInt8.ofNat (48 + (n.tmod 10).toNat)] := by
 have e1 : n.tdiv 10 = n / 10 := Int.tdiv_eq_ediv_of_nonneg (by omega)
 have e2 : n.tmod 10 = n % 10 := Int.tmod_eq_emod_of_nonneg (by omega)
 rw [e1, e2, itoa_pos (by omega), itoa_pos (by omega), Lib.decDigits]
 split
 ·omega
 ·rw [show n.toNat / 10 = (n / 10).toNat by omega, show n.toNat % 10 = (n % 10).toNat by omega]
theorem itoa_minus {n : Int} (h : n < 0) : itoL n = 45 :: itoL (0 - n) := by
 rw [itoa_pos (n := 0 - n) (by omega)]
 unfold itoL Lib.itoa
 rw [if_pos h, show n.natAbs = (0 - n).toNat by omega]
abbrev wI (n : Int) : Int := IntKind.wrap .i64 n
def lowT (n : Int) : T (Ex × St AV) := .need (decide (0 <= n /\ n <= wI (n + 1) /\ wI (n + 1) <= (strLen tenT : Int))) (.leaf (wordV (.c (.sv (cutTx tenT n.toNat (wI (n + 1)).toNat)))))
def highT (db : DigF) (ok : Int -> Bool) (n : Int) : T (Ex × St AV) :=
 .need (match ok (wI (n.tdiv 10)) with
  | true => match decide (0 <= n.tmod 10 /\ n.tmod 10 <= wI (n.tmod 10 + 1) /\ wI (n.tmod 10 + 1) <= (strLen tenT : Int)) with
    | true => Nat.ble (strLen ⟨(db (wI (n.tdiv 10))).toArray⟩ + strLen (cutTx tenT (n.tmod 10).toNat (wI (n.tmod 10 + 1)).toNat)) 9223372036854775807
    | false => false
  | false => false) (.leaf (wordV (.c (.sv (strCat ⟨(db (wI (n.tdiv 10))).toArray⟩ (cutTx tenT (n.tmod 10).toNat (wI (n.tmod 10 + 1)).toNat))))))
theorem dig22R (σ : Sg) (db : DigF) (ok : Int -> Bool) (n : Int) : runB noLp σ (tabD db ok) 31 nM [.v (.c (i6 n))] [] =
 .ite (decide (n < 0)) (.need (match ok (wI (0 - n)) with | true => Nat.ble (strLen ⟨#[45]⟩ + strLen ⟨(db (wI (0 - n))).toArray⟩) 9223372036854775807 | false => false) (.leaf (wordV (.c (.sv (strCat ⟨#[45]⟩ ⟨(db (wI (0 - n))).toArray⟩))))))
  (.ite (decide (n < 10)) (lowT n) (highT db ok n)) := by kernel_rfl
theorem dig21R (σ : Sg) (db : DigF) (ok : Int -> Bool) (n : Int) : runB noLp σ (tabD2 db ok) 53 nM [.v (.c (i6 n))] [] =
 .ite (decide (n < 10)) (lowT n) (highT db ok n) := by kernel_rfl
abbrev txV1 (l : List UInt8) : V1 := .c (.sv ⟨l.toArray⟩)
theorem low_val {n : Int} (h : 0 <= n) (h1 : n < 10) : (lowT n).val = some (wordV (txV1 (itoL n))) := by
 have hw : wI (n + 1) = n + 1 := wrapI (by omega)
 unfold lowT
 rw [hw, nv (decide_eq_true ⟨h, by omega, by show n + 1 <= 10; omega⟩), itoa_small h h1]
 rw [show (n + 1).toNat = n.toNat + 1 by omega, cut_dg (by omega)]
 rfl
theorem high_val {ok : Int -> Bool} {n : Int} (h : 10 <= n) (h1 : n <= 9223372036854775807) (hk : ok (n.tdiv 10) = true) : (highT itoL ok n).val = some (wordV (txV1 (itoL n))) := by
 have e1 : n.tdiv 10 = n / 10 := Int.tdiv_eq_ediv_of_nonneg (by omega)
 have e2 : n.tmod 10 = n % 10 := Int.tmod_eq_emod_of_nonneg (by omega)
 have hw : wI (n.tdiv 10) = n.tdiv 10 := wrapI (by rw [e1]; omega)
 have hw2 : wI (n.tmod 10 + 1) = n.tmod 10 + 1 := wrapI (by rw [e2]; omega)
 have hc : cutTx tenT (n.tmod 10).toNat (n.tmod 10 + 1).toNat = ⟨#[UInt8.ofNat (48 + (n.tmod 10).toNat)]⟩ := by
  rw [show (n.tmod 10 + 1).toNat = (n.tmod 10).toNat + 1 by rw [e2]; omega]
  exact cut_dg (by rw [e2]; omega)
 have hl : (itoL (n.tdiv 10)).length <= 21 := inN _ (by rw [e1]; constructor <;> omega)
 unfold highT
 rw [hw, hw2, hc, nv ?_, itoa_big h]
 ·rfl
 ·rw [hk]
  simp only
  rw [decide_eq_true (show 0 <= n.tmod 10 /\ n.tmod 10 <= n.tmod 10 + 1 /\ n.tmod 10 + 1 <= (strLen tenT : Int) by rw [e2]; refine ⟨by omega, by omega, ?_⟩; show n % 10 + 1 <= 10; omega)]
  exact bleT (by show (itoL (n.tdiv 10)).length + 1 <= _; omega)
def bdD (k : Nat) : Nat := if k = 0 then 0 else 10 ^ k
theorem bdD_step {k : Nat} {n : Int} (h : ¬ n < 10) (h1 : n < (bdD (k + 1) : Nat)) : n / 10 < (bdD k : Nat) := by
 unfold bdD at h1 ⊢
 rw [if_neg (by omega), Nat.pow_succ] at h1
 by_cases hk : k = 0
 ·subst hk
  have : (10 ^ 0 * 10 : Nat) = 10 := rfl
  rw [this] at h1
  omega
 ·rw [if_neg hk]; omega
def okD (k : Nat) (n : Int) : Bool := decide (0 <= n /\ n < (bdD k : Nat) /\ n <= 9223372036854775807)
theorem dig_of {f : FuncId} {ok : Int -> Bool} {run : Int -> T (Ex × St AV)} (hr : ∀ n, (run n).val = some (wordV (txV1 (itoL n))) -> Ctr Tryz.prog (NVl lp σ) f [.v (.c (i6 n))] (hpC nM []) (.v (txV1 (itoL n))) (hpC nM [])) (h : ∀ n, ok n = true -> (run n).val = some (wordV (txV1 (itoL n)))) :
 FnOk Tryz.prog (NVl lp σ) f (sumC isS nM (digP itoL ok)) := by
 refine sumC_ok isS_ok rfl fun args ch v l' nw hx hlen ha hC => ?_
 unfold digP at hx
 split at hx
 ·rename_i n
  replace hx := need_some hx
  obtain ⟨hb, hx⟩ := hx
  simp only [T.val, Option.some.injEq, Prod.mk.injEq] at hx
  obtain ⟨rfl, rfl, rfl⟩ := hx
  exact hr n (h n hb)
 ·simp [T.val] at hx
theorem dig21_step (k : Nat) (ih : FnOk Tryz.prog (NV σ) 53 (sumC isS nM (digP itoL (okD k)))) : FnOk Tryz.prog (NV σ) 53 (sumC isS nM (digP itoL (okD (k + 1)))) := by
 refine dig_of (run := fun n => runB noLp σ (tabD2 itoL (okD k)) 53 nM [.v (.c (i6 n))] []) (fun n h => runB_ctr lpsV (tabAdd_ok ih tab0_ok) rfl h (by rintro ⟨⟩)) fun n hn => ?_
 obtain ⟨h0, h1, h2⟩ := of_decide_eq_true hn
 show (runB noLp σ (tabD2 itoL (okD k)) 53 nM [.v (.c (i6 n))] []).val = _
 rw [dig21R]
 by_cases h : n < 10
 ·rw [ivT (decide_eq_true h)]; exact low_val h0 h
 ·rw [ivF (decide_eq_false h)]
  refine high_val (by omega) h2 (decide_eq_true ?_)
  rw [Int.tdiv_eq_ediv_of_nonneg (by omega)]
  exact ⟨by omega, bdD_step h h1, by omega⟩
theorem dig22_step (k : Nat) (ih : FnOk Tryz.prog (NV σ) 31 (sumC isS nM (digP itoL (okD k)))) : FnOk Tryz.prog (NV σ) 31 (sumC isS nM (digP itoL (okD (k + 1)))) := by
 refine dig_of (run := fun n => runB noLp σ (tabD itoL (okD k)) 31 nM [.v (.c (i6 n))] []) (fun n h => runB_ctr lpsV (tabAdd_ok ih tab0_ok) rfl h (by rintro ⟨⟩)) fun n hn => ?_
 obtain ⟨h0, h1, h2⟩ := of_decide_eq_true hn
 show (runB noLp σ (tabD itoL (okD k)) 31 nM [.v (.c (i6 n))] []).val = _
 rw [dig22R, ivF (decide_eq_false (by omega))]
 by_cases h : n < 10
 ·rw [ivT (decide_eq_true h)]; exact low_val h0 h
 ·rw [ivF (decide_eq_false h)]
  refine high_val (by omega) h2 (decide_eq_true ?_)
  rw [Int.tdiv_eq_ediv_of_nonneg (by omega)]
  exact ⟨by omega, bdD_step h h1, by omega⟩
theorem dig_none (f : FuncId) : FnOk Tryz.prog (NV σ) f (sumC isS nM (digP itoL (okD 0))) := by
 refine sumC_ok isS_ok rfl fun args ch v l' nw hx hlen ha hC => ?_
 unfold digP at hx
 split at hx
 ·replace hx := need_some hx
  obtain ⟨h0, h1, _⟩ := of_decide_eq_true hx.1
  have e : bdD 0 = 0 := rfl
  rw [e] at h1
  omega
 ·simp [T.val] at hx
theorem dig21_k : ∀ k, FnOk Tryz.prog (NV σ) 53 (sumC isS nM (digP itoL (okD k)))
 | 0 => dig_none _
 | k + 1 => dig21_step k (dig21_k k)
theorem dig22_k : ∀ k, FnOk Tryz.prog (NV σ) 31 (sumC isS nM (digP itoL (okD k)))
 | 0 => dig_none _
 | k + 1 => dig22_step k (dig22_k k)
def okP0 (n : Int) : Bool := decide (0 <= n /\ n <= 9223372036854775807)
def okS0 (n : Int) : Bool := decide (-9223372036854775808 < n /\ n <= 9223372036854775807)
theorem okD_19 {n : Int} (h : 0 <= n /\ n <= 9223372036854775807) : okD 19 n = true := decide_eq_true ⟨h.1, by have : bdD 19 = 10000000000000000000 := rfl; rw [this]; omega, h.2⟩
theorem dig21_ok : FnOk Tryz.prog (NVl lp σ) 53 (sumC isS nM (digP itoL okP0)) := by
 refine fnOk_env (N := NV σ) (N' := NVl lp σ) rfl rfl (dig_of (lp := noLp) (run := fun n => runB noLp σ (tabD2 itoL (okD 19)) 53 nM [.v (.c (i6 n))] []) (fun n h => runB_ctr lpsV (tabAdd_ok (dig21_k 19) tab0_ok) rfl h (by rintro ⟨⟩)) fun n hn => ?_)
 obtain ⟨h0, h2⟩ := of_decide_eq_true hn
 show (runB noLp σ (tabD2 itoL (okD 19)) 53 nM [.v (.c (i6 n))] []).val = _
 rw [dig21R]
 by_cases h : n < 10
 ·rw [ivT (decide_eq_true h)]; exact low_val h0 h
 ·rw [ivF (decide_eq_false h)]
  exact high_val (by omega) h2 (okD_19 (by rw [Int.tdiv_eq_ediv_of_nonneg (by omega)]; omega))
theorem dig22_ok : FnOk Tryz.prog (NVl lp σ) 31 (sumC isS nM (digP itoL okS0)) := by
 refine fnOk_env (N := NV σ) (N' := NVl lp σ) rfl rfl (dig_of (lp := noLp) (run := fun n => runB noLp σ (tabD itoL (okD 19)) 31 nM [.v (.c (i6 n))] []) (fun n h => runB_ctr lpsV (tabAdd_ok (dig22_k 19) tab0_ok) rfl h (by rintro ⟨⟩)) fun n hn => ?_)
 obtain ⟨h0, h2⟩ := of_decide_eq_true hn
 show (runB noLp σ (tabD itoL (okD 19)) 31 nM [.v (.c (i6 n))] []).val = _
 rw [dig22R]
 by_cases hm : n < 0
 ·have hw : wI (0 - n) = 0 - n := wrapI (by omega)
  have hl : (itoL (0 - n)).length <= 21 := inN _ (by constructor <;> omega)
  rw [ivT (decide_eq_true hm), hw, nv ?_, itoa_minus hm]
  ·rfl
  ·rw [okD_19 (by omega)]
   exact bleT (by show 1 + (itoL (0 - n)).length <= _; omega)
 rw [ivF (decide_eq_false hm)]
 by_cases h : n < 10
 ·rw [ivT (decide_eq_true h)]; exact low_val (by omega) h
 ·rw [ivF (decide_eq_false h)]
  exact high_val (by omega) h2 (okD_19 (by rw [Int.tdiv_eq_ediv_of_nonneg (by omega)]; omega))
end Go.Proofs.YthdmoahfeimdaaaGreatDoor
