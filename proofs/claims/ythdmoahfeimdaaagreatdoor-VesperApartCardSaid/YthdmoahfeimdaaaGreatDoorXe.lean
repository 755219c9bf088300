import Derived.Test.YthdmoahfeimdaaaGreatDoorWp
import Derived.Test.YthdmoahfeimdaaaGreatDoorSxM
import Derived.Deep.Slices
import Derived.Lib.LaidTab
import Derived.LaidSub
import Derived.Lib.ItoaLen
namespace Go.Proofs.YthdmoahfeimdaaaGreatDoor
open Go Go.Sx Go.Proofs Go.ChangeShapes Go.WideShapes
set_option linter.unusedVariables false
set_option maxRecDepth 100000
section
variable {P : Program} {W : World}
theorem laid_split : ∀ {l1 l2 : List (String × DataW Unit)} {ps : List MemPlace}, DataW.LaidVars P W (l1 ++ l2) ps -> ∃ p1 p2, ps = p1 ++ p2 /\ DataW.LaidVars P W l1 p1 /\ DataW.LaidVars P W l2 p2
 | [], l2, ps, h => ⟨[], ps, rfl, rfl, h⟩
 | (n, d) :: l1, l2, ps, h => by
   obtain ⟨g, t, cs, fuel, p, q, h1, h2, h3, h4, h5, rfl⟩ := h
   obtain ⟨p1, p2, rfl, g1, g2⟩ := laid_split h5
   exact ⟨MemPlace.row ⟨g, 0, none⟩ cs.size ++ p ++ p1, p2, by simp, ⟨g, t, cs, fuel, p, p1, h1, h2, h3, h4, g1, rfl⟩, g2⟩
theorem sents3 {ti tp te ts : TypeId} (S : SentTy P ti tp te ts) : ∀ {l : List (String × List UInt8)} {gs : List Nat} {ps : List MemPlace},
 l.map (fun x => P.globalNamed x.1) = gs.map some -> (∀ g ∈ gs, (P.globals[g]?).map (·.type) = some ti) -> gs.Nodup ->
 DataW.LaidVars P W (l.map fun x => (x.1, sent x.2)) ps -> ps.Nodup -> (∀ b off, MemPlace.cell b off ∈ ps -> (∃ c t, W.heap[b]? = some (.cells c t (0, 0))) /\ ∀ u v, W.cell? ⟨b, off, none⟩ = some (.iface u v) -> Value.okWide P W .any 0 u v) ->
 ∃ ad : Nat -> Addr, (∀ i ∈ gs, ∀ j ∈ gs, i ≠ j -> ad i ≠ ad j) /\ ∀ i ∈ gs, MemPlace.cell (ad i).block (ad i).off ∈ ps /\ (∃ s, W.cell? (ad i) = some (.string s)) /\ ∃ t, W.heap[i]? = some (.cells #[.iface tp (.pointer (some (ad i)))] t (0, 0))
 | [], [], _, _, _, _, _, _, _ => ⟨fun _ => default, (fun i h => by cases h), fun i h => by cases h⟩
 | [], _ :: _, _, h, _, _, _, _, _ => by simp at h
 | _ :: _, [], _, h, _, _, _, _, _ => by simp at h
 | (n, text) :: l, g :: gs, ps, hn, ht, hgn, h, hnd, hr => by
   simp only [List.map_cons, List.cons.injEq] at hn
   obtain ⟨g', t, cs, fuel, p, q, hg, hty, hv, hd, hq, rfl⟩ := h
   obtain rfl := Option.some.inj (hn.1.symm.trans hg)
   obtain rfl := Option.some.inj ((ht g (List.mem_cons_self ..)).symm.trans hty)
   obtain ⟨l0⟩ := cs
   obtain ⟨ms, hi⟩ := S.hi
   obtain ⟨f, he, hft, hfo⟩ := S.he
   have ok0 : ∀ u v, l0 = [.iface u v] -> Value.okWide P W .any 0 u v := fun u v e => by
    subst e
    exact (hr g 0 (by simp [MemPlace.row])).2 u v (by simpa using World.var?_cell hg hv 0)
   obtain ⟨a, s, rfl, hc0, hs0, hz0, rfl⟩ := errorString_of_trod hi S.row S.hp he hft hfo S.hs S.hc S.hcs hd ok0
   have hnd' := List.nodup_append.1 hnd
   have hgn' := List.nodup_cons.1 hgn
   obtain ⟨ad, h1, h2⟩ := sents3 S hn.2 (fun x hx => ht x (List.mem_cons_of_mem _ hx)) hgn'.2 hq hnd'.2.1 (fun b off hb => hr b off (List.mem_append_right _ hb))
   have self : MemPlace.cell a.block a.off ∈ MemPlace.row ⟨g, 0, none⟩ 1 ++ MemPlace.row a 1 := List.mem_append_right _ (by simp [MemPlace.row])
   have isg : ∀ i ∈ gs, i ≠ g := fun i hi e => hgn'.1 (e ▸ hi)
   have apart : ∀ i ∈ gs, ad i ≠ a := fun i hi e => by
    have := (h2 i hi).1
    rw [e] at this
    exact hnd'.2.2 _ self _ this rfl
   refine ⟨fun i => if i = g then a else ad i, fun i hi j hj hij => ?_, fun i hi => ?_⟩
   ·rcases List.mem_cons.1 hi with rfl | hi2
    ·rcases List.mem_cons.1 hj with rfl | hj
     ·exact absurd rfl hij
     ·simp only [if_pos rfl, if_neg (isg j hj)]; exact fun e => apart j hj e.symm
    ·rcases List.mem_cons.1 hj with ej | hj
     ·subst ej
      simp only [if_pos rfl, if_neg (isg i hi2)]; exact apart i hi2
     ·simp only [if_neg (isg i hi2), if_neg (isg j hj)]; exact h1 i hi2 j hj hij
   ·rcases List.mem_cons.1 hi with rfl | hi
    ·simp only [if_pos rfl]
     refine ⟨List.mem_append_left _ self, ⟨s, hc0⟩, ?_⟩
     obtain ⟨c, t, hb⟩ := (hr i 0 (by simp [MemPlace.row])).1
     refine ⟨t, ?_⟩
     simp only [World.var?, hg, Option.bind_some, hb] at hv
     rw [hb]
     simpa using hv
    ·simp only [if_neg (isg i hi)]
     obtain ⟨g1, g2, g3⟩ := h2 i hi
     exact ⟨List.mem_append_right _ g1, g2, g3⟩
def texts {H : Type} (txs : List (List UInt8)) : DataW H := .agg (txs.map fun x => .lit (.string x))
theorem cells_of_texts {H : Type} {enc : TypeId × Value -> H} {w : World} {base : Nat} {sp : Nat -> Bool} {held : Bool} {fuel : Nat} {t e : TypeId} {n : Nat} {cs : List Value} {txs : List (List UInt8)} {p : List MemPlace}
 (ht : P.underlying t = some (.array n e)) (he : P.underlying e = some .string) (hce : P.cellsOf e = 1) (hct : P.cellsOf t = n)
 (h : DataW.trod enc P w base sp held fuel t cs = some (texts txs, p)) : cs = txs.map fun x => Value.string ⟨x.toArray⟩ := by
 cases fuel with
 | zero => simp [DataW.trod] at h
 | succ fuel =>
   simp only [DataW.trod, ht, hce, hct, Nat.mul_one] at h
   split at h
   ·rename_i hl
    obtain ⟨xs, hm, hx⟩ := Option.map_eq_some_iff.1 h
    have hxs : xs.map (·.1) = txs.map fun z => (DataW.lit (.string z) : DataW H) := by
     have := congrArg Prod.fst hx
     simpa [texts] using this
    have hxl : xs.length = n := by simpa using Lib.mapM_length hm
    have hzl : txs.length = n := by
     have := congrArg List.length hxs
     simp at this
     omega
    apply List.ext_getElem?
    intro i
    by_cases hi : i < n
    ·obtain ⟨b, hb, hf⟩ := Lib.mapM_at hm i i (by simp [hi])
     obtain ⟨z, hc, rfl, _⟩ := DataW.trod_string he hf
     have h1 : cs[i]? = some (.string z) := by
      have := congrArg (·[0]?) hc
      simpa [List.getElem?_take, List.getElem?_drop] using this
     have h2 : (xs.map (·.1))[i]? = some (DataW.lit (.string z.data.toList) : DataW H) := by simp [hb]
     rw [hxs] at h2
     simp only [List.getElem?_map, Option.map_eq_some_iff, DataW.lit.injEq, Lit.string.injEq] at h2
     obtain ⟨z', hz', rfl⟩ := h2
     simp [h1, hz']
    ·rw [List.getElem?_eq_none (by omega), List.getElem?_eq_none (by simp; omega)]
   ·cases h
theorem table_head {name : String} {txs : List (List UInt8)} {rest : List (String × DataW Unit)} {g : Nat} {t e : TypeId} {n : Nat} {ps : List MemPlace}
 (hg : P.globalNamed name = some g) (hty : (P.globals[g]?).map (·.type) = some t) (ht : P.underlying t = some (.array n e)) (he : P.underlying e = some .string) (hce : P.cellsOf e = 1) (hct : P.cellsOf t = n)
 (h : DataW.LaidVars P W ((name, texts txs) :: rest) ps) : ∃ q r, (∃ c t z, W.heap[g]? = some (.cells c t z) /\ c = (txs.map fun x => Value.string ⟨x.toArray⟩).toArray) /\ (∀ off, off < txs.length -> MemPlace.cell g off ∈ r) /\ ps = r ++ q /\ DataW.LaidVars P W rest q := by
 obtain ⟨g', t', cs, fuel, p, q, hg', ht', hvar, hd, hq, rfl⟩ := h
 obtain rfl := Option.some.inj (hg.symm.trans hg')
 obtain rfl := Option.some.inj (hty.symm.trans ht')
 have e1 := cells_of_texts ht he hce hct hd
 refine ⟨q, MemPlace.row ⟨g, 0, none⟩ cs.size ++ p, ?_, fun off ho => ?_, rfl, hq⟩
 ·unfold World.var? at hvar
  rw [hg, Option.bind_some] at hvar
  split at hvar
  ·rename_i c t z hb
   cases hvar
   exact ⟨_, _, _, hb, by rw [<- e1]⟩
  ·cases hvar
 ·refine List.mem_append_left _ ?_
  have : cs.size = txs.length := by
   have := congrArg List.length e1
   simpa using this
  simp [MemPlace.row, this, ho]
end
def sgOf (W : World) (ad : Nat -> Addr) : Sg := ⟨ad, fun k => if k < 14 then none else W.heap[k]?⟩
theorem sgOf_has (W : World) (ad : Nat -> Addr) : (sgOf W ad).has W := fun k o h => by
 unfold sgOf at h
 simp only at h
 split at h
 ·cases h
 ·exact h
theorem sgOf_tab {W : World} {ad : Nat -> Addr} (h : Lib.TabIs Tryz.prog W "internal/strconv.uint64pow10" .u64 Lib.pow10Tab) : TabR (sgOf W ad) := by
 have hg : Tryz.prog.globalNamed "internal/strconv.uint64pow10" = some 14 := by kernel_rfl
 unfold Lib.TabIs World.var? at h
 rw [hg, Option.bind_some] at h
 have hR : (sgOf W ad).R 14 = W.heap[(14 : Nat)]? := by
  show (if 14 < 14 then none else W.heap[(14 : Nat)]?) = _
  exact if_neg (by decide)
 unfold TabR
 rw [hR]
 split at h
 ·rename_i c ty z hb
  cases h
  exact ⟨ty, z, hb⟩
 ·cases h
def VarB (W : World) : Prop := ∀ k, k < 14 -> ∃ (cs : Array Value) (ty : TypeId) (z : Nat × Nat), W.heap[k]? = some (.cells cs ty z) /\ ∀ c ∈ cs.toList, (∃ t p, c = .iface t p) \/ ∃ s, c = .string s
def nmL (L : List (Sx.Loc × AV)) : Nm := ⟨fun n => if n < 14 then ⟨n, 0, 0⟩ else (L.map Prod.fst).getD (n - 14) ⟨0, 0, 0⟩, fun n k => n < 14 /\ k = n⟩
theorem nmL_glob (L : List (Sx.Loc × AV)) {n : Nat} (h : n < 14) : (nmL L).L n = ⟨n, 0, 0⟩ := if_pos h
def VarS (σ : Sg) (W : World) : Prop := ∀ n, n < 14 -> W.heap[n]? = some (.cells (denL Nm.id (sentW σ n)).toArray (sentT n) (0, 0))
theorem quietX {σ : Sg} {lp : Lp} {f : FuncId} {args : List SV} {L : List (Sx.Loc × AV)} {v : SV} {l' : List (Chunk AV)} {W : World} (h : Ctr Tryz.prog (NVl lp σ) f args (hpO allM (L.map Prod.snd)) v (sentL AV.sent 0 allM ++ chL l')) (hv : ∀ ρ : Nm, v.den ρ = .bool true)
 (hq : ∀ x ∈ L, ∀ w, σ.has w -> (avF σ).q x.2 x.1 (fun _ => False) w) (hs : σ.has W) (hR : ∀ k, k < 14 -> σ.R k = none) (hg : VarS σ W) :
 Calls Tryz.prog f (args.map (SV.den (nmL L))).toArray W fun e w' => e = .returned (.bool true) /\ Quiet W w' := by
 have hlin : ∀ n, allM[n]? = some true ↔ n < 14 := fun n => by
  unfold allM
  rw [List.getElem?_replicate]
  by_cases h : n < gN
  ·rw [if_pos h]; exact ⟨fun _ => h, fun _ => rfl⟩
  ·rw [if_neg h]; exact ⟨(fun e => by cases e), fun e => absurd e h⟩
 have hal : allM.length = 14 := List.length_replicate
 have get : ∀ n c, hget (hpO allM (L.map Prod.snd)) n = some c -> (n < 14 /\ c = .abs (.sent n)) \/ ∃ x, L[n - 14]? = some x /\ 14 <= n /\ c = .abs x.2 := fun n c h => by
  unfold hpO at h
  rw [hget_append, sentL_len, hal] at h
  split at h
  ·obtain ⟨h1, h2⟩ := (sentL_get _ _ _ _ _).1 h
   exact .inl ⟨(hlin n).1 h1, by rw [h2, Nat.zero_add]⟩
  ·rename_i hn
   obtain ⟨a, h1, h2⟩ := (absL_get _ _ _).1 h
   rw [List.getElem?_map, Option.map_eq_some_iff] at h1
   obtain ⟨x, h1, h3⟩ := h1
   exact .inr ⟨x, h1, Nat.le_of_not_lt hn, by rw [h2, h3]⟩
 have fp : ∀ n c k, hget (hpO allM (L.map Prod.snd)) n = some c -> c.fp (nmL L) n k -> n < 14 /\ k = n := fun n c k h hk => by
  rcases get n c h with ⟨h1, rfl⟩ | ⟨x, h1, h2, rfl⟩
  ·have hk : n < 14 /\ k = n := hk
   exact ⟨h1, hk.2⟩
  ·have hk : n < 14 /\ k = n := hk
   omega
 have hO : Own (NVl lp σ) (nmL L) (hpO allM (L.map Prod.snd)) W := by
  refine ⟨⟨fun n c h => ?_, fun n m c d hnm h h' k hk hk' => ?_, fun g hg' => ?_⟩, ⟨hs, fun n c k h hk => ?_⟩⟩
  ·rcases get n c h with ⟨h1, rfl⟩ | ⟨x, h1, h2, rfl⟩
   ·have e : (nmL L).L n = ⟨n, 0, 0⟩ := nmL_glob L h1
    show AV.q σ (.sent n) ((nmL L).L n) ((nmL L).S n) W
    refine ⟨fun k => ?_, ?_⟩
    ·show (n < 14 /\ k = n) ↔ k = ((nmL L).L n).b
     rw [e]
     exact ⟨fun hh => hh.2, fun hh => ⟨h1, hh⟩⟩
    ·rw [e]; exact hg n h1
   ·have hm : x ∈ L := List.mem_of_getElem? h1
    have e : (nmL L).L n = x.1 := by
     show (if n < 14 then _ else _) = _
     rw [if_neg (by omega)]
     simp [List.getD, h1]
    have eS : (nmL L).S n = fun _ => False := funext fun k => propext ⟨fun hh => by have hh : n < 14 /\ k = n := hh; omega, fun hh => hh.elim⟩
    show (avF σ).q x.2 ((nmL L).L n) ((nmL L).S n) W
    rw [e, eS]
    exact hq x hm W hs
  ·obtain ⟨a1, a2⟩ := fp n c k h hk
   obtain ⟨b1, b2⟩ := fp m d k h' hk'
   exact hnm (a2.symm.trans b2)
  ·show ((nmL L).L g).b = g
   rw [nmL_glob L hg']
  ·obtain ⟨a1, a2⟩ := fp n c k h hk
   subst a2
   exact hR k a1
 refine (h.2.2 _ W hO).mono ?_
 rintro e w' ⟨ρ', rfl, hO', hE⟩
 refine ⟨by rw [hv ρ'], ⟨fun k hk => ?_, hE.os, hE.tape, hE.output, hE.size⟩⟩
 by_cases e0 : k < 14
 ·have hk' : hget (sentL AV.sent 0 allM ++ chL l') k = some (.abs (.sent k)) := by
   rw [hget_append, sentL_len, if_pos (by rw [hal]; exact e0)]
   exact (sentL_get _ _ _ _ _).2 ⟨(hlin k).2 e0, by rw [Nat.zero_add]⟩
  have hq' : AV.q σ (.sent k) (ρ'.L k) (ρ'.S k) w' := hO'.q k _ hk'
  have hr0 : (ρ'.L k).b = k := hO'.glb k e0
  have this := hq'.2
  rw [hr0] at this
  rw [this, hg k e0]
 ·refine hE.frame k hk fun n c h hf => ?_
  obtain ⟨a1, a2⟩ := fp n c k h hf
  omega
theorem varB_of {σ : Sg} {W : World} (h : VarS σ W) : VarB W := fun k hk => by
 refine ⟨_, _, _, h k hk, fun c hc => ?_⟩
 have hc : c ∈ denL Nm.id (sentW σ k) := hc
 unfold sentW at hc
 split at hc
 ·unfold denL at hc
  rw [List.map_map] at hc
  obtain ⟨s, _, rfl⟩ := List.mem_map.1 hc
  exact .inr ⟨s, rfl⟩
 ·have hc := List.mem_singleton.1 hc
  exact .inl ⟨_, _, hc⟩
theorem sentR_of {W : World} {ad : Nat -> Addr} {gs : List Nat} {p1 p2 : List MemPlace} {tp : TypeId} (all : ∀ i, i < 14 -> sentTx i = none -> i ∈ gs) (d1 : ∀ i ∈ gs, ∀ j ∈ gs, i ≠ j -> ad i ≠ ad j)
 (d2 : ∀ i ∈ gs, MemPlace.cell (ad i).block (ad i).off ∈ p1 /\ (∃ s, W.cell? (ad i) = some (.string s)) /\ ∃ t, W.heap[i]? = some (.cells #[.iface tp (.pointer (some (ad i)))] t (0, 0)))
 (hr : ∀ b off, MemPlace.cell b off ∈ p1 -> ∃ c t, W.heap[b]? = some (.cells c t (0, 0))) (dis : ∀ x ∈ p1, ∀ y ∈ p2, x ≠ y) (hV : VarS (sgOf W ad) W)
 (tabs : ∀ k, k < 14 -> (sentTx k).isSome = true -> ∀ off, off < (sentW (sgOf W ad) k).length -> MemPlace.cell k off ∈ p2) : SentR (sgOf W ad) := by
 have key : ∀ i ∈ gs, ∃ c t, (sgOf W ad).R (ad i).block = some (.cells c t (0, 0)) := fun i hi => by
  obtain ⟨g1, ⟨s, g2⟩, _⟩ := d2 i hi
  obtain ⟨c, t, hb⟩ := hr _ _ g1
  refine ⟨c, t, ?_⟩
  have hb14 : ¬ (ad i).block < 14 := fun hk => by
   have hw := hV _ hk
   unfold World.cell? at g2
   rw [hw] at g2
   simp only at g2
   split at g2
   ·cases g2
   ·have h2 : (denL Nm.id (sentW (sgOf W ad) (ad i).block))[(ad i).off]? = some (.string s) := by simpa using g2
    have hlt := (List.getElem?_eq_some_iff.1 h2).1
    unfold denL at hlt
    rw [List.length_map] at hlt
    cases ht : sentTx (ad i).block with
    | none =>
      have hm : Value.string s ∈ denL Nm.id (sentW (sgOf W ad) (ad i).block) := List.mem_of_getElem? h2
      unfold sentW at hm
      rw [ht] at hm
      have hm := List.mem_singleton.1 hm
      cases hm
    | some x => exact dis _ g1 _ (tabs _ hk (by rw [ht]; rfl) _ hlt) rfl
  show (if (ad i).block < 14 then none else W.heap[(ad i).block]?) = _
  rw [if_neg hb14, hb]
 exact fun i j hi hj li lj hij => ⟨d1 i (all i li hi) j (all j lj hj) hij, key i (all i li hi), key j (all j lj hj)⟩
theorem wf_in {n : Int} (h : (Lit.int .i64 n).wf = true) : inI n := by
 have h : (decide (IntKind.min .i64 <= n) && decide (n <= IntKind.max .i64)) = true := h
 rw [Bool.and_eq_true, decide_eq_true_eq, decide_eq_true_eq] at h
 have e1 : IntKind.min .i64 = -9223372036854775808 := by decide
 have e2 : IntKind.max .i64 = 9223372036854775807 := by decide
 rw [e1, e2] at h
 exact h
end Go.Proofs.YthdmoahfeimdaaaGreatDoor

namespace Go.Proofs.YthdmoahfeimdaaaGreatDoor
open Go Go.Sx Go.Proofs
set_option linter.unusedVariables false
set_option maxRecDepth 100000
variable {σ : Sg} {lp : Lp}
abbrev i6 (n : Int) : Cell := .it .i64 n
def blT (v : Int) : List UInt8 := 32 :: Lib.itoa v
def wordB (c v : Int) : List UInt8 := if c = 1 then [121, 101, 115] ++ blT v else if c = 2 then [101, 109, 112, 116, 121] else if c = 3 then [104, 97, 100] else if c = 4 then [102, 117, 108, 108] else Lib.itoa c ++ blT v
abbrev okI (n : Int) : Bool := decide (-9223372036854775808 <= n /\ n <= 9223372036854775807)
def wordV (v : V1) : Ex × St AV := stV (.v v, hpC nM [])
theorem wordR (σ : Sg) (c v : Int) : runC noLp σ tabT 10 nM [.v (.agg [i6 c, i6 v])] [] =
 .need (match okI v with | true => Nat.ble (strLen ⟨#[32]⟩ + strLen ⟨(Lib.itoa v).toArray⟩) 9223372036854775807 | false => false)
  (.ite (c == 1) (.need (Nat.ble (strLen ⟨#[121, 101, 115]⟩ + strLen (strCat ⟨#[32]⟩ ⟨(Lib.itoa v).toArray⟩)) 9223372036854775807) (.leaf (wordV (.c (.sv (strCat ⟨#[121, 101, 115]⟩ (strCat ⟨#[32]⟩ ⟨(Lib.itoa v).toArray⟩)))))))
    (.ite (c == 2) (.leaf (wordV (.c (.st ⟨#[101, 109, 112, 116, 121]⟩)))) (.ite (c == 3) (.leaf (wordV (.c (.st ⟨#[104, 97, 100]⟩)))) (.ite (c == 4) (.leaf (wordV (.c (.st ⟨#[102, 117, 108, 108]⟩))))
      (.need (match okI c with | true => Nat.ble (strLen ⟨(Lib.itoa c).toArray⟩ + strLen (strCat ⟨#[32]⟩ ⟨(Lib.itoa v).toArray⟩)) 9223372036854775807 | false => false) (.leaf (wordV (.c (.sv (strCat ⟨(Lib.itoa c).toArray⟩ (strCat ⟨#[32]⟩ ⟨(Lib.itoa v).toArray⟩)))))))))))  := by kernel_rfl
theorem inN (n : Int) (h : inI n) : (Lib.itoa n).length <= 21 := by have := Lib.itoa_length_le n h.1 h.2; omega
theorem bleT {a b : Nat} (h : a <= b) : Nat.ble a b = true := Nat.ble_eq_true_of_le h
theorem word_val {c v : Int} (hc : inI c) (hv : inI v) : ∃ x : V1, (runC noLp σ tabT 10 nM [.v (.agg [i6 c, i6 v])] []).val = some (wordV x) /\ (∀ ρ : Nm, x.den ρ = .string ⟨(wordB c v).toArray⟩) /\ Plain (.v x) := by
 have l1 := inN c hc
 have l2 := inN v hv
 have n1 : (match okI v with | true => Nat.ble (strLen ⟨#[32]⟩ + strLen ⟨(Lib.itoa v).toArray⟩) 9223372036854775807 | false => false) = true := by
  rw [show okI v = true from decide_eq_true hv]
  exact bleT (by show 1 + (Lib.itoa v).length <= _; omega)
 rw [wordR, nv n1]
 by_cases h1 : c = 1
 ·rw [ivT (by simp [h1]), nv (bleT (by show 3 + (32 :: Lib.itoa v).length <= _; simp; omega))]
  exact ⟨_, rfl, (fun ρ => by rw [wordB, if_pos h1]; rfl), by intro x hx; simp [V1.cells] at hx; subst hx; rfl⟩
 rw [ivF (by simp [h1])]
 by_cases h2 : c = 2
 ·rw [ivT (by simp [h2])]
  exact ⟨_, rfl, (fun ρ => by rw [wordB, if_neg h1, if_pos h2]; rfl), by intro x hx; simp [V1.cells] at hx; subst hx; rfl⟩
 rw [ivF (by simp [h2])]
 by_cases h3 : c = 3
 ·rw [ivT (by simp [h3])]
  exact ⟨_, rfl, (fun ρ => by rw [wordB, if_neg h1, if_neg h2, if_pos h3]; rfl), by intro x hx; simp [V1.cells] at hx; subst hx; rfl⟩
 rw [ivF (by simp [h3])]
 by_cases h4 : c = 4
 ·rw [ivT (by simp [h4])]
  exact ⟨_, rfl, (fun ρ => by rw [wordB, if_neg h1, if_neg h2, if_neg h3, if_pos h4]; rfl), by intro x hx; simp [V1.cells] at hx; subst hx; rfl⟩
 have n2 : (match okI c with | true => Nat.ble (strLen ⟨(Lib.itoa c).toArray⟩ + strLen (strCat ⟨#[32]⟩ ⟨(Lib.itoa v).toArray⟩)) 9223372036854775807 | false => false) = true := by
  rw [show okI c = true from decide_eq_true hc]
  exact bleT (by show (Lib.itoa c).length + (32 :: Lib.itoa v).length <= _; simp; omega)
 rw [ivF (by simp [h4]), nv n2]
 exact ⟨_, rfl, (fun ρ => by rw [wordB, if_neg h1, if_neg h2, if_neg h3, if_neg h4]; rfl), by intro x hx; simp [V1.cells] at hx; subst hx; rfl⟩
abbrev WordF := Int -> Int -> List UInt8
def wordP (wb : WordF) (args : List SV) (ch : List (Chunk AV)) : T (SV × List (Chunk AV) × List (Chunk AV)) := match args, ch with
 | [.v (.agg [.it .i64 c, .it .i64 v])], [] => .need (decide (inI c /\ inI v)) (.leaf (.v (.c (.sv ⟨(wb c v).toArray⟩)), [], []))
 | _, _ => .fail "Word"
theorem word_ok (ht : TabR σ) : FnOk Tryz.prog (NVl lp σ) 10 (sumC isS nM (wordP wordB)) := by
 refine fnOk_env (N := NVl noLp σ) (N' := NVl lp σ) rfl rfl (sumC_ok isS_ok rfl fun args ch v l' nw h hlen ha hC => ?_)
 unfold wordP at h
 split at h
 ·rename_i c v
  replace h := need_some h
  obtain ⟨hb, h⟩ := h
  obtain ⟨hc, hv⟩ := of_decide_eq_true hb
  simp only [T.val, Option.some.injEq, Prod.mk.injEq] at h
  obtain ⟨rfl, rfl, rfl⟩ := h
  obtain ⟨x, hx, hd, hp⟩ := word_val (σ := σ) hc hv
  exact ctr_val (runC_ctr lpsV (tabT_ok ht) rfl hx (by rintro ⟨⟩)) ((show Plain (.v (.c (.sv ⟨(wordB c v).toArray⟩))) by intro x hx; simp [V1.cells] at hx; subst hx; rfl).cl _) fun ρ => (hd ρ).symm
 ·simp [T.val] at h
noncomputable def tabT1 (wb : WordF) : Tab := tabAdd 10 (sumC isS nM (wordP wb)) tabT
theorem tabT1_ok (ht : TabR σ) : TabOk Tryz.prog (NVl lp σ) (tabT1 wordB) := tabAdd_ok (word_ok ht) (tabT_ok ht)
def rw1 (k : Cell) (t e v l a b f o : Int) (d : Bool) : Chunk AV := .vec [i6 t, k, i6 e, i6 v, i6 l, i6 a, i6 b, i6 f, i6 o, .bl d] 10 38
def rep1 : SV := .v (.agg [.vs 14 0 1 10 true, .snil, .snil, .il .i64 0, .il .i64 0, .il .i64 0, .il .i64 0, .il .i64 0, .il .i64 0])
noncomputable def mT : List Bool := mkF 8
noncomputable abbrev runT (σ : Sg) (wb : WordF) (k : Cell) (t e v l a b f o : Int) (d : Bool) : T (Ex × St AV) := runC noLp σ (tabT1 wb) 8 mT [.v (.c (.il .i64 1)), rep1] [rw1 k t e v l a b f o d]
end Go.Proofs.YthdmoahfeimdaaaGreatDoor

namespace Go.Proofs.YthdmoahfeimdaaaGreatDoor
open Go Go.Sx Go.Proofs
set_option linter.unusedVariables false
set_option maxRecDepth 100000
def jh : List UInt8 := joinL [⟨#[104, 97, 115]⟩] [32]
def txtR (J : List UInt8) : List UInt8 := ((((((([] : List UInt8) ++ J) ++ [10]) ++ jh) ++ [10]) ++ j2 ++ [10]) ++ j3) ++ [10]
def lnT {α : Type} (l w : List UInt8) (t : T α) : T α := .need (fitB (l.length + w.length)) (.need (fitB ((l ++ w).length + 1)) t)
def endT {α : Type} (J : List UInt8) (x : α) : T α :=
 .need true (.need (fitB J.length) (lnT ([] : List UInt8) J (nt1 2 (lnT (([] : List UInt8) ++ J ++ [10]) jh (nt1 6 (lnT (([] : List UInt8) ++ J ++ [10] ++ jh ++ [10]) j2 (nt1 4 (lnT (([] : List UInt8) ++ J ++ [10] ++ jh ++ [10] ++ j2 ++ [10]) j3 (.need (decide (0 < (txtR J).length)) (.leaf x))))))))))
def itT (n : Int) : ByteArray := ⟨(Lib.itoa n).toArray⟩
def tailW (wb : WordF) (a b f o : Int) : Bool -> List ByteArray
 | true => [itT f, itT o, ⟨(wb a b).toArray⟩]
 | false => [itT f, ⟨#[111, 112, 101, 110]⟩]
def rowJ (wb : WordF) (op : ByteArray) (t a b f o : Int) (d : Bool) : List UInt8 := joinL (itT t :: op :: tailW wb a b f o d) [32]
def headT {α : Type} (t a b f o : Int) (d : Bool) (x : T α) : T α := .need (okI t) (.need (okI f) (match d with | true => .need (okI o) (.need (decide (inI a /\ inI b)) x) | false => x))
def rowT (wb : WordF) (op : ByteArray) (k : Cell) (t e v l a b f o : Int) (d : Bool) : T (Ex × St AV) :=
 headT t a b f o d (endT (rowJ wb op t a b f o d) (stV (.v (.c (.sv ⟨(txtR (rowJ wb op t a b f o d)).toArray⟩)), [some (.abs (.sent 0)), some (.abs (.sent 1)), none, none, none, none, none, none, none, none, none, none, none, none, some (rw1 k t e v l a b f o d)])))
def opK (k : Int) : ByteArray := strCat ⟨#[111, 112, 32]⟩ (itT k)
def pushT (v : Int) : ByteArray := strCat (txB [112, 117, 115, 104]) (strCat ⟨#[32]⟩ (itT v))
def fit1 (e v l : Int) : Bool := match (e == 0 && (v == v && l == 0)) == true with | true => (match decide (0 <= v) == true with | true => decide (v <= 1073741824) | false => false) | false => false
def fit2 (e v l : Int) : Bool := e == 0 && (v == 0 && l == 0)
theorem tl1 (σ : Sg) (wb : WordF) (t e v l a b f o : Int) (d : Bool) (hd : d = true \/ d = false) : runT σ wb (.il .i64 1) t e v l a b f o d = .ite (!fit1 e v l) (.need true (rowT wb (opK 1) (.il .i64 1) t e v l a b f o d))
 (.need (match okI v with | true => (match Nat.ble (strLen ⟨#[32]⟩ + strLen (itT v)) 9223372036854775807 with | true => Nat.ble (strLen (txB [112, 117, 115, 104]) + strLen (strCat ⟨#[32]⟩ (itT v))) 9223372036854775807 | false => false) | false => false) (rowT wb (pushT v) (.il .i64 1) t e v l a b f o d)) := by
 rcases hd with rfl | rfl <;> kernel_rfl
theorem tl2 (σ : Sg) (wb : WordF) (t e v l a b f o : Int) (d : Bool) (hd : d = true \/ d = false) : runT σ wb (.il .i64 2) t e v l a b f o d = .ite (!fit2 e v l) (.need true (rowT wb (opK 2) (.il .i64 2) t e v l a b f o d)) (rowT wb (txB [112, 111, 112]) (.il .i64 2) t e v l a b f o d) := by
 rcases hd with rfl | rfl <;> kernel_rfl
theorem tl3 (σ : Sg) (wb : WordF) (t e v l a b f o : Int) (d : Bool) (hd : d = true \/ d = false) : runT σ wb (.il .i64 3) t e v l a b f o d = .ite (!fit2 e v l) (.need true (rowT wb (opK 3) (.il .i64 3) t e v l a b f o d)) (rowT wb (txB [112, 101, 101, 107]) (.il .i64 3) t e v l a b f o d) := by
 rcases hd with rfl | rfl <;> kernel_rfl
theorem tl4 (σ : Sg) (wb : WordF) (t e v l a b f o : Int) (d : Bool) (hd : d = true \/ d = false) (k : Int) (h : ∀ c ∈ [1, 2, 3], (k == c) = false) : runT σ wb (.iv .i64 k [1, 2, 3] h) t e v l a b f o d =
 .need (match okI k with | true => Nat.ble (strLen ⟨#[111, 112, 32]⟩ + strLen (itT k)) 9223372036854775807 | false => false) (rowT wb (opK k) (.iv .i64 k [1, 2, 3] h) t e v l a b f o d) := by
 rcases hd with rfl | rfl <;> kernel_rfl
end Go.Proofs.YthdmoahfeimdaaaGreatDoor

namespace Go.Proofs.YthdmoahfeimdaaaGreatDoor
open Go Go.Sx Go.Proofs
set_option linter.unusedVariables false
set_option maxRecDepth 100000
section
variable {AV : Type} {P : Program} {N : Env AV}
structure SameH (N : Env AV) (H H' : Hp AV) : Prop where
 len : H.length = H'.length
 non : ∀ m, hget H m = none -> hget H' m = none
 to : ∀ m c, hget H m = some c -> ∃ c', hget H' m = some c' /\ (∀ ρ w, c.q N ρ m w -> c'.q N ρ m w) /\ ∀ ρ k, c'.fp ρ m k ↔ c.fp ρ m k
theorem SameH.back {H H' : Hp AV} (h : SameH N H H') {m : Nat} {c' : Chunk AV} (hc : hget H' m = some c') : ∃ c, hget H m = some c /\ (∀ ρ w, c.q N ρ m w -> c'.q N ρ m w) /\ ∀ ρ k, c'.fp ρ m k ↔ c.fp ρ m k := by
 cases hm : hget H m with
 | none => rw [h.non m hm] at hc; cases hc
 | some c =>
   obtain ⟨c2, g1, g2, g3⟩ := h.to m c hm
   rw [hc] at g1
   cases g1
   exact ⟨c, rfl, g2, g3⟩
theorem SameH.own {H H' : Hp AV} (h : SameH N H H') {ρ : Nm} {w : World} (hO : Own N ρ H w) : Own N ρ H' w := by
 refine hO.sub ⟨fun m c' hc => ?_, fun m m' c d hne hc hd k hk hk' => ?_, hO.glb⟩ fun m d k hd hk => ?_
 ·obtain ⟨c, g1, g2, _⟩ := h.back hc
  exact g2 ρ w (hO.q m c g1)
 ·obtain ⟨c1, g1, _, g3⟩ := h.back hc
  obtain ⟨d1, q1, _, q3⟩ := h.back hd
  exact hO.dis m m' c1 d1 hne g1 q1 k ((g3 ρ k).1 hk) ((q3 ρ k).1 hk')
 ·obtain ⟨c, g1, _, g3⟩ := h.back hd
  exact ⟨m, c, g1, (g3 ρ k).1 hk⟩
theorem ctr_same {f : FuncId} {args : List SV} {H H1 H2 R : Hp AV} {v : SV} (h1 : SameH N H H1) (h2 : SameH N H2 R) (hc : Ctr P N f args H1 v H2) (hargs : ∀ x ∈ args, ClV H x) (hv : ClV R v) (hR : ClHp N R)
 (pers : ∀ m c, hget H m = some c -> ∃ c', hget R m = some c') (non : ∀ m, m < H.length -> hget H m = none -> hget R m = none) (len : H.length <= R.length) : Ctr P N f args H v R :=
 ctr_via (fun ρ w hO => ⟨ρ, h1.own hO, fun _ _ => rfl, fun m d k hd hk => by
  obtain ⟨c, g1, _, g3⟩ := h1.back hd
  exact ⟨m, c, g1, (g3 ρ k).1 hk⟩⟩) (fun m c hm => by obtain ⟨c', g, _⟩ := h1.to m c hm; exact ⟨c', g⟩) hc
  (fun ρ w hO => ⟨ρ, h2.own hO, fun _ _ _ => rfl, fun m d k hd hk => by
    obtain ⟨c, g1, _, g3⟩ := h2.back hd
    exact ⟨m, c, g1, (g3 ρ k).1 hk⟩⟩) hargs hv hR pers non len
end
variable {σ : Sg} {lp : Lp}
theorem same_vec {M : List Bool} {l l' : List Cell} {es : Nat} {ty : TypeId} (h : ∀ ρ, denL ρ l = denL ρ l') : SameH (NVl lp σ) (hpC M [.vec l es ty]) (hpC M [.vec l' es ty]) := by
 have get : ∀ (x : List Cell) m, hget (hpC M [.vec x es ty]) m = if m < M.length then hget (sentL AV.sent 0 M) m else if m = M.length then some (.vec x es ty) else none := fun x m => by
  unfold hpC
  rw [hget_append, sentL_len]
  split
  ·rfl
  ·rename_i h
   by_cases e : m = M.length
   ·subst e
    rw [Nat.sub_self, if_pos rfl]; rfl
   ·rw [if_neg e]
    have : m - M.length = (m - M.length - 1) + 1 := by omega
    rw [this]; rfl
 refine ⟨by simp [hpC, chL], fun m hm => ?_, fun m c hm => ?_⟩
 ·rw [get] at hm ⊢
  split at hm
  ·rename_i g; rw [if_pos g]; exact hm
  ·rename_i g
   rw [if_neg g]
   split at hm
   ·cases hm
   ·rename_i e; rw [if_neg e]
 ·rw [get] at hm ⊢
  split at hm
  ·rename_i g; rw [if_pos g]; exact ⟨c, hm, fun _ _ h => h, fun _ _ => Iff.rfl⟩
  ·rename_i g
   rw [if_neg g]
   split at hm
   ·rename_i e
    rw [if_pos e]
    cases hm
    refine ⟨_, rfl, fun ρ w hq => ?_, fun ρ k => Iff.rfl⟩
    have hq : vecQ (ρ.L m) (ρ.S m) (denL ρ l) es ty w := hq
    show vecQ (ρ.L m) (ρ.S m) (denL ρ l') es ty w
    rw [<- h ρ]; exact hq
   ·cases hm
theorem join_rows (xs : List ByteArray) (h : ∀ x ∈ xs, x.data.toList.length <= 100) (h5 : xs.length <= 5) : (joinL xs [32]).length <= 505 := by
 have := join_le 32 100 (xs.map (·.data.toList)) fun y hy => by
  obtain ⟨x, hx, rfl⟩ := List.mem_map.1 hy
  exact h x hx
 rw [List.length_map] at this
 exact Nat.le_trans this (Nat.mul_le_mul_left 101 h5)
theorem jh_le : jh.length <= 100 := by decide +kernel
theorem j2_le : j2.length <= 100 := by decide +kernel
theorem j3_le : j3.length <= 100 := by decide +kernel
theorem end_val {α : Type} {J : List UInt8} (h : J.length <= 505) (x : α) : (endT J x).val = some x := by
 have e1 := jh_le
 have e2 := j2_le
 have e3 := j3_le
 unfold endT lnT
 rw [nv rfl, nv (fB (by omega)), nv (fB (by simp only [List.length_nil]; omega)), nv (fB (by simp only [List.nil_append]; omega)), nt1_val,
  nv (fB (by simp only [List.nil_append, List.length_append, List.length_singleton]; omega)), nv (fB (by simp only [List.nil_append, List.length_append, List.length_singleton]; omega)), nt1_val,
  nv (fB (by simp only [List.nil_append, List.length_append, List.length_singleton]; omega)), nv (fB (by simp only [List.nil_append, List.length_append, List.length_singleton]; omega)), nt1_val,
  nv (fB (by simp only [List.nil_append, List.length_append, List.length_singleton]; omega)), nv (fB (by simp only [List.nil_append, List.length_append, List.length_singleton]; omega)),
  nv (decide_eq_true (by unfold txtR; simp only [List.length_append, List.length_singleton]; omega))]
 rfl
theorem head_val {α : Type} {t a b f o : Int} (ht : inI t) (ha : inI a) (hb : inI b) (hf : inI f) (ho : inI o) (d : Bool) (x : T α) : (headT t a b f o d x).val = x.val := by
 unfold headT
 rw [nv (decide_eq_true ht), nv (decide_eq_true hf)]
 cases d with
 | true => show (T.need (okI o) (.need (decide (inI a /\ inI b)) x)).val = _; rw [nv (decide_eq_true ho), nv (decide_eq_true ⟨ha, hb⟩)]
 | false => rfl
theorem word_le {a b : Int} (ha : inI a) (hb : inI b) : (wordB a b).length <= 100 := by
 have := inN a ha
 have := inN b hb
 unfold wordB blT
 repeat' split
 all_goals simp
 all_goals omega
theorem it_le {n : Int} (h : inI n) : (itT n).data.toList.length <= 100 := by have := inN n h; show (Lib.itoa n).length <= _; omega
theorem rowJ_le {op : ByteArray} {t a b f o : Int} (hop : op.data.toList.length <= 100) (ht : inI t) (ha : inI a) (hb : inI b) (hf : inI f) (ho : inI o) (d : Bool) : (rowJ wordB op t a b f o d).length <= 505 := by
 refine join_rows _ (fun x hx => ?_) (by cases d <;> simp [tailW])
 cases d with
 | true =>
   simp only [tailW, List.mem_cons, List.not_mem_nil, or_false] at hx
   rcases hx with rfl | rfl | rfl | rfl | rfl
   ·exact it_le ht
   ·exact hop
   ·exact it_le hf
   ·exact it_le ho
   ·exact word_le ha hb
 | false =>
   simp only [tailW, List.mem_cons, List.not_mem_nil, or_false] at hx
   rcases hx with rfl | rfl | rfl | rfl
   ·exact it_le ht
   ·exact hop
   ·exact it_le hf
   ·show 4 <= 100; decide
def opB (k e v l : Int) : ByteArray := if k = 1 then (match fit1 e v l with | true => pushT v | false => opK k) else if k = 2 then (match fit2 e v l with | true => txB [112, 111, 112] | false => opK k) else if k = 3 then (match fit2 e v l with | true => txB [112, 101, 101, 107] | false => opK k) else opK k
def tell1B (t k e v l a b f o : Int) (d : Bool) : List UInt8 := txtR (rowJ wordB (opB k e v l) t a b f o d)
theorem opK_le {k : Int} (h : inI k) : (opK k).data.toList.length <= 100 := by
 have := inN k h
 show ([111, 112, 32] ++ Lib.itoa k).length <= _; simp; omega
theorem push_le {v : Int} (h : inI v) : (pushT v).data.toList.length <= 100 := by
 have := inN v h
 show ([112, 117, 115, 104] ++ ([32] ++ Lib.itoa v)).length <= _; simp; omega
theorem row_val {op : ByteArray} {k : Cell} {t e v l a b f o : Int} (hop : op.data.toList.length <= 100) (ht : inI t) (ha : inI a) (hb : inI b) (hf : inI f) (ho : inI o) (d : Bool) :
 (rowT wordB op k t e v l a b f o d).val = some (stV (.v (.c (.sv ⟨(txtR (rowJ wordB op t a b f o d)).toArray⟩)), hpC mT [rw1 k t e v l a b f o d])) := by
 unfold rowT
 rw [head_val ht ha hb hf ho, end_val (rowJ_le hop ht ha hb hf ho d)]
 have e : hpC mT [rw1 k t e v l a b f o d] = [some (.abs (.sent 0)), some (.abs (.sent 1)), none, none, none, none, none, none, none, none, none, none, none, none, some (rw1 k t e v l a b f o d)] := by
  unfold hpC
  rw [show sentL AV.sent 0 mT = [some (.abs (.sent 0)), some (.abs (.sent 1)), none, none, none, none, none, none, none, none, none, none, none, none] from by kernel_rfl]
  rfl
 rw [e]
theorem tell1_val {t k e v l a b f o : Int} (hk : inI k) (hv : inI v) (ht : inI t) (ha : inI a) (hb : inI b) (hf : inI f) (ho : inI o) (d : Bool) : ∃ c : Cell, (∀ ρ, c.den ρ = .int .i64 k) /\ c.name = none /\
 (runT σ wordB c t e v l a b f o d).val = some (stV (.v (.c (.sv ⟨(tell1B t k e v l a b f o d).toArray⟩)), hpC mT [rw1 c t e v l a b f o d])) := by
 have hd : d = true \/ d = false := by cases d <;> simp
 by_cases h1 : k = 1
 ·subst h1
  refine ⟨.il .i64 1, fun _ => rfl, rfl, ?_⟩
  rw [tl1 σ wordB t e v l a b f o d hd]
  unfold tell1B opB
  rw [if_pos rfl]
  cases hf1 : fit1 e v l with
  | false => rw [ivT (show (!false) = true from rfl), nv rfl]; exact row_val (opK_le hk) ht ha hb hf ho d
  | true =>
    have l2 := inN v hv
    rw [ivF (show (!true) = false from rfl), nv ?_]
    ·exact row_val (push_le hv) ht ha hb hf ho d
    ·rw [show okI v = true from decide_eq_true hv]
     simp only
     rw [bleT (show strLen ⟨#[32]⟩ + strLen (itT v) <= 9223372036854775807 by show 1 + (Lib.itoa v).length <= _; omega)]
     exact bleT (by show 4 + ([32] ++ Lib.itoa v).length <= _; simp; omega)
 by_cases h2 : k = 2
 ·subst h2
  refine ⟨.il .i64 2, fun _ => rfl, rfl, ?_⟩
  rw [tl2 σ wordB t e v l a b f o d hd]
  unfold tell1B opB
  rw [if_neg (by decide), if_pos rfl]
  cases hf1 : fit2 e v l with
  | false => rw [ivT (show (!false) = true from rfl), nv rfl]; exact row_val (opK_le hk) ht ha hb hf ho d
  | true => rw [ivF (show (!true) = false from rfl)]; exact row_val (by show 3 <= 100; decide) ht ha hb hf ho d
 by_cases h3 : k = 3
 ·subst h3
  refine ⟨.il .i64 3, fun _ => rfl, rfl, ?_⟩
  rw [tl3 σ wordB t e v l a b f o d hd]
  unfold tell1B opB
  rw [if_neg (by decide), if_neg (by decide), if_pos rfl]
  cases hf1 : fit2 e v l with
  | false => rw [ivT (show (!false) = true from rfl), nv rfl]; exact row_val (opK_le hk) ht ha hb hf ho d
  | true => rw [ivF (show (!true) = false from rfl)]; exact row_val (by show 4 <= 100; decide) ht ha hb hf ho d
 have hiv : ∀ c ∈ [1, 2, 3], (k == c) = false := by
  intro c hc
  simp only [List.mem_cons, List.not_mem_nil, or_false] at hc
  rcases hc with rfl | rfl | rfl <;> simp [h1, h2, h3]
 refine ⟨.iv .i64 k [1, 2, 3] hiv, fun _ => rfl, rfl, ?_⟩
 have l2 := inN k hk
 rw [tl4 σ wordB t e v l a b f o d hd k hiv]
 unfold tell1B opB
 rw [if_neg h1, if_neg h2, if_neg h3, nv ?_]
 ·exact row_val (opK_le hk) ht ha hb hf ho d
 ·rw [show okI k = true from decide_eq_true hk]
  exact bleT (by show 3 + (Lib.itoa k).length <= _; omega)
abbrev Tell1F := Int -> Int -> Int -> Int -> Int -> Int -> Int -> Int -> Int -> Bool -> List UInt8
def tell1P (tb : Tell1F) (args : List SV) (ch : List (Chunk AV)) : T (SV × List (Chunk AV) × List (Chunk AV)) := match args, ch with
 | [.v (.c (.il .i64 1)), .v (.agg [.vs 14 0 1 10 true, .snil, .snil, .il .i64 0, .il .i64 0, .il .i64 0, .il .i64 0, .il .i64 0, .il .i64 0])], [.vec [.it .i64 t, .it .i64 k, .it .i64 e, .it .i64 v, .it .i64 l, .it .i64 a, .it .i64 b, .it .i64 f, .it .i64 o, .bl d] 10 ty] => match Nat.beq ty 38 with
   | true => .need (decide (inI k /\ inI v /\ inI t /\ inI a /\ inI b /\ inI f /\ inI o)) (.leaf (.v (.c (.sv ⟨(tb t k e v l a b f o d).toArray⟩)), [rw1 (i6 k) t e v l a b f o d], []))
   | false => .fail "Tell"
 | _, _ => .fail "Tell"
theorem tell1_ok (ht : TabR σ) : FnOk Tryz.prog (NVl lp σ) 8 (sumC isS mT (tell1P tell1B)) := by
 refine fnOk_env (N := NVl noLp σ) (N' := NVl lp σ) rfl rfl (sumC_ok isS_ok (mkF_len _).symm fun args ch x l' nw h hlen ha hC => ?_)
 unfold tell1P at h
 split at h
 ·rename_i t k e v l a b f o d ty
  split at h
  ·rename_i hty
   have hty := (beq_iff _ _).1 hty
   subst hty
   replace h := need_some h
   obtain ⟨hb0, h⟩ := h
   obtain ⟨hk, hv, ht', ha', hb, hf, ho⟩ := of_decide_eq_true hb0
   simp only [T.val, Option.some.injEq, Prod.mk.injEq] at h
   obtain ⟨rfl, rfl, rfl⟩ := h
   obtain ⟨c, hc, hn, hx⟩ := tell1_val (σ := σ) (e := e) (l := l) hk hv ht' ha' hb hf ho d
   have hr := runC_ctr lpsV (tabT1_ok ht) (mkF_len _) hx (by rintro ⟨⟩)
   have hden : ∀ ρ, denL ρ [i6 t, c, i6 e, i6 v, i6 l, i6 a, i6 b, i6 f, i6 o, .bl d] = denL ρ [i6 t, i6 k, i6 e, i6 v, i6 l, i6 a, i6 b, i6 f, i6 o, .bl d] := fun ρ => by simp [denL, hc ρ, Cell.den]
   refine ctr_same (same_vec (M := mT) fun ρ => (hden ρ).symm) (same_vec (M := mT) hden) hr ha ?_ hC (fun m c h => ⟨c, h⟩) (fun m _ h => h) (Nat.le_refl _)
   exact (show Plain (.v (.c (.sv ⟨(tell1B t k e v l a b f o d).toArray⟩))) by intro x hx; simp [V1.cells] at hx; subst hx; rfl).cl _
  ·simp [T.val] at h
 ·simp [T.val] at h
end Go.Proofs.YthdmoahfeimdaaaGreatDoor

namespace Go.Proofs.YthdmoahfeimdaaaGreatDoor
open Go Go.Sx Go.Proofs
set_option linter.unusedVariables false
set_option maxRecDepth 100000
variable {σ : Sg} {lp : Lp}
noncomputable def tabP (wb : WordF) (tb : Tell1F) : Tab := tabAdd 8 (sumC isS mT (tell1P tb)) (tabAdd 10 (sumC isS nM (wordP wb)) (tabAdd 6 awakeG fun _ => none))
theorem tabP_ok (hs : SentR σ) (ht : TabR σ) : TabOk Tryz.prog (NVl lp σ) (tabP wordB tell1B) :=
 tabAdd_ok (tell1_ok ht) (tabAdd_ok (word_ok ht) (tabAdd_ok (awakeG_ok hs) tab0_ok))
noncomputable def mA : List Bool := mkF 4
noncomputable abbrev runA (σ : Sg) (wb : WordF) (tb : Tell1F) (a c a' c' t k e v l x y f o : Int) (d : Bool) : T (Ex × St AV) := runC noLp σ (tabP wb tb) 4 mA [.v (.agg [i6 a, i6 c]), .v (.agg [i6 a', i6 c']), .v (.agg [i6 t, i6 k, i6 e, i6 v, i6 l, i6 x, i6 y, i6 f, i6 o, .bt d])] []
end Go.Proofs.YthdmoahfeimdaaaGreatDoor

namespace Go.Sx
open Go
set_option linter.unusedVariables false
def partB (c : UInt8) : Bool := c == 32 || (c == 61 || c == 10)
theorem digit_part {i : Nat} (h : i < 10) : partB (UInt8.ofNat (48 + i)) = false := by
 have : ∀ i : Fin 10, partB (UInt8.ofNat (48 + i.val)) = false := by decide
 exact this ⟨i, h⟩
theorem dec_part : ∀ (u : Nat), ∀ c ∈ Lib.decDigits u, partB c = false := by
 intro u
 induction u using Nat.strongRecOn with
 | _ u ih =>
   intro c hc
   rw [Lib.decDigits] at hc
   split at hc
   ·rw [List.mem_singleton.1 hc]; exact digit_part (by assumption)
   ·rcases List.mem_append.1 hc with h | h
    ·exact ih _ (by omega) c h
    ·rw [List.mem_singleton.1 h]; exact digit_part (by omega)
theorem itoa_part (n : Int) : ∀ c ∈ Lib.itoa n, partB c = false := by
 intro c hc
 unfold Lib.itoa at hc
 split at hc
 ·rcases List.mem_cons.1 hc with rfl | h
  ·decide
  ·exact dec_part _ c h
 ·exact dec_part _ c hc
end Go.Sx

namespace Go.Proofs.YthdmoahfeimdaaaGreatDoor
open Go Go.Sx Go.Proofs
set_option linter.unusedVariables false
set_option maxRecDepth 100000
def readD (l : List UInt8) : Nat := l.foldl (fun n c => 10 * n + (c.toNat - 48)) 0
theorem dg_nat {i : Nat} (h : i < 10) : (UInt8.ofNat (48 + i)).toNat = 48 + i := by
 have : ∀ i : Fin 10, (UInt8.ofNat (48 + i.val)).toNat = 48 + i.val := by decide
 exact this ⟨i, h⟩
theorem read_dec : ∀ (u : Nat), readD (Lib.decDigits u) = u := by
 intro u
 induction u using Nat.strongRecOn with
 | _ u ih =>
   rw [Lib.decDigits]
   split
   ·rename_i h
    show 10 * 0 + ((UInt8.ofNat (48 + u)).toNat - 48) = u
    rw [dg_nat h]; omega
   ·rename_i h
    unfold readD
    rw [List.foldl_append]
    show 10 * readD (Lib.decDigits (u / 10)) + ((UInt8.ofNat (48 + u % 10)).toNat - 48) = u
    rw [ih _ (by omega), dg_nat (by omega)]; omega
theorem dec_digit : ∀ (u : Nat), ∀ c ∈ Lib.decDigits u, 48 <= c.toNat /\ c.toNat <= 57 := by
 intro u
 induction u using Nat.strongRecOn with
 | _ u ih =>
   intro c hc
   rw [Lib.decDigits] at hc
   split at hc
   ·rename_i h; rw [List.mem_singleton.1 hc, dg_nat h]; omega
   ·rcases List.mem_append.1 hc with h | h
    ·exact ih _ (by omega) c h
    ·rw [List.mem_singleton.1 h, dg_nat (by omega)]; omega
theorem dec_ne (u : Nat) : Lib.decDigits u ≠ [] := by
 rw [Lib.decDigits]; split <;> simp
theorem itoa_head (n : Int) : ∃ c r, Lib.itoa n = c :: r /\ (c.toNat = 45 \/ 48 <= c.toNat /\ c.toNat <= 57) := by
 unfold Lib.itoa
 split
 ·exact ⟨_, _, rfl, .inl rfl⟩
 ·cases h : Lib.decDigits n.toNat with
  | nil => exact absurd h (dec_ne _)
  | cons c r => exact ⟨c, r, rfl, .inr (dec_digit n.toNat c (by rw [h]; simp))⟩
theorem itoa_inj {a b : Int} (h : Lib.itoa a = Lib.itoa b) : a = b := by
 unfold Lib.itoa at h
 split at h <;> split at h
 ·have h := (List.cons.inj h).2
  have := congrArg readD h
  rw [read_dec, read_dec] at this
  omega
 ·cases hd : Lib.decDigits b.toNat with
  | nil => exact absurd hd (dec_ne _)
  | cons c r =>
    rw [hd] at h
    have := dec_digit b.toNat c (by rw [hd]; simp)
    rw [<- (List.cons.inj h).1] at this
    exact absurd this.1 (by decide)
 ·cases hd : Lib.decDigits a.toNat with
  | nil => exact absurd hd (dec_ne _)
  | cons c r =>
    rw [hd] at h
    have := dec_digit a.toNat c (by rw [hd]; simp)
    rw [(List.cons.inj h).1] at this
    exact absurd this.1 (by decide)
 ·have := congrArg readD h
  rw [read_dec, read_dec] at this
  omega
theorem cut_blank : ∀ {u u' v v' : List UInt8}, (∀ c ∈ u, partB c = false) -> (∀ c ∈ u', partB c = false) -> u ++ 32 :: v = u' ++ 32 :: v' -> u = u' /\ v = v'
 | [], [], v, v', _, _, h => ⟨rfl, (List.cons.inj h).2⟩
 | [], c :: u', v, v', _, h2, h => by
   have := h2 c (by simp)
   rw [<- (List.cons.inj h).1] at this
   cases this
 | c :: u, [], v, v', h1, _, h => by
   have := h1 c (by simp)
   rw [(List.cons.inj h).1] at this
   cases this
 | c :: u, d :: u', v, v', h1, h2, h => by
   obtain ⟨e1, e2⟩ := List.cons.inj (show c :: (u ++ 32 :: v) = d :: (u' ++ 32 :: v') from h)
   obtain ⟨g1, g2⟩ := cut_blank (fun x hx => h1 x (List.mem_cons_of_mem _ hx)) (fun x hx => h2 x (List.mem_cons_of_mem _ hx)) e2
   exact ⟨by rw [e1, g1], g2⟩
def kindW (c : Int) : Nat := if c = 1 then 1 else if c = 2 then 2 else if c = 3 then 3 else if c = 4 then 4 else 0
theorem word_head (a v : Int) : ∃ c r, wordB a v = c :: r /\ (kindW a = 1 /\ c.toNat = 121 \/ kindW a = 2 /\ c.toNat = 101 \/ kindW a = 3 /\ c.toNat = 104 \/ kindW a = 4 /\ c.toNat = 102 \/ kindW a = 0 /\ c.toNat <= 57) := by
 unfold wordB kindW
 by_cases h1 : a = 1
 ·rw [if_pos h1, if_pos h1]; exact ⟨_, _, rfl, .inl ⟨rfl, rfl⟩⟩
 rw [if_neg h1, if_neg h1]
 by_cases h2 : a = 2
 ·rw [if_pos h2, if_pos h2]; exact ⟨_, _, rfl, .inr (.inl ⟨rfl, rfl⟩)⟩
 rw [if_neg h2, if_neg h2]
 by_cases h3 : a = 3
 ·rw [if_pos h3, if_pos h3]; exact ⟨_, _, rfl, .inr (.inr (.inl ⟨rfl, rfl⟩))⟩
 rw [if_neg h3, if_neg h3]
 by_cases h4 : a = 4
 ·rw [if_pos h4, if_pos h4]; exact ⟨_, _, rfl, .inr (.inr (.inr (.inl ⟨rfl, rfl⟩)))⟩
 rw [if_neg h4, if_neg h4]
 obtain ⟨c, r, e, hc⟩ := itoa_head a
 exact ⟨c, r ++ blT v, by rw [e]; rfl, .inr (.inr (.inr (.inr ⟨rfl, by omega⟩)))⟩
theorem word_inj {a v b u : Int} : wordB a v = wordB b u ↔ (a = b /\ v = u) \/ (a = b /\ 2 <= a /\ a <= 4) := by
 constructor
 ·intro h
  have hk : kindW a = kindW b := by
   obtain ⟨c, r, e, hc⟩ := word_head a v
   obtain ⟨d, s, e', hd⟩ := word_head b u
   rw [e, e'] at h
   have hcd := (List.cons.inj h).1
   subst hcd
   omega
  by_cases h1 : a = 1
  ·have hb : b = 1 := by
    unfold kindW at hk; rw [if_pos h1] at hk
    by_cases hb : b = 1
    ·exact hb
    ·rw [if_neg hb] at hk; repeat' split at hk
     all_goals omega
   subst h1 hb
   unfold wordB blT at h
   rw [if_pos rfl, if_pos rfl] at h
   have := (List.cons.inj ((List.append_cancel_left h : (32 : UInt8) :: Lib.itoa v = 32 :: Lib.itoa u))).2
   exact .inl ⟨rfl, itoa_inj this⟩
  by_cases h2 : 2 <= a /\ a <= 4
  ·refine .inr ⟨?_, h2⟩
   unfold kindW at hk
   repeat' split at hk
   all_goals omega
  ·have hb : ¬ b = 1 /\ ¬ b = 2 /\ ¬ b = 3 /\ ¬ b = 4 := by
    unfold kindW at hk
    repeat' split at hk
    all_goals omega
   unfold wordB blT at h
   rw [if_neg h1, if_neg (by omega), if_neg (by omega), if_neg (by omega), if_neg hb.1, if_neg hb.2.1, if_neg hb.2.2.1, if_neg hb.2.2.2] at h
   obtain ⟨g1, g2⟩ := cut_blank (itoa_part a) (itoa_part b) h
   exact .inl ⟨itoa_inj g1, itoa_inj g2⟩
 ·rintro (⟨rfl, rfl⟩ | ⟨rfl, h1, h2⟩)
  ·rfl
  ·unfold wordB
   rcases (by omega : a = 2 \/ a = 3 \/ a = 4) with rfl | rfl | rfl <;> rfl
theorem bsEq_iff : ∀ {l m : List UInt8}, bsEq l m = true ↔ l = m
 | [], [] => by simp [bsEq]
 | [], _ :: _ => by simp [bsEq]
 | _ :: _, [] => by simp [bsEq]
 | c :: l, d :: m => by
   rw [bsEq]
   by_cases h : c = d
   ·subst h
    rw [(beq_iff _ _).2 rfl]
    simp only [List.cons.injEq, true_and]
    exact bsEq_iff
   ·have : Nat.beq c.toNat d.toNat = false := by
     cases e : Nat.beq c.toNat d.toNat with
     | false => rfl
     | true => exact absurd (UInt8.toNat_inj.1 ((beq_iff _ _).1 e)) h
    rw [this]
    simp [h]
theorem strEq_iff {l m : List UInt8} : strEq ⟨l.toArray⟩ ⟨m.toArray⟩ = decide (l = m) := by
 by_cases h : l = m
 ·rw [decide_eq_true h]; exact bsEq_iff.2 h
 ·rw [decide_eq_false h]
  cases e : strEq ⟨l.toArray⟩ ⟨m.toArray⟩ with
  | false => rfl
  | true => exact absurd (bsEq_iff.1 e) h
theorem tell1_apart (t k e v l a b f o : Int) : tell1B t k e v l a b f o true ≠ tell1B t k e v l a b f o false := by
 intro h
 unfold tell1B txtR rowJ tailW joinL at h
 simp only [List.map_cons, List.map_nil, Lib.join, List.intercalate, List.intersperse, List.flatten_cons, List.flatten_nil, List.nil_append, List.append_nil, List.append_assoc] at h
 have h := List.append_cancel_left (List.append_cancel_left (List.append_cancel_left (List.append_cancel_left (List.append_cancel_left (List.append_cancel_left h)))))
 obtain ⟨c, r, ec, hc⟩ := itoa_head o
 have e1 : (itT o).data.toList = c :: r := ec
 rw [e1] at h
 have := (List.cons.inj h).1
 rw [this] at hc
 revert hc; decide
end Go.Proofs.YthdmoahfeimdaaaGreatDoor

namespace Go.Proofs.YthdmoahfeimdaaaGreatDoor
open Go Go.Sx Go.Proofs
set_option linter.unusedVariables false
set_option maxRecDepth 100000
variable {σ : Sg}
def sameB (a c a' c' : Int) : Bool := match (a == a' && c == c') == false with
 | true => match (a == a') == true with
   | true => match decide (a >= 2) == true with
     | true => decide (a <= 4)
     | false => false
   | false => false
 | false => true
theorem apartR (σ : Sg) (wb : WordF) (tb : Tell1F) (a c a' c' t k e v l x y f o : Int) (d : Bool) : runA σ wb tb a c a' c' t k e v l x y f o d =
 .need (match decide (inI a /\ inI c) with | true => decide (inI a' /\ inI c') | false => false)
  (.ite (!(strEq ⟨(wb a c).toArray⟩ ⟨(wb a' c').toArray⟩ == sameB a c a' c')) (.leaf (stV (.v (.c (.bl false)), hpO mA [])))
    (.need (decide (inI k /\ inI v /\ inI t /\ inI x /\ inI y /\ inI f /\ inI o)) (.need (decide (inI k /\ inI v /\ inI t /\ inI x /\ inI y /\ inI f /\ inI o))
      (.leaf (stV (.v (.c (.bt (!strEq ⟨(tb t k e v l x y f o true).toArray⟩ ⟨(tb t k e v l x y f o false).toArray⟩))), hpO mA []))))))  := by kernel_rfl
theorem same_is (a c a' c' : Int) : sameB a c a' c' = decide ((a = a' /\ c = c') \/ (a = a' /\ 2 <= a /\ a <= 4)) := by
 unfold sameB
 by_cases h1 : a = a'
 ·subst h1
  rw [show (a == a) = true from by simp]
  by_cases h2 : c = c'
  ·subst h2; simp
  ·rw [show (c == c') = false from beq_eq_false_iff_ne.2 h2]
   by_cases h3 : a >= 2
   ·rw [decide_eq_true h3]
    have h3' : 2 <= a := h3
    simp only [h2, h3', and_false, true_and, false_or]
    rfl
   ·rw [decide_eq_false h3]
    have h3' : ¬ 2 <= a := h3
    simp only [h2, h3', and_false, false_and, false_or, decide_false]
    rfl
 ·rw [show (a == a') = false from beq_eq_false_iff_ne.2 h1]
  simp only [h1, false_and, false_or, decide_false]
  rfl
theorem apart_val {a c a' c' t k e v l x y f o : Int} (d : Bool) (h1 : inI a /\ inI c) (h2 : inI a' /\ inI c') (h3 : inI k /\ inI v /\ inI t /\ inI x /\ inI y /\ inI f /\ inI o) :
 ∃ z, (runA σ wordB tell1B a c a' c' t k e v l x y f o d).val = some (stV (z, hpO mA [])) /\ z ≠ .unk /\ ∀ ρ : Nm, z.den ρ = .bool true := by
 have n1 : (match decide (inI a /\ inI c) with | true => decide (inI a' /\ inI c') | false => false) = true := by rw [decide_eq_true h1]; exact decide_eq_true h2
 have n2 : (!(strEq ⟨(wordB a c).toArray⟩ ⟨(wordB a' c').toArray⟩ == sameB a c a' c')) = false := by
  rw [strEq_iff, same_is]
  have : (wordB a c = wordB a' c') = ((a = a' /\ c = c') \/ (a = a' /\ 2 <= a /\ a <= 4)) := propext word_inj
  simp only [this, beq_self_eq_true, Bool.not_true]
 rw [apartR, nv n1, ivF n2, nv (decide_eq_true h3), nv (decide_eq_true h3)]
 refine ⟨_, rfl, (by rintro ⟨⟩), fun ρ => ?_⟩
 show Value.bool _ = _
 rw [strEq_iff, decide_eq_false (tell1_apart t k e v l x y f o)]
 rfl
theorem mA_all : mA = allM := by kernel_rfl
theorem apart_calls {W : World} {ad : Nat -> Addr} (hV : VarS (sgOf W ad) W) (hS : SentR (sgOf W ad)) (hT : TabR (sgOf W ad)) {a c a' c' t k e v l x y f o : Int} {d : Bool} (h1 : inI a /\ inI c) (h2 : inI a' /\ inI c') (h3 : inI t /\ inI k /\ inI e /\ inI v /\ inI l /\ inI x /\ inI y /\ inI f /\ inI o) :
 Calls Tryz.prog 4 #[.agg #[.int .i64 a, .int .i64 c], .agg #[.int .i64 a', .int .i64 c'], .agg #[.int .i64 t, .int .i64 k, .int .i64 e, .int .i64 v, .int .i64 l, .int .i64 x, .int .i64 y, .int .i64 f, .int .i64 o, .bool d]] W fun e w' => e = .returned (.bool true) /\ Quiet W w' := by
 obtain ⟨z, hv, hu, hd⟩ := apart_val (σ := sgOf W ad) (e := e) (l := l) d h1 h2 ⟨h3.2.1, h3.2.2.2.1, h3.1, h3.2.2.2.2.2.1, h3.2.2.2.2.2.2.1, h3.2.2.2.2.2.2.2.1, h3.2.2.2.2.2.2.2.2⟩
 have hc := runC_ctr lpsV (tabP_ok hS hT) (mkF_len _) hv hu
 exact quietX (σ := sgOf W ad) (lp := noLp) (L := []) (l' := []) (v := z) (W := W) (args := [.v (.agg [i6 a, i6 c]), .v (.agg [i6 a', i6 c']), .v (.agg [i6 t, i6 k, i6 e, i6 v, i6 l, i6 x, i6 y, i6 f, i6 o, .bt d])]) (f := 4)
  (by
    have h : Ctr Tryz.prog (NVl noLp (sgOf W ad)) 4 [.v (.agg [i6 a, i6 c]), .v (.agg [i6 a', i6 c']), .v (.agg [i6 t, i6 k, i6 e, i6 v, i6 l, i6 x, i6 y, i6 f, i6 o, .bt d])] (hpC mA []) z (hpO mA []) := hc
    rw [mA_all] at h
    exact h) hd
  (fun x hx w hw => by cases hx) (sgOf_has W ad) (fun k hk => if_pos hk) hV
end Go.Proofs.YthdmoahfeimdaaaGreatDoor
