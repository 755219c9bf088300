import Derived.Test.YthdmoahfeimdaaaGreatDoorSxTm
namespace Go.Sx
variable {AV : Type} {P : Program} {N : Env AV}
def Cell.ren (π : Nat -> Nat) : Cell -> Cell
 | .ptr n o => .ptr (π n) o
 | .vel n i e o => .vel (π n) i e o
 | .sl n o len cap => .sl (π n) o len cap
 | .vs n o len es kn => .vs (π n) o len es kn
 | .sf n o es z f h => .sf (π n) o es z f h
 | .ifc t c => .ifc t (c.ren π)
 | .mp r => .mp (r.map π)
 | c => c
def Chunk.ren (π : Nat -> Nat) : Chunk AV -> Chunk AV
 | .cells l ty => .cells (l.map (Cell.ren π)) ty
 | .vec l es ty => .vec (l.map (Cell.ren π)) es ty
 | .dead => .dead
 | .abs a => .abs a
def V1.ren (π : Nat -> Nat) : V1 -> V1
 | .c x => .c (x.ren π)
 | .agg l => .agg (l.map (Cell.ren π))
def SV.ren (π : Nat -> Nat) : SV -> SV
 | .v x => .v (x.ren π)
 | .tup l => .tup (l.map (V1.ren π))
 | .unk => .unk
 | .clo f l => .clo f (l.map (Cell.ren π))
def Nm.ren (ρ : Nm) (π : Nat -> Nat) : Nm := ⟨fun n => ρ.L (π n), fun n => ρ.S (π n)⟩
theorem den_ren (ρ : Nm) (π : Nat -> Nat) : ∀ c : Cell, (c.ren π).den ρ = c.den (ρ.ren π)
 | .ptr _ _ => rfl
 | .vel _ _ _ _ => rfl
 | .sl _ _ _ _ => rfl
 | .vs _ _ _ _ _ => rfl
 | .sf _ _ _ _ _ _ => rfl
 | .ifc t c => by simp only [Cell.ren, Cell.den]; rw [den_ren ρ π c]
 | .bl _ => rfl
 | .bt _ => rfl
 | .il _ _ => rfl
 | .it _ _ => rfl
 | .iv _ _ _ _ => rfl
 | .ir _ _ _ _ _ => rfl
 | .st _ => rfl
 | .sv _ => rfl
 | .pnil => rfl
 | .snil => rfl
 | .sx _ _ => rfl
 | .inil => rfl
 | .fn _ => rfl
 | .nfn => rfl
 | .op _ _ => rfl
 | .mp none => rfl
 | .mp (some _) => rfl
theorem name_ren (π : Nat -> Nat) : ∀ c : Cell, (c.ren π).name = c.name.map π
 | .ptr _ _ => rfl
 | .vel _ _ _ _ => rfl
 | .sl _ _ _ _ => rfl
 | .vs _ _ _ _ _ => rfl
 | .sf _ _ _ _ _ _ => rfl
 | .ifc t c => by simp only [Cell.ren, Cell.name]; rw [name_ren π c]
 | .bl _ => rfl
 | .bt _ => rfl
 | .il _ _ => rfl
 | .it _ _ => rfl
 | .iv _ _ _ _ => rfl
 | .ir _ _ _ _ _ => rfl
 | .st _ => rfl
 | .sv _ => rfl
 | .pnil => rfl
 | .snil => rfl
 | .sx _ _ => rfl
 | .inil => rfl
 | .fn _ => rfl
 | .nfn => rfl
 | .op _ _ => rfl
 | .mp none => rfl
 | .mp (some _) => rfl
theorem denL_ren (ρ : Nm) (π : Nat -> Nat) (l : List Cell) : denL ρ (l.map (Cell.ren π)) = denL (ρ.ren π) l := by
 simp only [denL, List.map_map]
 exact List.map_congr_left fun c _ => den_ren ρ π c
theorem V1.den_ren (ρ : Nm) (π : Nat -> Nat) (x : V1) : (x.ren π).den ρ = x.den (ρ.ren π) := by
 cases x with
 | c x => exact Sx.den_ren ρ π x
 | agg l => simp only [V1.ren, V1.den, denL_ren]
theorem SV.den_ren (ρ : Nm) (π : Nat -> Nat) (x : SV) : (x.ren π).den ρ = x.den (ρ.ren π) := by
 cases x with
 | v x => exact V1.den_ren ρ π x
 | tup l =>
   simp only [SV.ren, SV.den, List.map_map]
   congr 2
   exact List.map_congr_left fun y _ => V1.den_ren ρ π y
 | unk => rfl
 | clo f l => simp only [SV.ren, SV.den, denL_ren]
theorem q_ren {ρ : Nm} {π : Nat -> Nat} {n : Nat} {c : Chunk AV} {w : World} : (c.ren π).q N ρ (π n) w ↔ c.q N (ρ.ren π) n w := by
 cases c with
 | cells l ty => simp only [Chunk.ren, Chunk.q, denL_ren]; rfl
 | vec l es ty => simp only [Chunk.ren, Chunk.q, denL_ren]; rfl
 | dead => rfl
 | abs a => rfl
theorem fp_ren {ρ : Nm} {π : Nat -> Nat} {n : Nat} {c : Chunk AV} : (c.ren π).fp ρ (π n) = c.fp (ρ.ren π) n := by
 cases c <;> rfl
theorem cellsOf_ren (π : Nat -> Nat) (c : Chunk AV) : (c.ren π).cellsOf = c.cellsOf.map (Cell.ren π) := by cases c <;> rfl
def fpH (ρ : Nm) (K : Hp AV) (k : Nat) : Prop := ∃ i c, hget K i = some c /\ c.fp ρ i k
structure OwnL (N : Env AV) (ρ : Nm) (H : Hp AV) (w : World) : Prop where
 q : ∀ n c, hget H n = some c -> c.q N ρ n w
 dis : ∀ n m c d, n ≠ m -> hget H n = some c -> hget H m = some d -> ∀ k, c.fp ρ n k -> d.fp ρ m k -> False
theorem Own.toL {ρ : Nm} {H : Hp AV} {w : World} (h : Own N ρ H w) : OwnL N ρ H w := ⟨h.q, h.dis⟩
theorem OwnL.sub {ρ : Nm} {H : Hp AV} {w : World} (h : OwnL N ρ H w) {K : Hp AV} {π : Nat -> Nat} (hK : ∀ i c, hget K i = some c -> hget H (π i) = some (c.ren π)) (inj : ∀ i j c d, hget K i = some c -> hget K j = some d -> π i = π j -> i = j) : OwnL N (ρ.ren π) K w := by
 refine ⟨fun i c hc => q_ren.1 (h.q _ _ (hK i c hc)), fun i j c d hij hc hd k hk hk' => ?_⟩
 rw [<- fp_ren] at hk hk'
 exact h.dis (π i) (π j) _ _ (fun e => hij (inj i j c d hc hd e)) (hK i c hc) (hK j d hd) k hk hk'
def objQ (N : Env AV) (K : Hp AV) (l : Loc) (S : Nat -> Prop) (w : World) : Prop := ∃ ρ : Nm, ρ.L 0 = l /\ OwnL N ρ K w /\ ∀ k, S k ↔ fpH ρ K k
def Ctr (P : Program) (N : Env AV) (f : FuncId) (args : List SV) (H : Hp AV) (v : SV) (H' : Hp AV) : Prop :=
 ClV H' v /\ ClHp N H' /\ ∀ (ρ : Nm) (w : World), Own N ρ H w ->
  Calls P f (args.map (SV.den ρ)).toArray w fun e w' => ∃ ρ', e = .returned (v.den ρ') /\ Own N ρ' H' w' /\ Evo N H.length ρ H w ρ' H' w'
theorem FnOk.ctr {f : FuncId} {g : List SV -> Hp AV -> T (SV × Hp AV)} (h : FnOk P N f g) {args : List SV} {H : Hp AV} {v : SV} {H' : Hp AV} (hr : (g args H).val = some (v, H')) (ha : ∀ x ∈ args, ClV H x) (hC : ClHp N H) : Ctr P N f args H v H' :=
 h args H v H' hr ha hC
theorem FnOk.of {f : FuncId} {g : List SV -> Hp AV -> T (SV × Hp AV)} (h : ∀ args H v H', (g args H).val = some (v, H') -> (∀ x ∈ args, ClV H x) -> ClHp N H -> Ctr P N f args H v H') : FnOk P N f g := h
section opening
theorem hget_append : ∀ (A B : Hp AV) (i : Nat), hget (A ++ B) i = if i < A.length then hget A i else hget B (i - A.length)
 | [], B, i => by simp
 | x :: r, B, 0 => by simp [hget]
 | x :: r, B, i + 1 => by
   simp only [List.cons_append, hget, hget_append r B i, List.length_cons, Nat.add_lt_add_iff_right, Nat.add_sub_add_right]
end opening
theorem ClL.ren {H B : Hp AV} {π : Nat -> Nat} (h : ∀ i c, hget H i = some c -> ∃ d, hget B (π i) = some d) {l : List Cell} (hl : ClL H l) : ClL B (l.map (Cell.ren π)) := by
 intro c hc n hn
 obtain ⟨d, hd, rfl⟩ := List.mem_map.1 hc
 rw [name_ren] at hn
 obtain ⟨m, hm, rfl⟩ := Option.map_eq_some_iff.1 hn
 obtain ⟨x, hx⟩ := hl d hd m hm
 exact h m x hx
theorem ClV.ren {H B : Hp AV} {π : Nat -> Nat} (h : ∀ i c, hget H i = some c -> ∃ d, hget B (π i) = some d) {v : SV} (hl : ClV H v) : ClV B (v.ren π) := by
 have one : ∀ x : V1, ClV1 H x -> ClV1 B (x.ren π) := fun x hx => by
  cases x with
  | c x =>
    have := ClL.ren h (l := [x]) hx
    simpa [ClV1, V1.cells, V1.ren] using this
  | agg l => exact ClL.ren h hx
 cases v with
 | v x => exact one x hl
 | tup l =>
   intro x hx
   obtain ⟨y, hy, rfl⟩ := List.mem_map.1 hx
   exact one y (hl y hy)
 | unk => trivial
 | clo f l => exact ClL.ren h (l := l) hl
open Classical in
theorem ctr_embed {f : FuncId} {args : List SV} {H : Hp AV} {v : SV} {H' : Hp AV} (hc : Ctr P N f args H v H') {B B' : Hp AV} {π : Nat -> Nat} (hπ : ∀ i c, hget H i = some c -> hget B (π i) = some (c.ren π))
 (inj : ∀ i j c d, hget H' i = some c -> hget H' j = some d -> π i = π j -> i = j) (hpers : ∀ i c, hget H i = some c -> ∃ d, hget H' i = some d) (hg : ∀ g, g < N.G -> π g = g) (hCB : ClHp N B)
 (hnew : ∀ i c, hget H' i = some c -> hget H i = none -> B.length <= π i) (hGB : N.G <= B.length)
 (hB : ∀ m c, hget B' m = some c -> (∃ i d, m = π i /\ hget H' i = some d /\ c = d.ren π) \/ (hget B m = some c /\ ∀ i d, hget H' i = some d -> π i ≠ m))
 (hB2 : ∀ i d, hget H' i = some d -> hget B' (π i) = some (d.ren π)) (pers : ∀ m c, hget B m = some c -> ∃ c', hget B' m = some c') (non : ∀ m, m < B.length -> hget B m = none -> hget B' m = none) (len : B.length <= B'.length) :
 Ctr P N f (args.map (SV.ren π)) B (v.ren π) B' := by
 obtain ⟨hv, hC', hcall⟩ := hc
 have up : ∀ i c, hget H' i = some c -> ∃ d, hget B' (π i) = some d := fun i c h => ⟨_, hB2 i c h⟩
 have hCB' : ClHp N B' := by
  refine ⟨fun m c h => ?_, trivial⟩
  rcases hB m c h with ⟨i, d, rfl, h1, rfl⟩ | ⟨h1, _⟩
  ·rw [cellsOf_ren]; exact ClL.ren up (hC'.1 i d h1)
  ·exact (hCB.1 m c h1).mono pers
 refine ⟨hv.ren up, hCB', fun ρ w hO => ?_⟩
 have inj0 : ∀ i j c d, hget H i = some c -> hget H j = some d -> π i = π j -> i = j := fun i j c d h1 h2 e => by
  obtain ⟨c', hc'⟩ := hpers i c h1
  obtain ⟨d', hd'⟩ := hpers j d h2
  exact inj i j c' d' hc' hd' e
 have hOc : Own N (ρ.ren π) H w := by
  have := hO.toL.sub hπ inj0
  refine ⟨⟨this.q, this.dis, fun g hgG => ?_⟩, hO.ro.1, fun i c k h hk => hO.ro.2 (π i) _ k (hπ i c h) (by rw [fp_ren]; exact hk)⟩
  show (ρ.L (π g)).b = g
  rw [hg g hgG]; exact hO.glb g hgG
 have hmap : (args.map (SV.ren π)).map (SV.den ρ) = args.map (SV.den (ρ.ren π)) := by
  rw [List.map_map]
  exact List.map_congr_left fun x _ => SV.den_ren ρ π x
 rw [hmap]
 refine (hcall _ w hOc).mono ?_
 rintro e w' ⟨ρ', rfl, hO', hE⟩
 let ρ2 : Nm := ⟨fun m => if h : ∃ i d, m = π i /\ hget H' i = some d then ρ'.L h.choose else ρ.L m, fun m => if h : ∃ i d, m = π i /\ hget H' i = some d then ρ'.S h.choose else ρ.S m⟩
 have im : ∀ i d, hget H' i = some d -> ρ2.L (π i) = ρ'.L i /\ ρ2.S (π i) = ρ'.S i := fun i d hd => by
  have hex : ∃ j e, π i = π j /\ hget H' j = some e := ⟨i, d, rfl, hd⟩
  have hch : hex.choose = i := by
   obtain ⟨e, h1, h2⟩ := hex.choose_spec
   exact (inj i _ d e hd h2 h1).symm
  constructor
  ·show (if h : ∃ j e, π i = π j /\ hget H' j = some e then _ else _) = _
   rw [dif_pos hex, hch]
  ·show (if h : ∃ j e, π i = π j /\ hget H' j = some e then _ else _) = _
   rw [dif_pos hex, hch]
 have out : ∀ m, (∀ i d, hget H' i = some d -> π i ≠ m) -> ρ2.L m = ρ.L m /\ ρ2.S m = ρ.S m := fun m hm => by
  have hex : ¬ ∃ j e, m = π j /\ hget H' j = some e := by
   rintro ⟨j, e, h1, h2⟩
   exact hm j e h2 h1.symm
  exact ⟨dif_neg hex, dif_neg hex⟩
 have old : ∀ m c, hget B m = some c -> ρ2.L m = ρ.L m := fun m c h => by
  by_cases hex : ∃ i d, m = π i /\ hget H' i = some d
  ·obtain ⟨i, d, rfl, hd⟩ := hex
   rw [(im i d hd).1]
   cases hh : hget H i with
   | none => have := hnew i d hd hh; have := hget_lt h; omega
   | some x => exact hE.agree i x hh
  ·exact (out m fun i d hd e => hex ⟨i, d, e.symm, hd⟩).1
 have fpi : ∀ i d, hget H' i = some d -> (d.ren π).fp ρ2 (π i) = d.fp ρ' i := fun i d hd => by
  rw [fp_ren]
  exact fp_congr (im i d hd).1 (im i d hd).2
 have fpo : ∀ m (c : Chunk AV), (∀ i d, hget H' i = some d -> π i ≠ m) -> c.fp ρ2 m = c.fp ρ m := fun m c hm => fp_congr (out m hm).1 (out m hm).2
 have small : ∀ i d k, hget H' i = some d -> d.fp ρ' i k -> w.heap.size <= k \/ ∃ j e, hget H j = some e /\ (e.ren π).fp ρ (π j) k := fun i d k hd hk => by
  rcases hE.new i d k hd hk with h1 | ⟨j, e, h1, h2⟩
  ·exact .inl h1
  ·exact .inr ⟨j, e, h1, by rw [fp_ren]; exact h2⟩
 have apart : ∀ m c i d k, hget B m = some c -> (∀ i d, hget H' i = some d -> π i ≠ m) -> hget H' i = some d -> c.fp ρ m k -> d.fp ρ' i k -> False := fun m c i d k hc hm hd hk hk' => by
  rcases small i d k hd hk' with h1 | ⟨j, e, h1, h2⟩
  ·have := hO.lt hc hk; omega
  ·obtain ⟨e', he'⟩ := hpers j e h1
   exact hO.dis m (π j) c _ (fun e => hm j e' he' e.symm) hc (hπ j e h1) k hk h2
 refine ⟨ρ2, ?_, hO.up2 ⟨⟨fun m c h => ?_, fun m m' c d hne h h' k hk hk' => ?_, fun g hgG => ?_⟩, ⟨pers, old, non, len, fun k hk hno => ?_, fun m c k h hk => ?_, hE.os, hE.tape, hE.output, hE.size⟩⟩⟩
 ·congr 1
  rw [SV.den_ren]
  exact (SV.den_congr hv fun i c h => (im i c h).1).symm
 ·rcases hB m c h with ⟨i, d, rfl, h1, rfl⟩ | ⟨h1, h2⟩
  ·rw [q_ren]
   exact q_keep (hO'.q i d h1) (im i d h1).1 (im i d h1).2 (denL_congr (hC'.1 i d h1) fun j x hx => (im j x hx).1) (fun _ _ => rfl)
  ·refine q_keep (hO.q m c h1) (out m h2).1 (out m h2).2 (denL_congr (hCB.1 m c h1) old) fun k hk => ?_
   refine hE.frame k (hO.lt h1 hk) fun i d hd hk' => ?_
   obtain ⟨d', hd'⟩ := hpers i d hd
   rw [<- fp_ren] at hk'
   exact hO.dis m (π i) c _ (fun e => h2 i d' hd' e.symm) h1 (hπ i d hd) k hk hk'
 ·rcases hB m c h with ⟨i, x, rfl, h1, rfl⟩ | ⟨h1, h2⟩
  ·rw [fpi i x h1] at hk
   rcases hB m' d h' with ⟨j, y, rfl, g1, rfl⟩ | ⟨g1, g2⟩
   ·rw [fpi j y g1] at hk'
    exact hO'.dis i j x y (fun e => hne (by rw [e])) h1 g1 k hk hk'
   ·rw [fpo m' d g2] at hk'
    exact apart m' d i x k g1 g2 h1 hk' hk
  ·rw [fpo m c h2] at hk
   rcases hB m' d h' with ⟨j, y, rfl, g1, rfl⟩ | ⟨g1, g2⟩
   ·rw [fpi j y g1] at hk'
    exact apart m c j y k h1 h2 g1 hk hk'
   ·rw [fpo m' d g2] at hk'
    exact hO.dis m m' c d hne h1 g1 k hk hk'
 ·by_cases hex : ∃ d, hget H' g = some d
  ·obtain ⟨d, hd⟩ := hex
   have := (im g d hd).1
   rw [hg g hgG] at this
   show (ρ2.L g).b = g
   rw [this]; exact hO'.glb g hgG
  ·show (ρ2.L g).b = g
   by_cases hi : ∃ i d, hget H' i = some d /\ π i = g
   ·obtain ⟨i, d, hd, e⟩ := hi
    have h3 := (im i d hd).1
    rw [e] at h3
    cases hh : hget H i with
    | none =>
      have h1 := hnew i d hd hh
      omega
    | some x =>
      rw [h3, hE.agree i x hh]
      show (ρ.L (π i)).b = g
      rw [e]; exact hO.glb g hgG
   ·rw [(out g fun i d hd e => hi ⟨i, d, hd, e⟩).1]; exact hO.glb g hgG
 ·refine hE.frame k hk fun i d hd hk' => ?_
  rw [<- fp_ren] at hk'
  exact hno (π i) _ (hπ i d hd) hk'
 ·rcases hB m c h with ⟨i, d, rfl, h1, rfl⟩ | ⟨h1, h2⟩
  ·rw [fpi i d h1] at hk
   rcases small i d k h1 hk with h2 | ⟨j, e, h2, h3⟩
   ·exact .inl h2
   ·exact .inr ⟨π j, _, hπ j e h2, h3⟩
  ·rw [fpo m c h2] at hk
   exact .inr ⟨m, c, h1, hk⟩
end Go.Sx

namespace Go.Sx
structure AK (α : Type) where
 es : Nat
 pos : 0 < es
 ty : TypeId
 enc : α -> List Cell
 len : ∀ a, (enc a).length = es
 nm : ∀ a, ∀ c ∈ enc a, c.name = none
 dec : List Cell -> Option α
 dec_ok : ∀ cs a, dec cs = some a -> denL Nm.id (enc a) = denL Nm.id cs /\ ∀ c ∈ cs, c.name = none
 dflt : α
namespace AK
variable {α : Type} (K : AK α)
def vals (l : List α) : List Value := l.flatMap fun a => denL Nm.id (K.enc a)
theorem vals_len (l : List α) : (K.vals l).length = l.length * K.es := by
 induction l with
 | nil => simp [vals]
 | cons a l ih =>
   have h1 := K.len a
   simp only [vals, List.flatMap_cons, List.length_append, den_len, h1, List.length_cons] at ih ⊢
   rw [ih, Nat.add_mul, Nat.one_mul, Nat.add_comm]
theorem vals_one (l : List α) : ∀ v ∈ K.vals l, v.oneCell' = true := by
 intro v hv
 obtain ⟨a, _, h⟩ := List.mem_flatMap.1 hv
 obtain ⟨c, _, rfl⟩ := List.mem_map.1 h
 exact den_one _ c
theorem vals_append (l r : List α) : K.vals (l ++ r) = K.vals l ++ K.vals r := by simp [vals]
theorem vals_take (l : List α) (n : Nat) : (K.vals l).take (n * K.es) = K.vals (l.take n) := by
 induction l generalizing n with
 | nil => simp [vals]
 | cons a l ih =>
   cases n with
   | zero => simp [vals]
   | succ n =>
     have h1 : (denL Nm.id (K.enc a)).length = K.es := by rw [den_len, K.len a]
     simp only [vals, List.flatMap_cons, List.take_succ_cons] at ih ⊢
     rw [List.take_append, h1, Nat.add_mul, Nat.one_mul, Nat.add_sub_cancel, ih n, List.take_of_length_le (by omega)]
theorem vals_drop (l : List α) (n : Nat) : (K.vals l).drop (n * K.es) = K.vals (l.drop n) := by
 induction l generalizing n with
 | nil => simp [vals]
 | cons a l ih =>
   cases n with
   | zero => simp [vals]
   | succ n =>
     have h1 : (denL Nm.id (K.enc a)).length = K.es := by rw [den_len, K.len a]
     simp only [vals, List.flatMap_cons, List.drop_succ_cons] at ih ⊢
     rw [List.drop_append, h1, Nat.add_mul, Nat.one_mul, Nat.add_sub_cancel, ih n, List.drop_of_length_le (by omega), List.nil_append]
theorem vals_get (l : List α) (i j : Nat) (hi : i < l.length) (hj : j < K.es) : (K.vals l)[i * K.es + j]? = (denL Nm.id (K.enc (l.getD i K.dflt)))[j]? := by
 induction l generalizing i with
 | nil => simp at hi
 | cons a l ih =>
   have h1 : (denL Nm.id (K.enc a)).length = K.es := by rw [den_len, K.len a]
   have e : K.vals (a :: l) = denL Nm.id (K.enc a) ++ K.vals l := by simp [vals]
   rw [e]
   cases i with
   | zero => simp [List.getElem?_append_left (show j < (denL Nm.id (K.enc a)).length by omega)]
   | succ i =>
     rw [List.getElem?_append_right (by rw [h1, Nat.add_mul]; omega), h1]
     have := ih i (by simpa using hi)
     rw [show (i + 1) * K.es + j - K.es = i * K.es + j by rw [Nat.add_mul]; omega, this]
     simp
theorem vals_set (l : List α) (i : Nat) (a : α) (hi : i < l.length) : K.vals (l.set i a) = (K.vals l).take (i * K.es) ++ (denL Nm.id (K.enc a) ++ (K.vals l).drop (i * K.es + K.es)) := by
 rw [List.set_eq_take_append_cons_drop, if_pos hi, vals_append, vals_take]
 have e : i * K.es + K.es = (i + 1) * K.es := by rw [Nat.add_mul, Nat.one_mul]
 rw [e, vals_drop]
 simp [vals]
def row (l : List α) (idx es : Nat) : Option (Bool × List Cell) := match Nat.beq es K.es with
 | true => some (decide (idx < l.length), K.enc (l.getD idx K.dflt))
 | false => none
def upd (l : List α) (idx es off : Nat) (cs : List Cell) : Option (Bool × List α) := match Nat.beq es K.es with
 | false => none
 | true => match lput (K.enc (l.getD idx K.dflt)) off cs with
   | none => none
   | some r => match K.dec r with
     | some a => some (decide (idx < l.length), l.set idx a)
     | none => none
def arr (l : List α) : Option (Nat × TypeId × List Value) := some (K.es, K.ty, K.vals l)
def q (l : List α) (lc : Loc) (S : Nat -> Prop) (w : World) : Prop := vecQ lc S (K.vals l) K.es K.ty w
def decs : Nat -> List Cell -> Option (List α)
 | 0, [] => some []
 | 0, _ :: _ => none
 | n + 1, cs => match ltake cs K.es with
   | none => none
   | some r => match K.dec r, decs n (cs.drop K.es) with
     | some a, some l => some (a :: l)
     | _, _ => none
def app (l : List α) (cs : List Cell) : Option (List α) := match K.decs (cs.length / K.es) cs with
 | some r => some (l ++ r)
 | none => none
theorem q_loc {l : List α} {lc : Loc} {S : Nat -> Prop} {w w' : World} (h : ∀ k, S k -> w'.heap[k]? = w.heap[k]?) (hq : K.q l lc S w) : K.q l lc S w' := vecQ_keep hq h
theorem q_dom {l : List α} {lc : Loc} {S : Nat -> Prop} {w : World} {k : Nat} (hq : K.q l lc S w) (hk : S k) : k < w.heap.size := by
 rcases hq with ⟨_, _, h⟩ | ⟨_, h, row, h2, _⟩
 ·exact absurd hk (h k)
 ·rw [(h k).1 hk]
  exact (Array.getElem?_eq_some_iff.1 h2).1
theorem row_nm {l : List α} {idx es : Nat} {b : Bool} {cs : List Cell} (h : K.row l idx es = some (b, cs)) : ∀ c ∈ cs, c.name = none := by
 unfold row at h
 split at h
 ·cases h; exact K.nm _
 ·cases h
theorem row_ok {l : List α} {lc : Loc} {S : Nat -> Prop} {w : World} {idx es : Nat} {cs : List Cell} (hq : K.q l lc S w) (h : K.row l idx es = some (true, cs)) (j : Nat) (c : Cell) (hc : cs[j]? = some c) : w.cell? ⟨lc.b, lc.o + idx * es + j, none⟩ = some (c.den Nm.id) := by
 unfold row at h
 split at h
 ·rename_i he
  have he := (beq_iff _ _).1 he
  subst he
  simp only [Option.some.injEq, Prod.mk.injEq, decide_eq_true_eq] at h
  obtain ⟨hi, rfl⟩ := h
  have hj : j < K.es := by
   have := (List.getElem?_eq_some_iff.1 hc).1
   rw [K.len] at this; exact this
  have := vecQ_at hq (idx * K.es + j) (c.den Nm.id) (by rw [K.vals_get l idx j hi hj]; unfold denL; rw [List.getElem?_map, hc]; rfl)
  have e : (⟨lc.b, lc.o, none⟩ : Addr).add (idx * K.es + j) = ⟨lc.b, lc.o + idx * K.es + j, none⟩ := by
   unfold Addr.add
   by_cases h0 : idx * K.es + j = 0
   ·simp [h0]; omega
   ·simp [Nat.add_assoc]
  rw [<- e]; exact this
 ·cases h
theorem row_read {l : List α} {lc : Loc} {w : World} {idx es : Nat} {cs : List Cell} (hq : readQ lc (K.vals l) K.es w) (h : K.row l idx es = some (true, cs)) (j : Nat) (c : Cell) (hc : cs[j]? = some c) : w.cell? ⟨lc.b, lc.o + idx * es + j, none⟩ = some (c.den Nm.id) := by
 unfold row at h
 split at h
 ·rename_i he
  have he := (beq_iff _ _).1 he
  subst he
  simp only [Option.some.injEq, Prod.mk.injEq, decide_eq_true_eq] at h
  obtain ⟨hi, rfl⟩ := h
  have hj : j < K.es := by
   have := (List.getElem?_eq_some_iff.1 hc).1
   rw [K.len] at this; exact this
  have := hq.2 (idx * K.es + j) (c.den Nm.id) (by rw [K.vals_get l idx j hi hj]; unfold denL; rw [List.getElem?_map, hc]; rfl)
  have e : (⟨lc.b, lc.o, none⟩ : Addr).add (idx * K.es + j) = ⟨lc.b, lc.o + idx * K.es + j, none⟩ := by
   unfold Addr.add
   by_cases h0 : idx * K.es + j = 0
   ·simp [h0]; omega
   ·simp [h0, Nat.add_assoc]
  rw [<- e]; exact this
 ·cases h
theorem lput_spec : ∀ {l : List Cell} {off : Nat} {ys r : List Cell}, lput l off ys = some r -> off + ys.length <= l.length /\ r = l.take off ++ (ys ++ l.drop (off + ys.length))
 | l, 0, [], r, h => by simp only [lput, Option.some.injEq] at h; subst h; simp
 | [], 0, y :: ys, r, h => by simp [lput] at h
 | x :: l, 0, y :: ys, r, h => by
   simp only [lput] at h
   split at h
   ·rename_i q hq
    cases h
    obtain ⟨h1, h2⟩ := lput_spec hq
    simp only [Nat.zero_add, List.take_zero, List.nil_append] at h1 h2
    refine ⟨by simp; omega, ?_⟩
    simp [h2]
   ·cases h
 | [], n + 1, ys, r, h => by simp [lput] at h
 | x :: l, n + 1, ys, r, h => by
   simp only [lput] at h
   split at h
   ·rename_i q hq
    cases h
    obtain ⟨h1, h2⟩ := lput_spec hq
    refine ⟨by simp; omega, ?_⟩
    rw [h2, show n + 1 + ys.length = (n + ys.length) + 1 by omega]
    simp
   ·cases h
theorem upd_of {l : List α} {lc : Loc} {S : Nat -> Prop} {w : World} {idx off : Nat} {cs r : List Cell} {a : α} (hq : K.q l lc S w) (hi : idx < l.length) (hr : lput (K.enc (l.getD idx K.dflt)) off cs = some r) (d1 : denL Nm.id (K.enc a) = denL Nm.id r) (hnm : ∀ c ∈ cs, c.name = none) : (∀ c ∈ cs, c.name = none) /\ S lc.b /\ ∃ (row : List Value) (ty : TypeId), w.heap[lc.b]? = some (.cells row.toArray ty (0, 0)) /\ lc.o + idx * K.es + off + cs.length <= row.length /\
 K.q (l.set idx a) lc S (w.setRow lc.b (row.take (lc.o + idx * K.es + off) ++ (denL Nm.id cs ++ row.drop (lc.o + idx * K.es + off + cs.length))).toArray) := by
 obtain ⟨p1, p2⟩ := lput_spec hr
 rw [K.len] at p1
 rcases hq with ⟨_, h0, _⟩ | ⟨hcp, hS, row, hrow, hrl, hll, hat⟩
 ·have := congrArg List.length h0
  rw [K.vals_len] at this
  rcases Nat.mul_eq_zero.1 this with h | h
  ·omega
  ·have := K.pos; omega
 ·have hvl := K.vals_len l
  have hmul : (idx + 1) * K.es <= l.length * K.es := Nat.mul_le_mul_right _ hi
  rw [Nat.add_mul, Nat.one_mul] at hmul
  have hfit : lc.o + idx * K.es + off + cs.length <= row.length := by omega
  refine ⟨hnm, (hS _).2 rfl, row, K.ty, hrow, hfit, .inr ⟨hcp, hS, _, setRow_heap w lc.b _ _ K.ty (0, 0) hrow, ?_, ?_, ?_⟩⟩
  ·simp only [List.length_append, List.length_take, List.length_drop, den_len]
   omega
  ·rw [K.vals_len, List.length_set, <- K.vals_len]; exact hll
  ·intro j v hv
   have e1 : row.take (lc.o + idx * K.es + off) ++ (denL Nm.id cs ++ row.drop (lc.o + idx * K.es + off + cs.length)) = row.take (lc.o + idx * K.es + off) ++ denL Nm.id cs ++ row.drop (lc.o + idx * K.es + off + (denL Nm.id cs).length) := by rw [den_len, List.append_assoc]
   rw [e1, seg_row (by rw [den_len]; exact hfit), den_len]
   have hnew : ∀ j, j < K.es -> (denL Nm.id (K.enc a))[j]? = if j < off then (denL Nm.id (K.enc (l.getD idx K.dflt)))[j]? else if j < off + cs.length then (denL Nm.id cs)[j - off]? else (denL Nm.id (K.enc (l.getD idx K.dflt)))[j]? := by
    intro j hj
    rw [d1, p2]
    have e2 : denL Nm.id ((K.enc (l.getD idx K.dflt)).take off ++ (cs ++ (K.enc (l.getD idx K.dflt)).drop (off + cs.length))) = (denL Nm.id (K.enc (l.getD idx K.dflt))).take off ++ denL Nm.id cs ++ (denL Nm.id (K.enc (l.getD idx K.dflt))).drop (off + (denL Nm.id cs).length) := by
     rw [den_len]
     simp [denL, List.map_take, List.map_drop]
    rw [e2, seg_row (by rw [den_len, den_len, K.len]; exact p1), den_len]
   rw [K.vals_set l idx a hi] at hv
   have hl1 : ((K.vals l).take (idx * K.es)).length = idx * K.es := by rw [List.length_take]; omega
   have hl2 : (denL Nm.id (K.enc a)).length = K.es := by rw [den_len, K.len]
   by_cases c1 : j < idx * K.es
   ·rw [List.getElem?_append_left (by omega), List.getElem?_take, if_pos c1] at hv
    rw [if_pos (by omega)]
    exact hat j v hv
   ·rw [List.getElem?_append_right (by omega), hl1] at hv
    by_cases c2 : j - idx * K.es < K.es
    ·rw [List.getElem?_append_left (by omega), hnew _ c2] at hv
     have back : ∀ u, (denL Nm.id (K.enc (l.getD idx K.dflt)))[j - idx * K.es]? = some u -> row[lc.o + j]? = some u := fun u hu => by
      have := K.vals_get l idx (j - idx * K.es) hi c2
      rw [show idx * K.es + (j - idx * K.es) = j by omega] at this
      exact hat j u (by rw [this]; exact hu)
     by_cases c3 : j - idx * K.es < off
     ·rw [if_pos c3] at hv
      rw [if_pos (by omega)]
      exact back v hv
     ·rw [if_neg c3] at hv
      rw [if_neg (by omega)]
      by_cases c4 : j - idx * K.es < off + cs.length
      ·rw [if_pos c4] at hv
       rw [if_pos (by omega), <- hv]
       congr 1
       omega
      ·rw [if_neg c4] at hv
       rw [if_neg (by omega)]
       exact back v hv
    ·rw [List.getElem?_append_right (by omega), hl2, List.getElem?_drop] at hv
     rw [if_neg (by omega), if_neg (by omega)]
     refine hat j v ?_
     rw [<- hv]
     congr 1
     omega
theorem upd_ok {l l' : List α} {lc : Loc} {S : Nat -> Prop} {w : World} {idx es off : Nat} {cs : List Cell} (hq : K.q l lc S w) (h : K.upd l idx es off cs = some (true, l')) : (∀ c ∈ cs, c.name = none) /\ S lc.b /\ ∃ (row : List Value) (ty : TypeId), w.heap[lc.b]? = some (.cells row.toArray ty (0, 0)) /\ lc.o + idx * es + off + cs.length <= row.length /\
 K.q l' lc S (w.setRow lc.b (row.take (lc.o + idx * es + off) ++ (denL Nm.id cs ++ row.drop (lc.o + idx * es + off + cs.length))).toArray) := by
 unfold upd at h
 split at h
 ·cases h
 ·rename_i he
  have he := (beq_iff _ _).1 he
  subst he
  split at h
  ·cases h
  ·rename_i r hr
   split at h
   ·rename_i a ha
    simp only [Option.some.injEq, Prod.mk.injEq, decide_eq_true_eq] at h
    obtain ⟨hi, rfl⟩ := h
    obtain ⟨d1, d2⟩ := K.dec_ok r a ha
    exact K.upd_of hq hi hr d1 fun c hc => d2 c (by rw [(lput_spec hr).2]; simp [hc])
   ·cases h
theorem decs_ok : ∀ {n : Nat} {cs : List Cell} {l : List α}, K.decs n cs = some l -> K.vals l = denL Nm.id cs /\ ∀ c ∈ cs, c.name = none
 | 0, [], l, h => by simp only [decs, Option.some.injEq] at h; subst h; simp [vals, denL]
 | 0, _ :: _, l, h => by simp [decs] at h
 | n + 1, cs, l, h => by
   simp only [decs] at h
   split at h
   ·cases h
   ·rename_i r hr
    split at h
    ·rename_i a l' ha hl
     cases h
     obtain ⟨d1, d2⟩ := K.dec_ok r a ha
     obtain ⟨q1, q2⟩ := decs_ok hl
     have hrl := ltake_spec hr
     have hle := ltake_le hr
     have er : r = cs.take K.es := by
      apply List.ext_getElem?
      intro j
      rw [List.getElem?_take]
      by_cases hj : j < K.es
      ·rw [if_pos hj]
       have hjr : j < r.length := by rw [hrl.1]; exact hj
       have := hrl.2 j r[j] (List.getElem?_eq_getElem hjr)
       rw [this, List.getElem?_eq_getElem hjr]
      ·rw [if_neg hj, List.getElem?_eq_none (by rw [hrl.1]; omega)]
     have ecs : cs = r ++ cs.drop K.es := by rw [er, List.take_append_drop]
     refine ⟨?_, fun c hc => ?_⟩
     ·have : K.vals (a :: l') = denL Nm.id (K.enc a) ++ K.vals l' := by simp [vals]
      rw [this, d1, q1]
      conv => rhs; rw [ecs]
      simp [denL]
     ·rw [ecs] at hc
      rcases List.mem_append.1 hc with h | h
      ·exact d2 c h
      ·exact q2 c h
    ·cases h
theorem app_ok {l l' : List α} {cs : List Cell} (h : K.app l cs = some l') : (∀ x ∈ cs, x.name = none) /\ K.vals l' = K.vals l ++ denL Nm.id cs := by
 unfold app at h
 split at h
 ·rename_i r hr
  cases h
  obtain ⟨h1, h2⟩ := K.decs_ok hr
  exact ⟨h2, by rw [K.vals_append, h1]⟩
 ·cases h
theorem cut_ok (l : List α) (i j : Nat) : K.vals ((l.take j).drop i) = ((K.vals l).take (j * K.es)).drop (i * K.es) := by
 rw [K.vals_take, K.vals_drop]
end AK
end Go.Sx

namespace Go.Sx
variable {AV : Type} {P : Program} {N : Env AV}
def envF (F : Intf AV) : Env AV := { tt := .lf, ft := .lf, gu := .lf, G := 0, F := F }
theorem objQ_loc {K : Hp AV} {l : Loc} {S : Nat -> Prop} {w w' : World} (hk : ∀ k, S k -> w'.heap[k]? = w.heap[k]?) (h : objQ N K l S w) : objQ N K l S w' := by
 obtain ⟨ρ, h1, h2, h3⟩ := h
 exact ⟨ρ, h1, ⟨fun n c hc => q_keep (h2.q n c hc) rfl rfl rfl fun k hf => hk k ((h3 k).2 ⟨n, c, hc, hf⟩), h2.dis⟩, h3⟩
theorem q_dom {ρ : Nm} {n : Nat} {c : Chunk AV} {w : World} (h : c.q N ρ n w) {k : Nat} (hk : c.fp ρ n k) : k < w.heap.size := by
 cases c with
 | cells l ty =>
   have hk : k = ρ n := hk
   have h : w.heap[ρ n]? = some _ := h
   rw [hk]
   exact (Array.getElem?_eq_some_iff.1 h).1
 | vec l es ty =>
   have hk : ρ.S n k := hk
   rcases h with ⟨_, _, h⟩ | ⟨_, h, row, h2, _⟩
   ·exact absurd hk (h k)
   ·rw [(h k).1 hk]
    exact (Array.getElem?_eq_some_iff.1 h2).1
 | dead => exact hk.elim
 | abs a => exact N.F.dom a _ _ w k h hk
theorem objQ_dom {K : Hp AV} {l : Loc} {S : Nat -> Prop} {w : World} {k : Nat} (h : objQ N K l S w) (hk : S k) : k < w.heap.size := by
 obtain ⟨ρ, h1, h2, h3⟩ := h
 obtain ⟨i, c, hc, hf⟩ := (h3 k).1 hk
 exact q_dom (h2.q i c hc) hf
structure LayOk (F : Intf AV) (lay : AV -> Option (Hp AV)) : Prop where
 arr : ∀ a x, F.arr a = some x -> lay a = none
 row : ∀ a i e x, F.row a i e = some x -> lay a = none
 prt : ∀ a i e o n x, F.prt a i e o n = some x -> lay a = none
 upd : ∀ a i e o cs b a', F.upd a i e o cs = some (b, a') -> lay a = none /\ lay a' = none
 word : ∀ a cs, F.word a = some cs -> lay a = none
 mp : ∀ a x, F.mp a = some x -> lay a = none := by intro a x h; cases h
def objF (F : Intf AV) (lay : AV -> Option (Hp AV)) (a : AV) (l : Loc) (S : Nat -> Prop) (w : World) : Prop := match lay a with
 | none => F.q a l S w
 | some K => objQ (envF F) K l S w
theorem objF_none {F : Intf AV} {lay : AV -> Option (Hp AV)} {a : AV} (h : lay a = none) (l : Loc) (S : Nat -> Prop) (w : World) : objF F lay a l S w ↔ F.q a l S w := by
 unfold objF; rw [h]
def Intf.obj (F : Intf AV) (lay : AV -> Option (Hp AV)) (h : LayOk F lay) : Intf AV where
 q := objF F lay
 loc := fun a l S w w' hk hq => by
  unfold objF at hq ⊢
  split at hq
  ·exact F.loc a l S w w' hk hq
  ·exact objQ_loc hk hq
 dom := fun a l S w k hq hk => by
  unfold objF at hq
  split at hq
  ·exact F.dom a l S w k hq hk
  ·exact objQ_dom hq hk
 row := F.row
 row_nm := F.row_nm
 R := F.R
 row_ok := fun a l S w idx es cs hR hq hr => F.row_ok a l S w idx es cs hR ((objF_none (h.row a idx es _ hr) l S w).1 hq) hr
 prt := F.prt
 prt_nm := F.prt_nm
 prt_ok := fun a l S w i e o n cs hR hq hp => F.prt_ok a l S w i e o n cs hR ((objF_none (h.prt a i e o n _ hp) l S w).1 hq) hp
 upd := F.upd
 upd_ok := fun a l S w idx es off cs a' hq hu => by
  obtain ⟨h1, h2⟩ := h.upd a idx es off cs true a' hu
  obtain ⟨g1, g2, row, ty, g3, g4, g5⟩ := F.upd_ok a l S w idx es off cs a' ((objF_none h1 l S w).1 hq) hu
  exact ⟨g1, g2, row, ty, g3, g4, (objF_none h2 l S _).2 g5⟩
 word := F.word
 word_nm := F.word_nm
 word_ok := fun a l S w cs hq hw => F.word_ok a l S w cs ((objF_none (h.word a cs hw) l S w).1 hq) hw
 same := F.same
 same_ok := F.same_ok
 arr := F.arr
 arr_q := fun a es ty vs ha => ⟨(F.arr_q a es ty vs ha).1, fun l S w => (objF_none (h.arr a _ ha) l S w).trans ((F.arr_q a es ty vs ha).2 l S w)⟩
 src := fun a => match lay a with
  | none => F.src a
  | some _ => none
 src_ok := fun a b es ty vs hs hb l S w hR hq => by
  split at hs
  ·rename_i h1
   exact F.src_ok a b es ty vs hs hb l S w hR ((objF_none h1 l S w).1 hq)
  ·cases hs
 len := F.len
 len_ok := F.len_ok
 cat := F.cat
 cat_ok := F.cat_ok
 app := F.app
 app_ok := F.app_ok
 cut := F.cut
 cut_ok := F.cut_ok
 zer := F.zer
 zer_ok := F.zer_ok
 txt := F.txt
 txt_ok := F.txt_ok
 mp := F.mp
 mp_q := fun a ks ag es hm => ⟨(F.mp_q a ks ag es hm).1, fun l S w => (objF_none (h.mp a _ hm) l S w).trans ((F.mp_q a ks ag es hm).2 l S w)⟩
 mnew := F.mnew
 mnew_ok := F.mnew_ok
 mlook := F.mlook
 mlook_ok := F.mlook_ok
 mput := F.mput
 mput_ok := F.mput_ok
 mdel := F.mdel
 mdel_ok := F.mdel_ok
 mlen := F.mlen
 mlen_ok := F.mlen_ok
end Go.Sx

namespace Go.Sx
set_option linter.unusedVariables false
variable {AV : Type} {P : Program} {N : Env AV}
def Opn (N : Env AV) (H H1 : Hp AV) : Prop := ∀ (ρ : Nm) (w : World), Own N ρ H w -> ∃ ρ1, Own N ρ1 H1 w /\ (∀ m, m < H.length -> ρ1.L m = ρ.L m) /\ ∀ m d k, hget H1 m = some d -> d.fp ρ1 m k -> ∃ m' d', hget H m' = some d' /\ d'.fp ρ m' k
def Fld (N : Env AV) (H R : Hp AV) : Prop := ∀ (ρ : Nm) (w : World), Own N ρ H w -> ∃ ρ1, Own N ρ1 R w /\ (∀ m c, hget H m = some c -> ρ1.L m = ρ.L m) /\ ∀ m d k, hget R m = some d -> d.fp ρ1 m k -> ∃ m' d', hget H m' = some d' /\ d'.fp ρ m' k
theorem Opn.refl (H : Hp AV) : Opn N H H := fun ρ _ h => ⟨ρ, h, fun _ _ => rfl, fun m d k h h' => ⟨m, d, h, h'⟩⟩
theorem Fld.refl (H : Hp AV) : Fld N H H := fun ρ _ h => ⟨ρ, h, fun _ _ _ => rfl, fun m d k h h' => ⟨m, d, h, h'⟩⟩
theorem Opn.trans {A B C : Hp AV} (h1 : Opn N A B) (h2 : Opn N B C) (hl : A.length <= B.length) : Opn N A C := fun ρ w h => by
 obtain ⟨ρ1, o1, l1, f1⟩ := h1 ρ w h
 obtain ⟨ρ2, o2, l2, f2⟩ := h2 ρ1 w o1
 refine ⟨ρ2, o2, fun m hm => (l2 m (by omega)).trans (l1 m hm), fun m d k hd hk => ?_⟩
 obtain ⟨m', d', hd', hk'⟩ := f2 m d k hd hk
 exact f1 m' d' k hd' hk'
theorem Fld.trans {A B C : Hp AV} (h1 : Fld N A B) (h2 : Fld N B C) (hp' : ∀ m c, hget A m = some c -> ∃ c', hget B m = some c') : Fld N A C := fun ρ w h => by
 obtain ⟨ρ1, o1, l1, f1⟩ := h1 ρ w h
 obtain ⟨ρ2, o2, l2, f2⟩ := h2 ρ1 w o1
 refine ⟨ρ2, o2, fun m c hm => ?_, fun m d k hd hk => ?_⟩
 ·obtain ⟨c', hc'⟩ := hp' m c hm
  exact (l2 m c' hc').trans (l1 m c hm)
 ·obtain ⟨m', d', hd', hk'⟩ := f2 m d k hd hk
  exact f1 m' d' k hd' hk'
theorem ctr_args {f : FuncId} {args args' : List SV} {H R : Hp AV} {v : SV} (hc : Ctr P N f args H v R) (h : ∀ ρ, args'.map (SV.den ρ) = args.map (SV.den ρ)) : Ctr P N f args' H v R :=
 ⟨hc.1, hc.2.1, fun ρ w hO => by rw [h ρ]; exact hc.2.2 ρ w hO⟩
theorem ctr_val {f : FuncId} {args : List SV} {H R : Hp AV} {v v' : SV} (hc : Ctr P N f args H v R) (hcl : ClV R v') (h : ∀ ρ, v'.den ρ = v.den ρ) : Ctr P N f args H v' R :=
 ⟨hcl, hc.2.1, fun ρ w hO => (hc.2.2 ρ w hO).mono fun e w' ⟨ρ', he, h1, h2⟩ => ⟨ρ', by rw [h ρ']; exact he, h1, h2⟩⟩
end Go.Sx

namespace Go.Sx
set_option linter.unusedVariables false
variable {AV : Type} {P : Program} {N : Env AV}
theorem ren_ren (π σ : Nat -> Nat) : ∀ c : Cell, (c.ren σ).ren π = c.ren (fun n => π (σ n))
 | .ifc t c => by simp only [Cell.ren]; rw [ren_ren π σ c]
 | .ptr _ _ => rfl
 | .vel _ _ _ _ => rfl
 | .sl _ _ _ _ => rfl
 | .vs _ _ _ _ _ => rfl
 | .sf _ _ _ _ _ _ => rfl
 | .bl _ => rfl
 | .bt _ => rfl
 | .il _ _ => rfl
 | .it _ _ => rfl
 | .iv _ _ _ _ => rfl
 | .ir _ _ _ _ _ => rfl
 | .st _ => rfl
 | .sv _ => rfl
 | .pnil => rfl
 | .snil => rfl
 | .sx _ _ => rfl
 | .inil => rfl
 | .fn _ => rfl
 | .nfn => rfl
 | .op _ _ => rfl
 | .mp none => rfl
 | .mp (some _) => rfl
theorem ren_id {π : Nat -> Nat} : ∀ c : Cell, (∀ n, c.name = some n -> π n = n) -> c.ren π = c
 | .ifc t c, h => by simp only [Cell.ren]; rw [ren_id c h]
 | .ptr n _, h => by simp only [Cell.ren]; rw [h n rfl]
 | .vel n _ _ _, h => by simp only [Cell.ren]; rw [h n rfl]
 | .sl n _ _ _, h => by simp only [Cell.ren]; rw [h n rfl]
 | .vs n _ _ _ _, h => by simp only [Cell.ren]; rw [h n rfl]
 | .sf n _ _ _ _ _, h => by simp only [Cell.ren]; rw [h n rfl]
 | .bl _, h => rfl
 | .bt _, h => rfl
 | .il _ _, h => rfl
 | .it _ _, h => rfl
 | .iv _ _ _ _, h => rfl
 | .ir _ _ _ _ _, h => rfl
 | .st _, h => rfl
 | .sv _, h => rfl
 | .pnil, h => rfl
 | .snil, h => rfl
 | .sx _ _, h => rfl
 | .inil, h => rfl
 | .fn _, h => rfl
 | .nfn, h => rfl
 | .op _ _, h => rfl
 | .mp none, h => rfl
 | .mp (some n), h => by simp only [Cell.ren, Option.map_some]; rw [h n rfl]
theorem mem_nmL {l : List Cell} {n : Nat} : n ∈ namesL l ↔ ∃ c ∈ l, c.name = some n := by
 induction l with
 | nil => simp [namesL]
 | cons c r ih =>
   simp only [namesL]
   cases h : c.name with
   | none => simp [ih, h]
   | some m => simp [ih, h, eq_comm]
theorem v1_ren_id {π σ : Nat -> Nat} {x : V1} (h : ∀ n ∈ namesL x.cells, π (σ n) = n) : (x.ren σ).ren π = x := by
 have one : ∀ l : List Cell, (∀ n ∈ namesL l, π (σ n) = n) -> (l.map (Cell.ren σ)).map (Cell.ren π) = l := fun l hl => by
  rw [List.map_map]
  conv => rhs; rw [<- List.map_id l]
  refine List.map_congr_left fun c hc => ?_
  show (c.ren σ).ren π = c
  rw [ren_ren]
  exact ren_id c fun n hn => hl n (mem_nmL.2 ⟨c, hc, hn⟩)
 cases x with
 | c c =>
   show V1.c ((c.ren σ).ren π) = _
   rw [ren_ren, ren_id c fun n hn => h n (mem_nmL.2 ⟨c, List.mem_singleton.2 rfl, hn⟩)]
 | agg l => exact congrArg V1.agg (one l h)
theorem mem_namesV1s {l : List V1} {n : Nat} : n ∈ namesV1s l ↔ ∃ x ∈ l, n ∈ namesL x.cells := by
 induction l with
 | nil => simp [namesV1s]
 | cons x r ih => simp [namesV1s, ih]
theorem sv_ren_id {π σ : Nat -> Nat} {x : SV} (h : ∀ n ∈ namesV x, π (σ n) = n) : (x.ren σ).ren π = x := by
 cases x with
 | v x => exact congrArg SV.v (v1_ren_id h)
 | clo f l =>
   refine congrArg (SV.clo f) ?_
   rw [List.map_map]
   conv => rhs; rw [<- List.map_id l]
   refine List.map_congr_left fun c hc => ?_
   show (c.ren σ).ren π = c
   rw [ren_ren]
   exact ren_id c fun n hn => h n (mem_nmL.2 ⟨c, hc, hn⟩)
 | tup l =>
   refine congrArg SV.tup ?_
   rw [List.map_map]
   conv => rhs; rw [<- List.map_id l]
   exact List.map_congr_left fun x hx => v1_ren_id fun n hn => h n (mem_namesV1s.2 ⟨x, hx, hn⟩)
 | unk => rfl
theorem mem_namesVs {l : List SV} {n : Nat} : n ∈ namesVs l ↔ ∃ x ∈ l, n ∈ namesV x := by
 induction l with
 | nil => simp [namesVs]
 | cons x r ih => simp [namesVs, ih]
def uniq : List Nat -> List Nat -> List Nat
 | acc, [] => acc
 | acc, x :: r => match hasN acc x with | true => uniq acc r | false => uniq (acc ++ [x]) r
theorem uniq_spec : ∀ (l acc : List Nat), acc.Nodup -> (uniq acc l).Nodup /\ ∀ n, n ∈ uniq acc l ↔ n ∈ acc \/ n ∈ l
 | [], acc, h => ⟨h, fun n => by simp [uniq]⟩
 | x :: r, acc, h => by
   simp only [uniq]
   split
   ·rename_i hx
    have hx := (hasN_iff _ _).1 hx
    obtain ⟨h1, h2⟩ := uniq_spec r acc h
    refine ⟨h1, fun n => ?_⟩
    rw [h2, List.mem_cons]
    constructor
    ·rintro (h | h)
     ·exact .inl h
     ·exact .inr (.inr h)
    ·rintro (h | rfl | h)
     ·exact .inl h
     ·exact .inl hx
     ·exact .inr h
   ·rename_i hx
    have hx : x ∉ acc := fun e => by rw [(hasN_iff _ _).2 e] at hx; cases hx
    obtain ⟨h1, h2⟩ := uniq_spec r (acc ++ [x]) (by
     rw [List.nodup_append]
     refine ⟨h, by simp, ?_⟩
     intro a ha b hb e
     rw [List.mem_singleton.1 hb] at e
     exact hx (e ▸ ha))
    refine ⟨h1, fun n => ?_⟩
    rw [h2]
    simp [or_assoc]
def idxN : List Nat -> Nat -> Nat
 | [], _ => 0
 | x :: r, n => match Nat.beq x n with | true => 0 | false => idxN r n + 1
theorem idxN_get : ∀ {l : List Nat} {n : Nat}, n ∈ l -> l[idxN l n]? = some n
 | [], n, h => by cases h
 | x :: r, n, h => by
   simp only [idxN]
   cases e : Nat.beq x n with
   | true => simp [(beq_iff _ _).1 e]
   | false =>
     have := (beq_false_iff _ _).1 e
     simp only [List.getElem?_cons_succ]
     rcases List.mem_cons.1 h with rfl | h
     ·exact absurd rfl this
     ·exact idxN_get h
theorem nodup_get : ∀ {l : List Nat}, l.Nodup -> ∀ {i j n : Nat}, l[i]? = some n -> l[j]? = some n -> i = j
 | [], _, i, j, n, h, _ => by simp at h
 | x :: r, hd, i, j, n, h1, h2 => by
   obtain ⟨hx, hr⟩ := List.nodup_cons.1 hd
   cases i with
   | zero =>
     simp only [List.getElem?_cons_zero, Option.some.injEq] at h1
     subst h1
     cases j with
     | zero => rfl
     | succ j => exact absurd (List.mem_of_getElem? (by simpa using h2)) hx
   | succ i =>
     simp only [List.getElem?_cons_succ] at h1
     cases j with
     | zero =>
       simp only [List.getElem?_cons_zero, Option.some.injEq] at h2
       subst h2
       exact absurd (List.mem_of_getElem? h1) hx
     | succ j => exact congrArg (· + 1) (nodup_get hr h1 (by simpa using h2))
def absAll (H : Hp AV) : List Nat -> Option (List AV)
 | [] => some []
 | n :: r => match hget H n with
   | some (.abs a) => match absAll H r with | some l => some (a :: l) | none => none
   | _ => none
def sentL (sn : Nat -> AV) : Nat -> List Bool -> Hp AV
 | _, [] => []
 | i, b :: r => (match b with | true => some (.abs (sn i)) | false => none) :: sentL sn (i + 1) r
theorem sentL_len (sn : Nat -> AV) : ∀ (M : List Bool) (i : Nat), (sentL sn i M).length = M.length
 | [], i => rfl
 | b :: r, i => congrArg (· + 1) (sentL_len sn r (i + 1))
theorem sentL_get (sn : Nat -> AV) : ∀ (M : List Bool) (i n : Nat) (c : Chunk AV), hget (sentL sn i M) n = some c ↔ M[n]? = some true /\ c = .abs (sn (i + n))
 | [], i, n, c => by cases n <;> simp [sentL, hget]
 | b :: r, i, 0, c => by cases b <;> simp [sentL, hget, eq_comm]
 | b :: r, i, n + 1, c => by
   simp only [sentL, hget, List.getElem?_cons_succ]
   rw [sentL_get sn r (i + 1) n c, show i + 1 + n = i + (n + 1) by omega]
def absL (l : List AV) : Hp AV := l.map fun a => some (.abs a)
theorem absL_get (l : List AV) (n : Nat) (c : Chunk AV) : hget (absL l) n = some c ↔ ∃ a, l[n]? = some a /\ c = .abs a := by
 induction l generalizing n with
 | nil => cases n <;> simp [absL, hget]
 | cons a r ih =>
   cases n with
   | zero => simp [absL, hget, eq_comm]
   | succ n => exact ih n
def globsB (isS : AV -> Nat -> Bool) : Nat -> List Bool -> Hp AV -> Bool
 | _, [], _ => true
 | i, b :: m, x :: r => match b with
   | false => globsB isS (i + 1) m r
   | true => match x with
     | some (.abs a) => match isS a i with | true => globsB isS (i + 1) m r | false => false
     | _ => false
 | _, _ :: _, [] => false
theorem globsB_spec {isS : AV -> Nat -> Bool} {sn : Nat -> AV} (hs : ∀ a i, isS a i = true -> a = sn i) : ∀ {M : List Bool} {i : Nat} {H : Hp AV}, globsB isS i M H = true -> M.length <= H.length /\ ∀ n, M[n]? = some true -> hget H n = some (.abs (sn (i + n)))
 | [], i, H, h => ⟨by simp, fun n h => by simp at h⟩
 | b :: m, i, [], h => by simp [globsB] at h
 | b :: m, i, x :: r, h => by
   have go : ∀ (h' : globsB isS (i + 1) m r = true) (h0 : b = true -> x = some (.abs (sn i))), (b :: m).length <= (x :: r).length /\ ∀ n, (b :: m)[n]? = some true -> hget (x :: r) n = some (.abs (sn (i + n))) := fun h' h0 => by
    obtain ⟨h1, h2⟩ := globsB_spec hs h'
    refine ⟨by simpa using h1, fun n hn => ?_⟩
    cases n with
    | zero =>
      simp only [List.getElem?_cons_zero, Option.some.injEq] at hn
      exact h0 hn
    | succ n =>
      simp only [List.getElem?_cons_succ] at hn
      have := h2 n hn
      rw [show i + 1 + n = i + (n + 1) by omega] at this
      exact this
   cases b with
   | false => exact go (by simpa [globsB] using h) (fun e => by cases e)
   | true =>
     simp only [globsB] at h
     split at h
     ·split at h
      ·rename_i ha
       exact go h (fun _ => by rw [hs _ i ha])
      ·cases h
     ·cases h
def allGe (G : Nat) : List Nat -> Bool
 | [] => true
 | n :: r => match Nat.ble G n with | true => allGe G r | false => false
theorem allGe_spec {G : Nat} : ∀ {l : List Nat}, allGe G l = true -> ∀ n ∈ l, G <= n
 | [], _, n, h => by cases h
 | x :: r, h, n, hn => by
   simp only [allGe] at h
   split at h
   ·rename_i hx
    rcases List.mem_cons.1 hn with rfl | hn
    ·exact Nat.le_of_ble_eq_true hx
    ·exact allGe_spec h n hn
   ·cases h
def outN (G : Nat) (ns : List Nat) (L i : Nat) : Nat := match Nat.blt i G with
 | true => i
 | false => match nth ns (i - G) with
   | some n => n
   | none => L + (i - G - ns.length)
theorem outN_lt {G : Nat} {ns : List Nat} {L i : Nat} (h : i < G) : outN G ns L i = i := by
 unfold outN
 have e : Nat.blt i G = true := by simpa [Nat.blt_eq] using h
 rw [e]
theorem outN_in {G : Nat} {ns : List Nat} {L j n : Nat} (h : ns[j]? = some n) : outN G ns L (G + j) = n := by
 unfold outN
 have e : Nat.blt (G + j) G = false := by
  cases e : Nat.blt (G + j) G with
  | false => rfl
  | true => rw [Nat.blt_eq] at e; omega
 rw [e, Nat.add_sub_cancel_left, nth_eq, h]
theorem outN_new {G : Nat} {ns : List Nat} {L j : Nat} : outN G ns L (G + ns.length + j) = L + j := by
 unfold outN
 have e : Nat.blt (G + ns.length + j) G = false := by
  cases e : Nat.blt (G + ns.length + j) G with
  | false => rfl
  | true => rw [Nat.blt_eq] at e; omega
 have e2 : nth ns (G + ns.length + j - G) = none := by
  rw [nth_eq, List.getElem?_eq_none]; omega
 rw [e]
 simp only [e2]
 omega
end Go.Sx

namespace Go.Sx
set_option linter.unusedVariables false
variable {AV : Type} {P : Program} {N : Env AV}
def Fl (N : Env AV) (H R : Hp AV) : Prop := ∀ (ρ : Nm) (w : World), Own N ρ H w -> ∃ ρ1, Own N ρ1 R w /\ (∀ m, ρ1.L m = ρ.L m) /\ ∀ m d k, hget R m = some d -> d.fp ρ1 m k -> ∃ m' d', hget H m' = some d' /\ d'.fp ρ m' k
theorem Fl.refl (H : Hp AV) : Fl N H H := fun ρ _ h => ⟨ρ, h, fun _ => rfl, fun m d k h h' => ⟨m, d, h, h'⟩⟩
theorem Fl.trans {A B C : Hp AV} (h1 : Fl N A B) (h2 : Fl N B C) : Fl N A C := fun ρ w h => by
 obtain ⟨ρ1, o1, l1, f1⟩ := h1 ρ w h
 obtain ⟨ρ2, o2, l2, f2⟩ := h2 ρ1 w o1
 refine ⟨ρ2, o2, fun m => (l2 m).trans (l1 m), fun m d k hd hk => ?_⟩
 obtain ⟨m', d', hd', hk'⟩ := f2 m d k hd hk
 exact f1 m' d' k hd' hk'
end Go.Sx

namespace Go.Sx
set_option linter.unusedVariables false
variable {AV : Type} {P : Program} {N : Env AV}
end Go.Sx

namespace Go.Sx
set_option linter.unusedVariables false
variable {AV : Type} {P : Program} {N : Env AV}
end Go.Sx

namespace Go.Sx
set_option linter.unusedVariables false
variable {AV : Type} {P : Program} {N : Env AV}
inductive GC (AV : Type) where
 | p (c : Cell) | s (a : AV) (len es : Nat) | r (a : AV) | i (t : TypeId) (a : AV)
end Go.Sx

namespace Go.Sx
set_option linter.unusedVariables false
def iOf : Cell -> Option Int
 | .il .i64 n => some n
 | .it .i64 n => some n
 | .iv .i64 n _ _ => some n
 | .ir .i64 n _ _ _ => some n
 | _ => none
def bOf : Cell -> Option Bool
 | .bl b => some b
 | .bt b => some b
 | _ => none
theorem iOf_spec {c : Cell} {n : Int} (h : iOf c = some n) : c.den Nm.id = .int .i64 n /\ c.name = none := by
 unfold iOf at h
 split at h <;> cases h <;> exact ⟨rfl, rfl⟩
theorem bOf_spec {c : Cell} {n : Bool} (h : bOf c = some n) : c.den Nm.id = .bool n /\ c.name = none := by
 unfold bOf at h
 split at h <;> cases h <;> exact ⟨rfl, rfl⟩
def sOf (c : Cell) : Option ByteArray := match strC c with
 | some (s, _) => some s
 | none => none
theorem sOf_spec {c : Cell} {s : ByteArray} (h : sOf c = some s) : c.den Nm.id = .string s /\ c.name = none := by
 unfold sOf at h
 split at h
 ·rename_i s' b hc
  cases h
  refine ⟨strC_den Nm.id hc, ?_⟩
  unfold strC at hc
  split at hc <;> cases hc <;> rfl
 ·cases h
structure N1 where
 val : Int
deriving DecidableEq, Inhabited
def N1.enc (a : N1) : List Cell := [.it .i64 a.val]
def N1.dec : List Cell -> Option N1
 | [c0] => (iOf c0).bind fun x0 => some ⟨x0⟩
 | _ => none
theorem N1.dec_ok (cs : List Cell) (a : N1) (h : N1.dec cs = some a) : denL Nm.id a.enc = denL Nm.id cs /\ ∀ c ∈ cs, c.name = none := by
 unfold N1.dec at h
 split at h
 ·rename_i c0
  obtain ⟨x0, h0, h⟩ := Option.bind_eq_some_iff.1 h
  have h0 := iOf_spec h0
  cases h
  refine ⟨by simp [N1.enc, denL, Cell.den, h0.1], fun c hc => ?_⟩
  simp only [List.mem_cons, List.not_mem_nil, or_false] at hc
  subst hc
  exact h0.2
 ·cases h
def N1.ak (ty : TypeId) : AK N1 := ⟨1, by decide, ty, N1.enc, fun _ => rfl, fun a c hc => (by simp only [N1.enc, List.mem_cons, List.not_mem_nil, or_false] at hc; subst hc; rfl), N1.dec, N1.dec_ok, ⟨0⟩⟩
structure Tx where
 val : ByteArray
deriving Inhabited
def Tx.enc (a : Tx) : List Cell := [.sv a.val]
def Tx.dec : List Cell -> Option Tx
 | [c0] => (sOf c0).bind fun x0 => some ⟨x0⟩
 | _ => none
theorem Tx.dec_ok (cs : List Cell) (a : Tx) (h : Tx.dec cs = some a) : denL Nm.id a.enc = denL Nm.id cs /\ ∀ c ∈ cs, c.name = none := by
 unfold Tx.dec at h
 split at h
 ·rename_i c0
  obtain ⟨x0, h0, h⟩ := Option.bind_eq_some_iff.1 h
  have h0 := sOf_spec h0
  cases h
  refine ⟨by simp [Tx.enc, denL, Cell.den, h0.1], fun c hc => ?_⟩
  simp only [List.mem_cons, List.not_mem_nil, or_false] at hc
  subst hc
  exact h0.2
 ·cases h
def Tx.ak (ty : TypeId) : AK Tx := ⟨1, by decide, ty, Tx.enc, fun _ => rfl, fun a c hc => (by simp only [Tx.enc, List.mem_cons, List.not_mem_nil, or_false] at hc; subst hc; rfl), Tx.dec, Tx.dec_ok, ⟨.empty⟩⟩
structure Rw where
 thread : Int
 kind : Int
 key : Int
 val : Int
 tall : Int
 code : Int
 aval : Int
 frm : Int
 till : Int
 fin : Bool
deriving DecidableEq, Inhabited
def Rw.enc (a : Rw) : List Cell := [.it .i64 a.thread, .it .i64 a.kind, .it .i64 a.key, .it .i64 a.val, .it .i64 a.tall, .it .i64 a.code, .it .i64 a.aval, .it .i64 a.frm, .it .i64 a.till, .bt a.fin]
def Rw.dec : List Cell -> Option Rw
 | [c0, c1, c2, c3, c4, c5, c6, c7, c8, c9] => (iOf c0).bind fun x0 => (iOf c1).bind fun x1 => (iOf c2).bind fun x2 => (iOf c3).bind fun x3 => (iOf c4).bind fun x4 => (iOf c5).bind fun x5 => (iOf c6).bind fun x6 => (iOf c7).bind fun x7 => (iOf c8).bind fun x8 => (bOf c9).bind fun x9 => some ⟨x0, x1, x2, x3, x4, x5, x6, x7, x8, x9⟩
 | _ => none
theorem Rw.dec_ok (cs : List Cell) (a : Rw) (h : Rw.dec cs = some a) : denL Nm.id a.enc = denL Nm.id cs /\ ∀ c ∈ cs, c.name = none := by
 unfold Rw.dec at h
 split at h
 ·rename_i c0 c1 c2 c3 c4 c5 c6 c7 c8 c9
  obtain ⟨x0, h0, h⟩ := Option.bind_eq_some_iff.1 h
  have h0 := iOf_spec h0
  obtain ⟨x1, h1, h⟩ := Option.bind_eq_some_iff.1 h
  have h1 := iOf_spec h1
  obtain ⟨x2, h2, h⟩ := Option.bind_eq_some_iff.1 h
  have h2 := iOf_spec h2
  obtain ⟨x3, h3, h⟩ := Option.bind_eq_some_iff.1 h
  have h3 := iOf_spec h3
  obtain ⟨x4, h4, h⟩ := Option.bind_eq_some_iff.1 h
  have h4 := iOf_spec h4
  obtain ⟨x5, h5, h⟩ := Option.bind_eq_some_iff.1 h
  have h5 := iOf_spec h5
  obtain ⟨x6, h6, h⟩ := Option.bind_eq_some_iff.1 h
  have h6 := iOf_spec h6
  obtain ⟨x7, h7, h⟩ := Option.bind_eq_some_iff.1 h
  have h7 := iOf_spec h7
  obtain ⟨x8, h8, h⟩ := Option.bind_eq_some_iff.1 h
  have h8 := iOf_spec h8
  obtain ⟨x9, h9, h⟩ := Option.bind_eq_some_iff.1 h
  have h9 := bOf_spec h9
  cases h
  refine ⟨by simp [Rw.enc, denL, Cell.den, h0.1, h1.1, h2.1, h3.1, h4.1, h5.1, h6.1, h7.1, h8.1, h9.1], fun c hc => ?_⟩
  simp only [List.mem_cons, List.not_mem_nil, or_false] at hc
  rcases hc with rfl | rfl | rfl | rfl | rfl | rfl | rfl | rfl | rfl | rfl
  ·exact h0.2
  ·exact h1.2
  ·exact h2.2
  ·exact h3.2
  ·exact h4.2
  ·exact h5.2
  ·exact h6.2
  ·exact h7.2
  ·exact h8.2
  ·exact h9.2
 ·cases h
def Rw.ak (ty : TypeId) : AK Rw := ⟨10, by decide, ty, Rw.enc, fun _ => rfl, fun a c hc => (by simp only [Rw.enc, List.mem_cons, List.not_mem_nil, or_false] at hc; rcases hc with rfl | rfl | rfl | rfl | rfl | rfl | rfl | rfl | rfl | rfl <;> rfl), Rw.dec, Rw.dec_ok, ⟨0, 0, 0, 0, 0, 0, 0, 0, 0, false⟩⟩
structure Pr where
 key : Int
 val : Int
deriving DecidableEq, Inhabited
def Pr.enc (a : Pr) : List Cell := [.it .i64 a.key, .it .i64 a.val]
def Pr.dec : List Cell -> Option Pr
 | [c0, c1] => (iOf c0).bind fun x0 => (iOf c1).bind fun x1 => some ⟨x0, x1⟩
 | _ => none
theorem Pr.dec_ok (cs : List Cell) (a : Pr) (h : Pr.dec cs = some a) : denL Nm.id a.enc = denL Nm.id cs /\ ∀ c ∈ cs, c.name = none := by
 unfold Pr.dec at h
 split at h
 ·rename_i c0 c1
  obtain ⟨x0, h0, h⟩ := Option.bind_eq_some_iff.1 h
  have h0 := iOf_spec h0
  obtain ⟨x1, h1, h⟩ := Option.bind_eq_some_iff.1 h
  have h1 := iOf_spec h1
  cases h
  refine ⟨by simp [Pr.enc, denL, Cell.den, h0.1, h1.1], fun c hc => ?_⟩
  simp only [List.mem_cons, List.not_mem_nil, or_false] at hc
  rcases hc with rfl | rfl
  ·exact h0.2
  ·exact h1.2
 ·cases h
def Pr.ak (ty : TypeId) : AK Pr := ⟨2, by decide, ty, Pr.enc, fun _ => rfl, fun a c hc => (by simp only [Pr.enc, List.mem_cons, List.not_mem_nil, or_false] at hc; rcases hc with rfl | rfl <;> rfl), Pr.dec, Pr.dec_ok, ⟨0, 0⟩⟩
end Go.Sx
