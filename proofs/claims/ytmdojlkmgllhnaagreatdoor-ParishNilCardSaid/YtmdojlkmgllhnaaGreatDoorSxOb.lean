/- Objects of many blocks: names are changed for others; an object is opened to its blocks, and closed again; what was shown of a small heap holds of a part of a greater one. -/
import Derived.Test.YtmdojlkmgllhnaaGreatDoorSxN
namespace Go.Sx
variable {AV : Type} {P : Program} {N : Env AV}
/-- other names -/
def Cell.ren (π : Nat → Nat) : Cell → Cell
  | .ptr n o => .ptr (π n) o
  | .vel n i e o => .vel (π n) i e o
  | .sl n o len cap => .sl (π n) o len cap
  | .vs n o len es kn => .vs (π n) o len es kn
  | .sf n o es z f h => .sf (π n) o es z f h
  | .ifc t c => .ifc t (c.ren π)
  | c => c
def Chunk.ren (π : Nat → Nat) : Chunk AV → Chunk AV
  | .cells l ty => .cells (l.map (Cell.ren π)) ty
  | .vec l es ty => .vec (l.map (Cell.ren π)) es ty
  | .dead => .dead
  | .abs a => .abs a
def V1.ren (π : Nat → Nat) : V1 → V1
  | .c x => .c (x.ren π)
  | .agg l => .agg (l.map (Cell.ren π))
def SV.ren (π : Nat → Nat) : SV → SV
  | .v x => .v (x.ren π)
  | .tup l => .tup (l.map (V1.ren π))
  | .unk => .unk
def Nm.ren (ρ : Nm) (π : Nat → Nat) : Nm := ⟨fun n => ρ.L (π n), fun n => ρ.S (π n)⟩
theorem den_ren (ρ : Nm) (π : Nat → Nat) : ∀ c : Cell, (c.ren π).den ρ = c.den (ρ.ren π)
  | .ptr _ _ => rfl
  | .vel _ _ _ _ => rfl
  | .sl _ _ _ _ => rfl
  | .vs _ _ _ _ _ => rfl
  | .sf _ _ _ _ _ _ => rfl
  | .ifc t c => by simp only [Cell.ren, Cell.den]; rw [den_ren ρ π c]
  | .bl _ => rfl
  | .bt _ => rfl
  | .il _ _ => rfl
  | .it _ _ => rfl
  | .iv _ _ _ _ => rfl
  | .ir _ _ _ _ _ => rfl
  | .st _ => rfl
  | .pnil => rfl
  | .snil => rfl
  | .sx _ _ => rfl
  | .inil => rfl
  | .fn _ => rfl
  | .nfn => rfl
  | .op _ _ => rfl
  | .mp _ => rfl
theorem name_ren (π : Nat → Nat) : ∀ c : Cell, (c.ren π).name = c.name.map π
  | .ptr _ _ => rfl
  | .vel _ _ _ _ => rfl
  | .sl _ _ _ _ => rfl
  | .vs _ _ _ _ _ => rfl
  | .sf _ _ _ _ _ _ => rfl
  | .ifc t c => by simp only [Cell.ren, Cell.name]; rw [name_ren π c]
  | .bl _ => rfl
  | .bt _ => rfl
  | .il _ _ => rfl
  | .it _ _ => rfl
  | .iv _ _ _ _ => rfl
  | .ir _ _ _ _ _ => rfl
  | .st _ => rfl
  | .pnil => rfl
  | .snil => rfl
  | .sx _ _ => rfl
  | .inil => rfl
  | .fn _ => rfl
  | .nfn => rfl
  | .op _ _ => rfl
  | .mp _ => rfl
theorem denL_ren (ρ : Nm) (π : Nat → Nat) (l : List Cell) : denL ρ (l.map (Cell.ren π)) = denL (ρ.ren π) l := by
  simp only [denL, List.map_map]
  exact List.map_congr_left fun c _ => den_ren ρ π c
theorem V1.den_ren (ρ : Nm) (π : Nat → Nat) (x : V1) : (x.ren π).den ρ = x.den (ρ.ren π) := by
  cases x with
  | c x => exact Sx.den_ren ρ π x
  | agg l => simp only [V1.ren, V1.den, denL_ren]
theorem SV.den_ren (ρ : Nm) (π : Nat → Nat) (x : SV) : (x.ren π).den ρ = x.den (ρ.ren π) := by
  cases x with
  | v x => exact V1.den_ren ρ π x
  | tup l =>
    simp only [SV.ren, SV.den, List.map_map]
    congr 2
    exact List.map_congr_left fun y _ => V1.den_ren ρ π y
  | unk => rfl
theorem q_ren {ρ : Nm} {π : Nat → Nat} {n : Nat} {c : Chunk AV} {w : World} : (c.ren π).q N ρ (π n) w ↔ c.q N (ρ.ren π) n w := by
  cases c with
  | cells l ty => simp only [Chunk.ren, Chunk.q, denL_ren]; rfl
  | vec l es ty => simp only [Chunk.ren, Chunk.q, denL_ren]; rfl
  | dead => rfl
  | abs a => rfl
theorem fp_ren {ρ : Nm} {π : Nat → Nat} {n : Nat} {c : Chunk AV} : (c.ren π).fp ρ (π n) = c.fp (ρ.ren π) n := by
  cases c <;> rfl
theorem cellsOf_ren (π : Nat → Nat) (c : Chunk AV) : (c.ren π).cellsOf = c.cellsOf.map (Cell.ren π) := by cases c <;> rfl

/-- the blocks of a row of things -/
def fpH (ρ : Nm) (K : Hp AV) (k : Nat) : Prop := ∃ i c, hget K i = some c ∧ c.fp ρ i k
/-- a world holds a row of things -/
structure OwnL (N : Env AV) (ρ : Nm) (H : Hp AV) (w : World) : Prop where
  q : ∀ n c, hget H n = some c → c.q N ρ n w
  dis : ∀ n m c d, n ≠ m → hget H n = some c → hget H m = some d → ∀ k, c.fp ρ n k → d.fp ρ m k → False
theorem Own.toL {ρ : Nm} {H : Hp AV} {w : World} (h : Own N ρ H w) : OwnL N ρ H w := ⟨h.q, h.dis⟩
theorem OwnL.sub {ρ : Nm} {H : Hp AV} {w : World} (h : OwnL N ρ H w) {K : Hp AV} {π : Nat → Nat} (hK : ∀ i c, hget K i = some c → hget H (π i) = some (c.ren π)) (inj : ∀ i j c d, hget K i = some c → hget K j = some d → π i = π j → i = j) : OwnL N (ρ.ren π) K w := by
  refine ⟨fun i c hc => q_ren.1 (h.q _ _ (hK i c hc)), fun i j c d hij hc hd k hk hk' => ?_⟩
  rw [← fp_ren] at hk hk'
  exact h.dis (π i) (π j) _ _ (fun e => hij (inj i j c d hc hd e)) (hK i c hc) (hK j d hd) k hk hk'
/-- an object lies at l, its blocks as a row of things says -/
def objQ (N : Env AV) (K : Hp AV) (l : Loc) (S : Nat → Prop) (w : World) : Prop := ∃ ρ : Nm, ρ.L 0 = l ∧ OwnL N ρ K w ∧ ∀ k, S k ↔ fpH ρ K k

/-- what is asked of a step of a summary -/
def Ctr (P : Program) (N : Env AV) (f : FuncId) (args : List SV) (H : Hp AV) (v : SV) (H' : Hp AV) : Prop :=
  ClV H' v ∧ ClHp N H' ∧ ∀ (ρ : Nm) (w : World), Own N ρ H w →
    Calls P f (args.map (SV.den ρ)).toArray w fun e w' => ∃ ρ', e = .returned (v.den ρ') ∧ Own N ρ' H' w' ∧ Evo N H.length ρ H w ρ' H' w'
theorem FnOk.ctr {f : FuncId} {g : List SV → Hp AV → T (SV × Hp AV)} (h : FnOk P N f g) {args : List SV} {H : Hp AV} {v : SV} {H' : Hp AV} (hr : (g args H).val = some (v, H')) (ha : ∀ x ∈ args, ClV H x) (hC : ClHp N H) : Ctr P N f args H v H' :=
  h args H v H' hr ha hC
theorem FnOk.of {f : FuncId} {g : List SV → Hp AV → T (SV × Hp AV)} (h : ∀ args H v H', (g args H).val = some (v, H') → (∀ x ∈ args, ClV H x) → ClHp N H → Ctr P N f args H v H') : FnOk P N f g := h

section opening
/-- the names of an object's blocks, where it is opened: the first one stays -/
def opn (n L i : Nat) : Nat := match i with
  | 0 => n
  | i + 1 => L + i
def renO (π : Nat → Nat) : Option (Chunk AV) → Option (Chunk AV)
  | some c => some (c.ren π)
  | none => none
/-- the object at n opened to its blocks -/
def openH (H : Hp AV) (n : Nat) : Hp AV → Hp AV
  | [] => H
  | k :: r => lset H n (renO (opn n H.length) k) ++ r.map (renO (opn n H.length))
theorem hget_map (π : Nat → Nat) : ∀ (r : Hp AV) (i : Nat), hget (r.map (renO π)) i = renO π (hget r i)
  | [], i => by cases i <;> rfl
  | x :: r, 0 => rfl
  | x :: r, i + 1 => hget_map π r i
theorem hget_append : ∀ (A B : Hp AV) (i : Nat), hget (A ++ B) i = if i < A.length then hget A i else hget B (i - A.length)
  | [], B, i => by simp
  | x :: r, B, 0 => by simp [hget]
  | x :: r, B, i + 1 => by
    simp only [List.cons_append, hget, hget_append r B i, List.length_cons, Nat.add_lt_add_iff_right, Nat.add_sub_add_right]
theorem lset_none (H : Hp AV) {n : Nat} (h : n < H.length) (x : Option (Chunk AV)) : hget (lset H n x) n = x := by
  cases x with
  | some c => exact hget_lset_self c h
  | none => simp [hget_eq, lset_eq, h]
theorem hget_open {H K : Hp AV} {n : Nat} (hn : n < H.length) (hK : K ≠ []) (m : Nat) : hget (openH H n K) m = if m = n then renO (opn n H.length) (hget K 0) else if m < H.length then hget H m else renO (opn n H.length) (hget K (m - H.length + 1)) := by
  cases K with
  | nil => exact absurd rfl hK
  | cons k r =>
    simp only [openH]
    rw [hget_append, length_lset]
    by_cases h1 : m = n
    · subst h1
      rw [if_pos hn, if_pos rfl, lset_none H hn]
      rfl
    · rw [if_neg h1]
      by_cases h2 : m < H.length
      · rw [if_pos h2, if_pos h2, hget_lset_ne _ (Ne.symm h1)]
      · rw [if_neg h2, if_neg h2, hget_map]
        rfl
/-- a thing of the opened heap -/
theorem open_src {H K : Hp AV} {n : Nat} (hlt : n < H.length) (hKn : K ≠ []) : ∀ m c, hget (openH H n K) m = some c → (m ≠ n ∧ m < H.length ∧ hget H m = some c) ∨ ∃ i d, m = opn n H.length i ∧ hget K i = some d ∧ c = d.ren (opn n H.length) := fun m c h => by
  rw [hget_open hlt hKn] at h
  by_cases h1 : m = n
  · rw [if_pos h1] at h
    cases hk : hget K 0 with
    | none => rw [hk] at h; cases h
    | some d => rw [hk] at h; cases h; exact .inr ⟨0, d, h1, hk, rfl⟩
  · rw [if_neg h1] at h
    by_cases h2 : m < H.length
    · rw [if_pos h2] at h; exact .inl ⟨h1, h2, h⟩
    · rw [if_neg h2] at h
      cases hk : hget K (m - H.length + 1) with
      | none => rw [hk] at h; cases h
      | some d => rw [hk] at h; cases h; exact .inr ⟨m - H.length + 1, d, by show m = H.length + (m - H.length); omega, hk, rfl⟩
theorem own_open {ρ : Nm} {H K : Hp AV} {w : World} (hO : Own N ρ H w) (hC : ClHp N H) {n : Nat} {a : AV} (hn : hget H n = some (.abs a)) (hK0 : ∃ c, hget K 0 = some c) (hGn : N.G ≤ n) (hq : ∀ l S w, N.F.q a l S w → objQ N K l S w) :
    ∃ ρ', Own N ρ' (openH H n K) w ∧ (∀ m, m < H.length → ρ'.L m = ρ.L m) ∧ (∀ m, m < H.length → m ≠ n → ρ'.S m = ρ.S m) ∧ ∀ k, ρ.S n k ↔ ∃ i d, hget K i = some d ∧ (d.ren (opn n H.length)).fp ρ' (opn n H.length i) k := by
  have hlt := hget_lt hn
  have hKn : K ≠ [] := by rintro rfl; obtain ⟨c, hc⟩ := hK0; cases hc
  obtain ⟨ρ0, h0, hL, hS⟩ := hq _ _ _ (hO.q n _ hn)
  let ρ' : Nm := ⟨fun m => if m < H.length then ρ.L m else ρ0.L (m - H.length + 1), fun m => if m = n then ρ0.S 0 else if m < H.length then ρ.S m else ρ0.S (m - H.length + 1)⟩
  have eL : ∀ m, m < H.length → ρ'.L m = ρ.L m := fun m hm => if_pos hm
  have eS : ∀ m, m < H.length → m ≠ n → ρ'.S m = ρ.S m := fun m hm hne => by show (if m = n then _ else _) = _; rw [if_neg hne, if_pos hm]
  have er : ρ'.ren (opn n H.length) = ρ0 := by
    have e1 : ∀ i, ρ'.L (opn n H.length i) = ρ0.L i := fun i => by
      cases i with
      | zero => rw [show opn n H.length 0 = n from rfl, eL n hlt, h0]
      | succ i =>
        show (if H.length + i < H.length then _ else ρ0.L (H.length + i - H.length + 1)) = _
        rw [if_neg (by omega), Nat.add_sub_cancel_left]
    have e2 : ∀ i, ρ'.S (opn n H.length i) = ρ0.S i := fun i => by
      cases i with
      | zero => exact if_pos rfl
      | succ i =>
        show (if H.length + i = n then _ else if H.length + i < H.length then _ else ρ0.S (H.length + i - H.length + 1)) = _
        rw [if_neg (by omega), if_neg (by omega), Nat.add_sub_cancel_left]
    unfold Nm.ren
    rw [show (fun i => ρ'.L (opn n H.length i)) = ρ0.L from funext e1, show (fun i => ρ'.S (opn n H.length i)) = ρ0.S from funext e2]
  have src := open_src (H := H) (K := K) hlt hKn
  have fpo : ∀ i (d : Chunk AV), (d.ren (opn n H.length)).fp ρ' (opn n H.length i) = d.fp ρ0 i := fun i d => by rw [fp_ren, er]
  have fpm : ∀ m (c : Chunk AV), m < H.length → m ≠ n → c.fp ρ' m = c.fp ρ m := fun m c hm hne => fp_congr (eL m hm) (eS m hm hne)
  refine ⟨ρ', ⟨fun m c hc => ?_, fun m m' c d hne hc hd k hk hk' => ?_, fun g hg => ?_⟩, eL, eS, fun k => ?_⟩
  · rcases src m c hc with ⟨h1, h2, h3⟩ | ⟨i, d, rfl, h3, rfl⟩
    · exact q_keep (hO.q m c h3) (eL m h2) (eS m h2 h1) (denL_congr (hC.1 m c h3) fun x y hy => eL x (hget_lt hy)) (fun _ _ => rfl)
    · rw [q_ren, er]; exact hL.q i d h3
  · rcases src m c hc with ⟨h1, h2, h3⟩ | ⟨i, d', rfl, h3, rfl⟩
    · rcases src m' d hd with ⟨g1, g2, g3⟩ | ⟨j, e', rfl, g3, rfl⟩
      · rw [fpm m c h2 h1] at hk
        rw [fpm m' d g2 g1] at hk'
        exact hO.dis m m' c d hne h3 g3 k hk hk'
      · rw [fpm m c h2 h1] at hk
        rw [fpo] at hk'
        exact hO.dis m n c _ h1 h3 hn k hk ((hS k).2 ⟨j, e', g3, hk'⟩)
    · rcases src m' d hd with ⟨g1, g2, g3⟩ | ⟨j, e', rfl, g3, rfl⟩
      · rw [fpm m' d g2 g1] at hk'
        rw [fpo] at hk
        exact hO.dis m' n d _ g1 g3 hn k hk' ((hS k).2 ⟨i, d', h3, hk⟩)
      · rw [fpo] at hk hk'
        exact hL.dis i j d' e' (fun e => hne (by rw [e])) h3 g3 k hk hk'
  · have : ρ' g = ρ g := by simp only [Nm.f, eL g (by omega)]
    rw [this]; exact hO.glb g hg
  · rw [hS k]
    constructor
    · rintro ⟨i, d, h1, h2⟩
      exact ⟨i, d, h1, by rw [fpo]; exact h2⟩
    · rintro ⟨i, d, h1, h2⟩
      exact ⟨i, d, h1, by rw [fpo] at h2; exact h2⟩
/-- blocks closed to an object -/
theorem own_close {ρ : Nm} {H K : Hp AV} {w : World} (hO : Own N ρ H w) (hC : ClHp N H) {π : Nat → Nat} (hK : ∀ i c, hget K i = some c → hget H (π i) = some (c.ren π)) (inj : ∀ i j c d, hget K i = some c → hget K j = some d → π i = π j → i = j)
    {a : AV} (hq : ∀ l S w, objQ N K l S w → N.F.q a l S w) {R : Hp AV} (hR : ∀ m c, hget R m = some c → (m = π 0 ∧ c = .abs a) ∨ (m ≠ π 0 ∧ hget H m = some c ∧ ∀ i d, hget K i = some d → π i ≠ m)) :
    Own N (ρ.set (π 0) (ρ.L (π 0)) fun k => fpH (ρ.ren π) K k) R w := by
  have hL : ∀ m, (ρ.set (π 0) (ρ.L (π 0)) fun k => fpH (ρ.ren π) K k).L m = ρ.L m := fun m => by by_cases e : m = π 0 <;> simp [Nm.set, e]
  have hS0 : (ρ.set (π 0) (ρ.L (π 0)) fun k => fpH (ρ.ren π) K k).S (π 0) = fun k => fpH (ρ.ren π) K k := by simp [Nm.set]
  have hSm : ∀ m, m ≠ π 0 → (ρ.set (π 0) (ρ.L (π 0)) fun k => fpH (ρ.ren π) K k).S m = ρ.S m := fun m e => by simp [Nm.set, e]
  have apart : ∀ m (c : Chunk AV) k, hget H m = some c → (∀ i d, hget K i = some d → π i ≠ m) → c.fp ρ m k → fpH (ρ.ren π) K k → False := by
    rintro m c k hc hne hk ⟨i, d, hd, hdk⟩
    rw [← fp_ren] at hdk
    exact hO.dis m (π i) c _ (fun e => hne i d hd e.symm) hc (hK i d hd) k hk hdk
  refine ⟨fun m c hc => ?_, fun m m' c d hne hc hd k hk hk' => ?_, fun g hg => ?_⟩
  · rcases hR m c hc with ⟨rfl, rfl⟩ | ⟨h1, h2, h3⟩
    · show N.F.q a _ _ _
      rw [hL, hS0]
      exact hq _ _ _ ⟨ρ.ren π, rfl, hO.toL.sub hK inj, fun k => Iff.rfl⟩
    · exact q_keep (hO.q m c h2) (hL m) (hSm m h1) (denL_congr (hC.1 m c h2) fun x y hy => hL x) (fun _ _ => rfl)
  · rcases hR m c hc with ⟨rfl, rfl⟩ | ⟨h1, h2, h3⟩
    · rcases hR m' d hd with ⟨rfl, rfl⟩ | ⟨g1, g2, g3⟩
      · exact hne rfl
      · have hk : (ρ.set (π 0) (ρ.L (π 0)) fun k => fpH (ρ.ren π) K k).S (π 0) k := hk
        rw [hS0] at hk
        rw [fp_congr (hL m') (hSm m' g1)] at hk'
        exact apart m' d k g2 g3 hk' hk
    · rw [fp_congr (hL m) (hSm m h1)] at hk
      rcases hR m' d hd with ⟨rfl, rfl⟩ | ⟨g1, g2, g3⟩
      · have hk' : (ρ.set (π 0) (ρ.L (π 0)) fun k => fpH (ρ.ren π) K k).S (π 0) k := hk'
        rw [hS0] at hk'
        exact apart m c k h2 h3 hk hk'
      · rw [fp_congr (hL m') (hSm m' g1)] at hk'
        exact hO.dis m m' c d hne h2 g2 k hk hk'
  · have : (ρ.set (π 0) (ρ.L (π 0)) fun k => fpH (ρ.ren π) K k) g = ρ g := by simp only [Nm.f, hL g]
    rw [this]; exact hO.glb g hg
/-- A METHOD: shown of the opened object, it holds of the closed one -/
theorem ctr_open {f : FuncId} {args : List SV} {H K : Hp AV} {v : SV} {H' : Hp AV} {n : Nat} {a a' : AV} (hc : Ctr P N f args (openH H n K) v H') (hargs : ∀ x ∈ args, ClV H x) (hC : ClHp N H) (hn : hget H n = some (.abs a)) (hK0 : ∃ c, hget K 0 = some c) (hGn : N.G ≤ n)
    (hq : ∀ l S w, N.F.q a l S w → objQ N K l S w) {K' : Hp AV} {π : Nat → Nat} (hK : ∀ i c, hget K' i = some c → hget H' (π i) = some (c.ren π)) (inj : ∀ i j c d, hget K' i = some c → hget K' j = some d → π i = π j → i = j) (h0 : π 0 = n)
    (hq' : ∀ l S w, objQ N K' l S w → N.F.q a' l S w) {R : Hp AV} (hR : ∀ m c, hget R m = some c → (m = n ∧ c = .abs a') ∨ (m ≠ n ∧ hget H' m = some c ∧ ∀ i d, hget K' i = some d → π i ≠ m))
    (hcl : ClV R v) (hCR : ClHp N R) (pers : ∀ m c, hget H m = some c → ∃ c', hget R m = some c') (non : ∀ m, m < H.length → hget H m = none → hget R m = none) (len : H.length ≤ R.length) : Ctr P N f args H v R := by
  obtain ⟨_, hC', hcall⟩ := hc
  have hlt := hget_lt hn
  have hKn : K ≠ [] := by rintro rfl; obtain ⟨c, hc⟩ := hK0; cases hc
  have src := open_src (H := H) (K := K) hlt hKn
  refine ⟨hcl, hCR, fun ρ w hO => ?_⟩
  obtain ⟨ρ1, hO1, eL, eS, hS⟩ := own_open hO hC hn hK0 hGn hq
  have hmap : args.map (SV.den ρ1) = args.map (SV.den ρ) := List.map_congr_left fun x hx => SV.den_congr (hargs x hx) fun m c h => eL m (hget_lt h)
  rw [← hmap]
  refine (hcall ρ1 w hO1).mono ?_
  rintro e w' ⟨ρ', rfl, hO', hE⟩
  have hOR := own_close hO' hC' hK inj hq' (R := R) (by rw [h0]; exact hR)
  rw [h0] at hOR
  have hL : ∀ m, (ρ'.set n (ρ'.L n) fun k => fpH (ρ'.ren π) K' k).L m = ρ'.L m := fun m => by by_cases e : m = n <;> simp [Nm.set, e]
  have hSn : (ρ'.set n (ρ'.L n) fun k => fpH (ρ'.ren π) K' k).S n = fun k => fpH (ρ'.ren π) K' k := by simp [Nm.set]
  have hSm : ∀ m, m ≠ n → (ρ'.set n (ρ'.L n) fun k => fpH (ρ'.ren π) K' k).S m = ρ'.S m := fun m e => by simp [Nm.set, e]
  have back : ∀ m d k, hget (openH H n K) m = some d → d.fp ρ1 m k → ∃ m' d', hget H m' = some d' ∧ d'.fp ρ m' k := by
    intro m d k hd hk
    rcases src m d hd with ⟨h1, h2, h3⟩ | ⟨i, d', rfl, h3, rfl⟩
    · rw [fp_congr (eL m h2) (eS m h2 h1)] at hk
      exact ⟨m, d, h3, hk⟩
    · exact ⟨n, _, hn, (hS k).2 ⟨i, d', h3, hk⟩⟩
  have there : ∀ m c, hget H m = some c → ∃ c', hget (openH H n K) m = some c' := by
    intro m c h
    rw [hget_open hlt hKn]
    by_cases e : m = n
    · obtain ⟨c0, hc0⟩ := hK0
      rw [if_pos e, hc0]; exact ⟨_, rfl⟩
    · rw [if_neg e, if_pos (hget_lt h)]; exact ⟨c, h⟩
  refine ⟨_, ?_, hOR, ⟨pers, fun m c h => ?_, non, len, fun k hk hno => ?_, fun m c k h hk => ?_, hE.os, hE.tape, hE.output, hE.size⟩⟩
  · congr 1
    have : ∀ x : SV, x.den ρ' = x.den (ρ'.set n (ρ'.L n) fun k => fpH (ρ'.ren π) K' k) := fun x => by
      have hd : ∀ c : Cell, c.den ρ' = c.den (ρ'.set n (ρ'.L n) fun k => fpH (ρ'.ren π) K' k) := fun c => den_congr c fun m _ => (hL m).symm
      have hv : ∀ y : V1, y.den ρ' = y.den (ρ'.set n (ρ'.L n) fun k => fpH (ρ'.ren π) K' k) := fun y => by
        cases y with
        | c x => exact hd x
        | agg l => simp only [V1.den, denL]; rw [List.map_congr_left fun c _ => hd c]
      cases x with
      | v y => exact hv y
      | tup l => simp only [SV.den]; rw [List.map_congr_left fun y _ => hv y]
      | unk => rfl
    exact this v
  · obtain ⟨c', hc'⟩ := there m c h
    rw [hL, hE.agree m c' hc', eL m (hget_lt h)]
  · refine hE.frame k hk fun m d hd hk' => ?_
    obtain ⟨m', d', h1, h2⟩ := back m d k hd hk'
    exact hno m' d' h1 h2
  · have go : ∀ m d, hget H' m = some d → d.fp ρ' m k → w.heap.size ≤ k ∨ ∃ m d, hget H m = some d ∧ d.fp ρ m k := fun m d hd hk => by
      rcases hE.new m d k hd hk with h1 | ⟨m', d', h1, h2⟩
      · exact .inl h1
      · exact .inr (back m' d' k h1 h2)
    rcases hR m c h with ⟨rfl, rfl⟩ | ⟨h1, h2, h3⟩
    · have hk : (ρ'.set m (ρ'.L m) fun k => fpH (ρ'.ren π) K' k).S m k := hk
      rw [hSn] at hk
      obtain ⟨i, d, hd, hdk⟩ := hk
      rw [← fp_ren] at hdk
      exact go (π i) _ (hK i d hd) hdk
    · rw [fp_congr (hL m) (hSm m h1)] at hk
      exact go m c h2 hk
end opening
theorem ClL.ren {H B : Hp AV} {π : Nat → Nat} (h : ∀ i c, hget H i = some c → ∃ d, hget B (π i) = some d) {l : List Cell} (hl : ClL H l) : ClL B (l.map (Cell.ren π)) := by
  intro c hc n hn
  obtain ⟨d, hd, rfl⟩ := List.mem_map.1 hc
  rw [name_ren] at hn
  obtain ⟨m, hm, rfl⟩ := Option.map_eq_some_iff.1 hn
  obtain ⟨x, hx⟩ := hl d hd m hm
  exact h m x hx
theorem ClV.ren {H B : Hp AV} {π : Nat → Nat} (h : ∀ i c, hget H i = some c → ∃ d, hget B (π i) = some d) {v : SV} (hl : ClV H v) : ClV B (v.ren π) := by
  have one : ∀ x : V1, ClV1 H x → ClV1 B (x.ren π) := fun x hx => by
    cases x with
    | c x =>
      have := ClL.ren h (l := [x]) hx
      simpa [ClV1, V1.cells, V1.ren] using this
    | agg l => exact ClL.ren h hx
  cases v with
  | v x => exact one x hl
  | tup l =>
    intro x hx
    obtain ⟨y, hy, rfl⟩ := List.mem_map.1 hx
    exact one y (hl y hy)
  | unk => trivial
open Classical in
/-- WHAT WAS SHOWN OF A SMALL HEAP holds of a part of a greater one -/
theorem ctr_embed {f : FuncId} {args : List SV} {H : Hp AV} {v : SV} {H' : Hp AV} (hc : Ctr P N f args H v H') {B B' : Hp AV} {π : Nat → Nat} (hπ : ∀ i c, hget H i = some c → hget B (π i) = some (c.ren π))
    (inj : ∀ i j c d, hget H' i = some c → hget H' j = some d → π i = π j → i = j) (hpers : ∀ i c, hget H i = some c → ∃ d, hget H' i = some d) (hg : ∀ g, g < N.G → π g = g) (hCB : ClHp N B)
    (hnew : ∀ i c, hget H' i = some c → hget H i = none → B.length ≤ π i) (hGB : N.G ≤ B.length)
    (hB : ∀ m c, hget B' m = some c → (∃ i d, m = π i ∧ hget H' i = some d ∧ c = d.ren π) ∨ (hget B m = some c ∧ ∀ i d, hget H' i = some d → π i ≠ m))
    (hB2 : ∀ i d, hget H' i = some d → hget B' (π i) = some (d.ren π)) (pers : ∀ m c, hget B m = some c → ∃ c', hget B' m = some c') (non : ∀ m, m < B.length → hget B m = none → hget B' m = none) (len : B.length ≤ B'.length) :
    Ctr P N f (args.map (SV.ren π)) B (v.ren π) B' := by
  obtain ⟨hv, hC', hcall⟩ := hc
  have up : ∀ i c, hget H' i = some c → ∃ d, hget B' (π i) = some d := fun i c h => ⟨_, hB2 i c h⟩
  have hCB' : ClHp N B' := by
    refine ⟨fun m c h => ?_, trivial⟩
    rcases hB m c h with ⟨i, d, rfl, h1, rfl⟩ | ⟨h1, _⟩
    · rw [cellsOf_ren]; exact ClL.ren up (hC'.1 i d h1)
    · exact (hCB.1 m c h1).mono pers
  refine ⟨hv.ren up, hCB', fun ρ w hO => ?_⟩
  have inj0 : ∀ i j c d, hget H i = some c → hget H j = some d → π i = π j → i = j := fun i j c d h1 h2 e => by
    obtain ⟨c', hc'⟩ := hpers i c h1
    obtain ⟨d', hd'⟩ := hpers j d h2
    exact inj i j c' d' hc' hd' e
  have hOc : Own N (ρ.ren π) H w := by
    have := hO.toL.sub hπ inj0
    refine ⟨this.q, this.dis, fun g hgG => ?_⟩
    show (ρ.L (π g)).b = g
    rw [hg g hgG]; exact hO.glb g hgG
  have hmap : (args.map (SV.ren π)).map (SV.den ρ) = args.map (SV.den (ρ.ren π)) := by
    rw [List.map_map]
    exact List.map_congr_left fun x _ => SV.den_ren ρ π x
  rw [hmap]
  refine (hcall _ w hOc).mono ?_
  rintro e w' ⟨ρ', rfl, hO', hE⟩
  let ρ2 : Nm := ⟨fun m => if h : ∃ i d, m = π i ∧ hget H' i = some d then ρ'.L h.choose else ρ.L m, fun m => if h : ∃ i d, m = π i ∧ hget H' i = some d then ρ'.S h.choose else ρ.S m⟩
  have im : ∀ i d, hget H' i = some d → ρ2.L (π i) = ρ'.L i ∧ ρ2.S (π i) = ρ'.S i := fun i d hd => by
    have hex : ∃ j e, π i = π j ∧ hget H' j = some e := ⟨i, d, rfl, hd⟩
    have hch : hex.choose = i := by
      obtain ⟨e, h1, h2⟩ := hex.choose_spec
      exact (inj i _ d e hd h2 h1).symm
    constructor
    · show (if h : ∃ j e, π i = π j ∧ hget H' j = some e then _ else _) = _
      rw [dif_pos hex, hch]
    · show (if h : ∃ j e, π i = π j ∧ hget H' j = some e then _ else _) = _
      rw [dif_pos hex, hch]
  have out : ∀ m, (∀ i d, hget H' i = some d → π i ≠ m) → ρ2.L m = ρ.L m ∧ ρ2.S m = ρ.S m := fun m hm => by
    have hex : ¬ ∃ j e, m = π j ∧ hget H' j = some e := by
      rintro ⟨j, e, h1, h2⟩
      exact hm j e h2 h1.symm
    exact ⟨dif_neg hex, dif_neg hex⟩
  have old : ∀ m c, hget B m = some c → ρ2.L m = ρ.L m := fun m c h => by
    by_cases hex : ∃ i d, m = π i ∧ hget H' i = some d
    · obtain ⟨i, d, rfl, hd⟩ := hex
      rw [(im i d hd).1]
      cases hh : hget H i with
      | none => have := hnew i d hd hh; have := hget_lt h; omega
      | some x => exact hE.agree i x hh
    · exact (out m fun i d hd e => hex ⟨i, d, e.symm, hd⟩).1
  have fpi : ∀ i d, hget H' i = some d → (d.ren π).fp ρ2 (π i) = d.fp ρ' i := fun i d hd => by
    rw [fp_ren]
    exact fp_congr (im i d hd).1 (im i d hd).2
  have fpo : ∀ m (c : Chunk AV), (∀ i d, hget H' i = some d → π i ≠ m) → c.fp ρ2 m = c.fp ρ m := fun m c hm => fp_congr (out m hm).1 (out m hm).2
  -- what the small run may touch
  have small : ∀ i d k, hget H' i = some d → d.fp ρ' i k → w.heap.size ≤ k ∨ ∃ j e, hget H j = some e ∧ (e.ren π).fp ρ (π j) k := fun i d k hd hk => by
    rcases hE.new i d k hd hk with h1 | ⟨j, e, h1, h2⟩
    · exact .inl h1
    · exact .inr ⟨j, e, h1, by rw [fp_ren]; exact h2⟩
  have apart : ∀ m c i d k, hget B m = some c → (∀ i d, hget H' i = some d → π i ≠ m) → hget H' i = some d → c.fp ρ m k → d.fp ρ' i k → False := fun m c i d k hc hm hd hk hk' => by
    rcases small i d k hd hk' with h1 | ⟨j, e, h1, h2⟩
    · have := hO.lt hc hk; omega
    · obtain ⟨e', he'⟩ := hpers j e h1
      exact hO.dis m (π j) c _ (fun e => hm j e' he' e.symm) hc (hπ j e h1) k hk h2
  refine ⟨ρ2, ?_, ⟨fun m c h => ?_, fun m m' c d hne h h' k hk hk' => ?_, fun g hgG => ?_⟩, ⟨pers, old, non, len, fun k hk hno => ?_, fun m c k h hk => ?_, hE.os, hE.tape, hE.output, hE.size⟩⟩
  · congr 1
    rw [SV.den_ren]
    exact (SV.den_congr hv fun i c h => (im i c h).1).symm
  · rcases hB m c h with ⟨i, d, rfl, h1, rfl⟩ | ⟨h1, h2⟩
    · rw [q_ren]
      exact q_keep (hO'.q i d h1) (im i d h1).1 (im i d h1).2 (denL_congr (hC'.1 i d h1) fun j x hx => (im j x hx).1) (fun _ _ => rfl)
    · refine q_keep (hO.q m c h1) (out m h2).1 (out m h2).2 (denL_congr (hCB.1 m c h1) old) fun k hk => ?_
      refine hE.frame k (hO.lt h1 hk) fun i d hd hk' => ?_
      obtain ⟨d', hd'⟩ := hpers i d hd
      rw [← fp_ren] at hk'
      exact hO.dis m (π i) c _ (fun e => h2 i d' hd' e.symm) h1 (hπ i d hd) k hk hk'
  · rcases hB m c h with ⟨i, x, rfl, h1, rfl⟩ | ⟨h1, h2⟩
    · rw [fpi i x h1] at hk
      rcases hB m' d h' with ⟨j, y, rfl, g1, rfl⟩ | ⟨g1, g2⟩
      · rw [fpi j y g1] at hk'
        exact hO'.dis i j x y (fun e => hne (by rw [e])) h1 g1 k hk hk'
      · rw [fpo m' d g2] at hk'
        exact apart m' d i x k g1 g2 h1 hk' hk
    · rw [fpo m c h2] at hk
      rcases hB m' d h' with ⟨j, y, rfl, g1, rfl⟩ | ⟨g1, g2⟩
      · rw [fpi j y g1] at hk'
        exact apart m c j y k h1 h2 g1 hk hk'
      · rw [fpo m' d g2] at hk'
        exact hO.dis m m' c d hne h1 g1 k hk hk'
  · by_cases hex : ∃ d, hget H' g = some d
    · obtain ⟨d, hd⟩ := hex
      have := (im g d hd).1
      rw [hg g hgG] at this
      show (ρ2.L g).b = g
      rw [this]; exact hO'.glb g hgG
    · show (ρ2.L g).b = g
      by_cases hi : ∃ i d, hget H' i = some d ∧ π i = g
      · obtain ⟨i, d, hd, e⟩ := hi
        have h3 := (im i d hd).1
        rw [e] at h3
        cases hh : hget H i with
        | none =>
          -- a new thing has no variable's name
          have h1 := hnew i d hd hh
          omega
        | some x =>
          rw [h3, hE.agree i x hh]
          show (ρ.L (π i)).b = g
          rw [e]; exact hO.glb g hgG
      · rw [(out g fun i d hd e => hi ⟨i, d, hd, e⟩).1]; exact hO.glb g hgG
  · refine hE.frame k hk fun i d hd hk' => ?_
    rw [← fp_ren] at hk'
    exact hno (π i) _ (hπ i d hd) hk'
  · rcases hB m c h with ⟨i, d, rfl, h1, rfl⟩ | ⟨h1, h2⟩
    · rw [fpi i d h1] at hk
      rcases small i d k h1 hk with h2 | ⟨j, e, h2, h3⟩
      · exact .inl h2
      · exact .inr ⟨π j, _, hπ j e h2, h3⟩
    · rw [fpo m c h2] at hk
      exact .inr ⟨m, c, h1, hk⟩
end Go.Sx
