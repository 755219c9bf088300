/- The symbolic executor: what its states mean; small lemmas; operations that look at no memory are sound. -/
import Derived.Test.YtmdojlkmgllhnaaGreatDoorSxA
namespace Go.Sx
section lists
variable {AV : Type}
theorem nth_eq {α : Type} : ∀ (l : List α) (n : Nat), nth l n = l[n]?
  | [], _ => by simp [nth]
  | _ :: _, 0 => by simp [nth]
  | _ :: r, n + 1 => by simp [nth, nth_eq r n]
theorem hget_eq : ∀ (H : Hp AV) (n : Nat), hget H n = (H[n]?).bind id
  | [], _ => by simp [hget]
  | _ :: _, 0 => by simp [hget]
  | _ :: r, n + 1 => by simp [hget, hget_eq r n]
theorem hget_lt {H : Hp AV} {n : Nat} {c : Chunk AV} (h : hget H n = some c) : n < H.length := by
  rw [hget_eq] at h
  rcases Nat.lt_or_ge n H.length with h' | h'
  · exact h'
  · simp [List.getElem?_eq_none h'] at h
theorem lset_eq {α : Type} : ∀ (l : List α) (n : Nat) (y : α), lset l n y = l.set n y
  | [], _, _ => by simp [lset]
  | _ :: _, 0, _ => by simp [lset]
  | _ :: r, n + 1, y => by simp [lset, lset_eq r n y]
theorem hget_lset_self {H : Hp AV} {n : Nat} (c : Chunk AV) (h : n < H.length) : hget (lset H n (some c)) n = some c := by
  simp [hget_eq, lset_eq, h]
theorem hget_lset_ne {H : Hp AV} {n m : Nat} (x : Option (Chunk AV)) (h : n ≠ m) : hget (lset H n x) m = hget H m := by
  simp [hget_eq, lset_eq, List.getElem?_set_ne h]
theorem length_lset {α : Type} (l : List α) (n : Nat) (y : α) : (lset l n y).length = l.length := by simp [lset_eq]
theorem nones_len : ∀ n, (nones AV n).length = n
  | 0 => rfl
  | n + 1 => by simp [nones, nones_len n]
theorem hget_nones (H : Hp AV) (k n : Nat) : hget (H ++ nones AV k) n = hget H n := by
  rw [hget_eq, hget_eq]
  rcases Nat.lt_or_ge n H.length with h | h
  · rw [List.getElem?_append_left h]
  · rw [List.getElem?_append_right h, List.getElem?_eq_none h]
    have : ∀ (k m : Nat), ((nones AV k)[m]?).bind id = none := by
      intro k
      induction k with
      | zero => intro m; simp [nones]
      | succ k ih => intro m; cases m with
        | zero => simp [nones]
        | succ m => simp [nones, ih m]
    rw [this]; rfl
theorem beq_iff (a b : Nat) : Nat.beq a b = true ↔ a = b := ⟨Nat.eq_of_beq_eq_true, fun h => by subst h; exact Nat.beq_refl a⟩
theorem beq_false_iff (a b : Nat) : Nat.beq a b = false ↔ a ≠ b := by
  rw [← Bool.not_eq_true, beq_iff]
theorem blt_iff (a b : Nat) : Nat.blt a b = true ↔ a < b := by
  unfold Nat.blt; rw [Nat.ble_eq]; omega
theorem blt_false_iff (a b : Nat) : Nat.blt a b = false ↔ ¬ a < b := by
  rw [← Bool.not_eq_true, blt_iff]
end lists

section den
theorem den_congr {ρ ρ' : Nm} : ∀ (c : Cell), (∀ n, c.name = some n → ρ'.L n = ρ.L n) → c.den ρ' = c.den ρ
  | .ptr n _, h => by simp [Cell.den, Nm.f, h n rfl]
  | .vel n _ _ _, h => by simp [Cell.den, Nm.f, h n rfl]
  | .sl n _ _ _, h => by simp [Cell.den, Nm.f, h n rfl]
  | .vs n _ _ _ _, h => by simp [Cell.den, h n rfl]
  | .sf n _ _ _ _ _, h => by simp [Cell.den, h n rfl]
  | .ifc t c, h => by simp only [Cell.den]; rw [den_congr c h]
  | .bl _, _ => rfl
  | .bt _, _ => rfl
  | .il _ _, _ => rfl
  | .it _ _, _ => rfl
  | .iv _ _ _ _, _ => rfl
  | .ir _ _ _ _ _, _ => rfl
  | .st _, _ => rfl
  | .pnil, _ => rfl
  | .snil, _ => rfl
  | .sx _ _, _ => rfl
  | .inil, _ => rfl
  | .fn _, _ => rfl
  | .nfn, _ => rfl
  | .op _ _, _ => rfl
  | .mp _, _ => rfl
theorem den_one (ρ : Nm) : ∀ c : Cell, (c.den ρ).oneCell' = true
  | .ptr _ _ => rfl
  | .vel _ _ _ _ => rfl
  | .sl _ _ _ _ => rfl
  | .vs _ _ _ _ _ => by simp only [Cell.den, vsDen]; split <;> rfl
  | .sf _ _ _ _ _ _ => by simp only [Cell.den, vsDen]; split <;> rfl
  | .ifc _ _ => rfl
  | .bl _ => rfl
  | .bt _ => rfl
  | .il _ _ => rfl
  | .it _ _ => rfl
  | .iv _ _ _ _ => rfl
  | .ir _ _ _ _ _ => rfl
  | .st _ => rfl
  | .pnil => rfl
  | .snil => rfl
  | .sx _ _ => rfl
  | .inil => rfl
  | .fn _ => rfl
  | .nfn => rfl
  | .op _ _ => rfl
  | .mp _ => rfl
theorem den_cells (ρ : Nm) (c : Cell) : (c.den ρ).cells = #[c.den ρ] := by
  cases c with
  | vs _ _ _ _ _ => simp only [Cell.den, vsDen]; split <;> rfl
  | sf _ _ _ _ _ _ => simp only [Cell.den, vsDen]; split <;> rfl
  | _ => rfl
theorem V1.den_cells (ρ : Nm) (x : V1) : (x.den ρ).cells.toList = denL ρ x.cells := by
  cases x with
  | c x => simp [V1.den, V1.cells, Sx.den_cells, denL]
  | agg l => simp [V1.den, V1.cells, Value.cells]

theorem ofValue_den (ρ : Nm) {v : Value} {c : Cell} (h : Cell.ofValue v = some c) : c.den ρ = v ∧ c.name = none := by
  unfold Cell.ofValue at h
  split at h <;> first
    | (cases h; exact ⟨rfl, rfl⟩)
    | cases h
theorem ofValues_den (ρ : Nm) : ∀ {vs : List Value} {l : List Cell}, ofValues vs = some l → denL ρ l = vs ∧ ∀ c ∈ l, c.name = none
  | [], l, h => by cases h; simp [denL]
  | v :: r, l, h => by
    simp only [ofValues] at h
    cases hv : Cell.ofValue v with
    | none => simp [hv] at h
    | some c =>
      cases hr : ofValues r with
      | none => simp [hv, hr] at h
      | some l' =>
        simp only [hv, hr, Option.some.injEq] at h
        subst h
        have ih := ofValues_den ρ hr
        have hc := ofValue_den ρ hv
        refine ⟨by simp [denL, hc.1]; exact ih.1, fun x hx => ?_⟩
        rcases List.mem_cons.1 hx with rfl | hx
        · exact hc.2
        · exact ih.2 x hx
end den

section meaning
variable {AV : Type} (N : Env AV)
def Chunk.fp (ρ : Nm) (n : Nat) : Chunk AV → Nat → Prop
  | .cells _ _ => fun k => k = ρ n
  | .vec _ _ _ => ρ.S n
  | .dead => fun _ => False
  | .abs _ => ρ.S n
def Chunk.q (ρ : Nm) (n : Nat) (w : World) : Chunk AV → Prop
  | .cells l ty => w.heap[ρ n]? = some (.cells (denL ρ l).toArray ty (0, 0))
  | .vec l es ty => vecQ (ρ.L n) (ρ.S n) (denL ρ l) es ty w
  | .dead => True
  | .abs a => N.F.q a (ρ.L n) (ρ.S n) w
/-- the cells that a chunk shows -/
def Chunk.cellsOf : Chunk AV → List Cell
  | .cells l _ => l
  | .vec l _ _ => l
  | .dead => []
  | .abs _ => []
theorem vecQ_keep {l : Loc} {S : Nat → Prop} {cs : List Value} {es : Nat} {ty : TypeId} {w w' : World} (h : vecQ l S cs es ty w) (hk : ∀ k, S k → w'.heap[k]? = w.heap[k]?) : vecQ l S cs es ty w' := by
  rcases h with h | ⟨h1, h2, row, h3, h4⟩
  · exact .inl h
  · exact .inr ⟨h1, h2, row, by rw [hk l.b ((h2 _).2 rfl)]; exact h3, h4⟩
/-- The world holds the symbolic heap. -/
structure Own (ρ : Nm) (H : Hp AV) (w : World) : Prop where
  q : ∀ n c, hget H n = some c → c.q N ρ n w
  dis : ∀ n m c d, n ≠ m → hget H n = some c → hget H m = some d → ∀ k, c.fp ρ n k → d.fp ρ m k → False
  glb : ∀ g, g < N.G → ρ g = g
/-- All names that occur are there. -/
def ClC (H : Hp AV) (c : Cell) : Prop := ∀ n, c.name = some n → ∃ x, hget H n = some x
def ClL (H : Hp AV) (l : List Cell) : Prop := ∀ c ∈ l, ClC H c
def ClV1 (H : Hp AV) (x : V1) : Prop := ClL H x.cells
def ClV (H : Hp AV) : SV → Prop
  | .v x => ClV1 H x
  | .tup l => ∀ x ∈ l, ClV1 H x
  | .unk => True
structure Closed (_N : Env AV) (s : St AV) : Prop where
  E : ∀ k, ClV s.H (look s.E k)
  H : ∀ n x, hget s.H n = some x → ClL s.H x.cellsOf
/-- The temporaries hold what the symbolic ones mean. -/
structure EM (ρ : Nm) (nt : Nat) (E : Ev) (a : Act) : Prop where
  size : a.tmps.size = nt
  get : ∀ k, look E k ≠ .unk → a.tmps.getD k undef = (look E k).den ρ
/-- From (ρ, H, w) the run has come to (ρ', H', w'); L: names below it that were not there are not there. -/
structure Evo (_N : Env AV) (L : Nat) (ρ : Nm) (H : Hp AV) (w : World) (ρ' : Nm) (H' : Hp AV) (w' : World) : Prop where
  pers : ∀ n c, hget H n = some c → ∃ c', hget H' n = some c'
  agree : ∀ n c, hget H n = some c → ρ'.L n = ρ.L n
  non : ∀ n, n < L → hget H n = none → hget H' n = none
  len : H.length ≤ H'.length
  frame : ∀ k, k < w.heap.size → (∀ n c, hget H n = some c → ¬ c.fp ρ n k) → w'.heap[k]? = w.heap[k]?
  new : ∀ n c k, hget H' n = some c → c.fp ρ' n k → w.heap.size ≤ k ∨ ∃ m d, hget H m = some d ∧ d.fp ρ m k
  os : w'.os = w.os
  tape : w'.tape = w.tape
  output : w'.output = w.output
  size : w.heap.size ≤ w'.heap.size

variable {N}
theorem Evo.refl (L : Nat) (ρ : Nm) (H : Hp AV) (w : World) : Evo N L ρ H w ρ H w :=
  ⟨fun _ c h => ⟨c, h⟩, fun _ _ _ => rfl, fun _ _ h => h, Nat.le_refl _, fun _ _ _ => rfl, fun n c _ h hk => .inr ⟨n, c, h, hk⟩, rfl, rfl, rfl, Nat.le_refl _⟩
theorem Evo.trans {L : Nat} {ρ ρ₁ ρ₂ : Nm} {H H₁ H₂ : Hp AV} {w w₁ w₂ : World} (h : Evo N L ρ H w ρ₁ H₁ w₁) (k : Evo N L ρ₁ H₁ w₁ ρ₂ H₂ w₂) : Evo N L ρ H w ρ₂ H₂ w₂ where
  pers n c hc := let ⟨c', hc'⟩ := h.pers n c hc; k.pers n c' hc'
  agree n c hc := let ⟨c', hc'⟩ := h.pers n c hc; (k.agree n c' hc').trans (h.agree n c hc)
  non n hn hc := k.non n hn (h.non n hn hc)
  len := Nat.le_trans h.len k.len
  frame i hi hn := by
    rw [k.frame i (Nat.lt_of_lt_of_le hi h.size) ?_, h.frame i hi hn]
    intro n c hc hk
    rcases h.new n c i hc hk with h1 | ⟨m, d, hd, hk'⟩
    · omega
    · exact hn m d hd hk'
  new n c i hc hk := by
    rcases k.new n c i hc hk with h1 | ⟨m, d, hd, hk'⟩
    · exact .inl (Nat.le_trans h.size h1)
    · exact h.new m d i hd hk'
  os := k.os.trans h.os
  tape := k.tape.trans h.tape
  output := k.output.trans h.output
  size := Nat.le_trans h.size k.size
/-- the draw of an order -/
theorem Evo.drew {L : Nat} {ρ ρ' : Nm} {H H' : Hp AV} {w w' : World} (h : Evo N L ρ H w.drew ρ' H' w') : Evo N L ρ H w ρ' H' w' :=
  ⟨h.pers, h.agree, h.non, h.len, h.frame, h.new, h.os, h.tape, h.output, h.size⟩
theorem Evo.drew' {L : Nat} {ρ ρ' : Nm} {H H' : Hp AV} {w w' : World} (h : Evo N L ρ H w ρ' H' w') : Evo N L ρ H w ρ' H' w'.drew :=
  ⟨h.pers, h.agree, h.non, h.len, h.frame, h.new, h.os, h.tape, h.output, h.size⟩
theorem Own.drew {ρ : Nm} {H : Hp AV} {w : World} (h : Own N ρ H w) : Own N ρ H w.drew where
  q n c hc := by
    have := h.q n c hc
    cases c with
    | cells l ty => exact this
    | vec l es ty => exact vecQ_keep this (fun _ _ => rfl)
    | dead => trivial
    | abs a => exact N.F.loc a (ρ.L n) (ρ.S n) w w.drew (fun _ _ => rfl) this
  dis := h.dis
  glb := h.glb

theorem clC_iff {H : Hp AV} {c : Cell} : clC H c = true ↔ ClC H c := by
  unfold clC ClC
  cases hn : c.name with
  | none => simp
  | some n =>
    cases hh : hget H n with
    | none => simp [isS, hh]
    | some x => simp [isS, hh]
theorem clNs_iff {H : Hp AV} : ∀ {l : List Nat}, clNs H l = true ↔ ∀ n ∈ l, ∃ c, hget H n = some c
  | [] => by simp [clNs]
  | n :: r => by
    have := @clNs_iff H r
    simp only [clNs, List.forall_mem_cons]
    cases hh : hget H n with
    | none => simp [isS]
    | some x => simp [isS, this]
theorem mem_namesL {n : Nat} : ∀ {l : List Cell}, n ∈ namesL l ↔ ∃ c ∈ l, c.name = some n
  | [] => by simp [namesL]
  | c :: r => by
    have := @mem_namesL n r
    cases hc : c.name with
    | none => simp [namesL, hc, this]
    | some m =>
      simp only [namesL, hc, List.mem_cons, this, exists_eq_or_imp, Option.some.injEq]
      constructor
      · rintro (rfl | h)
        · exact .inl rfl
        · exact .inr h
      · rintro (rfl | h)
        · exact .inl rfl
        · exact .inr h
theorem clL_iff {H : Hp AV} {l : List Cell} : clL H l = true ↔ ClL H l := by
  unfold clL
  rw [clNs_iff]
  unfold ClL ClC
  constructor
  · intro h c hc n hn
    exact h n (mem_namesL.2 ⟨c, hc, hn⟩)
  · intro h n hn
    obtain ⟨c, hc, hcn⟩ := mem_namesL.1 hn
    exact h c hc n hcn
theorem clV1_iff {H : Hp AV} {x : V1} : clV1 H x = true ↔ ClV1 H x := by
  cases x with
  | c x => simp [clV1, ClV1, V1.cells, ClL, clC_iff]
  | agg l => simp [clV1, ClV1, V1.cells, clL_iff]
theorem clV1s_iff {H : Hp AV} : ∀ {l : List V1}, clV1s H l = true ↔ ∀ x ∈ l, ClV1 H x
  | [] => by simp [clV1s]
  | c :: r => by
    have := @clV1s_iff H r
    have hc := @clV1_iff AV H c
    simp only [clV1s, List.forall_mem_cons]
    cases h : clV1 H c <;> simp_all
theorem clV_iff {H : Hp AV} {v : SV} : clV H v = true ↔ ClV H v := by
  cases v with
  | v x => simp [clV, ClV, clV1_iff]
  | tup l => simp [clV, ClV, clV1s_iff]
  | unk => simp [clV, ClV]
theorem clVs_iff {H : Hp AV} : ∀ {l : List SV}, clVs H l = true ↔ ∀ x ∈ l, ClV H x
  | [] => by simp [clVs]
  | c :: r => by
    have := @clVs_iff H r
    have hc := @clV_iff AV H c
    simp only [clVs, List.forall_mem_cons]
    cases h : clV H c <;> simp_all
theorem clCk_iff {H : Hp AV} {c : Chunk AV} : clCk H c = true ↔ ClL H c.cellsOf := by
  cases c with
  | cells l t => exact clL_iff
  | vec l e t => exact clL_iff
  | dead => simp [clCk, Chunk.cellsOf, ClL]
  | abs a => simp [clCk, Chunk.cellsOf, ClL]
theorem clHs_iff {H : Hp AV} : ∀ {l : Hp AV}, clHs H l = true ↔ ∀ n x, hget l n = some x → ClL H x.cellsOf
  | [] => by simp [clHs, hget]
  | none :: r => by
    rw [clHs, clHs_iff]
    constructor
    · intro h n x hc
      cases n with
      | zero => simp [hget] at hc
      | succ n => exact h n x hc
    · intro h n x hc
      exact h (n + 1) x hc
  | some c :: r => by
    have ih := @clHs_iff H r
    simp only [clHs]
    cases hl : clCk H c with
    | false =>
      simp only [Bool.false_eq_true, false_iff]
      intro h
      have := clCk_iff.2 (h 0 c rfl)
      rw [hl] at this; cases this
    | true =>
      simp only
      rw [ih]
      constructor
      · intro h n x hc
        cases n with
        | zero => simp only [hget, Option.some.injEq] at hc; subst hc; exact clCk_iff.1 hl
        | succ n => exact h n x hc
      · intro h n x hc
        exact h (n + 1) x hc

theorem denL_congr {ρ ρ' : Nm} {H : Hp AV} {l : List Cell} (hc : ClL H l) (ha : ∀ n c, hget H n = some c → ρ'.L n = ρ.L n) : denL ρ' l = denL ρ l := by
  unfold denL
  apply List.map_congr_left
  intro c hm
  exact den_congr c fun n hn => let ⟨x, hx⟩ := hc c hm n hn; ha n x hx
theorem V1.den_congr {ρ ρ' : Nm} {H : Hp AV} {x : V1} (hc : ClV1 H x) (ha : ∀ n c, hget H n = some c → ρ'.L n = ρ.L n) : x.den ρ' = x.den ρ := by
  cases x with
  | c x =>
    have := Sx.denL_congr (l := [x]) hc ha
    simpa [denL, V1.den] using this
  | agg l => simp only [V1.den]; rw [Sx.denL_congr (l := l) hc ha]
theorem SV.den_congr {ρ ρ' : Nm} {H : Hp AV} {v : SV} (hc : ClV H v) (ha : ∀ n c, hget H n = some c → ρ'.L n = ρ.L n) : v.den ρ' = v.den ρ := by
  cases v with
  | v x => exact V1.den_congr hc ha
  | tup l =>
    simp only [SV.den]
    congr 2
    apply List.map_congr_left
    intro x hx
    exact V1.den_congr (hc x hx) ha
  | unk => rfl
theorem ClL.mono {H H' : Hp AV} {l : List Cell} (h : ClL H l) (hp : ∀ n c, hget H n = some c → ∃ c', hget H' n = some c') : ClL H' l :=
  fun c hc n hn => let ⟨x, hx⟩ := h c hc n hn; hp n x hx
theorem ClV1.mono {H H' : Hp AV} {x : V1} (h : ClV1 H x) (hp : ∀ n c, hget H n = some c → ∃ c', hget H' n = some c') : ClV1 H' x := ClL.mono h hp
theorem ClV.mono {H H' : Hp AV} {v : SV} (h : ClV H v) (hp : ∀ n c, hget H n = some c → ∃ c', hget H' n = some c') : ClV H' v := by
  cases v with
  | v x => exact ClV1.mono h hp
  | tup l => exact fun x hx => ClV1.mono (h x hx) hp
  | unk => trivial
end meaning
end Go.Sx
