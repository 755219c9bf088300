/- What abstract things are, with objects among them: the layer of those whose blocks are given by a layout. -/
import Derived.Test.YtmdojlkmgllhnaaGreatDoorSxAr
namespace Go.Sx
variable {AV : Type} {P : Program} {N : Env AV}
/-- an environment of nothing but a meaning -/
def envF (F : Intf AV) : Env AV := { tt := .lf, ft := .lf, gu := .lf, G := 0, F := F }
theorem objQ_env {N N' : Env AV} (hq : ∀ a l S w, N.F.q a l S w → N'.F.q a l S w) {K : Hp AV} {l : Loc} {S : Nat → Prop} {w : World} (h : objQ N K l S w) : objQ N' K l S w := by
  obtain ⟨ρ, h1, h2, h3⟩ := h
  refine ⟨ρ, h1, ⟨fun n c hc => ?_, h2.dis⟩, h3⟩
  have := h2.q n c hc
  cases c with
  | cells l ty => exact this
  | vec l es ty => exact this
  | dead => exact this
  | abs a => exact hq a _ _ _ this
theorem objQ_loc {K : Hp AV} {l : Loc} {S : Nat → Prop} {w w' : World} (hk : ∀ k, S k → w'.heap[k]? = w.heap[k]?) (h : objQ N K l S w) : objQ N K l S w' := by
  obtain ⟨ρ, h1, h2, h3⟩ := h
  exact ⟨ρ, h1, ⟨fun n c hc => q_keep (h2.q n c hc) rfl rfl rfl fun k hf => hk k ((h3 k).2 ⟨n, c, hc, hf⟩), h2.dis⟩, h3⟩
theorem q_dom {ρ : Nm} {n : Nat} {c : Chunk AV} {w : World} (h : c.q N ρ n w) {k : Nat} (hk : c.fp ρ n k) : k < w.heap.size := by
  cases c with
  | cells l ty =>
    have hk : k = ρ n := hk
    have h : w.heap[ρ n]? = some _ := h
    rw [hk]
    exact (Array.getElem?_eq_some_iff.1 h).1
  | vec l es ty =>
    have hk : ρ.S n k := hk
    rcases h with ⟨_, _, h⟩ | ⟨_, h, row, h2, _⟩
    · exact absurd hk (h k)
    · rw [(h k).1 hk]
      exact (Array.getElem?_eq_some_iff.1 h2).1
  | dead => exact hk.elim
  | abs a => exact N.F.dom a _ _ w k h hk
theorem objQ_dom {K : Hp AV} {l : Loc} {S : Nat → Prop} {w : World} {k : Nat} (h : objQ N K l S w) (hk : S k) : k < w.heap.size := by
  obtain ⟨ρ, h1, h2, h3⟩ := h
  obtain ⟨i, c, hc, hf⟩ := (h3 k).1 hk
  exact q_dom (h2.q i c hc) hf
/-- objects are no arrays -/
structure LayOk (F : Intf AV) (lay : AV → Option (Hp AV)) : Prop where
  arr : ∀ a x, F.arr a = some x → lay a = none
  row : ∀ a i e x, F.row a i e = some x → lay a = none
  upd : ∀ a i e o cs b a', F.upd a i e o cs = some (b, a') → lay a = none ∧ lay a' = none
  word : ∀ a cs, F.word a = some cs → lay a = none
def objF (F : Intf AV) (lay : AV → Option (Hp AV)) (a : AV) (l : Loc) (S : Nat → Prop) (w : World) : Prop := match lay a with
  | none => F.q a l S w
  | some K => objQ (envF F) K l S w
theorem objF_none {F : Intf AV} {lay : AV → Option (Hp AV)} {a : AV} (h : lay a = none) (l : Loc) (S : Nat → Prop) (w : World) : objF F lay a l S w ↔ F.q a l S w := by
  unfold objF; rw [h]
def Intf.obj (F : Intf AV) (lay : AV → Option (Hp AV)) (h : LayOk F lay) : Intf AV where
  q := objF F lay
  loc := fun a l S w w' hk hq => by
    unfold objF at hq ⊢
    split at hq
    · exact F.loc a l S w w' hk hq
    · exact objQ_loc hk hq
  dom := fun a l S w k hq hk => by
    unfold objF at hq
    split at hq
    · exact F.dom a l S w k hq hk
    · exact objQ_dom hq hk
  row := F.row
  row_nm := F.row_nm
  row_ok := fun a l S w idx es cs hq hr => F.row_ok a l S w idx es cs ((objF_none (h.row a idx es _ hr) l S w).1 hq) hr
  upd := F.upd
  upd_ok := fun a l S w idx es off cs a' hq hu => by
    obtain ⟨h1, h2⟩ := h.upd a idx es off cs true a' hu
    obtain ⟨g1, g2, row, ty, g3, g4, g5⟩ := F.upd_ok a l S w idx es off cs a' ((objF_none h1 l S w).1 hq) hu
    exact ⟨g1, g2, row, ty, g3, g4, (objF_none h2 l S _).2 g5⟩
  word := F.word
  word_nm := F.word_nm
  word_ok := fun a l S w cs hq hw => F.word_ok a l S w cs ((objF_none (h.word a cs hw) l S w).1 hq) hw
  same := F.same
  same_ok := F.same_ok
  arr := F.arr
  arr_q := fun a es ty vs ha => ⟨(F.arr_q a es ty vs ha).1, fun l S w => (objF_none (h.arr a _ ha) l S w).trans ((F.arr_q a es ty vs ha).2 l S w)⟩
  len := F.len
  len_ok := F.len_ok
  cat := F.cat
  cat_ok := F.cat_ok
  app := F.app
  app_ok := F.app_ok
  cut := F.cut
  cut_ok := F.cut_ok
/-- a layout whose abstract parts are no objects of this layer -/
def flatLay (lay : AV → Option (Hp AV)) (K : Hp AV) : Prop := ∀ i a, hget K i = some (.abs a) → lay a = none
theorem objQ_flat {N N' : Env AV} {K : Hp AV} (hq : ∀ i a, hget K i = some (.abs a) → ∀ l S w, N.F.q a l S w → N'.F.q a l S w) {l : Loc} {S : Nat → Prop} {w : World} (h : objQ N K l S w) : objQ N' K l S w := by
  obtain ⟨ρ, h1, h2, h3⟩ := h
  refine ⟨ρ, h1, ⟨fun n c hc => ?_, h2.dis⟩, h3⟩
  have := h2.q n c hc
  cases c with
  | cells l ty => exact this
  | vec l es ty => exact this
  | dead => exact this
  | abs a => exact hq n a hc _ _ _ this
theorem obj_q {F : Intf AV} {lay : AV → Option (Hp AV)} {h : LayOk F lay} (hF : N.F = F.obj lay h) {a : AV} {K : Hp AV} (ha : lay a = some K) (hK : flatLay lay K) (l : Loc) (S : Nat → Prop) (w : World) : N.F.q a l S w ↔ objQ N K l S w := by
  rw [hF]
  show objF F lay a l S w ↔ _
  unfold objF
  rw [ha]
  constructor
  · intro hq
    refine objQ_flat (N := envF F) (N' := N) (fun i b hb l S w hqb => ?_) hq
    rw [hF]
    exact (objF_none (hK i b hb) l S w).2 hqb
  · intro hq
    refine objQ_flat (N := N) (N' := envF F) (fun i b hb l S w hqb => ?_) hq
    rw [hF] at hqb
    exact (objF_none (hK i b hb) l S w).1 hqb
/-- a thing that another one shows to be there, in the same blocks -/
def Imp (N : Env AV) (c c' : Chunk AV) : Prop := c'.cellsOf = [] ∧ ∀ (ρ : Nm) (n : Nat) (w : World), c.q N ρ n w → c'.q N ρ n w ∧ ∀ k, c'.fp ρ n k ↔ c.fp ρ n k
/-- known cells are an array of a kind -/
theorem imp_arr {l : List Cell} {es : Nat} {ty : TypeId} {a : AV} {vs : List Value} (ha : N.F.arr a = some (es, ty, vs)) (hv : vs = denL Nm.id l) (hn : ∀ c ∈ l, c.name = none) : Imp N (.vec l es ty) (.abs a) := by
  refine ⟨rfl, fun ρ n w h => ⟨?_, fun k => Iff.rfl⟩⟩
  have hd : denL ρ l = vs := by
    rw [hv]
    unfold denL
    exact List.map_congr_left fun c hc => den_congr c fun m hm => by rw [hn c hc] at hm; cases hm
  refine ((N.F.arr_q a es ty vs ha).2 _ _ _).2 ?_
  have h : vecQ (ρ.L n) (ρ.S n) (denL ρ l) es ty w := h
  rw [hd] at h
  exact h
theorem own_weak {ρ : Nm} {H : Hp AV} {w : World} (hO : Own N ρ H w) {n : Nat} {c c' : Chunk AV} (hn : hget H n = some c) (hi : Imp N c c') : Own N ρ (lset H n (some c')) w := by
  have src : ∀ m d, hget (lset H n (some c')) m = some d → (m = n ∧ d = c') ∨ (m ≠ n ∧ hget H m = some d) := fun m d h => by
    by_cases e : m = n
    · subst e; rw [hget_lset_self _ (hget_lt hn)] at h; cases h; exact .inl ⟨rfl, rfl⟩
    · rw [hget_lset_ne _ (Ne.symm e)] at h; exact .inr ⟨e, h⟩
  have hi' := hi.2 ρ n w (hO.q n c hn)
  refine ⟨fun m d h => ?_, fun m m' d d' hne h h' k hk hk' => ?_, hO.glb⟩
  · rcases src m d h with ⟨rfl, rfl⟩ | ⟨_, h⟩
    · exact hi'.1
    · exact hO.q m d h
  · rcases src m d h with ⟨rfl, rfl⟩ | ⟨h1, hm⟩
    · rcases src m' d' h' with ⟨rfl, rfl⟩ | ⟨_, hm'⟩
      · exact hne rfl
      · exact hO.dis m m' c d' hne hn hm' k ((hi'.2 k).1 hk) hk'
    · rcases src m' d' h' with ⟨rfl, rfl⟩ | ⟨_, hm'⟩
      · exact hO.dis m m' d c hne hm hn k hk ((hi'.2 k).1 hk')
      · exact hO.dis m m' d d' hne hm hm' k hk hk'
theorem ctr_weak {f : FuncId} {args : List SV} {H : Hp AV} {v : SV} {H' : Hp AV} (hc : Ctr P N f args H v H') {n : Nat} {c c' : Chunk AV} (hn : hget H' n = some c) (hi : Imp N c c') : Ctr P N f args H v (lset H' n (some c')) := by
  obtain ⟨h1, h2, h3⟩ := hc
  have pers : ∀ m d, hget H' m = some d → ∃ d', hget (lset H' n (some c')) m = some d' := fun m d h => by
    by_cases e : m = n
    · subst e; exact ⟨_, hget_lset_self _ (hget_lt hn)⟩
    · exact ⟨d, by rw [hget_lset_ne _ (Ne.symm e)]; exact h⟩
  have src : ∀ m d, hget (lset H' n (some c')) m = some d → (m = n ∧ d = c') ∨ (m ≠ n ∧ hget H' m = some d) := fun m d h => by
    by_cases e : m = n
    · subst e; rw [hget_lset_self _ (hget_lt hn)] at h; cases h; exact .inl ⟨rfl, rfl⟩
    · rw [hget_lset_ne _ (Ne.symm e)] at h; exact .inr ⟨e, h⟩
  have hcl : ∀ {l : List Cell}, ClL H' l → ClL (lset H' n (some c')) l := fun hl => hl.mono pers
  refine ⟨?_, ⟨fun m d h => ?_, trivial⟩, fun ρ w hO => (h3 ρ w hO).mono ?_⟩
  · cases v with
    | v x => exact hcl h1
    | tup l => exact fun x hx => hcl (h1 x hx)
    | unk => trivial
  · rcases src m d h with ⟨rfl, rfl⟩ | ⟨_, h⟩
    · rw [hi.1]; intro c hc; cases hc
    · exact hcl (h2.1 m d h)
  · rintro e w' ⟨ρ', rfl, hO', hE⟩
    have hw := own_weak hO' hn hi
    refine ⟨ρ', rfl, hw, ⟨fun m d h => ?_, hE.agree, fun m hm h => ?_, by rw [length_lset]; exact hE.len, hE.frame, fun m d k h hk => ?_, hE.os, hE.tape, hE.output, hE.size⟩⟩
    · obtain ⟨d', hd'⟩ := hE.pers m d h
      exact pers m d' hd'
    · have := hE.non m hm h
      by_cases e : m = n
      · subst e; rw [hn] at this; cases this
      · rw [hget_lset_ne _ (Ne.symm e)]; exact this
    · rcases src m d h with ⟨rfl, rfl⟩ | ⟨_, h⟩
      · exact hE.new m c k hn (((hi.2 ρ' m w' (hO'.q m c hn)).2 k).1 hk)
      · exact hE.new m d k h hk
end Go.Sx
