/- The symbolic executor: abstract objects and their methods; loops by invariants. -/
import Derived.Test.YtmdojlkmgllhnaaGreatDoorSxP
namespace Go.Sx
variable {AV : Type} {P : Program} {N : Env AV}

/-- all but the blocks S is as it was; S' lies in S or is new -/
structure Fr (S S' : Nat → Prop) (w w' : World) : Prop where
  frame : ∀ k, k < w.heap.size → ¬ S k → w'.heap[k]? = w.heap[k]?
  new : ∀ k, S' k → w.heap.size ≤ k ∨ S k
  os : w'.os = w.os
  tape : w'.tape = w.tape
  output : w'.output = w.output
  size : w.heap.size ≤ w'.heap.size
theorem Quiet.fr {w w' : World} (h : Quiet w w') (S : Nat → Prop) : Fr S S w w' :=
  ⟨fun k hk _ => h.block k hk, fun _ hk => .inr hk, h.os, h.tape, h.output, h.size⟩

/-- one abstract thing of a heap is changed, all else stays -/
theorem own_obj {ρ : Nm} {H : Hp AV} {w w' : World} (hO : Own N ρ H w) (hC : ClHp N H) {n : Nat} {a a' : AV} (hn : hget H n = some (.abs a)) {S' : Nat → Prop} (hq : N.F.q a' (ρ.L n) S' w') (hf : Fr (ρ.S n) S' w w') (L : Nat) :
    Own N (ρ.set n (ρ.L n) S') (lset H n (some (.abs a'))) w' ∧ Evo N L ρ H w (ρ.set n (ρ.L n) S') (lset H n (some (.abs a'))) w' ∧ ClHp N (lset H n (some (.abs a'))) := by
  have hlt := hget_lt hn
  have hself := hget_lset_self (H := H) (.abs a') hlt
  have hL : ∀ m, (ρ.set n (ρ.L n) S').L m = ρ.L m := fun m => by by_cases e : m = n <;> simp [Nm.set, e]
  have hSn : (ρ.set n (ρ.L n) S').S n = S' := by simp [Nm.set]
  have hSm : ∀ m, m ≠ n → (ρ.set n (ρ.L n) S').S m = ρ.S m := fun m e => by simp [Nm.set, e]
  have hden : ∀ l, denL (ρ.set n (ρ.L n) S') l = denL ρ l := fun l => by
    unfold denL
    apply List.map_congr_left
    intro c _
    exact den_congr c fun m _ => hL m
  have hold : ∀ m c, m ≠ n → hget (lset H n (some (.abs a'))) m = some c → hget H m = some c := fun m c h e => by rwa [hget_lset_ne _ (Ne.symm h)] at e
  have pers : ∀ m c, hget H m = some c → ∃ c', hget (lset H n (some (.abs a'))) m = some c' := fun m c h => by
    by_cases e : m = n
    · subst e; exact ⟨_, hself⟩
    · exact ⟨c, by rw [hget_lset_ne _ (Ne.symm e)]; exact h⟩
  have other : ∀ m c k, m ≠ n → hget H m = some c → c.fp ρ m k → w'.heap[k]? = w.heap[k]? := fun m c k e hc hk =>
    hf.frame k (hO.lt hc hk) fun hs => hO.dis m n c (.abs a) e hc hn k hk hs
  refine ⟨⟨?_, ?_, ?_⟩, ⟨pers, fun m _ _ => hL m, ?_, ?_, ?_, ?_, hf.os, hf.tape, hf.output, hf.size⟩, ?_, trivial⟩
  · intro m c hc
    by_cases e : m = n
    · subst e
      rw [hself] at hc
      cases hc
      show N.F.q a' ((ρ.set m (ρ.L m) S').L m) ((ρ.set m (ρ.L m) S').S m) w'
      rw [hL, hSn]
      exact hq
    · have hc' := hold m c e hc
      exact q_keep (hO.q m c hc') (hL m) (hSm m e) (hden _) (fun k hk => other m c k e hc' hk)
  · intro m m' c d hmm hc hd k hk hk'
    by_cases e : m = n
    · subst e
      rw [hself] at hc
      cases hc
      have hk : (ρ.set m (ρ.L m) S').S m k := hk
      rw [hSn] at hk
      have hd' := hold m' d (Ne.symm hmm) hd
      rw [fp_congr (hL m') (hSm m' (Ne.symm hmm))] at hk'
      rcases hf.new k hk with h1 | h1
      · have := hO.lt hd' hk'; omega
      · exact hO.dis m m' (.abs a) d hmm hn hd' k h1 hk'
    · have hc' := hold m c e hc
      rw [fp_congr (hL m) (hSm m e)] at hk
      by_cases e' : m' = n
      · subst e'
        rw [hself] at hd
        cases hd
        have hk' : (ρ.set m' (ρ.L m') S').S m' k := hk'
        rw [hSn] at hk'
        rcases hf.new k hk' with h1 | h1
        · have := hO.lt hc' hk; omega
        · exact hO.dis m m' c (.abs a) hmm hc' hn k hk h1
      · have hd' := hold m' d e' hd
        rw [fp_congr (hL m') (hSm m' e')] at hk'
        exact hO.dis m m' c d hmm hc' hd' k hk hk'
  · intro g hg
    have := hL g
    simp only [Nm.f, this]
    exact hO.glb g hg
  · intro m _ hh
    by_cases e : m = n
    · subst e; rw [hn] at hh; cases hh
    · rw [hget_lset_ne _ (Ne.symm e)]; exact hh
  · simp [length_lset]
  · intro k hk hno
    exact hf.frame k hk fun hs => hno n _ hn hs
  · intro m c k hc hk
    by_cases e : m = n
    · subst e
      rw [hself] at hc
      cases hc
      have hk : (ρ.set m (ρ.L m) S').S m k := hk
      rw [hSn] at hk
      rcases hf.new k hk with h1 | h1
      · exact .inl h1
      · exact .inr ⟨m, _, hn, h1⟩
    · have hc' := hold m c e hc
      rw [fp_congr (hL m) (hSm m e)] at hk
      exact .inr ⟨m, c, hc', hk⟩
  · intro m x hc
    by_cases e : m = n
    · subst e
      rw [hself] at hc
      cases hc
      intro c hc; cases hc
    · exact (hC.1 m x (hold m _ e hc)).mono pers

/-- a method of one object, as a summary's step -/
theorem method_ok {f : FuncId} {args : List SV} {H : Hp AV} {v : SV} (hC : ClHp N H) {n : Nat} {a a' : AV} (hn : hget H n = some (.abs a)) (hv : Plain v)
    (hc : ∀ (ρ : Nm) (w : World), N.F.q a (ρ.L n) (ρ.S n) w → (∀ g, g < N.G → ρ g = g) → Calls P f (args.map (SV.den ρ)).toArray w fun e w' => e = .returned (v.den ρ) ∧ ∃ S', N.F.q a' (ρ.L n) S' w' ∧ Fr (ρ.S n) S' w w') :
    ClV (lset H n (some (.abs a'))) v ∧ ClHp N (lset H n (some (.abs a'))) ∧ ∀ (ρ : Nm) (w : World), Own N ρ H w →
      Calls P f (args.map (SV.den ρ)).toArray w fun e w' => ∃ ρ', e = .returned (v.den ρ') ∧ Own N ρ' (lset H n (some (.abs a'))) w' ∧ Evo N H.length ρ H w ρ' (lset H n (some (.abs a'))) w' := by
  have hcl : ClHp N (lset H n (some (.abs a'))) := by
    refine ⟨fun m x h => ?_, trivial⟩
    have pers : ∀ m c, hget H m = some c → ∃ c', hget (lset H n (some (.abs a'))) m = some c' := fun m c h => by
      by_cases e : m = n
      · subst e; exact ⟨_, hget_lset_self _ (hget_lt hn)⟩
      · exact ⟨c, by rw [hget_lset_ne _ (Ne.symm e)]; exact h⟩
    by_cases e : m = n
    · subst e
      rw [hget_lset_self _ (hget_lt hn)] at h
      cases h
      intro c hc; cases hc
    · rw [hget_lset_ne _ (Ne.symm e)] at h
      exact (hC.1 m x h).mono pers
  refine ⟨hv.cl _, hcl, fun ρ w hO => (hc ρ w (hO.q n _ hn) hO.glb).mono ?_⟩
  rintro e w' ⟨rfl, S', hq, hf⟩
  obtain ⟨o1, o2, _⟩ := own_obj hO hC hn hq hf H.length
  exact ⟨_, congrArg Ending.returned (hv.den _ ρ), o1, o2⟩
/-- a maker of an object, as a summary's step: the new name is the first one behind the heap -/
theorem maker_ok {f : FuncId} {args : List SV} {H : Hp AV} (hC : ClHp N H) (hG : N.G ≤ H.length) {a' : AV}
    (hc : ∀ (ρ : Nm) (w : World), (∀ g, g < N.G → ρ g = g) → Calls P f (args.map (SV.den ρ)).toArray w fun e w' => ∃ b S', e = .returned (.pointer (some ⟨b, 0, none⟩)) ∧ N.F.q a' ⟨b, 0, 0⟩ S' w' ∧ Fr (fun _ => False) S' w w') :
    ClV (H ++ [some (.abs a')]) (.v (.c (.ptr H.length 0))) ∧ ClHp N (H ++ [some (.abs a')]) ∧ ∀ (ρ : Nm) (w : World), Own N ρ H w →
      Calls P f (args.map (SV.den ρ)).toArray w fun e w' => ∃ ρ', e = .returned ((SV.v (.c (.ptr H.length 0))).den ρ') ∧ Own N ρ' (H ++ [some (.abs a')]) w' ∧ Evo N H.length ρ H w ρ' (H ++ [some (.abs a')]) w' := by
  have e0 : lset (H ++ nones AV 1) H.length (some (.abs a')) = H ++ [some (.abs a')] := by
    rw [lset_eq, List.set_append_right _ _ (Nat.le_refl _)]
    simp [nones]
  have hg0 : ∀ n, hget (H ++ nones AV 1) n = hget H n := hget_nones H 1
  have hC0 : ClHp N (H ++ nones AV 1) := by
    refine ⟨fun n x h => ?_, trivial⟩
    rw [hg0] at h
    exact (hC.1 n x h).mono fun m c hm => ⟨c, by rw [hg0]; exact hm⟩
  have hnone : hget (H ++ nones AV 1) H.length = none := by
    rw [hg0]
    cases h : hget H H.length with
    | none => rfl
    | some c => have := hget_lt h; omega
  have hlt : H.length < (H ++ nones AV 1).length := by simp [nones_len]
  have hself := hget_lset_self (H := H ++ nones AV 1) (.abs a') hlt
  rw [e0] at hself
  have hcl : ClHp N (H ++ [some (.abs a')]) := by
    refine ⟨fun n x h => ?_, trivial⟩
    have pers : ∀ m c, hget H m = some c → ∃ c', hget (H ++ [some (.abs a')]) m = some c' := fun m c h => ⟨c, by
      rw [← e0, hget_lset_ne _ (by have := hget_lt h; omega), hg0]; exact h⟩
    by_cases e : n = H.length
    · subst e
      rw [hself] at h
      cases h
      intro c hc; cases hc
    · rw [← e0, hget_lset_ne _ (Ne.symm e), hg0] at h
      exact (hC.1 n x h).mono pers
  refine ⟨?_, hcl, fun ρ w hO => (hc ρ w hO.glb).mono ?_⟩
  · intro c hc n hn
    simp [V1.cells] at hc
    subst hc
    simp [Cell.name] at hn
    subst hn
    exact ⟨_, hself⟩
  rintro e w' ⟨b, S', rfl, hq, hf⟩
  have hO0 : Own N ρ (H ++ nones AV 1) w := ⟨fun n c h => hO.q n c (by rw [← hg0 n]; exact h), fun n m c d hnm h h' => hO.dis n m c d hnm (by rw [← hg0 n]; exact h) (by rw [← hg0 m]; exact h'), hO.glb⟩
  obtain ⟨o1, o2, _⟩ := own_new (L := H.length) hO0 hC0 hnone hlt (by omega) (ck := .abs a') (by intro c hc; cases hc) (Nat.le_refl _) (w' := w') (lc := ⟨b, 0, 0⟩) (S := S')
    (fun k hk => hf.frame k hk (fun h => h)) hf.os hf.tape hf.output hf.size
    (by show N.F.q a' ((ρ.set H.length ⟨b, 0, 0⟩ S').L H.length) ((ρ.set H.length ⟨b, 0, 0⟩ S').S H.length) w'; rw [(ρ.set_self _ _ _).1, (ρ.set_self _ _ _).2]; exact hq)
    (by
      intro k hk
      have hk : (ρ.set H.length ⟨b, 0, 0⟩ S').S H.length k := hk
      rw [(ρ.set_self _ _ _).2] at hk
      rcases hf.new k hk with h1 | h1
      · exact h1
      · exact h1.elim)
  rw [e0] at o1 o2
  refine ⟨_, ?_, o1, ?_⟩
  · simp [SV.den, V1.den, Cell.den, Nm.f, Nm.set]
  · refine ⟨fun n c h => ?_, fun n c h => o2.agree n c (by rw [hg0]; exact h), fun n hn h => o2.non n hn (by rw [hg0]; exact h), by simp, ?_, ?_, o2.os, o2.tape, o2.output, o2.size⟩
    · exact o2.pers n c (by rw [hg0]; exact h)
    · intro k hk hno
      exact o2.frame k hk fun n c h => hno n c (by rw [← hg0 n]; exact h)
    · intro n c k h hk
      rcases o2.new n c k h hk with h1 | ⟨m, d, hd, hk'⟩
      · exact .inl h1
      · exact .inr ⟨m, d, by rw [← hg0 m]; exact hd, hk'⟩

/-- a state that says less -/
structure Less (s t : St AV) : Prop where
  H : t.H = s.H
  E : ∀ k, look t.E k = .unk ∨ look t.E k = look s.E k
theorem Less.at {s t : St AV} (h : Less s t) {nt : Nat} {ρ : Nm} {a : Act} {w : World} (ha : At N nt ρ s a w) : At N nt ρ t a w := by
  refine ⟨⟨ha.em.size, fun k hk => ?_⟩, by rw [h.H]; exact ha.own⟩
  rcases h.E k with e | e
  · exact absurd e hk
  · rw [e] at hk ⊢
    exact ha.em.get k hk
theorem Less.closed {s t : St AV} (h : Less s t) (hc : Closed N s) : Closed N t := by
  refine ⟨fun k => ?_, by rw [h.H]; exact hc.H⟩
  rcases h.E k with e | e
  · rw [e]; trivial
  · rw [e, h.H]; exact hc.E k
/-- a list of temporaries, of which the others are forgotten -/
def only (ks : List Nat) (E : Ev) : Nat → Ev
  | 0 => []
  | k + 1 => (k, match hasN ks k with | true => look E k | false => .unk) :: only ks E k
theorem only_look (ks : List Nat) (E : Ev) : ∀ (n k : Nat), look (only ks E n) k = if k < n then (match hasN ks k with | true => look E k | false => .unk) else undefV
  | 0, k => by simp [only, look]
  | n + 1, k => by
    simp only [only, look]
    by_cases h : n = k
    · subst h; simp [Nat.beq_refl]
    · rw [(beq_false_iff n k).2 h, only_look ks E n k]
      by_cases h1 : k < n
      · rw [if_pos h1, if_pos (by omega)]
      · rw [if_neg h1, if_neg (by omega)]
theorem only_at {ks : List Nat} {nt : Nat} {ρ : Nm} {s : St AV} {a : Act} {w : World} (h : At N nt ρ s a w) : At N nt ρ { s with E := only ks s.E nt } a w := by
  refine ⟨⟨h.em.size, fun k hk => ?_⟩, h.own⟩
  simp only [only_look] at hk ⊢
  split
  · rename_i hl
    rw [if_pos hl] at hk
    split
    · rename_i hh
      rw [hh] at hk
      exact h.em.get k hk
    · rename_i hh
      rw [hh] at hk
      exact absurd rfl hk
  · rename_i hl
    have : a.tmps[k]? = none := by rw [Array.getElem?_eq_none]; rw [h.em.size]; omega
    simp [Array.getD_eq_getD_getElem?, this, undefV, SV.den, undef]
theorem only_cl {ks : List Nat} {nt : Nat} {s : St AV} (h : Closed N s) : Closed N { s with E := only ks s.E nt } := by
  refine ⟨fun k => ?_, h.H⟩
  simp only [only_look]
  split
  · split
    · exact h.E k
    · trivial
  · exact undef_cl _

/-- A LOOP BY AN INVARIANT: a family of states; each round leads from one to one with a smaller measure, or out of the loop to a state that is at hand. -/
theorem loop_inv (hT : TblOk P N) {cal : Callee AV} (hcal : CalOk P N cal) {lp : Nat → Option (St AV → T (Ex × St AV))} {nt : Nat} {c : Code} (hlp : LpOk P N nt c lp) {ι : Type} (fam : ι → St AV) (ks : List Nat) (μ : ι → Nat) (Fin : Ex → St AV → Prop)
    (hstep : ∀ i, ∃ ex s', (xc N cal lp nt c (fam i)).val = some (ex, s') ∧ match ex with
      | .normal => ∃ i', μ i' < μ i ∧ ({ s' with E := only ks s'.E nt } : St AV) = fam i'
      | e => Fin e s')
    (L : Nat) : ∀ (n : Nat) (i : ι), μ i < n → Closed N (fam i) → L ≤ (fam i).H.length → ∀ (ρ : Nm) (a : Act) (w : World), At N nt ρ (fam i) a w → ∀ (Q : Exit → Act → World → Prop),
      (∀ ex s' a' w', Fin ex s' → Closed N s' → L ≤ s'.H.length → Lands N nt L ρ (fam i) w a s' a' w' → Q (exOf ex) a' w') → Code.rounds P c Q n a w
  | 0, i, h, _, _, _, _, _, _, _, _ => by omega
  | n + 1, i, hm, hcl, hH, ρ, a, w, hat, Q, hQ => by
    obtain ⟨ex, s', h1, h2⟩ := hstep i
    obtain ⟨c1, l1, k1⟩ := xc_wp (P := P) hT hcal (nt := nt) (L := L) c hlp (fam i) s' ex h1 hcl hH
    refine wp_mono (k1 hat) ?_
    rintro e a₁ w₁ ⟨rfl, hl⟩
    cases ex with
    | normal =>
      obtain ⟨i', hmu, he⟩ := h2
      obtain ⟨⟨ρ₁, e1, o1, v1⟩, d1⟩ := hl
      have hat' : At N nt ρ₁ (fam i') a₁ w₁ := by rw [← he]; exact only_at ⟨e1, o1⟩
      have hcl' : Closed N (fam i') := by rw [← he]; exact only_cl c1
      have hH' : L ≤ (fam i').H.length := by rw [← he]; exact l1
      refine loop_inv hT hcal hlp fam ks μ Fin hstep L n i' (by omega) hcl' hH' ρ₁ a₁ w₁ hat' Q fun ex s'' a' w' hf hc hh hl => hQ ex s'' a' w' hf hc hh ?_
      obtain ⟨⟨ρ₂, e2, o2, v2⟩, d2⟩ := hl
      refine ⟨⟨ρ₂, e2, o2, ?_⟩, d2.trans d1⟩
      have : (fam i').H = s'.H := by rw [← he]
      rw [this] at v2
      exact v1.trans v2
    | exit id => exact hQ _ s' a₁ w₁ h2 c1 l1 hl
    | ret => exact hQ _ s' a₁ w₁ h2 c1 l1 hl
end Go.Sx
