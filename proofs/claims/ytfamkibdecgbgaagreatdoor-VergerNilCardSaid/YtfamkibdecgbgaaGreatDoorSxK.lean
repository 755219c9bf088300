/- The symbolic executor: guards; regions in the order of the text. -/
import Derived.Test.YtfamkibdecgbgaaGreatDoorSxJ
namespace Go.Sx
variable {AV : Type} {P : Program} {N : Env AV}

theorem wanted_eq {ρ : Nm} {nt : Nat} {E : Ev} {a : Act} (hE : EM ρ nt E a) (ops : Array Oper) (o : Oper) {b k : Bool} (h : wantedS ops.toList o E = some (b, k)) : Region.wanted o (yielded ops a.tmps) = b := by
  unfold wantedS at h
  unfold Region.wanted
  cases hg : o.guard with
  | none => simp only [hg, Option.some.injEq, Prod.mk.injEq] at h; exact h.1
  | some p =>
    obtain ⟨j, want⟩ := p
    simp only [hg, nth_eq, Array.getElem?_toList] at h
    simp only [yielded]
    cases hj : ops[j]? with
    | none => simp only [hj, Option.some.injEq, Prod.mk.injEq] at h; simp [← h.1]
    | some oj =>
      simp only [hj] at h
      simp only [Option.bind_some]
      cases hd : oj.dst with
      | none => simp only [hd, Option.some.injEq, Prod.mk.injEq] at h; simp [← h.1]
      | some d =>
        simp only [hd] at h
        simp only [Option.bind_some]
        cases hl : look E d with
        | unk => simp [hl] at h
        | tup l =>
          have hget := hE.get d (by rw [hl]; simp)
          rw [hl] at hget h
          simp only [Option.some.injEq, Prod.mk.injEq] at h
          cases ht : a.tmps[d]? with
          | none => simp [← h.1]
          | some v =>
            have : a.tmps.getD d undef = v := by simp [ht]
            rw [this] at hget
            subst hget
            simp [SV.den, ← h.1]
        | v x =>
          have hget := hE.get d (by rw [hl]; simp)
          rw [hl] at hget h
          cases ht : a.tmps[d]? with
          | none =>
            have : a.tmps.getD d undef = undef := by simp [ht]
            rw [this] at hget
            cases x with
            | agg l => simp [SV.den, V1.den, undef] at hget
            | c x =>
              cases x with
              | vs n o len es kn =>
                simp only [SV.den, V1.den, Cell.den, undef, vsDen] at hget
                split at hget <;> cases hget
              | _ => simp [SV.den, V1.den, Cell.den, undef] at hget
          | some v =>
            have : a.tmps.getD d undef = v := by simp [ht]
            rw [this] at hget
            subst hget
            cases x with
            | agg l => simp only [Option.some.injEq, Prod.mk.injEq] at h; simp [SV.den, V1.den, ← h.1]
            | c x =>
              cases x with
              | vs n o len es kn =>
                simp [boolC] at h
                by_cases hz : len = 0 ∧ (ρ.L n).c = 0 <;> simp [SV.den, V1.den, Cell.den, vsDen, hz, ← h.1]
              | _ => simp [boolC] at h <;> simp [SV.den, V1.den, Cell.den, ← h.1]
/-- an operation's step, its guard and all -/
def step1v (N : Env AV) (cal : Callee AV) (base : Nat) (all : List Oper) (i : Nat) (o : Oper) (s : St AV) : Option (St AV × Ent) :=
  match wantedS all o s.E with
  | none => none
  | some (b, _) => if b = true then ((stepOp N cal (nmOf all base i) o s).val.map fun s' => (s', entOf N (nmOf all base i) (evl N.G s.H s.E) s.H s'.H o.op)) else some ({ s with E := putE s.E o.dst undefV }, .pure)
theorem step1_val {cal : Callee AV} {base : Nat} {all : List Oper} {i : Nat} {o : Oper} {s : St AV} : (step1 N cal base all i o s).val = step1v N cal base all i o s := by
  unfold step1 step1v
  cases wantedS all o s.E with
  | none => rfl
  | some p =>
    obtain ⟨b, k⟩ := p
    cases k <;> cases b <;> simp [T.val, T.val_map]
theorem nmOf_ge : ∀ (all : List Oper) (b i : Nat), b ≤ nmOf all b i
  | [], b, _ => Nat.le_refl _
  | _ :: _, b, 0 => Nat.le_refl _
  | o :: r, b, i + 1 => by
    simp only [nmOf]
    split
    · exact Nat.le_trans (Nat.le_succ b) (nmOf_ge r (b + 1) i)
    · exact nmOf_ge r b i

/-- one operation of a region, its guard and all -/
theorem step1_wp (hT : TblOk P N) {cal : Callee AV} (hcal : CalOk P N cal) {nt L base i : Nat} {ops : Array Oper} {o : Oper} {s s' : St AV} {en : Ent} (h : (step1 N cal base ops.toList i o s).val = some (s', en)) (hcl : Closed N s) (hL : L ≤ base) (hH : L ≤ s.H.length) (hd : ∀ d, o.dst = some d → d < nt) :
    Closed N s' ∧
    ∀ {ρ : Nm} {a : Act} {w : World}, At N nt ρ s a w → ∀ {K : Act → World → Prop} {Q : Exit → Act → World → Prop},
      (∀ a' w', Lands N nt L ρ s w a s' a' w' → K a' w') → if Region.wanted o (yielded ops a.tmps) = true then o.wp P a w K Q else K (a.put o.dst undef) w := by
  rw [step1_val] at h
  unfold step1v at h
  split at h
  · cases h
  · rename_i b k hw
    split at h
    · rename_i hb
      obtain ⟨s1, hs, he⟩ := Option.map_eq_some_iff.1 h
      cases he
      obtain ⟨h1, h2⟩ := stepOp_wp (P := P) (nt := nt) hT hcal hs hcl (Nat.le_trans hL (nmOf_ge _ _ _)) hH hd
      refine ⟨h1, fun {ρ a w} hat K Q hK => ?_⟩
      rw [wanted_eq hat.em ops o hw, if_pos hb]
      exact h2 hat hK
    · rename_i hb
      cases h
      refine ⟨⟨cl_put hcl.E (fun n c h => ⟨c, h⟩) (undef_cl _), hcl.H⟩, fun {ρ a w} hat K Q hK => ?_⟩
      rw [wanted_eq hat.em ops o hw, if_neg hb]
      exact hK _ _ ⟨⟨ρ, hat.em.put hd hcl.E (fun _ _ _ => rfl) undefV, hat.own, Evo.refl _ _ _ _⟩, by cases o.dst <;> rfl⟩

theorem Lands.trans {nt L : Nat} {ρ : Nm} {s s₁ s₂ : St AV} {w w₁ w₂ : World} {a a₁ a₂ : Act} (h : ∀ ρ₁, EM ρ₁ nt s₁.E a₁ → Own N ρ₁ s₁.H w₁ → Evo N L ρ s.H w ρ₁ s₁.H w₁ → Lands N nt L ρ₁ s₁ w₁ a₁ s₂ a₂ w₂) (h₁ : Lands N nt L ρ s w a s₁ a₁ w₁) : Lands N nt L ρ s w a s₂ a₂ w₂ := by
  obtain ⟨⟨ρ₁, e1, o1, v1⟩, d1⟩ := h₁
  obtain ⟨⟨ρ₂, e2, o2, v2⟩, d2⟩ := h ρ₁ e1 o1 v1
  exact ⟨⟨ρ₂, e2, o2, v1.trans v2⟩, d2.trans d1⟩

theorem step1_len {cal : Callee AV} {base : Nat} {all : List Oper} {i : Nat} {o : Oper} {s : St AV} {r : St AV × Ent} (h : (step1 N cal base all i o s).val = some r) : s.H.length ≤ r.1.H.length := by
  rw [step1_val] at h
  unfold step1v at h
  split at h
  · cases h
  · split at h
    · obtain ⟨s1, hs, he⟩ := Option.map_eq_some_iff.1 h
      cases he
      exact stepOp_len hs
    · cases h; exact Nat.le_refl _
theorem stepOps_wp (hT : TblOk P N) {cal : Callee AV} (hcal : CalOk P N cal) {nt L base : Nat} (ops : Array Oper) (hL : L ≤ base) :
    ∀ (r : List Oper) (i : Nat) (s s' : St AV), (stepOps N cal base ops.toList i r s).val = some s' → Closed N s → L ≤ s.H.length → (∀ o ∈ r, ∀ d, o.dst = some d → d < nt) →
      Closed N s' ∧ ∀ {ρ : Nm} {a : Act} {w : World}, At N nt ρ s a w → ∀ {Q : Exit → Act → World → Prop}, (∀ a' w', Lands N nt L ρ s w a s' a' w' → Q .normal a' w') → wpList P ops Q r a w
  | [], i, s, s', h, hcl, _, _ => by
    simp only [stepOps, T.val, Option.some.injEq] at h
    subst h
    exact ⟨hcl, fun {ρ a w} hat Q hQ => hQ _ _ ⟨⟨ρ, hat.em, hat.own, Evo.refl _ _ _ _⟩, rfl⟩⟩
  | o :: r, i, s, s', h, hcl, hH, hd => by
    simp only [stepOps] at h
    obtain ⟨⟨s₁, en⟩, h1, h2⟩ := T.bind_some h
    obtain ⟨c1, k1⟩ := step1_wp (P := P) hT hcal h1 hcl hL hH (hd o (by simp))
    have hlen : L ≤ s₁.H.length := Nat.le_trans hH (step1_len h1)
    obtain ⟨c2, k2⟩ := stepOps_wp hT hcal ops hL r (i + 1) s₁ s' h2 c1 hlen (fun o' ho => hd o' (by simp [ho]))
    refine ⟨c2, fun {ρ a w} hat Q hQ => ?_⟩
    unfold wpList
    have := k1 hat (K := wpList P ops Q r) (Q := Q) (fun a₁ w₁ h₁ => by
      obtain ⟨⟨ρ₁, e1, o1, v1⟩, d1⟩ := h₁
      refine k2 ⟨e1, o1⟩ fun a₂ w₂ h₂ => hQ a₂ w₂ ?_
      obtain ⟨⟨ρ₂, e2, o2, v2⟩, d2⟩ := h₂
      exact ⟨⟨ρ₂, e2, o2, v1.trans v2⟩, d2.trans d1⟩)
    split
    · rename_i hw; rw [if_pos hw] at this; exact .inl this
    · rename_i hw; rw [if_neg hw] at this; exact this
end Go.Sx
