/- The symbolic executor: what the way at hand says of temporaries only spares forks. -/
import Derived.Test.YtfamkibdecgbgaaGreatDoorSxL3
namespace Go.Sx
variable {AV : Type} {N : Env AV}
def Cons (A : Asm) (E : Ev) : Prop := ∀ d x, lookA A d = some x → ∃ c k, look E d = .v (.c c) ∧ boolC c = some (x, k)
theorem dropA_look : ∀ (A : Asm) (n d : Nat), lookA (dropA A n) d = if n = d then none else lookA A d
  | [], n, d => by simp [dropA, lookA]
  | (k, b) :: r, n, d => by
    simp only [dropA]
    by_cases h : k = n
    · subst h
      rw [Nat.beq_refl]
      simp only [lookA]
      rw [dropA_look r k d]
      by_cases e : k = d
      · simp [e]
      · rw [if_neg e, if_neg e, (beq_false_iff k d).2 e]
    · rw [(beq_false_iff k n).2 h]
      simp only [lookA]
      by_cases e : k = d
      · subst e
        rw [Nat.beq_refl]
        simp only
        rw [if_neg (Ne.symm h)]
      · rw [(beq_false_iff k d).2 e]
        simp only
        exact dropA_look r n d
theorem Cons.put {A : Asm} {E : Ev} (h : Cons A E) (dst : Option Nat) (v : SV) : Cons (dropD A dst) (putE E dst v) := by
  intro d x hd
  cases dst with
  | none => exact h d x hd
  | some n =>
    simp only [dropD, dropA_look] at hd
    split at hd
    · cases hd
    · rename_i hne
      rw [look_put, if_neg hne]
      exact h d x hd
theorem Cons.cons {A : Asm} {E : Ev} (h : Cons A E) {d : Nat} {x : Bool} (hd : ∃ c k, look E d = .v (.c c) ∧ boolC c = some (x, k)) : Cons ((d, x) :: A) E := by
  intro n y hn
  simp only [lookA] at hn
  split at hn
  · rename_i he
    cases hn
    rw [← (beq_iff _ _).1 he]
    exact hd
  · exact h n y hn
theorem execA_val {cal : Callee AV} {base : Nat} {all : List Oper} {i : Nat} {o : Oper} {A B : Asm} {s : St AV} (hA : Cons A s.E) :
    (execA N cal base all i o A B s).val = ((stepOp N cal (nmOf all base i) o s).val.map fun s' => (s', entOf N (nmOf all base i) (evl N.G s.H s.E) s.H s'.H o.op, dropD B o.dst)) := by
  unfold execA
  split
  · rename_i t ht
    unfold pickK at ht
    split at ht
    · rename_i c a b hop
      split at ht
      · cases ht
      · rename_i x hx
        simp only [Option.some.injEq] at ht
        subst ht
        obtain ⟨cc, k, hl, hb⟩ := hA c x hx
        have hent : ∀ H' : Hp AV, entOf N (nmOf all base i) (evl N.G s.H s.E) s.H H' o.op = .pure := fun _ => by rw [hop]; rfl
        simp only [hent]
        unfold stepOp
        rw [hop]
        simp only [callee?, heavy, light, pureOp, T.val_bind, T.val_map]
        have hev : evl N.G s.H s.E (.tmp c) = some (.v (.c cc)) := by simp [evl, hl]
        rw [hev]
        cases evl N.G s.H s.E a with
        | none => rfl
        | some p =>
          cases evl N.G s.H s.E b with
          | none => rfl
          | some q =>
            simp only [hb]
            cases x <;> cases k <;> simp [T.val, updH]
    · cases ht
  · rw [T.val_map]
theorem gTmp_wanted {all : List Oper} {o : Oper} {E : Ev} {b : Bool} (h : wantedS all o E = some (b, false)) : ∃ d want c x, gTmp all o = some (d, want) ∧ look E d = .v (.c c) ∧ boolC c = some (x, false) ∧ b = (x == want) := by
  unfold wantedS at h
  unfold gTmp
  cases hg : o.guard with
  | none => simp [hg] at h
  | some p =>
    obtain ⟨j, want⟩ := p
    simp only [hg] at h ⊢
    cases hj : nth all j with
    | none => simp [hj] at h
    | some oj =>
      simp only [hj] at h ⊢
      cases hd : oj.dst with
      | none => simp [hd] at h
      | some d =>
        simp only [hd] at h ⊢
        split at h
        · cases h
        · rename_i c hl
          split at h
          · rename_i x k hb
            simp only [Option.some.injEq, Prod.mk.injEq] at h
            obtain ⟨h1, rfl⟩ := h
            exact ⟨d, want, c, x, rfl, hl, hb, h1.symm⟩
          · simp at h
        · simp at h
theorem step1A_val {cal : Callee AV} {base : Nat} {all : List Oper} {i : Nat} {o : Oper} {A : Asm} {s : St AV} (hA : Cons A s.E) :
    (∀ s' en B, (step1A N cal base all i o A s).val = some (s', en, B) → (step1 N cal base all i o s).val = some (s', en) ∧ Cons B s'.E) := by
  intro s' en B h
  rw [step1_val]
  unfold step1v
  unfold step1A at h
  have fin : ∀ C, Cons C s.E → (execA N cal base all i o A C s).val = some (s', en, B) → ((stepOp N cal (nmOf all base i) o s).val.map fun s' => (s', entOf N (nmOf all base i) (evl N.G s.H s.E) s.H s'.H o.op)) = some (s', en) ∧ Cons B s'.E := by
    intro C hC he
    rw [execA_val hA] at he
    obtain ⟨s1, hs, he⟩ := Option.map_eq_some_iff.1 he
    cases he
    refine ⟨by rw [hs]; rfl, ?_⟩
    have : ∃ v, s'.E = putE s.E o.dst v := by
      unfold stepOp at hs
      split at hs
      · obtain ⟨r, _, hs⟩ := T.bind_some hs
        simp only [T.val, Option.some.injEq] at hs
        exact ⟨r.1, by rw [← hs]⟩
      · simp [T.val] at hs
      · obtain ⟨r, _, hs⟩ := T.bind_some hs
        simp only [T.val, Option.some.injEq] at hs
        exact ⟨r.1, by rw [← hs]⟩
    obtain ⟨v, hv⟩ := this
    rw [hv]
    exact hC.put _ _
  split at h
  · simp [T.val] at h
  · rename_i b hw
    simp only [hw]
    cases b with
    | true => exact fin A hA h
    | false =>
      simp only [T.val, Option.some.injEq, Prod.mk.injEq] at h
      obtain ⟨rfl, rfl, rfl⟩ := h
      exact ⟨rfl, hA.put _ _⟩
  · rename_i b hw
    simp only [hw]
    obtain ⟨d, want, c, x, hg, hl, hb, rfl⟩ := gTmp_wanted hw
    simp only [hg] at h
    split at h
    · rename_i y hy
      obtain ⟨c', k', hl', hb'⟩ := hA d y hy
      rw [hl] at hl'
      cases hl'
      rw [hb] at hb'
      cases hb'
      cases hxw : (x == want) with
      | true => simp only [hxw] at h ⊢; exact fin A hA h
      | false =>
        simp only [hxw, T.val, Option.some.injEq, Prod.mk.injEq] at h ⊢
        obtain ⟨rfl, rfl, rfl⟩ := h
        exact ⟨rfl, hA.put _ _⟩
    · have hx : ∀ y, x = y → Cons ((d, y) :: A) s.E := fun y e => hA.cons ⟨c, false, hl, by rw [hb, e]⟩
      cases hxw : (x == want) with
      | true =>
        have e : x = want := by simpa using hxw
        simp only [hxw, T.val] at h ⊢
        exact fin _ (hx want e) h
      | false =>
        have e : x = !want := by cases x <;> cases want <;> simp_all
        simp only [hxw, T.val, Option.some.injEq, Prod.mk.injEq] at h ⊢
        obtain ⟨rfl, rfl, rfl⟩ := h
        exact ⟨rfl, (hx _ e).put _ _⟩
theorem stepOpsA_val {cal : Callee AV} {base : Nat} {all : List Oper} (s₀ : St AV) : ∀ (r : List Oper) (i : Nat) (A : Asm) (q : Bool) (s s' : St AV) (q' : Bool), Cons A s.E → (∃ X, s.E = X ++ s₀.E) → (q = true → s.H = s₀.H) → (stepOpsA N cal base all i r A q s).val = some (s', q') →
    (stepOps N cal base all i r s).val = some s' ∧ (∃ X, s'.E = X ++ s₀.E) ∧ (q' = true → s'.H = s₀.H)
  | [], _, _, q, s, s', q', _, hX, hq, h => by
    simp only [stepOpsA, T.val, Option.some.injEq, Prod.mk.injEq] at h
    obtain ⟨rfl, rfl⟩ := h
    exact ⟨rfl, hX, hq⟩
  | o :: r, i, A, q, s, s', q', hA, ⟨X, hX⟩, hq, h => by
    simp only [stepOpsA] at h
    obtain ⟨⟨s1, en, B⟩, h1, h2⟩ := T.bind_some h
    obtain ⟨k1, k2⟩ := step1A_val hA s1 en B h1
    obtain ⟨⟨Y, hY⟩, hH⟩ := step1_quiet k1
    simp only [stepOps]
    rw [T.val_bind, k1]
    refine stepOpsA_val s₀ r (i + 1) B _ s1 s' q' k2 ⟨Y ++ X, by rw [hY, hX, List.append_assoc]⟩ (fun hqs => ?_) h2
    cases q with
    | false => simp [quietS] at hqs
    | true => rw [hH hqs, hq rfl]
theorem stepOpsDA_val {cal : Callee AV} {base : Nat} {all : List Oper} (s₀ : St AV) : ∀ (r : List Oper) (i : Nat) (log : List (Nat × Ent)) (A : Asm) (q : Bool) (s s' : St AV) (q' : Bool), Cons A s.E → (∃ X, s.E = X ++ s₀.E) → (q = true → s.H = s₀.H) → (stepOpsDA N cal base all i r log A q s).val = some (s', q') →
    (stepOpsD N cal base all i r log s).val = some s' ∧ (∃ X, s'.E = X ++ s₀.E) ∧ (q' = true → s'.H = s₀.H)
  | [], _, _, _, q, s, s', q', _, hX, hq, h => by
    simp only [stepOpsDA, T.val, Option.some.injEq, Prod.mk.injEq] at h
    obtain ⟨rfl, rfl⟩ := h
    exact ⟨rfl, hX, hq⟩
  | o :: r, i, log, A, q, s, s', q', hA, ⟨X, hX⟩, hq, h => by
    simp only [stepOpsDA] at h
    simp only [stepOpsD]
    split at h
    · simp [T.val] at h
    · obtain ⟨⟨s1, en, B⟩, h1, h2⟩ := T.bind_some h
      obtain ⟨k1, k2⟩ := step1A_val hA s1 en B h1
      obtain ⟨⟨Y, hY⟩, hH⟩ := step1_quiet k1
      simp only at h2
      split at h2
      · rename_i hlog
        rw [T.val_bind, k1]
        simp only [Option.bind_some, hlog]
        refine stepOpsDA_val s₀ r (i + 1) _ B _ s1 s' q' k2 ⟨Y ++ X, by rw [hY, hX, List.append_assoc]⟩ (fun hqs => ?_) h2
        cases q with
        | false => simp [quietS] at hqs
        | true => rw [hH hqs, hq rfl]
      · simp [T.val] at h2
theorem cons_nil (E : Ev) : Cons [] E := fun d x h => by simp [lookA] at h
end Go.Sx
