/- The symbolic executor: the ways of a region that writes no memory may be joined. -/
import Derived.Test.YtmdojlkmgllhnaaGreatDoorSxL1
namespace Go.Sx
variable {AV : Type} {N : Env AV}

theorem joinC_spec {b : Bool} {x y c : Cell} (h : joinC b x y = some c) : c.name = none ∧ ∀ ρ : Nm, c.den ρ = (if b = true then x else y).den ρ := by
  unfold joinC at h
  split at h
  · rename_i p kp q kq h1 h2
    split at h
    · rename_i hk
      have hpq : p = q := by
        unfold andK at hk
        split at hk
        · exact eq_of_beq hk
        · cases hk
      subst hpq
      cases h
      refine ⟨rfl, fun ρ => ?_⟩
      cases b
      · simp [Cell.den, boolC_den ρ h2]
      · simp [Cell.den, boolC_den ρ h1]
    · cases h
      refine ⟨rfl, fun ρ => ?_⟩
      cases b
      · simp [Cell.den, boolC_den ρ h2]
      · simp [Cell.den, boolC_den ρ h1]
  · split at h
    · rename_i k p _ k' q _ h1 h2
      split at h
      · rename_i hk
        have hk := of_decide_eq_true hk
        subst hk
        cases h
        refine ⟨rfl, fun ρ => ?_⟩
        cases b
        · simp [Cell.den, intC_den ρ h2]
        · simp [Cell.den, intC_den ρ h1]
      · cases h
    · cases h
theorem joinL_spec {b : Bool} : ∀ {x y c : List Cell}, joinL b x y = some c → (∀ d ∈ c, d.name = none) ∧ ∀ ρ : Nm, denL ρ c = denL ρ (if b = true then x else y)
  | [], [], c, h => by
    simp only [joinL, Option.some.injEq] at h; subst h
    cases b <;> simp [denL]
  | [], _ :: _, _, h => by simp [joinL] at h
  | _ :: _, [], _, h => by simp [joinL] at h
  | x :: xs, y :: ys, c, h => by
    simp only [joinL] at h
    split at h
    · rename_i d hd
      split at h
      · rename_i l hl
        cases h
        obtain ⟨a1, a2⟩ := joinC_spec hd
        obtain ⟨b1, b2⟩ := joinL_spec hl
        refine ⟨fun e he => ?_, fun ρ => ?_⟩
        · rcases List.mem_cons.1 he with rfl | he
          · exact a1
          · exact b1 e he
        · have e1 := a2 ρ
          have e2 := b2 ρ
          cases b <;> simp [denL] at e1 e2 ⊢ <;> exact ⟨e1, e2⟩
      · cases h
    · cases h
/-- a joined value is not known, or it is the one of the way that is taken -/
theorem joinV_spec (H : Hp AV) (b : Bool) (x y : SV) : ClV H (joinV b x y) ∧ (joinV b x y = .unk ∨ ((if b = true then x else y) ≠ .unk ∧ joinV b x y ≠ .unk ∧ ∀ ρ : Nm, (joinV b x y).den ρ = (if b = true then x else y).den ρ)) := by
  unfold joinV
  split
  · split
    · rename_i hc
      obtain ⟨a1, a2⟩ := joinC_spec hc
      refine ⟨cl1_nil a1, .inr ⟨by cases b <;> simp, by simp, fun ρ => ?_⟩⟩
      have := a2 ρ
      cases b <;> simpa [SV.den, V1.den] using this
    · exact ⟨trivial, .inl rfl⟩
  · split
    · rename_i hc
      obtain ⟨a1, a2⟩ := joinL_spec hc
      refine ⟨clL_nil a1, .inr ⟨by cases b <;> simp, by simp, fun ρ => ?_⟩⟩
      have := a2 ρ
      cases b <;> simp [SV.den, V1.den] at this ⊢ <;> rw [this]
    · exact ⟨trivial, .inl rfl⟩
  · exact ⟨trivial, .inl rfl⟩
theorem joinZ_look (b : Bool) (E : Ev) : ∀ {W X Z : Ev}, joinZ b W X = some Z → ∀ k, look (Z ++ E) k = joinV b (look (W ++ E) k) (look (X ++ E) k) ∨ (look (Z ++ E) k = look E k ∧ look (W ++ E) k = look E k ∧ look (X ++ E) k = look E k)
  | [], [], Z, h, k => by
    simp only [joinZ, Option.some.injEq] at h
    subst h
    exact .inr ⟨rfl, rfl, rfl⟩
  | [], _ :: _, _, h, _ => by simp [joinZ] at h
  | _ :: _, [], _, h, _ => by simp [joinZ] at h
  | (j, v) :: r, (j', u) :: q, Z, h, k => by
    simp only [joinZ] at h
    split at h
    · rename_i hj
      have hj := (beq_iff _ _).1 hj
      subst hj
      split at h
      · rename_i z hz
        cases h
        simp only [List.cons_append, look]
        by_cases e : j = k
        · subst e
          rw [Nat.beq_refl]
          exact .inl rfl
        · rw [(beq_false_iff j k).2 e]
          exact joinZ_look b E hz k
      · cases h
    · cases h
theorem addN_some {n m : Option Bool} {z : Option Ev} {W : Ev} (h : addN n z = some (m, W)) : n = m ∧ z = some W := by
  cases z with
  | none => simp [addN] at h
  | some x => simp only [addN, Option.some.injEq, Prod.mk.injEq] at h; exact ⟨h.1, by rw [h.2]⟩
theorem firstN_append : ∀ (X E : Ev), firstN ((X ++ E).length - E.length) (X ++ E) = X
  | [], E => by simp [firstN]
  | x :: X, E => by
    have := firstN_append X E
    have e : ((x :: X) ++ E).length - E.length = X.length + 1 := by simp; omega
    have e' : (X ++ E).length - E.length = X.length := by simp
    rw [e'] at this
    rw [e]
    simp only [List.cons_append, firstN, this]

def needOk : Option Bool → Prop
  | none => True
  | some b => b = true
/-- what was written on all ways agrees with the way that is taken -/
theorem joinT_spec (H : Hp AV) (E : Ev) (hE : ∀ k, ClV H (look E k)) : ∀ {t : T (St AV × Bool)} {n : Option Bool} {W : Ev}, joinT E t = some (n, W) → needOk n →
    ∃ s, t.val = some (s, true) ∧ ((∀ X, s.E = X ++ E → (∀ k, ClV H (look s.E k)) → (∀ k, ClV H (look (W ++ E) k)) ∧ ∀ k, look (W ++ E) k = .unk ∨ (look s.E k ≠ .unk ∧ ∀ ρ : Nm, (look (W ++ E) k).den ρ = (look s.E k).den ρ)))
  | .leaf (s, q), n, W, h, hn => by
    cases q with
    | false => simp [joinT] at h
    | true =>
    simp only [joinT, Option.some.injEq, Prod.mk.injEq] at h
    obtain ⟨rfl, rfl⟩ := h
    refine ⟨s, rfl, fun X hX hc => ?_⟩
    rw [hX, firstN_append]
    rw [hX] at hc
    refine ⟨hc, fun k => ?_⟩
    by_cases hk : look (X ++ E) k = .unk
    · exact .inl hk
    · exact .inr ⟨hk, fun _ => rfl⟩
  | .need b t, n, W, h, hn => by
    simp only [joinT] at h
    split at h
    · rename_i W' ht
      cases h
      have hb : b = true := hn
      subst hb
      obtain ⟨s, hs, k⟩ := joinT_spec H E hE ht trivial
      exact ⟨s, hs, k⟩
    · rename_i m W' ht
      cases h
      cases b with
      | false => cases hn
      | true =>
        obtain ⟨s, hs, k⟩ := joinT_spec H E hE ht hn
        exact ⟨s, hs, k⟩
    · cases h
  | .ite b t e, n, W, h, hn => by
    have key : ∀ (n1 n2 : Option Bool) (W1 W2 : Ev), joinT E t = some (n1, W1) → joinT E e = some (n2, W2) → (b = true → needOk n1) → (b = false → needOk n2) → joinZ b W1 W2 = some W →
        ∃ s, (T.ite b t e).val = some (s, true) ∧ ((∀ X, s.E = X ++ E → (∀ k, ClV H (look s.E k)) → (∀ k, ClV H (look (W ++ E) k)) ∧ ∀ k, look (W ++ E) k = .unk ∨ (look s.E k ≠ .unk ∧ ∀ ρ : Nm, (look (W ++ E) k).den ρ = (look s.E k).den ρ))) := by
      intro n1 n2 W1 W2 h1 h2 ht he hW
      have main : ∀ (Wb : Ev) (s : St AV), (Wb = if b = true then W1 else W2) → (∀ X, s.E = X ++ E → (∀ k, ClV H (look s.E k)) → (∀ k, ClV H (look (Wb ++ E) k)) ∧ ∀ k, look (Wb ++ E) k = .unk ∨ (look s.E k ≠ .unk ∧ ∀ ρ : Nm, (look (Wb ++ E) k).den ρ = (look s.E k).den ρ)) →
          (∀ X, s.E = X ++ E → (∀ k, ClV H (look s.E k)) → (∀ k, ClV H (look (W ++ E) k)) ∧ ∀ k, look (W ++ E) k = .unk ∨ (look s.E k ≠ .unk ∧ ∀ ρ : Nm, (look (W ++ E) k).den ρ = (look s.E k).den ρ)) := by
        intro Wb s hWb hs X hX hc
        obtain ⟨_, hs2⟩ := hs X hX hc
        have hl := joinZ_look b E hW
        refine ⟨fun k => ?_, fun k => ?_⟩
        · rcases hl k with h | ⟨h, _, _⟩
          · rw [h]; exact (joinV_spec H b _ _).1
          · rw [h]; exact hE k
        · rcases hl k with h | ⟨h, hw, hx⟩
          · rw [h]
            rcases (joinV_spec H b (look (W1 ++ E) k) (look (W2 ++ E) k)).2 with hj | ⟨hj1, hj2, hj3⟩
            · exact .inl hj
            · have hsel : (if b = true then look (W1 ++ E) k else look (W2 ++ E) k) = look (Wb ++ E) k := by rw [hWb]; cases b <;> rfl
              rw [hsel] at hj1 hj3
              rcases hs2 k with hu | ⟨hu1, hu2⟩
              · exact absurd hu hj1
              · exact .inr ⟨hu1, fun ρ => (hj3 ρ).trans (hu2 ρ)⟩
          · rw [h]
            have hb : look (Wb ++ E) k = look E k := by
              rw [hWb]
              cases b
              · exact hx
              · exact hw
            have := hs2 k
            rw [hb] at this
            exact this
      cases b with
      | true =>
        obtain ⟨s, hs, k⟩ := joinT_spec H E hE h1 (ht rfl)
        exact ⟨s, hs, main W1 s rfl k⟩
      | false =>
        obtain ⟨s, hs, k⟩ := joinT_spec H E hE h2 (he rfl)
        exact ⟨s, hs, main W2 s rfl k⟩
    simp only [joinT] at h
    split at h
    · rename_i W1 W2 h1 h2
      obtain ⟨rfl, hz⟩ := addN_some h
      exact key none none W1 W2 h1 h2 (fun _ => trivial) (fun _ => trivial) hz
    · rename_i n1 W1 W2 h1 h2
      obtain ⟨rfl, hz⟩ := addN_some h
      exact key (some n1) none W1 W2 h1 h2 (fun hb => by subst hb; exact hn) (fun _ => trivial) hz
    · rename_i W1 n2 W2 h1 h2
      obtain ⟨rfl, hz⟩ := addN_some h
      exact key none (some n2) W1 W2 h1 h2 (fun _ => trivial) (fun hb => by subst hb; exact hn) hz
    · rename_i n1 W1 n2 W2 h1 h2
      obtain ⟨rfl, hz⟩ := addN_some h
      exact key (some n1) (some n2) W1 W2 h1 h2 (fun hb => by subst hb; exact hn) (fun hb => by subst hb; exact hn) hz
    · cases h
  | .fail _, _, _, h, _ => by simp [joinT] at h

theorem merge_nil : ∀ (H B : Hp AV) (i : Nat), H.length = B.length → mergeH [] i H B = H
  | [], [], _, _ => rfl
  | [], _ :: _, _, h => by simp at h
  | _ :: _, [], _, h => by simp at h
  | none :: r, y :: q, i, h => by simp [mergeH, merge_nil r q (i + 1) (by simpa using h)]
  | some x :: r, y :: q, i, h => by simp [mergeH, sees_bit, bitsOf, merge_nil r q (i + 1) (by simpa using h)]
theorem step1_quiet {cal : Callee AV} {base : Nat} {all : List Oper} {i : Nat} {o : Oper} {s s' : St AV} {en : Ent} (h : (step1 N cal base all i o s).val = some (s', en)) : (∃ X, s'.E = X ++ s.E) ∧ (quietS true en s.H s'.H = true → s'.H = s.H) := by
  rw [step1_eff] at h
  obtain ⟨p, hp, h⟩ := Option.bind_eq_some_iff.1 h
  obtain ⟨⟨v, H', en⟩, he, hr⟩ := Option.map_eq_some_iff.1 h
  cases hr
  refine ⟨?_, fun hq => ?_⟩
  · cases o.dst with
    | none => exact ⟨[], rfl⟩
    | some d => exact ⟨[(d, v)], rfl⟩
  · cases hi : isCall en with
    | false =>
      obtain ⟨u, hu, hw, _⟩ := eff_light he hi
      simp only at hu ⊢
      rcases hw with rfl | ⟨n, c, rfl, hen, _⟩
      · exact hu
      · rw [hen] at hq; cases hq
    | true =>
      cases en with
      | pure => cases hi
      | rd _ => cases hi
      | wr _ => cases hi
      | call R =>
        cases R with
        | cons _ _ => cases hq
        | nil =>
          obtain ⟨_, B, _, hl, hH, _⟩ := eff_call he
          simp only [quietS] at hq
          have hlen := (beq_iff _ _).1 hq
          simp only at hlen ⊢
          subst hH
          rw [merge_len _ _ _ _ hl] at hlen
          exact merge_nil s.H B 0 hlen

/-- a state that says no more than another -/
structure Ref (m s : St AV) : Prop where
  H : m.H = s.H
  E : ∀ k, look m.E k = .unk ∨ (look s.E k ≠ .unk ∧ ∀ ρ : Nm, (look m.E k).den ρ = (look s.E k).den ρ)
theorem Ref.em {m s : St AV} (h : Ref m s) {ρ : Nm} {nt : Nat} {a : Act} (he : EM ρ nt s.E a) : EM ρ nt m.E a :=
  ⟨he.size, fun k hk => by
    rcases h.E k with hu | ⟨h1, h2⟩
    · exact absurd hu hk
    · rw [h2 ρ]; exact he.get k h1⟩
theorem joinR_spec {s m : St AV} {t : T (St AV × Bool)} (hcl : Closed N s) (h : (joinR s t).val = some m)
    (hq : ∀ s' q, t.val = some (s', q) → Closed N s' ∧ (∃ X, s'.E = X ++ s.E) ∧ (q = true → s'.H = s.H)) : ∃ s' q, t.val = some (s', q) ∧ Ref m s' ∧ Closed N m := by
  have triv : (t.map fun r => r.1).val = some m → ∃ s' q, t.val = some (s', q) ∧ Ref m s' ∧ Closed N m := fun h => by
    rw [T.val_map] at h
    obtain ⟨⟨s', q⟩, h1, rfl⟩ := Option.map_eq_some_iff.1 h
    exact ⟨s', q, h1, ⟨rfl, fun k => by
      by_cases hk : look s'.E k = .unk
      · exact .inl hk
      · exact .inr ⟨hk, fun _ => rfl⟩⟩, (hq s' q h1).1⟩
  have main : ∀ (n : Option Bool) (W : Ev), joinT s.E t = some (n, W) → needOk n → ∃ s' q, t.val = some (s', q) ∧ Ref ({ s with E := W ++ s.E } : St AV) s' ∧ Closed N ({ s with E := W ++ s.E } : St AV) := by
    intro n W hj hn
    obtain ⟨s', hs', k⟩ := joinT_spec s.H s.E hcl.E hj hn
    obtain ⟨hcs, ⟨X, hX⟩, hH⟩ := hq s' true hs'
    have hH := hH rfl
    obtain ⟨k1, k2⟩ := k X hX (fun k => by have := hcs.E k; rw [hH] at this; exact this)
    exact ⟨s', true, hs', ⟨hH.symm, k2⟩, ⟨k1, hcl.H⟩⟩
  unfold joinR at h
  split at h
  · exact triv h
  · split at h
    · rename_i W hj
      simp only [T.val, Option.some.injEq] at h
      subst h
      exact main none W hj trivial
    · rename_i n W hj
      obtain ⟨hb, h⟩ := need_val h
      simp only [T.val, Option.some.injEq] at h
      subst h
      exact main (some n) W hj hb
    · exact triv h
end Go.Sx

namespace Go.Sx
variable {AV : Type} {N : Env AV}
def Cons (A : Asm) (E : Ev) : Prop := ∀ d x, lookA A d = some x → ∃ c k, look E d = .v (.c c) ∧ boolC c = some (x, k)
theorem dropA_look : ∀ (A : Asm) (n d : Nat), lookA (dropA A n) d = if n = d then none else lookA A d
  | [], n, d => by simp [dropA, lookA]
  | (k, b) :: r, n, d => by
    simp only [dropA]
    by_cases h : k = n
    · subst h
      rw [Nat.beq_refl]
      simp only [lookA]
      rw [dropA_look r k d]
      by_cases e : k = d
      · simp [e]
      · rw [if_neg e, if_neg e, (beq_false_iff k d).2 e]
    · rw [(beq_false_iff k n).2 h]
      simp only [lookA]
      by_cases e : k = d
      · subst e
        rw [Nat.beq_refl]
        simp only
        rw [if_neg (Ne.symm h)]
      · rw [(beq_false_iff k d).2 e]
        simp only
        exact dropA_look r n d
theorem Cons.put {A : Asm} {E : Ev} (h : Cons A E) (dst : Option Nat) (v : SV) : Cons (dropD A dst) (putE E dst v) := by
  intro d x hd
  cases dst with
  | none => exact h d x hd
  | some n =>
    simp only [dropD, dropA_look] at hd
    split at hd
    · cases hd
    · rename_i hne
      rw [look_put, if_neg hne]
      exact h d x hd
theorem Cons.cons {A : Asm} {E : Ev} (h : Cons A E) {d : Nat} {x : Bool} (hd : ∃ c k, look E d = .v (.c c) ∧ boolC c = some (x, k)) : Cons ((d, x) :: A) E := by
  intro n y hn
  simp only [lookA] at hn
  split at hn
  · rename_i he
    cases hn
    rw [← (beq_iff _ _).1 he]
    exact hd
  · exact h n y hn
theorem execA_val {cal : Callee AV} {base : Nat} {all : List Oper} {i : Nat} {o : Oper} {A B : Asm} {s : St AV} (hA : Cons A s.E) :
    (execA N cal base all i o A B s).val = ((stepOp N cal (nmOf all base i) o s).val.map fun s' => (s', entOf N (nmOf all base i) (evl N.G s.H s.E) s.H s'.H o.op, dropD B o.dst)) := by
  unfold execA
  split
  · rename_i t ht
    unfold pickK at ht
    split at ht
    · rename_i c a b hop
      split at ht
      · cases ht
      · rename_i x hx
        simp only [Option.some.injEq] at ht
        subst ht
        obtain ⟨cc, k, hl, hb⟩ := hA c x hx
        have hent : ∀ H' : Hp AV, entOf N (nmOf all base i) (evl N.G s.H s.E) s.H H' o.op = .pure := fun _ => by rw [hop]; rfl
        simp only [hent]
        unfold stepOp
        rw [hop]
        simp only [callee?, heavy, light, pureOp, T.val_bind, T.val_map]
        have hev : evl N.G s.H s.E (.tmp c) = some (.v (.c cc)) := by simp [evl, hl]
        rw [hev]
        cases evl N.G s.H s.E a with
        | none => rfl
        | some p =>
          cases evl N.G s.H s.E b with
          | none => rfl
          | some q =>
            simp only [hb]
            cases x <;> cases k <;> simp [T.val, updH]
    · cases ht
  · rw [T.val_map]
theorem gTmp_wanted {all : List Oper} {o : Oper} {E : Ev} {b : Bool} (h : wantedS all o E = some (b, false)) : ∃ d want c x, gTmp all o = some (d, want) ∧ look E d = .v (.c c) ∧ boolC c = some (x, false) ∧ b = (x == want) := by
  unfold wantedS at h
  unfold gTmp
  cases hg : o.guard with
  | none => simp [hg] at h
  | some p =>
    obtain ⟨j, want⟩ := p
    simp only [hg] at h ⊢
    cases hj : nth all j with
    | none => simp [hj] at h
    | some oj =>
      simp only [hj] at h ⊢
      cases hd : oj.dst with
      | none => simp [hd] at h
      | some d =>
        simp only [hd] at h ⊢
        split at h
        · cases h
        · rename_i c hl
          split at h
          · rename_i x k hb
            simp only [Option.some.injEq, Prod.mk.injEq] at h
            obtain ⟨h1, rfl⟩ := h
            exact ⟨d, want, c, x, rfl, hl, hb, h1.symm⟩
          · simp at h
        · simp at h
theorem step1A_val {cal : Callee AV} {base : Nat} {all : List Oper} {i : Nat} {o : Oper} {A : Asm} {s : St AV} (hA : Cons A s.E) :
    (∀ s' en B, (step1A N cal base all i o A s).val = some (s', en, B) → (step1 N cal base all i o s).val = some (s', en) ∧ Cons B s'.E) := by
  intro s' en B h
  rw [step1_val]
  unfold step1v
  unfold step1A at h
  have fin : ∀ C, Cons C s.E → (execA N cal base all i o A C s).val = some (s', en, B) → ((stepOp N cal (nmOf all base i) o s).val.map fun s' => (s', entOf N (nmOf all base i) (evl N.G s.H s.E) s.H s'.H o.op)) = some (s', en) ∧ Cons B s'.E := by
    intro C hC he
    rw [execA_val hA] at he
    obtain ⟨s1, hs, he⟩ := Option.map_eq_some_iff.1 he
    cases he
    refine ⟨by rw [hs]; rfl, ?_⟩
    have : ∃ v, s'.E = putE s.E o.dst v := by
      unfold stepOp at hs
      split at hs
      · obtain ⟨r, _, hs⟩ := T.bind_some hs
        simp only [T.val, Option.some.injEq] at hs
        exact ⟨r.1, by rw [← hs]⟩
      · simp [T.val] at hs
      · obtain ⟨r, _, hs⟩ := T.bind_some hs
        simp only [T.val, Option.some.injEq] at hs
        exact ⟨r.1, by rw [← hs]⟩
    obtain ⟨v, hv⟩ := this
    rw [hv]
    exact hC.put _ _
  split at h
  · simp [T.val] at h
  · rename_i b hw
    simp only [hw]
    cases b with
    | true => exact fin A hA h
    | false =>
      simp only [T.val, Option.some.injEq, Prod.mk.injEq] at h
      obtain ⟨rfl, rfl, rfl⟩ := h
      exact ⟨rfl, hA.put _ _⟩
  · rename_i b hw
    simp only [hw]
    obtain ⟨d, want, c, x, hg, hl, hb, rfl⟩ := gTmp_wanted hw
    simp only [hg] at h
    split at h
    · rename_i y hy
      obtain ⟨c', k', hl', hb'⟩ := hA d y hy
      rw [hl] at hl'
      cases hl'
      rw [hb] at hb'
      cases hb'
      cases hxw : (x == want) with
      | true => simp only [hxw] at h ⊢; exact fin A hA h
      | false =>
        simp only [hxw, T.val, Option.some.injEq, Prod.mk.injEq] at h ⊢
        obtain ⟨rfl, rfl, rfl⟩ := h
        exact ⟨rfl, hA.put _ _⟩
    · have hx : ∀ y, x = y → Cons ((d, y) :: A) s.E := fun y e => hA.cons ⟨c, false, hl, by rw [hb, e]⟩
      cases hxw : (x == want) with
      | true =>
        have e : x = want := by simpa using hxw
        simp only [hxw, T.val] at h ⊢
        exact fin _ (hx want e) h
      | false =>
        have e : x = !want := by cases x <;> cases want <;> simp_all
        simp only [hxw, T.val, Option.some.injEq, Prod.mk.injEq] at h ⊢
        obtain ⟨rfl, rfl, rfl⟩ := h
        exact ⟨rfl, (hx _ e).put _ _⟩
theorem stepOpsA_val {cal : Callee AV} {base : Nat} {all : List Oper} (s₀ : St AV) : ∀ (r : List Oper) (i : Nat) (A : Asm) (q : Bool) (s s' : St AV) (q' : Bool), Cons A s.E → (∃ X, s.E = X ++ s₀.E) → (q = true → s.H = s₀.H) → (stepOpsA N cal base all i r A q s).val = some (s', q') →
    (stepOps N cal base all i r s).val = some s' ∧ (∃ X, s'.E = X ++ s₀.E) ∧ (q' = true → s'.H = s₀.H)
  | [], _, _, q, s, s', q', _, hX, hq, h => by
    simp only [stepOpsA, T.val, Option.some.injEq, Prod.mk.injEq] at h
    obtain ⟨rfl, rfl⟩ := h
    exact ⟨rfl, hX, hq⟩
  | o :: r, i, A, q, s, s', q', hA, ⟨X, hX⟩, hq, h => by
    simp only [stepOpsA] at h
    obtain ⟨⟨s1, en, B⟩, h1, h2⟩ := T.bind_some h
    obtain ⟨k1, k2⟩ := step1A_val hA s1 en B h1
    obtain ⟨⟨Y, hY⟩, hH⟩ := step1_quiet k1
    simp only [stepOps]
    rw [T.val_bind, k1]
    refine stepOpsA_val s₀ r (i + 1) B _ s1 s' q' k2 ⟨Y ++ X, by rw [hY, hX, List.append_assoc]⟩ (fun hqs => ?_) h2
    cases q with
    | false => simp [quietS] at hqs
    | true => rw [hH hqs, hq rfl]
theorem stepOpsDA_val {cal : Callee AV} {base : Nat} {all : List Oper} (s₀ : St AV) : ∀ (r : List Oper) (i : Nat) (log : List (Nat × Ent)) (A : Asm) (q : Bool) (s s' : St AV) (q' : Bool), Cons A s.E → (∃ X, s.E = X ++ s₀.E) → (q = true → s.H = s₀.H) → (stepOpsDA N cal base all i r log A q s).val = some (s', q') →
    (stepOpsD N cal base all i r log s).val = some s' ∧ (∃ X, s'.E = X ++ s₀.E) ∧ (q' = true → s'.H = s₀.H)
  | [], _, _, _, q, s, s', q', _, hX, hq, h => by
    simp only [stepOpsDA, T.val, Option.some.injEq, Prod.mk.injEq] at h
    obtain ⟨rfl, rfl⟩ := h
    exact ⟨rfl, hX, hq⟩
  | o :: r, i, log, A, q, s, s', q', hA, ⟨X, hX⟩, hq, h => by
    simp only [stepOpsDA] at h
    simp only [stepOpsD]
    split at h
    · simp [T.val] at h
    · obtain ⟨⟨s1, en, B⟩, h1, h2⟩ := T.bind_some h
      obtain ⟨k1, k2⟩ := step1A_val hA s1 en B h1
      obtain ⟨⟨Y, hY⟩, hH⟩ := step1_quiet k1
      simp only at h2
      split at h2
      · rename_i hlog
        rw [T.val_bind, k1]
        simp only [Option.bind_some, hlog]
        refine stepOpsDA_val s₀ r (i + 1) _ B _ s1 s' q' k2 ⟨Y ++ X, by rw [hY, hX, List.append_assoc]⟩ (fun hqs => ?_) h2
        cases q with
        | false => simp [quietS] at hqs
        | true => rw [hH hqs, hq rfl]
      · simp [T.val] at h2
theorem cons_nil (E : Ev) : Cons [] E := fun d x h => by simp [lookA] at h
end Go.Sx
