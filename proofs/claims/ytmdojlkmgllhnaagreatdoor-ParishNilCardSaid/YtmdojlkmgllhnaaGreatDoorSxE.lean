/- The symbolic executor: '==' on structs of integers and bools. -/
import Derived.Test.YtmdojlkmgllhnaaGreatDoorSxD
namespace Go.Sx
def vEq : Value → Value → Bool
  | .bool a, .bool b => a == b
  | .int _ a, .int _ b => a == b
  | _, _ => false
def allEq : List Value → List Value → Bool
  | [], [] => true
  | x :: xs, y :: ys => vEq x y && allEq xs ys
  | _, _ => false

theorem eqC_den (ρ : Nm) {x y : Cell} {b k : Bool} (h : eqC x y = some (b, k)) : b = vEq (x.den ρ) (y.den ρ) := by
  unfold eqC at h
  split at h
  · rename_i a ka b' kb h1 h2
    cases h
    rw [boolC_den ρ h1, boolC_den ρ h2]
    rfl
  · split at h
    · rename_i _ a ka _ b' kb h1 h2
      cases h
      rw [intC_den ρ h1, intC_den ρ h2]
      rfl
    · cases h
theorem eqL_den (ρ : Nm) : ∀ {xs ys : List Cell} {b k : Bool}, eqL xs ys = some (b, k) → b = allEq (denL ρ xs) (denL ρ ys)
  | [], [], b, k, h => by cases h; rfl
  | [], _ :: _, _, _, h => by simp [eqL] at h
  | _ :: _, [], _, _, h => by simp [eqL] at h
  | x :: xs, y :: ys, b, k, h => by
    simp only [eqL] at h
    cases h1 : eqC x y with
    | none => simp [h1] at h
    | some p =>
      obtain ⟨b1, k1⟩ := p
      cases h2 : eqL xs ys with
      | none => simp [h1, h2] at h
      | some q =>
        obtain ⟨b2, k2⟩ := q
        have e1 := eqC_den ρ h1
        have e2 := eqL_den ρ h2
        have e : allEq (denL ρ (x :: xs)) (denL ρ (y :: ys)) = (b1 && b2) := by simp [denL, allEq, e1, e2]
        rw [e]
        simp only [h1, h2] at h
        cases k1 <;> cases b1 <;> cases k2 <;> cases b2 <;> simp at h <;> simp [← h.1]

theorem kindsB_length : ∀ {ks : List (Option IntKind)} {l : List Cell}, kindsB ks l = true → l.length = ks.length
  | [], [], _ => rfl
  | [], _ :: _, h => by simp [kindsB] at h
  | _ :: _, [], h => by simp [kindsB] at h
  | k :: ks, c :: cs, h => by
    simp only [kindsB] at h
    split at h
    · split at h
      · simp [kindsB_length h]
      · cases h
    · cases h
theorem kindsB_append : ∀ {ks ks' : List (Option IntKind)} {l : List Cell}, kindsB (ks ++ ks') l = true → kindsB ks (l.take ks.length) = true ∧ kindsB ks' (l.drop ks.length) = true
  | [], _, l, h => by simpa [kindsB] using h
  | k :: ks, ks', [], h => by simp [kindsB] at h
  | k :: ks, ks', c :: cs, h => by
    simp only [List.cons_append, kindsB] at h
    simp only [List.length_cons, List.take_succ_cons, List.drop_succ_cons, kindsB]
    split at h
    · rename_i k' hk
      split at h
      · rename_i hd
        exact kindsB_append h
      · cases h
    · cases h
theorem allEq_append : ∀ (a b c d : List Value), a.length = c.length → allEq (a ++ b) (c ++ d) = (allEq a c && allEq b d)
  | [], _, [], _, _ => by simp [allEq]
  | [], _, _ :: _, _, h => by simp at h
  | _ :: _, _, [], _, h => by simp at h
  | x :: a, b, y :: c, d, h => by simp [allEq, allEq_append a b c d (by simpa using h), Bool.and_assoc]

/-- what a value of a type reads as: a struct's or an array's is a row of cells -/
def Shaped (P : Program) (t : TypeId) (x : V1) : Prop := (isAggT P t = some true ∧ ∃ l, x = .agg l) ∨ (isAggT P t = some false ∧ ∃ c, x = .c c)

theorem flat_agg {P : Program} {d : Nat} {t : TypeId} {ks : List (Option IntKind)} (h : flatT P d t = some ks) : ∃ b, isAggT P t = some b := by
  cases d with
  | zero => cases h
  | succ d =>
    unfold flatT at h
    unfold isAggT
    cases hu : P.underlying t with
    | none => simp [hu] at h
    | some u => cases u <;> exact ⟨_, rfl⟩

theorem flat_one {P : Program} {d : Nat} {t : TypeId} {ks : List (Option IntKind)} (h : flatT P d t = some ks) (ha : isAggT P t = some false) : ks.length = 1 := by
  cases d with
  | zero => cases h
  | succ d =>
    unfold flatT at h
    unfold isAggT at ha
    cases hu : P.underlying t with
    | none => simp [hu] at h
    | some u => cases u <;> simp [hu] at h ha <;> simp [← h]

theorem loop_run {P : Program} {ρ : Nm} {d D : Nat} (xs ys : List Cell) (w : World)
    (ih : ∀ (t : TypeId) (ks : List (Option IntKind)) (x y : V1), flatT P d t = some ks → Shaped P t x → Shaped P t y → kindsB ks x.cells = true → kindsB ks y.cells = true →
      (Op.equalIn D t (x.den ρ) (y.den ρ)).run P w = .ok (allEq (denL ρ x.cells) (denL ρ y.cells)) w) :
    ∀ (r : List Field) (off : Nat) (ks : List (Option IntKind)), off ≤ xs.length → off ≤ ys.length → flatFs P (flatT P d) r off = some ks → kindsB ks (xs.drop off) = true → kindsB ks (ys.drop off) = true →
      (forIn r ((none, ()) : Option Bool × Unit) fun f __s =>
            if f.name ≠ "_" then do
              let __do_lift ← part f.type (denL ρ xs).toArray f.offset
              let __do_lift_1 ← part f.type (denL ρ ys).toArray f.offset
              let __do_lift ← Op.equalIn D f.type __do_lift __do_lift_1
              if (!__do_lift) = true then pure (ForInStep.done (some false, ())) else pure (ForInStep.yield (none, ()))
            else pure (ForInStep.yield (none, ())) : Sem (Option Bool × Unit)).run P w =
        .ok (if allEq (denL ρ (xs.drop off)) (denL ρ (ys.drop off)) = true then (none, ()) else (some false, ())) w
  | [], off, ks, _, _, h, hx, hy => by
    simp only [flatFs, Option.some.injEq] at h
    subst h
    have e1 : xs.drop off = [] := List.eq_nil_of_length_eq_zero (kindsB_length hx)
    have e2 : ys.drop off = [] := List.eq_nil_of_length_eq_zero (kindsB_length hy)
    simp [e1, e2, denL, allEq]
  | f :: r, off, ks, hox, hoy, h, hx, hy => by
    simp only [flatFs] at h
    split at h
    · cases h
    · rename_i hname
      split at h
      · cases h
      · rename_i hoff
        have hoff := (beq_iff _ _).1 hoff
        split at h
        · cases h
        · rename_i k1 hk1
          split at h
          · cases h
          · rename_i n hn
            split at h
            · cases h
            · rename_i hlen
              have hlen := (beq_iff _ _).1 hlen
              split at h
              · rename_i k2 hk2
                cases h
                obtain ⟨agg, hagg⟩ := flat_agg hk1
                obtain ⟨x1, x2⟩ := kindsB_append hx
                obtain ⟨y1, y2⟩ := kindsB_append hy
                have lx := kindsB_length hx
                have ly := kindsB_length hy
                simp only [List.length_drop, List.length_append] at lx ly
                rw [List.drop_drop, ← hlen] at x2 y2
                have hrec := loop_run xs ys w ih r (off + n) k2 (by omega) (by omega) hk2 x2 y2
                -- the two parts
                have key : ∀ l : List Cell, kindsB k1 ((l.drop off).take k1.length) = true → off + n ≤ l.length →
                    ∃ x, part1 agg n l off = some x ∧ Shaped P f.type x ∧ x.cells = (l.drop off).take n := by
                  intro l hl hle
                  cases agg with
                  | true =>
                    refine ⟨.agg ((l.drop off).take n), ?_, .inl ⟨hagg, _, rfl⟩, rfl⟩
                    have : ∀ (l : List Cell) (k m : Nat), k + m ≤ l.length → lsub l k m = some ((l.drop k).take m) := by
                      have ht : ∀ (l : List Cell) (m : Nat), m ≤ l.length → ltake l m = some (l.take m) := by
                        intro l
                        induction l with
                        | nil => intro m hm; simp at hm; subst hm; rfl
                        | cons c l ih => intro m hm; cases m with
                          | zero => rfl
                          | succ m => simp at hm; simp [ltake, ih m hm]
                      intro l
                      induction l with
                      | nil => intro k m hm; simp at hm; obtain ⟨rfl, rfl⟩ := hm; rfl
                      | cons c l ih => intro k m hm; cases k with
                        | zero => simp only [lsub, List.drop_zero]; exact ht _ _ (by simpa using hm)
                        | succ k => simp only [lsub, List.drop_succ_cons]; exact ih k m (by simp at hm; omega)
                    simp [part1, this l off n hle]
                  | false =>
                    have h1 := flat_one hk1 hagg
                    have hn1 : n = 1 := by omega
                    subst hn1
                    have hlt : off < l.length := by omega
                    refine ⟨.c l[off], ?_, .inr ⟨hagg, _, rfl⟩, ?_⟩
                    · simp [part1, nth_eq, hlt]
                    · simp only [V1.cells]; rw [List.drop_eq_getElem_cons hlt]; rfl
                obtain ⟨px, hpx, hsx, hcx⟩ := key xs x1 (by omega)
                obtain ⟨py, hpy, hsy, hcy⟩ := key ys y1 (by omega)
                have rx := part_run (ρ := ρ) hagg hn hpx w
                have ry := part_run (ρ := ρ) hagg hn hpy w
                have hnm : f.name ≠ "_" := by simpa using hname
                have e0 := ih f.type k1 px py hk1 hsx hsy (by rw [hcx, hlen]; exact x1) (by rw [hcy, hlen]; exact y1)
                have split2 : ∀ l : List Cell, l.drop off = (l.drop off).take n ++ l.drop (off + n) := by
                  intro l
                  rw [← List.drop_drop, List.take_append_drop]
                have eall : allEq (denL ρ (xs.drop off)) (denL ρ (ys.drop off)) = (allEq (denL ρ px.cells) (denL ρ py.cells) && allEq (denL ρ (xs.drop (off + n))) (denL ρ (ys.drop (off + n)))) := by
                  rw [split2 xs, split2 ys]
                  simp only [denL, List.map_append]
                  rw [allEq_append _ _ _ _ (by simp; omega)]
                  rw [← hcx, ← hcy]
                rw [List.forIn_cons]
                simp only [hnm, ne_eq, not_false_eq_true, if_true, Sem.run_bind, hoff, rx, ry, e0, Result.andThen_ok]
                rw [eall]
                cases hb : allEq (denL ρ px.cells) (denL ρ py.cells) with
                | false => simp
                | true =>
                  simp only [Bool.not_true, Bool.false_eq_true, if_false, Sem.run_pure, Result.andThen_ok, Bool.true_and]
                  exact hrec
              · cases h

theorem arrFs_eq (e : TypeId) (n : Nat) : ∀ k i, arrFs e n k i = (List.range' i k).map (arrFd e n)
  | 0, _ => rfl
  | k + 1, i => by simp [arrFs, List.range'_succ, arrFs_eq e n k (i + 1)]

theorem kindC_int {c : Cell} {k : IntKind} (h : kindC c = some (some k)) : ∃ n, ∀ ρ : Nm, c.den ρ = .int k n := by
  cases c <;> simp [kindC] at h <;> subst h <;> exact ⟨_, fun _ => rfl⟩
theorem equal_run {P : Program} {ρ : Nm} (w : World) : ∀ (d D : Nat), d ≤ D → ∀ (t : TypeId) (ks : List (Option IntKind)) (x y : V1), flatT P d t = some ks → Shaped P t x → Shaped P t y → kindsB ks x.cells = true → kindsB ks y.cells = true →
      (Op.equalIn D t (x.den ρ) (y.den ρ)).run P w = .ok (allEq (denL ρ x.cells) (denL ρ y.cells)) w
  | 0, _, _, _, _, _, _, h, _, _, _, _ => by cases h
  | d + 1, 0, hle, _, _, _, _, _, _, _, _, _ => by omega
  | d + 1, D + 1, hle, t, ks, x, y, h, sx, sy, kx, ky => by
    have ih := equal_run (ρ := ρ) (P := P) w d D (by omega)
    unfold flatT at h
    have oneK : ∀ {k : Option IntKind} {x : V1} (_ : isAggT P t = some false) (_ : Shaped P t x), kindsB [k] x.cells = true → ∃ c, x = .c c ∧ kindC c = some k := by
      intro k x ha hs hk
      rcases hs with ⟨h1, _⟩ | ⟨_, c, rfl⟩
      · rw [ha] at h1; cases h1
      · refine ⟨c, rfl, ?_⟩
        simp only [V1.cells, kindsB] at hk
        cases h1 : kindC c with
        | none => simp [h1] at hk
        | some k' =>
          cases h2 : decide (k = k') with
          | false => simp [h1, h2] at hk
          | true => exact congrArg some (of_decide_eq_true h2).symm
    cases hu : P.underlying t with
    | none => simp [hu] at h
    | some u =>
      rw [Op.equalIn]
      cases u <;> simp only [hu] at h <;> (first | (cases h; done) | skip)
      case bool =>
        cases h
        have ha : isAggT P t = some false := by simp [isAggT, hu]
        obtain ⟨c, rfl, hc⟩ := oneK ha sx kx
        obtain ⟨c', rfl, hc'⟩ := oneK ha sy ky
        cases c <;> simp [kindC] at hc <;> cases c' <;> simp [kindC] at hc' <;> simp [under_run hu, V1.den, Cell.den, V1.cells, denL, allEq, vEq]
      case int k =>
        cases h
        have ha : isAggT P t = some false := by simp [isAggT, hu]
        obtain ⟨c, rfl, hc⟩ := oneK ha sx kx
        obtain ⟨c', rfl, hc'⟩ := oneK ha sy ky
        obtain ⟨n, e1⟩ := kindC_int hc
        obtain ⟨n', e2⟩ := kindC_int hc'
        simp [under_run hu, V1.den, V1.cells, denL, allEq, vEq, e1 ρ, e2 ρ]
      case struct fs =>
        have ha : isAggT P t = some true := by simp [isAggT, hu]
        obtain ⟨xs, rfl⟩ : ∃ l, x = .agg l := by
          rcases sx with ⟨_, h⟩ | ⟨h1, _⟩
          · exact h
          · rw [ha] at h1; cases h1
        obtain ⟨ys, rfl⟩ : ∃ l, y = .agg l := by
          rcases sy with ⟨_, h⟩ | ⟨h1, _⟩
          · exact h
          · rw [ha] at h1; cases h1
        cases hs : P.stoodInHeld t with
        | true => simp [hs] at h
        | false =>
          simp only [hs] at h
          have hl := loop_run (ρ := ρ) xs ys w ih fs.toList 0 ks (Nat.zero_le _) (Nat.zero_le _) h (by simpa [V1.cells] using kx) (by simpa [V1.cells] using ky)
          simp only [Sem.run_bind, under_run hu, Result.andThen_ok, program, Sem.run, hs, Bool.false_eq_true, if_false, V1.den]
          rw [← Array.forIn_toList, hl]
          simp only [V1.cells, List.drop_zero, Result.andThen_ok]
          cases allEq (denL ρ xs) (denL ρ ys) <;> simp
      case array len e =>
        have ha : isAggT P t = some true := by simp [isAggT, hu]
        obtain ⟨xs, rfl⟩ : ∃ l, x = .agg l := by
          rcases sx with ⟨_, h⟩ | ⟨h1, _⟩
          · exact h
          · rw [ha] at h1; cases h1
        obtain ⟨ys, rfl⟩ : ∃ l, y = .agg l := by
          rcases sy with ⟨_, h⟩ | ⟨h1, _⟩
          · exact h
          · rw [ha] at h1; cases h1
        cases hs : sizeT P e with
        | none => simp [hs] at h
        | some n =>
          simp only [hs] at h
          have hl := loop_run (ρ := ρ) xs ys w ih (arrFs e n len 0) 0 ks (Nat.zero_le _) (Nat.zero_le _) h (by simpa [V1.cells] using kx) (by simpa [V1.cells] using ky)
          rw [arrFs_eq, List.forIn_map] at hl
          simp only [arrFd, show ("x" : String) ≠ "_" from by decide, ne_eq, not_false_eq_true, if_true] at hl
          simp only [Sem.run_bind, under_run hu, Result.andThen_ok, sizeOf_run hs w, V1.den]
          simp only [Std.Legacy.Range.forIn_eq_forIn_range', Std.Legacy.Range.size, Nat.sub_zero, Nat.add_one_sub_one, Nat.div_one]
          rw [hl]
          simp only [V1.cells, List.drop_zero, Result.andThen_ok]
          cases allEq (denL ρ xs) (denL ρ ys) <;> simp
end Go.Sx
