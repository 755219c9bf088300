/- Objects: how they are read off a heap. -/
import Derived.Test.YtmdojlkmgllhnaaGreatDoorSxOf
import Derived.Test.YtmdojlkmgllhnaaGreatDoorSxAr
namespace Go.Sx
set_option linter.unusedVariables false
variable {AV : Type} {P : Program} {N : Env AV}
/-- the blocks S are those of a name, or none -/
def partIs (ρ : Nm) (H : Hp AV) (nm : Option Nat) (S : Nat → Prop) : Prop := match nm with
  | some m => ∃ d, hget H m = some d ∧ ∀ k, S k ↔ d.fp ρ m k
  | none => ∀ k, ¬ S k
/-- the names of a list of parts -/
def namesO : List (Option Nat) → List Nat
  | [] => []
  | some n :: r => n :: namesO r
  | none :: r => namesO r
theorem mem_namesO {n : Nat} : ∀ {l : List (Option Nat)}, n ∈ namesO l ↔ some n ∈ l
  | [] => by simp [namesO]
  | some m :: r => by simp [namesO, mem_namesO (l := r)]
  | none :: r => by simp [namesO, mem_namesO (l := r)]
theorem namesO_inj : ∀ {l : List (Option Nat)}, (namesO l).Nodup → ∀ {i j m : Nat}, l[i]? = some (some m) → l[j]? = some (some m) → i = j
  | [], _, i, j, m, h, _ => by simp at h
  | x :: r, hd, i, j, m, h1, h2 => by
    have hr : (namesO r).Nodup := by
      cases x with
      | none => exact hd
      | some y => exact (List.nodup_cons.1 hd).2
    have no : ∀ k, x = some m → r[k]? = some (some m) → False := fun k e h => by
      subst e
      exact (List.nodup_cons.1 hd).1 (mem_namesO.2 (List.mem_of_getElem? h))
    cases i with
    | zero =>
      simp only [List.getElem?_cons_zero, Option.some.injEq] at h1
      cases j with
      | zero => rfl
      | succ j => exact (no j h1 (by simpa using h2)).elim
    | succ i =>
      simp only [List.getElem?_cons_succ] at h1
      cases j with
      | zero =>
        simp only [List.getElem?_cons_zero, Option.some.injEq] at h2
        exact (no i h2 h1).elim
      | succ j => exact congrArg (· + 1) (namesO_inj hr h1 (by simpa using h2))
/-- an object of parts that stand in a heap, or own nothing; ps: the names of the parts behind the first one -/
theorem objQ_list {ρ : Nm} {H : Hp AV} {w : World} (hO : Own N ρ H w) {K : Hp AV} (ρ0 : Nm) {n : Nat} {ps : List (Option Nat)} (hnd : (n :: namesO ps).Nodup)
    (hK : ∀ i m, (some n :: ps)[i]? = some (some m) → ∃ c, hget K i = some c)
    (h : ∀ i c, hget K i = some c → c.q N ρ0 i w ∧ ∃ x, (some n :: ps)[i]? = some x ∧ partIs ρ H x (c.fp ρ0 i)) : objQ N K (ρ0.L 0) (partsF ρ H n (namesO ps)) w := by
  have hnd : (namesO (some n :: ps)).Nodup := hnd
  refine ⟨ρ0, rfl, ⟨fun i c hc => (h i c hc).1, fun i j c d hij hc hd k hk hk' => ?_⟩, fun k => ?_⟩
  · obtain ⟨x, e1, p1⟩ := (h i c hc).2
    obtain ⟨y, e2, p2⟩ := (h j d hd).2
    unfold partIs at p1 p2
    cases x with
    | none => exact p1 k hk
    | some m =>
      cases y with
      | none => exact p2 k hk'
      | some m' =>
        obtain ⟨c', g1, g2⟩ := p1
        obtain ⟨d', g3, g4⟩ := p2
        refine hO.dis m m' c' d' (fun e => hij ?_) g1 g3 k ((g2 k).1 hk) ((g4 k).1 hk')
        subst e
        exact namesO_inj hnd e1 e2
  · constructor
    · rintro ⟨m, d, h1, h2, h3⟩
      have hm : some m ∈ some n :: ps := by
        rcases h1 with rfl | h1
        · exact List.mem_cons_self
        · exact List.mem_cons_of_mem _ (mem_namesO.1 h1)
      obtain ⟨i, hi⟩ := List.mem_iff_getElem?.1 hm
      obtain ⟨c, hc⟩ := hK i m hi
      obtain ⟨x, e1, p1⟩ := (h i c hc).2
      rw [hi] at e1
      cases e1
      obtain ⟨d', g1, g2⟩ := p1
      rw [h2] at g1
      cases g1
      exact ⟨i, c, hc, (g2 k).2 h3⟩
    · rintro ⟨i, c, h1, h2⟩
      obtain ⟨x, e1, p1⟩ := (h i c h1).2
      unfold partIs at p1
      cases x with
      | none => exact absurd h2 (p1 k)
      | some m =>
        obtain ⟨d', g1, g2⟩ := p1
        refine ⟨m, d', ?_, g1, (g2 k).1 h2⟩
        rcases List.mem_cons.1 (List.mem_of_getElem? e1) with e | e
        · cases e; exact .inl rfl
        · exact .inr (mem_namesO.2 e)
/-- the array of a header: its things, its length as the header says, its name -/
def arrAt {α : Type} (K : AK α) (ex : AV → Option (List α)) (H : Hp AV) : Cell → Option (List α × Nat × Option Nat)
  | .snil => some ([], 0, none)
  | .vs n 0 len es _ => match Nat.beq es K.es with
    | false => none
    | true => match hget H n with
      | some (.abs a) => match ex a with
        | some l => some (l, len, some n)
        | none => none
      | some (.vec cs ve ty) => match Nat.beq ve K.es, Nat.beq ty K.ty with
        | true, true => match K.decs (cs.length / K.es) cs with
          | some l => some (l, len, some n)
          | none => none
        | _, _ => none
      | _ => none
  | _ => none
theorem plain_vals {ρ : Nm} {cs : List Cell} (h : ∀ c ∈ cs, c.name = none) : denL ρ cs = denL Nm.id cs := by
  unfold denL
  exact List.map_congr_left fun c hc => den_congr c fun m hm => by rw [h c hc] at hm; cases hm
theorem arrAt_ok {α : Type} {K : AK α} {ex : AV → Option (List α)} (hex : ∀ a l, ex a = some l → ∀ lc S w, N.F.q a lc S w → K.q l lc S w) {H : Hp AV} {c : Cell} {l : List α} {len : Nat} {nm : Option Nat} (h : arrAt K ex H c = some (l, len, nm)) (hlen : len = l.length)
    {ρ : Nm} {w : World} (hO : Own N ρ H w) : ∃ lc S, c.den ρ = vsDen lc 0 l.length K.es ∧ K.q l lc S w ∧ partIs ρ H nm S := by
  unfold arrAt at h
  split at h
  · cases h
    refine ⟨⟨0, 0, 0⟩, fun _ => False, ?_, .inl ⟨by decide, rfl, fun k hk => hk⟩, fun k hk => hk⟩
    simp [Cell.den, vsDen]
  · rename_i n len' es kn
    cases he : Nat.beq es K.es with
    | false => rw [he] at h; cases h
    | true =>
    rw [he] at h
    have he := (beq_iff _ _).1 he
    subst he
    dsimp only at h
    split at h
    · rename_i a ha
      split at h
      · rename_i l' hl
        simp only [Option.some.injEq, Prod.mk.injEq] at h
        obtain ⟨rfl, rfl, rfl⟩ := h
        refine ⟨ρ.L n, ρ.S n, ?_, hex a _ hl _ _ _ (hO.q n _ ha), _, ha, fun k => Iff.rfl⟩
        rw [← hlen]; rfl
      · cases h
    · rename_i cs ve ty ha
      split at h
      · rename_i h1 h2
        have h1 := (beq_iff _ _).1 h1
        have h2 := (beq_iff _ _).1 h2
        subst h1 h2
        split at h
        · rename_i l' hl
          simp only [Option.some.injEq, Prod.mk.injEq] at h
          obtain ⟨rfl, rfl, rfl⟩ := h
          obtain ⟨v1, v2⟩ := K.decs_ok hl
          have hq : vecQ (ρ.L n) (ρ.S n) (denL ρ cs) K.es K.ty w := hO.q n _ ha
          rw [plain_vals v2, ← v1] at hq
          refine ⟨ρ.L n, ρ.S n, ?_, hq, _, ha, fun k => Iff.rfl⟩
          rw [← hlen]; rfl
        · cases h
      · cases h
    · cases h
  · cases h
end Go.Sx
