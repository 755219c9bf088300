/- Arrays that grow: a new thing takes the place of an old one, which is forgotten. -/
import Derived.Test.YtmdojlkmgllhnaaGreatDoorSxU
namespace Go.Sx
variable {AV : Type} {P : Program} {N : Env AV}
theorem hget_app (H : Hp AV) (c : Chunk AV) (n : Nat) : hget (H ++ [some c]) n = if n = H.length then some c else hget H n := by
  induction H generalizing n with
  | nil => cases n <;> simp [hget]
  | cons x r ih =>
    cases n with
    | zero => simp [hget]
    | succ n => simp only [List.cons_append, hget, ih n, List.length_cons, Nat.add_right_cancel_iff]
theorem hget_ge {H : Hp AV} {n : Nat} (h : H.length ≤ n) : hget H n = none := by
  cases hh : hget H n with
  | none => rfl
  | some c => have := hget_lt hh; omega
/-- the heap with a thing forgotten, if there is one to forget -/
def killO (H : Hp AV) : Option Nat → Hp AV
  | none => H
  | some n => lset H n (some .dead)
theorem kill_len (H : Hp AV) (d : Option Nat) : (killO H d).length = H.length := by cases d <;> simp [killO, length_lset]
/-- a new thing, which may have the blocks of one that is forgotten -/
theorem own_swap {ρ : Nm} {H : Hp AV} {w w' : World} (hO : Own N ρ H w) (hC : ClHp N H) (hG : N.G ≤ H.length) {d : Option Nat} {ck : Chunk AV} (hd : ∀ n, d = some n → ∃ c, hget H n = some c) (hck : ClL H ck.cellsOf) {lc : Loc} {S : Nat → Prop}
    (hfr : ∀ k, k < w.heap.size → (∀ n c, d = some n → hget H n = some c → ¬ c.fp ρ n k) → w'.heap[k]? = w.heap[k]?) (hos : w'.os = w.os) (htp : w'.tape = w.tape) (hout : w'.output = w.output) (hsz : w.heap.size ≤ w'.heap.size)
    (hq : ck.q N (ρ.set H.length lc S) H.length w') (hfp : ∀ k, ck.fp (ρ.set H.length lc S) H.length k → w.heap.size ≤ k ∨ ∃ n c, d = some n ∧ hget H n = some c ∧ c.fp ρ n k) :
    Own N (ρ.set H.length lc S) (killO H d ++ [some ck]) w' ∧ Evo N H.length ρ H w (ρ.set H.length lc S) (killO H d ++ [some ck]) w' ∧ ClHp N (killO H d ++ [some ck]) := by
  have hget' : ∀ n, hget (killO H d ++ [some ck]) n = if n = H.length then some ck else if d = some n then some .dead else hget H n := fun n => by
    rw [hget_app, kill_len]
    by_cases e : n = H.length
    · rw [if_pos e, if_pos e]
    · rw [if_neg e, if_neg e]
      cases d with
      | none => simp [killO]
      | some m =>
        obtain ⟨c, hc⟩ := hd m rfl
        by_cases e' : m = n
        · subst e'; simp [killO, hget_lset_self _ (hget_lt hc)]
        · have : ¬ (some m = some n) := fun h => e' (Option.some.inj h)
          rw [if_neg this]; simp only [killO, hget_lset_ne _ e']
  have hne : ∀ n c, hget H n = some c → n ≠ H.length := fun n c h e => by have := hget_lt h; omega
  have hag : ∀ n c, hget H n = some c → (ρ.set H.length lc S).L n = ρ.L n := fun n c h => (ρ.set_ne lc S (hne n c h)).1
  have hagS : ∀ n c, hget H n = some c → (ρ.set H.length lc S).S n = ρ.S n := fun n c h => (ρ.set_ne lc S (hne n c h)).2
  have pers : ∀ n c, hget H n = some c → ∃ c', hget (killO H d ++ [some ck]) n = some c' := fun n c h => by
    rw [hget', if_neg (hne n c h)]
    by_cases e : d = some n
    · exact ⟨_, if_pos e⟩
    · exact ⟨c, by rw [if_neg e]; exact h⟩
  -- a thing of the new heap that is neither new nor forgotten
  have cases3 : ∀ n c, hget (killO H d ++ [some ck]) n = some c → (n = H.length ∧ c = ck) ∨ (c = .dead) ∨ (n ≠ H.length ∧ d ≠ some n ∧ hget H n = some c) := fun n c h => by
    rw [hget'] at h
    by_cases e : n = H.length
    · rw [if_pos e] at h; exact .inl ⟨e, (Option.some.inj h).symm⟩
    · rw [if_neg e] at h
      by_cases e' : d = some n
      · rw [if_pos e'] at h; exact .inr (.inl (Option.some.inj h).symm)
      · rw [if_neg e'] at h; exact .inr (.inr ⟨e, e', h⟩)
  have keep : ∀ n c k, d ≠ some n → hget H n = some c → c.fp ρ n k → w'.heap[k]? = w.heap[k]? := fun n c k hn hc hk =>
    hfr k (hO.lt hc hk) fun m x hm hx hf => hO.dis n m c x (fun e => hn (by rw [hm, e])) hc hx k hk hf
  refine ⟨⟨?_, ?_, ?_⟩, ⟨pers, hag, ?_, ?_, ?_, ?_, hos, htp, hout, hsz⟩, ?_, trivial⟩
  · intro n c hc
    rcases cases3 n c hc with ⟨rfl, rfl⟩ | rfl | ⟨_, hn, h⟩
    · exact hq
    · trivial
    · exact q_keep (hO.q n c h) (hag n c h) (hagS n c h) (denL_congr (hC.1 n c h) hag) (fun k hk => keep n c k hn h hk)
  · intro n m c x hnm hc hx k hk hk'
    rcases cases3 n c hc with ⟨rfl, rfl⟩ | rfl | ⟨_, hn, h⟩
    · rcases cases3 m x hx with ⟨rfl, _⟩ | rfl | ⟨_, hm, h'⟩
      · exact hnm rfl
      · exact hk'
      · rw [fp_congr (hag m x h') (hagS m x h')] at hk'
        rcases hfp k hk with h1 | ⟨n0, c0, hd0, hc0, hk0⟩
        · have := hO.lt h' hk'; omega
        · exact hO.dis m n0 x c0 (fun e => hm (by rw [hd0, e])) h' hc0 k hk' hk0
    · exact hk
    · rw [fp_congr (hag n c h) (hagS n c h)] at hk
      rcases cases3 m x hx with ⟨rfl, rfl⟩ | rfl | ⟨_, hm, h'⟩
      · rcases hfp k hk' with h1 | ⟨n0, c0, hd0, hc0, hk0⟩
        · have := hO.lt h hk; omega
        · exact hO.dis n n0 c c0 (fun e => hn (by rw [hd0, e])) h hc0 k hk hk0
      · exact hk'
      · rw [fp_congr (hag m x h') (hagS m x h')] at hk'
        exact hO.dis n m c x hnm h h' k hk hk'
  · intro g hg
    have : g ≠ H.length := by omega
    have h2 := (ρ.set_ne lc S this).1
    simp only [Nm.f, h2]
    exact hO.glb g hg
  · intro n hn hh
    rw [hget', if_neg (by omega)]
    have : d ≠ some n := fun e => by obtain ⟨c, hc⟩ := hd n e; rw [hc] at hh; cases hh
    rw [if_neg this]; exact hh
  · simp [kill_len]
  · intro k hk hno
    exact hfr k hk fun n c _ hc hf => hno n c hc hf
  · intro n c k hc hk
    rcases cases3 n c hc with ⟨rfl, rfl⟩ | rfl | ⟨_, _, h⟩
    · rcases hfp k hk with h1 | ⟨n0, c0, _, hc0, hk0⟩
      · exact .inl h1
      · exact .inr ⟨n0, c0, hc0, hk0⟩
    · exact hk.elim
    · rw [fp_congr (hag n c h) (hagS n c h)] at hk
      exact .inr ⟨n, c, h, hk⟩
  · intro n x hc
    rcases cases3 n x hc with ⟨rfl, rfl⟩ | rfl | ⟨_, _, h⟩
    · exact hck.mono pers
    · intro c hc; cases hc
    · exact (hC.1 n x h).mono pers
end Go.Sx
