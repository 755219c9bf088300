/- States that say less; things forgotten; the same in another environment. -/
import Derived.Test.YtmdojlkmgllhnaaGreatDoorSxO
namespace Go.Sx
variable {AV : Type}
theorem q_env {N N' : Env AV} (hF : N'.F = N.F) {ρ : Nm} {n : Nat} {w : World} {c : Chunk AV} (h : c.q N ρ n w) : c.q N' ρ n w := by
  cases c with
  | cells l t => exact h
  | vec l e t => exact h
  | dead => trivial
  | abs a => show N'.F.q _ _ _ _; rw [hF]; exact h
theorem own_env {N N' : Env AV} (hF : N'.F = N.F) (hG : N'.G = N.G) {ρ : Nm} {H : Hp AV} {w : World} (h : Own N ρ H w) : Own N' ρ H w :=
  ⟨fun n c hc => q_env hF (h.q n c hc), h.dis, by rw [hG]; exact h.glb⟩
theorem evo_env {N : Env AV} (N' : Env AV) {L : Nat} {ρ ρ' : Nm} {H H' : Hp AV} {w w' : World} (h : Evo N L ρ H w ρ' H' w') : Evo N' L ρ H w ρ' H' w' :=
  ⟨h.pers, h.agree, h.non, h.len, h.frame, h.new, h.os, h.tape, h.output, h.size⟩
theorem closed_env {N : Env AV} (N' : Env AV) {s : St AV} (h : Closed N s) : Closed N' s := ⟨h.E, h.H⟩
/-- a thing is forgotten -/
theorem own_dead {N : Env AV} {ρ : Nm} {H : Hp AV} {w : World} {n : Nat} {ck : Chunk AV} (h : Own N ρ H w) (hn : hget H n = some ck) (L : Nat) :
    Own N ρ (lset H n (some .dead)) w ∧ Evo N L ρ H w ρ (lset H n (some .dead)) w := by
  have hlt := hget_lt hn
  have hself := hget_lset_self (H := H) .dead hlt
  have hold : ∀ m c, m ≠ n → hget (lset H n (some .dead)) m = some c → hget H m = some c := fun m c h e => by rwa [hget_lset_ne _ (Ne.symm h)] at e
  refine ⟨⟨fun m c hc => ?_, fun m m' c d hmm hc hd k hk hk' => ?_, h.glb⟩, ⟨fun m c hc => ?_, fun _ _ _ => rfl, fun m _ hc => ?_, by simp [length_lset], fun _ _ _ => rfl, fun m c k hc hk => ?_, rfl, rfl, rfl, Nat.le_refl _⟩⟩
  · by_cases e : m = n
    · subst e; rw [hself] at hc; cases hc; trivial
    · exact h.q m c (hold m c e hc)
  · by_cases e : m = n
    · subst e; rw [hself] at hc; cases hc; exact hk
    · by_cases e' : m' = n
      · subst e'; rw [hself] at hd; cases hd; exact hk'
      · exact h.dis m m' c d hmm (hold m c e hc) (hold m' d e' hd) k hk hk'
  · by_cases e : m = n
    · subst e; exact ⟨_, hself⟩
    · exact ⟨c, by rw [hget_lset_ne _ (Ne.symm e)]; exact hc⟩
  · by_cases e : m = n
    · subst e; rw [hn] at hc; cases hc
    · rw [hget_lset_ne _ (Ne.symm e)]; exact hc
  · by_cases e : m = n
    · subst e; rw [hself] at hc; cases hc; exact hk.elim
    · exact .inr ⟨m, c, hold m c e hc, hk⟩
theorem closed_dead {N : Env AV} {E : Ev} {H : Hp AV} {n : Nat} (h : Closed N { E := E, H := H }) : Closed N { E := E, H := lset H n (some .dead) } := by
  have pers : ∀ m c, hget H m = some c → ∃ c', hget (lset H n (some .dead)) m = some c' := fun m c hc => by
    by_cases e : m = n
    · subst e; exact ⟨_, hget_lset_self _ (hget_lt hc)⟩
    · exact ⟨c, by rw [hget_lset_ne _ (Ne.symm e)]; exact hc⟩
  refine ⟨fun k => (h.E k).mono pers, fun m x hx => ?_⟩
  by_cases e : m = n
  · subst e
    rcases Nat.lt_or_ge m H.length with hlt | hge
    · simp only at hx
      rw [hget_lset_self _ hlt] at hx
      cases hx
      intro c hc; cases hc
    · have := hget_lt hx
      simp only [length_lset] at this
      omega
  · simp only at hx
    rw [hget_lset_ne _ (Ne.symm e)] at hx
    exact (h.H m x hx).mono pers
/-- temporaries of which less is said -/
def Says (nt : Nat) (E E' : Ev) : Prop := (∀ k, k < nt → look E' k = .unk ∨ look E' k = look E k ∨ (look E k ≠ .unk ∧ Plain (look E' k) ∧ ∀ ρ, (look E' k).den ρ = (look E k).den ρ)) ∧ ∀ k, nt ≤ k → look E' k = undefV
theorem Says.em {nt : Nat} {E E' : Ev} (h : Says nt E E') {ρ : Nm} {a : Act} (he : EM ρ nt E a) : EM ρ nt E' a := by
  refine ⟨he.size, fun k hk => ?_⟩
  rcases Nat.lt_or_ge k nt with hlt | hge
  · rcases h.1 k hlt with e | e | ⟨e1, _, e2⟩
    · exact absurd e hk
    · rw [e] at hk ⊢
      exact he.get k hk
    · rw [e2]; exact he.get k e1
  · rw [h.2 k hge]
    have : a.tmps[k]? = none := by rw [Array.getElem?_eq_none]; rw [he.size]; exact hge
    simp [Array.getD_eq_getD_getElem?, this, undefV, SV.den, undef]
theorem Says.closed {N N' : Env AV} {nt : Nat} {E E' : Ev} (h : Says nt E E') {H : Hp AV} (hc : Closed N { E := E, H := H }) : Closed N' { E := E', H := H } := by
  refine ⟨fun k => ?_, hc.H⟩
  rcases Nat.lt_or_ge k nt with hlt | hge
  · rcases h.1 k hlt with e | e | ⟨_, e, _⟩
    · simp only [e]; trivial
    · simp only [e]; exact hc.E k
    · exact e.cl _
  · simp only [h.2 k hge]; exact undef_cl _
theorem says_only {nt : Nat} {ks : List Nat} {E E' : Ev} (h : ∀ k ∈ ks, k < nt → look E' k = look E k ∨ (look E k ≠ .unk ∧ Plain (look E' k) ∧ ∀ ρ, (look E' k).den ρ = (look E k).den ρ)) : Says nt E (only ks E' nt) := by
  refine ⟨fun k hk => ?_, fun k hk => ?_⟩
  · rw [only_look, if_pos hk]
    cases hh : hasN ks k with
    | false => exact .inl rfl
    | true => exact .inr (h k ((hasN_iff ks k).1 hh) hk)
  · rw [only_look, if_neg (by omega)]
end Go.Sx
