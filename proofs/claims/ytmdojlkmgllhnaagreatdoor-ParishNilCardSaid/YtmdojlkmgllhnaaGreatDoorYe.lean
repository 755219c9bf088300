/- ParishNil: the law's contract. -/
import Derived.Test.YtmdojlkmgllhnaaGreatDoorYda
import Derived.Test.YtmdojlkmgllhnaaGreatDoorYdb
import Derived.Test.YtmdojlkmgllhnaaGreatDoorYdc
import Derived.Test.YtmdojlkmgllhnaaGreatDoorYdd
import Derived.Test.YtmdojlkmgllhnaaGreatDoorYde
namespace Go.Proofs.YtmdojlkmgllhnaaGreatDoor
open Go Go.Sx Go.Proofs
theorem fnOk_env {N N' : Env AV} (hF : N'.F = N.F) (hG : N'.G = N.G) {f : FuncId} {g : List SV → Hp AV → T (SV × Hp AV)} (h : FnOk Tryz.prog N f g) : FnOk Tryz.prog N' f g := fun args H v H' hr ha hC => by
  obtain ⟨h1, h2, h3⟩ := h args H v H' hr ha ⟨hC.1, trivial⟩
  refine ⟨h1, ⟨h2.1, trivial⟩, fun ρ w hO => (h3 ρ w (own_env hF.symm hG.symm hO)).mono ?_⟩
  rintro e w' ⟨ρ', he, o, ev⟩
  exact ⟨ρ', he, own_env hF hG o, evo_env N' ev⟩
variable {σ : Nat → Addr} {a b : Nat}
theorem tabLL : TabOk Tryz.prog (NL σ a b) (tabL σ) := fun f g h => fnOk_env (N := NV σ) (N' := NL σ a b) rfl rfl (tabL_ok f g h)
theorem lawFn : FnOk Tryz.prog (NV σ) 3 (lv (NL σ a b) (tabL σ) 14 (.fn 3)) := fnOk_env (N := NL σ a b) (N' := NV σ) rfl rfl (lv_fn okL lpsL hvL tabLL 14 3)
theorem law_true (σ : Nat → Addr) (x k key val tall many : Int) : ∃ (a b : Nat) (c : Cell), (lawN σ a b x k key val tall many).val = some (.v (.c c), hpO allM []) ∧ ∀ ρ : Nm, c.den ρ = .bool true := by
  obtain ⟨h0, h1⟩ := nN_rng many
  cases hF : fitsB σ (sN x) k key val tall with
  | false =>
    obtain ⟨c, h2, h3⟩ := treeN_val (σ := σ) (a := 0) (b := 20) (s := sN x) (F := false) h0 h1 (fun _ => by omega) (fun e => by cases e)
    exact ⟨0, 20, c, by rw [run_law0, hF]; exact h2, h3⟩
  | true =>
    by_cases g0 : (nN many).toNat < 20
    · obtain ⟨c, h2, h3⟩ := treeN_val (σ := σ) (a := 0) (b := 20) (s := sN x) (F := true) h0 h1 (fun e => by cases e) (fun _ => by omega)
      exact ⟨0, 20, c, by rw [run_law0, hF]; exact h2, h3⟩
    by_cases g1 : (nN many).toNat < 40
    · obtain ⟨c, h2, h3⟩ := treeN_val (σ := σ) (a := 20) (b := 40) (s := sN x) (F := true) h0 h1 (fun e => by cases e) (fun _ => by omega)
      exact ⟨20, 40, c, by rw [run_law20, hF]; exact h2, h3⟩
    by_cases g2 : (nN many).toNat < 56
    · obtain ⟨c, h2, h3⟩ := treeN_val (σ := σ) (a := 40) (b := 56) (s := sN x) (F := true) h0 h1 (fun e => by cases e) (fun _ => by omega)
      exact ⟨40, 56, c, by rw [run_law40, hF]; exact h2, h3⟩
    by_cases g3 : (nN many).toNat < 68
    · obtain ⟨c, h2, h3⟩ := treeN_val (σ := σ) (a := 56) (b := 68) (s := sN x) (F := true) h0 h1 (fun e => by cases e) (fun _ => by omega)
      exact ⟨56, 68, c, by rw [run_law56, hF]; exact h2, h3⟩
    · obtain ⟨c, h2, h3⟩ := treeN_val (σ := σ) (a := 68) (b := 80) (s := sN x) (F := true) h0 h1 (fun e => by cases e) (fun _ => by omega)
      exact ⟨68, 80, c, by rw [run_law68, hF]; exact h2, h3⟩
theorem hpO_full {n : Nat} (hn : n < 8) : hget (hpO allM []) n = some (.abs (.sent n)) := by
  unfold hpO
  rw [show absL ([] : List AV) = [] from rfl, List.append_nil]
  refine (sentL_get _ _ _ _ _).2 ⟨?_, by rw [Nat.zero_add]⟩
  unfold allM
  rw [List.getElem?_replicate, if_pos hn]
theorem parishNil_calls (x k key val tall many : Int) (σ : Nat → Addr) (w : World) (hg : ∀ n, n < 8 → w.heap[n]? = some (.cells #[.iface 254 (.pointer (some (σ n)))] 31 (0, 0))) :
    Calls Tryz.prog 3 #[.int .i64 x, .agg #[.int .i64 k, .int .i64 key, .int .i64 val, .int .i64 tall], .int .i64 many] w fun e w' => e = .returned (.bool true) ∧ Quiet w w' := by
  obtain ⟨a, b, c, h1, h2⟩ := law_true σ x k key val tall many
  delta lawN at h1
  rw [Q.lv_eq] at h1
  refine quietV (σ := σ) (lawFn (a := a) (b := b)) (args := [.v (.c (.it .i64 x)), .v (.agg [.it .i64 k, .it .i64 key, .it .i64 val, .it .i64 tall]), .v (.c (.it .i64 many))]) hg ?_ h1 (fun ρ => h2 ρ) fun n hn => hpO_full hn
  intro y hy
  simp only [List.mem_cons, List.not_mem_nil, or_false] at hy
  rcases hy with rfl | rfl | rfl
  · intro c hc; simp [V1.cells] at hc; subst hc; rfl
  · intro c hc; simp [V1.cells] at hc; rcases hc with rfl | rfl | rfl | rfl <;> rfl
  · intro c hc; simp [V1.cells] at hc; subst hc; rfl
end Go.Proofs.YtmdojlkmgllhnaaGreatDoor
