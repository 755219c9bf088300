/- The frame with objects, in use: tables of summaries; functions of plain numbers that come to a Bool; functions without arguments. -/
import Derived.Test.YtmdojlkmgllhnaaGreatDoorPb
import Derived.Test.YtmdojlkmgllhnaaGreatDoorEs
namespace Go.Proofs.YtmdojlkmgllhnaaGreatDoor
open Go Go.Sx Go.Proofs
set_option linter.unusedVariables false
variable {σ : Nat → Addr}
def tab0 : Tab := fun _ => none
theorem tab0_ok : TabOk Tryz.prog (NV σ) tab0 := fun f g h => by cases h
def tabAdd (f : FuncId) (g : List SV → Hp AV → T (SV × Hp AV)) (tab : Tab) : Tab := fun x => match Nat.beq x f with
  | true => some g
  | false => tab x
theorem tabAdd_ok {f : FuncId} {g : List SV → Hp AV → T (SV × Hp AV)} {tab : Tab} (hg : FnOk Tryz.prog (NV σ) f g) (ht : TabOk Tryz.prog (NV σ) tab) : TabOk Tryz.prog (NV σ) (tabAdd f g tab) := by
  intro x y h
  unfold tabAdd at h
  split at h
  · rename_i e
    have e := (beq_iff _ _).1 e
    subst e
    cases h
    exact hg
  · exact ht x y h
def tabE : Tab := tabAdd 7 sumIs tab0
theorem tabE_ok : TabOk Tryz.prog (NV σ) tabE := tabAdd_ok is_ok tab0_ok
/-- all ways come to a Bool, and leave nothing behind -/
def allBool : T (SV × List AV × List AV) → Bool
  | .leaf (.v (.c c), [], []) => match boolC c with | some _ => true | none => false
  | .ite _ t e => match allBool t with | true => allBool e | false => false
  | .need b t => match b with | true => allBool t | false => false
  | _ => false
def boolOf (t : T (SV × List AV × List AV)) : Bool := match t.val with
  | some (.v (.c c), _, _) => match boolC c with
    | some (b, _) => b
    | none => false
  | _ => false
theorem allBool_spec : ∀ {t : T (SV × List AV × List AV)}, allBool t = true → ∃ c, t.val = some (.v (.c c), [], []) ∧ c.name = none ∧ ∀ ρ : Nm, c.den ρ = .bool (boolOf t)
  | .leaf (.v (.c c), [], []), h => by
    simp only [allBool] at h
    split at h
    · rename_i x hx
      refine ⟨c, rfl, ?_, fun ρ => ?_⟩
      · cases c <;> simp [boolC] at hx <;> rfl
      · rw [boolC_den ρ hx]
        simp only [boolOf, T.val, hx]
    · cases h
  | .ite b t e, h => by
    simp only [allBool] at h
    split at h
    · rename_i ht
      cases b with
      | true => exact allBool_spec (t := t) ht
      | false => exact allBool_spec (t := e) h
    · cases h
  | .need b t, h => by
    cases b with
    | true => exact allBool_spec (t := t) (by simpa [allBool] using h)
    | false => simp [allBool] at h
  | .fail _, h => by simp [allBool] at h
  | .leaf (.v (.c c), _ :: _, _), h => by simp [allBool] at h
  | .leaf (.v (.c c), [], _ :: _), h => by simp [allBool] at h
  | .leaf (.v (.agg _), _, _), h => by simp [allBool] at h
  | .leaf (.tup _, _, _), h => by simp [allBool] at h
  | .leaf (.unk, _, _), h => by simp [allBool] at h
/-- a function of a number and an operation that comes to a Bool, as it was run -/
noncomputable def runNO (σ : Nat → Addr) (tab : Tab) (f : FuncId) (M : List Bool) (s k key val tall : Int) : T (SV × List AV × List AV) :=
  runN σ tab f M [.v (.c (.it .i64 s)), .v (.agg [.it .i64 k, .it .i64 key, .it .i64 val, .it .i64 tall])] []
noncomputable def treeNO (σ : Nat → Addr) (tab : Tab) (f : FuncId) (M : List Bool) (args : List SV) (l : List AV) : T (SV × List AV × List AV) :=
  match args, l with
  | [.v (.c c0), .v (.agg [c1, c2, c3, c4])], [] => match iOf c0, iOf c1, iOf c2, iOf c3, iOf c4 with
    | some s, some k, some key, some val, some tall => .leaf (.v (.c (.bt (boolOf (runNO σ tab f M s k key val tall)))), [], [])
    | _, _, _, _, _ => .fail "arguments"
  | _, _ => .fail "arguments"
theorem plain_it (n : Int) : ∀ c ∈ (SV.v (.c (.it .i64 n)) : SV) |> fun | .v x => x.cells | _ => [], c.name = none := by
  intro c hc
  simp [V1.cells] at hc
  subst hc; rfl
theorem treeNO_ok {tab : Tab} (ht : TabOk Tryz.prog (NV σ) tab) {f : FuncId} {M : List Bool} (hM : 8 = M.length) (hall : ∀ s k key val tall, allBool (runNO σ tab f M s k key val tall) = true) : FnOk Tryz.prog (NV σ) f (sumG isS M (treeNO σ tab f M)) := by
  refine sumG_ok isS_ok hM fun args l v l' nw h hl hargs => ?_
  unfold treeNO at h
  split at h
  · rename_i c0 c1 c2 c3 c4
    split at h
    · rename_i s k key val tall h0 h1 h2 h3 h4
      simp only [T.val, Option.some.injEq, Prod.mk.injEq] at h
      obtain ⟨rfl, rfl, rfl⟩ := h
      obtain ⟨c, e1, e2, e3⟩ := allBool_spec (hall s k key val tall)
      have hr := runN_ok ht hM (args := [.v (.c (.it .i64 s)), .v (.agg [.it .i64 k, .it .i64 key, .it .i64 val, .it .i64 tall])]) (l := []) (v := .v (.c c)) (l' := []) (nw := []) (fun x hx => by
        simp only [List.mem_cons, List.not_mem_nil, or_false] at hx
        rcases hx with rfl | rfl
        · intro c hc; simp [V1.cells] at hc; subst hc; intro n hn; cases hn
        · intro c hc; simp [V1.cells] at hc; rcases hc with rfl | rfl | rfl | rfl <;> (intro n hn; cases hn)) e1
      refine ctr_val (ctr_args hr.1 fun ρ => ?_) (by intro c hc; simp [V1.cells] at hc; subst hc; intro n hn; cases hn) fun ρ => ?_
      · simp only [List.map_cons, List.map_nil, SV.den, V1.den, denL, iOf_den h0 ρ, iOf_den h1 ρ, iOf_den h2 ρ, iOf_den h3 ρ, iOf_den h4 ρ, Cell.den]
      · simp only [SV.den, V1.den, Cell.den, e3 ρ]
    · simp [T.val] at h
  · simp [T.val] at h
/-- a function without arguments that comes to 'true' and leaves all as it was -/
def treeT (args : List SV) (l : List AV) : T (SV × List AV × List AV) :=
  match args, l with
  | [], [] => .leaf (.v (.c (.bl true)), [], [])
  | _, _ => .fail "arguments"
theorem treeT_ok {tab : Tab} (ht : TabOk Tryz.prog (NV σ) tab) {f : FuncId} {M : List Bool} (hM : 8 = M.length) (h : (runN σ tab f M [] []).val = some (.v (.c (.bl true)), [], [])) : FnOk Tryz.prog (NV σ) f (sumG isS M treeT) := by
  refine sumG_ok isS_ok hM fun args l v l' nw h' hl hargs => ?_
  unfold treeT at h'
  split at h'
  · simp only [T.val, Option.some.injEq, Prod.mk.injEq] at h'
    obtain ⟨rfl, rfl, rfl⟩ := h'
    exact (runN_ok ht hM (fun x hx => by cases hx) h).1
  · simp [T.val] at h'
end Go.Proofs.YtmdojlkmgllhnaaGreatDoor
