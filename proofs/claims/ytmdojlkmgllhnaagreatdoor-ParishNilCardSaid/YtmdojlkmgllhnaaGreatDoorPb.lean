/- The frame with objects: runs of functions on opened objects, folded again. -/
import Derived.Test.YtmdojlkmgllhnaaGreatDoorPa
namespace Go.Proofs.YtmdojlkmgllhnaaGreatDoor
open Go Go.Sx Go.Proofs
set_option linter.unusedVariables false
noncomputable def NV (σ : Nat → Addr) : Env AV := { tt := tt, ft := ft, gu := gu, G := 8, F := F1 σ, hv := hvG (F1 σ) slT 8, mt := mtF, sl := slT }
variable {σ : Nat → Addr}
theorem okV : TblOk Tryz.prog (NV σ) := tblOk_mt (tblOk 8 (F1 σ) (hvG (F1 σ) slT 8) (fun _ _ => none)) rfl rfl rfl rfl
theorem lpsV : LpsOk Tryz.prog (NV σ) := fun f fn c _ _ id b _ g hg => by cases hg
theorem hvV : HvOk Tryz.prog (NV σ) := hvG_ok slOk rfl
abbrev Tab := FuncId → Option (List SV → Hp AV → T (SV × Hp AV))
theorem fnV {tab : Tab} (ht : TabOk Tryz.prog (NV σ) tab) (n : Nat) (f : FuncId) : FnOk Tryz.prog (NV σ) f (lv (NV σ) tab n (.fn f)) := lv_fn okV lpsV hvV ht n f
def isS : AV → Nat → Bool
  | .sent i, j => Nat.beq i j
  | _, _ => false
theorem isS_ok : ∀ a i, isS a i = true → a = .sent i := fun a i h => by
  cases a <;> first
    | (have h := (beq_iff _ _).1 h; subst h; rfl)
    | cases h
/-- all listed errors -/
def allM : List Bool := List.replicate 8 true
/-- the heap of the listed errors that are wanted, and objects -/
def hpO (M : List Bool) (l : List AV) : Hp AV := sentL AV.sent 0 M ++ absL l
/-- a run on a heap of objects, of which the first is opened to K -/
noncomputable def runO (σ : Nat → Addr) (tab : Tab) (f : FuncId) (M : List Bool) (args : List SV) (l : List AV) (K : Hp AV) : T (SV × List AV × List AV) :=
  match openH (hpO M l) M.length K with
  | H => match Q.clVs H args, Q.clHs H H with
    | true, true => Q.bind (Q.lv (NV σ) tab 14 (.fn f) args H) (closeT (viewP σ) isS M l.length [M.length])
    | _, _ => .fail "run: names"
/-- a run on a heap of objects -/
noncomputable def runN (σ : Nat → Addr) (tab : Tab) (f : FuncId) (M : List Bool) (args : List SV) (l : List AV) : T (SV × List AV × List AV) :=
  Q.bind (Q.lv (NV σ) tab 14 (.fn f) args (hpO M l)) (closeT (viewP σ) isS M l.length [])
theorem hpO_cl (M : List Bool) (l : List AV) : ClHp (NV σ) (hpO M l) := by
  refine ⟨fun n c h => ?_, trivial⟩
  unfold hpO at h
  rw [hget_append] at h
  split at h
  · rw [((sentL_get _ _ _ _ _).1 h).2]; intro c hc; cases hc
  · obtain ⟨a, _, rfl⟩ := (absL_get _ _ _).1 h; intro c hc; cases hc
theorem clHs_spec {H : Hp AV} (h : clHs H H = true) : ClHp (NV σ) H := ⟨clHs_iff.1 h, trivial⟩
theorem runO_ok {tab : Tab} (ht : TabOk Tryz.prog (NV σ) tab) {f : FuncId} {M : List Bool} (hM : 8 = M.length) {args : List SV} {a : AV} {l : List AV} {K : Hp AV} (hK : lay1 σ a = some K) (hK0 : ∃ c, hget K 0 = some c) (hflat : flatLay (lay1 σ) K) {v : SV} {l' nw : List AV}
    (hargs : ∀ x ∈ args, ClV (hpO M (a :: l)) x) (h : (runO σ tab f M args (a :: l) K).val = some (v, l', nw)) : Ctr Tryz.prog (NV σ) f args (hpO M (a :: l)) v (hpO M (l' ++ nw)) ∧ l'.length = (a :: l).length := by
  unfold runO at h
  dsimp only at h
  split at h
  · rename_i h1 h2
    rw [Q.clVs_eq] at h1
    rw [Q.clHs_eq] at h2
    rw [Q.bind_eq, Q.lv_eq] at h
    obtain ⟨⟨v1, H2⟩, hr, hc⟩ := T.bind_some h
    have hn : hget (hpO M (a :: l)) M.length = some (.abs a) := by
      unfold hpO
      rw [hget_append, sentL_len, if_neg (by omega), Nat.sub_self]
      rfl
    have hopn : Opn (NV σ) (hpO M (a :: l)) (openH (hpO M (a :: l)) M.length K) := opn_open (hpO_cl M _) hn hK0 (by show 8 ≤ M.length; omega) fun l S w hq => (obj_q (N := NV σ) (h := lay1_ok σ) rfl hK hflat l S w).1 hq
    have hctr := (fnV ht 14 f).ctr hr (clVs_iff.1 h1) (clHs_spec h2)
    refine closeT_ok (N := NV σ) (viewP_ok rfl) isS_ok hM hargs hopn (fun m c h => ?_) hctr hc
    have hlt := hget_lt hn
    have h : hget (hpO M (a :: l)) m = some c := h
    rw [hget_open hlt (by rintro rfl; obtain ⟨c, hc⟩ := hK0; cases hc)]
    by_cases e : m = M.length
    · obtain ⟨c0, hc0⟩ := hK0
      rw [if_pos e, hc0]; exact ⟨_, rfl⟩
    · rw [if_neg e, if_pos (hget_lt h)]; exact ⟨c, h⟩
  · simp [T.val] at h
theorem runN_ok {tab : Tab} (ht : TabOk Tryz.prog (NV σ) tab) {f : FuncId} {M : List Bool} (hM : 8 = M.length) {args : List SV} {l : List AV} {v : SV} {l' nw : List AV}
    (hargs : ∀ x ∈ args, ClV (hpO M l) x) (h : (runN σ tab f M args l).val = some (v, l', nw)) : Ctr Tryz.prog (NV σ) f args (hpO M l) v (hpO M (l' ++ nw)) ∧ l'.length = l.length := by
  unfold runN at h
  rw [Q.bind_eq, Q.lv_eq] at h
  obtain ⟨⟨v1, H2⟩, hr, hc⟩ := T.bind_some h
  exact closeT_ok (N := NV σ) (viewP_ok rfl) isS_ok hM hargs (Opn.refl _) (fun m c h => ⟨c, h⟩) ((fnV ht 14 f).ctr hr hargs (hpO_cl M l)) hc
end Go.Proofs.YtmdojlkmgllhnaaGreatDoor
