/- ParishNil: 'awake', and which operations fit, as summaries; the law's loop, of which parts may be the last ones. -/
import Derived.Test.YtmdojlkmgllhnaaGreatDoorYb
import Derived.Test.YtmdojlkmgllhnaaGreatDoorSxLr
namespace Go.Proofs.YtmdojlkmgllhnaaGreatDoor
open Go Go.Sx Go.Proofs
set_option maxRecDepth 100000
set_option maxHeartbeats 0
theorem run_awake (σ : Nat → Addr) : runN σ tabE 4 allM [] [] =
    .need (decide (σ 3 = σ 3)) (.need (decide (σ 2 = σ 2)) (.need (decide (σ 2 = σ 2)) (.leaf (.v (.c (.bl true)), [], [])))) := by kernel_rfl
variable {σ : Nat → Addr}
theorem awake_ok : FnOk Tryz.prog (NV σ) 4 (sumG isS allM treeT) :=
  treeT_ok tabE_ok rfl (by rw [run_awake]; simp [T.val])
def MF : List Bool := [false, false, true, false, false, false, false, false]
noncomputable def fitsB (σ : Nat → Addr) (s k key val tall : Int) : Bool := boolOf (runNO σ tabE 25 MF s k key val tall)
theorem fits_all (σ : Nat → Addr) (s k key val tall : Int) : allBool (runNO σ tabE 25 MF s k key val tall) = true := by kernel_rfl
theorem fits_ok : FnOk Tryz.prog (NV σ) 25 (sumG isS MF (treeNO σ tabE 25 MF)) := treeNO_ok tabE_ok rfl (fits_all σ)
noncomputable def tabL (σ : Nat → Addr) : Tab := tabAdd 4 (sumG isS allM treeT) (tabAdd 25 (sumG isS MF (treeNO σ tabE 25 MF)) tabE)
theorem tabL_ok : TabOk Tryz.prog (NV σ) (tabL σ) := tabAdd_ok awake_ok (tabAdd_ok fits_ok tabE_ok)
noncomputable def bodyN : Code := match Tryz.f3.body with | some c => c | none => .skip
noncomputable def loopN : Code := match loopsOf bodyN with | (_, c) :: _ => c | _ => .skip
/-- the number of the loop's first region -/
noncomputable def idN : Nat := match loopsOf bodyN with | (i, _) :: _ => i | _ => 0
theorem loopsN : loopsOf bodyN = [(idN, loopN)] := by kernel_rfl
noncomputable def ntN : Nat := Tryz.f3.ntmps
/-- arrays of operations, told as lists -/
def weakC : Option (Chunk AV) → Option (Chunk AV)
  | some (.vec cs es ty) => match Nat.beq es 4, Nat.beq ty kops.ty with
    | true, true => match kops.decs (cs.length / 4) cs with
      | some l => some (.abs (.ops l))
      | none => some (.vec cs es ty)
    | _, _ => some (.vec cs es ty)
  | x => x
def weakO : Hp AV → Hp AV
  | [] => []
  | x :: r => weakC x :: weakO r
theorem weakO_get : ∀ (H : Hp AV) (n : Nat), hget (weakO H) n = weakC (hget H n)
  | [], n => by cases n <;> rfl
  | x :: r, 0 => rfl
  | x :: r, n + 1 => weakO_get r n
theorem weakO_len : ∀ (H : Hp AV), (weakO H).length = H.length
  | [] => rfl
  | x :: r => congrArg (· + 1) (weakO_len r)
theorem weakO_ok {N : Env AV} (hF : N.F = F1 σ) (H : Hp AV) : Wk N H (weakO H) := by
  refine ⟨weakO_len H, fun n h => (by rw [weakO_get, h]; rfl), fun n c h => ?_⟩
  rw [weakO_get, h]
  unfold weakC
  split
  · rename_i cs es ty e
    cases e
    split
    · rename_i h1 h2
      have h1 := (beq_iff _ _).1 h1
      have h2 := (beq_iff _ _).1 h2
      subst h1 h2
      split
      · rename_i l hl
        obtain ⟨v1, v2⟩ := kops.decs_ok hl
        exact ⟨_, rfl, .inr (imp_arr (N := N) (vs := kops.vals l) (by rw [hF]; rfl) v1 v2)⟩
      · exact ⟨_, rfl, .inl rfl⟩
    · exact ⟨_, rfl, .inl rfl⟩
  · exact ⟨_, rfl, .inl rfl⟩
noncomputable def lpN (σ : Nat → Addr) (a b : Nat) : FuncId → Nat → Option (St AV → T (Ex × St AV)) := fun f id => match Nat.beq f 3 with
  | true => match Nat.beq id idN with
    | true => some (fun s => roundsC ntN (Q.xc (NV σ) (Q.joinCal (Q.lv (NV σ) (tabL σ) 12)) (fun _ => none) ntN loopN) a b b 0 { s with H := weakO s.H })
    | false => none
  | false => none
noncomputable def NL (σ : Nat → Addr) (a b : Nat) : Env AV := { tt := tt, ft := ft, gu := gu, G := 8, F := F1 σ, hv := hvG (F1 σ) slT 8, mt := mtF, sl := slT, lp := lpN σ a b }
variable {a b : Nat}
theorem okL : TblOk Tryz.prog (NL σ a b) := tblOk_mt (tblOk 8 (F1 σ) (hvG (F1 σ) slT 8) (fun _ _ => none)) rfl rfl rfl rfl
theorem hvL : HvOk Tryz.prog (NL σ a b) := hvG_ok slOk rfl
theorem ftN : ft.get 3 = some Tryz.f3 := by kernel_rfl
theorem bodyN_eq : Tryz.f3.body = some bodyN := by kernel_rfl
theorem lpN_eq : lpN σ a b 3 idN = some (fun s => roundsC ntN (Q.xc (NV σ) (Q.joinCal (Q.lv (NV σ) (tabL σ) 12)) (fun _ => none) ntN loopN) a b b 0 { s with H := weakO s.H }) := by
  unfold lpN
  rw [show Nat.beq 3 3 = true from rfl, show Nat.beq idN idN = true from (beq_iff _ _).2 rfl]
theorem lpsL : LpsOk Tryz.prog (NL σ a b) := by
  intro f fn c hf hc id bd hb g hg
  by_cases e : f = 3
  · subst e
    have hf : ft.get 3 = some fn := hf
    rw [ftN] at hf
    cases hf
    rw [bodyN_eq] at hc
    cases hc
    rw [loopsN] at hb
    simp only [List.mem_cons, List.not_mem_nil, or_false, Prod.mk.injEq] at hb
    obtain ⟨rfl, rfl⟩ := hb
    have hg : lpN σ a b 3 idN = some g := hg
    rw [lpN_eq] at hg
    cases hg
    rw [show Q.joinCal (Q.lv (NV σ) (tabL σ) 12) = joinCal (lv (NV σ) (tabL σ) 12) by rw [Q.joinCal_eq, Q.lv_eq]]
    exact loopOk_pre (loopOk_cut (N := NV σ) (N' := NL σ a b) (nt := ntN) (c := loopN) rfl rfl okV (joinCal_ok (lv_ok okV lpsV hvV tabL_ok 12))) fun H => weakO_ok (σ := σ) rfl H
  · have e1 : lpN σ a b f id = none := by
      unfold lpN
      rw [(beq_false_iff f 3).2 e]
    have hg : lpN σ a b f id = some g := hg
    rw [e1] at hg
    cases hg
end Go.Proofs.YtmdojlkmgllhnaaGreatDoor
