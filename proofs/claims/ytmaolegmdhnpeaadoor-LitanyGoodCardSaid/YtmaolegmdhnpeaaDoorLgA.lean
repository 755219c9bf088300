/- LitanyGood: litany.Good by a summary; the law's runs. -/
import Derived.Test.YtmaolegmdhnpeaaDoorSxT
import Derived.Test.YtmaolegmdhnpeaaDoorSxP
namespace Go.Proofs.YtmaolegmdhnpeaaDoor
open Go Go.Sx Go.Proofs
def F0 : Intf Empty where
  fp := fun a => nomatch a
  q := fun a => nomatch a
  loc := fun a => nomatch a
  dom := fun a => nomatch a
  row := fun a => nomatch a
  row_nm := fun a => nomatch a
  row_ok := fun a => nomatch a
noncomputable def N0 : Env Empty := { tt := tt, ft := ft, gu := gu, G := 1, F := F0 }
theorem ok0 : TblOk Tryd.prog N0 := tblOk 1 F0
abbrev I (n : Int) : Cell := .it .i64 n
set_option maxRecDepth 100000
/-- which operations can be -/
def goodB (k key val tall : Int) : Bool :=
  match (match decide (key < 0) == false with | true => decide (key > 255) | false => true) with
  | true => false
  | false => match k == 6 with
    | true => match decide (0 ≤ val) == true with
      | true => match decide (val ≤ 1073741824) == true with
        | true => match decide (0 ≤ tall) == true with
          | true => decide (tall ≤ 3)
          | false => false
        | false => false
      | false => false
    | false => match k == 7 with
      | true => match k == 7 with
        | true => match (val == 0) == true with
          | true => tall == 0
          | false => false
        | false => false
      | false => match k == 8 with
        | true => match (val == 0) == true with
          | true => tall == 0
          | false => false
        | false => false
theorem good_bool (k key val tall : Int) : (lv N0 (fun _ => none) 3 12 [.v (.agg [I k, I key, I val, I tall])] [none]).bool = goodB k key val tall := by kernel_rfl
theorem good_all (k key val tall : Int) : (lv N0 (fun _ => none) 3 12 [.v (.agg [I k, I key, I val, I tall])] [none]).allB = true := by kernel_rfl
def i64C (c : Cell) : Option Int := match intC c with
  | some (k, n, _) => match decide (k = .i64) with | true => some n | false => none
  | none => none
theorem i64C_den {c : Cell} {n : Int} (h : i64C c = some n) (ρ : Nat → Nat) : c.den ρ = .int .i64 n := by
  unfold i64C at h
  split at h
  · rename_i k m _ hi
    split at h
    · rename_i hk
      cases h
      rw [intC_den ρ hi, of_decide_eq_true hk]
    · cases h
  · cases h
def sumGood : List SV → Hp Empty → T (SV × Hp Empty)
  | [.v (.agg [a, b, c, d])], H => match i64C a, i64C b, i64C c, i64C d with
    | some k, some key, some val, some tall => .leaf (.v (.c (.bt (goodB k key val tall))), H)
    | _, _, _, _ => .fail "good"
  | _, _ => .fail "good"
def tab : FuncId → Option (List SV → Hp Empty → T (SV × Hp Empty)) := fun f => match Nat.beq f 12 with | true => some sumGood | false => none
theorem good_calls (k key val tall : Int) (w : World) : Calls Tryd.prog 12 #[.agg #[.int .i64 k, .int .i64 key, .int .i64 val, .int .i64 tall]] w fun e w' => e = .returned (.bool (goodB k key val tall)) ∧ Quiet w w' := by
  obtain ⟨⟨v, H'⟩, h1, h2, h3⟩ := T.allB_spec (good_all k key val tall)
  have := pure_calls (k := 1) ok0 (tab_none _ _) h1 (by
    intro x hx
    simp at hx
    subst hx
    intro c hc
    simp [V1.cells] at hc
    rcases hc with rfl | rfl | rfl | rfl <;> rfl) h2 (fun n => n) (fun _ _ => rfl) w
  rw [good_bool] at h3
  rw [h3] at this
  exact this
theorem tab_ok : TabOk Tryd.prog N0 tab := by
  refine tabOk_pure fun f g hf args H v H' hr => ?_
  unfold tab at hf
  split at hf
  · rename_i h12
    cases hf
    obtain rfl := Nat.eq_of_beq_eq_true h12
    unfold sumGood at hr
    split at hr
    · rename_i a b c d _
      split at hr
      · rename_i k key val tall ha hb hc hd
        simp only [T.val, Option.some.injEq, Prod.mk.injEq] at hr
        obtain ⟨rfl, rfl⟩ := hr
        refine ⟨rfl, ?_, fun ρ _ w => ?_⟩
        · intro x hx; simp [V1.cells] at hx; subst hx; rfl
        · have := good_calls k key val tall w
          simp only [List.map_cons, List.map_nil, SV.den, V1.den, denL, i64C_den ha ρ, i64C_den hb ρ, i64C_den hc ρ, i64C_den hd ρ, Cell.den]
          exact this
      · simp [T.val] at hr
    · simp [T.val] at hr
  · cases hf
end Go.Proofs.YtmaolegmdhnpeaaDoor
