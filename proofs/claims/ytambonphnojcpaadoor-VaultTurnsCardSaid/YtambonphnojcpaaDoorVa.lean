/- The vault's places: the turning of eight bits (the program's and the document's) as a plain function; summaries of both. -/
import Derived.Test.YtambonphnojcpaaDoorSxT
import Derived.Test.YtambonphnojcpaaDoorSxV
import Derived.Test.YtambonphnojcpaaDoorSxS
import Derived.Test.YtambonphnojcpaaDoorEs
namespace Go.Proofs.YtambonphnojcpaaDoor
open Go Go.Sx Go.Proofs
set_option maxRecDepth 100000
def F0 : Intf Empty where
  q := fun a => nomatch a
  loc := fun a => nomatch a
  dom := fun a => nomatch a
  row := fun a => nomatch a
  row_nm := fun a => nomatch a
  row_ok := fun a => nomatch a
  upd := fun a => nomatch a
  upd_ok := fun a => nomatch a
noncomputable def N0 : Env Empty := { tt := tt, ft := ft, gu := gu, G := 1, F := F0 }
theorem ok0 : TblOk Tryd.prog N0 := tblOk 1 F0 _ _
theorem lps0 : LpsOk Tryd.prog N0 := fun f fn c _ _ id b _ g hg => by cases hg
theorem hv0 : HvOk Tryd.prog N0 := fun o args H v H' h => by simp [N0, T.val] at h
theorem fn0 (n : Nat) (f : FuncId) : FnOk Tryd.prog N0 f (lv N0 (fun _ => none) n (.fn f)) := lv_fn ok0 lps0 hv0 (tab_none _ _) n f
/-- eight bits, turned round -/
def rev (n : Int) : Int := (((((((n % 2) * 2 + n / 2 % 2) * 2 + n / 4 % 2) * 2 + n / 8 % 2) * 2 + n / 16 % 2) * 2 + n / 32 % 2) * 2 + n / 64 % 2) * 2 + n / 128 % 2
def revS : List SV → Hp Empty → T (SV × Hp Empty)
  | [.v (.c x)], H => match intC x with
    | some (.i64, n, lit) => (guardT lit (decide (0 ≤ n ∧ n < 256)) (mkI .i64 (rev n) lit)).map fun r => (.v r, H)
    | _ => .fail "reverse"
  | _, _ => .fail "reverse"
noncomputable def runI (f : FuncId) (n : Int) := lv N0 (fun _ => none) 8 (.fn f) [.v (.c (I n))] [none]
/-- the table by which the program turns -/
def revtab : ByteArray := ⟨#[0, 128, 64, 192, 32, 160, 96, 224, 16, 144, 80, 208, 48, 176, 112, 240, 8, 136, 72, 200, 40, 168, 104, 232, 24, 152, 88, 216, 56, 184, 120, 248, 4, 132, 68, 196, 36, 164, 100, 228, 20, 148, 84, 212, 52, 180, 116, 244, 12, 140, 76, 204, 44, 172, 108, 236, 28, 156, 92, 220, 60, 188, 124, 252, 2, 130, 66, 194, 34, 162, 98, 226, 18, 146, 82, 210, 50, 178, 114, 242, 10, 138, 74, 202, 42, 170, 106, 234, 26, 154, 90, 218, 58, 186, 122, 250, 6, 134, 70, 198, 38, 166, 102, 230, 22, 150, 86, 214, 54, 182, 118, 246, 14, 142, 78, 206, 46, 174, 110, 238, 30, 158, 94, 222, 62, 190, 126, 254, 1, 129, 65, 193, 33, 161, 97, 225, 17, 145, 81, 209, 49, 177, 113, 241, 9, 137, 73, 201, 41, 169, 105, 233, 25, 153, 89, 217, 57, 185, 121, 249, 5, 133, 69, 197, 37, 165, 101, 229, 21, 149, 85, 213, 53, 181, 117, 245, 13, 141, 77, 205, 45, 173, 109, 237, 29, 157, 93, 221, 61, 189, 125, 253, 3, 131, 67, 195, 35, 163, 99, 227, 19, 147, 83, 211, 51, 179, 115, 243, 11, 139, 75, 203, 43, 171, 107, 235, 27, 155, 91, 219, 59, 187, 123, 251, 7, 135, 71, 199, 39, 167, 103, 231, 23, 151, 87, 215, 55, 183, 119, 247, 15, 143, 79, 207, 47, 175, 111, 239, 31, 159, 95, 223, 63, 191, 127, 255]⟩
def tabB (n : Int) : Bool := decide (0 ≤ IntKind.u8.wrap n ∧ IntKind.u8.wrap n < (revtab.data.toList.length : Int))
def tabM (n : Int) : Int := IntKind.i64.wrap (byteI revtab (IntKind.u8.wrap n))
/-- the document's rounds -/
def trn : Nat → Int → Int → Int
  | 0, out, _ => out
  | k + 1, out, n => trn k (IntKind.i64.wrap (IntKind.i64.wrap (2 * out) + n.tmod 2)) (IntKind.i64.wrap (n.tdiv 2))
theorem run_rev (n : Int) : (runI 15 n).map (fun r => r.1) = .need (tabB n) (.leaf (.v (.c (.it .i64 (tabM n))))) := by kernel_rfl
theorem run_trn (n : Int) : (runI 16 n).val.map (fun r => r.1) = some (.v (.c (.it .i64 (trn 8 0 n)))) := by kernel_rfl
def checkI (f : Int → Bool) : Nat → Bool
  | 0 => true
  | k + 1 => match f (k : Int) with
    | true => checkI f k
    | false => false
theorem checkI_spec {f : Int → Bool} : ∀ {n : Nat}, checkI f n = true → ∀ k : Int, 0 ≤ k → k < n → f k = true
  | 0, _, k, h0, h1 => by omega
  | n + 1, h, k, h0, h1 => by
    simp only [checkI] at h
    split at h
    · rename_i hf
      by_cases e : k = n
      · subst e; exact hf
      · exact checkI_spec h k h0 (by omega)
    · cases h
theorem chk_tab : checkI (fun n => tabB n && decide (tabM n = rev n)) 256 = true := by kernel_rfl
theorem chk_trn : checkI (fun n => decide (trn 8 0 n = rev n)) 256 = true := by kernel_rfl
theorem revS_val {args : List SV} {H H' : Hp Empty} {v : SV} (h : (revS args H).val = some (v, H')) : H' = H ∧ ∃ n lit, 0 ≤ n ∧ n < 256 ∧ (∀ ρ : Nm, args.map (SV.den ρ) = [.int .i64 n]) ∧ v = .v (mkI .i64 (rev n) lit) := by
  unfold revS at h
  split at h
  · rename_i x
    split at h
    · rename_i n lit hx
      have hd : ∀ ρ : Nm, [SV.v (.c x)].map (SV.den ρ) = [.int .i64 n] := fun ρ => by
        simp only [List.map_cons, List.map_nil, SV.den, V1.den, intC_den ρ hx]
      cases lit with
      | true =>
        simp only [guardT] at h
        split at h
        · rename_i hb
          simp only [T.map, T.val, Option.some.injEq, Prod.mk.injEq] at h
          obtain ⟨rfl, rfl⟩ := h
          have := of_decide_eq_true hb
          exact ⟨rfl, n, true, this.1, this.2, hd, rfl⟩
        · simp [T.map, T.val] at h
      | false =>
        simp only [guardT, T.map] at h
        obtain ⟨hb, h⟩ := need_val h
        simp only [T.val, Option.some.injEq, Prod.mk.injEq] at h
        obtain ⟨rfl, rfl⟩ := h
        have := of_decide_eq_true hb
        exact ⟨rfl, n, false, this.1, this.2, hd, rfl⟩
    · simp [T.val] at h
  · simp [T.val] at h
theorem plI (n : Int) (lit : Bool) : Plain (.v (mkI .i64 n lit)) := by
  intro c hc
  cases lit <;> (simp [mkI, V1.cells] at hc; subst hc; rfl)
theorem denI (n : Int) (lit : Bool) (ρ : Nm) : (SV.v (mkI .i64 n lit)).den ρ = .int .i64 n := by cases lit <;> rfl
/-- a function that turns eight bits has this summary -/
theorem revS_of {f : FuncId} (hr : ∀ n : Int, 0 ≤ n → n < 256 → ∃ H', (runI f n).val = some (.v (.c (.it .i64 (rev n))), H')) : FnOk Tryd.prog N0 f revS := by
  refine fnOk_pure fun args H v H' h => ?_
  obtain ⟨rfl, n, lit, h0, h1, hd, rfl⟩ := revS_val h
  refine ⟨rfl, plI _ _, fun ρ hg w => ?_⟩
  obtain ⟨H2, h2⟩ := hr n h0 h1
  have hpl : ∀ x ∈ [SV.v (.c (I n))], Plain x := fun x hx => by simp at hx; subst hx; exact plI n false
  have := pure_calls (fn0 8 f) (k := 1) h2 hpl (plI _ false) ρ hg w
  rw [hd ρ, denI]
  exact this
theorem rev_ok : FnOk Tryd.prog N0 15 revS := revS_of fun n h0 h1 => by
  have hc := checkI_spec chk_tab n h0 h1
  simp only [Bool.and_eq_true, decide_eq_true_eq] at hc
  have hv : ((runI 15 n).map (fun r => r.1)).val = some (.v (.c (.it .i64 (rev n)))) := by rw [run_rev, hc.1, hc.2]; rfl
  rw [T.val_map] at hv
  obtain ⟨⟨v, H'⟩, h2, rfl⟩ := Option.map_eq_some_iff.1 hv
  exact ⟨H', h2⟩
theorem trn_ok : FnOk Tryd.prog N0 16 revS := revS_of fun n h0 h1 => by
  have hc := of_decide_eq_true (checkI_spec chk_trn n h0 h1)
  have hv := run_trn n
  rw [hc] at hv
  obtain ⟨⟨v, H'⟩, h2, h3⟩ := Option.map_eq_some_iff.1 hv
  simp only at h3
  subst h3
  exact ⟨H', h2⟩
def tabV (f : FuncId) : Option (List SV → Hp Empty → T (SV × Hp Empty)) :=
  match Nat.beq f 15 with
  | true => some revS
  | false => match Nat.beq f 16 with
    | true => some revS
    | false => match Nat.beq f 14 with
      | true => some sumIs
      | false => none
theorem tabV_ok : TabOk Tryd.prog N0 tabV := by
  intro f g h
  unfold tabV at h
  split at h
  · rename_i e
    have e := (beq_iff _ _).1 e
    subst e
    cases h
    exact rev_ok
  · split at h
    · rename_i e
      have e := (beq_iff _ _).1 e
      subst e
      cases h
      exact trn_ok
    · split at h
      · rename_i e
        have e := (beq_iff _ _).1 e
        subst e
        cases h
        exact is_ok
      · cases h
def G0 (ad : Addr) : Chunk Empty := .cells [.ifc 117 (.op 0 ad)] 31
noncomputable def lawV (n : Int) (ad : Addr) := lv N0 tabV 16 (.fn 3) [.v (.c (I n))] [some (G0 ad)]
end Go.Proofs.YtambonphnojcpaaDoor
