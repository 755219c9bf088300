/- VaultTurns: Order, Border, Key as summaries; the law's run. -/
import Derived.Test.YtambonphnojcpaaDoorVd
namespace Go.Proofs.YtambonphnojcpaaDoor
open Go Go.Sx Go.Proofs
set_option maxRecDepth 100000
/-- a function of one number -/
def sumP (out : Bool → Int → SV) : List SV → Hp Empty → T (SV × Hp Empty)
  | [.v (.c x)], H => match intC x with
    | some (.i64, n, lit) => .leaf (out lit n, H)
    | _ => .fail "sumP"
  | _, _ => .fail "sumP"
theorem sumP_ok {f : FuncId} {k : Nat} {out : Bool → Int → SV} (hpl : ∀ lit n, Plain (out lit n)) (hr : ∀ n : Int, ∃ u H2, (lv N0 tabV k (.fn f) [.v (.c (I n))] [none]).val = some (u, H2) ∧ Plain u ∧ ∀ lit (ρ : Nm), u.den ρ = (out lit n).den ρ) : FnOk Tryd.prog N0 f (sumP out) := by
  refine fnOk_pure fun args H v H' h => ?_
  unfold sumP at h
  split at h
  · rename_i x
    split at h
    · rename_i n lit hx
      simp only [T.val, Option.some.injEq, Prod.mk.injEq] at h
      obtain ⟨rfl, rfl⟩ := h
      refine ⟨rfl, hpl lit n, fun ρ hg w => ?_⟩
      obtain ⟨u, H2, h2, h3, h4⟩ := hr n
      have hpl : ∀ x ∈ [SV.v (.c (I n))], Plain x := fun x hx => by simp at hx; subst hx; exact plI n false
      have := pure_calls (fnV k f) (k := 1) h2 hpl h3 ρ hg w
      rw [← h4 lit]
      simp only [List.map_cons, List.map_nil, SV.den, V1.den, intC_den ρ hx]
      exact this
    · simp [T.val] at h
  · simp [T.val] at h
def ordP (n : Int) : Int := match decide (0 ≤ n ∧ n < 256) with | true => 2 * rev n + 1 | false => -1
def bordP (n : Int) : Int := match decide (0 ≤ n ∧ n < 8) with | true => 2 * rev n | false => -1
def keyB (n : Int) : Bool := match decide (0 ≤ n ∧ n < 512) with | true => n % 2 == 1 | false => false
def keyP (n : Int) : Int := match keyB n with | true => rev (n / 2) | false => 0
def ordT (n : Int) : T SV := .ite (match decide (n < 0) == false with | true => decide (n > 255) | false => true) (.leaf (.v (.c (.il .i64 (-1))))) (.need (decide (0 ≤ n ∧ n < 256)) (.leaf (.v (.c (.it .i64 (IntKind.i64.wrap (IntKind.i64.wrap (2 * rev n) + 1)))))))
def bordT (n : Int) : T SV := .ite (match decide (n < 0) == false with | true => decide (n ≥ 8) | false => true) (.leaf (.v (.c (.il .i64 (-1))))) (.need (decide (0 ≤ n ∧ n < 256)) (.leaf (.v (.c (.it .i64 (IntKind.i64.wrap (2 * rev n)))))))
def keyT (n : Int) : T SV := .need (match decide (n < 0) == false with
    | true => match decide (n > 511) == false with
      | true => (2 : Int) != 0
      | false => true
    | false => true)
  (.ite (match decide (n < 0) == false with
      | true => match decide (n > 511) == false with
        | true => n.tmod 2 == 0
        | false => true
      | false => true)
    (.leaf (.tup [.c (.il .i64 0), .c (.bl false)]))
    (.need (match (2 : Int) != 0 with
        | true => decide (0 ≤ IntKind.i64.wrap (n.tdiv 2) ∧ IntKind.i64.wrap (n.tdiv 2) < 256)
        | false => false)
      (.leaf (.tup [.c (.it .i64 (rev (IntKind.i64.wrap (n.tdiv 2)))), .c (.bl true)]))))
theorem run_ord (n : Int) : (lv N0 tabV 8 (.fn 8) [.v (.c (I n))] [none]).map (fun r => r.1) = ordT n := by kernel_rfl
theorem run_bord (n : Int) : (lv N0 tabV 8 (.fn 10) [.v (.c (I n))] [none]).map (fun r => r.1) = bordT n := by kernel_rfl
theorem run_key (n : Int) : (lv N0 tabV 8 (.fn 6) [.v (.c (I n))] [none]).map (fun r => r.1) = keyT n := by kernel_rfl
def valI (t : T SV) (m : Int) : Bool := match t.val with
  | some (.v (.c (.it .i64 k))) => decide (k = m)
  | some (.v (.c (.il .i64 k))) => decide (k = m)
  | _ => false
def valIB (t : T SV) (m : Int) (b : Bool) : Bool := match t.val with
  | some (.tup [.c (.it .i64 k), .c (.bl b')]) => match decide (k = m) with | true => b' == b | false => false
  | some (.tup [.c (.il .i64 k), .c (.bl b')]) => match decide (k = m) with | true => b' == b | false => false
  | _ => false
theorem chk_ord : checkI (fun n => valI (ordT n) (ordP n)) 256 = true := by kernel_rfl
theorem chk_bord : checkI (fun n => valI (bordT n) (bordP n)) 8 = true := by kernel_rfl
theorem chk_key : checkI (fun n => valIB (keyT n) (keyP n) (keyB n)) 512 = true := by kernel_rfl
theorem ord_all (n : Int) : valI (ordT n) (ordP n) = true := by
  by_cases h : 0 ≤ n ∧ n < 256
  · exact checkI_spec chk_ord n h.1 h.2
  · have e : ordP n = -1 := by simp only [ordP, decide_eq_false h]
    rw [e]
    by_cases h0 : n < 0
    · simp [ordT, valI, T.val, h0]
    · have h1 : n > 255 := by omega
      simp [ordT, valI, T.val, h0, h1]
theorem bord_all (n : Int) : valI (bordT n) (bordP n) = true := by
  by_cases h : 0 ≤ n ∧ n < 8
  · exact checkI_spec chk_bord n h.1 h.2
  · have e : bordP n = -1 := by simp only [bordP, decide_eq_false h]
    rw [e]
    by_cases h0 : n < 0
    · simp [bordT, valI, T.val, h0]
    · have h1 : n ≥ 8 := by omega
      simp [bordT, valI, T.val, h0, h1]
theorem key_all (n : Int) : valIB (keyT n) (keyP n) (keyB n) = true := by
  by_cases h : 0 ≤ n ∧ n < 512
  · exact checkI_spec chk_key n h.1 h.2
  · have e : keyB n = false := by simp only [keyB, decide_eq_false h]
    have e' : keyP n = 0 := by simp only [keyP, e]
    rw [e, e']
    by_cases h0 : n < 0
    · simp [keyT, valIB, T.val, h0]
    · have h1 : n > 511 := by omega
      simp [keyT, valIB, T.val, h0, h1]
theorem plIB (n : Int) (b lit : Bool) : Plain (.tup [mkI .i64 n lit, mkB b lit]) := by
  intro x hx c hc
  simp only [List.mem_cons, List.not_mem_nil, or_false] at hx
  rcases hx with rfl | rfl <;> cases lit <;> (simp [mkI, mkB, V1.cells] at hc; subst hc; rfl)
theorem valI_spec {t : T (SV × Hp Empty)} {u : T SV} (h : t.map (fun r => r.1) = u) {m : Int} (hv : valI u m = true) : ∃ v H2, t.val = some (v, H2) ∧ Plain v ∧ ∀ lit (ρ : Nm), v.den ρ = (SV.v (mkI .i64 m lit)).den ρ := by
  have hm : t.val.map (fun r => r.1) = u.val := by rw [← h, T.val_map]
  unfold valI at hv
  split at hv
  · rename_i k hk
    have := of_decide_eq_true hv
    subst this
    rw [hk] at hm
    obtain ⟨⟨v, H2⟩, h1, h2⟩ := Option.map_eq_some_iff.1 hm
    simp only at h2
    subst h2
    exact ⟨_, H2, h1, plI k false, fun lit ρ => by rw [denI]; rfl⟩
  · rename_i k hk
    have := of_decide_eq_true hv
    subst this
    rw [hk] at hm
    obtain ⟨⟨v, H2⟩, h1, h2⟩ := Option.map_eq_some_iff.1 hm
    simp only at h2
    subst h2
    exact ⟨_, H2, h1, plI k true, fun lit ρ => by rw [denI]; rfl⟩
  · cases hv
theorem valIB_spec {t : T (SV × Hp Empty)} {u : T SV} (h : t.map (fun r => r.1) = u) {m : Int} {b : Bool} (hv : valIB u m b = true) : ∃ v H2, t.val = some (v, H2) ∧ Plain v ∧ ∀ lit (ρ : Nm), v.den ρ = (SV.tup [mkI .i64 m lit, mkB b lit]).den ρ := by
  have hm : t.val.map (fun r => r.1) = u.val := by rw [← h, T.val_map]
  have hpl : ∀ (c : Cell) (k : Int) (b' : Bool), c = .it .i64 k ∨ c = .il .i64 k → Plain (.tup [.c c, .c (.bl b')]) := by
    rintro c k b' hc x hx d hd
    simp only [List.mem_cons, List.not_mem_nil, or_false] at hx
    rcases hx with rfl | rfl <;> simp [V1.cells] at hd <;> subst hd
    · rcases hc with rfl | rfl <;> rfl
    · rfl
  unfold valIB at hv
  split at hv
  · rename_i k b' hk
    split at hv
    · rename_i hd
      have := of_decide_eq_true hd
      subst this
      have hb : b' = b := by simpa using hv
      subst hb
      rw [hk] at hm
      obtain ⟨⟨v, H2⟩, h1, h2⟩ := Option.map_eq_some_iff.1 hm
      simp only at h2
      subst h2
      exact ⟨_, H2, h1, hpl _ k b' (.inl rfl), fun lit ρ => by cases lit <;> rfl⟩
    · cases hv
  · rename_i k b' hk
    split at hv
    · rename_i hd
      have := of_decide_eq_true hd
      subst this
      have hb : b' = b := by simpa using hv
      subst hb
      rw [hk] at hm
      obtain ⟨⟨v, H2⟩, h1, h2⟩ := Option.map_eq_some_iff.1 hm
      simp only at h2
      subst h2
      exact ⟨_, H2, h1, hpl _ k b' (.inr rfl), fun lit ρ => by cases lit <;> rfl⟩
    · cases hv
  · cases hv
def ordS := sumP fun lit n => .v (mkI .i64 (ordP n) lit)
def bordS := sumP fun lit n => .v (mkI .i64 (bordP n) lit)
def keyS := sumP fun lit n => .tup [mkI .i64 (keyP n) lit, mkB (keyB n) lit]
theorem ordS_ok : FnOk Tryd.prog N0 8 ordS := sumP_ok (k := 8) (fun lit n => plI _ _) fun n => valI_spec (run_ord n) (ord_all n)
theorem bordS_ok : FnOk Tryd.prog N0 10 bordS := sumP_ok (k := 8) (fun lit n => plI _ _) fun n => valI_spec (run_bord n) (bord_all n)
theorem keyS_ok : FnOk Tryd.prog N0 6 keyS := sumP_ok (k := 8) (fun lit n => plIB _ _ _) fun n => valIB_spec (run_key n) (key_all n)
def tabW (f : FuncId) : Option (List SV → Hp Empty → T (SV × Hp Empty)) :=
  match Nat.beq f 8 with
  | true => some ordS
  | false => match Nat.beq f 10 with
    | true => some bordS
    | false => match Nat.beq f 6 with
      | true => some keyS
      | false => tabV f
theorem tabW_ok : TabOk Tryd.prog N1 tabW := by
  intro f g h
  unfold tabW at h
  split at h
  · rename_i e
    have e := (beq_iff _ _).1 e
    subst e
    cases h
    exact fnOk_env (N := N0) (N' := N1) rfl rfl ordS_ok
  · split at h
    · rename_i e
      have e := (beq_iff _ _).1 e
      subst e
      cases h
      exact fnOk_env (N := N0) (N' := N1) rfl rfl bordS_ok
    · split at h
      · rename_i e
        have e := (beq_iff _ _).1 e
        subst e
        cases h
        exact fnOk_env (N := N0) (N' := N1) rfl rfl keyS_ok
      · exact fnOk_env (N := N0) (N' := N1) rfl rfl (tabV_ok f g h)
theorem fnW (n : Nat) (f : FuncId) : FnOk Tryd.prog N1 f (lv N1 tabW n (.fn f)) := lv_fn ok1 lps1 hv1 tabW_ok n f
noncomputable def lawW (a b : Int) (ad : Addr) := lv N1 tabW 16 (.fn 4) [.v (.c (I a)), .v (.c (I b))] [some (G0 ad)]
end Go.Proofs.YtambonphnojcpaaDoor
