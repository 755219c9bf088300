/- The symbolic executor: operations that look at no memory are sound. -/
import Derived.Test.YtmdojlkmgllhnaaGreatDoorSxB
namespace Go.Sx
section trie
/-- what holds of all entries of a table; f: the number of an entry -/
def Tr.All {α : Type} (q : Nat → α → Prop) : Tr α → (Nat → Nat) → Prop
  | .lf, _ => True
  | .nd x l r, f => (∀ a, x = some a → q (f 0) a) ∧ Tr.All q l (fun n => f (2 * n + 1)) ∧ Tr.All q r (fun n => f (2 * n + 2))
theorem Tr.all_get' {α : Type} {q : Nat → α → Prop} : ∀ {t : Tr α} {f : Nat → Nat}, Tr.All q t f → ∀ n a, t.get n = some a → q (f n) a
  | .lf, _, _, n, a, h => by simp [Tr.get] at h
  | .nd x l r, f, hall, n, a, h => by
    simp only [Tr.get] at h
    split at h
    · rename_i h0
      obtain rfl := (Nat.eq_of_beq_eq_true h0)
      exact hall.1 a h
    · rename_i h0
      have hn : n ≠ 0 := fun e => by subst e; simp at h0
      split at h
      · rename_i h1
        have h1 := Nat.eq_of_beq_eq_true h1
        have := Tr.all_get' hall.2.1 _ a h
        rw [show 2 * (n / 2) + 1 = n from by omega] at this
        exact this
      · rename_i h1
        have h1 : n % 2 ≠ 1 := fun e => by rw [e] at h1; simp at h1
        have := Tr.all_get' hall.2.2 _ a h
        rw [show 2 * ((n - 1) / 2) + 2 = n from by omega] at this
        exact this
theorem Tr.all_get {α : Type} {q : Nat → α → Prop} {t : Tr α} (h : Tr.All q t (fun n => n)) (n : Nat) (a : α) (hg : t.get n = some a) : q n a := Tr.all_get' h n a hg
end trie
section tables
variable {AV : Type}
structure TblOk (P : Program) (N : Env AV) : Prop where
  ty : ∀ t i, N.tt.get t = some i → mkTI P t = some i
  fn : ∀ f g, N.ft.get f = some g → P.funcs[f]? = some g ∧ g.body.isSome = true ∧ (g.name == "runtime.NumGoroutine") = false
  mix : P.follows .mixedOrders = true
  sl : ∀ t si, N.sl.get t = some si → mkSI P t = some si
  mt : ∀ t m g, N.mt t m = some g → ∀ (v : Value) (w : World), (Go.method (P.types.size + Made.depth) t v m).run P w = .ok (g, v) w

theorem mkTI_parts {P : Program} {t : TypeId} {i : TI} (h : mkTI P t = some i) : ∃ inf, P.info? t = some inf ∧ kdT P t = some i.kd ∧ i.size = inf.size ∧
    i.zero = (match inf.zero with | some v => ofValues v.cells.toList | none => none) ∧
    i.flat = (match P.eqGuardType P.depth t with | true => none | false => flatT P 12 t) := by
  unfold mkTI at h
  split at h
  · rename_i inf k h1 h2
    cases h
    exact ⟨inf, h1, h2, rfl, rfl, rfl⟩
  · cases h
theorem kd_struct {P : Program} {t : TypeId} {fs : List FdI} (h : kdT P t = some (.struct fs)) : ∃ a, P.underlying t = some (.struct a) ∧ fdsT P a.toList = some fs := by
  unfold kdT at h
  cases hu : P.underlying t with
  | none => simp [hu] at h
  | some d => cases d <;> simp only [hu] at h <;> (first | (cases h; done) | skip) <;> (split at h <;> (first | (cases h; done) | skip)) <;> (cases h; exact ⟨_, rfl, by assumption⟩)
theorem kd_some {P : Program} {t : TypeId} {k : Kd} (h : kdT P t = some k) : ∃ d, P.underlying t = some d := by
  unfold kdT at h
  cases hu : P.underlying t with
  | none => rw [hu] at h; cases h
  | some d => exact ⟨d, rfl⟩
theorem kd_int {P : Program} {t : TypeId} {k : IntKind} (h : kdT P t = some (.int k)) : P.underlying t = some (.int k) := by
  unfold kdT at h
  split at h <;> (try split at h) <;> simp_all
theorem kd_str {P : Program} {t : TypeId} (h : kdT P t = some .str) : P.underlying t = some .string := by
  unfold kdT at h
  split at h <;> (try split at h) <;> simp_all
theorem kd_slice {P : Program} {t : TypeId} {n : Nat} (h : kdT P t = some (.slice n)) : ∃ e, P.underlying t = some (.slice e) ∧ sizeT P e = some n := by
  unfold kdT at h
  cases hu : P.underlying t with
  | none => simp [hu] at h
  | some d => cases d <;> simp only [hu] at h <;> (first | (cases h; done) | skip) <;> (split at h <;> (first | (cases h; done) | skip)) <;> (cases h; exact ⟨_, rfl, by assumption⟩)
theorem kd_arr {P : Program} {t : TypeId} {len n : Nat} (h : kdT P t = some (.arr len n)) : ∃ e, P.underlying t = some (.array len e) ∧ sizeT P e = some n := by
  unfold kdT at h
  cases hu : P.underlying t with
  | none => simp [hu] at h
  | some d => cases d <;> simp only [hu] at h <;> (first | (cases h; done) | skip) <;> (split at h <;> (first | (cases h; done) | skip)) <;> (cases h; exact ⟨_, rfl, by assumption⟩)
theorem kd_bool {P : Program} {t : TypeId} (h : kdT P t = some .bool) : P.underlying t = some .bool := by
  unfold kdT at h
  cases hu : P.underlying t with
  | none => simp [hu] at h
  | some d => cases d <;> simp only [hu] at h <;> (first | rfl | (cases h; done) | (split at h <;> cases h))
theorem kd_ptr {P : Program} {t : TypeId} (h : kdT P t = some .ptr) : ∃ e, P.underlying t = some (.pointer e) := by
  unfold kdT at h
  cases hu : P.underlying t with
  | none => simp [hu] at h
  | some d => cases d <;> simp only [hu] at h <;> (first | exact ⟨_, rfl⟩ | (cases h; done) | (split at h <;> cases h))
theorem kd_iface {P : Program} {t : TypeId} (h : kdT P t = some .iface) : ∃ e, P.underlying t = some (.interface e) := by
  unfold kdT at h
  cases hu : P.underlying t with
  | none => simp [hu] at h
  | some d => cases d <;> simp only [hu] at h <;> (first | exact ⟨_, rfl⟩ | (cases h; done) | (split at h <;> cases h))
theorem kd_not_iface {P : Program} {t : TypeId} {k : Kd} (h : kdT P t = some k) (hk : k ≠ .iface) : ∃ d, P.underlying t = some d ∧ ∀ ms, d ≠ .interface ms := by
  unfold kdT at h
  cases hu : P.underlying t with
  | none => simp [hu] at h
  | some d =>
    refine ⟨d, rfl, fun ms he => ?_⟩
    subst he
    simp only [hu] at h
    cases h
    exact hk rfl
theorem isAgg_run {P : Program} {t : TypeId} {k : Kd} (h : kdT P t = some k) (w : World) : (isAgg t).run P w = .ok (isAggK k) w := by
  unfold kdT at h
  unfold isAgg
  cases hu : P.underlying t with
  | none => simp [hu] at h
  | some d => cases d <;> simp only [hu] at h <;> (first | (cases h; simp [underlying, program, Sem.run, hu, isAggK]; done) | (split at h <;> (first | (cases h; done) | (cases h; simp [underlying, program, Sem.run, hu, isAggK]))))
theorem sizeOf_run {P : Program} {t : TypeId} {n : Nat} (h : sizeT P t = some n) (w : World) : (sizeOf t).run P w = .ok n w := by
  unfold sizeT at h
  split at h <;> simp_all [sizeOf, typeInfo, program, Sem.run]
theorem under_run {P : Program} {t : TypeId} {d : TypeDesc} (h : P.underlying t = some d) (w : World) : (underlying t).run P w = .ok d w := by
  simp [underlying, program, Sem.run, h]
theorem sizeT_of {P : Program} {t : TypeId} {inf : TypeInfo} (h : P.info? t = some inf) : sizeT P t = some inf.size := by simp [sizeT, h]
theorem aggT_run {P : Program} {t : TypeId} {b : Bool} (h : isAggT P t = some b) (w : World) : (isAgg t).run P w = .ok b w := by
  unfold isAggT at h
  unfold isAgg
  cases hu : P.underlying t with
  | none => simp [hu] at h
  | some d => cases d <;> simp only [hu] at h <;> (cases h; simp [underlying, program, Sem.run, hu])
end tables

section sub
theorem ltake_eq : ∀ {l : List Cell} {n : Nat} {r : List Cell}, ltake l n = some r → r = l.take n ∧ n ≤ l.length
  | _, 0, r, h => by simp [ltake] at h; simp [← h]
  | [], _ + 1, _, h => by simp [ltake] at h
  | x :: l, n + 1, r, h => by
    simp only [ltake] at h
    cases hl : ltake l n with
    | none => simp [hl] at h
    | some q =>
      simp only [hl, Option.some.injEq] at h
      have := ltake_eq hl
      subst h
      simp [this.1, this.2]
theorem lsub_eq : ∀ {l : List Cell} {k n : Nat} {r : List Cell}, lsub l k n = some r → r = (l.drop k).take n ∧ k + n ≤ l.length
  | l, 0, n, r, h => by
    cases l <;> simp only [lsub] at h <;> (have := ltake_eq h; simpa using this)
  | [], _ + 1, _, _, h => by simp [lsub] at h
  | _ :: l, k + 1, n, r, h => by
    simp only [lsub] at h
    have := lsub_eq h
    simp; exact ⟨this.1, by omega⟩
theorem lput_eq : ∀ {l : List Cell} {k : Nat} {ys r : List Cell}, lput l k ys = some r → r = l.take k ++ ys ++ l.drop (k + ys.length) ∧ k + ys.length ≤ l.length
  | l, 0, [], r, h => by cases l <;> simp [lput] at h <;> simp [← h]
  | [], 0, _ :: _, _, h => by simp [lput] at h
  | x :: l, 0, y :: ys, r, h => by
    simp only [lput] at h
    cases hl : lput l 0 ys with
    | none => simp [hl] at h
    | some q =>
      simp only [hl, Option.some.injEq] at h
      have := lput_eq hl
      subst h
      simp at this ⊢
      exact ⟨this.1, this.2⟩
  | [], _ + 1, ys, _, h => by cases ys <;> simp [lput] at h
  | x :: l, n + 1, ys, r, h => by
    cases hl : lput l n ys with
    | none => cases ys <;> simp [lput, hl] at h
    | some q =>
      have h' : x :: q = r := by cases ys <;> simpa [lput, hl] using h
      have := lput_eq hl
      subst h'
      refine ⟨?_, by simp; omega⟩
      rw [this.1]
      simp [Nat.succ_add]
theorem denL_length (ρ : Nm) (l : List Cell) : (denL ρ l).length = l.length := by simp [denL]
end sub

section evs
variable {AV : Type}
/-- What the operands read as. -/
structure EvOk (ρ : Nm) (H : Hp AV) (ev : Operand → Option SV) (e : Operand → Value) : Prop where
  den : ∀ x v, ev x = some v → e x = v.den ρ
  cl : ∀ x v, ev x = some v → ClV H v

theorem const_den {ρ : Nm} {H : Hp AV} {c : Value} {v : SV} (h : constV c = some v) : c = v.den ρ ∧ ClV H v := by
  unfold constV at h
  split at h
  · rename_i cs
    cases hl : ofValues cs.toList with
    | none => simp [hl] at h
    | some l =>
      simp only [hl, Option.some.injEq] at h
      subst h
      have := ofValues_den ρ hl
      refine ⟨by simp [SV.den, V1.den, this.1], fun c hc n hn => ?_⟩
      rw [this.2 c hc] at hn; cases hn
  · cases hc : Cell.ofValue c with
    | none => simp [hc] at h
    | some x =>
      simp only [hc, Option.some.injEq] at h
      subst h
      have := ofValue_den ρ hc
      refine ⟨by simp [SV.den, V1.den, this.1], fun c hc n hn => ?_⟩
      simp [V1.cells] at hc
      subst hc
      rw [this.2] at hn; cases hn
theorem clL_nil {H : Hp AV} {l : List Cell} (h : ∀ c ∈ l, c.name = none) : ClL H l := fun c hc n hn => by rw [h c hc] at hn; cases hn
theorem cl1_nil {H : Hp AV} {c : Cell} (h : c.name = none) : ClV H (.v (.c c)) := clL_nil (by simp [V1.cells, h])
theorem evl_cl {N : Env AV} {s : St AV} (hc : Closed N s) {x : Operand} {v : SV} (h : evl N.G s.H s.E x = some v) : ClV s.H v := by
  cases x with
  | tmp t =>
    simp only [evl] at h
    have := hc.E t
    split at h
    · cases h
    · cases h; exact this
  | const c => exact (const_den (ρ := Nm.id) (H := s.H) h).2
  | global g =>
    simp only [evl] at h
    split at h
    · rename_i c _ hg
      cases h
      intro c' hc' n hn
      simp [V1.cells] at hc'
      subst hc'
      simp [Cell.name] at hn
      subst hn
      exact ⟨c, hg⟩
    · cases h
  | func f => simp only [evl, Option.some.injEq] at h; subst h; exact cl1_nil rfl
theorem evOk_of {N : Env AV} {ρ : Nm} {nt : Nat} {s : St AV} {a : Act} (hE : EM ρ nt s.E a) (hc : Closed N s) (hg : ∀ g, g < N.G → ρ g = g) : EvOk ρ s.H (evl N.G s.H s.E) a.eval where
  den x v h := by
    cases x with
    | tmp t =>
      simp only [evl] at h
      split at h
      · cases h
      · rename_i hne
        cases h
        exact hE.get t (fun e => hne e)
    | const c => exact (const_den (ρ := ρ) (H := s.H) h).1
    | global g =>
      simp only [evl] at h
      split at h
      · rename_i hlt _
        cases h
        simp [Act.eval, SV.den, V1.den, Cell.den, hg g ((blt_iff _ _).1 hlt)]
      · cases h
    | func f => simp only [evl, Option.some.injEq] at h; subst h; rfl
  cl x v h := evl_cl hc h
theorem mkB_den (ρ : Nm) (b k : Bool) : (mkB b k).den ρ = .bool b := by cases k <;> rfl
theorem mkI_den (ρ : Nm) (q : IntKind) (n : Int) (k : Bool) : (mkI q n k).den ρ = .int q n := by cases k <;> rfl
theorem mkB_cl {H : Hp AV} (b k : Bool) : ClV1 H (mkB b k) := by cases k <;> exact cl1_nil rfl
theorem mkI_cl {H : Hp AV} (q : IntKind) (n : Int) (k : Bool) : ClV1 H (mkI q n k) := by cases k <;> exact cl1_nil rfl
theorem convI_cl {H : Hp AV} (k : IntKind) (c : Cell) (n : Int) (lit : Bool) : ClV1 H (convI k c n lit) := by
  unfold convI
  repeat' split
  all_goals exact cl1_nil rfl
theorem boolC_den (ρ : Nm) {c : Cell} {b k : Bool} (h : boolC c = some (b, k)) : c.den ρ = .bool b := by
  unfold boolC at h; split at h <;> cases h <;> rfl
theorem intC_den (ρ : Nm) {c : Cell} {q : IntKind} {n : Int} {k : Bool} (h : intC c = some (q, n, k)) : c.den ρ = .int q n := by
  unfold intC at h; split at h <;> cases h <;> rfl
theorem convI_den (ρ : Nm) {c : Cell} {q k : IntKind} {n : Int} {lit : Bool} (h : intC c = some (q, n, lit)) : (convI k c n lit).den ρ = .int k (k.wrap n) := by
  unfold convI
  repeat' split
  all_goals first
    | rfl
    | (rename_i hd
       simp only [intC, Option.some.injEq, Prod.mk.injEq] at h
       obtain ⟨rfl, rfl, _⟩ := h
       have hd := of_decide_eq_true hd
       simp only [V1.den, Cell.den]
       rw [wrap_in (by omega)])

end evs
end Go.Sx
