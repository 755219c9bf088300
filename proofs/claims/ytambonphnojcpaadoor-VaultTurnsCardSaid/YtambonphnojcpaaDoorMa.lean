/- Plain models: words, addresses, calls; their cells; cells made alike. -/
import Derived.Test.YtambonphnojcpaaDoorSxO
namespace Go.Sx

structure W where
  slot : Int
  gen : Int
  tag : Int
  num : Int
  mark : Bool
structure A where
  slot : Int
  gen : Int
  field : Int
structure Rp where
  w : W
  ok : Bool
structure C where
  kind : Int
  ad : A
  old : W
  new : W
  i : Int
  j : Int
  code : Int
  val : Int
structure O where
  kind : Int
  key : Int
  val : Int
  tall : Int
def W.zero : W := ⟨0, 0, 0, 0, false⟩
def A.zero : A := ⟨0, 0, 0⟩
def C.zero : C := ⟨0, .zero, .zero, .zero, 0, 0, 0, 0⟩
abbrev I (n : Int) : Cell := .it .i64 n
abbrev B (b : Bool) : Cell := .bt b
def W.cells (w : W) : List Cell := [I w.slot, I w.gen, I w.tag, I w.num, B w.mark]
def A.cells (a : A) : List Cell := [I a.slot, I a.gen, I a.field]
def Rp.cells (x : Rp) : List Cell := [I x.w.slot, I x.w.gen, I x.w.tag, I x.w.num, B x.w.mark, B x.ok]
def C.cells (c : C) : List Cell := [I c.kind, I c.ad.slot, I c.ad.gen, I c.ad.field, I c.old.slot, I c.old.gen, I c.old.tag, I c.old.num, B c.old.mark,
  I c.new.slot, I c.new.gen, I c.new.tag, I c.new.num, B c.new.mark, I c.i, I c.j, I c.code, I c.val]
def O.cells (o : O) : List Cell := [I o.kind, I o.key, I o.val, I o.tall]
/-- plus, round -/
def pl (a b : Int) : Int := IntKind.i64.wrap (a + b)

/-- what is known is forgotten -/
def norm : Cell → Cell
  | .bl b => .bt b
  | .il k n => .it k n
  | .iv k n _ _ => .it k n
  | c => c
def normL : List Cell → List Cell
  | [] => []
  | c :: r => norm c :: normL r
def normV1 : V1 → V1
  | .c x => .c (norm x)
  | .agg l => .agg (normL l)
def normV1s : List V1 → List V1
  | [] => []
  | x :: r => normV1 x :: normV1s r
def normV : SV → SV
  | .v x => .v (normV1 x)
  | .tup l => .tup (normV1s l)
  | .unk => .unk
section
variable {AV : Type}
def normC : Chunk AV → Chunk AV
  | .cells l t => .cells (normL l) t
  | .vec l e t => .vec (normL l) e t
  | c => c
def normH : Hp AV → Hp AV
  | [] => []
  | none :: r => none :: normH r
  | some c :: r => some (normC c) :: normH r
/-- a run's result, what is known forgotten -/
def normR (r : SV × Hp AV) : SV × Hp AV := (normV r.1, normH r.2)

theorem norm_den (ρ : Nm) (c : Cell) : (norm c).den ρ = c.den ρ := by cases c <;> rfl
theorem norm_name (c : Cell) : (norm c).name = c.name := by cases c <;> rfl
theorem normL_den (ρ : Nm) : ∀ l : List Cell, denL ρ (normL l) = denL ρ l
  | [] => rfl
  | c :: r => by
    have := normL_den ρ r
    simp only [denL, normL, List.map_cons, norm_den, List.cons.injEq, true_and] at this ⊢
    exact this
theorem normV1_den (ρ : Nm) (x : V1) : (normV1 x).den ρ = x.den ρ := by
  cases x with
  | c x => exact norm_den ρ x
  | agg l => simp only [normV1, V1.den, normL_den]
theorem normV1s_den (ρ : Nm) : ∀ l : List V1, (normV1s l).map (V1.den ρ) = l.map (V1.den ρ)
  | [] => rfl
  | x :: r => by simp only [normV1s, List.map_cons, normV1_den, normV1s_den ρ r]
theorem normV_den (ρ : Nm) (v : SV) : (normV v).den ρ = v.den ρ := by
  cases v with
  | v x => exact normV1_den ρ x
  | tup l => simp only [normV, SV.den, normV1s_den]
  | unk => rfl
theorem normH_get : ∀ (H : Hp AV) (n : Nat), hget (normH H) n = (hget H n).map normC
  | [], n => by simp [normH, hget]
  | none :: r, 0 => by simp [normH, hget]
  | none :: r, n + 1 => by simp only [normH, hget]; exact normH_get r n
  | some c :: r, 0 => by simp [normH, hget]
  | some c :: r, n + 1 => by simp only [normH, hget]; exact normH_get r n
end

/-- reading plain data from cells -/
def toI (c : Cell) : Option Int := match intC c with
  | some (k, n, _) => match decide (k = .i64) with | true => some n | false => none
  | none => none
def toB (c : Cell) : Option Bool := match boolC c with
  | some (b, _) => some b
  | none => none
theorem toI_den {c : Cell} {n : Int} (h : toI c = some n) (ρ : Nm) : c.den ρ = (I n).den ρ ∧ c.name = none := by
  unfold toI at h
  split at h
  · rename_i k m lit hi
    split at h
    · rename_i hk
      cases h
      refine ⟨?_, ?_⟩
      · rw [intC_den ρ hi, of_decide_eq_true hk]; rfl
      · cases c <;> simp [intC] at hi <;> rfl
    · cases h
  · cases h
theorem toB_den {c : Cell} {b : Bool} (h : toB c = some b) (ρ : Nm) : c.den ρ = (B b).den ρ ∧ c.name = none := by
  unfold toB at h
  split at h
  · rename_i m lit hi
    cases h
    refine ⟨?_, ?_⟩
    · rw [boolC_den ρ hi]; rfl
    · cases c <;> simp [boolC] at hi <;> rfl
  · cases h
def Rp.of : List Cell → Option Rp
  | [a, b, c, d, e, f] => match toI a, toI b, toI c, toI d, toB e, toB f with
    | some a, some b, some c, some d, some e, some f => some ⟨⟨a, b, c, d, e⟩, f⟩
    | _, _, _, _, _, _ => none
  | _ => none
theorem Rp.of_den {l : List Cell} {x : Rp} (h : Rp.of l = some x) (ρ : Nm) : denL ρ l = denL ρ x.cells ∧ ∀ c ∈ l, c.name = none := by
  unfold Rp.of at h
  split at h
  · rename_i a b c d e f
    split at h
    · rename_i a' b' c' d' e' f' ha hb hc hd he hf
      cases h
      simp only [denL, List.map_cons, List.map_nil, Rp.cells, toI_den ha ρ, toI_den hb ρ, toI_den hc ρ, toI_den hd ρ, toB_den he ρ, toB_den hf ρ, true_and]
      intro x hx
      simp only [List.mem_cons, List.not_mem_nil, or_false] at hx
      rcases hx with rfl | rfl | rfl | rfl | rfl | rfl
      · exact (toI_den ha ρ).2
      · exact (toI_den hb ρ).2
      · exact (toI_den hc ρ).2
      · exact (toI_den hd ρ).2
      · exact (toB_den he ρ).2
      · exact (toB_den hf ρ).2
    · cases h
  · cases h
/-- the equality of two words for a swap -/
def W.same (a b : W) : Bool := (a.slot == b.slot) && ((a.tag == b.tag) && ((a.num == b.num) && (a.mark == b.mark)))
def W.to (w ref : W) : W := ⟨ref.slot, ref.gen, pl w.tag 1, 0, false⟩
def W.ref (w : W) : W := ⟨w.slot, w.gen, 0, 0, false⟩
def W.marked (w : W) : W := { w with mark := true, tag := pl w.tag 1 }
def W.at (w : W) (n : Int) : A := ⟨w.slot, w.gen, n⟩
def cProtect (a : A) (i : Int) : C := { C.zero with kind := 6, ad := a, i := i }
def cHold (i j : Int) : C := { C.zero with kind := 7, i := i, j := j }
def cLoad (a : A) : C := { C.zero with kind := 3, ad := a }
def cStore (a : A) (w : W) : C := { C.zero with kind := 4, ad := a, new := w }
def cSwap (a : A) (o n : W) : C := { C.zero with kind := 5, ad := a, old := o, new := n }
def cRetire (w : W) : C := { C.zero with kind := 10, old := w }
def cDrop (w : W) : C := { C.zero with kind := 9, old := w }
def cAlloc : C := { C.zero with kind := 8 }
def cDone (code val : Int) : C := { C.zero with kind := 12, code := code, val := val }
end Go.Sx
