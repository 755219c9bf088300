/- Printed by mkav.py: the abstract things, and what they mean below the objects. -/
import Derived.Test.YtmdojlkmgllhnaaGreatDoorSxTm
import Derived.Test.YtmdojlkmgllhnaaGreatDoorSxOc
import Derived.Test.YtmdojlkmgllhnaaGreatDoorMd
import Derived.Test.YtmdojlkmgllhnaaGreatDoorSxV
import Derived.Test.YtmdojlkmgllhnaaGreatDoorEs
namespace Go.Proofs.YtmdojlkmgllhnaaGreatDoor
open Go Go.Sx Go.Proofs
set_option linter.unusedVariables false
/-- a heap: its board, its slots, those that are free, its steps, how many were made, the first fault: at which step, which error -/
structure PlotM where
  board : List W
  slots : List Sl
  free : List N1
  steps : Int
  made : Int
  fault : Option (Int × Nat)
inductive AV where
  | sent (i : Nat) | words (l : List W) | ints (l : List N1) | notes (l : List Nt) | ops (l : List O) | beats (l : List Bt) | spans (l : List Sp) | pairs (l : List Pr) | slots (l : List Sl)
  | plot (m : PlotM)
abbrev kwords : AK W := W.ak 91
abbrev kints : AK N1 := N1.ak 3
abbrev knotes : AK Nt := Nt.ak 217
abbrev kops : AK O := O.ak 23
abbrev kbeats : AK Bt := Bt.ak 29
abbrev kspans : AK Sp := Sp.ak 161
abbrev kpairs : AK Pr := Pr.ak 188
abbrev kslots : AK Sl := Sl.ak 173
structure Ar where
  α : Type
  K : AK α
  l : List α
def AV.ar : AV → Option Ar
  | .words l => some ⟨W, kwords, l⟩
  | .ints l => some ⟨N1, kints, l⟩
  | .notes l => some ⟨Nt, knotes, l⟩
  | .ops l => some ⟨O, kops, l⟩
  | .beats l => some ⟨Bt, kbeats, l⟩
  | .spans l => some ⟨Sp, kspans, l⟩
  | .pairs l => some ⟨Pr, kpairs, l⟩
  | .slots l => some ⟨Sl, kslots, l⟩
  | _ => none
def AV.upd : AV → Nat → Nat → Nat → List Cell → Option (Bool × AV)
  | .words l, i, e, o, cs => match kwords.upd l i e o cs with | some (b, r) => some (b, .words r) | none => none
  | .ints l, i, e, o, cs => match kints.upd l i e o cs with | some (b, r) => some (b, .ints r) | none => none
  | .notes l, i, e, o, cs => match knotes.upd l i e o cs with | some (b, r) => some (b, .notes r) | none => none
  | .ops l, i, e, o, cs => match kops.upd l i e o cs with | some (b, r) => some (b, .ops r) | none => none
  | .beats l, i, e, o, cs => match kbeats.upd l i e o cs with | some (b, r) => some (b, .beats r) | none => none
  | .spans l, i, e, o, cs => match kspans.upd l i e o cs with | some (b, r) => some (b, .spans r) | none => none
  | .pairs l, i, e, o, cs => match kpairs.upd l i e o cs with | some (b, r) => some (b, .pairs r) | none => none
  | .slots l, i, e, o, cs => match kslots.upd l i e o cs with | some (b, r) => some (b, .slots r) | none => none
  | _, _, _, _, _ => none
def AV.cat : AV → AV → Option AV
  | .words l, .words r => some (.words (l ++ r))
  | .ints l, .ints r => some (.ints (l ++ r))
  | .notes l, .notes r => some (.notes (l ++ r))
  | .ops l, .ops r => some (.ops (l ++ r))
  | .beats l, .beats r => some (.beats (l ++ r))
  | .spans l, .spans r => some (.spans (l ++ r))
  | .pairs l, .pairs r => some (.pairs (l ++ r))
  | .slots l, .slots r => some (.slots (l ++ r))
  | _, _ => none
def AV.app : AV → List Cell → Option AV
  | .words l, cs => match kwords.app l cs with | some r => some (.words r) | none => none
  | .ints l, cs => match kints.app l cs with | some r => some (.ints r) | none => none
  | .notes l, cs => match knotes.app l cs with | some r => some (.notes r) | none => none
  | .ops l, cs => match kops.app l cs with | some r => some (.ops r) | none => none
  | .beats l, cs => match kbeats.app l cs with | some r => some (.beats r) | none => none
  | .spans l, cs => match kspans.app l cs with | some r => some (.spans r) | none => none
  | .pairs l, cs => match kpairs.app l cs with | some r => some (.pairs r) | none => none
  | .slots l, cs => match kslots.app l cs with | some r => some (.slots r) | none => none
  | _, _ => none
def AV.cut : AV → Nat → Nat → Option AV
  | .words l, i, j => some (.words ((l.take j).drop i))
  | .ints l, i, j => some (.ints ((l.take j).drop i))
  | .notes l, i, j => some (.notes ((l.take j).drop i))
  | .ops l, i, j => some (.ops ((l.take j).drop i))
  | .beats l, i, j => some (.beats ((l.take j).drop i))
  | .spans l, i, j => some (.spans ((l.take j).drop i))
  | .pairs l, i, j => some (.pairs ((l.take j).drop i))
  | .slots l, i, j => some (.slots ((l.take j).drop i))
  | _, _, _ => none
def AV.row (a : AV) (i e : Nat) : Option (Bool × List Cell) := match a.ar with
  | some r => r.K.row r.l i e
  | none => none
def AV.arr (a : AV) : Option (Nat × TypeId × List Value) := match a.ar with
  | some r => r.K.arr r.l
  | none => none
def AV.len (a : AV) : Nat := match a.ar with
  | some r => r.l.length
  | none => 0
def AV.q (σ : Nat → Addr) (a : AV) (l : Sx.Loc) (S : Nat → Prop) (w : World) : Prop := match a with
  | .sent i => (∀ k, S k ↔ k = l.b) ∧ w.heap[l.b]? = some (.cells #[.iface 254 (.pointer (some (σ i)))] 31 (0, 0))
  | a => match a.ar with
    | some r => r.K.q r.l l S w
    | none => False
theorem AV.q_ar {σ : Nat → Addr} {a : AV} {r : Ar} (h : a.ar = some r) (l : Sx.Loc) (S : Nat → Prop) (w : World) : a.q σ l S w ↔ r.K.q r.l l S w := by
  cases a <;> simp only [AV.q, AV.ar] at h ⊢ <;> cases h <;> exact Iff.rfl
def AV.word (σ : Nat → Addr) : AV → Option (List Cell)
  | .sent i => some [.ifc 254 (.op i (σ i))]
  | _ => none
def AV.same : AV → AV → Bool
  | .sent i, .sent j => Nat.beq i j
  | _, _ => false
theorem AV.arr_some {a : AV} {x : Nat × TypeId × List Value} (h : a.arr = some x) : ∃ r, a.ar = some r ∧ x = (r.K.es, r.K.ty, r.K.vals r.l) := by
  unfold AV.arr at h
  split at h
  · rename_i r hr
    cases h
    exact ⟨r, hr, rfl⟩
  · cases h
theorem AV.arr_of {a : AV} {r : Ar} (h : a.ar = some r) : a.arr = some (r.K.es, r.K.ty, r.K.vals r.l) := by unfold AV.arr; rw [h]; rfl
/-- what is below the objects -/
def avF (σ : Nat → Addr) : Intf AV where
  q := AV.q σ
  loc := fun a l S w w' hk hq => by
    cases ha : a.ar with
    | some r => exact (AV.q_ar ha l S w').2 (r.K.q_loc hk ((AV.q_ar ha l S w).1 hq))
    | none =>
      cases a with
      | sent i => exact ⟨hq.1, by rw [hk l.b ((hq.1 _).2 rfl)]; exact hq.2⟩
      | _ => first | (cases ha; done) | exact hq.elim
  dom := fun a l S w k hq hk => by
    cases ha : a.ar with
    | some r => exact r.K.q_dom ((AV.q_ar ha l S w).1 hq) hk
    | none =>
      cases a with
      | sent i =>
        rw [(hq.1 k).1 hk]
        exact (Array.getElem?_eq_some_iff.1 hq.2).1
      | _ => first | (cases ha; done) | exact hq.elim
  row := AV.row
  row_nm := fun a idx es cs h => by
    unfold AV.row at h
    split at h
    · rename_i r hr; exact r.K.row_nm h
    · cases h
  row_ok := fun a l S w idx es cs hq h => by
    unfold AV.row at h
    split at h
    · rename_i r hr; exact r.K.row_ok ((AV.q_ar hr l S w).1 hq) h
    · cases h
  upd := AV.upd
  upd_ok := fun a l S w idx es off cs a' hq h => by
    unfold AV.upd at h
    split at h
    · split at h
      · rename_i b r hr
        simp only [Option.some.injEq, Prod.mk.injEq] at h
        obtain ⟨rfl, rfl⟩ := h
        exact kwords.upd_ok hq hr
      · cases h
    · split at h
      · rename_i b r hr
        simp only [Option.some.injEq, Prod.mk.injEq] at h
        obtain ⟨rfl, rfl⟩ := h
        exact kints.upd_ok hq hr
      · cases h
    · split at h
      · rename_i b r hr
        simp only [Option.some.injEq, Prod.mk.injEq] at h
        obtain ⟨rfl, rfl⟩ := h
        exact knotes.upd_ok hq hr
      · cases h
    · split at h
      · rename_i b r hr
        simp only [Option.some.injEq, Prod.mk.injEq] at h
        obtain ⟨rfl, rfl⟩ := h
        exact kops.upd_ok hq hr
      · cases h
    · split at h
      · rename_i b r hr
        simp only [Option.some.injEq, Prod.mk.injEq] at h
        obtain ⟨rfl, rfl⟩ := h
        exact kbeats.upd_ok hq hr
      · cases h
    · split at h
      · rename_i b r hr
        simp only [Option.some.injEq, Prod.mk.injEq] at h
        obtain ⟨rfl, rfl⟩ := h
        exact kspans.upd_ok hq hr
      · cases h
    · split at h
      · rename_i b r hr
        simp only [Option.some.injEq, Prod.mk.injEq] at h
        obtain ⟨rfl, rfl⟩ := h
        exact kpairs.upd_ok hq hr
      · cases h
    · split at h
      · rename_i b r hr
        simp only [Option.some.injEq, Prod.mk.injEq] at h
        obtain ⟨rfl, rfl⟩ := h
        exact kslots.upd_ok hq hr
      · cases h
    · cases h
  word := AV.word σ
  word_nm := fun a cs h c hc => by
    unfold AV.word at h
    split at h
    · cases h
      rw [List.mem_singleton.1 hc]
      rfl
    · cases h
  word_ok := fun a l S w cs hq h j c hc => by
    unfold AV.word at h
    split at h
    · cases h
      match j, hc with
      | 0, hc =>
        simp only [List.getElem?_cons_zero, Option.some.injEq] at hc
        subst hc
        simp [World.cell?, hq.2, Cell.den]
    · cases h
  same := AV.same
  same_ok := fun a b h => by
    unfold AV.same at h
    split at h
    · rw [(beq_iff _ _).1 h]
    · cases h
  arr := AV.arr
  arr_q := fun a es ty vs h => by
    obtain ⟨r, hr, hx⟩ := AV.arr_some h
    simp only [Prod.mk.injEq] at hx
    obtain ⟨rfl, rfl, rfl⟩ := hx
    exact ⟨r.K.vals_one r.l, fun l S w => AV.q_ar hr l S w⟩
  len := AV.len
  len_ok := fun a es ty vs h => by
    obtain ⟨r, hr, hx⟩ := AV.arr_some h
    simp only [Prod.mk.injEq] at hx
    obtain ⟨rfl, rfl, rfl⟩ := hx
    rw [r.K.vals_len]
    unfold AV.len
    rw [hr]
  cat := AV.cat
  cat_ok := fun a b c h => by
    unfold AV.cat at h
    split at h
    · cases h; exact ⟨_, _, _, _, _, rfl, rfl, by rw [AV.arr_of rfl, AK.vals_append]⟩
    · cases h; exact ⟨_, _, _, _, _, rfl, rfl, by rw [AV.arr_of rfl, AK.vals_append]⟩
    · cases h; exact ⟨_, _, _, _, _, rfl, rfl, by rw [AV.arr_of rfl, AK.vals_append]⟩
    · cases h; exact ⟨_, _, _, _, _, rfl, rfl, by rw [AV.arr_of rfl, AK.vals_append]⟩
    · cases h; exact ⟨_, _, _, _, _, rfl, rfl, by rw [AV.arr_of rfl, AK.vals_append]⟩
    · cases h; exact ⟨_, _, _, _, _, rfl, rfl, by rw [AV.arr_of rfl, AK.vals_append]⟩
    · cases h; exact ⟨_, _, _, _, _, rfl, rfl, by rw [AV.arr_of rfl, AK.vals_append]⟩
    · cases h; exact ⟨_, _, _, _, _, rfl, rfl, by rw [AV.arr_of rfl, AK.vals_append]⟩
    · cases h
  app := AV.app
  app_ok := fun a cs c h => by
    unfold AV.app at h
    split at h
    · split at h
      · rename_i r hr
        cases h
        obtain ⟨h1, h2⟩ := kwords.app_ok hr
        exact ⟨h1, _, _, _, rfl, by rw [AV.arr_of rfl, h2]⟩
      · cases h
    · split at h
      · rename_i r hr
        cases h
        obtain ⟨h1, h2⟩ := kints.app_ok hr
        exact ⟨h1, _, _, _, rfl, by rw [AV.arr_of rfl, h2]⟩
      · cases h
    · split at h
      · rename_i r hr
        cases h
        obtain ⟨h1, h2⟩ := knotes.app_ok hr
        exact ⟨h1, _, _, _, rfl, by rw [AV.arr_of rfl, h2]⟩
      · cases h
    · split at h
      · rename_i r hr
        cases h
        obtain ⟨h1, h2⟩ := kops.app_ok hr
        exact ⟨h1, _, _, _, rfl, by rw [AV.arr_of rfl, h2]⟩
      · cases h
    · split at h
      · rename_i r hr
        cases h
        obtain ⟨h1, h2⟩ := kbeats.app_ok hr
        exact ⟨h1, _, _, _, rfl, by rw [AV.arr_of rfl, h2]⟩
      · cases h
    · split at h
      · rename_i r hr
        cases h
        obtain ⟨h1, h2⟩ := kspans.app_ok hr
        exact ⟨h1, _, _, _, rfl, by rw [AV.arr_of rfl, h2]⟩
      · cases h
    · split at h
      · rename_i r hr
        cases h
        obtain ⟨h1, h2⟩ := kpairs.app_ok hr
        exact ⟨h1, _, _, _, rfl, by rw [AV.arr_of rfl, h2]⟩
      · cases h
    · split at h
      · rename_i r hr
        cases h
        obtain ⟨h1, h2⟩ := kslots.app_ok hr
        exact ⟨h1, _, _, _, rfl, by rw [AV.arr_of rfl, h2]⟩
      · cases h
    · cases h
  cut := AV.cut
  cut_ok := fun a i j c h => by
    unfold AV.cut at h
    split at h
    · cases h; exact ⟨_, _, _, rfl, by rw [AV.arr_of rfl, AK.cut_ok]⟩
    · cases h; exact ⟨_, _, _, rfl, by rw [AV.arr_of rfl, AK.cut_ok]⟩
    · cases h; exact ⟨_, _, _, rfl, by rw [AV.arr_of rfl, AK.cut_ok]⟩
    · cases h; exact ⟨_, _, _, rfl, by rw [AV.arr_of rfl, AK.cut_ok]⟩
    · cases h; exact ⟨_, _, _, rfl, by rw [AV.arr_of rfl, AK.cut_ok]⟩
    · cases h; exact ⟨_, _, _, rfl, by rw [AV.arr_of rfl, AK.cut_ok]⟩
    · cases h; exact ⟨_, _, _, rfl, by rw [AV.arr_of rfl, AK.cut_ok]⟩
    · cases h; exact ⟨_, _, _, rfl, by rw [AV.arr_of rfl, AK.cut_ok]⟩
    · cases h
end Go.Proofs.YtmdojlkmgllhnaaGreatDoor
