import Derived.Test.YtpapbhbnaalhcaaDoorSxT
import Derived.Test.YtpapbhbnaalhcaaDoorSxOf
import Derived.Test.YtpapbhbnaalhcaaDoorSxMq
import Derived.Test.YtpapbhbnaalhcaaDoorSxM
namespace Go.Proofs.YtpapbhbnaalhcaaDoor
open Go Go.Sx Go.Proofs
set_option linter.unusedVariables false
def enI (p : Int × Int) : V1 × V1 := (.c (.it .i64 p.1), .c (.it .i64 p.2))
def enS (p : Int × ByteArray) : V1 × V1 := (.agg [.it .i64 p.1, .sv p.2], .agg [])
def lkI (n d : Int) : List (Int × Int) -> Int × Bool
 | [] => (d, false)
 | e :: r => if n == e.1 then (e.2, true) else lkI n d r
def ptI (n m : Int) : List (Int × Int) -> List (Int × Int)
 | [] => [(n, m)]
 | e :: r => if n == e.1 then (e.1, m) :: r else e :: ptI n m r
def dlI (n : Int) : List (Int × Int) -> List (Int × Int)
 | [] => []
 | e :: r => if n == e.1 then r else e :: dlI n r
def eqS (n : Int) (t : ByteArray) (e : Int × ByteArray) : Bool := n == e.1 && t == e.2
def ptS (n : Int) (t : ByteArray) : List (Int × ByteArray) -> List (Int × ByteArray)
 | [] => [(n, t)]
 | e :: r => if eqS n t e then e :: r else e :: ptS n t r
def dlS (n : Int) (t : ByteArray) : List (Int × ByteArray) -> List (Int × ByteArray)
 | [] => []
 | e :: r => if eqS n t e then r else e :: dlS n t r
theorem iOf_key {c : Cell} {n : Int} (h : iOf c = some n) : kindC c = some (.int .i64) := by
 unfold iOf at h
 split at h <;> cases h <;> rfl
theorem strC_key {c : Cell} {s : ByteArray} {k : Bool} (h : strC c = some (s, k)) : kindC c = some .str /\ c.name = none := by
 unfold strC at h
 split at h <;> cases h <;> exact ⟨rfl, rfl⟩
theorem iOf_d {c : Cell} {n : Int} (h : iOf c = some n) (ρ : Nm) : c.den ρ = .int .i64 n := by
 rw [(kindC_name (iOf_key h)).2 ρ Nm.id]
 exact (iOf_spec h).1
theorem key_I {c : Cell} {n : Int} (h : iOf c = some n) (p : Int × Int) : keyEq (.c c) (enI p).1 = (n == p.1) := by
 have h1 : keyOk [.int .i64] false (.c c) = true := by simp [keyOk, kindsB, iOf_key h]
 have h2 : keyOk [.int .i64] false (enI p).1 = true := rfl
 rw [keyEq_eq h1 h2 Nm.id]
 simp [V1.cells, denL, allEq, (iOf_spec h).1, enI, Cell.den, vEq]
theorem key_S {c s : Cell} {n : Int} {t : ByteArray} {k : Bool} (h : iOf c = some n) (hs : strC s = some (t, k)) (p : Int × ByteArray) : keyEq (.agg [c, s]) (enS p).1 = eqS n t p := by
 have h1 : keyOk [.int .i64, .str] true (.agg [c, s]) = true := by simp [keyOk, kindsB, iOf_key h, (strC_key hs).1]
 have h2 : keyOk [.int .i64, .str] true (enS p).1 = true := rfl
 rw [keyEq_eq h1 h2 Nm.id]
 simp [V1.cells, denL, allEq, (iOf_spec h).1, strC_den Nm.id hs, enS, Cell.den, vEq, eqS]
abbrev dn2 (e : V1 × V1) : Value × Value := (e.1.den Nm.id, e.2.den Nm.id)
theorem look_I {c z : Cell} {n d : Int} (h : iOf c = some n) (hz : iOf z = some d) : ∀ l : List (Int × Int), (lookV (.c c) (.c z) (l.map enI)).2 = (lkI n d l).2 /\ ∀ ρ, (V1.c (.it .i64 (lkI n d l).1)).den ρ = (lookV (.c c) (.c z) (l.map enI)).1.den ρ
 | [] => ⟨rfl, fun ρ => (iOf_d hz ρ).symm⟩
 | e :: r => by
   simp only [List.map_cons, lookV, lkI, key_I h]
   cases n == e.1 with
   | true => exact ⟨rfl, fun _ => rfl⟩
   | false => exact look_I h hz r
theorem look_S {c s : Cell} {n : Int} {t : ByteArray} {k : Bool} (h : iOf c = some n) (hs : strC s = some (t, k)) : ∀ l : List (Int × ByteArray), lookV (.agg [c, s]) (.agg []) (l.map enS) = (.agg [], l.any (eqS n t))
 | [] => rfl
 | e :: r => by
   simp only [List.map_cons, lookV, key_S h hs, List.any_cons]
   cases eqS n t e with
   | true => rfl
   | false => exact look_S h hs r
theorem put_I {c v : Cell} {n m : Int} (h : iOf c = some n) (hv : iOf v = some m) : ∀ l : List (Int × Int), ((ptI n m l).map enI).map dn2 = (putV (.c c) (.c v) (l.map enI)).map dn2
 | [] => by simp [ptI, putV, enI, V1.den, (iOf_spec h).1, (iOf_spec hv).1, Cell.den]
 | e :: r => by
   simp only [List.map_cons, putV, ptI, key_I h]
   cases n == e.1 with
   | true => simp [enI, V1.den, (iOf_spec hv).1, Cell.den]
   | false => simp only [Bool.false_eq_true, if_false, List.map_cons]; rw [put_I h hv r]
theorem put_S {c s : Cell} {n : Int} {t : ByteArray} {k : Bool} (h : iOf c = some n) (hs : strC s = some (t, k)) : ∀ l : List (Int × ByteArray), ((ptS n t l).map enS).map dn2 = (putV (.agg [c, s]) (.agg []) (l.map enS)).map dn2
 | [] => by simp [ptS, putV, enS, V1.den, denL, (iOf_spec h).1, strC_den Nm.id hs, Cell.den]
 | e :: r => by
   simp only [List.map_cons, putV, ptS, key_S h hs]
   cases eqS n t e with
   | true => simp [enS, V1.den, denL]
   | false => simp only [Bool.false_eq_true, if_false, List.map_cons]; rw [put_S h hs r]
theorem del_I {c : Cell} {n : Int} (h : iOf c = some n) : ∀ l : List (Int × Int), (dlI n l).map enI = delV (.c c) (l.map enI)
 | [] => rfl
 | e :: r => by
   simp only [List.map_cons, delV, dlI, key_I h]
   cases n == e.1 with
   | true => rfl
   | false => simp only [Bool.false_eq_true, if_false, List.map_cons]; rw [del_I h r]
theorem del_S {c s : Cell} {n : Int} {t : ByteArray} {k : Bool} (h : iOf c = some n) (hs : strC s = some (t, k)) : ∀ l : List (Int × ByteArray), (dlS n t l).map enS = delV (.agg [c, s]) (l.map enS)
 | [] => rfl
 | e :: r => by
   simp only [List.map_cons, delV, dlS, key_S h hs]
   cases eqS n t e with
   | true => rfl
   | false => simp only [Bool.false_eq_true, if_false, List.map_cons]; rw [del_S h hs r]
inductive AV where
 | sent (i : Nat) | ints (l : List N1) | bools (l : List B1) | ops (l : List O) | answers (l : List An) | rows (l : List Rw) | events (l : List Evt) | pairs (l : List Pr) | bytes (l : List U1)
 | intsA (l : List N1) | boolsA (l : List B1) | opsA (l : List O) | answersA (l : List An) | rowsA (l : List Rw) | eventsA (l : List Evt) | pairsA (l : List Pr) | bytesA (l : List U1)
 | mpI (l : List (Int × Int)) | mpS (l : List (Int × ByteArray)) | rowsB (b : Bool) (l : List Rw) | obj (d : Nat) (ty : TypeId) (cs : List (GC AV))
abbrev kints : AK N1 := N1.ak 3
abbrev kbools : AK B1 := B1.ak 4
abbrev kops : AK O := O.ak 33
abbrev kanswers : AK An := An.ak 35
abbrev krows : AK Rw := Rw.ak 37
abbrev kevents : AK Evt := Evt.ak 69
abbrev kpairs : AK Pr := Pr.ak 98
abbrev kbytes : AK U1 := U1.ak 5
structure Ar where
 α : Type
 K : AK α
 l : List α
def AV.ar : AV -> Option Ar
 | .ints l => some ⟨N1, kints, l⟩
 | .bools l => some ⟨B1, kbools, l⟩
 | .ops l => some ⟨O, kops, l⟩
 | .answers l => some ⟨An, kanswers, l⟩
 | .rows l => some ⟨Rw, krows, l⟩
 | .events l => some ⟨Evt, kevents, l⟩
 | .pairs l => some ⟨Pr, kpairs, l⟩
 | .bytes l => some ⟨U1, kbytes, l⟩
 | _ => none
def AV.fix : AV -> Option Ar
 | .intsA l => some ⟨N1, kints, l⟩
 | .boolsA l => some ⟨B1, kbools, l⟩
 | .opsA l => some ⟨O, kops, l⟩
 | .answersA l => some ⟨An, kanswers, l⟩
 | .rowsA l => some ⟨Rw, krows, l⟩
 | .eventsA l => some ⟨Evt, kevents, l⟩
 | .pairsA l => some ⟨Pr, kpairs, l⟩
 | .bytesA l => some ⟨U1, kbytes, l⟩
 | _ => none
def AV.src : AV -> Option AV
 | .intsA l => some (.ints l)
 | .boolsA l => some (.bools l)
 | .opsA l => some (.ops l)
 | .answersA l => some (.answers l)
 | .rowsA l => some (.rows l)
 | .eventsA l => some (.events l)
 | .pairsA l => some (.pairs l)
 | .bytesA l => some (.bytes l)
 | .ints l => some (.ints l)
 | .bools l => some (.bools l)
 | .ops l => some (.ops l)
 | .answers l => some (.answers l)
 | .rows l => some (.rows l)
 | .events l => some (.events l)
 | .pairs l => some (.pairs l)
 | .bytes l => some (.bytes l)
 | .rowsB _ l => some (.rows l)
 | _ => none
def AV.upd : AV -> Nat -> Nat -> Nat -> List Cell -> Option (Bool × AV)
 | .ints l, i, e, o, cs => match kints.upd l i e o cs with | some (b, r) => some (b, .ints r) | none => none
 | .bools l, i, e, o, cs => match kbools.upd l i e o cs with | some (b, r) => some (b, .bools r) | none => none
 | .ops l, i, e, o, cs => match kops.upd l i e o cs with | some (b, r) => some (b, .ops r) | none => none
 | .answers l, i, e, o, cs => match kanswers.upd l i e o cs with | some (b, r) => some (b, .answers r) | none => none
 | .rows l, i, e, o, cs => match krows.upd l i e o cs with | some (b, r) => some (b, .rows r) | none => none
 | .events l, i, e, o, cs => match kevents.upd l i e o cs with | some (b, r) => some (b, .events r) | none => none
 | .pairs l, i, e, o, cs => match kpairs.upd l i e o cs with | some (b, r) => some (b, .pairs r) | none => none
 | .bytes l, i, e, o, cs => match kbytes.upd l i e o cs with | some (b, r) => some (b, .bytes r) | none => none
 | _, _, _, _, _ => none
def AV.cat : AV -> AV -> Option AV
 | .ints l, .ints r => some (.ints (l ++ r))
 | .bools l, .bools r => some (.bools (l ++ r))
 | .ops l, .ops r => some (.ops (l ++ r))
 | .answers l, .answers r => some (.answers (l ++ r))
 | .rows l, .rows r => some (.rows (l ++ r))
 | .events l, .events r => some (.events (l ++ r))
 | .pairs l, .pairs r => some (.pairs (l ++ r))
 | .bytes l, .bytes r => some (.bytes (l ++ r))
 | _, _ => none
def AV.app : AV -> List Cell -> Option AV
 | .ints l, cs => match kints.app l cs with | some r => some (.ints r) | none => none
 | .bools l, cs => match kbools.app l cs with | some r => some (.bools r) | none => none
 | .ops l, cs => match kops.app l cs with | some r => some (.ops r) | none => none
 | .answers l, cs => match kanswers.app l cs with | some r => some (.answers r) | none => none
 | .rows l, cs => match krows.app l cs with | some r => some (.rows r) | none => none
 | .events l, cs => match kevents.app l cs with | some r => some (.events r) | none => none
 | .pairs l, cs => match kpairs.app l cs with | some r => some (.pairs r) | none => none
 | .bytes l, cs => match kbytes.app l cs with | some r => some (.bytes r) | none => none
 | _, _ => none
def AV.cut : AV -> Nat -> Nat -> Option AV
 | .ints l, i, j => some (.ints ((l.take j).drop i))
 | .bools l, i, j => some (.bools ((l.take j).drop i))
 | .ops l, i, j => some (.ops ((l.take j).drop i))
 | .answers l, i, j => some (.answers ((l.take j).drop i))
 | .rows l, i, j => some (.rows ((l.take j).drop i))
 | .events l, i, j => some (.events ((l.take j).drop i))
 | .pairs l, i, j => some (.pairs ((l.take j).drop i))
 | .bytes l, i, j => some (.bytes ((l.take j).drop i))
 | _, _, _ => none
def AV.rar (a : AV) : Option Ar := match a.ar with
 | some r => some r
 | none => a.fix
def AV.row (a : AV) (i e : Nat) : Option (Bool × List Cell) := match a.rar with
 | some r => r.K.row r.l i e
 | none => match a with | .rowsB _ l => krows.row l i e | _ => none
def AV.arr (a : AV) : Option (Nat × TypeId × List Value) := match a.ar with
 | some r => r.K.arr r.l
 | none => none
def AV.len (a : AV) : Nat := match a.ar with
 | some r => r.l.length
 | none => 0
structure Sg where
 σ : Nat -> Addr
 R : Nat -> Option Obj
instance : CoeFun Sg (fun _ => Nat -> Addr) := ⟨Sg.σ⟩
def Sg.has (σ : Sg) (w : World) : Prop := ∀ k o, σ.R k = some o -> w.heap[k]? = some o
def fixQ (σ : Sg) {α : Type} (K : AK α) (l : List α) (lc : Sx.Loc) (S : Nat -> Prop) : Prop := (∀ k, ¬ S k) /\ ∀ w, σ.has w -> readQ lc (K.vals l) K.es w
def AV.q (σ : Sg) (a : AV) (l : Sx.Loc) (S : Nat -> Prop) (w : World) : Prop := match a with
 | .sent i => (∀ k, S k ↔ k = l.b) /\ w.heap[l.b]? = some (.cells #[.iface 189 (.pointer (some (σ i)))] 28 (0, 0))
 | a => match a.ar with
   | some r => r.K.q r.l l S w
   | none => match a.fix with
     | some r => fixQ σ r.K r.l l S
     | none => match a with
     | .mpI es => mapQ l S (es.map enI) w
     | .mpS es => mapQ l S (es.map enS) w
     | .rowsB b es => match b with | true => krows.q es l S w | false => fixQ σ krows es l S
     | _ => False
theorem rowsB_read {σ : Sg} {b : Bool} {es : List Rw} {l : Sx.Loc} {S : Nat -> Prop} {w : World} (hR : ∀ k o, σ.R k = some o -> w.heap[k]? = some o) (hq : AV.q σ (.rowsB b es) l S w) : readQ l (krows.vals es) krows.es w := by
 cases b with
 | true => exact vecQ_read (show krows.q es l S w from hq)
 | false => exact (show fixQ σ krows es l S from hq).2 w hR
theorem AV.q_fix {σ : Sg} {a : AV} {r : Ar} (h0 : a.ar = none) (h : a.fix = some r) (l : Sx.Loc) (S : Nat -> Prop) (w : World) : a.q σ l S w ↔ fixQ σ r.K r.l l S := by
 cases a <;> simp only [AV.q, AV.ar, AV.fix] at h0 h ⊢ <;> cases h <;> exact Iff.rfl
theorem AV.q_ar {σ : Sg} {a : AV} {r : Ar} (h : a.ar = some r) (l : Sx.Loc) (S : Nat -> Prop) (w : World) : a.q σ l S w ↔ r.K.q r.l l S w := by
 cases a <;> simp only [AV.q, AV.ar] at h ⊢ <;> cases h <;> exact Iff.rfl
def AV.word (σ : Sg) : AV -> Option (List Cell)
 | .sent i => some [.ifc 189 (.op i (σ i))]
 | _ => none
def AV.same : AV -> AV -> Bool
 | .sent i, .sent j => Nat.beq i j
 | _, _ => false
theorem AV.arr_some {a : AV} {x : Nat × TypeId × List Value} (h : a.arr = some x) : ∃ r, a.ar = some r /\ x = (r.K.es, r.K.ty, r.K.vals r.l) := by
 unfold AV.arr at h
 split at h
 ·rename_i r hr
  cases h
  exact ⟨r, hr, rfl⟩
 ·cases h
theorem AV.arr_of {a : AV} {r : Ar} (h : a.ar = some r) : a.arr = some (r.K.es, r.K.ty, r.K.vals r.l) := by unfold AV.arr; rw [h]; rfl
def zerK {α : Type} (K : AK α) (z : List Cell) (es : Nat) (ty : TypeId) (n : Nat) : Option (List α) := match Nat.beq ty K.ty, Nat.beq es K.es, K.dec z with
 | true, true, some a => some (List.replicate n a)
 | _, _, _ => none
theorem zerK_ok {α : Type} {K : AK α} {z : List Cell} {es : Nat} {ty : TypeId} {n : Nat} {l : List α} (h : zerK K z es ty n = some l) : es = K.es /\ ty = K.ty /\ K.vals l = denL Nm.id (repsL z n) := by
 unfold zerK at h
 split at h
 ·rename_i a h1 h2 h3
  cases h
  refine ⟨(beq_iff _ _).1 h2, (beq_iff _ _).1 h1, ?_⟩
  have h4 := (K.dec_ok _ _ h3).1
  have hr : ∀ n, K.vals (List.replicate n a) = denL Nm.id (repsL z n) := fun n => by
   induction n with
   | zero => rfl
   | succ n ih =>
     have e1 : K.vals (List.replicate (n + 1) a) = denL Nm.id (K.enc a) ++ K.vals (List.replicate n a) := by simp [AK.vals, List.replicate_succ]
     have e2 : denL Nm.id (repsL z (n + 1)) = denL Nm.id z ++ denL Nm.id (repsL z n) := by simp [denL, repsL]
     rw [e1, e2, ih, h4]
  exact hr n
 ·cases h
def AV.zer (z : List Cell) (es : Nat) (ty : TypeId) (n : Nat) : Option AV := match zerK kints z es ty n with
 | some l => some (.ints l)
 | none => match zerK kbools z es ty n with
   | some l => some (.bools l)
   | none => match zerK kevents z es ty n with
     | some l => some (.events l)
     | none => none
theorem AV.zer_ok (z : List Cell) (es : Nat) (ty : TypeId) (n : Nat) (a : AV) (h : AV.zer z es ty n = some a) : a.arr = some (es, ty, denL Nm.id (repsL z n)) := by
 unfold AV.zer at h
 split at h
 ·rename_i l hl
  cases h
  obtain ⟨rfl, rfl, h3⟩ := zerK_ok hl
  rw [AV.arr_of rfl, <- h3]
 ·split at h
  ·rename_i l hl
   cases h
   obtain ⟨rfl, rfl, h3⟩ := zerK_ok hl
   rw [AV.arr_of rfl, <- h3]
  ·split at h
   ·rename_i l hl
    cases h
    obtain ⟨rfl, rfl, h3⟩ := zerK_ok hl
    rw [AV.arr_of rfl, <- h3]
   ·cases h
def AV.txt : AV -> Option (List Int)
 | .bytes l => some (l.map U1.val)
 | _ => none
theorem AV.txt_ok (a : AV) (s : List Int) (h : a.txt = some s) : ∃ ty, a.arr = some (1, ty, s.map (Value.int .u8)) := by
 cases a with
 | bytes l =>
   cases h
   refine ⟨kbytes.ty, (AV.arr_of (r := ⟨U1, kbytes, l⟩) rfl).trans ?_⟩
   have : kbytes.vals l = (l.map U1.val).map (Value.int .u8) := by
    induction l with
    | nil => rfl
    | cons x r ih =>
      have e1 : kbytes.vals (x :: r) = .int .u8 x.val :: kbytes.vals r := rfl
      rw [e1, ih]
      rfl
   exact congrArg (fun v => some ((1 : Nat), kbytes.ty, v)) this
 | _ => cases h
def AV.mp : AV -> Option (List FK × Bool × List (V1 × V1))
 | .mpI l => some ([.int .i64], false, l.map enI)
 | .mpS l => some ([.int .i64, .str], true, l.map enS)
 | _ => none
def AV.mnew : List FK -> Bool -> Option AV
 | [.int .i64], false => some (.mpI [])
 | [.int .i64, .str], true => some (.mpS [])
 | _, _ => none
def AV.mlook : AV -> V1 -> V1 -> Option (V1 × Bool × Bool)
 | .mpI l, .c k, .c z => match iOf k, iOf z with
   | some n, some d => some (.c (.it .i64 (lkI n d l).1), (lkI n d l).2, false)
   | _, _ => none
 | .mpS l, .agg [k, s], .agg [] => match iOf k, strC s with
   | some n, some (t, _) => some (.agg [], l.any (eqS n t), false)
   | _, _ => none
 | _, _, _ => none
def AV.mput : AV -> V1 -> V1 -> Option AV
 | .mpI l, .c k, .c v => match iOf k, iOf v with
   | some n, some m => some (.mpI (ptI n m l))
   | _, _ => none
 | .mpS l, .agg [k, s], .agg [] => match iOf k, strC s with
   | some n, some (t, _) => some (.mpS (ptS n t l))
   | _, _ => none
 | _, _, _ => none
def AV.mdel : AV -> V1 -> Option AV
 | .mpI l, .c k => match iOf k with
   | some n => some (.mpI (dlI n l))
   | none => none
 | .mpS l, .agg [k, s] => match iOf k, strC s with
   | some n, some (t, _) => some (.mpS (dlS n t l))
   | _, _ => none
 | _, _ => none
def AV.mlen : AV -> Option (Nat × Bool)
 | .mpI l => some (l.length, false)
 | .mpS l => some (l.length, false)
 | _ => none
theorem AV.mlook_ok (a : AV) (k z v : V1) (b kn : Bool) (h : a.mlook k z = some (v, b, kn)) : ∃ ks ag es, a.mp = some (ks, ag, es) /\ (lookV k z es).2 = b /\ (∀ c ∈ v.cells, c.name = none) /\ ∀ ρ, v.den ρ = (lookV k z es).1.den ρ := by
 unfold AV.mlook at h
 split at h
 ·split at h
  ·rename_i l k z _ _ n d h1 h2
   cases h
   obtain ⟨g1, g2⟩ := look_I h1 h2 l
   exact ⟨_, _, _, rfl, g1, fun c hc => (by rw [List.mem_singleton.1 hc]; rfl), g2⟩
  ·cases h
 ·split at h
  ·rename_i l k s _ _ n t _ h1 h2
   cases h
   have g := look_S h1 h2 l
   exact ⟨_, _, _, rfl, by rw [g], fun c hc => (by cases hc), fun ρ => by rw [g]⟩
  ·cases h
 ·cases h
theorem AV.mput_ok (a : AV) (k v : V1) (a' : AV) (h : a.mput k v = some a') : (∀ c ∈ k.cells, c.name = none) /\ (∀ c ∈ v.cells, c.name = none) /\ ∃ ks ag es es', a.mp = some (ks, ag, es) /\ a'.mp = some (ks, ag, es') /\ es'.map (fun e => (e.1.den Nm.id, e.2.den Nm.id)) = (putV k v es).map fun e => (e.1.den Nm.id, e.2.den Nm.id) := by
 unfold AV.mput at h
 split at h
 ·split at h
  ·rename_i l k z _ _ n d h1 h2
   cases h
   exact ⟨fun c hc => (by rw [List.mem_singleton.1 hc]; exact (iOf_spec h1).2), fun c hc => (by rw [List.mem_singleton.1 hc]; exact (iOf_spec h2).2), _, _, _, _, rfl, rfl, put_I h1 h2 l⟩
  ·cases h
 ·split at h
  ·rename_i l k s _ _ n t _ h1 h2
   cases h
   refine ⟨fun c hc => ?_, fun c hc => (by cases hc), _, _, _, _, rfl, rfl, put_S h1 h2 l⟩
   simp only [V1.cells, List.mem_cons, List.not_mem_nil, or_false] at hc
   rcases hc with rfl | rfl
   ·exact (iOf_spec h1).2
   ·exact (strC_key h2).2
  ·cases h
 ·cases h
theorem AV.mdel_ok (a : AV) (k : V1) (a' : AV) (h : a.mdel k = some a') : ∃ ks ag es, a.mp = some (ks, ag, es) /\ a'.mp = some (ks, ag, delV k es) := by
 unfold AV.mdel at h
 split at h
 ·split at h
  ·rename_i l k _ n h1
   cases h
   exact ⟨_, _, _, rfl, by rw [<- del_I h1 l]; rfl⟩
  ·cases h
 ·split at h
  ·rename_i l k s _ _ n t _ h1 h2
   cases h
   exact ⟨_, _, _, rfl, by rw [<- del_S h1 h2 l]; rfl⟩
  ·cases h
 ·cases h
def avF (σ : Sg) : Intf AV where
 q := AV.q σ
 loc := fun a l S w w' hk hq => by
  cases ha : a.ar with
  | some r => exact (AV.q_ar ha l S w').2 (r.K.q_loc hk ((AV.q_ar ha l S w).1 hq))
  | none =>
    cases hf : a.fix with
    | some r => exact (AV.q_fix ha hf l S w').2 ((AV.q_fix ha hf l S w).1 hq)
    | none =>
      cases a with
      | sent i => exact ⟨hq.1, by rw [hk l.b ((hq.1 _).2 rfl)]; exact hq.2⟩
      | mpI es => obtain ⟨g1, en, cl, g2, g3⟩ := (show mapQ l S (es.map enI) w from hq); exact ⟨g1, en, cl, by rw [hk l.b ((g1 _).2 rfl)]; exact g2, g3⟩
      | mpS es => obtain ⟨g1, en, cl, g2, g3⟩ := (show mapQ l S (es.map enS) w from hq); exact ⟨g1, en, cl, by rw [hk l.b ((g1 _).2 rfl)]; exact g2, g3⟩
      | rowsB b es => cases b with
        | true => exact krows.q_loc hk (show krows.q es l S w from hq)
        | false => exact hq
      | _ => first | (cases ha; done) | (cases hf; done) | exact hq.elim
 dom := fun a l S w k hq hk => by
  cases ha : a.ar with
  | some r => exact r.K.q_dom ((AV.q_ar ha l S w).1 hq) hk
  | none =>
    cases hf : a.fix with
    | some r => exact absurd hk (((AV.q_fix ha hf l S w).1 hq).1 k)
    | none =>
      cases a with
      | sent i =>
        rw [(hq.1 k).1 hk]
        exact (Array.getElem?_eq_some_iff.1 hq.2).1
      | mpI es => obtain ⟨g1, en, cl, g2, g3⟩ := (show mapQ l S (es.map enI) w from hq); rw [(g1 k).1 hk]; exact (Array.getElem?_eq_some_iff.1 g2).1
      | mpS es => obtain ⟨g1, en, cl, g2, g3⟩ := (show mapQ l S (es.map enS) w from hq); rw [(g1 k).1 hk]; exact (Array.getElem?_eq_some_iff.1 g2).1
      | rowsB b es => cases b with
        | true => exact krows.q_dom (show krows.q es l S w from hq) hk
        | false => exact absurd hk ((show fixQ σ krows es l S from hq).1 k)
      | _ => first | (cases ha; done) | (cases hf; done) | exact hq.elim
 row := AV.row
 row_nm := fun a idx es cs h => by
  unfold AV.row at h
  split at h
  ·rename_i r hr; exact r.K.row_nm h
  ·split at h
   ·exact krows.row_nm h
   ·cases h
 R := σ.R
 row_ok := fun a l S w idx es cs hR hq h => by
  unfold AV.row at h
  split at h
  ·rename_i r hr
   unfold AV.rar at hr
   split at hr
   ·rename_i r' ha
    cases hr
    exact r.K.row_ok ((AV.q_ar ha l S w).1 hq) h
   ·rename_i ha
    exact r.K.row_read (((AV.q_fix ha hr l S w).1 hq).2 w hR) h
  ·split at h
   ·exact krows.row_read (rowsB_read hR hq) h
   ·cases h
 upd := AV.upd
 upd_ok := fun a l S w idx es off cs a' hq h => by
  unfold AV.upd at h
  split at h
  ·split at h
   ·rename_i b r hr
    simp only [Option.some.injEq, Prod.mk.injEq] at h
    obtain ⟨rfl, rfl⟩ := h
    exact kints.upd_ok hq hr
   ·cases h
  ·split at h
   ·rename_i b r hr
    simp only [Option.some.injEq, Prod.mk.injEq] at h
    obtain ⟨rfl, rfl⟩ := h
    exact kbools.upd_ok hq hr
   ·cases h
  ·split at h
   ·rename_i b r hr
    simp only [Option.some.injEq, Prod.mk.injEq] at h
    obtain ⟨rfl, rfl⟩ := h
    exact kops.upd_ok hq hr
   ·cases h
  ·split at h
   ·rename_i b r hr
    simp only [Option.some.injEq, Prod.mk.injEq] at h
    obtain ⟨rfl, rfl⟩ := h
    exact kanswers.upd_ok hq hr
   ·cases h
  ·split at h
   ·rename_i b r hr
    simp only [Option.some.injEq, Prod.mk.injEq] at h
    obtain ⟨rfl, rfl⟩ := h
    exact krows.upd_ok hq hr
   ·cases h
  ·split at h
   ·rename_i b r hr
    simp only [Option.some.injEq, Prod.mk.injEq] at h
    obtain ⟨rfl, rfl⟩ := h
    exact kevents.upd_ok hq hr
   ·cases h
  ·split at h
   ·rename_i b r hr
    simp only [Option.some.injEq, Prod.mk.injEq] at h
    obtain ⟨rfl, rfl⟩ := h
    exact kpairs.upd_ok hq hr
   ·cases h
  ·split at h
   ·rename_i b r hr
    simp only [Option.some.injEq, Prod.mk.injEq] at h
    obtain ⟨rfl, rfl⟩ := h
    exact kbytes.upd_ok hq hr
   ·cases h
  ·cases h
 word := AV.word σ
 word_nm := fun a cs h c hc => by
  unfold AV.word at h
  split at h
  ·cases h
   rw [List.mem_singleton.1 hc]
   rfl
  ·cases h
 word_ok := fun a l S w cs hq h j c hc => by
  unfold AV.word at h
  split at h
  ·cases h
   match j, hc with
   | 0, hc =>
     simp only [List.getElem?_cons_zero, Option.some.injEq] at hc
     subst hc
     simp [World.cell?, hq.2, Cell.den]
  ·cases h
 same := AV.same
 same_ok := fun a b h => by
  unfold AV.same at h
  split at h
  ·rw [(beq_iff _ _).1 h]
  ·cases h
 arr := AV.arr
 arr_q := fun a es ty vs h => by
  obtain ⟨r, hr, hx⟩ := AV.arr_some h
  simp only [Prod.mk.injEq] at hx
  obtain ⟨rfl, rfl, rfl⟩ := hx
  exact ⟨r.K.vals_one r.l, fun l S w => AV.q_ar hr l S w⟩
 src := AV.src
 src_ok := fun a b es ty vs h hb l S w hR hq => by
  unfold AV.src at h
  split at h
  ·cases h; cases hb; exact ((AV.q_fix rfl rfl l S w).1 hq).2 w hR
  ·cases h; cases hb; exact ((AV.q_fix rfl rfl l S w).1 hq).2 w hR
  ·cases h; cases hb; exact ((AV.q_fix rfl rfl l S w).1 hq).2 w hR
  ·cases h; cases hb; exact ((AV.q_fix rfl rfl l S w).1 hq).2 w hR
  ·cases h; cases hb; exact ((AV.q_fix rfl rfl l S w).1 hq).2 w hR
  ·cases h; cases hb; exact ((AV.q_fix rfl rfl l S w).1 hq).2 w hR
  ·cases h; cases hb; exact ((AV.q_fix rfl rfl l S w).1 hq).2 w hR
  ·cases h; cases hb; exact ((AV.q_fix rfl rfl l S w).1 hq).2 w hR
  ·cases h; cases hb; exact vecQ_read ((AV.q_ar rfl l S w).1 hq)
  ·cases h; cases hb; exact vecQ_read ((AV.q_ar rfl l S w).1 hq)
  ·cases h; cases hb; exact vecQ_read ((AV.q_ar rfl l S w).1 hq)
  ·cases h; cases hb; exact vecQ_read ((AV.q_ar rfl l S w).1 hq)
  ·cases h; cases hb; exact vecQ_read ((AV.q_ar rfl l S w).1 hq)
  ·cases h; cases hb; exact vecQ_read ((AV.q_ar rfl l S w).1 hq)
  ·cases h; cases hb; exact vecQ_read ((AV.q_ar rfl l S w).1 hq)
  ·cases h; cases hb; exact vecQ_read ((AV.q_ar rfl l S w).1 hq)
  ·cases h; cases hb; exact rowsB_read hR hq
  ·cases h
 len := AV.len
 len_ok := fun a es ty vs h => by
  obtain ⟨r, hr, hx⟩ := AV.arr_some h
  simp only [Prod.mk.injEq] at hx
  obtain ⟨rfl, rfl, rfl⟩ := hx
  rw [r.K.vals_len]
  unfold AV.len
  rw [hr]
 cat := AV.cat
 cat_ok := fun a b c h => by
  unfold AV.cat at h
  split at h
  ·cases h; exact ⟨_, _, _, _, _, rfl, rfl, by rw [AV.arr_of rfl, AK.vals_append]⟩
  ·cases h; exact ⟨_, _, _, _, _, rfl, rfl, by rw [AV.arr_of rfl, AK.vals_append]⟩
  ·cases h; exact ⟨_, _, _, _, _, rfl, rfl, by rw [AV.arr_of rfl, AK.vals_append]⟩
  ·cases h; exact ⟨_, _, _, _, _, rfl, rfl, by rw [AV.arr_of rfl, AK.vals_append]⟩
  ·cases h; exact ⟨_, _, _, _, _, rfl, rfl, by rw [AV.arr_of rfl, AK.vals_append]⟩
  ·cases h; exact ⟨_, _, _, _, _, rfl, rfl, by rw [AV.arr_of rfl, AK.vals_append]⟩
  ·cases h; exact ⟨_, _, _, _, _, rfl, rfl, by rw [AV.arr_of rfl, AK.vals_append]⟩
  ·cases h; exact ⟨_, _, _, _, _, rfl, rfl, by rw [AV.arr_of rfl, AK.vals_append]⟩
  ·cases h
 app := AV.app
 app_ok := fun a cs c h => by
  unfold AV.app at h
  split at h
  ·split at h
   ·rename_i r hr
    cases h
    obtain ⟨h1, h2⟩ := kints.app_ok hr
    exact ⟨h1, _, _, _, rfl, by rw [AV.arr_of rfl, h2]⟩
   ·cases h
  ·split at h
   ·rename_i r hr
    cases h
    obtain ⟨h1, h2⟩ := kbools.app_ok hr
    exact ⟨h1, _, _, _, rfl, by rw [AV.arr_of rfl, h2]⟩
   ·cases h
  ·split at h
   ·rename_i r hr
    cases h
    obtain ⟨h1, h2⟩ := kops.app_ok hr
    exact ⟨h1, _, _, _, rfl, by rw [AV.arr_of rfl, h2]⟩
   ·cases h
  ·split at h
   ·rename_i r hr
    cases h
    obtain ⟨h1, h2⟩ := kanswers.app_ok hr
    exact ⟨h1, _, _, _, rfl, by rw [AV.arr_of rfl, h2]⟩
   ·cases h
  ·split at h
   ·rename_i r hr
    cases h
    obtain ⟨h1, h2⟩ := krows.app_ok hr
    exact ⟨h1, _, _, _, rfl, by rw [AV.arr_of rfl, h2]⟩
   ·cases h
  ·split at h
   ·rename_i r hr
    cases h
    obtain ⟨h1, h2⟩ := kevents.app_ok hr
    exact ⟨h1, _, _, _, rfl, by rw [AV.arr_of rfl, h2]⟩
   ·cases h
  ·split at h
   ·rename_i r hr
    cases h
    obtain ⟨h1, h2⟩ := kpairs.app_ok hr
    exact ⟨h1, _, _, _, rfl, by rw [AV.arr_of rfl, h2]⟩
   ·cases h
  ·split at h
   ·rename_i r hr
    cases h
    obtain ⟨h1, h2⟩ := kbytes.app_ok hr
    exact ⟨h1, _, _, _, rfl, by rw [AV.arr_of rfl, h2]⟩
   ·cases h
  ·cases h
 cut := AV.cut
 cut_ok := fun a i j c h => by
  unfold AV.cut at h
  split at h
  ·cases h; exact ⟨_, _, _, rfl, by rw [AV.arr_of rfl, AK.cut_ok]⟩
  ·cases h; exact ⟨_, _, _, rfl, by rw [AV.arr_of rfl, AK.cut_ok]⟩
  ·cases h; exact ⟨_, _, _, rfl, by rw [AV.arr_of rfl, AK.cut_ok]⟩
  ·cases h; exact ⟨_, _, _, rfl, by rw [AV.arr_of rfl, AK.cut_ok]⟩
  ·cases h; exact ⟨_, _, _, rfl, by rw [AV.arr_of rfl, AK.cut_ok]⟩
  ·cases h; exact ⟨_, _, _, rfl, by rw [AV.arr_of rfl, AK.cut_ok]⟩
  ·cases h; exact ⟨_, _, _, rfl, by rw [AV.arr_of rfl, AK.cut_ok]⟩
  ·cases h; exact ⟨_, _, _, rfl, by rw [AV.arr_of rfl, AK.cut_ok]⟩
  ·cases h
 zer := AV.zer
 zer_ok := AV.zer_ok
 txt := AV.txt
 txt_ok := AV.txt_ok
 mp := AV.mp
 mp_q := fun a ks ag es h => by
  cases a with
  | mpI l =>
    cases h
    refine ⟨fun e he => ?_, fun l S w => Iff.rfl⟩
    obtain ⟨p, _, rfl⟩ := List.mem_map.1 he
    exact ⟨rfl, fun c hc => (by rw [List.mem_singleton.1 hc]; rfl), fun c hc => (by rw [List.mem_singleton.1 hc]; rfl)⟩
  | mpS l =>
    cases h
    refine ⟨fun e he => ?_, fun l S w => Iff.rfl⟩
    obtain ⟨p, _, rfl⟩ := List.mem_map.1 he
    refine ⟨rfl, fun c hc => ?_, fun c hc => (by cases hc)⟩
    simp only [enS, V1.cells, List.mem_cons, List.not_mem_nil, or_false] at hc
    rcases hc with rfl | rfl <;> rfl
  | _ => cases h
 mnew := AV.mnew
 mnew_ok := fun ks ag a h => by
  unfold AV.mnew at h
  split at h <;> cases h <;> rfl
 mlook := AV.mlook
 mlook_ok := AV.mlook_ok
 mput := AV.mput
 mput_ok := AV.mput_ok
 mdel := AV.mdel
 mdel_ok := AV.mdel_ok
 mlen := AV.mlen
 mlen_ok := fun a n kn h => by
  cases a <;> first
   | (cases h; done)
   | (cases h; exact ⟨_, _, _, rfl, by simp⟩)
end Go.Proofs.YtpapbhbnaalhcaaDoor

namespace Go.Proofs.YtpapbhbnaalhcaaDoor
open Go Go.Sx Go.Proofs
set_option linter.unusedVariables false
def AV.dep : AV -> Nat
 | .obj d _ _ => d
 | _ => 0
def layV : AV -> Option (Hp AV)
 | .obj _ ty cs => some (layG ty cs)
 | _ => none
def depsB (d : Nat) : List AV -> Bool
 | [] => true
 | a :: r => match Nat.blt a.dep d with | true => depsB d r | false => false
def AV.okD : AV -> Bool
 | .obj d _ cs => match Nat.blt 0 d, Nat.ble d 2, depsB d (partsG cs) with | true, true, true => true | _, _, _ => false
 | _ => true
theorem depsB_spec {d : Nat} : ∀ {l : List AV}, depsB d l = true -> ∀ a ∈ l, a.dep < d
 | [], _, a, h => by cases h
 | b :: r, h, a, ha => by
   simp only [depsB] at h
   split at h
   ·rename_i hb
    rcases List.mem_cons.1 ha with rfl | ha
    ·exact (blt_iff _ _).1 hb
    ·exact depsB_spec h a ha
   ·cases h
def layK (k : Nat) (a : AV) : Option (Hp AV) := match Nat.beq a.dep k with
 | true => layV a
 | false => none
theorem layK_ne {k : Nat} {a : AV} (h : a.dep ≠ k) : layK k a = none := by
 unfold layK; rw [(beq_false_iff _ _).2 h]
theorem layK_eq {k : Nat} {a : AV} (h : a.dep = k) : layK k a = layV a := by
 unfold layK; rw [(beq_iff _ _).2 h]
theorem upd_dep {a : AV} {i e o : Nat} {cs : List Cell} {b : Bool} {a' : AV} (h : a.upd i e o cs = some (b, a')) : a.dep = 0 /\ a'.dep = 0 := by
 unfold AV.upd at h
 split at h
 all_goals first
  | (cases h; done)
  | (split at h
     ·simp only [Option.some.injEq, Prod.mk.injEq] at h
      have h := h.2
      subst h
      exact ⟨rfl, rfl⟩
     ·cases h)
theorem arr_dep {a : AV} {x : Nat × TypeId × List Value} (h : a.arr = some x) : a.dep = 0 := by cases a <;> first | rfl | cases h
theorem row_dep {a : AV} {i e : Nat} {x : Bool × List Cell} (h : a.row i e = some x) : a.dep = 0 := by cases a <;> first | rfl | cases h
theorem word_dep {σ : Sg} {a : AV} {cs : List Cell} (h : a.word σ = some cs) : a.dep = 0 := by cases a <;> first | rfl | cases h
theorem mp_dep {a : AV} {x : List FK × Bool × List (V1 × V1)} (h : a.mp = some x) : a.dep = 0 := by cases a <;> first | rfl | cases h
theorem lay1_ok (σ : Sg) : LayOk (avF σ) (layK 1) where
 arr := fun a x h => layK_ne (by rw [arr_dep h]; decide)
 row := fun a i e x h => layK_ne (by rw [row_dep h]; decide)
 prt := fun a i e o n x h => by cases h
 upd := fun a i e o cs b a' h => ⟨layK_ne (by rw [(upd_dep h).1]; decide), layK_ne (by rw [(upd_dep h).2]; decide)⟩
 word := fun a cs h => layK_ne (by rw [word_dep h]; decide)
 mp := fun a x h => layK_ne (by rw [mp_dep h]; decide)
def F1 (σ : Sg) : Intf AV := (avF σ).obj (layK 1) (lay1_ok σ)
theorem lay2_ok (σ : Sg) : LayOk (F1 σ) (layK 2) where
 arr := fun a x h => layK_ne (by rw [arr_dep h]; decide)
 row := fun a i e x h => layK_ne (by rw [row_dep h]; decide)
 prt := fun a i e o n x h => by cases h
 upd := fun a i e o cs b a' h => ⟨layK_ne (by rw [(upd_dep h).1]; decide), layK_ne (by rw [(upd_dep h).2]; decide)⟩
 word := fun a cs h => layK_ne (by rw [word_dep h]; decide)
 mp := fun a x h => layK_ne (by rw [mp_dep h]; decide)
def F2 (σ : Sg) : Intf AV := (F1 σ).obj (layK 2) (lay2_ok σ)
section
variable {σ : Sg} {a : AV} (l : Sx.Loc) (S : Nat -> Prop) (w : World)
theorem q2_1 (h : a.dep ≠ 2) : (F2 σ).q a l S w ↔ (F1 σ).q a l S w := objF_none (layK_ne h) l S w
theorem q1_0 (h : a.dep ≠ 1) : (F1 σ).q a l S w ↔ AV.q σ a l S w := objF_none (layK_ne h) l S w
theorem q2_0 (h : a.dep = 0) : (F2 σ).q a l S w ↔ AV.q σ a l S w := (q2_1 l S w (by omega)).trans (q1_0 l S w (by omega))
end
theorem layV_parts {a : AV} {K : Hp AV} (hK : layV a = some K) (ho : a.okD = true) {i : Nat} {b : AV} (h : hget K i = some (.abs b)) : b.dep < a.dep := by
 cases a <;> first | (cases hK; done) | skip
 rename_i d ty cs
 cases hK
 simp only [AV.okD] at ho
 split at ho
 ·rename_i h3
  cases i with
  | zero => simp [layG, hget] at h
  | succ i =>
    obtain ⟨c, hc, e⟩ := (absL_get _ _ _).1 (show hget (absL (partsG cs)) i = some (.abs b) from h)
    cases e
    exact depsB_spec h3 b (List.mem_of_getElem? hc)
 ·cases ho
theorem layV_dep {a : AV} {K : Hp AV} (hK : layV a = some K) (ho : a.okD = true) : a.dep = 1 \/ a.dep = 2 := by
 cases a <;> first | (cases hK; done) | skip
 rename_i d ty cs
 simp only [AV.okD] at ho
 split at ho
 ·rename_i h1 h2 _
  have h1 := (blt_iff _ _).1 h1
  have h2 := Nat.le_of_ble_eq_true h2
  show d = 1 \/ d = 2
  omega
 ·cases ho
theorem q_obj {σ : Sg} {N : Env AV} (hF : N.F = F2 σ) {a : AV} {K : Hp AV} (hK : layV a = some K) (ho : a.okD = true) (l : Sx.Loc) (S : Nat -> Prop) (w : World) : N.F.q a l S w ↔ objQ N K l S w := by
 have parts := fun i b h => layV_parts (i := i) (b := b) hK ho h
 have go : ∀ (F : Intf AV), (∀ b, b.dep < a.dep -> ∀ l S w, F.q b l S w ↔ (F2 σ).q b l S w) -> (objQ (envF F) K l S w ↔ objQ N K l S w) := fun F hb => by
  constructor
  ·exact objQ_flat (N := envF F) (N' := N) fun i b h l S w hq => by rw [hF]; exact (hb b (parts i b h) l S w).1 hq
  ·exact objQ_flat (N := N) (N' := envF F) fun i b h l S w hq => by rw [hF] at hq; exact (hb b (parts i b h) l S w).2 hq
 rw [hF]
 rcases layV_dep hK ho with h1 | h2
 ·have e : (F1 σ).q a l S w ↔ objQ (envF (avF σ)) K l S w := by
   show objF (avF σ) (layK 1) a l S w ↔ _
   unfold objF
   rw [layK_eq h1, hK]
  exact (q2_1 l S w (by omega)).trans (e.trans (go _ fun b hb l S w => (q2_0 l S w (by omega)).symm))
 ·have e : (F2 σ).q a l S w ↔ objQ (envF (F1 σ)) K l S w := by
   show objF (F1 σ) (layK 2) a l S w ↔ _
   unfold objF
   rw [layK_eq h2, hK]
  exact e.trans (go _ fun b hb l S w => (q2_1 l S w (by omega)).symm)
theorem q_avF {N : Env AV} {σ : Sg} (hF : N.F = F2 σ) {a : AV} (h : a.dep = 0) (l : Sx.Loc) (S : Nat -> Prop) (w : World) : N.F.q a l S w ↔ AV.q σ a l S w := by
 rw [hF]; exact q2_0 l S w h
def nodupB : List Nat -> Bool
 | [] => true
 | x :: r => match hasN r x with | true => false | false => nodupB r
theorem nodupB_spec : ∀ {l : List Nat}, nodupB l = true -> l.Nodup
 | [], _ => List.nodup_nil
 | x :: r, h => by
   simp only [nodupB] at h
   split at h
   ·cases h
   ·rename_i hx
    exact List.nodup_cons.2 ⟨(fun e => by rw [(hasN_iff _ _).2 e] at hx; cases hx), nodupB_spec h⟩
def rdA {α : Type} (K : AK α) (ex : AV -> Option (List α)) (mk : List α -> AV) : Rd AV := fun H c => match arrAt K ex H c with
 | some (l, len, nm) => some (mk l, len, nm)
 | none => none
theorem rdA_ok {σ : Sg} {N : Env AV} (hF : N.F = F2 σ) {α : Type} {K : AK α} {ex : AV -> Option (List α)} {mk : List α -> AV} (hex : ∀ a l, ex a = some l -> a = mk l) (hd : ∀ l, (mk l).dep = 0) (hq : ∀ l lc S w, AV.q σ (mk l) lc S w ↔ K.q l lc S w) (hl : ∀ l, (mk l).len = l.length) : RdOk N (rdA K ex mk) K.es := by
 intro H c a len nm h hlen ρ w hO
 unfold rdA at h
 split at h
 ·rename_i l' len' nm' ha
  simp only [Option.some.injEq, Prod.mk.injEq] at h
  obtain ⟨rfl, rfl, rfl⟩ := h
  have el : N.F.len (mk l') = l'.length := by rw [hF]; exact hl l'
  rw [el] at hlen ⊢
  obtain ⟨lc, S, h1, h2, h3⟩ := arrAt_ok (N := N) (fun a l he lc S w hqa => by rw [hex a l he] at hqa; exact (hq l lc S w).1 ((q_avF hF (hd l) lc S w).1 hqa)) ha hlen hO
  exact ⟨lc, S, h1, (q_avF hF (hd l') lc S w).2 ((hq l' lc S w).2 h2), h3⟩
 ·cases h
def exI : AV -> Option (List N1) | .ints l => some l | _ => none
def exP : AV -> Option (List Pr) | .pairs l => some l | _ => none
abbrev KS := List (Option (Rd AV × Nat))
def sI : Option (Rd AV × Nat) := some (rdA kints exI .ints, kints.es)
def sP : Option (Rd AV × Nat) := some (rdA kpairs exP .pairs, kpairs.es)
def tCreed : Nat := 58
def tWoe : Nat := 164
def tPWoe : Nat := 162
def kindV (ty : TypeId) : Option (Nat × KS) :=
 match Nat.beq ty tCreed with
 | true => some (1, [none, sI, sP])
 | false => match Nat.beq ty tWoe with
   | true => some (1, [none, none])
   | false => none
def viewG (σ : Sg) (H : Hp AV) (n : Nat) (l : List Cell) (ty : TypeId) : T (AV × List Nat) := match kindV ty with
 | some (d, ks) => match fieldsG (F2 σ) H ks l with
   | some (gs, b, ns) => match nodupB (n :: namesO ns), AV.okD (.obj d ty gs) with
     | true, true => .need b (.leaf (.obj d ty gs, namesO ns))
     | _, _ => .fail "object: names"
   | none => .fail "object: fields"
 | none => .fail "object: type"
def viewV (σ : Sg) (H : Hp AV) (n : Nat) : T (AV × List Nat) := match hget H n with
 | some (.cells l ty) => viewG σ H n l ty
 | _ => .fail "object"
theorem kindV_ok {σ : Sg} {N : Env AV} (hF : N.F = F2 σ) {ty : TypeId} {d : Nat} {ks : KS} (h : kindV ty = some (d, ks)) : ksOk N ks := by
 have hI : RdOk N (rdA kints exI .ints) kints.es := rdA_ok hF (fun a l h => by cases a <;> first | (cases h; done) | (cases h; rfl)) (fun _ => rfl) (fun _ _ _ _ => Iff.rfl) (fun _ => rfl)
 have hP : RdOk N (rdA kpairs exP .pairs) kpairs.es := rdA_ok hF (fun a l h => by cases a <;> first | (cases h; done) | (cases h; rfl)) (fun _ => rfl) (fun _ _ _ _ => Iff.rfl) (fun _ => rfl)
 unfold kindV at h
 split at h
 ·simp only [Option.some.injEq, Prod.mk.injEq] at h
  obtain ⟨_, rfl⟩ := h
  exact ⟨hI, hP, trivial⟩
 ·split at h
  ·simp only [Option.some.injEq, Prod.mk.injEq] at h
   obtain ⟨_, rfl⟩ := h
   exact trivial
  ·cases h
theorem viewV_ok {σ : Sg} {N : Env AV} (hF : N.F = F2 σ) : ViewOk N (viewV σ) := by
 intro H n a ns h ρ w hO
 unfold viewV at h
 split at h
 ·rename_i l ty hH
  unfold viewG at h
  split at h
  ·rename_i d ks hk
   split at h
   ·rename_i gs b ms hf
    split at h
    ·rename_i hnd ho
     obtain ⟨rfl, h⟩ := need_some h
     simp only [T.val, Option.some.injEq, Prod.mk.injEq] at h
     obtain ⟨rfl, rfl⟩ := h
     rw [<- hF] at hf
     exact (q_obj hF (a := .obj d ty gs) rfl ho _ _ _).2 (objG_ok (kindV_ok hF hk) hH hf (nodupB_spec hnd) hO)
    ·simp [T.val] at h
   ·simp [T.val] at h
  ·simp [T.val] at h
 ·simp [T.val] at h
def ztJ (t : TypeId) : Option V1 := match Nat.beq t 3 with
 | true => some (.c (.il .i64 0))
 | false => match Nat.beq t 105 with
   | true => some (.agg [])
   | false => none
def isZ0 : Option Value -> Bool | some (.int .i64 0) => true | _ => false
def isZ1 : Option Value -> Bool | some (.agg a) => a.isEmpty | _ => false
theorem ztJ_ok : ZtOk Tryd.prog ztJ := by
 have h0 : (match Tryd.prog.info? 3 with | some i => isZ0 i.zero | none => false) = true := by kernel_rfl
 have h1 : (match Tryd.prog.info? 105 with | some i => isZ1 i.zero | none => false) = true := by kernel_rfl
 intro t z h
 unfold ztJ at h
 split at h
 ·rename_i ht
  have ht := (beq_iff _ _).1 ht
  subst ht
  cases h
  refine ⟨fun c hc => (by rw [List.mem_singleton.1 hc]; rfl), ?_⟩
  split at h0
  ·rename_i i hi
   unfold isZ0 at h0
   split at h0
   ·rename_i hz
    exact ⟨i, _, hi, hz, fun _ => rfl⟩
   ·cases h0
  ·cases h0
 ·split at h
  ·rename_i ht
   have ht := (beq_iff _ _).1 ht
   subst ht
   cases h
   refine ⟨fun c hc => (by cases hc), ?_⟩
   split at h1
   ·rename_i i hi
    unfold isZ1 at h1
    split at h1
    ·rename_i a hz
     refine ⟨i, _, hi, hz, fun _ => ?_⟩
     have : a = #[] := by simpa using h1
     subst this
     rfl
    ·cases h1
   ·cases h1
  ·cases h
abbrev Lp := FuncId -> Nat -> Option (St AV -> T (Ex × St AV))
def noLp : Lp := fun _ _ => none
noncomputable def NVl (lp : Lp) (σ : Sg) : Env AV := { tt := tt, ft := ft, gu := gu, G := 7, F := F2 σ, hv := hvM (F2 σ) tt ztJ slT 7, lp := lp, mt := mtF, sl := slT }
noncomputable abbrev NV (σ : Sg) : Env AV := NVl noLp σ
variable {σ : Sg} {lp : Lp}
theorem okV : TblOk Tryd.prog (NVl lp σ) := tblOk_mt (tblOk 7 (F2 σ) (hvM (F2 σ) tt ztJ slT 7) lp) rfl rfl rfl rfl
theorem lpsV : LpsOk Tryd.prog (NV σ) := fun f fn c _ _ id b _ g hg => by cases hg
theorem hvV : HvOk Tryd.prog (NVl lp σ) := hvM_ok okV slOk ztJ_ok rfl
theorem fnOk_env {N N' : Env AV} (hF : N'.F = N.F) (hG : N'.G = N.G) {f : FuncId} {g : List SV -> Hp AV -> T (SV × Hp AV)} (h : FnOk Tryd.prog N f g) : FnOk Tryd.prog N' f g := fun args H v H' hr ha hC => by
 obtain ⟨h1, h2, h3⟩ := h args H v H' hr ha ⟨hC.1, trivial⟩
 refine ⟨h1, ⟨h2.1, trivial⟩, fun ρ w hO => (h3 ρ w (own_env hF.symm hG.symm hO)).mono ?_⟩
 rintro e w' ⟨ρ', he, o, ev⟩
 exact ⟨ρ', he, own_env hF hG o, evo_env N' ev⟩
abbrev Tab := FuncId -> Option (List SV -> Hp AV -> T (SV × Hp AV))
theorem fnV (hlp : LpsOk Tryd.prog (NVl lp σ)) {tab : Tab} (ht : TabOk Tryd.prog (NVl lp σ) tab) (n : Nat) (f : FuncId) : FnOk Tryd.prog (NVl lp σ) f (lv (NVl lp σ) tab n (.fn f)) := lv_fn okV hlp hvV ht n f
def isS : AV -> Nat -> Bool
 | .sent i, j => Nat.beq i j
 | _, _ => false
theorem isS_ok : ∀ a i, isS a i = true -> a = .sent i := fun a i h => by
 cases a <;> first
  | (have h := (beq_iff _ _).1 h; subst h; rfl)
  | cases h
def hpO (M : List Bool) (l : List AV) : Hp AV := sentL AV.sent 0 M ++ absL l
noncomputable def runO (lp : Lp) (σ : Sg) (tab : Tab) (f : FuncId) (M : List Bool) (args : List SV) (l : List AV) (K : Hp AV) : T (SV × List AV × List AV) :=
 match openH (hpO M l) M.length K with
 | H => match clVs H args, clHs H H with
   | true, true => T.bind (lv (NVl lp σ) tab 14 (.fn f) args H) (closeT (viewV σ) isS M l.length [M.length])
   | _, _ => .fail "run: names"
noncomputable def runN (lp : Lp) (σ : Sg) (tab : Tab) (f : FuncId) (M : List Bool) (args : List SV) (l : List AV) : T (SV × List AV × List AV) :=
 T.bind (lv (NVl lp σ) tab 14 (.fn f) args (hpO M l)) (closeT (viewV σ) isS M l.length [])
theorem hpO_cl (M : List Bool) (l : List AV) : ClHp (NVl lp σ) (hpO M l) := by
 refine ⟨fun n c h => ?_, trivial⟩
 unfold hpO at h
 rw [hget_append] at h
 split at h
 ·rw [((sentL_get _ _ _ _ _).1 h).2]; intro c hc; cases hc
 ·obtain ⟨a, _, rfl⟩ := (absL_get _ _ _).1 h; intro c hc; cases hc
theorem clHs_spec {H : Hp AV} (h : clHs H H = true) : ClHp (NVl lp σ) H := ⟨clHs_iff.1 h, trivial⟩
theorem runO_ok (hlp : LpsOk Tryd.prog (NVl lp σ)) {tab : Tab} (ht : TabOk Tryd.prog (NVl lp σ) tab) {f : FuncId} {M : List Bool} (hM : 7 = M.length) {args : List SV} {a : AV} {l : List AV} {K : Hp AV} (hK : layV a = some K) (hK0 : ∃ c, hget K 0 = some c) (ho : a.okD = true) {v : SV} {l' nw : List AV}
 (hargs : ∀ x ∈ args, ClV (hpO M (a :: l)) x) (h : (runO lp σ tab f M args (a :: l) K).val = some (v, l', nw)) : Ctr Tryd.prog (NVl lp σ) f args (hpO M (a :: l)) v (hpO M (l' ++ nw)) /\ l'.length = (a :: l).length := by
 unfold runO at h
 dsimp only at h
 split at h
 ·rename_i h1 h2
  obtain ⟨⟨v1, H2⟩, hr, hc⟩ := T.bind_some h
  have hn : hget (hpO M (a :: l)) M.length = some (.abs a) := by
   unfold hpO
   rw [hget_append, sentL_len, if_neg (by omega), Nat.sub_self]
   rfl
  have hopn : Opn (NVl lp σ) (hpO M (a :: l)) (openH (hpO M (a :: l)) M.length K) := opn_open (hpO_cl M _) hn hK0 (by show 7 <= M.length; omega) fun l S w hq => (q_obj (N := NVl lp σ) rfl hK ho l S w).1 hq
  have hctr := (fnV hlp ht 14 f).ctr hr (clVs_iff.1 h1) (clHs_spec h2)
  refine closeT_ok (N := NVl lp σ) (viewV_ok rfl) isS_ok hM hargs hopn (fun m c h => ?_) hctr hc
  have hlt := hget_lt hn
  have h : hget (hpO M (a :: l)) m = some c := h
  rw [hget_open hlt (by rintro rfl; obtain ⟨c, hc⟩ := hK0; cases hc)]
  by_cases e : m = M.length
  ·obtain ⟨c0, hc0⟩ := hK0
   rw [if_pos e, hc0]; exact ⟨_, rfl⟩
  ·rw [if_neg e, if_pos (hget_lt h)]; exact ⟨c, h⟩
 ·simp [T.val] at h
theorem runN_ok (hlp : LpsOk Tryd.prog (NVl lp σ)) {tab : Tab} (ht : TabOk Tryd.prog (NVl lp σ) tab) {f : FuncId} {M : List Bool} (hM : 7 = M.length) {args : List SV} {l : List AV} {v : SV} {l' nw : List AV}
 (hargs : ∀ x ∈ args, ClV (hpO M l) x) (h : (runN lp σ tab f M args l).val = some (v, l', nw)) : Ctr Tryd.prog (NVl lp σ) f args (hpO M l) v (hpO M (l' ++ nw)) /\ l'.length = l.length := by
 unfold runN at h
 obtain ⟨⟨v1, H2⟩, hr, hc⟩ := T.bind_some h
 exact closeT_ok (N := NVl lp σ) (viewV_ok rfl) isS_ok hM hargs (Opn.refl _) (fun m c h => ⟨c, h⟩) ((fnV hlp ht 14 f).ctr hr hargs (hpO_cl M l)) hc
end Go.Proofs.YtpapbhbnaalhcaaDoor

namespace Go.Sx
variable {AV : Type} {P : Program}
structure LoopFam (N : Env AV) (cal : Callee AV) (lp : Nat -> Option (St AV -> T (Ex × St AV))) (nt : Nat) (c : Code) (s s' : St AV) (ex : Ex) where
 ι : Type
 fam : ι -> St AV
 ks : List Nat
 μ : ι -> Nat
 i0 : ι
 says : Says nt s.E (fam i0).E
 heap : (fam i0).H = s.H
 step : ∀ i, ∃ ex1 s1, (xc N cal lp nt c (fam i)).val = some (ex1, s1) /\ match ex1 with
  | .normal => ∃ i', μ i' < μ i /\ ({ s1 with E := only ks s1.E nt } : St AV) = fam i'
  | e => e = ex /\ Says nt s1.E s'.E /\ s1.H = s'.H
theorem loopOk_fam {N N' : Env AV} (hF : N'.F = N.F) (hG : N'.G = N.G) (hT : TblOk P N) {cal : Callee AV} (hcal : CalOk P N cal) {lp : Nat -> Option (St AV -> T (Ex × St AV))} {nt : Nat} {c : Code} (hlp : LpOk P N nt c lp)
 {g : St AV -> T (Ex × St AV)} (h : ∀ s s' ex, (g s).val = some (ex, s') -> Nonempty (LoopFam N cal lp nt c s s' ex) /\ s'.H = s.H /\ (Closed N s -> Closed N s')) : LoopOk P N' nt c g := by
 intro L s s' ex hg hcl hL
 obtain ⟨⟨f⟩, hh, hc'⟩ := h s s' ex hg
 obtain ⟨ι, fam, ks, μ, i0, says, heap, step⟩ := f
 have hclN : Closed N s := closed_env N hcl
 refine ⟨closed_env N' (hc' hclN), by rw [hh]; exact hL, fun {ρ a w} hat => ?_⟩
 have hatN : At N nt ρ s a w := ⟨hat.em, own_env hF.symm hG.symm hat.own⟩
 have hat0 : At N nt ρ (fam i0) a w := ⟨says.em hatN.em, by rw [heap]; exact hatN.own⟩
 have hcl0 : Closed N (fam i0) := by
  have := Says.closed (N := N) (N' := N) says hclN
  have e : fam i0 = { E := (fam i0).E, H := s.H } := by rw [<- heap]
  rw [e]; exact this
 refine wp_loop_rounds (μ i0 + 1) (loop_inv hT hcal hlp fam ks μ (fun e s1 => e = ex /\ Says nt s1.E s'.E /\ s1.H = s'.H) (fun i => ?_) L (μ i0 + 1) i0 (by omega) hcl0 (by rw [heap]; exact hL) ρ a w hat0 _ ?_)
 ·obtain ⟨ex1, s1, h1, h2⟩ := step i
  exact ⟨ex1, s1, h1, h2⟩
 ·rintro ex1 s1 a' w' ⟨rfl, hs, hH⟩ _ _ ⟨⟨ρ₂, e2, o2, v2⟩, d2⟩
  refine ⟨rfl, ⟨ρ₂, hs.em e2, ?_, ?_⟩, d2⟩
  ·rw [<- hH]; exact own_env hF hG o2
  ·rw [<- hH, <- heap]; exact evo_env N' v2
end Go.Sx
