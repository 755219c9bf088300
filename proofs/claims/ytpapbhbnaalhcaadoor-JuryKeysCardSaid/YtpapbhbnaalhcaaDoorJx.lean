import Derived.Test.YtpapbhbnaalhcaaDoorJo
namespace Go.Proofs.YtpapbhbnaalhcaaDoor
open Go Go.Sx Go.Proofs
set_option linter.unusedVariables false
set_option maxRecDepth 100000
abbrev tSearch : Nat := 63
structure FI where
 b : Bool
 rows : List Rw
 ahead : List N1
 done : Int
 set : Int
 dead : List (Int × ByteArray)
 order : List N1
 m : CreedM
structure FR where
 okB : Bool
 mv : Bool
 is : Bool
 dead : List (Int × ByteArray)
 order : List N1
def findM : List Bool := [true, false, false, false, false, false, false]
def findT (fm : FI -> FR) (args : List SV) (l : List (Chunk AV)) : T (SV × List (Chunk AV) × List (Chunk AV)) := match args, l with
 | [.v (.c (.ptr 7 0)), .v (.c s), .v (.c (.ptr 8 0))], [.cells [.vs 9 0 rl 10 false, .vs 10 0 al 1 false, .it .i64 done, .mp (some 11), .vs 12 0 ol 1 false] ty, .abs c, .abs (.rowsB b rows), .abs (.ints a), .abs (.mpS d), .abs (.ints o)] =>
   match Nat.beq ty tSearch, iOf s, creedY c with
   | true, some set, some (m, cb) =>
     .need cb (.need (decide (rl = rows.length /\ al = a.length /\ ol = o.length)) (.need (fm ⟨b, rows, a, done, set, d, o, m⟩).okB (.ite (fm ⟨b, rows, a, done, set, d, o, m⟩).mv
      (.leaf (.v (.c (.bt (fm ⟨b, rows, a, done, set, d, o, m⟩).is)),
        [.cells [.vs 9 0 rl 10 false, .vs 10 0 al 1 false, .it .i64 done, .mp (some 11), .vs 13 0 (fm ⟨b, rows, a, done, set, d, o, m⟩).order.length 1 false] tSearch, .abs (creedV m), .abs (.rowsB b rows), .abs (.ints a), .abs (.mpS (fm ⟨b, rows, a, done, set, d, o, m⟩).dead), .dead],
        [.abs (.ints (fm ⟨b, rows, a, done, set, d, o, m⟩).order)]))
      (.leaf (.v (.c (.bt (fm ⟨b, rows, a, done, set, d, o, m⟩).is)),
        [.cells [.vs 9 0 rl 10 false, .vs 10 0 al 1 false, .it .i64 done, .mp (some 11), .vs 12 0 (fm ⟨b, rows, a, done, set, d, o, m⟩).order.length 1 false] tSearch, .abs (creedV m), .abs (.rowsB b rows), .abs (.ints a), .abs (.mpS (fm ⟨b, rows, a, done, set, d, o, m⟩).dead), .abs (.ints (fm ⟨b, rows, a, done, set, d, o, m⟩).order)],
        [])))))
   | _, _, _ => .fail "find"
 | _, _ => .fail "find"
noncomputable def tabX (fm : FI -> FR) : Tab := tabAdd 20 (sumC isS findM (findT fm)) (tabAdd 37 (sumG isS contM contS) (tabAdd 38 (sumG isS noM dupY) (tabAdd 33 (sumG isS fitM perfS) fun _ => none)))
def hpC (M : List Bool) (l : List (Chunk AV)) : Hp AV := sentL AV.sent 0 M ++ chL l
def srcC (x : FI) : List (Chunk AV) := [.cells [.vs 9 0 x.rows.length 10 false, .vs 10 0 x.ahead.length 1 false, .it .i64 x.done, .mp (some 11), .vs 12 0 x.order.length 1 false] tSearch, .abs (creedV x.m), .abs (.rowsB x.b x.rows), .abs (.ints x.ahead), .abs (.mpS x.dead), .abs (.ints x.order)]
def ksX : List Nat := [0, 1, 2, 6, 7, 41, 42, 43]
def ordH (sh : Bool) (ol : Nat) (o : List N1) (x : FI) (rl al : Nat) (d : List (Int × ByteArray)) (txt : ByteArray) : List (Chunk AV) := match sh with
 | false => [.cells [.vs 9 0 rl 10 false, .vs 10 0 al 1 false, .it .i64 x.done, .mp (some 11), .vs 12 0 ol 1 false] tSearch, .abs (creedV x.m), .abs (.rowsB x.b x.rows), .abs (.ints x.ahead), .abs (.mpS d), .abs (.ints o), .cells [.it .i64 x.set, .sv txt] 104, .cells [] 105]
 | true => [.cells [.vs 9 0 rl 10 false, .vs 10 0 al 1 false, .it .i64 x.done, .mp (some 11), .vs 15 0 ol 1 false] tSearch, .abs (creedV x.m), .abs (.rowsB x.b x.rows), .abs (.ints x.ahead), .abs (.mpS d), .dead, .cells [.it .i64 x.set, .sv txt] 104, .cells [] 105, .abs (.ints o)]
def famX (x : FI) (txt : ByteArray) (rl al : Nat) (i : Int) (ol : Nat) (o : List N1) (d : List (Int × ByteArray)) (sh ret : Bool) : St AV :=
 { E := only ksX [(0, .v (.c (.ptr 7 0))), (1, .v (.c (.it .i64 x.set))), (2, .v (.c (.ptr 8 0))), (6, .v (.c (.bl ret))), (7, .v (.c (.ptr 13 0))), (41, .v (.c (.vs 9 0 rl 10 false))), (42, .v (.c (.it .i64 rl))), (43, .v (.c (.it .i64 i)))] 115, H := hpC findM (ordH sh ol o x rl al d txt) }
noncomputable def LX : Code := loopAt 8 (loopsOf (bodyOf Tryd.f20))
def rowX (x : FI) (i : Int) : Rw := x.rows.getD (0 + i.toNat) krows.dflt
noncomputable def nextX (x : FI) (i : Int) (o : List N1) (d : List (Int × ByteArray)) : FI := ⟨x.b, x.rows, x.ahead, x.done, bitI .or .i64 x.set (shI .shl .i64 1 i), d, o ++ [⟨i⟩], (perfM x.m (rowX x i)).2⟩
def tstX (x : FI) (i : Int) : Bool := (bitI .and .i64 (shI .shr .i64 x.set i) 1 == 1) == false
def needX (x : FI) (al : Nat) (i : Int) : Bool := match decide (0 <= i) with
 | true => match tstX x i with
   | true => match decide (0 <= i /\ i < (al : Int)) with
     | true => decide (0 + i.toNat < x.ahead.length)
     | false => false
   | false => true
 | false => false
def skipX (x : FI) (i : Int) : Bool := match tstX x i with
 | true => bitI .andNot .i64 (x.ahead.getD (0 + i.toNat) kints.dflt).val x.set != 0
 | false => true
noncomputable def lastX (fm : FI -> FR) (x : FI) (txt : ByteArray) (rl al : Nat) (i : Int) (o : List N1) (d : List (Int × ByteArray)) : T (Ex × St AV) :=
 .ite (fm (nextX x i o d)).is (.leaf (.ret, famX x txt rl al i (fm (nextX x i o d)).order.length (fm (nextX x i o d)).order (fm (nextX x i o d)).dead true true))
            (.need (decide ((0 : Int) <= 0 /\ 0 <= IntKind.wrap .i64 (((fm (nextX x i o d)).order.length : Int) - 1) /\ IntKind.wrap .i64 (((fm (nextX x i o d)).order.length : Int) - 1) <= ((fm (nextX x i o d)).order.length : Int) /\ (fm (nextX x i o d)).order.length = (fm (nextX x i o d)).order.length))
              (.leaf (.normal, famX x txt rl al (IntKind.wrap .i64 (i + 1)) ((IntKind.wrap .i64 (((fm (nextX x i o d)).order.length : Int) - 1)).toNat - 0) ((fm (nextX x i o d)).order.take (IntKind.wrap .i64 (((fm (nextX x i o d)).order.length : Int) - 1)).toNat) (fm (nextX x i o d)).dead true false)))
noncomputable def treeX (fm : FI -> FR) (x : FI) (txt : ByteArray) (rl al : Nat) (i : Int) (ol : Nat) (o : List N1) (d : List (Int × ByteArray)) (sh : Bool) : T (Ex × St AV) :=
 .ite (decide (i < (rl : Int))) (.need (decide (0 <= i /\ i < (rl : Int))) (.need (decide (0 + i.toNat < x.rows.length)) (.need (needX x al i)
  (.ite (skipX x i) (.leaf (.normal, famX x txt rl al (IntKind.wrap .i64 (i + 1)) ol o d sh false))
    (.need (decide (x.m.vals.length = x.m.vals.length /\ x.m.pairs.length = x.m.pairs.length)) (.need x.m.sm (.need (decide (x.m.vals.length = x.m.vals.length /\ x.m.pairs.length = x.m.pairs.length)) (.need x.m.sm
      (.ite (!(perfM x.m (rowX x i)).1) (.leaf (.normal, famX x txt rl al (IntKind.wrap .i64 (i + 1)) ol o d sh false))
        (.need (decide (ol = o.length /\ (ol + 1) * (SI.bytes si39 + 1) <= lim)) (.need (decide (0 <= i))
          (.need (decide ((perfM x.m (rowX x i)).2.vals.length = (perfM x.m (rowX x i)).2.vals.length /\ (perfM x.m (rowX x i)).2.pairs.length = (perfM x.m (rowX x i)).2.pairs.length))
          (.need (decide (rl = x.rows.length /\ al = x.ahead.length /\ ol + 1 = (o ++ [⟨i⟩] : List N1).length)) (.need (fm (nextX x i o d)).okB
            (.ite (fm (nextX x i o d)).mv (lastX fm x txt rl al i o d) (lastX fm x txt rl al i o d))))))))))))))))
  (.leaf (.exit 0, famX x txt rl al i ol o d sh false))
theorem xR0 (σ : Sg) (fm : FI -> FR) (x : FI) (txt : ByteArray) (rl al : Nat) (i : Int) (ol : Nat) (o : List N1) (d : List (Int × ByteArray)) : (xc (NV σ) (joinCal (lv (NV σ) (tabX fm) 5)) (fun _ => none) 115 LX (famX x txt rl al i ol o d false false)).bind (backS 15 115 ksX pkJ) =
 treeX fm x txt rl al i ol o d false := by kernel_rfl
theorem xR1 (σ : Sg) (fm : FI -> FR) (x : FI) (txt : ByteArray) (rl al : Nat) (i : Int) (ol : Nat) (o : List N1) (d : List (Int × ByteArray)) : (xc (NV σ) (joinCal (lv (NV σ) (tabX fm) 5)) (fun _ => none) 115 LX (famX x txt rl al i ol o d true false)).bind (backS 15 115 ksX pkJ) =
 treeX fm x txt rl al i ol o d true := by kernel_rfl
structure MX where
 i : Nat
 d : List (Int × ByteArray)
 o : List N1
 sh : Bool
 ret : Bool
def famXM (x : FI) (txt : ByteArray) (m : MX) : St AV := famX x txt x.rows.length x.ahead.length m.i m.o.length m.o m.d m.sh m.ret
noncomputable def stepX (fm : FI -> FR) (x : FI) (m : MX) : T (Ex × MX) :=
 .need (decide (m.i <= x.rows.length /\ x.rows.length <= 1000 /\ x.ahead.length = x.rows.length /\ m.o.length <= 1000 /\ m.ret = false))
 (match Nat.blt m.i x.rows.length with
 | false => .leaf (.exit 0, m)
 | true => match skipX x m.i with
   | true => .leaf (.normal, ⟨m.i + 1, m.d, m.o, m.sh, false⟩)
   | false => .need x.m.sm (match (perfM x.m (rowX x m.i)).1 with
     | false => .leaf (.normal, ⟨m.i + 1, m.d, m.o, m.sh, false⟩)
     | true => .need (fm (nextX x m.i m.o m.d)).okB (match (fm (nextX x m.i m.o m.d)).is with
       | true => .leaf (.ret, ⟨m.i, (fm (nextX x m.i m.o m.d)).dead, (fm (nextX x m.i m.o m.d)).order, true, true⟩)
       | false => .need (decide (1 <= (fm (nextX x m.i m.o m.d)).order.length /\ (fm (nextX x m.i m.o m.d)).order.length <= 1000))
         (.leaf (.normal, ⟨m.i + 1, (fm (nextX x m.i m.o m.d)).dead, (fm (nextX x m.i m.o m.d)).order.take ((fm (nextX x m.i m.o m.d)).order.length - 1), true, false⟩)))))
theorem wrapP {n : Nat} (h1 : 1 <= n) (h : n <= 1000) : IntKind.wrap .i64 ((n : Int) - 1) = ((n - 1 : Nat) : Int) := by rw [wrap_in (by omega)]; omega
theorem nv {α : Type} {b : Bool} {t : T α} (h : b = true) : (T.need b t).val = t.val := by subst h; rfl
theorem ivT {α : Type} {c : Bool} {t u : T α} (h : c = true) : (T.ite c t u).val = t.val := by subst h; rfl
theorem ivF {α : Type} {c : Bool} {t u : T α} (h : c = false) : (T.ite c t u).val = u.val := by subst h; rfl
theorem stepX_run (σ : Sg) (fm : FI -> FR) (x : FI) (txt : ByteArray) (m : MX) (r : Ex × MX) (h : (stepX fm x m).val = some r) :
 ((xc (NV σ) (joinCal (lv (NV σ) (tabX fm) 5)) (fun _ => none) 115 LX (famXM x txt m)).bind (backS 15 115 ksX pkJ)).val = some (r.1, famXM x txt r.2) := by
 replace h := need_some h
 obtain ⟨hb, h⟩ := h
 obtain ⟨h1, h2, h3, h4, h5⟩ := of_decide_eq_true hb
 obtain ⟨i, d, o, sh, ret⟩ := m
 simp only at h h1 h2 h3 h4 h5
 subst h5
 have e : ((xc (NV σ) (joinCal (lv (NV σ) (tabX fm) 5)) (fun _ => none) 115 LX (famXM x txt ⟨i, d, o, sh, false⟩)).bind (backS 15 115 ksX pkJ)) = treeX fm x txt x.rows.length x.ahead.length i o.length o d sh := by
  cases sh with
  | false => exact xR0 σ fm x txt _ _ i _ o d
  | true => exact xR1 σ fm x txt _ _ i _ o d
 rw [e]
 unfold treeX
 cases hlt : Nat.blt i x.rows.length with
 | false =>
   rw [hlt] at h
   simp only [T.val, Option.some.injEq] at h
   subst h
   have hlt : ¬ i < x.rows.length := fun hh => by rw [Eq.mpr Nat.blt_eq hh] at hlt; cases hlt
   have d1 : decide ((i : Int) < (x.rows.length : Int)) = false := decide_eq_false (by omega)
   simp only [T.val, d1]
   rfl
 | true =>
   rw [hlt] at h
   have hlt : i < x.rows.length := Eq.mp Nat.blt_eq hlt
   have d1 : decide ((i : Int) < (x.rows.length : Int)) = true := decide_eq_true (by omega)
   have d2 : decide (0 <= (i : Int) /\ (i : Int) < (x.rows.length : Int)) = true := decide_eq_true (by omega)
   have d3 : decide (0 + (i : Int).toNat < x.rows.length) = true := decide_eq_true (by omega)
   have d4 : needX x x.ahead.length i = true := by
    unfold needX
    rw [decide_eq_true (show 0 <= (i : Int) by omega)]
    cases tstX x i with
    | false => rfl
    | true => simp only [decide_eq_true (show 0 <= (i : Int) /\ (i : Int) < (x.ahead.length : Int) by omega), decide_eq_true (show 0 + (i : Int).toNat < x.ahead.length by omega)]
   have d0 : decide (0 <= (i : Int)) = true := decide_eq_true (by omega)
   have hw : IntKind.wrap .i64 ((i : Int) + 1) = ((i + 1 : Nat) : Int) := wrapS (by omega)
   rw [ivT d1, nv d2, nv d3, nv d4]
   cases hs : skipX x i with
   | true =>
     rw [hs] at h
     simp only [T.val, Option.some.injEq] at h
     subst h
     rw [ivT rfl]
     simp only [T.val, hw]
     rfl
   | false =>
     rw [hs] at h
     simp only at h
     replace h := need_some h
     obtain ⟨hsm, h⟩ := h
     have t1 : decide (x.m.vals.length = x.m.vals.length /\ x.m.pairs.length = x.m.pairs.length) = true := decide_eq_true ⟨rfl, rfl⟩
     rw [ivF rfl, nv t1, nv hsm, nv t1, nv hsm]
     cases hp : (perfM x.m (rowX x i)).1 with
     | false =>
       rw [hp] at h
       simp only [T.val, Option.some.injEq] at h
       subst h
       rw [ivT (c := !false) rfl]
       simp only [T.val, hw]
       rfl
     | true =>
       rw [hp] at h
       simp only at h
       replace h := need_some h
       obtain ⟨hok, h⟩ := h
       have t2 : decide (o.length = o.length /\ (o.length + 1) * (SI.bytes si39 + 1) <= lim) = true := decide_eq_true ⟨rfl, by simp only [si39, lim]; omega⟩
       have t3 : decide ((perfM x.m (rowX x i)).2.vals.length = (perfM x.m (rowX x i)).2.vals.length /\ (perfM x.m (rowX x i)).2.pairs.length = (perfM x.m (rowX x i)).2.pairs.length) = true := decide_eq_true ⟨rfl, rfl⟩
       have t4 : decide (x.rows.length = x.rows.length /\ x.ahead.length = x.ahead.length /\ o.length + 1 = (o ++ [⟨(i : Int)⟩] : List N1).length) = true := decide_eq_true ⟨rfl, rfl, by simp⟩
       rw [ivF (c := !true) rfl, nv t2, nv d0, nv t3, nv t4, nv hok]
       have hl : (lastX fm x txt x.rows.length x.ahead.length i o d).val = some (r.1, famXM x txt r.2) := by
        unfold lastX
        cases hi : (fm (nextX x i o d)).is with
        | true =>
          rw [hi] at h
          simp only [T.val, Option.some.injEq] at h
          subst h
          rw [ivT rfl]
          rfl
        | false =>
          rw [hi] at h
          simp only at h
          replace h := need_some h
          obtain ⟨hb2, h⟩ := h
          obtain ⟨q1, q2⟩ := of_decide_eq_true hb2
          simp only [T.val, Option.some.injEq] at h
          subst h
          have hw2 := wrapP q1 q2
          have t5 : decide ((0 : Int) <= 0 /\ 0 <= IntKind.wrap .i64 (((fm (nextX x i o d)).order.length : Int) - 1) /\ IntKind.wrap .i64 (((fm (nextX x i o d)).order.length : Int) - 1) <= ((fm (nextX x i o d)).order.length : Int) /\ (fm (nextX x i o d)).order.length = (fm (nextX x i o d)).order.length) = true := by
           rw [hw2]; exact decide_eq_true ⟨by omega, by omega, by omega, rfl⟩
          rw [ivF rfl, nv t5]
          simp only [T.val, hw, hw2, Int.toNat_natCast, Nat.sub_zero]
          unfold famXM
          simp only [List.length_take, Nat.min_eq_left (Nat.sub_le _ 1)]
       cases hm : (fm (nextX x i o d)).mv with
       | true => rw [ivT rfl]; exact hl
       | false => rw [ivF rfl]; exact hl
noncomputable def runX (fm : FI -> FR) (x : FI) : Option (Ex × MX) := iter (stepX fm x) (x.rows.length + 1) ⟨0, x.dead, x.order, false, false⟩
noncomputable def okX (fm : FI -> FR) (x : FI) : Bool := match runX fm x with
 | some (.ret, m) => m.ret && m.sh
 | some (.exit 0, m) => !m.ret
 | _ => false
noncomputable def endX (fm : FI -> FR) (x : FI) : MX := match runX fm x with
 | some (_, m) => m
 | none => ⟨0, [], [], false, false⟩
def gXg (ok : FI -> Bool) (en : FI -> MX) (s : St AV) : T (Ex × St AV) := match s.H with
 | [some (.abs (.sent 0)), none, none, none, none, none, none, some (.cells [.vs 9 0 rl 10 false, .vs 10 0 al 1 false, .it .i64 done, .mp (some 11), .vs 12 0 ol 1 false] ty), some (.abs c), some (.abs (.rowsB b rows)), some (.abs (.ints a)), some (.abs (.mpS d)), some (.abs (.ints o)),
     some (.cells [.it .i64 set, .sv txt] 104), some (.cells [] 105)] =>
   match Sx.look s.E 0, Sx.look s.E 1, Sx.look s.E 2, Sx.look s.E 6, Sx.look s.E 7, Sx.look s.E 41, Sx.look s.E 42, Sx.look s.E 43, creedY c, Nat.beq ty tSearch with
   | .v (.c (.ptr 7 0)), .v (.c (.it .i64 set')), .v (.c (.ptr 8 0)), .v (.c (.bl false)), .v (.c (.ptr 13 0)), .v (.c (.vs 9 0 rl' 10 false)), .v (.c (.it .i64 n')), .v (.c (.il .i64 0)), some (m, cb), true =>
     .need cb (.need (decide (set' = set /\ rl = rows.length /\ al = a.length /\ ol = o.length /\ rl' = rows.length /\ n' = (rows.length : Int)))
      (.need (ok ⟨b, rows, a, done, set, d, o, m⟩) (.ite (en ⟨b, rows, a, done, set, d, o, m⟩).ret
        (.leaf (.ret, famX ⟨b, rows, a, done, set, d, o, m⟩ txt rows.length a.length (en ⟨b, rows, a, done, set, d, o, m⟩).i (en ⟨b, rows, a, done, set, d, o, m⟩).o.length (en ⟨b, rows, a, done, set, d, o, m⟩).o (en ⟨b, rows, a, done, set, d, o, m⟩).d true true))
        (.ite (en ⟨b, rows, a, done, set, d, o, m⟩).sh
          (.leaf (.exit 0, famX ⟨b, rows, a, done, set, d, o, m⟩ txt rows.length a.length (en ⟨b, rows, a, done, set, d, o, m⟩).i (en ⟨b, rows, a, done, set, d, o, m⟩).o.length (en ⟨b, rows, a, done, set, d, o, m⟩).o (en ⟨b, rows, a, done, set, d, o, m⟩).d true false))
          (.leaf (.exit 0, famX ⟨b, rows, a, done, set, d, o, m⟩ txt rows.length a.length (en ⟨b, rows, a, done, set, d, o, m⟩).i (en ⟨b, rows, a, done, set, d, o, m⟩).o.length (en ⟨b, rows, a, done, set, d, o, m⟩).o (en ⟨b, rows, a, done, set, d, o, m⟩).d false false))))))
   | _, _, _, _, _, _, _, _, _, _ => .fail "find: loop"
 | _ => .fail "find: loop"
noncomputable def gX (fm : FI -> FR) : St AV -> T (Ex × St AV) := gXg (okX fm) (endX fm)
theorem gX_ok {σ : Sg} {fm : FI -> FR} (ht : TabOk Tryd.prog (NV σ) (tabX fm)) {N' : Env AV} (hF : N'.F = (NV σ).F) (hG : N'.G = (NV σ).G) : LoopOk Tryd.prog N' 115 LX (gX fm) := by
 have hcal : CalOk Tryd.prog (NV σ) (joinCal (lv (NV σ) (tabX fm) 5)) := joinCal_ok (lv_ok okV lpsV hvV ht 5)
 refine loopOk_it (N := NV σ) hF hG okV hcal (lp := fun _ => none) (fun _ _ _ g hg => by cases hg) fun s s' ex hgs => ?_
 obtain ⟨E1, H1⟩ := s
 unfold gX gXg at hgs
 split at hgs
 ·rename_i rl al done ol ty c b rows a d o set txt hs
  simp only at hs
  subst hs
  split at hgs
  ·rename_i set' rl' n' m cb e0 e1 e2 e6 e7 e41 e42 e43 ec et
   have et := (beq_iff _ _).1 et
   subst et
   replace hgs := need_some hgs
   obtain ⟨hcb, hgs⟩ := hgs
   subst hcb
   have hc := creedY_spec ec
   subst hc
   replace hgs := need_some hgs
   obtain ⟨hb, hgs⟩ := hgs
   obtain ⟨rfl, rfl, rfl, rfl, rfl, rfl⟩ := of_decide_eq_true hb
   replace hgs := need_some hgs
   obtain ⟨hok, hgs⟩ := hgs
   generalize hx : (⟨b, rows, a, done, set', d, o, m⟩ : FI) = x at hok hgs
   have hgo : ∃ m', runX fm x = some (ex, m') /\ famXM x txt m' = s' := by
    unfold okX at hok
    unfold endX at hgs
    split at hok
    ·rename_i m' hr
     rw [hr] at hgs
     simp only [Bool.and_eq_true] at hok
     obtain ⟨k1, k2⟩ := hok
     simp only [T.val, k1, Option.some.injEq, Prod.mk.injEq] at hgs
     obtain ⟨rfl, rfl⟩ := hgs
     refine ⟨m', hr, ?_⟩
     unfold famXM
     rw [k1, k2, <- hx]
    ·rename_i m' hr
     rw [hr] at hgs
     simp only [Bool.not_eq_true'] at hok
     simp only [T.val, hok] at hgs
     cases hsh : m'.sh with
     | true =>
       simp only [hsh, Option.some.injEq, Prod.mk.injEq] at hgs
       obtain ⟨rfl, rfl⟩ := hgs
       refine ⟨m', hr, ?_⟩
       unfold famXM
       rw [hok, hsh, <- hx]
     | false =>
       simp only [hsh, Option.some.injEq, Prod.mk.injEq] at hgs
       obtain ⟨rfl, rfl⟩ := hgs
       refine ⟨m', hr, ?_⟩
       unfold famXM
       rw [hok, hsh, <- hx]
    ·cases hok
   obtain ⟨m', hr, rfl⟩ := hgo
   refine ⟨{ M := MX, fam := famXM x txt, step := stepX fm x, ks := ksX, pk := pkJ, hpk := pkJ_ok, L := 15, len := rfl, hGL := (by show 7 <= 15; decide), run := stepX_run σ fm x txt, m := ⟨0, x.dead, x.order, false, false⟩, k := x.rows.length + 1, m' := m', ent := ?_, it := hr, fin := rfl }⟩
   subst hx
   refine enter_only (N := NV σ) (s := ⟨E1, _⟩) (l := []) (fun a ha => by cases ha) (by show 7 <= 15; decide) fun k hk => ?_
   simp only [ksX, List.mem_cons, List.not_mem_nil, or_false] at hk
   rcases hk with rfl | rfl | rfl | rfl | rfl | rfl | rfl | rfl
   ·exact .inl e0.symm
   ·exact .inl e1.symm
   ·exact .inl e2.symm
   ·exact .inl e6.symm
   ·exact .inl e7.symm
   ·exact .inl e41.symm
   ·exact .inl e42.symm
   ·exact .inr (.inl (sayIl e43))
  ·simp [T.val] at hgs
 ·simp [T.val] at hgs
def lpXg (ok : FI -> Bool) (en : FI -> MX) : Lp := lpAdd 20 8 (gXg ok en) noLp
noncomputable def lpX (fm : FI -> FR) : Lp := lpXg (okX fm) (endX fm)
theorem lpX_ok {σ : Sg} {fm : FI -> FR} (ht : TabOk Tryd.prog (NV σ) (tabX fm)) : LpsOk Tryd.prog (NVl (lpX fm) σ) := lpsAdd lpsV (fn := Tryd.f20) (by kernel_rfl) (c := bodyOf Tryd.f20) (by kernel_rfl) (nt := 115) (by kernel_rfl) (b := LX) (oneLoop_spec (by kernel_rfl)) (gX_ok ht rfl rfl)
end Go.Proofs.YtpapbhbnaalhcaaDoor

namespace Go.Proofs.YtpapbhbnaalhcaaDoor
open Go Go.Sx Go.Proofs
set_option linter.unusedVariables false
set_option maxRecDepth 100000
noncomputable def findR (σ : Sg) (fm : FI -> FR) (ok : FI -> Bool) (en : FI -> MX) (x : FI) : T (Ex × St AV) :=
 (runF (NVl (lpXg ok en) σ) (joinCal (lv (NVl (lpXg ok en) σ) (tabX fm) 8)) 20 [.v (.c (.ptr 7 0)), .v (.c (.it .i64 x.set)), .v (.c (.ptr 8 0))] (hpC findM (srcC x))).bind fun r => backS 13 1 [0] pkJ (stV r)
def outX (x : FI) (mv : Bool) (d : List (Int × ByteArray)) (o : List N1) : List (Chunk AV) := match mv with
 | true => [.cells [.vs 9 0 x.rows.length 10 false, .vs 10 0 x.ahead.length 1 false, .it .i64 x.done, .mp (some 11), .vs 13 0 o.length 1 false] tSearch, .abs (creedV x.m), .abs (.rowsB x.b x.rows), .abs (.ints x.ahead), .abs (.mpS d), .dead, .abs (.ints o)]
 | false => [.cells [.vs 9 0 x.rows.length 10 false, .vs 10 0 x.ahead.length 1 false, .it .i64 x.done, .mp (some 11), .vs 12 0 o.length 1 false] tSearch, .abs (creedV x.m), .abs (.rowsB x.b x.rows), .abs (.ints x.ahead), .abs (.mpS d), .abs (.ints o)]
def leafX (b : Bool) (l : List (Chunk AV)) : T (Ex × St AV) := .leaf (stV (.v (.c (.bl b)), hpC findM l))
def restX (x : FI) (mv : Bool) (d : List (Int × ByteArray)) (o : List N1) : T (Ex × St AV) :=
 .ite (decide ((d.length : Int) < 524288)) (leafX false (outX x mv (ptS x.set (ctext x.m) d) o)) (leafX false (outX x mv d o))
def ftreeX (ok : FI -> Bool) (en : FI -> MX) (x : FI) : T (Ex × St AV) :=
 .ite (bitI .and .i64 x.set x.done == x.done) (leafX true (outX x false x.dead x.order))
  (.need (decide (x.m.vals.length = x.m.vals.length /\ x.m.pairs.length = x.m.pairs.length)) (.need (contOk x.m)
    (.ite (x.dead.any (eqS x.set (ctext x.m))) (leafX false (outX x false x.dead x.order))
      (.need (decide (x.m.vals.length = x.m.vals.length /\ x.m.pairs.length = x.m.pairs.length)) (.need (decide (x.set = x.set /\ x.rows.length = x.rows.length /\ x.ahead.length = x.ahead.length /\ x.order.length = x.order.length /\ x.rows.length = x.rows.length /\ (x.rows.length : Int) = (x.rows.length : Int)))
        (.need (ok x) (.ite (en x).ret (leafX true (outX x true (en x).d (en x).o)) (.ite (en x).sh (restX x true (en x).d (en x).o) (restX x false (en x).d (en x).o)))))))))
theorem fR (σ : Sg) (fm : FI -> FR) (ok : FI -> Bool) (en : FI -> MX) (x : FI) : findR σ fm ok en x =
 ftreeX ok en x := by kernel_rfl
def putD (x : FI) (d : List (Int × ByteArray)) : List (Int × ByteArray) := match decide ((d.length : Int) < 524288) with
 | true => ptS x.set (ctext x.m) d
 | false => d
theorem iOf_den {c : Cell} {n : Int} (h : iOf c = some n) (ρ : Nm) : c.den ρ = .int .i64 n := by
 unfold iOf at h
 split at h <;> cases h <;> rfl
def badF : FR := ⟨false, false, false, [], []⟩
noncomputable def fmS (fm : FI -> FR) (x : FI) : FR := match (bitI .and .i64 x.set x.done == x.done : Bool) with
 | true => ⟨true, false, true, x.dead, x.order⟩
 | false => match contOk x.m with
   | false => badF
   | true => match x.dead.any (eqS x.set (ctext x.m)) with
     | true => ⟨true, false, false, x.dead, x.order⟩
     | false => match okX fm x with
       | false => badF
       | true => ⟨true, match (endX fm x).ret with | true => true | false => (endX fm x).sh, (endX fm x).ret,
          match (endX fm x).ret with | true => (endX fm x).d | false => putD x (endX fm x).d,
          (endX fm x).o⟩
theorem ftree_val (fm : FI -> FR) (x : FI) (h : (fmS fm x).okB = true) :
 (ftreeX (okX fm) (endX fm) x).val = some (stV (.v (.c (.bl (fmS fm x).is)), hpC findM (outX x (fmS fm x).mv (fmS fm x).dead (fmS fm x).order))) := by
 unfold ftreeX
 unfold fmS at h ⊢
 have t1 : decide (x.m.vals.length = x.m.vals.length /\ x.m.pairs.length = x.m.pairs.length) = true := decide_eq_true ⟨rfl, rfl⟩
 have t2 : decide (x.set = x.set /\ x.rows.length = x.rows.length /\ x.ahead.length = x.ahead.length /\ x.order.length = x.order.length /\ x.rows.length = x.rows.length /\ (x.rows.length : Int) = (x.rows.length : Int)) = true := decide_eq_true ⟨rfl, rfl, rfl, rfl, rfl, rfl⟩
 cases h1 : (bitI .and .i64 x.set x.done == x.done : Bool) with
 | true => rw [ivT rfl]; rfl
 | false =>
   rw [h1] at h
   rw [ivF rfl, nv t1]
   cases h2 : contOk x.m with
   | false => rw [h2] at h; cases h
   | true =>
     rw [h2] at h
     rw [nv rfl]
     cases h3 : x.dead.any (eqS x.set (ctext x.m)) with
     | true => rw [ivT rfl]; rfl
     | false =>
       rw [h3] at h
       rw [ivF rfl, nv t1, nv t2]
       cases h4 : okX fm x with
       | false => rw [h4] at h; cases h
       | true =>
         rw [nv rfl]
         cases h5 : (endX fm x).ret with
         | true => rw [ivT rfl]; rfl
         | false =>
           rw [ivF rfl]
           have rest : ∀ sh, (restX x sh (endX fm x).d (endX fm x).o).val = some (stV (.v (.c (.bl false)), hpC findM (outX x sh (putD x (endX fm x).d) (endX fm x).o))) := fun sh => by
            unfold restX putD
            generalize decide (((endX fm x).d.length : Int) < 524288) = q
            cases q with
            | true => rfl
            | false => rfl
           cases h6 : (endX fm x).sh with
           | true => rw [ivT rfl]; dsimp only; exact rest true
           | false => rw [ivF rfl]; dsimp only; exact rest false
theorem tabX_ok {σ : Sg} (hcont : FnOk Tryd.prog (NV σ) 37 (sumG isS contM contS)) {fm : FI -> FR} (h : FnOk Tryd.prog (NV σ) 20 (sumC isS findM (findT fm))) : TabOk Tryd.prog (NV σ) (tabX fm) :=
 tabAdd_ok (lp := noLp) h (tabAdd_ok (lp := noLp) hcont (tabAdd_ok (lp := noLp) dupY_ok (tabAdd_ok (lp := noLp) perfS_ok fun f g h => by cases h)))
theorem find_ctr {σ : Sg} (hcont : FnOk Tryd.prog (NV σ) 37 (sumG isS contM contS)) {fm : FI -> FR} (h : FnOk Tryd.prog (NV σ) 20 (sumC isS findM (findT fm))) (x : FI) (hC : ClHp (NV σ) (hpC findM (srcC x))) (hok : (fmS fm x).okB = true) :
 Ctr Tryd.prog (NV σ) 20 [.v (.c (.ptr 7 0)), .v (.c (.it .i64 x.set)), .v (.c (.ptr 8 0))] (hpC findM (srcC x)) (.v (.c (.bt (fmS fm x).is))) (hpC findM (outX x (fmS fm x).mv (fmS fm x).dead (fmS fm x).order)) := by
 have ht := tabX_ok hcont h
 have hC' : ClHp (NVl (lpX fm) σ) (hpC findM (srcC x)) := hC
 have hr := fR σ fm (okX fm) (endX fm) x
 have hv := ftree_val fm x hok
 rw [<- hr] at hv
 unfold findR at hv
 obtain ⟨⟨v2, H2⟩, hrun, hback⟩ := T.bind_some hv
 have hcal : CalOk Tryd.prog (NVl (lpX fm) σ) (joinCal (lv (NVl (lpX fm) σ) (tabX fm) 8)) := joinCal_ok (lv_ok okV (lpX_ok ht) hvV (tabOk_lp (lp := noLp) ht) 8)
 have hctr := (runF_ok okV (lpX_ok ht) hcal 20).ctr hrun (fun y hy => by
  simp only [List.mem_cons, List.not_mem_nil, or_false] at hy
  rcases hy with rfl | rfl | rfl
  ·exact cl_ptr (x := .cells [.vs 9 0 x.rows.length 10 false, .vs 10 0 x.ahead.length 1 false, .it .i64 x.done, .mp (some 11), .vs 12 0 x.order.length 1 false] tSearch) rfl
  ·exact cl_it _
  ·exact cl_ptr (x := .abs (creedV x.m)) rfl) hC'
 have hctr2 := ctr_back (L := 13) (N := NVl (lpX fm) σ) rfl (by show 7 <= 13; decide) hctr (pk := pkJ) pkJ_ok (v' := .v (.c (.bl (fmS fm x).is))) (by intro h; cases h) hback
 have fin := ctr_val (v' := .v (.c (.bt (fmS fm x).is))) hctr2 (cl_plain rfl) fun ρ => rfl
 refine ⟨fin.1, fin.2.1, fun ρ w hO => (fin.2.2 ρ w (own_env (N := NV σ) (N' := NVl (lpX fm) σ) rfl rfl hO)).mono ?_⟩
 rintro e w' ⟨ρ', he, o, ev⟩
 exact ⟨ρ', he, own_env (N := NVl (lpX fm) σ) (N' := NV σ) rfl rfl o, evo_env (NV σ) ev⟩
theorem find_step {σ : Sg} (hcont : FnOk Tryd.prog (NV σ) 37 (sumG isS contM contS)) {fm : FI -> FR} (h : FnOk Tryd.prog (NV σ) 20 (sumC isS findM (findT fm))) : FnOk Tryd.prog (NV σ) 20 (sumC isS findM (findT (fmS fm))) := by
 refine sumC_ok isS_ok rfl fun args l v l' nw ht hl hargs hC => ?_
 unfold findT at ht
 split at ht
 ·rename_i s rl al done ol ty c b rows a d o
  split at ht
  ·rename_i set m cb h1 h2 h3
   have h1 := (beq_iff _ _).1 h1
   subst h1
   replace ht := need_some ht
   obtain ⟨hcb, ht⟩ := ht
   subst hcb
   have hc := creedY_spec h3
   subst hc
   replace ht := need_some ht
   obtain ⟨hb, ht⟩ := ht
   obtain ⟨rfl, rfl, rfl⟩ := of_decide_eq_true hb
   replace ht := need_some ht
   obtain ⟨hok, ht⟩ := ht
   generalize hx : (⟨b, rows, a, done, set, d, o, m⟩ : FI) = x at hok ht
   have fin := find_ctr hcont h x (by subst hx; exact hC) hok
   have fin : Ctr Tryd.prog (NV σ) 20 [.v (.c (.ptr 7 0)), .v (.c s), .v (.c (.ptr 8 0))] (hpC findM (srcC x)) (.v (.c (.bt (fmS fm x).is))) (hpC findM (outX x (fmS fm x).mv (fmS fm x).dead (fmS fm x).order)) := by
    refine ctr_args fin fun ρ => ?_
    simp only [List.map_cons, List.map_nil, SV.den, V1.den, iOf_den h2, <- hx]
    rfl
   cases hmv : (fmS fm x).mv with
   | true =>
     rw [hmv] at fin
     simp only [T.val, hmv, Option.some.injEq, Prod.mk.injEq] at ht
     obtain ⟨rfl, rfl, rfl⟩ := ht
     subst hx
     exact fin
   | false =>
     rw [hmv] at fin
     simp only [T.val, hmv, Option.some.injEq, Prod.mk.injEq] at ht
     obtain ⟨rfl, rfl, rfl⟩ := ht
     subst hx
     exact fin
  ·simp [T.val] at ht
 ·simp [T.val] at ht
noncomputable def fmK : Nat -> FI -> FR
 | 0 => fun _ => badF
 | k + 1 => fmS (fmK k)
theorem find_ok {σ : Sg} (hcont : FnOk Tryd.prog (NV σ) 37 (sumG isS contM contS)) : ∀ k, FnOk Tryd.prog (NV σ) 20 (sumC isS findM (findT (fmK k)))
 | 0 => by
   refine sumC_ok isS_ok rfl fun args l v l' nw h hl hargs hC => ?_
   exfalso
   unfold findT at h
   split at h
   ·split at h
    ·replace h := need_some h
     obtain ⟨_, h⟩ := h
     replace h := need_some h
     obtain ⟨_, h⟩ := h
     replace h := need_some h
     obtain ⟨hok, _⟩ := h
     cases hok
    ·simp [T.val] at h
   ·simp [T.val] at h
 | k + 1 => find_step hcont (find_ok hcont k)
def outN2 (x : FI) (mv : Bool) (d : List (Int × ByteArray)) (o : List N1) : List (Chunk AV) × List (Chunk AV) := match mv with
 | true => ([.cells [.vs 9 0 x.rows.length 10 false, .vs 10 0 x.ahead.length 1 false, .it .i64 x.done, .mp (some 11), .vs 13 0 o.length 1 false] tSearch, .abs (creedV x.m), .abs (.rowsB x.b x.rows), .abs (.ints x.ahead), .abs (.mpS d)], [.dead, .abs (.ints o)])
 | false => ([.cells [.vs 9 0 x.rows.length 10 false, .vs 10 0 x.ahead.length 1 false, .it .i64 x.done, .mp (some 11), .vs 12 0 o.length 1 false] tSearch, .abs (creedV x.m), .abs (.rowsB x.b x.rows), .abs (.ints x.ahead), .abs (.mpS d)], [.abs (.ints o)])
def findN (fm : FI -> FR) (args : List SV) (l : List (Chunk AV)) : T (SV × List (Chunk AV) × List (Chunk AV)) := match args, l with
 | [.v (.c (.ptr 7 0)), .v (.c s), .v (.c (.ptr 8 0))], [.cells [.vs 9 0 rl 10 false, .vs 10 0 al 1 false, .it .i64 done, .mp (some 11), .snil] ty, .abs c, .abs (.rowsB b rows), .abs (.ints a), .abs (.mpS d)] =>
   match Nat.beq ty tSearch, iOf s, creedY c with
   | true, some set, some (m, cb) =>
     .need cb (.need (decide (rl = rows.length /\ al = a.length)) (.need (fm ⟨b, rows, a, done, set, d, [], m⟩).okB (.ite (fm ⟨b, rows, a, done, set, d, [], m⟩).mv
      (.leaf (.v (.c (.bt (fm ⟨b, rows, a, done, set, d, [], m⟩).is)), (outN2 ⟨b, rows, a, done, set, d, [], m⟩ true (fm ⟨b, rows, a, done, set, d, [], m⟩).dead (fm ⟨b, rows, a, done, set, d, [], m⟩).order).1, (outN2 ⟨b, rows, a, done, set, d, [], m⟩ true (fm ⟨b, rows, a, done, set, d, [], m⟩).dead (fm ⟨b, rows, a, done, set, d, [], m⟩).order).2))
      (.leaf (.v (.c (.bt (fm ⟨b, rows, a, done, set, d, [], m⟩).is)), (outN2 ⟨b, rows, a, done, set, d, [], m⟩ false (fm ⟨b, rows, a, done, set, d, [], m⟩).dead (fm ⟨b, rows, a, done, set, d, [], m⟩).order).1, (outN2 ⟨b, rows, a, done, set, d, [], m⟩ false (fm ⟨b, rows, a, done, set, d, [], m⟩).dead (fm ⟨b, rows, a, done, set, d, [], m⟩).order).2)))))
   | _, _, _ => .fail "find"
 | _, _ => .fail "find"
theorem findN_ok {σ : Sg} (hcont : FnOk Tryd.prog (NV σ) 37 (sumG isS contM contS)) (k : Nat) : FnOk Tryd.prog (NV σ) 20 (sumC isS findM (findN (fmK k))) := by
 refine sumC_ok isS_ok rfl fun args l v l' nw ht hl hargs hC => ?_
 unfold findN at ht
 split at ht
 ·rename_i s rl al done ty c b rows a d
  split at ht
  ·rename_i set m cb h1 h2 h3
   have h1 := (beq_iff _ _).1 h1
   subst h1
   replace ht := need_some ht
   obtain ⟨hcb, ht⟩ := ht
   subst hcb
   have hc := creedY_spec h3
   subst hc
   replace ht := need_some ht
   obtain ⟨hb, ht⟩ := ht
   obtain ⟨rfl, rfl⟩ := of_decide_eq_true hb
   replace ht := need_some ht
   obtain ⟨hok, ht⟩ := ht
   generalize hx : (⟨b, rows, a, done, set, d, [], m⟩ : FI) = x at hok ht
   cases k with
   | zero => cases hok
   | succ k =>
     let H0 : Hp AV := hpC findM [.cells [.vs 9 0 rows.length 10 false, .vs 10 0 a.length 1 false, .it .i64 done, .mp (some 11), .snil] tSearch, .abs (creedV m), .abs (.rowsB b rows), .abs (.ints a), .abs (.mpS d)]
     have hC0 : ClHp (NV σ) H0 := hC
     have hopn : Opn (NV σ) H0 (hpC findM (srcC x)) := by
      subst hx
      refine opn_nil (N := NV σ) (n := 7) (l' := [.vs 9 0 rows.length 10 false, .vs 10 0 a.length 1 false, .it .i64 done, .mp (some 11), .vs 12 0 0 1 false]) (a := .ints []) hC0 rfl rfl (fun ρ ρ' e1 e2 => ?_) (by show 7 <= 12; decide)
      have e9 : ρ'.L 9 = ρ.L 9 := e1 9 (by show 9 < 12; decide)
      have e10 : ρ'.L 10 = ρ.L 10 := e1 10 (by show 10 < 12; decide)
      have e11 : ρ'.L 11 = ρ.L 11 := e1 11 (by show 11 < 12; decide)
      have e12 : ρ'.L 12 = ⟨0, 0, 0⟩ := e2
      have ef : ρ'.f 11 = ρ.f 11 := by simp only [Nm.f, e11]
      simp only [denL, List.map_cons, List.map_nil, Cell.den, e9, e10, e12, Option.map_some, ef]
      rfl
     have hC1 : ClHp (NV σ) (hpC findM (srcC x)) := by
      subst hx
      exact clHs_spec (by kernel_rfl)
     have fin := find_ctr hcont (find_ok hcont k) x hC1 hok
     have pers : ∀ (mv : Bool) (dd : List (Int × ByteArray)) (o : List N1) (n : Nat) (c : Chunk AV), hget H0 n = some c -> ∃ c', hget (hpC findM (outX x mv dd o)) n = some c' := fun mv dd o n c h => by
      have hlt : n < 12 := hget_lt h
      cases mv <;> (rcases n with _ | _ | _ | _ | _ | _ | _ | _ | _ | _ | _ | _ | n <;> first | exact ⟨_, rfl⟩ | (cases h; done) | omega)
     have non : ∀ (mv : Bool) (dd : List (Int × ByteArray)) (o : List N1) (n : Nat), n < H0.length -> hget H0 n = none -> hget (hpC findM (outX x mv dd o)) n = none := fun mv dd o n hn h => by
      have hlt : n < 12 := hn
      cases mv <;> (rcases n with _ | _ | _ | _ | _ | _ | _ | _ | _ | _ | _ | _ | n <;> first | rfl | (cases h; done) | omega)
     have fin2 : Ctr Tryd.prog (NV σ) 20 [.v (.c (.ptr 7 0)), .v (.c s), .v (.c (.ptr 8 0))] H0 (.v (.c (.bt (fmS (fmK k) x).is))) (hpC findM (outX x (fmS (fmK k) x).mv (fmS (fmK k) x).dead (fmS (fmK k) x).order)) := by
      refine ctr_args (ctr_via hopn (fun n c h => ?_) fin (Fld.refl _) (fun y hy => ?_) fin.1 fin.2.1 (pers _ _ _) (non _ _ _) ?_) fun ρ => ?_
      ·exact pers false x.dead x.order n c h
      ·simp only [List.mem_cons, List.not_mem_nil, or_false] at hy
       rcases hy with rfl | rfl | rfl
       ·exact cl_ptr (x := .cells [.vs 9 0 rows.length 10 false, .vs 10 0 a.length 1 false, .it .i64 done, .mp (some 11), .snil] tSearch) rfl
       ·exact cl_it _
       ·exact cl_ptr (x := .abs (creedV m)) rfl
      ·cases (fmS (fmK k) x).mv
       ·show 12 <= 13; decide
       ·show 12 <= 14; decide
      ·simp only [List.map_cons, List.map_nil, SV.den, V1.den, iOf_den h2, <- hx]
       rfl
     cases hmv : (fmS (fmK k) x).mv with
     | true =>
       have hmv' : (fmK (k + 1) x).mv = true := hmv
       rw [hmv] at fin2
       simp only [T.val, hmv', Option.some.injEq, Prod.mk.injEq] at ht
       obtain ⟨rfl, rfl, rfl⟩ := ht
       subst hx
       exact fin2
     | false =>
       have hmv' : (fmK (k + 1) x).mv = false := hmv
       rw [hmv] at fin2
       simp only [T.val, hmv', Option.some.injEq, Prod.mk.injEq] at ht
       obtain ⟨rfl, rfl, rfl⟩ := ht
       subst hx
       exact fin2
  ·simp [T.val] at ht
 ·simp [T.val] at ht
end Go.Proofs.YtpapbhbnaalhcaaDoor

namespace Go.Proofs.YtpapbhbnaalhcaaDoor
open Go Go.Sx Go.Proofs
set_option linter.unusedVariables false
set_option maxRecDepth 100000
def linM : List Bool := [true, true, true, false, false, false, false]
def hpL (b : Bool) (l : List Rw) (m : CreedM) (ev : List Evt) (n k : Nat) (a : List N1) (dn : Int) (d : List (Int × ByteArray)) : Hp AV :=
 hpO linM [.rowsB b l, creedV m, .events ev, .ints a] ++ [some (.cells [.vs 7 0 n 10 false, .vs 10 0 k 1 false, .it .i64 dn, .mp (some 12), .snil] tSearch), some (.abs (.mpS d))]
def ksI : List Nat := [1, 7, 11, 12, 13, 42, 43, 44, 57, 58, 59]
def famI (b : Bool) (l : List Rw) (m : CreedM) (ev : List Evt) (n k : Nat) (a : List N1) (dn : Int) (d : List (Int × ByteArray)) (r : Rw) (i j : Int) : St AV :=
 { E := only ksI [(1, .v (.c (.vs 7 0 n 10 false))), (7, .v (.c (.ptr 8 0))), (11, .v (.c (.ptr 11 0))), (12, .v (.c (.it .i64 i))), (13, .v (.c (.ptr 13 0))), (42, .v (.c (.vs 7 0 n 10 false))), (43, .v (.c (.it .i64 n))), (44, .v (.c (.it .i64 i))), (57, .v (.c (.vs 7 0 n 10 false))), (58, .v (.c (.it .i64 n))), (59, .v (.c (.it .i64 j)))] 83,
   H := hpL b l m ev n k a dn d ++ [some (.cells r.enc 37)] }
noncomputable def LI : Code := loopAt 16 (loopsOf (bodyOf Tryd.f10))
def aheadB (x r : Rw) : Bool := match x.fin == true with
 | true => decide (x.till < r.frm)
 | false => false
theorem iR (σ : Sg) (b : Bool) (l : List Rw) (m : CreedM) (ev : List Evt) (n k : Nat) (a : List N1) (dn : Int) (d : List (Int × ByteArray)) (r : Rw) (i j : Int) : (xc (NV σ) (joinCal (lv (NV σ) (fun _ => none) 5)) (fun _ => none) 83 LI (famI b l m ev n k a dn d r i j)).bind (backS 14 83 ksI pkJ) =
 .ite (decide (j < (n : Int))) (.need (decide (0 <= j /\ j < (n : Int))) (.need (decide (0 + j.toNat < l.length))
  (.ite (aheadB (l.getD (0 + j.toNat) krows.dflt) r)
    (.need (decide (0 <= i /\ i < (k : Int))) (.need (decide (0 + i.toNat < a.length)) (.need (decide (0 <= j)) (.need (decide (0 <= i /\ i < (k : Int))) (.need (decide (0 + i.toNat < a.length))
      (.leaf (.normal, famI b l m ev n k (a.set (0 + i.toNat) ⟨bitI .or .i64 (a.getD (0 + i.toNat) kints.dflt).val (shI .shl .i64 1 j)⟩) dn d r i (IntKind.wrap .i64 (j + 1)))))))))
    (.leaf (.normal, famI b l m ev n k a dn d r i (IntKind.wrap .i64 (j + 1)))))))
  (.leaf (.exit 2, famI b l m ev n k a dn d r i j)) := by kernel_rfl
def oneA (r : Rw) (i j : Nat) (x : Rw) (a : List N1) : List N1 := match aheadB x r with
 | true => a.set i ⟨bitI .or .i64 (a.getD i kints.dflt).val (shI .shl .i64 1 j)⟩
 | false => a
theorem oneA_len (r : Rw) (i j : Nat) (x : Rw) (a : List N1) : (oneA r i j x a).length = a.length := by
 unfold oneA
 split <;> simp
def bitA (r : Rw) (i : Nat) : List Rw -> Nat -> List N1 -> List N1
 | [], j, a => a
 | x :: q, j, a => bitA r i q (j + 1) (oneA r i j x a)
theorem bitA_len (r : Rw) (i : Nat) : ∀ (l : List Rw) (j : Nat) (a : List N1), (bitA r i l j a).length = a.length
 | [], j, a => rfl
 | x :: q, j, a => by simp only [bitA]; rw [bitA_len, oneA_len]
def stepI (l : List Rw) (r : Rw) (i : Nat) (m : Nat × List N1) : T (Ex × (Nat × List N1)) := .need (decide (l.length <= 12 /\ m.2.length = l.length /\ i < l.length /\ m.1 <= l.length))
 (.leaf (if m.1 < l.length then (.normal, (m.1 + 1, oneA r i m.1 (l.getD m.1 krows.dflt) m.2)) else (.exit 2, m)))
theorem stepI_run (σ : Sg) (b : Bool) (l : List Rw) (c : CreedM) (ev : List Evt) (dn : Int) (d : List (Int × ByteArray)) (r : Rw) (i : Nat) (m : Nat × List N1) (q : Ex × (Nat × List N1)) (h : (stepI l r i m).val = some q) :
 ((xc (NV σ) (joinCal (lv (NV σ) (fun _ => none) 5)) (fun _ => none) 83 LI (famI b l c ev l.length l.length m.2 dn d r i m.1)).bind (backS 14 83 ksI pkJ)).val = some (q.1, famI b l c ev l.length l.length q.2.2 dn d r i q.2.1) := by
 replace h := need_some h
 obtain ⟨hb, h⟩ := h
 obtain ⟨h1, h2, h3, h4⟩ := of_decide_eq_true hb
 simp only [T.val, Option.some.injEq] at h
 subst h
 obtain ⟨j, a⟩ := m
 simp only at h2 h4
 rw [iR]
 by_cases hlt : j < l.length
 ·have d1 : decide ((j : Int) < (l.length : Int)) = true := decide_eq_true (by omega)
  have d2 : decide (0 <= (j : Int) /\ (j : Int) < (l.length : Int)) = true := decide_eq_true (by omega)
  have d3 : decide (0 + (j : Int).toNat < l.length) = true := decide_eq_true (by omega)
  have d4 : decide (0 <= (i : Int) /\ (i : Int) < (l.length : Int)) = true := decide_eq_true (by omega)
  have d5 : decide (0 + (i : Int).toNat < a.length) = true := decide_eq_true (by omega)
  have d6 : decide (0 <= (j : Int)) = true := decide_eq_true (by omega)
  have e1 : 0 + (j : Int).toNat = j := by omega
  have e2 : 0 + (i : Int).toNat = i := by omega
  have hw : IntKind.wrap .i64 ((j : Int) + 1) = ((j + 1 : Nat) : Int) := wrapS (by omega)
  simp only [if_pos hlt]
  rw [ivT d1, nv d2, nv d3]
  simp only [e1, hw, oneA]
  cases ha : aheadB (l.getD j krows.dflt) r with
  | true => rw [ivT rfl, nv d4, nv d5, nv d6, nv d4, nv d5]; simp only [e2]; rfl
  | false => rw [ivF rfl]; rfl
 ·have d1 : decide ((j : Int) < (l.length : Int)) = false := decide_eq_false (by omega)
  simp only [if_neg hlt]
  rw [ivF d1]
  rfl
theorem iterI (l : List Rw) (r : Rw) (i : Nat) (hl : l.length <= 12) (hi : i < l.length) : ∀ (k j : Nat) (a : List N1), a.length = l.length -> j + k = l.length -> iter (stepI l r i) (k + 1) (j, a) = some (.exit 2, (l.length, bitA r i (l.drop j) j a))
 | 0, j, a, ha, hk => by
   have d1 : decide (l.length <= 12 /\ a.length = l.length /\ i < l.length /\ j <= l.length) = true := decide_eq_true ⟨hl, ha, hi, by omega⟩
   simp only [iter, stepI, T.val, d1, if_neg (show ¬ j < l.length by omega)]
   rw [List.drop_of_length_le (by omega), show j = l.length by omega]
   rfl
 | k + 1, j, a, ha, hk => by
   have d1 : decide (l.length <= 12 /\ a.length = l.length /\ i < l.length /\ j <= l.length) = true := decide_eq_true ⟨hl, ha, hi, by omega⟩
   have hlt : j < l.length := by omega
   rw [iter]
   simp only [stepI, T.val, d1, if_pos hlt]
   rw [iterI l r i hl hi k (j + 1) _ (by rw [oneA_len]; exact ha) (by omega), drop_cons l krows.dflt hlt]
   rfl
def gI (s : St AV) : T (Ex × St AV) := match s.H with
 | [some (.abs (.sent 0)), some (.abs (.sent 1)), some (.abs (.sent 2)), none, none, none, none, some (.abs (.rowsB b l)), some (.abs c), some (.abs (.events ev)), some (.abs (.ints a)), some (.cells [.vs 7 0 n 10 false, .vs 10 0 k 1 false, .it .i64 dn, .mp (some 12), .snil] ty), some (.abs (.mpS d)),
     some (.cells [.it .i64 p1, .it .i64 p2, .it .i64 p3, .it .i64 p4, .it .i64 p5, .it .i64 p6, .it .i64 p7, .it .i64 p8, .it .i64 p9, .bt p10] 37)] =>
   match Sx.look s.E 1, Sx.look s.E 7, Sx.look s.E 11, Sx.look s.E 12, Sx.look s.E 13, Sx.look s.E 42, Sx.look s.E 43, Sx.look s.E 44, Sx.look s.E 57, Sx.look s.E 58, Sx.look s.E 59, creedY c, Nat.beq ty tSearch with
   | .v (.c (.vs 7 0 n1 10 false)), .v (.c (.ptr 8 0)), .v (.c (.ptr 11 0)), .v (.c (.it .i64 i)), .v (.c (.ptr 13 0)), .v (.c (.vs 7 0 n2 10 false)), .v (.c (.it .i64 n3)), .v (.c (.it .i64 i')), .v (.c (.vs 7 0 n4 10 false)), .v (.c (.it .i64 n5)), .v (.c (.il .i64 0)), some (m, cb), true =>
     .need cb (.need (decide (n = l.length /\ k = l.length /\ n1 = l.length /\ n2 = l.length /\ n3 = (l.length : Int) /\ n4 = l.length /\ n5 = (l.length : Int) /\ i' = i /\ l.length <= 12 /\ a.length = l.length /\ 0 <= i /\ i < (l.length : Int)))
      (.leaf (.exit 2, famI b l m ev l.length l.length (bitA ⟨p1, p2, p3, p4, p5, p6, p7, p8, p9, p10⟩ i.toNat l 0 a) dn d ⟨p1, p2, p3, p4, p5, p6, p7, p8, p9, p10⟩ i l.length)))
   | _, _, _, _, _, _, _, _, _, _, _, _, _ => .fail "Linear: inner loop"
 | _ => .fail "Linear: inner loop"
theorem gI_ok {σ : Sg} {N' : Env AV} (hF : N'.F = (NV σ).F) (hG : N'.G = (NV σ).G) : LoopOk Tryd.prog N' 83 LI gI := by
 have hcal : CalOk Tryd.prog (NV σ) (joinCal (lv (NV σ) (fun _ => none) 5)) := joinCal_ok (lv_ok okV lpsV hvV (fun f g h => by cases h) 5)
 refine loopOk_it (N := NV σ) hF hG okV hcal (lp := fun _ => none) (fun _ _ _ g hg => by cases hg) fun s s' ex hgs => ?_
 obtain ⟨E1, H1⟩ := s
 unfold gI at hgs
 split at hgs
 ·rename_i b l c ev a n k dn ty d p1 p2 p3 p4 p5 p6 p7 p8 p9 p10 hs
  simp only at hs
  subst hs
  split at hgs
  ·rename_i n1 i n2 n3 i' n4 n5 m cb e1 e7 e11 e12 e13 e42 e43 e44 e57 e58 e59 ec et
   have et := (beq_iff _ _).1 et
   subst et
   replace hgs := need_some hgs
   obtain ⟨hcb, hgs⟩ := hgs
   subst hcb
   have hc := creedY_spec ec
   subst hc
   replace hgs := need_some hgs
   obtain ⟨hb, hgs⟩ := hgs
   obtain ⟨rfl, rfl, rfl, rfl, rfl, rfl, rfl, rfl, hl, ha, hi0, hi⟩ := of_decide_eq_true hb
   simp only [T.val, Option.some.injEq, Prod.mk.injEq] at hgs
   obtain ⟨rfl, rfl⟩ := hgs
   obtain ⟨k, rfl⟩ : ∃ k : Nat, i' = k := ⟨i'.toNat, by omega⟩
   refine ⟨{ M := Nat × List N1, fam := fun q => famI b l m ev l.length l.length q.2 dn d ⟨p1, p2, p3, p4, p5, p6, p7, p8, p9, p10⟩ k q.1, step := stepI l ⟨p1, p2, p3, p4, p5, p6, p7, p8, p9, p10⟩ k, ks := ksI, pk := pkJ, hpk := pkJ_ok, L := 14, len := rfl, hGL := (by show 7 <= 14; decide), run := stepI_run σ b l m ev dn d _ k, m := (0, a), k := l.length + 1, m' := (l.length, bitA ⟨p1, p2, p3, p4, p5, p6, p7, p8, p9, p10⟩ k l 0 a), ent := ?_, it := ?_, fin := by simp only [Int.toNat_natCast] }⟩
   ·have hk : k < l.length := by omega
    refine enter_only (N := NV σ) (s := ⟨E1, _⟩) (l := []) (fun a ha => by cases ha) (by show 7 <= 14; decide) fun k hk => ?_
    simp only [ksI, List.mem_cons, List.not_mem_nil, or_false] at hk
    rcases hk with rfl | rfl | rfl | rfl | rfl | rfl | rfl | rfl | rfl | rfl | rfl
    ·exact .inl e1.symm
    ·exact .inl e7.symm
    ·exact .inl e11.symm
    ·exact .inl e12.symm
    ·exact .inl e13.symm
    ·exact .inl e42.symm
    ·exact .inl e43.symm
    ·exact .inl e44.symm
    ·exact .inl e57.symm
    ·exact .inl e58.symm
    ·exact .inr (.inl (sayIl e59))
   ·rw [iterI l _ k hl (by omega) l.length 0 a ha (by omega)]
    rfl
  ·simp [T.val] at hgs
 ·simp [T.val] at hgs
end Go.Proofs.YtpapbhbnaalhcaaDoor
