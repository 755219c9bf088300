import Derived.Test.YtpapbhbnaalhcaaDoorSxLn
import Derived.Shelf.Spec.SlicesInsertGrow
import Derived.Laws.CopyRow
import Derived.Test.YtpapbhbnaalhcaaDoorJv
import Derived.Test.YtpapbhbnaalhcaaDoorSxAr
import Derived.Shelf.SlGeneric
import Derived.Ground.SlgnProg
import Derived.Shelf.SlicesE.Clone
namespace Go.Proofs.YtpapbhbnaalhcaaDoor
open Go Go.Sx Go.Proofs Go.RowKit Go.Lib
set_option maxRecDepth 100000
theorem run_copy_rowN {P : Program} (w : World) (dT sT ty elem : TypeId) (es : Nat) (g o dLen dCap : Nat) (a : Addr) (sLen sCap : Nat) (cur : Array Value) (t : TypeId) (cs : List Value)
 (hu : P.underlying dT = some (.slice elem)) (hs : (P.info? elem).map (·.size) = some es)
 (hg : w.heap[g]? = some (.cells cur t (0, 0))) (hn : cs.length = Nat.min sLen dLen * es)
 (hsrc : ∀ j v, cs[j]? = some v -> w.cell? (a.add j) = some v) (hfit : o + cs.length <= cur.size) (h1 : ∀ v ∈ cs, v.oneCell' = true) :
 (Builtin.copy_ #[dT, sT] ty #[.slice (some ⟨g, o, none⟩) dLen dCap, .slice (some a) sLen sCap]).run P w =
   .ok (goInt (Nat.min sLen dLen)) (w.setRow g (cur.toList.take o ++ cs ++ cur.toList.drop (o + cs.length)).toArray) := by
 have hl := run_loadCells_list (P := P) w a cs hsrc
 have hst := run_storeCells_at P g o t cs 0 cur w hg (by simpa using hfit) h1
 cases hq : P.info? elem with
 | none => simp [hq] at hs
 | some i =>
   have hi : i.size = es := by simpa [hq] using hs
   simp [Builtin.copy_, run_underlying hu, Builtin.lenOf, Builtin.firstCells, sizeOf, typeInfo, hq, hi, <- hn, hl, hst]
theorem insP_overlaps (w : World) (vb voff vc b off lb cb : Nat) (kA kB : Nat) (tA tB : TypeId) (hvb : vb ≠ b) (hsa : w.shape? vb = some (tA, kA)) (hsb : w.shape? b = some (tB, kB)) (hkB : kB ≠ 0) (hfa : w.frozen? ⟨vb, voff, none⟩ = false) (hfe : w.frozen? ⟨vb, kA, none⟩ = false) :
 (callFunc 47 #[.slice (some ⟨vb, voff, none⟩) 1 vc, .slice (some ⟨b, off, none⟩) lb cb]).run Tryd.prog w = .ok (.value (.bool false)) w := by
 rw [run_callFunc_extern Tryd.func47 (by kernel_rfl) (by kernel_rfl) (by kernel_rfl) (e := Extern.SlicesOverlaps.overlaps #[54, 54] #[4]) (by kernel_rfl),
  Lib.run_overlaps_apart w 54 4 98 Tryd.underlying54 2 Tryd.sizeOf98 ⟨vb, voff, none⟩ ⟨b, off, none⟩ 1 vc lb cb hvb tA tB kA kB hsa hsb hkB hfa hfe]
 rfl
def putSeg (row : List Value) (p : Nat) (cs : List Value) : List Value := row.take p ++ cs ++ row.drop (p + cs.length)
theorem putSeg_len {row cs : List Value} {p : Nat} (h : p + cs.length <= row.length) : (putSeg row p cs).length = row.length := by simp [putSeg]; omega
theorem seg_get (row : List Value) (p m : Nat) (h : p + m <= row.length) : ((row.drop p).take m).length = m /\ ∀ (j : Nat) v, ((row.drop p).take m)[j]? = some v -> row[p + j]? = some v := by
 refine ⟨by simp; omega, fun j v hj => ?_⟩
 rw [List.getElem?_take] at hj
 split at hj
 ·rwa [List.getElem?_drop] at hj
 ·cases hj
theorem cell_row {w : World} {b : Nat} {row : List Value} {t : TypeId} (h : w.heap[b]? = some (.cells row.toArray t (0, 0))) (o j : Nat) (v : Value) (hv : row[o + j]? = some v) : w.cell? ((⟨b, o, none⟩ : Addr).add j) = some v := by
 have e : (⟨b, o, none⟩ : Addr).add j = ⟨b, o + j, none⟩ := by unfold Addr.add; split <;> simp_all
 rw [e]
 simp [World.cell?, h, hv]
theorem infoPair : (Tryd.prog.info? 98).map (·.size) = some 2 := by kernel_rfl
theorem setRow_block {w : World} {b c : Nat} {x : Array Value} (h : c ≠ b) : (w.setRow b x).heap[c]? = w.heap[c]? := by
 simp [World.setRow, Array.getElem?_modify, Ne.symm h]
set_option maxHeartbeats 4000000 in
theorem insP_shift (b off n c i vb voff vc : Nat) (row vs rv : List Value) (w : World) (hi : i < n) (hroom : n + 1 <= c) (hc63 : n <= 1000000) (hvb : vb ≠ b)
 (hrow : w.heap[b]? = some (.cells row.toArray 98 (0, 0))) (hfit : off + c * 2 <= row.length) (hone : ∀ v ∈ (row.drop off).take (n * 2), v.oneCell' = true)
 (hv : w.heap[vb]? = some (.cells rv.toArray 98 (0, 0))) (hvs : ∀ (j : Nat) v, vs[j]? = some v -> rv[voff + j]? = some v) (hvl : vs.length = 2) (h1v : ∀ v ∈ vs, v.oneCell' = true) :
 Calls Tryd.prog 35 #[.slice (some ⟨b, off, none⟩) n c, .int .i64 i, .slice (some ⟨vb, voff, none⟩) 1 vc] w fun e w' =>
  e = .returned (.slice (some ⟨b, off, none⟩) (n + 1) c) /\ w' = (w.drew.setRow b (putSeg row (off + (i + 1) * 2) ((row.drop (off + i * 2)).take ((n - i) * 2))).toArray).setRow b (putSeg (putSeg row (off + (i + 1) * 2) ((row.drop (off + i * 2)).take ((n - i) * 2))) (off + i * 2) vs).toArray := by
 have hz2 : ¬ ((i : Int) = (n : Int)) := by omega
 have hshb : w.shape? b = some (98, row.length) := by simp [World.shape?, hrow]
 have hshv : w.shape? vb = some (98, rv.length) := by simp [World.shape?, hv]
 have hfr : ∀ k, w.frozen? ⟨vb, k, none⟩ = false := fun k => by simp [World.frozen?, hv]
 have hov : ∀ lb cb, (callFunc 47 #[.slice (some ⟨vb, voff, none⟩) 1 vc, .slice (some ⟨b, off + (i + 1) * 2, none⟩) lb cb]).run Tryd.prog w = .ok (.value (.bool false)) w := fun lb cb =>
  insP_overlaps w vb voff vc b _ lb cb rv.length row.length _ _ hvb hshv hshb (by omega) (hfr _) (hfr _)
 obtain ⟨s1, s2⟩ := seg_get row (off + i * 2) ((n - i) * 2) (by omega)
 obtain ⟨cs, hcs⟩ : ∃ cs, cs = (row.drop (off + i * 2)).take ((n - i) * 2) := ⟨_, rfl⟩
 rw [<- hcs] at s1 s2 ⊢
 have hone1 : ∀ v ∈ cs, v.oneCell' = true := fun v hv => by
  rw [hcs] at hv
  obtain ⟨j, hj⟩ := List.mem_iff_getElem?.1 hv
  obtain ⟨_, q2⟩ := seg_get row (off + i * 2) ((n - i) * 2) (by omega)
  have q3 := q2 j v hj
  have hjl := (List.getElem?_eq_some_iff.1 hj).1
  rw [seg_get row (off + i * 2) ((n - i) * 2) (by omega) |>.1] at hjl
  refine hone v (List.mem_iff_getElem?.2 ⟨i * 2 + j, ?_⟩)
  rw [List.getElem?_take, if_pos (by omega), List.getElem?_drop, show off + (i * 2 + j) = off + i * 2 + j by omega]
  exact q3
 have hcp1 : ∀ ty dc sc, (Builtin.copy_ #[54, 54] ty #[.slice (some ⟨b, off + (i + 1) * 2, none⟩) (n - i) dc, .slice (some ⟨b, off + i * 2, none⟩) (n + 1 - i) sc]).run Tryd.prog w.drew = .ok (goInt ((n - i : Nat) : Int)) (w.drew.setRow b (putSeg row (off + (i + 1) * 2) cs).toArray) := fun ty dc sc => by
  have := run_copy_rowN (P := Tryd.prog) w.drew 54 54 ty 98 2 b (off + (i + 1) * 2) (n - i) dc ⟨b, off + i * 2, none⟩ (n + 1 - i) sc row.toArray 98 cs Tryd.underlying54 infoPair hrow (by rw [s1]; simp only [Nat.min_def]; split <;> omega) (fun j v hj => cell_row (w := w.drew) hrow _ j v (s2 j v hj)) (by simp; omega) hone1
  rw [this]
  have e : (n + 1 - i).min (n - i) = n - i := by simp only [Nat.min_def]; split <;> omega
  rw [e]
  rfl
 obtain ⟨r1, hr1⟩ : ∃ r1, r1 = putSeg row (off + (i + 1) * 2) cs := ⟨_, rfl⟩
 have hr1l : r1.length = row.length := by rw [hr1]; exact putSeg_len (by omega)
 rw [<- hr1] at hcp1 ⊢
 obtain ⟨W1, hW1⟩ : ∃ W1, W1 = w.drew.setRow b r1.toArray := ⟨_, rfl⟩
 have hW1b : W1.heap[b]? = some (.cells r1.toArray 98 (0, 0)) := by rw [hW1]; exact setRow_heap w.drew b _ _ _ (0, 0) hrow
 have hW1v : W1.heap[vb]? = some (.cells rv.toArray 98 (0, 0)) := by rw [hW1, setRow_block hvb]; exact hv
 have hcp2 : ∀ ty dc, (Builtin.copy_ #[54, 54] ty #[.slice (some ⟨b, off + i * 2, none⟩) (n + 1 - i) dc, .slice (some ⟨vb, voff, none⟩) 1 vc]).run Tryd.prog W1 = .ok (goInt 1) (W1.setRow b (putSeg r1 (off + i * 2) vs).toArray) := fun ty dc => by
  have := run_copy_rowN (P := Tryd.prog) W1 54 54 ty 98 2 b (off + i * 2) (n + 1 - i) dc ⟨vb, voff, none⟩ 1 vc r1.toArray 98 vs Tryd.underlying54 infoPair hW1b (by rw [hvl]; simp only [Nat.min_def]; split <;> omega) (fun j v hj => cell_row (w := W1) hW1v voff j v (hvs j v hj)) (by simp; omega) h1v
  rw [this]
  have e : (1 : Nat).min (n + 1 - i) = 1 := by simp only [Nat.min_def]; split <;> omega
  rw [e]
  rfl
 rw [<- hW1] at hcp1 ⊢
 have hin : i <= n := by omega
 have mixed : Tryd.prog.follows Departure.mixedOrders = true := by kernel_rfl
 have hw1 : IntKind.i64.wrap ((i : Int) + 1) = (i : Int) + 1 := wrap_in (by omega)
 have hb1 : (0 : Int) <= (i : Int) + 1 := by omega
 have htn : ((i : Int) + 1).toNat = i + 1 := by omega
 have hb2 : ¬ (c = i + 1) := by omega
 have hb3 : (i : Int) <= (n : Int) + 1 := by omega
 have hb4 : ¬ (c = i) := by omega
 have hb5 : (i : Int) + 1 <= (n : Int) + 1 := by omega
 have hb6 : n + 1 - (i + 1) = n - i := by omega
 clear hW1b hW1v hW1 hfr hshb hshv hone hone1 hrow hv s1 s2 hcs hr1
 go_enter Tryd.func35, Tryd.ntmps35
 go_wp2_with (simp only [hov])
 go_region_law_o (refine step_copy_runI rfl _ _ 54 54 rfl _ _ (by simp [Act.eval, Act.put]) (by simp [Act.eval, Act.put]) (hcp1 _ _ _) ?_)
 go_wp2_with (at_builtin; refine wpList_copy_runI _ rfl _ _ 54 54 rfl _ _ rfl rfl (hcp2 _ _) ?_)
 go_ret
 exact ⟨rfl, rfl⟩
theorem step_append_runI {P : Program} {ops : Array Oper} {o : Oper} {a : Act} {w : World} {K : Act -> World -> Prop} {Q : Exit -> Act -> World -> Prop} {E : Prop}
 (hg : o.guard = none) (d x : Operand) (dT sT : TypeId) (hop : o.op = Op.call { callee := Callee.builtin Builtin.append, args := #[d, x], argTypes := #[dT, sT] })
 (v u : Value) (hd : a.eval d = v) (hx : a.eval x = u) {v' : Value} {w' : World} (hr : (Builtin.append_ #[dT, sT] o.type #[v, u]).run P w = .ok v' w') (hK : K (a.put o.dst v') w') :
 if Region.wanted o (yielded ops a.tmps) = true then Oper.wp P o a w K Q else E := by
 have hw : Region.wanted o (yielded ops a.tmps) = true := by simp [Region.wanted, hg]
 rw [if_pos hw]
 unfold Oper.wp
 simp [execOp, hop, resolve, invoke, builtin, hd, hx, hr, Result.andThen]
 exact hK
theorem pairI : ∃ i : TypeInfo, Tryd.prog.info? 98 = some i /\ i.size = 2 /\ i.bytes = 16 /\ i.zero = some (.agg #[.int .i64 0, .int .i64 0]) := by
 have h : (match Tryd.prog.info? 98 with
  | some i => (match i.zero with | some (.agg a) => (match a.toList with | [.int .i64 x, .int .i64 y] => i.size == 2 && i.bytes == 16 && x == 0 && y == 0 | _ => false) | _ => false)
  | none => false) = true := by kernel_rfl
 cases hi : Tryd.prog.info? 98 with
 | none => rw [hi] at h; cases h
 | some i =>
   rw [hi] at h
   simp only at h
   split at h
   ·rename_i a ha
    split at h
    ·rename_i x y hxy
     simp at h
     obtain ⟨⟨⟨h1, h2⟩, h3⟩, h4⟩ := h
     refine ⟨i, rfl, h1, h2, ?_⟩
     rw [ha]
     subst h3 h4
     have : a = #[.int .i64 0, .int .i64 0] := by rw [<- Array.toArray_toList (xs := a), hxy]
     rw [this]
    ·cases h
   ·cases h
set_option maxHeartbeats 4000000 in
theorem insP_endroom (b off n c vb voff vc : Nat) (row vs rv : List Value) (w : World) (hroom : n + 1 <= c) (hc63 : n <= 1000000)
 (hrow : w.heap[b]? = some (.cells row.toArray 98 (0, 0))) (hfit : off + c * 2 <= row.length)
 (hv : w.heap[vb]? = some (.cells rv.toArray 98 (0, 0))) (hvs : ∀ (j : Nat) v, vs[j]? = some v -> rv[voff + j]? = some v) (hvl : vs.length = 2) (h1v : ∀ v ∈ vs, v.oneCell' = true) :
 Calls Tryd.prog 35 #[.slice (some ⟨b, off, none⟩) n c, .int .i64 n, .slice (some ⟨vb, voff, none⟩) 1 vc] w fun e w' =>
  e = .returned (.slice (some ⟨b, off, none⟩) (n + 1) c) /\ w' = w.setRow b (putSeg row (off + n * 2) vs).toArray := by
 obtain ⟨i0, hi0, hi1, hi2, hi3⟩ := pairI
 have hap : ∀ ty, (Builtin.append_ #[54, 54] ty #[.slice (some ⟨b, off, none⟩) n c, .slice (some ⟨vb, voff, none⟩) 1 vc]).run Tryd.prog w = .ok (.slice (some ⟨b, off, none⟩) (n + 1) c) (w.setRow b (putSeg row (off + n * 2) vs).toArray) := fun ty => by
  have := run_append_at (P := Tryd.prog) w 54 ty 98 i0 Tryd.underlying54 hi0 b off n c row.toArray 98 hrow ⟨vb, voff, none⟩ 1 vc vs (by rw [hvl, hi1]) (fun j v hj => cell_row (w := w) hv voff j v (hvs j v hj)) h1v hroom (by rw [hi1]; simp; omega)
  rw [this, hi1]
  rfl
 have mixed : Tryd.prog.follows Departure.mixedOrders = true := by kernel_rfl
 clear hrow hv
 go_enter Tryd.func35, Tryd.ntmps35
 go_wp2_with (at_builtin; refine Lib.wpList_append_run _ rfl _ _ _ _ rfl _ _ rfl rfl _ _ (hap _) ?_)
 go_ret
 exact ⟨rfl, rfl⟩
set_option maxHeartbeats 4000000 in
theorem insP_endgrow (base : Option Addr) (n c vb voff vc : Nat) (cs vs rv : List Value) (w : World) (hnc : n <= c) (hroom : c < n + 1) (hbig : n <= 1000000) (hcl : cs.length = n * 2) (hnil : base = none -> n = 0)
 (hcs : ∀ a, base = some a -> ∀ j v, cs[j]? = some v -> w.cell? (a.add j) = some v)
 (hv : w.heap[vb]? = some (.cells rv.toArray 98 (0, 0))) (hvs : ∀ (j : Nat) v, vs[j]? = some v -> rv[voff + j]? = some v) (hvl : vs.length = 2) (h1v : ∀ v ∈ vs, v.oneCell' = true) :
 Calls Tryd.prog 35 #[.slice base n c, .int .i64 n, .slice (some ⟨vb, voff, none⟩) 1 vc] w fun e w' =>
  e = .returned (.slice (some ⟨w.heap.size, 0, none⟩) (n + 1) (grownCap w (n + 1) c 98)) /\
  w' = w.drew.alloc (.cells ((cs ++ vs).toArray ++ Builtin.zeroCells (Value.agg #[.int .i64 0, .int .i64 0]).cells (grownCap w (n + 1) c 98 - (n + 1))) 98) := by
 obtain ⟨i0, hi0, hi1, hi2, hi3⟩ := pairI
 have mixed : Tryd.prog.follows Departure.mixedOrders = true := by kernel_rfl
 have hsrc : Src Tryd.prog i0.size 54 (.slice (some ⟨vb, voff, none⟩) 1 vc) 1 vs w := by
  rw [hi1]
  exact Src.ofSlice w Tryd.underlying54 ⟨vb, voff, none⟩ 1 vc vs (by omega) (fun j u hj => cell_row (w := w) hv voff j u (hvs j u hj)) h1v
 have hold : (Builtin.firstCells i0.size n (.slice base n c)).run Tryd.prog w.drew = .ok cs.toArray w.drew := by
  rw [hi1]
  cases base with
  | none =>
    have h0 := hnil rfl
    subst h0
    rw [List.length_eq_zero_iff.1 hcl]
    exact run_firstCells_none w.drew 2 0 0 c
  | some a => exact run_firstCells_some w.drew 2 n a n c cs (by omega) (fun j v hj => hcs a rfl j v hj)
 have hrun : ∀ ty, (Builtin.append_ #[54, 54] ty #[.slice base n c, .slice (some ⟨vb, voff, none⟩) 1 vc]).run Tryd.prog w = _ := fun ty =>
  run_append_grow_src w 54 54 ty 98 i0 _ Tryd.underlying54 hi0 hi3 base n c cs hold _ 1 vs hsrc hroom (by omega) (by rw [hi2]; exact growslice_fits hroom (by omega))
 clear hv hold hsrc
 go_enter Tryd.func35, Tryd.ntmps35
 cases base with
 | none =>
   have h0 := hnil rfl
   subst h0
   go_wp2_with (at_builtin; refine Lib.wpList_append_run _ rfl _ _ _ _ rfl _ _ rfl rfl _ _ (hrun _) ?_)
   go_ret
   exact ⟨rfl, rfl⟩
 | some a =>
   obtain ⟨ab, ao, asp⟩ := a
   go_wp2_with (at_builtin; refine Lib.wpList_append_run _ rfl _ _ _ _ rfl _ _ rfl rfl _ _ (hrun _) ?_)
   all_goals (go_ret; exact ⟨rfl, rfl⟩)
theorem alloc_block {w : World} {o : Obj} {k : Nat} (h : k < w.heap.size) : (w.alloc o).heap[k]? = w.heap[k]? := by
 show (w.heap.push o)[k]? = _
 rw [Array.getElem?_push, if_neg (by omega)]
theorem alloc_self {w : World} {o : Obj} : (w.alloc o).heap[w.heap.size]? = some o := by
 show (w.heap.push o)[w.heap.size]? = _
 simp
set_option maxHeartbeats 4000000 in
theorem insP_grow (b off n c i vb voff vc : Nat) (cs vs rv : List Value) (w : World) (hi : i < n) (hnc : n <= c) (hroom : c < n + 1) (hbig : n <= 1000000) (hcl : cs.length = n * 2) (hone : ∀ v ∈ cs, v.oneCell' = true)
 (hbw : b < w.heap.size) (hvw : vb < w.heap.size) (hcs : ∀ (j : Nat) v, cs[j]? = some v -> w.cell? ((⟨b, off, none⟩ : Addr).add j) = some v)
 (hv : w.heap[vb]? = some (.cells rv.toArray 98 (0, 0))) (hvs : ∀ (j : Nat) v, vs[j]? = some v -> rv[voff + j]? = some v) (hvl : vs.length = 2) (h1v : ∀ v ∈ vs, v.oneCell' = true) :
 Calls Tryd.prog 35 #[.slice (some ⟨b, off, none⟩) n c, .int .i64 i, .slice (some ⟨vb, voff, none⟩) 1 vc] w fun e w' =>
  ∃ (G : Nat) (row : List Value), n + 1 <= G /\ row.length = G * 2 /\ e = .returned (.slice (some ⟨w.heap.size, 0, none⟩) (n + 1) G) /\
  (∀ (j : Nat) v, (cs.take (i * 2) ++ vs ++ cs.drop (i * 2))[j]? = some v -> row[j]? = some v) /\ w'.heap[w.heap.size]? = some (.cells row.toArray 98 (0, 0)) /\ (∀ k, k < w.heap.size -> w'.heap[k]? = w.heap[k]?) /\ w'.os = w.os /\ w'.tape = w.tape /\ w'.output = w.output /\ w.heap.size <= w'.heap.size := by
 obtain ⟨i0, hi0, hi1, hi2, hi3⟩ := pairI
 have mixed : Tryd.prog.follows Departure.mixedOrders = true := by kernel_rfl
 have hold : (Builtin.firstCells i0.size i (.slice (some ⟨b, off, none⟩) i c)).run Tryd.prog w.drew = .ok (cs.take (i * 2)).toArray w.drew := by
  rw [hi1]
  exact run_firstCells_some w.drew 2 i ⟨b, off, none⟩ i c (cs.take (i * 2)) (by rw [List.length_take]; omega) (fun j v hj => by
   rw [List.getElem?_take] at hj
   split at hj
   ·exact hcs j v hj
   ·cases hj)
 have hkk : (n : Int) + 1 - (i : Int) = ((n + 1 - i : Nat) : Int) := by omega
 have hik : i + (n + 1 - i) = n + 1 := by omega
 have hrz : ∀ ty, (Builtin.append_ #[54, 3] ty #[.slice (some ⟨b, off, none⟩) i c, .int .i64 ((n : Int) + 1 - (i : Int))]).run Tryd.prog w =
  .ok (.slice (some ⟨w.heap.size, 0, none⟩) (n + 1) (grownCap w (n + 1) c 98)) (w.drew.alloc (.cells ((cs.take (i * 2)).toArray ++ Builtin.zeroCells (Value.agg #[.int .i64 0, .int .i64 0]).cells (n + 1 - i) ++ Builtin.zeroCells (Value.agg #[.int .i64 0, .int .i64 0]).cells (grownCap w (n + 1) c 98 - (n + 1))) 98)) := fun ty => by
  have h := Lib.run_append_grow_zeros w 54 3 ty 98 i0 _ .i64 .i64 Tryd.underlying54 Tryd.underlying3 hi0 hi3 (some ⟨b, off, none⟩) i c (cs.take (i * 2)) hold (n + 1 - i) (by omega) (by omega) (by omega) (by omega) (by rw [hi2]; omega) (by rw [hi2, hik]; exact growslice_fits hroom (by omega))
  rw [hik] at h
  rw [hkk]
  exact h
 obtain ⟨G, hG⟩ : ∃ G, G = grownCap w (n + 1) c 98 := ⟨_, rfl⟩
 have hGn : n + 1 <= G := by rw [hG]; exact grownCap_ge w _ _ _
 have hG63 : G <= 9223372036854775807 := by
  have := grownCap_le_maxLen w (n + 1) c 98 (by unfold maxLen; omega)
  rw [<- hG] at this
  unfold maxLen at this
  omega
 rw [<- hG] at hrz
 obtain ⟨ROW, hROW⟩ : ∃ ROW : List Value, ROW.toArray = (cs.take (i * 2)).toArray ++ Builtin.zeroCells (Value.agg #[.int .i64 0, .int .i64 0]).cells (n + 1 - i) ++ Builtin.zeroCells (Value.agg #[.int .i64 0, .int .i64 0]).cells (G - (n + 1)) := ⟨_, Array.toArray_toList⟩
 have hRl : ROW.length = G * 2 := by
  have := congrArg Array.size hROW
  simp [Builtin.zeroCells, Value.cells] at this
  omega
 have hRt : ∀ (j : Nat) v, (cs.take (i * 2))[j]? = some v -> ROW[j]? = some v := fun j v hj => by
  have hlt := (List.getElem?_eq_some_iff.1 hj).1
  have e : ROW[j]? = ROW.toArray[j]? := by simp
  rw [e, hROW, Array.getElem?_append_left (by simp at hlt ⊢; omega), Array.getElem?_append_left (by simp at hlt ⊢; omega)]
  simpa using hj
 rw [<- hROW] at hrz
 obtain ⟨W1, hW1⟩ : ∃ W1, W1 = w.drew.alloc (.cells ROW.toArray 98) := ⟨_, rfl⟩
 have hN1 : W1.heap[w.heap.size]? = some (.cells ROW.toArray 98 (0, 0)) := by rw [hW1]; exact alloc_self (w := w.drew)
 have hO1 : ∀ k, k < w.heap.size -> W1.heap[k]? = w.heap[k]? := fun k hk => by rw [hW1]; exact alloc_block (w := w.drew) hk
 have hcpA : ∀ (W : World), W.heap = W1.heap -> ∀ ty dc, (Builtin.copy_ #[54, 54] ty #[.slice (some ⟨w.heap.size, i * 2, none⟩) (n + 1 - i) dc, .slice (some ⟨vb, voff, none⟩) 1 vc]).run Tryd.prog W = .ok (goInt 1) (W.setRow w.heap.size (putSeg ROW (i * 2) vs).toArray) := fun W hW ty dc => by
  have := run_copy_rowN (P := Tryd.prog) W 54 54 ty 98 2 w.heap.size (i * 2) (n + 1 - i) dc ⟨vb, voff, none⟩ 1 vc ROW.toArray 98 vs Tryd.underlying54 infoPair (by rw [hW]; exact hN1) (by rw [hvl]; simp only [Nat.min_def]; split <;> omega)
   (fun j v hj => cell_row (w := W) (by rw [hW, hO1 vb hvw]; exact hv) voff j v (hvs j v hj)) (by simp; omega) h1v
  rw [this]
  have e : (1 : Nat).min (n + 1 - i) = 1 := by simp only [Nat.min_def]; split <;> omega
  rw [e]
  rfl
 obtain ⟨R2, hR2⟩ : ∃ R2, R2 = putSeg ROW (i * 2) vs := ⟨_, rfl⟩
 have hR2l : R2.length = ROW.length := by rw [hR2]; exact putSeg_len (by omega)
 rw [<- hR2] at hcpA
 obtain ⟨W2, hW2⟩ : ∃ W2, W2 = W1.setRow w.heap.size R2.toArray := ⟨_, rfl⟩
 have hN2 : W2.heap[w.heap.size]? = some (.cells R2.toArray 98 (0, 0)) := by rw [hW2]; exact setRow_heap W1 _ _ _ _ (0, 0) hN1
 have hO2 : ∀ k, k < w.heap.size -> W2.heap[k]? = w.heap[k]? := fun k hk => by rw [hW2, setRow_block (by omega)]; exact hO1 k hk
 have hdl : (cs.drop (i * 2)).length = (n - i) * 2 := by rw [List.length_drop, hcl]; omega
 have hcellb : ∀ (W : World), W.heap = W2.heap -> ∀ (j : Nat) v, (cs.drop (i * 2))[j]? = some v -> W.cell? ((⟨b, off + i * 2, none⟩ : Addr).add j) = some v := fun W hW j v hj => by
  rw [List.getElem?_drop] at hj
  have := hcs _ v hj
  have e1 : (⟨b, off + i * 2, none⟩ : Addr).add j = ⟨b, off + i * 2 + j, none⟩ := by unfold Addr.add; split <;> simp_all
  have e2 : (⟨b, off, none⟩ : Addr).add (i * 2 + j) = ⟨b, off + i * 2 + j, none⟩ := by unfold Addr.add; split <;> simp_all <;> omega
  rw [e1]
  rw [e2] at this
  have hb : W.heap[b]? = w.heap[b]? := by rw [hW]; exact hO2 b hbw
  simpa [World.cell?, hb] using this
 have hcpB : ∀ (W : World), W.heap = W2.heap -> ∀ ty dc sc, (Builtin.copy_ #[54, 54] ty #[.slice (some ⟨w.heap.size, (i + 1) * 2, none⟩) (n - i) dc, .slice (some ⟨b, off + i * 2, none⟩) (n - i) sc]).run Tryd.prog W = .ok (goInt ((n - i : Nat) : Int)) (W.setRow w.heap.size (putSeg R2 ((i + 1) * 2) (cs.drop (i * 2))).toArray) := fun W hW ty dc sc => by
  have := run_copy_rowN (P := Tryd.prog) W 54 54 ty 98 2 w.heap.size ((i + 1) * 2) (n - i) dc ⟨b, off + i * 2, none⟩ (n - i) sc R2.toArray 98 (cs.drop (i * 2)) Tryd.underlying54 infoPair (by rw [hW]; exact hN2) (by rw [hdl]; simp only [Nat.min_def]; split <;> omega)
   (hcellb W hW) (by simp; omega) (fun v hv => hone v (List.mem_of_mem_drop hv))
  rw [this]
  have e : (n - i).min (n - i) = n - i := by simp only [Nat.min_def]; split <;> omega
  rw [e]
  rfl
 have fin : ∀ w' : World, w'.heap = (W2.setRow w.heap.size (putSeg R2 ((i + 1) * 2) (cs.drop (i * 2))).toArray).heap -> w'.os = w.os -> w'.tape = w.tape -> w'.output = w.output -> ∃ (G' : Nat) (row : List Value), n + 1 <= G' /\ row.length = G' * 2 /\ (Ending.returned (.slice (some ⟨w.heap.size, 0, none⟩) (n + 1) G) : Ending) = .returned (.slice (some ⟨w.heap.size, 0, none⟩) (n + 1) G') /\
  (∀ (j : Nat) v, (cs.take (i * 2) ++ vs ++ cs.drop (i * 2))[j]? = some v -> row[j]? = some v) /\ w'.heap[w.heap.size]? = some (.cells row.toArray 98 (0, 0)) /\ (∀ k, k < w.heap.size -> w'.heap[k]? = w.heap[k]?) /\ w'.os = w.os /\ w'.tape = w.tape /\ w'.output = w.output /\ w.heap.size <= w'.heap.size := fun w' h1 h2 h3 h4 => by
  refine ⟨G, putSeg R2 ((i + 1) * 2) (cs.drop (i * 2)), hGn, by rw [putSeg_len (by omega), hR2l, hRl], rfl, fun j v hj => ?_, by rw [h1]; exact setRow_heap W2 _ _ _ _ (0, 0) hN2, fun k hk => by rw [h1, setRow_block (by omega)]; exact hO2 k hk, h2, h3, h4, ?_⟩
  ·have hjl := (List.getElem?_eq_some_iff.1 hj).1
   simp only [List.length_append, List.length_take] at hjl
   unfold putSeg
   by_cases h5 : j < (i + 1) * 2
   ·rw [List.append_assoc, List.getElem?_append_left (by simp; omega), List.getElem?_take, if_pos h5, hR2]
    unfold putSeg
    by_cases h6 : j < i * 2
    ·rw [List.append_assoc, List.getElem?_append_left (by simp; omega), List.getElem?_take, if_pos h6]
     rw [List.append_assoc, List.getElem?_append_left (by simp; omega)] at hj
     exact hRt j v hj
    ·rw [List.append_assoc, List.getElem?_append_right (by simp; omega), List.getElem?_append_left (by simp; omega)]
     rw [List.append_assoc, List.getElem?_append_right (by simp; omega), List.getElem?_append_left (by simp; omega)] at hj
     rw [<- hj]
     simp
     congr 1
     omega
   ·rw [List.append_assoc, List.getElem?_append_right (by simp; omega), List.getElem?_append_left (by simp; omega)]
    rw [List.append_assoc, List.getElem?_append_right (by simp; omega), List.getElem?_append_right (by simp; omega)] at hj
    rw [<- hj]
    congr 1
    simp
    omega
  ·have : w'.heap.size = W2.heap.size := by rw [h1]; simp [World.setRow]
   have e2 : W2.heap.size = W1.heap.size := by rw [hW2]; simp [World.setRow]
   have e1 : W1.heap.size = w.heap.size + 1 := by rw [hW1]; exact Array.size_push _
   omega
 have hGi : ¬ (G = i) := by omega
 have hGim : ¬ (G = i + 1) := by omega
 have hci : ¬ (c = i) := by omega
 have hw1 : IntKind.i64.wrap ((i : Int) + 1) = (i : Int) + 1 := wrap_in (by omega)
 have hb1 : (0 : Int) <= (i : Int) + 1 := by omega
 have hin : i <= n := by omega
 have htn : ((i : Int) + 1).toNat = i + 1 := by omega
 have hb3 : (i : Int) <= (n : Int) := by omega
 have hb3' : (i : Int) <= (n : Int) + 1 := by omega
 have hb5 : (i : Int) + 1 <= (n : Int) + 1 := by omega
 have hb6 : n + 1 - (i + 1) = n - i := by omega
 have hz2 : ¬ ((i : Int) = (n : Int)) := by omega
 have hz3 : (c : Int) < (n : Int) + 1 := by omega
 have eA : ∀ W : World, W = W1 -> W.heap = W1.heap := fun W h => by rw [h]
 subst hW2
 subst hW1
 have hcpA' := hcpA (w.alloc (.cells ROW.toArray 98)).drew rfl
 have hcpB' := hcpB ((w.alloc (.cells ROW.toArray 98)).drew.setRow w.heap.size R2.toArray).drew rfl
 clear hkk hik hold hROW hG hRl hRt hR2 hR2l hN1 hO1 hN2 hO2 hdl hcellb eA hv hcs hone hcl
 go_enter Tryd.func35, Tryd.ntmps35
 go_wp2_with (first
  | (at_builtin; refine Lib.wpList_append_run _ rfl _ _ _ _ rfl _ _ rfl rfl _ _ (hrz _) ?_)
  | (at_builtin; refine wpList_copy_runI _ rfl _ _ 54 54 rfl _ _ rfl rfl (hcpA' _ _) ?_))
 go_region_law_o (refine step_copy_runI rfl _ _ 54 54 rfl _ _ (by simp [Act.eval, Act.put]) (by simp [Act.eval, Act.put]) (hcpB' _ _ _) ?_)
 go_wp2
 go_ret
 exact fin _ rfl rfl rfl rfl
theorem run_clear_one (w : World) (ty : TypeId) (b o c : Nat) (row : List Value) (hrow : w.heap[b]? = some (.cells row.toArray 98 (0, 0))) (hfit : o + 2 <= row.length) :
 (Builtin.clear_ #[54] ty #[.slice (some ⟨b, o, none⟩) 1 c]).run Tryd.prog w = .ok (.tuple #[]) (w.setRow b (putSeg row o [.int .i64 0, .int .i64 0]).toArray) := by
 have hzc : (Builtin.zeroCells (Value.agg #[.int .i64 0, .int .i64 0]).cells 1).toList = [.int .i64 0, .int .i64 0] := by kernel_rfl
 have hst := run_storeCells_at Tryd.prog b o 98 [.int .i64 0, .int .i64 0] 0 row.toArray w hrow (by simpa using hfit) (by
  intro v hv
  simp only [List.mem_cons, List.not_mem_nil, or_false] at hv
  rcases hv with rfl | rfl <;> rfl)
 simp only [Nat.add_zero] at hst
 simp only [Builtin.clear_, Sem.run_bind]
 simp [run_underlying Tryd.underlying54, Tryd.zeroValue98, hzc, hst, putSeg]
set_option maxHeartbeats 4000000 in
theorem delP (b off n c i j : Nat) (row : List Value) (w : World) (hij : j = i + 1) (hi : i < n) (hnc : n <= c) (hc63 : n <= 1000000)
 (hrow : w.heap[b]? = some (.cells row.toArray 98 (0, 0))) (hfit : off + c * 2 <= row.length) (hone : ∀ v ∈ (row.drop off).take (n * 2), v.oneCell' = true) :
 Calls Tryd.prog 36 #[.slice (some ⟨b, off, none⟩) n c, .int .i64 i, .int .i64 j] w fun e w' =>
  e = .returned (.slice (some ⟨b, off, none⟩) (n - 1) c) /\ w' = (w.drew.setRow b (putSeg row (off + i * 2) ((row.drop (off + j * 2)).take ((n - j) * 2))).toArray).setRow b (putSeg (putSeg row (off + i * 2) ((row.drop (off + j * 2)).take ((n - j) * 2))) (off + (n - 1) * 2) [.int .i64 0, .int .i64 0]).toArray := by
 obtain ⟨i0, hi0, hi1, hi2, hi3⟩ := pairI
 have mixed : Tryd.prog.follows Departure.mixedOrders = true := by kernel_rfl
 obtain ⟨s1, s2⟩ := seg_get row (off + j * 2) ((n - j) * 2) (by omega)
 obtain ⟨cs, hcs⟩ : ∃ cs, cs = (row.drop (off + j * 2)).take ((n - j) * 2) := ⟨_, rfl⟩
 rw [<- hcs] at s1 s2 ⊢
 have hone1 : ∀ v ∈ cs, v.oneCell' = true := fun v hv => by
  obtain ⟨k, hk⟩ := List.mem_iff_getElem?.1 hv
  have q3 := s2 k v hk
  have hkl := (List.getElem?_eq_some_iff.1 hk).1
  rw [s1] at hkl
  refine hone v (List.mem_iff_getElem?.2 ⟨j * 2 + k, ?_⟩)
  rw [List.getElem?_take, if_pos (by omega), List.getElem?_drop, show off + (j * 2 + k) = off + j * 2 + k by omega]
  exact q3
 obtain ⟨A, hA, hsrc⟩ : ∃ A : Addr, (if c = j then some (⟨b, off, none⟩ : Addr) else some ⟨b, off + j * 2, none⟩) = some A /\ (∀ (t : Nat) u, cs[t]? = some u -> w.drew.cell? (A.add t) = some u) := by
  by_cases h : c = j
  ·refine ⟨⟨b, off, none⟩, by simp [h], fun t u hu => ?_⟩
   have h0 : cs.length = 0 := by rw [s1]; have : n - j = 0 := by omega
                                 rw [this]
   rw [List.length_eq_zero_iff.1 h0] at hu
   simp at hu
  ·exact ⟨⟨b, off + j * 2, none⟩, by simp [h], fun t u hu => cell_row (w := w.drew) hrow _ t u (s2 t u hu)⟩
 have hap : ∀ ty dc, (Builtin.append_ #[54, 54] ty #[.slice (some ⟨b, off, none⟩) i c, .slice (some A) (n - j) dc]).run Tryd.prog w.drew = .ok (.slice (some ⟨b, off, none⟩) (n - 1) c) (w.drew.setRow b (putSeg row (off + i * 2) cs).toArray) := fun ty dc => by
  have := run_append_at (P := Tryd.prog) w.drew 54 ty 98 i0 Tryd.underlying54 hi0 b off i c row.toArray 98 hrow A (n - j) dc cs (by rw [s1, hi1]) hsrc hone1 (by omega) (by rw [hi1]; simp; omega)
  rw [this, hi1, show i + (n - j) = n - 1 by omega]
  rfl
 obtain ⟨r1, hr1⟩ : ∃ r1, r1 = putSeg row (off + i * 2) cs := ⟨_, rfl⟩
 have hr1l : r1.length = row.length := by rw [hr1]; exact putSeg_len (by omega)
 rw [<- hr1] at hap ⊢
 obtain ⟨W1, hW1⟩ : ∃ W1, W1 = w.drew.setRow b r1.toArray := ⟨_, rfl⟩
 have hW1b : W1.heap[b]? = some (.cells r1.toArray 98 (0, 0)) := by rw [hW1]; exact setRow_heap w.drew b _ _ _ (0, 0) hrow
 have hcl : ∀ ty dc, (Builtin.clear_ #[54] ty #[.slice (some ⟨b, off + (n - 1) * 2, none⟩) 1 dc]).run Tryd.prog W1 = .ok (.tuple #[]) (W1.setRow b (putSeg r1 (off + (n - 1) * 2) [.int .i64 0, .int .i64 0]).toArray) := fun ty dc => run_clear_one W1 ty b _ dc r1 hW1b (by omega)
 rw [<- hW1] at hap ⊢
 have hic : i <= c := by omega
 have hjc : j <= c := by omega
 have hjn : j <= n := by omega
 have hin : i <= n := by omega
 have hijle : i <= j := by omega
 have hz : ¬ ((i : Int) = (j : Int)) := by omega
 have h1n : n - (n - 1) = 1 := by omega
 have hcn : ¬ (c = n - 1) := by omega
 have hle : n - 1 <= n := by omega
 have hle2 : ((n - 1 : Nat) : Int) <= (n : Int) := by omega
 clear hij hrow hone hone1 s1 s2 hcs hsrc hr1 hr1l hW1b hW1 hi0 hi1 hi2 hi3
 go_enter Tryd.func36, Tryd.ntmps36
 go_wp2_with fail
 go_region_law_o (refine step_append_runI rfl _ _ 54 54 rfl _ (.slice (some A) (n - j) (c - j)) (by simp [Act.eval, Act.put]) (by simp [Act.eval, Act.put, hA]) (hap _ _) ?_)
 go_wp2
 go_ret
 exact ⟨rfl, rfl⟩
end Go.Proofs.YtpapbhbnaalhcaaDoor

namespace Go.Proofs.YtpapbhbnaalhcaaDoor
open Go Go.Sx Go.Proofs
set_option linter.unusedVariables false
set_option maxRecDepth 100000
def cmpS : List SV -> Hp AV -> T (SV × Hp AV)
 | [.v (.agg [k, v]), .v (.c t)], H => match iOf k, iOf v, iOf t with
   | some a, some b, some c => .leaf (.v (.c (.it .i64 (IntKind.i64.wrap (a - c)))), H)
   | _, _, _ => .fail "cmp"
 | _, _ => .fail "cmp"
def tabC : Tab := fun f => match Nat.beq f 46 with
 | true => some cmpS
 | false => none
noncomputable def bodyB : Code := match Tryd.f45.body with | some c => c | none => .skip
noncomputable def LB : Code := match loopsOf bodyB with | (_, c) :: _ => c | _ => .skip
theorem loopsB : loopsOf bodyB = [(3, LB)] := by kernel_rfl
def ksB : List Nat := [0, 1, 2, 8, 9, 10]
def hpB (l : List Pr) : Hp AV := [none, none, none, none, none, none, none, some (.abs (.pairs l))]
def famEB (len : Nat) (key n i j : Int) : Ev := only ksB [(0, .v (.c (.vs 7 0 len 2 false))), (1, .v (.c (.it .i64 key))), (2, .v (.c (.fn 46))), (8, .v (.c (.it .i64 n))), (9, .v (.c (.it .i64 i))), (10, .v (.c (.it .i64 j)))] 49
def famB (l : List Pr) (len : Nat) (key n i j : Int) : St AV := { E := famEB len key n i j, H := hpB l }
def mapB (r : Ex × St AV) : Ex × St AV := (r.1, { r.2 with E := only ksB r.2.E 49 })
def mid (i j : Int) : Int := IntKind.wrap .i64 (shI .shr .u64 (IntKind.wrap .u64 (IntKind.wrap .i64 (i + j))) 1)
def loopBT (l : List Pr) (len : Nat) (key n i j : Int) : T (Ex × St AV) := .ite (decide (i < j))
 (.need (match decide (0 <= mid i j /\ mid i j < (len : Int)) with | true => decide (0 + (mid i j).toNat < l.length) | false => false)
   (.ite (decide (IntKind.wrap .i64 (Pr.key (l.getD (0 + (mid i j).toNat) kpairs.dflt) - key) < 0))
     (.leaf (.normal, famB l len key n (IntKind.wrap .i64 (mid i j + 1)) j))
     (.leaf (.normal, famB l len key n i (mid i j)))))
 (.leaf (.exit 0, famB l len key n i j))
theorem loopB (σ : Sg) (l : List Pr) (len : Nat) (key n i j : Int) : T.map mapB (xc (NV σ) (joinCal (lv (NV σ) tabC 5)) (fun _ => none) 49 LB (famB l len key n i j)) = loopBT l len key n i j := by kernel_rfl
def bsI (l : List Pr) (key : Int) : Nat -> Nat -> Nat -> Nat
 | 0, i, _ => i
 | f + 1, i, j => if i < j then (if IntKind.wrap .i64 (Pr.key (l.getD ((i + j) / 2) kpairs.dflt) - key) < 0 then bsI l key f ((i + j) / 2 + 1) j else bsI l key f i ((i + j) / 2)) else i
theorem bsI_le (l : List Pr) (key : Int) : ∀ (f i j : Nat), i <= j -> bsI l key f i j <= j
 | 0, i, j, h => h
 | f + 1, i, j, h => by
   simp only [bsI]
   split
   ·split
    ·exact bsI_le l key f _ _ (by omega)
    ·exact Nat.le_trans (bsI_le l key f _ _ (by omega)) (by omega)
   ·exact h
theorem mid_eq {i j : Nat} (h : i + j < 9223372036854775808) : mid i j = (((i + j) / 2 : Nat) : Int) := by
 unfold mid shI
 have e1 : IntKind.wrap .i64 ((i : Int) + (j : Int)) = ((i + j : Nat) : Int) := by rw [wrap_in (by omega)]; omega
 rw [e1]
 have e2 : IntKind.wrap .u64 (((i + j : Nat)) : Int) = ((i + j : Nat) : Int) := by
  unfold IntKind.wrap; simp [IntKind.bits, IntKind.signed]; omega
 rw [e2]
 have e3 : (((i + j : Nat)) : Int).fdiv (2 ^ min (1 : Int).toNat (IntKind.bits .u64)) = (((i + j) / 2 : Nat) : Int) := by
  have : (2 : Int) ^ min (1 : Int).toNat (IntKind.bits .u64) = 2 := by decide
  rw [this, Int.fdiv_eq_ediv_of_nonneg _ (by decide)]
  omega
 simp only [e3]
 exact wrap_in (by omega)
def gB (s : St AV) : T (Ex × St AV) :=
 match s.H with
 | [none, none, none, none, none, none, none, some (.abs (.pairs l))] =>
   match Sx.look s.E 0, Sx.look s.E 1, Sx.look s.E 2, Sx.look s.E 8, Sx.look s.E 9, Sx.look s.E 10 with
   | .v (.c (.vs 7 0 len 2 false)), .v (.c (.it .i64 key)), .v (.c (.fn 46)), .v (.c (.it .i64 n)), .v (.c (.il .i64 0)), .v (.c (.it .i64 m)) =>
     .need (decide (n = (l.length : Int) /\ m = (l.length : Int) /\ len = l.length /\ l.length < 4611686018427387904))
      (.leaf (.exit 0, { E := only [0, 1, 2, 8, 9] ((9, .v (.c (.it .i64 (bsI l key l.length 0 l.length)))) :: s.E) 49, H := hpB l }))
   | _, _, _, _, _, _ => .fail "search"
 | _ => .fail "search"
theorem says_lookB {k : Nat} {E E' : Ev} {v : SV} (h : only ksB E 49 = E') (hk : Sx.look E' k = v) (hks : hasN ksB k = true) (hlt : k < 49) : Sx.look E k = v := by
 rw [<- h, only_look, if_pos hlt, hks] at hk
 exact hk
theorem plI1 (n : Int) : Plain (.v (.c (.it .i64 n))) := by
 intro c hc
 simp [V1.cells] at hc
 subst hc
 rfl
theorem cmp_run (σ : Sg) (a b c : Int) : (lv (NV σ) (fun _ => none) 3 (.fn 46) [.v (.agg [.it .i64 a, .it .i64 b]), .v (.c (.it .i64 c))] (nones AV 7)).map (fun r => r.1) = .leaf (.v (.c (.it .i64 (IntKind.wrap .i64 (a - c))))) := by kernel_rfl
theorem cmpS_ok {σ : Sg} : TabOk Tryd.prog (NV σ) tabC := by
 intro f g h
 unfold tabC at h
 split at h
 ·rename_i e
  have e := (beq_iff _ _).1 e
  subst e
  cases h
  refine fnOk_pure fun args H v H' h => ?_
  unfold cmpS at h
  split at h
  ·rename_i k q t
   split at h
   ·rename_i a b c hk hq ht
    simp only [T.val, Option.some.injEq, Prod.mk.injEq] at h
    obtain ⟨rfl, rfl⟩ := h
    refine ⟨rfl, plI1 _, fun ρ hg w hr => ?_⟩
    have hm : (lv (NV σ) (fun _ => none) 3 (.fn 46) [.v (.agg [.it .i64 a, .it .i64 b]), .v (.c (.it .i64 c))] (nones AV 7)).val.map (fun r => r.1) = some (.v (.c (.it .i64 (IntKind.wrap .i64 (a - c))))) := by rw [<- T.val_map, cmp_run]; rfl
    obtain ⟨⟨u, H2⟩, h1, h2⟩ := Option.map_eq_some_iff.1 hm
    simp only at h2
    subst h2
    have hpl : ∀ x ∈ [SV.v (.agg [.it .i64 a, .it .i64 b]), SV.v (.c (.it .i64 c))], Plain x := by
     intro x hx
     simp only [List.mem_cons, List.not_mem_nil, or_false] at hx
     rcases hx with rfl | rfl
     ·intro d hd
      simp only [V1.cells, List.mem_cons, List.not_mem_nil, or_false] at hd
      rcases hd with rfl | rfl <;> rfl
     ·exact plI1 c
    have := pure_calls (fnV lpsV (fun f g h => by cases h) 3 46) (k := 7) h1 hpl (plI1 _) ρ hg w hr
    simp only [List.map_cons, List.map_nil, SV.den, V1.den, denL, iOf_d hk, iOf_d hq, iOf_d ht]
    exact this
   ·simp [T.val] at h
  ·simp [T.val] at h
 ·cases h
theorem gB_ok {σ : Sg} {N' : Env AV} (hF : N'.F = (NV σ).F) (hG : N'.G = (NV σ).G) : LoopOk Tryd.prog N' 49 LB gB := by
 have hcal : CalOk Tryd.prog (NV σ) (joinCal (lv (NV σ) tabC 5)) := joinCal_ok (lv_ok okV lpsV hvV cmpS_ok 5)
 refine loopOk_fam (N := NV σ) hF hG okV hcal (lp := fun _ => none) (fun _ _ _ g hg => by cases hg) fun s s' ex h => ?_
 obtain ⟨E, H⟩ := s
 unfold gB at h
 split at h
 ·rename_i l hs
  simp only at hs
  subst hs
  split at h
  ·rename_i len key n m e0 e1 e2 e8 e9 e10
   simp only at e0 e1 e2 e8 e9 e10
   have hq := need_some h
   clear h
   have hb := hq.1
   have h9 := Option.some.inj hq.2
   clear hq
   obtain ⟨rfl, rfl, rfl, hbig⟩ := of_decide_eq_true hb
   have q1 := congrArg Prod.fst h9
   have q2 := congrArg Prod.snd h9
   simp only at q1 q2
   clear h9
   subst q1
   subst q2
   refine ⟨⟨{ ι := { p : Nat × Nat × Nat // p.2.1 <= p.2.2 /\ p.2.2 <= l.length /\ p.2.2 - p.2.1 <= p.1 /\ bsI l key p.1 p.2.1 p.2.2 = bsI l key l.length 0 l.length }, fam := fun p => famB l l.length key l.length p.1.2.1 p.1.2.2, ks := ksB, μ := fun p => p.1.1, i0 := ⟨(l.length, 0, l.length), Nat.zero_le _, Nat.le_refl _, by simp, rfl⟩, says := ?_, heap := rfl, step := ?_ }⟩, rfl, ?_⟩
   ·refine says_only (nt := 49) (ks := ksB) (E := E) fun k hk _ => ?_
    simp only [ksB, List.mem_cons, List.not_mem_nil, or_false] at hk
    rcases hk with rfl | rfl | rfl | rfl | rfl | rfl
    ·rw [e0]; exact .inl rfl
    ·rw [e1]; exact .inl rfl
    ·rw [e2]; exact .inl rfl
    ·rw [e8]; exact .inl rfl
    ·rw [e9]; exact .inr ⟨by simp, plI1 0, fun ρ => rfl⟩
    ·rw [e10]; exact .inl rfl
   ·rintro ⟨⟨f, i, j⟩, h0, h1, h2, h3⟩
    simp only at h0 h1 h2 h3
    have htree := loopB σ l l.length key l.length i j
    have hm := mid_eq (i := i) (j := j) (by omega)
    by_cases hlt : i < j
    ·obtain ⟨f, rfl⟩ : ∃ f', f = f' + 1 := ⟨f - 1, by omega⟩
     have q0 : decide ((i : Int) < (j : Int)) = true := decide_eq_true (by omega)
     have q1 : decide (0 <= mid i j /\ mid i j < ((l.length : Nat) : Int)) = true := decide_eq_true (by rw [hm]; omega)
     have q2 : decide (0 + (mid i j).toNat < l.length) = true := decide_eq_true (by rw [hm]; omega)
     have ht : (mid i j).toNat = (i + j) / 2 := by rw [hm]; omega
     have q3 : decide ((i + j) / 2 < l.length) = true := decide_eq_true (by omega)
     rw [bsI, if_pos hlt] at h3
     by_cases hc : IntKind.wrap .i64 (Pr.key (l.getD ((i + j) / 2) kpairs.dflt) - key) < 0
     ·rw [if_pos hc] at h3
      have hw : IntKind.wrap .i64 (mid i j + 1) = (((i + j) / 2 + 1 : Nat) : Int) := by rw [hm, wrap_in (by omega)]; omega
      have e : (loopBT l l.length key l.length i j).val = some (.normal, famB l l.length key l.length (((i + j) / 2 + 1 : Nat) : Int) j) := by
       simp only [loopBT, T.val, q0, q1, ht, Nat.zero_add, q3, decide_eq_true hc, hw]
      rw [<- htree, T.val_map] at e
      obtain ⟨⟨ex, s1⟩, g1, g2⟩ := Option.map_eq_some_iff.1 e
      simp only [mapB, Prod.mk.injEq] at g2
      obtain ⟨rfl, g2⟩ := g2
      exact ⟨.normal, s1, g1, ⟨(f, (i + j) / 2 + 1, j), by simp only; omega, h1, by simp only; omega, h3⟩, by simp only; omega, g2⟩
     ·rw [if_neg hc] at h3
      have e : (loopBT l l.length key l.length i j).val = some (.normal, famB l l.length key l.length i (((i + j) / 2 : Nat) : Int)) := by
       simp only [loopBT, T.val, q0, q1, ht, Nat.zero_add, q3, decide_eq_false hc]
       rw [hm]
      rw [<- htree, T.val_map] at e
      obtain ⟨⟨ex, s1⟩, g1, g2⟩ := Option.map_eq_some_iff.1 e
      simp only [mapB, Prod.mk.injEq] at g2
      obtain ⟨rfl, g2⟩ := g2
      exact ⟨.normal, s1, g1, ⟨(f, i, (i + j) / 2), by simp only; omega, by simp only; omega, by simp only; omega, h3⟩, by simp only; omega, g2⟩
    ·have q0 : decide ((i : Int) < (j : Int)) = false := decide_eq_false (by omega)
     have e : (loopBT l l.length key l.length i j).val = some (.exit 0, famB l l.length key l.length i j) := by
      simp only [loopBT, T.val, q0]
     rw [<- htree, T.val_map] at e
     obtain ⟨⟨ex, s1⟩, g1, g2⟩ := Option.map_eq_some_iff.1 e
     simp only [mapB, Prod.mk.injEq] at g2
     obtain ⟨rfl, g2⟩ := g2
     have hfin : bsI l key l.length 0 l.length = i := by
      rw [<- h3]
      cases f with
      | zero => rfl
      | succ f => rw [bsI, if_neg hlt]
     have hE : only ksB s1.E 49 = famEB l.length key l.length i j := congrArg St.E g2
     have hH : s1.H = hpB l := congrArg St.H g2
     refine ⟨.exit 0, s1, g1, rfl, ?_, hH⟩
     refine says_only (nt := 49) (ks := [0, 1, 2, 8, 9]) (E := s1.E) fun k hk hk1 => ?_
     simp only [List.mem_cons, List.not_mem_nil, or_false] at hk
     have l0 := says_lookB (k := 0) hE rfl rfl (by decide)
     have l1 := says_lookB (k := 1) hE rfl rfl (by decide)
     have l2 := says_lookB (k := 2) hE rfl rfl (by decide)
     have l8 := says_lookB (k := 8) hE rfl rfl (by decide)
     have l9 := says_lookB (k := 9) hE rfl rfl (by decide)
     rcases hk with rfl | rfl | rfl | rfl | rfl
     ·rw [l0]; exact .inl e0
     ·rw [l1]; exact .inl e1
     ·rw [l2]; exact .inl e2
     ·rw [l8]; exact .inl e8
     ·rw [l9]; refine .inl ?_
      show SV.v (.c (.it .i64 (bsI l key l.length 0 l.length : Nat))) = _
      rw [hfin]
      rfl
   ·intro hcl
    refine ⟨fun k => ?_, hcl.H⟩
    simp only [only_look]
    split
    ·split
     ·by_cases hk : k = 9
      ·subst hk; exact (plI1 _).cl _
      ·have : Sx.look ((9, SV.v (.c (.it .i64 (bsI l key l.length 0 l.length : Nat)))) :: E) k = Sx.look E k := by
        simp only [Sx.look, (beq_false_iff 9 k).2 (Ne.symm hk)]
       rw [this]; exact hcl.E k
     ·trivial
    ·exact undef_cl _
  ·simp [T.val] at h
 ·simp [T.val] at h
end Go.Proofs.YtpapbhbnaalhcaaDoor

namespace Go.Proofs.YtpapbhbnaalhcaaDoor
open Go Go.Sx Go.Proofs
set_option linter.unusedVariables false
set_option maxRecDepth 100000
def lpB : Lp := fun f => match Nat.beq f 45 with
 | true => fun id => match Nat.beq id 3 with
   | true => some gB
   | false => none
 | false => fun _ => none
theorem bodyB_eq : Tryd.f45.body = some bodyB := by kernel_rfl
theorem ntB : Tryd.f45.ntmps = 49 := by kernel_rfl
theorem ftB : ft.get 45 = some Tryd.f45 := by kernel_rfl
theorem lpsB {σ : Sg} : LpsOk Tryd.prog (NVl lpB σ) := by
 intro f fn c hf hc id b hb g hg
 have hg : lpB f id = some g := hg
 by_cases e : f = 45
 ·subst e
  have hf : ft.get 45 = some fn := hf
  rw [ftB] at hf
  cases hf
  rw [bodyB_eq] at hc
  cases hc
  rw [loopsB] at hb
  rw [ntB]
  simp only [List.mem_cons, List.not_mem_nil, or_false, Prod.mk.injEq] at hb
  obtain ⟨rfl, rfl⟩ := hb
  have e1 : lpB 45 3 = some gB := rfl
  rw [e1] at hg
  cases hg
  exact gB_ok (σ := σ) rfl rfl
 ·unfold lpB at hg
  rw [(beq_false_iff _ _).2 e] at hg
  cases hg
structure CreedM where
 st : Int
 vals : List N1
 pairs : List Pr
def creedC (m : CreedM) : List (GC AV) := [.p (.it .i64 m.st), .s (.ints m.vals) m.vals.length 1, .s (.pairs m.pairs) m.pairs.length 2]
def creedV (m : CreedM) : AV := .obj 1 tCreed (creedC m)
def noM : List Bool := List.replicate 7 false
theorem tabC_l {σ : Sg} : TabOk Tryd.prog (NVl lpB σ) tabC := fun f g h => fnOk_env (N := NV σ) (N' := NVl lpB σ) rfl rfl (cmpS_ok f g h)
def argsB (n len : Nat) (kn : Bool) (k : Cell) : List SV := [.v (.c (.vs n 0 len 2 kn)), .v (.c k), .v (.c (.fn 46))]
noncomputable def bsR_T (σ : Sg) (p : List Pr) (key : Int) : T (SV × List AV × List AV) :=
 let x0 : Int := (↑(List.length p) : Int);
 let x1 : Int := (↑(bsI p key (List.length p) 0 (List.length p)) : Int);
 let x2 : Nat := 0 + Int.toNat x1;
 let x3 : Bool := decide (x1 < x0) == true;
 T.need (decide (x0 = x0 /\ x0 = x0 /\ List.length p = List.length p /\ List.length p < 4611686018427387904)) (T.need (match x3 with | true => (match decide (0 <= x1 /\ x1 < x0) with | true => decide (x2 < List.length p) | false => false) | false => true) (T.leaf (SV.tup [V1.c (Cell.it IntKind.i64 (match x3 with | true => x1 | false => x1)), V1.c (Cell.bt (match x3 with | true => IntKind.wrap IntKind.i64 (Pr.key (List.getD p x2 (AK.dflt kpairs)) - key) == 0 | false => false))], [AV.pairs p], [])))
theorem bsR (σ : Sg) (p : List Pr) (key : Int) : runN lpB σ tabC 45 noM (argsB 7 p.length false (.it .i64 key)) [.pairs p] = bsR_T σ p key := by kernel_rfl
def fN (p : List Pr) (key : Int) : Nat := bsI p key p.length 0 p.length
def fB (p : List Pr) (key : Int) : Bool := if fN p key < p.length then IntKind.wrap .i64 (Pr.key (p.getD (fN p key) kpairs.dflt) - key) == 0 else false
theorem bsR_val (σ : Sg) (p : List Pr) (key : Int) (h : p.length < 4611686018427387904) : (bsR_T σ p key).val = some (.tup [.c (.it .i64 (fN p key)), .c (.bt (fB p key))], [.pairs p], []) := by
 have l1 : Intf.len (F2 σ) (AV.pairs p) = p.length := rfl
 have e0 : (0 + ((bsI p key p.length 0 p.length : Nat) : Int).toNat) = bsI p key p.length 0 p.length := by omega
 simp only [bsR_T, T.val, l1, e0, true_and, decide_eq_true h, decide_true]
 by_cases hlt : bsI p key p.length 0 p.length < p.length
 ·have q1 : decide (((bsI p key p.length 0 p.length : Nat) : Int) < (p.length : Int)) = true := decide_eq_true (by omega)
  have q2 : decide (0 <= ((bsI p key p.length 0 p.length : Nat) : Int) /\ ((bsI p key p.length 0 p.length : Nat) : Int) < (p.length : Int)) = true := decide_eq_true (by omega)
  have e1 : fB p key = (IntKind.wrap .i64 (Pr.key (p.getD (bsI p key p.length 0 p.length) kpairs.dflt) - key) == 0) := if_pos hlt
  simp only [q1, q2, decide_eq_true hlt, beq_self_eq_true, e1]
  rfl
 ·have q1 : decide (((bsI p key p.length 0 p.length : Nat) : Int) < (p.length : Int)) = false := decide_eq_false (by omega)
  have e1 : fB p key = false := if_neg hlt
  simp only [q1, e1]
  rfl
def creedX : AV -> Option CreedM
 | .obj 1 ty [.p (.it .i64 st), .s (.ints v) n 1, .s (.pairs p) k 2] => match Nat.beq ty tCreed, Nat.beq n v.length, Nat.beq k p.length with
   | true, true, true => some ⟨st, v, p⟩
   | _, _, _ => none
 | _ => none
def bsS (args : List SV) (l : List AV) : T (SV × List AV × List AV) := match args, l with
 | [.v (.c (.vs n 0 len 2 false)), .v (.c k), .v (.c (.fn f))], [.pairs p] => match Nat.beq n 7, iOf k, Nat.beq f 46 with
   | true, some key, true => .need (decide (len = p.length /\ p.length < 4611686018427387904)) (.leaf (.tup [.c (.it .i64 (fN p key)), .c (.bt (fB p key))], [.pairs p], []))
   | _, _, _ => .fail "search"
 | _, _ => .fail "search"
theorem cl_it {H : Hp AV} (n : Int) : ClV H (.v (.c (.it .i64 n))) := by
 intro c hc
 simp [V1.cells] at hc
 subst hc
 intro m hm
 cases hm
theorem cl_ptr {H : Hp AV} {n o : Nat} {x : Chunk AV} (h : hget H n = some x) : ClV H (.v (.c (.ptr n o))) := by
 intro c hc
 simp [V1.cells] at hc
 subst hc
 intro m hm
 cases hm
 exact ⟨_, h⟩
theorem hpO_at (M : List Bool) (l : List AV) (j : Nat) (a : AV) (h : l[j]? = some a) : hget (hpO M l) (M.length + j) = some (.abs a) := by
 unfold hpO
 rw [hget_append, sentL_len, if_neg (by omega), show M.length + j - M.length = j by omega]
 exact (absL_get _ _ _).2 ⟨a, h, rfl⟩
theorem bsS_ok {σ : Sg} : FnOk Tryd.prog (NV σ) 45 (sumG isS noM bsS) := by
 refine fnOk_env (N := NVl lpB σ) (N' := NV σ) rfl rfl ?_
 refine sumG_ok isS_ok rfl fun args l v l' nw h hl hargs => ?_
 unfold bsS at h
 split at h
 ·rename_i n len k f p
  split at h
  ·rename_i key h1 h2 h3
   have hn := (beq_iff _ _).1 h1
   subst hn
   have hf := (beq_iff _ _).1 h3
   subst hf
   replace h := need_some h
   obtain ⟨hb, h⟩ := h
   obtain ⟨rfl, hb2⟩ := of_decide_eq_true hb
   simp only [T.val, Option.some.injEq, Prod.mk.injEq] at h
   obtain ⟨rfl, rfl, rfl⟩ := h
   have hr := bsR_val σ p key hb2
   rw [<- bsR] at hr
   have h0 : hget (hpO noM [AV.pairs p]) 7 = some (.abs (.pairs p)) := hpO_at noM [AV.pairs p] 0 _ rfl
   have hc := runN_ok lpsB tabC_l (M := noM) rfl (l := [AV.pairs p]) (fun x hx => by
    simp only [argsB, List.mem_cons, List.not_mem_nil, or_false] at hx
    rcases hx with rfl | rfl | rfl
    ·intro c hc
     simp [V1.cells] at hc
     subst hc
     intro m hm
     cases hm
     exact ⟨_, h0⟩
    ·exact cl_it _
    ·intro c hc
     simp [V1.cells] at hc
     subst hc
     intro m hm
     cases hm) hr
   refine ctr_args hc.1 fun ρ => ?_
   simp only [argsB, List.map_cons, List.map_nil, SV.den, V1.den, iOf_d h2 ρ, Cell.den]
  ·simp [T.val] at h
 ·simp [T.val] at h
def tabA : Tab := fun f => match Nat.beq f 45 with
 | true => some (sumG isS noM bsS)
 | false => none
theorem tabA_ok {σ : Sg} : TabOk Tryd.prog (NV σ) tabA := fun f g h => by
 unfold tabA at h
 split at h
 ·rename_i e
  have e := (beq_iff _ _).1 e
  subst e
  cases h
  exact bsS_ok
 ·cases h
end Go.Proofs.YtpapbhbnaalhcaaDoor

namespace Go.Proofs
open Go Go.Sx Go.Proofs
open Go.Shelf in
def Tryd.cloneI_ren : Go.Shelf.Ren := ⟨fun | 41 => 52 | n => n, fun | 22 => 39 | 23 => 3 | 4 => 4 | n => n, fun | n => n⟩
theorem Tryd.cloneI : Go.Proofs.SlLaysE0.n41 Tryd.prog Tryd.cloneI_ren := {
 mixed := by kernel_rfl
 f41 := ⟨Tryd.f52.name, by decide, Tryd.func52.trans (congrArg some (by kernel_rfl))⟩
 t4 := Tryd.underlying4
 a4 := Tryd.isAgg4
 z4 := Tryd.sizeOf4
 v4 := Tryd.zeroValue4
 t22 := Tryd.underlying39
 a22 := Tryd.isAgg39
 z22 := Tryd.sizeOf39
 v22 := Tryd.zeroValue39 }
open Go.Shelf in
def Tryd.cloneP_ren : Go.Shelf.Ren := ⟨fun | 41 => 53 | n => n, fun | 22 => 54 | 23 => 98 | 4 => 4 | n => n, fun | n => n⟩
theorem Tryd.cloneP : Go.Proofs.SlLaysE0.n41 Tryd.prog Tryd.cloneP_ren := {
 mixed := by kernel_rfl
 f41 := ⟨Tryd.f53.name, by decide, Tryd.func53.trans (congrArg some (by kernel_rfl))⟩
 t4 := Tryd.underlying4
 a4 := Tryd.isAgg4
 z4 := Tryd.sizeOf4
 v4 := Tryd.zeroValue4
 t22 := Tryd.underlying54
 a22 := Tryd.isAgg54
 z22 := Tryd.sizeOf54
 v22 := Tryd.zeroValue54 }
end Go.Proofs
namespace Go.Proofs.YtpapbhbnaalhcaaDoor
open Go Go.Sx Go.Proofs Go.RowKit
def CloneC (f : FuncId) (es : Nat) (ty : TypeId) : Prop :=
 (∀ (n c : Nat) (w : World), Calls Tryd.prog f #[.slice none n c] w fun e w' => e = .returned (.slice none 0 0) /\ w' = w) /\
 ∀ (b off n c : Nat) (news : List Value) (w : World), news.length = n * es -> n <= 1000000 -> (∀ j u, news[j]? = some u -> w.cell? ⟨b, off + j, none⟩ = some u) -> (∀ u ∈ news, u.oneCell' = true) ->
   Calls Tryd.prog f #[.slice (some ⟨b, off, none⟩) n c] w fun e w' => ∃ v', e = .returned v' /\ w'.ownsRow w.heap.size ty es v' n news /\ v' ≠ .slice none 0 0 /\ Below w.heap.size w w'
def cloneS (ok : AV -> Bool) (es : Nat) (args : List SV) (l : List AV) : T (SV × List AV × List AV) := match args, l with
 | [.v (.c (.vs n 0 len e false))], [a] => match Nat.beq n 7, Nat.beq e es, ok a with
   | true, true, true => .need (decide (len = a.len /\ len <= 1000000)) (.leaf (.v (.c (.vs (7 + 1) 0 len es false)), [a], [a]))
   | _, _, _ => .fail "copy"
 | _, _ => .fail "copy"
theorem cloneS_ok {σ : Sg} {f : FuncId} {es : Nat} {ty : TypeId} (hc : CloneC f es ty) {ok : AV -> Bool} (hok : ∀ a, ok a = true -> ∃ vs, a.arr = some (es, ty, vs)) : FnOk Tryd.prog (NV σ) f (sumG isS noM (cloneS ok es)) := by
 refine sumG_ok isS_ok rfl fun args l v l' nw h hl hargs => ?_
 unfold cloneS at h
 split at h
 ·rename_i n len e a
  split at h
  ·rename_i h1 h2 h3
   have hn := (beq_iff _ _).1 h1
   have he := (beq_iff _ _).1 h2
   subst hn he
   replace h := need_some h
   obtain ⟨hb, h⟩ := h
   have hb := of_decide_eq_true hb
   simp only [T.val, Option.some.injEq, Prod.mk.injEq] at h
   obtain ⟨rfl, rfl, rfl⟩ := h
   obtain ⟨vs, harr⟩ := hok a h3
   have hF : (NV σ).F.arr a = some (e, ty, vs) := harr
   have hlen := (NV σ).F.len_ok a _ _ _ hF
   have hla : (NV σ).F.len a = len := hb.1.symm
   rw [hla] at hlen
   have h7 : hget (hpO noM [a]) 7 = some (.abs a) := hpO_at noM [a] 0 _ rfl
   have h8 : hget (hpO noM [a, a]) (7 + 1) = some (.abs a) := hpO_at noM [a, a] 1 _ rfl
   refine ⟨?_, hpO_cl noM [a, a], fun ρ w hO => ?_⟩
   ·intro c hcc
    simp [V1.cells] at hcc
    subst hcc
    intro m hm
    cases hm
    exact ⟨_, h8⟩
   ·obtain ⟨hone, hq⟩ := (NV σ).F.arr_q a _ _ _ hF
    have hv := (hq _ _ _).1 (hO.q 7 _ h7)
    have fin : ∀ (w' : World) (lc : Sx.Loc) (S' : Nat -> Prop), vecQ lc S' vs e ty w' -> Fr (fun _ => False) S' w w' -> ∃ ρ', vsDen lc 0 len e = (SV.v (.c (.vs (7 + 1) 0 len e false))).den ρ' /\ Own (NV σ) ρ' (hpO noM [a, a]) w' /\ Evo (NV σ) (hpO noM [a]).length ρ (hpO noM [a]) w ρ' (hpO noM [a, a]) w' := by
     intro w' lc S' g1 g2
     obtain ⟨o1, o2⟩ := arr_swap (N := NV σ) hO (hpO_cl noM [a]) (by show 7 <= _; exact Nat.le_succ _) (d := none) (fun n h => by cases h) hF (S := fun _ => False) (fun k h => h.elim) g1 g2
     refine ⟨_, ?_, o1, o2⟩
     show _ = vsDen ((ρ.set (7 + 1) lc S').L (7 + 1)) 0 len e
     rw [(set_L _ _ _ _).1]
    show Calls Tryd.prog f #[vsDen (ρ.L 7) 0 len e] w _
    rw [vsDen_eq]
    by_cases hn : len = 0 /\ (ρ.L 7).c = 0
    ·rw [if_pos hn]
     refine (hc.1 0 0 w).mono ?_
     rintro ex w' ⟨rfl, rfl⟩
     have hvs : vs = [] := List.eq_nil_of_length_eq_zero (by rw [hlen, hn.1, Nat.zero_mul])
     obtain ⟨ρ', r1, r2, r3⟩ := fin w' ⟨0, 0, 0⟩ (fun _ => False) (.inl ⟨Nat.zero_le _, hvs, fun _ h => h⟩) ⟨fun _ _ _ => rfl, fun k h => h.elim, rfl, rfl, rfl, Nat.le_refl _⟩
     refine ⟨ρ', ?_, r2, r3⟩
     rw [<- r1, vsDen_eq, if_pos ⟨hn.1, rfl⟩]
    ·rw [if_neg hn]
     refine (hc.2 _ _ len _ vs w hlen hb.2 (fun j u hu => ?_) hone).mono ?_
     ·have := vecQ_at hv j u hu
      have ea : (⟨(ρ.L 7).b, (ρ.L 7).o, none⟩ : Addr).add j = ⟨(ρ.L 7).b, (ρ.L 7).o + j, none⟩ := by unfold Addr.add; split <;> simp_all
      rw [ea] at this
      exact this
     ·rintro ex w' ⟨v', rfl, ⟨_, hown⟩, hne, hbl⟩
      rcases hown with ⟨h0, _⟩ | ⟨g, cap, cur, rfl, hg, hh, hle, _, hcs, htk⟩
      ·exact absurd h0 hne
      ·obtain ⟨ρ', r1, r2, r3⟩ := fin w' ⟨g, 0, cap + 1⟩ (fun k => k = g) (.inr ⟨Nat.succ_pos _, fun k => Iff.rfl, cur.toList, by rw [Array.toArray_toList]; exact hh, by simp [hcs], by rw [hlen]; exact Nat.mul_le_mul_right _ (by simpa using hle), fun j u hu => by
        rw [<- htk, List.getElem?_take] at hu
        split at hu
        ·simpa using hu
        ·cases hu⟩)
        ⟨fun k hk _ => hbl.block k hk, fun k hk => .inl (by rw [hk]; exact hg), hbl.os, hbl.tape, hbl.output, hbl.size⟩
       refine ⟨ρ', ?_, r2, r3⟩
       rw [<- r1, vsDen_eq, if_neg (fun h => by cases h.2)]
       rfl
  ·simp [T.val] at h
 ·simp [T.val] at h
theorem cloneC_of {f : FuncId} {rn : Go.Shelf.Ren} (L : SlLaysE0.n41 Tryd.prog rn) (hf : rn.f 41 = f) {t : TypeId} {si : SI} (hs : slT.get t = some si) (ht : rn.t 23 = si.e) (hb : si.bytes <= 1000) : CloneC f si.size si.e := by
 subst hf
 obtain ⟨hu, i, z, hi, hz, e1, e2, hpos, hzl, hzd, hzn⟩ := mkSI_spec (slOk t si hs)
 have hzs : z.cells.size = si.size := by
  have := congrArg List.length (hzd Nm.id)
  rw [den_len] at this
  simp at this
  omega
 refine ⟨fun n c w => AnyE.slices_Clone_nil L n c w, fun b off n c news w hl hn hc h1 => ?_⟩
 have h := AnyE.slices_Clone L i z si.size si.bytes (by rw [ht]; exact hi) hz e1 e2 hzs hpos (fun w => by rw [ht]; simp [Go.sizeOf, typeInfo, hi, e1]) b off n c news w hl (by simp only [maxLen]; omega) (by
  have : n * si.bytes <= 1000000 * 1000 := Nat.mul_le_mul hn hb
  omega) hc h1
 rw [ht] at h
 exact h
theorem cloneI_c : CloneC 52 1 3 := cloneC_of (t := 39) (si := ⟨3, 1, 8, [.il .i64 0]⟩) Tryd.cloneI rfl (by kernel_rfl) rfl (by decide)
theorem cloneP_c : CloneC 53 2 98 := cloneC_of (t := 54) (si := ⟨98, 2, 16, [.il .i64 0, .il .i64 0]⟩) Tryd.cloneP rfl (by kernel_rfl) rfl (by decide)
def okI : AV -> Bool | .ints _ => true | _ => false
def okP : AV -> Bool | .pairs _ => true | _ => false
def tabK : Tab := fun f => match Nat.beq f 52 with
 | true => some (sumG isS noM (cloneS okI 1))
 | false => match Nat.beq f 53 with
   | true => some (sumG isS noM (cloneS okP 2))
   | false => tabA f
theorem tabK_ok {σ : Sg} : TabOk Tryd.prog (NV σ) tabK := fun f g h => by
 unfold tabK at h
 split at h
 ·rename_i e
  have e := (beq_iff _ _).1 e
  subst e
  cases h
  exact cloneS_ok cloneI_c fun a ha => by cases a <;> first | (cases ha; done) | exact ⟨_, rfl⟩
 ·split at h
  ·rename_i e
   have e := (beq_iff _ _).1 e
   subst e
   cases h
   exact cloneS_ok cloneP_c fun a ha => by cases a <;> first | (cases ha; done) | exact ⟨_, rfl⟩
  ·exact tabA_ok f g h
end Go.Proofs.YtpapbhbnaalhcaaDoor
