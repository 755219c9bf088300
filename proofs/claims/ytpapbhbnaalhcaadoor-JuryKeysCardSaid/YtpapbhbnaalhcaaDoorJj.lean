import Derived.Test.YtpapbhbnaalhcaaDoorJi
import Derived.Test.YtpapbhbnaalhcaaDoorJv
namespace Go.Proofs.YtpapbhbnaalhcaaDoor
open Go Go.Sx Go.Proofs
set_option linter.unusedVariables false
set_option maxRecDepth 100000
def insS (args : List SV) (H : Hp AV) : T (SV × Hp AV) := match args with
 | [.v (.c (.vs n 0 len 2 false)), .v (.c x), .v (.c (.vs m 0 1 2 true))] => match hget H n, hget H m, iOf x, Nat.ble 7 H.length with
   | some (.abs (.pairs p)), some (.vec [c0, c1] 2 98), some i, true => match Pr.dec [c0, c1] with
     | some q => .need (decide (len = p.length /\ p.length <= 100000 /\ 0 <= i /\ i <= (p.length : Int))) (.leaf (.v (.c (.vs H.length 0 (len + 1) 2 false)), killO H (some n) ++ [some (.abs (.pairs (p.take i.toNat ++ (q :: p.drop i.toNat))))]))
     | none => .fail "Insert"
   | _, _, _, _ => .fail "Insert"
 | _ => .fail "Insert"
def delS (args : List SV) (H : Hp AV) : T (SV × Hp AV) := match args with
 | [.v (.c (.vs n 0 len 2 false)), .v (.c x), .v (.c y)] => match hget H n, iOf x, iOf y, Nat.ble 7 H.length with
   | some (.abs (.pairs p)), some i, some j, true => .need (decide (len = p.length /\ p.length <= 100000 /\ 0 <= i /\ i < (p.length : Int) /\ j = i + 1)) (.leaf (.v (.c (.vs H.length 0 (len - 1) 2 false)), killO H (some n) ++ [some (.abs (.pairs (p.take i.toNat ++ p.drop (i.toNat + 1))))]))
   | _, _, _, _ => .fail "Delete"
 | _ => .fail "Delete"
theorem pvals_len (p : List Pr) : (kpairs.vals p).length = p.length * 2 := kpairs.vals_len p
theorem pvals_take (p : List Pr) (i : Nat) : (kpairs.vals p).take (i * 2) = kpairs.vals (p.take i) := kpairs.vals_take p i
theorem pvals_drop (p : List Pr) (i : Nat) : (kpairs.vals p).drop (i * 2) = kpairs.vals (p.drop i) := kpairs.vals_drop p i
theorem setRow_size (w : World) (b : Nat) (x : Array Value) : (w.setRow b x).heap.size = w.heap.size := by simp [World.setRow]
theorem putSeg_get {row cs : List Value} {p : Nat} (h : p + cs.length <= row.length) (j : Nat) : (putSeg row p cs)[j]? = if j < p then row[j]? else if j < p + cs.length then cs[j - p]? else row[j]? := seg_row h j
theorem fr_row {w w' : World} {S : Nat -> Prop} {b : Nat} (hb : S b \/ w.heap.size <= b) (h : ∀ k, k < w.heap.size -> k ≠ b -> w'.heap[k]? = w.heap[k]?) (h1 : w'.os = w.os) (h2 : w'.tape = w.tape) (h3 : w'.output = w.output) (h4 : w.heap.size <= w'.heap.size) : Fr S (fun k => k = b) w w' :=
 ⟨fun k hk hs => h k hk (fun e => by
   subst e
   rcases hb with hb | hb
   ·exact hs hb
   ·omega), fun k hk => by
   rw [hk]
   exact hb.symm, h1, h2, h3, h4⟩
theorem insP_all {ρ : Nm} {n : Nat} {w : World} (p : List Pr) (k : Nat) (hk : k <= p.length) (hpl : p.length <= 100000) (hv : vecQ (ρ.L n) (ρ.S n) (kpairs.vals p) 2 98 w) (hone : ∀ v ∈ kpairs.vals p, v.oneCell' = true)
 (vb voff vc : Nat) (vs rv : List Value) (hvb : ¬ ρ.S n vb) (hvh : w.heap[vb]? = some (.cells rv.toArray 98 (0, 0))) (hvs : ∀ (j : Nat) v, vs[j]? = some v -> rv[voff + j]? = some v) (hvl : vs.length = 2) (h1v : ∀ v ∈ vs, v.oneCell' = true) :
 Calls Tryd.prog 35 #[vsDen (ρ.L n) 0 p.length 2, .int .i64 (k : Int), .slice (some ⟨vb, voff, none⟩) 1 vc] w fun e w' =>
  ∃ b o cap, e = .returned (.slice (some ⟨b, o, none⟩) (p.length + 1) cap) /\ vecQ ⟨b, o, cap + 1⟩ (fun x => x = b) ((kpairs.vals p).take (k * 2) ++ vs ++ (kpairs.vals p).drop (k * 2)) 2 98 w' /\ Fr (ρ.S n) (fun x => x = b) w w' := by
 have hvlt : vb < w.heap.size := (Array.getElem?_eq_some_iff.1 hvh).1
 have grown : ∀ (base : Option Addr) (c : Nat) (q : List Pr), q.length <= 100000 -> q.length <= c -> c < q.length + 1 -> (base = none -> q.length = 0) -> (∀ a, base = some a -> ∀ (j : Nat) v, (kpairs.vals q)[j]? = some v -> w.cell? (a.add j) = some v) ->
  Calls Tryd.prog 35 #[.slice base q.length c, .int .i64 (q.length : Int), .slice (some ⟨vb, voff, none⟩) 1 vc] w fun e w' =>
  ∃ b o cap, e = .returned (.slice (some ⟨b, o, none⟩) (q.length + 1) cap) /\ vecQ ⟨b, o, cap + 1⟩ (fun x => x = b) (kpairs.vals q ++ vs) 2 98 w' /\ Fr (ρ.S n) (fun x => x = b) w w' := fun base c q hq hqc hc hnil hcells => by
  refine (insP_endgrow base q.length c vb voff vc (kpairs.vals q) vs rv w hqc hc (by omega) (pvals_len q) hnil hcells hvh hvs hvl h1v).mono ?_
  rintro e w' ⟨rfl, rfl⟩
  have hG := grownCap_ge w (q.length + 1) c 98
  generalize grownCap w (q.length + 1) c 98 = G at hG
  have hlen : (kpairs.vals q ++ vs).length = (q.length + 1) * 2 := by rw [List.length_append, pvals_len, hvl]; omega
  refine ⟨_, 0, G, rfl, .inr ⟨by simp, fun x => Iff.rfl, (kpairs.vals q ++ vs) ++ (Builtin.zeroCells (Value.agg #[.int .i64 0, .int .i64 0]).cells (G - (q.length + 1))).toList, ?_, ?_, ?_, ?_⟩, fr_row (.inr (Nat.le_refl _)) (fun j hj _ => alloc_block (w := w.drew) hj) rfl rfl rfl ?_⟩
  ·have : (w.drew.alloc (.cells ((kpairs.vals q ++ vs).toArray ++ Builtin.zeroCells (Value.agg #[.int .i64 0, .int .i64 0]).cells (G - (q.length + 1))) 98)).heap[w.heap.size]? = _ := alloc_self (w := w.drew)
   rw [this]
   congr 2
   apply Array.ext'
   simp
  ·simp only [List.length_append, Array.length_toList]
   rw [List.length_append] at hlen
   simp [Builtin.zeroCells, Value.cells]
   omega
  ·rw [hlen]
   simp
   omega
  ·intro j v hj
   simp only [Nat.zero_add]
   rw [List.getElem?_append_left ((List.getElem?_eq_some_iff.1 hj).1)]
   exact hj
  ·show w.heap.size <= (w.heap.push _).size
   simp
 have tail : ∀ q : List Pr, (kpairs.vals q).take (q.length * 2) ++ vs ++ (kpairs.vals q).drop (q.length * 2) = kpairs.vals q ++ vs := fun q => by
  rw [List.take_of_length_le (by rw [pvals_len]; exact Nat.le_refl _), List.drop_of_length_le (by rw [pvals_len]; exact Nat.le_refl _), List.append_nil]
 rw [vsDen_eq]
 rcases hv with ⟨hc0, hp0, hS0⟩ | ⟨hc1, hS, row, hh, hf, hl, hg⟩
 ·have hp : p = [] := by
   have : (kpairs.vals p).length = 0 := by rw [hp0]; rfl
   rw [pvals_len] at this
   exact List.eq_nil_of_length_eq_zero (by omega)
  subst hp
  have hk0 : k = 0 := by simpa using hk
  subst hk0
  have ht := tail []
  simp only [List.length_nil] at ht ⊢
  rw [ht]
  split
  ·exact grown none 0 [] (by simp) (by simp) (by simp) (fun _ => rfl) (fun a h => by cases h)
  ·exact grown _ ((ρ.L n).c - 1) [] (by simp) (by simp) (by simp; omega) (fun h => by cases h) (fun a _ j v hj => by simp [AK.vals] at hj)
 ·rw [pvals_len] at hl
  have hSb : ρ.S n (ρ.L n).b := (hS _).2 rfl
  have hbne : vb ≠ (ρ.L n).b := fun e => hvb (e ▸ hSb)
  have hblt : (ρ.L n).b < w.heap.size := (Array.getElem?_eq_some_iff.1 hh).1
  rw [if_neg (by omega)]
  generalize (ρ.L n).b = b at *
  generalize (ρ.L n).o = off at *
  have hcn : p.length <= (ρ.L n).c - 1 := by omega
  generalize (ρ.L n).c - 1 = c at *
  have hval : ∀ j, j < p.length * 2 -> (kpairs.vals p)[j]? = row[off + j]? := fun j hj => by
   rw [hg j _ (List.getElem?_eq_getElem (by rw [pvals_len]; exact hj)), List.getElem?_eq_getElem (by rw [pvals_len]; exact hj)]
  have hrone : ∀ v ∈ (row.drop off).take (p.length * 2), v.oneCell' = true := fun v hv => by
   obtain ⟨j, hj⟩ := List.mem_iff_getElem?.1 hv
   rw [List.getElem?_take] at hj
   split at hj
   ·rename_i hjl
    rw [List.getElem?_drop, <- hval j hjl] at hj
    exact hone v (List.mem_of_getElem? hj)
   ·cases hj
  by_cases hroom : p.length + 1 <= c
  ·by_cases hkn : k < p.length
   ·refine (insP_shift b off p.length c k vb voff vc row vs rv w hkn hroom (by omega) hbne hh hf hrone hvh hvs hvl h1v).mono ?_
    rintro e w' ⟨rfl, rfl⟩
    have l1 : ((row.drop (off + k * 2)).take ((p.length - k) * 2)).length = (p.length - k) * 2 := by simp; omega
    have l2 : (putSeg row (off + (k + 1) * 2) ((row.drop (off + k * 2)).take ((p.length - k) * 2))).length = row.length := putSeg_len (by omega)
    refine ⟨b, off, c, rfl, .inr ⟨by simp, fun x => Iff.rfl, _, setRow_heap _ b _ _ _ (0, 0) (setRow_heap w.drew b _ _ _ (0, 0) hh), ?_, ?_, ?_⟩, fr_row (.inl hSb) (fun j hj hne => by rw [setRow_block hne, setRow_block hne]; rfl) rfl rfl rfl (by rw [setRow_size, setRow_size]; exact Nat.le_refl _)⟩
    ·rw [putSeg_len (by omega), l2]
     simpa using hf
    ·simp only [List.length_append, List.length_take, List.length_drop, pvals_len, hvl, Nat.add_sub_cancel]
     omega
    ·intro j v hj
     have hjl := (List.getElem?_eq_some_iff.1 hj).1
     simp only [List.length_append, List.length_take, List.length_drop, pvals_len, hvl] at hjl
     simp only
     rw [putSeg_get (by omega), hvl]
     by_cases h1 : j < k * 2
     ·rw [if_pos (by omega), putSeg_get (by omega), if_pos (by omega), <- hval j (by omega)]
      rw [List.append_assoc, List.getElem?_append_left (by rw [List.length_take, pvals_len]; omega), List.getElem?_take, if_pos h1] at hj
      exact hj
     ·by_cases h2 : j < k * 2 + 2
      ·rw [if_neg (by omega), if_pos (by omega)]
       rw [List.append_assoc, List.getElem?_append_right (by rw [List.length_take, pvals_len]; omega), List.getElem?_append_left (by rw [List.length_take, pvals_len, hvl]; omega), List.length_take, pvals_len] at hj
       rw [<- hj]
       congr 1
       omega
      ·rw [if_neg (by omega), if_neg (by omega), putSeg_get (by omega), if_neg (by omega), if_pos (by omega), List.getElem?_take, if_pos (by omega), List.getElem?_drop]
       rw [List.append_assoc, List.getElem?_append_right (by rw [List.length_take, pvals_len]; omega), List.getElem?_append_right (by rw [List.length_take, pvals_len, hvl]; omega), List.getElem?_drop, List.length_take, pvals_len, hvl, hval _ (by omega)] at hj
       rw [<- hj]
       congr 1
       omega
   ·have hke : k = p.length := by omega
    subst hke
    refine (insP_endroom b off p.length c vb voff vc row vs rv w hroom (by omega) hh hf hvh hvs hvl h1v).mono ?_
    rintro e w' ⟨rfl, rfl⟩
    refine ⟨b, off, c, rfl, .inr ⟨by simp, fun x => Iff.rfl, _, setRow_heap w b _ _ _ (0, 0) hh, ?_, ?_, ?_⟩, fr_row (.inl hSb) (fun j hj hne => setRow_block hne) rfl rfl rfl (by rw [setRow_size]; exact Nat.le_refl _)⟩
    ·rw [putSeg_len (by omega)]
     simpa using hf
    ·simp only [List.length_append, List.length_take, List.length_drop, pvals_len, hvl, Nat.add_sub_cancel]
     omega
    ·intro j v hj
     have hjl := (List.getElem?_eq_some_iff.1 hj).1
     simp only [List.length_append, List.length_take, List.length_drop, pvals_len, hvl] at hjl
     simp only
     rw [putSeg_get (by omega), hvl]
     by_cases h1 : j < p.length * 2
     ·rw [if_pos (by omega), <- hval j h1]
      rw [List.append_assoc, List.getElem?_append_left (by rw [List.length_take, pvals_len]; omega), List.getElem?_take, if_pos h1] at hj
      exact hj
     ·rw [if_neg (by omega), if_pos (by omega)]
      rw [List.append_assoc, List.getElem?_append_right (by rw [List.length_take, pvals_len]; omega), List.getElem?_append_left (by rw [List.length_take, pvals_len, hvl]; omega), List.length_take, pvals_len] at hj
      rw [<- hj]
      congr 1
      omega
  ·have hcells : ∀ (j : Nat) v, (kpairs.vals p)[j]? = some v -> w.cell? ((⟨b, off, none⟩ : Addr).add j) = some v := fun j v hj => cell_row (w := w) hh off j v (hg j v hj)
   by_cases hkn : k < p.length
   ·refine (insP_grow b off p.length c k vb voff vc (kpairs.vals p) vs rv w hkn hcn (by omega) (by omega) (pvals_len p) hone hblt hvlt hcells hvh hvs hvl h1v).mono ?_
    rintro e w' ⟨G, r2, g1, g2, rfl, g4, g5, g6, g7, g8, g9, g10⟩
    refine ⟨_, 0, G, rfl, .inr ⟨by simp, fun x => Iff.rfl, r2, g5, by simp [g2], ?_, fun j v hj => by rw [Nat.zero_add]; exact g4 j v hj⟩, fr_row (.inr (Nat.le_refl _)) (fun j hj _ => g6 j hj) g7 g8 g9 g10⟩
    simp only [List.length_append, List.length_take, List.length_drop, pvals_len, hvl, Nat.add_sub_cancel]
    omega
   ·have hke : k = p.length := by omega
    subst hke
    rw [tail]
    exact grown _ c p hpl hcn (by omega) (fun h => by cases h) (fun a ha j v hj => by cases ha; exact hcells j v hj)
theorem insS_ok {σ : Sg} : FnOk Tryd.prog (NV σ) 35 insS := by
 refine FnOk.of fun args H v H' hr ha hC => ?_
 unfold insS at hr
 split at hr
 ·rename_i n len x m
  split at hr
  ·rename_i p c0 c1 i hn hm hi hG
   split at hr
   ·rename_i q hq
    replace hr := need_some hr
    obtain ⟨hb, hr⟩ := hr
    obtain ⟨rfl, hpl, hi0, hi1⟩ := of_decide_eq_true hb
    simp only [T.val, Option.some.injEq, Prod.mk.injEq] at hr
    obtain ⟨rfl, rfl⟩ := hr
    obtain ⟨k, rfl⟩ : ∃ k : Nat, i = k := ⟨i.toNat, by omega⟩
    have hk : k <= p.length := by omega
    have hG : (NV σ).G <= H.length := Nat.le_of_ble_eq_true hG
    have hd : ∀ j, some n = some j -> ∃ c, hget H j = some c := fun j hj => by cases hj; exact ⟨_, hn⟩
    have hpn : (NV σ).F.arr (.pairs (p.take k ++ (q :: p.drop k))) = some (2, 98, kpairs.vals (p.take k ++ (q :: p.drop k))) := rfl
    have hpo : (NV σ).F.arr (.pairs p) = some (2, 98, kpairs.vals p) := rfl
    refine ⟨cl_new hd 0 _ 2 false, cl_swap hC hd (fun c hc => by cases hc), fun ρ w hO => ?_⟩
    have hv := (((NV σ).F.arr_q _ _ _ _ hpo).2 _ _ _).1 (hO.q n _ hn)
    have hone := ((NV σ).F.arr_q _ _ _ _ hpo).1
    have hmv : vecQ (ρ.L m) (ρ.S m) (denL ρ [c0, c1]) 2 98 w := hO.q m _ hm
    have hnm : n ≠ m := fun e => by subst e; rw [hn] at hm; cases hm
    obtain ⟨q1, q2⟩ := Pr.dec_ok _ _ hq
    have hvq : denL ρ [c0, c1] = denL Nm.id q.enc := by rw [names_den q2 ρ Nm.id, q1]
    have hone2 : ∀ u ∈ denL ρ [c0, c1], u.oneCell' = true := fun u hu => by
     obtain ⟨c, _, rfl⟩ := List.mem_map.1 hu
     exact den_one _ c
    have hnew : kpairs.vals (p.take k ++ (q :: p.drop k)) = (kpairs.vals p).take (k * 2) ++ denL ρ [c0, c1] ++ (kpairs.vals p).drop (k * 2) := by
     rw [pvals_take, pvals_drop, hvq, List.append_assoc, AK.vals_append]
     rfl
    rcases hmv with ⟨_, h0, _⟩ | ⟨hm1, hmS, rv, hmh, hmf, hml, hmg⟩
    ·simp [denL] at h0
    have hmlen : 2 <= ((ρ.L m).c - 1) * 2 := by simpa [denL] using hml
    have hden3 : (SV.v (.c (.vs m 0 1 2 true))).den ρ = .slice (some ⟨(ρ.L m).b, (ρ.L m).o, none⟩) 1 ((ρ.L m).c - 1) := by
     show vsDen (ρ.L m) 0 1 2 = _
     rw [vsDen_eq, if_neg (by omega)]
    have hxd : x.den ρ = .int .i64 (k : Int) := iOf_d hi ρ
    show Calls Tryd.prog _ #[vsDen (ρ.L n) 0 p.length 2, x.den ρ, (SV.v (.c (.vs m 0 1 2 true))).den ρ] w _
    rw [hden3, hxd]
    refine (insP_all p k hk hpl hv hone (ρ.L m).b (ρ.L m).o ((ρ.L m).c - 1) (denL ρ [c0, c1]) rv (fun hs => hO.dis n m _ _ hnm hn hm _ hs ((hmS _).2 rfl)) hmh hmg rfl hone2).mono ?_
    rintro e w' ⟨b, o, cap, rfl, g1, g2⟩
    rw [<- hnew] at g1
    obtain ⟨o1, o2⟩ := arr_swap (N := NV σ) hO hC hG (d := some n) hd hpn (S := ρ.S n) (fun j hj => ⟨n, _, rfl, hn, hj⟩) g1 g2
    refine ⟨_, ?_, o1, o2⟩
    show _ = Ending.returned (vsDen ((ρ.set H.length ⟨b, o, cap + 1⟩ fun x => x = b).L H.length) 0 (p.length + 1) 2)
    rw [(set_L _ _ _ _).1, vsDen_eq, if_neg (by omega)]
    rfl
   ·simp [T.val] at hr
  ·simp [T.val] at hr
 ·simp [T.val] at hr
theorem delS_ok {σ : Sg} : FnOk Tryd.prog (NV σ) 36 delS := by
 refine FnOk.of fun args H v H' hr ha hC => ?_
 unfold delS at hr
 split at hr
 ·rename_i n len x y
  split at hr
  ·rename_i p i j hn hi hj hG
   replace hr := need_some hr
   obtain ⟨hb, hr⟩ := hr
   obtain ⟨rfl, hpl, hi0, hi1, rfl⟩ := of_decide_eq_true hb
   simp only [T.val, Option.some.injEq, Prod.mk.injEq] at hr
   obtain ⟨rfl, rfl⟩ := hr
   obtain ⟨k, rfl⟩ : ∃ k : Nat, i = k := ⟨i.toNat, by omega⟩
   have hk : k < p.length := by omega
   have hG : (NV σ).G <= H.length := Nat.le_of_ble_eq_true hG
   have hd : ∀ j, some n = some j -> ∃ c, hget H j = some c := fun j hj => by cases hj; exact ⟨_, hn⟩
   have hpn : (NV σ).F.arr (.pairs (p.take k ++ p.drop (k + 1))) = some (2, 98, kpairs.vals (p.take k ++ p.drop (k + 1))) := rfl
   have hpo : (NV σ).F.arr (.pairs p) = some (2, 98, kpairs.vals p) := rfl
   refine ⟨cl_new hd 0 _ 2 false, cl_swap hC hd (fun c hc => by cases hc), fun ρ w hO => ?_⟩
   have hv := (((NV σ).F.arr_q _ _ _ _ hpo).2 _ _ _).1 (hO.q n _ hn)
   have hone := ((NV σ).F.arr_q _ _ _ _ hpo).1
   have hxd : x.den ρ = .int .i64 (k : Int) := iOf_d hi ρ
   have hyd : y.den ρ = .int .i64 ((k + 1 : Nat) : Int) := by rw [iOf_d hj ρ]; congr 1
   show Calls Tryd.prog _ #[vsDen (ρ.L n) 0 p.length 2, x.den ρ, y.den ρ] w _
   rw [hxd, hyd, vsDen_eq, if_neg (by omega)]
   rcases hv with ⟨hc0, hp0, hS0⟩ | ⟨hc1, hS, row, hh, hf, hl, hg⟩
   ·exfalso
    have : (kpairs.vals p).length = 0 := by rw [hp0]; rfl
    rw [pvals_len] at this
    omega
   rw [pvals_len] at hl
   have hSb : ρ.S n (ρ.L n).b := (hS _).2 rfl
   have hval : ∀ j, j < p.length * 2 -> (kpairs.vals p)[j]? = row[(ρ.L n).o + j]? := fun j hj => by
    rw [hg j _ (List.getElem?_eq_getElem (by rw [pvals_len]; exact hj)), List.getElem?_eq_getElem (by rw [pvals_len]; exact hj)]
   have hrone : ∀ v ∈ (row.drop (ρ.L n).o).take (p.length * 2), v.oneCell' = true := fun v hv => by
    obtain ⟨j, hj⟩ := List.mem_iff_getElem?.1 hv
    rw [List.getElem?_take] at hj
    split at hj
    ·rename_i hjl
     rw [List.getElem?_drop, <- hval j hjl] at hj
     exact hone v (List.mem_of_getElem? hj)
    ·cases hj
   refine (delP (ρ.L n).b (ρ.L n).o p.length ((ρ.L n).c - 1) k (k + 1) row w rfl hk (by omega) (by omega) hh hf hrone).mono ?_
   rintro e w' ⟨rfl, rfl⟩
   have l1 : ((row.drop ((ρ.L n).o + (k + 1) * 2)).take ((p.length - (k + 1)) * 2)).length = (p.length - (k + 1)) * 2 := by simp; omega
   have l2 : (putSeg row ((ρ.L n).o + k * 2) ((row.drop ((ρ.L n).o + (k + 1) * 2)).take ((p.length - (k + 1)) * 2))).length = row.length := putSeg_len (by omega)
   have hlen : (kpairs.vals (p.take k ++ p.drop (k + 1))).length = (p.length - 1) * 2 := by rw [pvals_len]; simp; omega
   have hnv : vecQ ⟨(ρ.L n).b, (ρ.L n).o, (ρ.L n).c - 1 + 1⟩ (fun x => x = (ρ.L n).b) (kpairs.vals (p.take k ++ p.drop (k + 1))) 2 98 ((w.drew.setRow (ρ.L n).b (putSeg row ((ρ.L n).o + k * 2) ((row.drop ((ρ.L n).o + (k + 1) * 2)).take ((p.length - (k + 1)) * 2))).toArray).setRow (ρ.L n).b (putSeg (putSeg row ((ρ.L n).o + k * 2) ((row.drop ((ρ.L n).o + (k + 1) * 2)).take ((p.length - (k + 1)) * 2))) ((ρ.L n).o + (p.length - 1) * 2) [.int .i64 0, .int .i64 0]).toArray) := by
    refine .inr ⟨by simp, fun x => Iff.rfl, _, setRow_heap _ _ _ _ _ (0, 0) (setRow_heap w.drew _ _ _ _ (0, 0) hh), ?_, ?_, ?_⟩
    ·rw [putSeg_len (by simp; omega), l2]
     simpa using hf
    ·rw [hlen]
     simp only [Nat.add_sub_cancel]
     omega
    ·intro j v hj
     have hjl := (List.getElem?_eq_some_iff.1 hj).1
     rw [hlen] at hjl
     simp only
     rw [putSeg_get (by simp; omega), if_pos (by omega), putSeg_get (by omega)]
     rw [AK.vals_append, <- pvals_take, <- pvals_drop] at hj
     by_cases h1 : j < k * 2
     ·rw [if_pos (by omega), <- hval j (by omega)]
      rw [List.getElem?_append_left (by rw [List.length_take, pvals_len]; omega), List.getElem?_take, if_pos h1] at hj
      exact hj
     ·rw [if_neg (by omega), if_pos (by omega), List.getElem?_take, if_pos (by omega), List.getElem?_drop]
      rw [List.getElem?_append_right (by rw [List.length_take, pvals_len]; omega), List.getElem?_drop, List.length_take, pvals_len, hval _ (by omega)] at hj
      rw [<- hj]
      congr 1
      omega
   obtain ⟨o1, o2⟩ := arr_swap (N := NV σ) hO hC hG (d := some n) hd hpn (S := ρ.S n) (fun j hj => ⟨n, _, rfl, hn, hj⟩) hnv (fr_row (.inl hSb) (fun j hj hne => by rw [setRow_block hne, setRow_block hne]; rfl) rfl rfl rfl (by rw [setRow_size, setRow_size]; exact Nat.le_refl _))
   refine ⟨_, ?_, o1, o2⟩
   show _ = Ending.returned (vsDen ((ρ.set H.length ⟨(ρ.L n).b, (ρ.L n).o, (ρ.L n).c - 1 + 1⟩ fun x => x = (ρ.L n).b).L H.length) 0 (p.length - 1) 2)
   rw [(set_L _ _ _ _).1, vsDen_eq, if_neg (by simp)]
   rfl
  ·simp [T.val] at hr
 ·simp [T.val] at hr
def tabJ : Tab := fun f => match Nat.beq f 35 with
 | true => some insS
 | false => match Nat.beq f 36 with
   | true => some delS
   | false => tabK f
theorem tabJ_ok {σ : Sg} : TabOk Tryd.prog (NV σ) tabJ := fun f g h => by
 unfold tabJ at h
 split at h
 ·rename_i e
  have e := (beq_iff _ _).1 e
  subst e
  cases h
  exact insS_ok
 ·split at h
  ·rename_i e
   have e := (beq_iff _ _).1 e
   subst e
   cases h
   exact delS_ok
  ·exact tabK_ok f g h
end Go.Proofs.YtpapbhbnaalhcaaDoor

namespace Go.Proofs.YtpapbhbnaalhcaaDoor
open Go Go.Sx Go.Proofs
set_option linter.unusedVariables false
set_option maxRecDepth 100000
noncomputable def runC (σ : Sg) (tab : Tab) (f : FuncId) (M : List Bool) (args : List SV) (m : CreedM) : T (SV × List AV × List AV) := runO noLp σ tab f M (.v (.c (.ptr 7 0)) :: args) [creedV m] (layG tCreed (creedC m))
noncomputable def ansR_T (σ : Sg) (m : CreedM) (o : O) : T (SV × List AV × List AV) :=
 let x0 : Bool := fB (CreedM.pairs m) (O.key o);
 let x1 : Nat := Intf.len (F2 σ) (AV.pairs (CreedM.pairs m));
 let x2 : Nat := Intf.len (F2 σ) (AV.ints (CreedM.vals m));
 let x3 : Int := (↑(List.length (CreedM.vals m)) : Int);
 let x4 : Int := (↑(fN (CreedM.pairs m) (O.key o)) : Int);
 let x5 : List Cell := [Cell.il IntKind.i64 0];
 let x6 : Bool := O.kind o == 7;
 let x7 : Bool := O.kind o == 2;
 let x8 : Nat := 0 + Int.toNat x4;
 let x9 : Int := IntKind.wrap IntKind.i64 (x3 - 1);
 let x10 : Bool := decide (x3 > 0);
 let x11 : Nat := 0 + Int.toNat x9;
 let x12 : Bool :=
  match decide (List.length (CreedM.vals m) = x2) with
  | true =>
   match decide (List.length (CreedM.pairs m) = x1) with
   | true => true
   | false => false
  | false => false;
 let x13 : Bool :=
  decide
   (List.length (CreedM.pairs m) = List.length (CreedM.pairs m) /\
    List.length (CreedM.pairs m) < 4611686018427387904);
 let y0 : T (SV × List AV × List AV) := (T.leaf (SV.v (V1.agg (Cell.il IntKind.i64 (Int.ofNat 2) :: x5)), [AV.obj 1 58 [GC.p (Cell.it IntKind.i64 (CreedM.st m)), GC.s (AV.ints m.2) x2 1, GC.s (AV.pairs m.3) x1 2]], []));
 let y1 : T (SV × List AV × List AV) := (T.leaf (SV.v (V1.agg (Cell.il IntKind.i64 (Int.ofNat 3) :: x5)), [AV.obj 1 58 [GC.p (Cell.it IntKind.i64 (CreedM.st m)), GC.s (AV.ints m.2) x2 1, GC.s (AV.pairs m.3) x1 2]], []));
 let y2 : T (SV × List AV × List AV) := (T.leaf (SV.v (V1.agg (Cell.il IntKind.i64 (Int.ofNat 1) :: x5)), [AV.obj 1 58 [GC.p (Cell.it IntKind.i64 (CreedM.st m)), GC.s (AV.ints m.2) x2 1, GC.s (AV.pairs m.3) x1 2]], []));
 let y3 : T (SV × List AV × List AV) := (T.ite x0 (T.need x12 y1) (T.need x12 y2));
 let y4 : T (SV × List AV × List AV) := (T.leaf (SV.v (V1.agg [Cell.il IntKind.i64 (Int.ofNat 1), Cell.it IntKind.i64 (N1.val (List.getD (CreedM.vals m) 0 (AK.dflt kints)))]), [AV.obj 1 58 [GC.p (Cell.it IntKind.i64 (CreedM.st m)), GC.s (AV.ints m.2) x2 1, GC.s (AV.pairs m.3) x1 2]], []));
 let y5 : T (SV × List AV × List AV) := (T.need (decide (0 < List.length (CreedM.vals m))) (T.need x12 y4));
 let y6 : T (SV × List AV × List AV) := (T.need (decide ((0 : Int) <= 0 /\ 0 < x3)) y5);
 let y7 : T (SV × List AV × List AV) := (T.ite x10 y6 (T.need x12 y0));
 let y8 : T (SV × List AV × List AV) := (T.leaf (SV.v (V1.agg [Cell.il IntKind.i64 (Int.ofNat 1), Cell.it IntKind.i64 (N1.val (List.getD (CreedM.vals m) x11 (AK.dflt kints)))]), [AV.obj 1 58 [GC.p (Cell.it IntKind.i64 (CreedM.st m)), GC.s (AV.ints m.2) x2 1, GC.s (AV.pairs m.3) x1 2]], []));
 let y9 : T (SV × List AV × List AV) := (T.need (decide (x11 < List.length (CreedM.vals m))) (T.need x12 y8));
 let y10 : T (SV × List AV × List AV) := (T.need (decide (0 <= x9 /\ x9 < x3)) y9);
 let y11 : T (SV × List AV × List AV) := (T.ite x10 y10 (T.need x12 y0));
 let y12 : T (SV × List AV × List AV) := (T.leaf (SV.v (V1.agg [Cell.il IntKind.i64 (Int.ofNat 1), Cell.it IntKind.i64 (Pr.val (List.getD (CreedM.pairs m) x8 (AK.dflt kpairs)))]), [AV.obj 1 58 [GC.p (Cell.it IntKind.i64 (CreedM.st m)), GC.s (AV.ints m.2) x2 1, GC.s (AV.pairs m.3) x1 2]], []));
 let y13 : T (SV × List AV × List AV) := (T.need (decide (x8 < List.length (CreedM.pairs m))) (T.need x12 y12));
 let y14 : T (SV × List AV × List AV) := (T.need (decide (0 <= x4 /\ x4 < (↑(List.length (CreedM.pairs m)) : Int))) y13);
 let y15 : T (SV × List AV × List AV) := (T.ite x0 y14 (T.need x12 y0));
 let y16 : T (SV × List AV × List AV) := (T.ite x6 (T.need x13 y15) (T.need x12 y2));
 let y17 : T (SV × List AV × List AV) := (T.ite (O.kind o == 8) (T.need x13 y15) (T.need x12 y2));
 let y18 : T (SV × List AV × List AV) := (T.ite (O.kind o == 6) (T.need x13 y3) (T.ite x6 y16 y17));
 let y19 : T (SV × List AV × List AV) := (T.ite (O.kind o == 5) y7 y18);
 T.ite x7 (T.ite x7 y11 y19) (T.ite (O.kind o == 3) y11 y19)
noncomputable def cloneR_T (σ : Sg) (m : CreedM) : T (SV × List AV × List AV) :=
 let x0 : Nat := Intf.len (F2 σ) (AV.pairs (CreedM.pairs m));
 let x1 : Nat := Intf.len (F2 σ) (AV.ints (CreedM.vals m));
 let x2 : List AV :=
  [AV.obj 1 58 [GC.p (Cell.it IntKind.i64 (CreedM.st m)), GC.s (AV.ints m.2) x1 1, GC.s (AV.pairs m.3) x0 2]];
 let x3 : Bool :=
  match decide (List.length (CreedM.vals m) = x1) with
  | true =>
   match decide (List.length (CreedM.pairs m) = x0) with
   | true => true
   | false => false
  | false => false;
 T.need (decide (List.length (CreedM.vals m) = AV.len (AV.ints (CreedM.vals m)) /\ List.length (CreedM.vals m) <= 1000000)) (T.need (decide (List.length (CreedM.pairs m) = AV.len (AV.pairs (CreedM.pairs m)) /\ List.length (CreedM.pairs m) <= 1000000)) (T.need x3 (T.need x3 (T.leaf (SV.v (V1.c (Cell.ptr 8 0)), x2, x2)))))
theorem cloneR (σ : Sg) (m : CreedM) : runC σ tabK 38 noM [] m = cloneR_T σ m := by kernel_rfl
noncomputable def newR_T (σ : Sg) (s : Int) : T (SV × List AV × List AV) :=
 T.ite (match decide (s < 1) == false with | true => decide (s > 5) | false => true) (T.leaf (SV.tup [V1.c Cell.pnil, V1.c (Cell.ifc 189 (Cell.op 0 (σ.1 0)))], [], [])) (T.need true (T.leaf (SV.tup [V1.c (Cell.ptr 7 0), V1.c Cell.inil], [], [AV.obj 1 58 [GC.p (Cell.it IntKind.i64 s), GC.s (AV.ints []) 0 1, GC.s (AV.pairs []) 0 2]])))
theorem newR (σ : Sg) (s : Int) : runN noLp σ tabK 8 [true, false, false, false, false, false, false] [.v (.c (.it .i64 s))] [] = newR_T σ s := by kernel_rfl
def ansM (m : CreedM) (o : O) : An :=
 if o.kind = 2 \/ o.kind = 3 then (if 0 < m.vals.length then ⟨1, (m.vals.getD (m.vals.length - 1) kints.dflt).val⟩ else ⟨2, 0⟩)
 else if o.kind = 5 then (if 0 < m.vals.length then ⟨1, (m.vals.getD 0 kints.dflt).val⟩ else ⟨2, 0⟩)
 else if o.kind = 6 then (if fB m.pairs o.key = true then ⟨3, 0⟩ else ⟨1, 0⟩)
 else if o.kind = 7 \/ o.kind = 8 then (if fB m.pairs o.key = true then ⟨1, (m.pairs.getD (fN m.pairs o.key) kpairs.dflt).val⟩ else ⟨2, 0⟩)
 else ⟨1, 0⟩
theorem fB_lt {p : List Pr} {key : Int} (h : fB p key = true) : fN p key < p.length := by
 unfold fB at h
 split at h
 ·assumption
 ·cases h
def CreedM.small (m : CreedM) : Bool := decide (m.vals.length <= 1000000 /\ m.pairs.length <= 1000000)
def ansS (args : List SV) (l : List AV) : T (SV × List AV × List AV) := match args, l with
 | [.v (.c (.ptr n 0)), .v (.agg cs)], [a] => match Nat.beq n 7, O.dec cs, creedX a with
   | true, some o, some m => .need m.small (.leaf (.v (.agg [.it .i64 (ansM m o).code, .it .i64 (ansM m o).val]), [creedV m], []))
   | _, _, _ => .fail "answer"
 | _, _ => .fail "answer"
theorem enc_names (o : O) : ∀ x ∈ o.enc, x.name = none := fun x hx => by
 simp only [O.enc, List.mem_cons, List.not_mem_nil, or_false] at hx
 rcases hx with rfl | rfl | rfl | rfl <;> rfl
theorem cl_agg {H : Hp AV} {l : List Cell} (h : ∀ x ∈ l, x.name = none) : ClV H (.v (.agg l)) := by
 intro c hc m hm
 rw [h c hc] at hm
 cases hm
theorem runC_ctr {σ : Sg} {tab : Tab} (ht : TabOk Tryd.prog (NV σ) tab) {f : FuncId} {M : List Bool} (hM : 7 = M.length) {args : List SV} (hcl : ∀ H : Hp AV, ∀ x ∈ args, ClV H x) {m : CreedM} {v : SV} {l' nw : List AV} (h : (runC σ tab f M args m).val = some (v, l', nw)) :
 Ctr Tryd.prog (NV σ) f (.v (.c (.ptr 7 0)) :: args) (hpO M [creedV m]) v (hpO M (l' ++ nw)) := by
 have h0 : hget (hpO M [creedV m]) M.length = some (.abs (creedV m)) := hpO_at M [creedV m] 0 _ rfl
 rw [<- hM] at h0
 exact (runO_ok lpsV ht hM (a := creedV m) (l := []) rfl ⟨_, rfl⟩ rfl (fun x hx => by
  rcases List.mem_cons.1 hx with rfl | hx
  ·exact cl_ptr h0
  ·exact hcl _ x hx) h).1
theorem dup_val (σ : Sg) (m : CreedM) (hv : m.vals.length <= 1000000) (hp : m.pairs.length <= 1000000) : (cloneR_T σ m).val = some (.v (.c (.ptr (7 + 1) 0)), [creedV m], [creedV m]) := by
 have l1 : Intf.len (F2 σ) (AV.pairs m.pairs) = m.pairs.length := rfl
 have l2 : Intf.len (F2 σ) (AV.ints m.vals) = m.vals.length := rfl
 have l3 : AV.len (AV.pairs m.pairs) = m.pairs.length := rfl
 have l4 : AV.len (AV.ints m.vals) = m.vals.length := rfl
 simp only [cloneR_T, T.val, l1, l2, l3, l4, true_and, decide_true, decide_eq_true hv, decide_eq_true hp]
 rfl
def argM : List Bool := [true, false, false, false, false, false, false]
def newS (σ : Sg) (args : List SV) (l : List AV) : T (SV × List AV × List AV) := match args, l with
 | [.v (.c k)], [] => match iOf k with
   | some s => .ite (decide (1 <= s /\ s <= 5)) (.leaf (.tup [.c (.ptr 7 0), .c .inil], [], [creedV ⟨s, [], []⟩])) (.leaf (.tup [.c .pnil, .c (.ifc 189 (.op 0 (σ 0)))], [], []))
   | none => .fail "New"
 | _, _ => .fail "New"
theorem newS_ok {σ : Sg} : FnOk Tryd.prog (NV σ) 8 (sumG isS argM (newS σ)) := by
 refine sumG_ok isS_ok rfl fun args l v l' nw h hl hargs => ?_
 unfold newS at h
 split at h
 ·rename_i k
  split at h
  ·rename_i s h1
   have hr : (newR_T σ s).val = some (v, l', nw) := by
    by_cases hs : 1 <= s /\ s <= 5
    ·have d1 : decide (s < 1) = false := decide_eq_false (by omega)
     have d2 : decide (s > 5) = false := decide_eq_false (by omega)
     simp only [T.val, decide_eq_true hs] at h
     simp only [newR_T, T.val, d1, d2, beq_self_eq_true]
     exact h
    ·simp only [T.val, decide_eq_false hs] at h
     by_cases h2 : s < 1
     ·have d1 : decide (s < 1) = true := decide_eq_true h2
      simp only [newR_T, T.val, d1]
      exact h
     ·have d1 : decide (s < 1) = false := decide_eq_false h2
      have d2 : decide (s > 5) = true := decide_eq_true (by omega)
      simp only [newR_T, T.val, d1, d2, beq_self_eq_true]
      exact h
   rw [<- newR] at hr
   have hc := runN_ok lpsV tabK_ok (M := argM) rfl (l := []) (fun x hx => by rw [List.mem_singleton.1 hx]; exact cl_it _) hr
   refine ctr_args hc.1 fun ρ => ?_
   simp only [List.map_cons, List.map_nil, SV.den, V1.den, iOf_d h1 ρ, Cell.den]
  ·simp [T.val] at h
 ·simp [T.val] at h
end Go.Proofs.YtpapbhbnaalhcaaDoor

namespace Go.Proofs.YtpapbhbnaalhcaaDoor
open Go Go.Sx Go.Proofs
set_option linter.unusedVariables false
set_option maxRecDepth 100000
def fitM : List Bool := [true, false, false, false, false, false, false]
noncomputable def tab0 : Tab := fun _ => none
noncomputable def runFits (σ : Sg) (s : Cell) (o : O) : T (SV × List AV × List AV) := runN noLp σ tab0 13 fitM [.v (.c s), .v (.agg o.enc)] []
noncomputable def fits1_T (σ : Sg) (o : O) : T (SV × List AV × List AV) :=
 let x0 : Bool := O.kind o == O.kind o;
 let x1 : Bool := O.kind o == 2;
 let x2 : Bool := O.tall o == 0;
 let x3 : Bool := O.key o == 0;
 let y0 : T (SV × List AV × List AV) := (T.leaf (SV.v (V1.c (Cell.bl true)), [], []));
 let y1 : T (SV × List AV × List AV) := (T.leaf (SV.v (V1.c (Cell.bl false)), [], []));
 let y2 : T (SV × List AV × List AV) := (T.ite (!(x0 && (x3 && (O.val o == 0 && x2)))) y1 y0);
 T.ite (O.kind o == 1) (T.ite (!match (x0 && (x3 && (O.val o == O.val o && x2))) == true with | true => (match decide (0 <= O.val o) == true with | true => decide (O.val o <= 1073741824) | false => false) | false => false) y1 y0) (T.ite x1 (T.ite x1 y2 y1) (T.ite (O.kind o == 3) y2 y1))
theorem fits1 (σ : Sg) (o : O) : runFits σ (.il .i64 1) o = fits1_T σ o := by kernel_rfl
noncomputable def fits2_T (σ : Sg) (o : O) : T (SV × List AV × List AV) :=
 let x0 : Bool := O.kind o == O.kind o;
 let x1 : Bool := O.key o == 0;
 let x2 : Bool := O.tall o == 0;
 let y0 : T (SV × List AV × List AV) := (T.leaf (SV.v (V1.c (Cell.bl true)), [], []));
 let y1 : T (SV × List AV × List AV) := (T.leaf (SV.v (V1.c (Cell.bl false)), [], []));
 T.ite (O.kind o == 4) (T.ite (!match (x0 && (x1 && (O.val o == O.val o && x2))) == true with | true => (match decide (0 <= O.val o) == true with | true => decide (O.val o <= 1073741824) | false => false) | false => false) y1 y0) (T.ite (O.kind o == 5) (T.ite (!(x0 && (x1 && (O.val o == 0 && x2)))) y1 y0) y1)
theorem fits2 (σ : Sg) (o : O) : runFits σ (.il .i64 2) o = fits2_T σ o := by kernel_rfl
noncomputable def fits3_T (σ : Sg) (o : O) : T (SV × List AV × List AV) :=
 let x0 : Bool := O.kind o == 7;
 let x1 : Bool := O.kind o == 6;
 let x2 : Bool := O.kind o == 8;
 let x3 : Bool :=
  match (O.val o == 0) == true with
  | true => O.tall o == 0
  | false => false;
 let y0 : T (SV × List AV × List AV) := (T.leaf (SV.v (V1.c (Cell.bl true)), [], []));
 T.ite (match (!match (match decide (O.key o < 0) == false with | true => decide (O.key o > 255) | false => true) with | true => false | false => (match x1 with | true => (match decide (0 <= O.val o) == true with | true => (match decide (O.val o <= 1073741824) == true with | true => (match decide (0 <= O.tall o) == true with | true => decide (O.tall o <= 3) | false => false) | false => false) | false => false) | false => (match x0 with | true => (match x0 with | true => x3 | false => false) | false => (match x2 with | true => x3 | false => false)))) == false with | true => O.tall o != 0 | false => true) (T.leaf (SV.v (V1.c (Cell.bl false)), [], [])) (T.ite x1 (T.ite x1 y0 y0) (T.ite x0 (T.ite x0 y0 y0) (T.ite x2 y0 y0)))
theorem fits3 (σ : Sg) (o : O) : runFits σ (.il .i64 3) o = fits3_T σ o := by kernel_rfl
noncomputable def fits4_T (σ : Sg) (o : O) : T (SV × List AV × List AV) :=
 let x0 : Bool := O.kind o == 7;
 let x1 : Bool :=
  match (O.val o == 0) == true with
  | true => O.tall o == 0
  | false => false;
 T.ite (match (!match (match decide (O.key o < 0) == false with | true => decide (O.key o > 255) | false => true) with | true => false | false => (match O.kind o == 6 with | true => (match decide (0 <= O.val o) == true with | true => (match decide (O.val o <= 1073741824) == true with | true => (match decide (0 <= O.tall o) == true with | true => decide (O.tall o <= 3) | false => false) | false => false) | false => false) | false => (match x0 with | true => (match x0 with | true => x1 | false => false) | false => (match O.kind o == 8 with | true => x1 | false => false)))) == false with | true => O.tall o != 0 | false => true) (T.leaf (SV.v (V1.c (Cell.bl false)), [], [])) (T.leaf (SV.v (V1.c (Cell.bl true)), [], []))
theorem fits4 (σ : Sg) (o : O) : runFits σ (.il .i64 4) o = fits4_T σ o := by kernel_rfl
noncomputable def fits5_T (σ : Sg) (o : O) : T (SV × List AV × List AV) :=
 let x0 : Bool := O.kind o == 6;
 let x1 : Bool := O.kind o == 7;
 let x2 : Bool :=
  match (O.val o == 0) == true with
  | true => O.tall o == 0
  | false => false;
 T.ite (match (!match (match decide (O.key o < 0) == false with | true => decide (O.key o > 255) | false => true) with | true => false | false => (match x0 with | true => (match decide (0 <= O.val o) == true with | true => (match decide (O.val o <= 1073741824) == true with | true => (match decide (0 <= O.tall o) == true with | true => decide (O.tall o <= 3) | false => false) | false => false) | false => false) | false => (match x1 with | true => (match x1 with | true => x2 | false => false) | false => (match O.kind o == 8 with | true => x2 | false => false)))) == false with | true => (match x0 == true with | true => decide (O.tall o < 1) | false => false) | false => true) (T.leaf (SV.v (V1.c (Cell.bl false)), [], [])) (T.leaf (SV.v (V1.c (Cell.bl true)), [], []))
theorem fits5 (σ : Sg) (o : O) : runFits σ (.il .i64 5) o = fits5_T σ o := by kernel_rfl
noncomputable def fits0_T (σ : Sg) (s : Int) (h : ∀ c ∈ [(1 : Int), 2, 3, 4, 5], (s == c) = false) (o : O) : T (SV × List AV × List AV) :=
 T.leaf (SV.v (V1.c (Cell.bl false)), [], [])
theorem fits0 (σ : Sg) (s : Int) (h : ∀ c ∈ [(1 : Int), 2, 3, 4, 5], (s == c) = false) (o : O) : runFits σ (.iv .i64 s [1, 2, 3, 4, 5] h) o = fits0_T σ s h o := by kernel_rfl
def allBool : T (SV × List AV × List AV) -> Bool
 | .leaf (.v (.c c), [], []) => match boolC c with | some _ => true | none => false
 | .ite _ t e => match allBool t with | true => allBool e | false => false
 | .need b t => match b with | true => allBool t | false => false
 | _ => false
def boolOf (t : T (SV × List AV × List AV)) : Bool := match t.val with
 | some (.v (.c c), _, _) => match boolC c with
   | some (b, _) => b
   | none => false
 | _ => false
theorem allBool_spec : ∀ {t : T (SV × List AV × List AV)}, allBool t = true -> ∃ c, t.val = some (.v (.c c), [], []) /\ c.name = none /\ ∀ ρ : Nm, c.den ρ = .bool (boolOf t)
 | .leaf (.v (.c c), [], []), h => by
   simp only [allBool] at h
   split at h
   ·rename_i x hx
    refine ⟨c, rfl, ?_, fun ρ => ?_⟩
    ·cases c <;> simp [boolC] at hx <;> rfl
    ·rw [boolC_den ρ hx]
     simp only [boolOf, T.val, hx]
   ·cases h
 | .ite b t e, h => by
   simp only [allBool] at h
   split at h
   ·rename_i ht
    cases b with
    | true => exact allBool_spec (t := t) ht
    | false => exact allBool_spec (t := e) h
   ·cases h
 | .need b t, h => by
   cases b with
   | true => exact allBool_spec (t := t) (by simpa [allBool] using h)
   | false => simp [allBool] at h
 | .fail _, h => by simp [allBool] at h
 | .leaf (.v (.c c), _ :: _, _), h => by simp [allBool] at h
 | .leaf (.v (.c c), [], _ :: _), h => by simp [allBool] at h
 | .leaf (.v (.agg _), _, _), h => by simp [allBool] at h
 | .leaf (.tup _, _, _), h => by simp [allBool] at h
 | .leaf (.unk, _, _), h => by simp [allBool] at h
 | .leaf (.clo _ _, _, _), h => by simp [allBool] at h
def sg0 : Sg := ⟨fun _ => ⟨0, 0, none⟩, fun _ => none⟩
noncomputable def fitsM (s : Int) (o : O) : Bool :=
 if s = 1 then boolOf (fits1_T sg0 o) else if s = 2 then boolOf (fits2_T sg0 o) else if s = 3 then boolOf (fits3_T sg0 o) else if s = 4 then boolOf (fits4_T sg0 o) else if s = 5 then boolOf (fits5_T sg0 o) else false
theorem fits1_b (σ : Sg) (o : O) : allBool (fits1_T σ o) = true := by kernel_rfl
theorem fits2_b (σ : Sg) (o : O) : allBool (fits2_T σ o) = true := by kernel_rfl
theorem fits3_b (σ : Sg) (o : O) : allBool (fits3_T σ o) = true := by kernel_rfl
theorem fits4_b (σ : Sg) (o : O) : allBool (fits4_T σ o) = true := by kernel_rfl
theorem fits5_b (σ : Sg) (o : O) : allBool (fits5_T σ o) = true := by kernel_rfl
theorem fits_val (σ : Sg) (s : Int) (o : O) : ∃ c0 c : Cell, (∀ ρ : Nm, c0.den ρ = .int .i64 s) /\ c0.name = none /\ (runFits σ c0 o).val = some (.v (.c c), [], []) /\ c.name = none /\ ∀ ρ : Nm, c.den ρ = .bool (fitsM s o) := by
 have go : ∀ (k : Int) (t t0 : T (SV × List AV × List AV)), s = k -> runFits σ (.il .i64 k) o = t -> allBool t = true -> t = t0 -> fitsM s o = boolOf t0 -> ∃ c0 c : Cell, (∀ ρ : Nm, c0.den ρ = .int .i64 s) /\ c0.name = none /\ (runFits σ c0 o).val = some (.v (.c c), [], []) /\ c.name = none /\ ∀ ρ : Nm, c.den ρ = .bool (fitsM s o) := by
  intro k t t0 hk hr ha ht hf
  obtain ⟨c, h1, h2, h3⟩ := allBool_spec ha
  exact ⟨.il .i64 k, c, fun ρ => (by rw [hk]; rfl), rfl, by rw [hr]; exact h1, h2, fun ρ => by rw [h3 ρ, hf, ht]⟩
 by_cases h1 : s = 1
 ·exact go 1 _ (fits1_T sg0 o) h1 (fits1 σ o) (fits1_b σ o) rfl (by unfold fitsM; rw [if_pos h1])
 by_cases h2 : s = 2
 ·exact go 2 _ (fits2_T sg0 o) h2 (fits2 σ o) (fits2_b σ o) rfl (by unfold fitsM; rw [if_neg h1, if_pos h2])
 by_cases h3 : s = 3
 ·exact go 3 _ (fits3_T sg0 o) h3 (fits3 σ o) (fits3_b σ o) rfl (by unfold fitsM; rw [if_neg h1, if_neg h2, if_pos h3])
 by_cases h4 : s = 4
 ·exact go 4 _ (fits4_T sg0 o) h4 (fits4 σ o) (fits4_b σ o) rfl (by unfold fitsM; rw [if_neg h1, if_neg h2, if_neg h3, if_pos h4])
 by_cases h5 : s = 5
 ·exact go 5 _ (fits5_T sg0 o) h5 (fits5 σ o) (fits5_b σ o) rfl (by unfold fitsM; rw [if_neg h1, if_neg h2, if_neg h3, if_neg h4, if_pos h5])
 have hn : ∀ c ∈ [(1 : Int), 2, 3, 4, 5], (s == c) = false := by
  intro c hc
  simp only [List.mem_cons, List.not_mem_nil, or_false] at hc
  rcases hc with rfl | rfl | rfl | rfl | rfl <;> simp [h1, h2, h3, h4, h5]
 refine ⟨.iv .i64 s [1, 2, 3, 4, 5] hn, .bl false, fun ρ => rfl, rfl, by rw [fits0 σ s hn o]; rfl, rfl, fun ρ => ?_⟩
 have : fitsM s o = false := by unfold fitsM; rw [if_neg h1, if_neg h2, if_neg h3, if_neg h4, if_neg h5]
 rw [this]
 rfl
noncomputable def fitsS (args : List SV) (l : List AV) : T (SV × List AV × List AV) := match args, l with
 | [.v (.c c0), .v (.agg cs)], [] => match iOf c0, O.dec cs with
   | some s, some o => .leaf (.v (.c (.bt (fitsM s o))), [], [])
   | _, _ => .fail "fits"
 | _, _ => .fail "fits"
theorem fitsS_ok {σ : Sg} : FnOk Tryd.prog (NV σ) 13 (sumG isS fitM fitsS) := by
 refine sumG_ok isS_ok rfl fun args l v l' nw h hl hargs => ?_
 unfold fitsS at h
 split at h
 ·rename_i c0 cs
  split at h
  ·rename_i s o h1 h2
   simp only [T.val, Option.some.injEq, Prod.mk.injEq] at h
   obtain ⟨rfl, rfl, rfl⟩ := h
   obtain ⟨d0, c, e1, e2, e3, e4, e5⟩ := fits_val σ s o
   obtain ⟨g1, g2⟩ := O.dec_ok cs o h2
   have hnm : ∀ x ∈ o.enc, x.name = none := fun x hx => by
    simp only [O.enc, List.mem_cons, List.not_mem_nil, or_false] at hx
    rcases hx with rfl | rfl | rfl | rfl <;> rfl
   have hc := runN_ok lpsV (fun f g h => by cases h) (M := fitM) rfl (l := []) (fun x hx => by
    simp only [List.mem_cons, List.not_mem_nil, or_false] at hx
    rcases hx with rfl | rfl
    ·intro c hc; simp [V1.cells] at hc; subst hc; intro m hm; rw [e2] at hm; cases hm
    ·intro c hc m hm; rw [hnm c hc] at hm; cases hm) e3
   refine ctr_val (ctr_args hc.1 fun ρ => ?_) (by intro c hc; simp [V1.cells] at hc; subst hc; intro m hm; cases hm) fun ρ => ?_
   ·have hd : denL ρ cs = denL ρ o.enc := by rw [names_den g2 ρ Nm.id, names_den hnm ρ Nm.id, g1]
    simp only [List.map_cons, List.map_nil, SV.den, V1.den, iOf_d h1 ρ, e1 ρ, hd]
   ·simp only [SV.den, V1.den, e5 ρ, Cell.den]
  ·simp [T.val] at h
 ·simp [T.val] at h
end Go.Proofs.YtpapbhbnaalhcaaDoor
