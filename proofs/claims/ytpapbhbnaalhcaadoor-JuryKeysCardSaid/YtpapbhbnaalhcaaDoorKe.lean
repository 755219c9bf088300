import Derived.Test.YtpapbhbnaalhcaaDoorKa
import Derived.Test.YtpapbhbnaalhcaaDoorSxMq
namespace Go.Proofs.YtpapbhbnaalhcaaDoor
open Go Go.Sx Go.Proofs Go.Shelf Go.RowKit
set_option linter.unusedVariables false
set_option maxRecDepth 100000
theorem cell_lt {w : World} {b o : Nat} {v : Value} (h : w.cell? ⟨b, o, none⟩ = some v) : b < w.heap.size := by
 unfold World.cell? at h
 cases hb : w.heap[b]? with
 | none => simp [hb] at h
 | some x => exact (Array.getElem?_eq_some_iff.1 hb).1
theorem below_cell {B : Nat} {w w' : World} (h : Below B w w') {b o : Nat} (hb : b < B) : w'.cell? ⟨b, o, none⟩ = w.cell? ⟨b, o, none⟩ := by
 unfold World.cell?
 rw [show w'.heap[b]? = w.heap[b]? from h.block b hb]
theorem Sg.has.mono {σ : Sg} {w w' : World} (h : σ.has w) (hb : Below w.heap.size w w') : σ.has w' := fun k o hk => by
 have := h k o hk
 rw [hb.block k (Array.getElem?_eq_some_iff.1 this).1]
 exact this
theorem Sg.has.free {σ : Sg} {w : World} (h : σ.has w) {k : Nat} (hk : w.heap.size <= k) : σ.R k = none := by
 cases hr : σ.R k with
 | none => rfl
 | some o =>
   have := (Array.getElem?_eq_some_iff.1 (h k o hr)).1
   omega
def NewRow (B : Nat) (es : Nat) (ty : TypeId) (w w' : World) (n : Nat) (vs : List Value) (v : Value) : Prop := ∃ (lc : Sx.Loc) (S : Nat -> Prop), v = vsDen lc 0 n es /\ lc.o = 0 /\ vecQ lc S vs es ty w' /\ (∀ k, S k -> B <= k) /\ Below B w w'
theorem clone_row {f : FuncId} {es : Nat} {ty : TypeId} (hc : CloneC f es ty) (w : World) (l : Sx.Loc) (S : Nat -> Prop) (n : Nat) (vs : List Value) (hq : vecQ l S vs es ty w) (hlen : vs.length = n * es) (hn : n <= 1000000) (hone : ∀ u ∈ vs, u.oneCell' = true) :
 Calls Tryd.prog f #[vsDen l 0 n es] w fun e w' => ∃ v, e = .returned v /\ NewRow w.heap.size es ty w w' n vs v := by
 rw [vsDen_eq]
 by_cases h0 : n = 0 /\ l.c = 0
 ·rw [if_pos h0]
  refine (hc.1 0 0 w).mono ?_
  rintro ex w' ⟨rfl, rfl⟩
  refine ⟨_, rfl, ⟨0, 0, 0⟩, fun _ => False, ?_, rfl, .inl ⟨Nat.zero_le _, List.eq_nil_of_length_eq_zero (by rw [hlen, h0.1, Nat.zero_mul]), fun _ h => h⟩, fun k h => h.elim, Below.refl _ _⟩
  rw [vsDen_eq, if_pos ⟨h0.1, rfl⟩]
 ·rw [if_neg h0]
  refine (hc.2 _ _ n _ vs w hlen hn (fun j u hu => ?_) hone).mono ?_
  ·have := vecQ_at hq j u hu
   have ea : (⟨l.b, l.o, none⟩ : Addr).add j = ⟨l.b, l.o + j, none⟩ := by unfold Addr.add; split <;> simp_all
   rw [ea] at this
   exact this
  ·rintro ex w' ⟨v', rfl, ⟨_, hown⟩, hne, hbl⟩
   rcases hown with ⟨h1, _⟩ | ⟨g, cap, cur, rfl, hg, hh, hle, _, hcs, htk⟩
   ·exact absurd h1 hne
   ·refine ⟨_, rfl, ⟨g, 0, cap + 1⟩, fun k => k = g, ?_, rfl, .inr ⟨Nat.succ_pos _, fun k => Iff.rfl, cur.toList, by rw [Array.toArray_toList]; exact hh, by simp [hcs], by rw [hlen]; exact Nat.mul_le_mul_right _ (by simpa using hle), fun j u hu => by
     rw [<- htk, List.getElem?_take] at hu
     split at hu
     ·simpa using hu
     ·cases hu⟩, fun k hk => by rw [hk]; exact hg, hbl⟩
    rw [vsDen_eq, if_neg (fun h => by cases h.2)]
    rfl
theorem NewRow.row {B es : Nat} {ty : TypeId} {w w' : World} {n : Nat} {vs : List Value} {v : Value} (h : NewRow B es ty w w' n vs v) (hlen : vs.length = n * es) (hes : 0 < es) : RowJ B ty w' v n vs := by
 obtain ⟨lc, S, rfl, ho, hq, hS, _⟩ := h
 rw [vsDen_eq]
 rcases hq with ⟨h1, rfl, _⟩ | ⟨h1, h2, row, h3, h4, h5, h6⟩
 ·have hn : n = 0 := by
   rcases Nat.eq_zero_or_pos n with h | h
   ·exact h
   ·have := Nat.mul_pos h hes
    simp at hlen
    omega
  subst hn
  by_cases h0 : lc.c = 0
  ·rw [if_pos ⟨rfl, h0⟩]
   exact ⟨none, 0, rfl, .inl rfl⟩
  ·rw [if_neg fun h => h0 h.2]
   exact ⟨_, _, rfl, .inl rfl⟩
 ·rw [if_neg fun h => by omega]
  refine ⟨_, _, rfl, .inr ⟨lc.b, row.toArray, ?_, hS _ ((h2 _).2 rfl), h3, fun j u hj => ?_⟩⟩
  ·rw [ho]
  ·have := h6 j u hj
   rw [ho, Nat.zero_add] at this
   simpa using this
theorem NewRow.below {B es : Nat} {ty : TypeId} {w w' : World} {n : Nat} {vs : List Value} {v : Value} (h : NewRow B es ty w w' n vs v) : Below B w w' := h.choose_spec.choose_spec.2.2.2.2
theorem rev_row {σ : Sg} (B : Nat) (w w1 : World) (lc : Sx.Loc) (S : Nat -> Prop) (l : List N1) (hl : l.length <= 1000) (hR : σ.has w1) (hRS : ∀ k, S k -> σ.R k = none) (ho : lc.o = 0) (hq : vecQ lc S (kints.vals l) 1 3 w1) (hS : ∀ k, S k -> B <= k) (hB : Below B w w1) (hsz : B <= w1.heap.size) :
 Calls Tryd.prog 55 #[vsDen lc 0 l.length 1] w1 fun e w2 => e = .returned (.tuple #[]) /\ NewRow B 1 3 w w2 l.length (kints.vals l.reverse) (vsDen lc 0 l.length 1) := by
 have hsm : smallN l.length := by simp only [smallN]; omega
 have h7 : hget (hpO noM [AV.ints l]) 7 = some (.abs (.ints l)) := hpO_at noM [AV.ints l] 0 _ rfl
 have h7' : hget (hpO noM [AV.ints l.reverse]) 7 = some (.abs (.ints l.reverse)) := hpO_at noM [AV.ints l.reverse] 0 _ rfl
 have only7 : ∀ n c, hget (hpO noM [AV.ints l]) n = some c -> n = 7 /\ c = .abs (.ints l) := fun n c h => by
  rcases n with _ | _ | _ | _ | _ | _ | _ | _ | n
  all_goals first
   | (cases h; done)
   | (cases h; exact ⟨rfl, rfl⟩)
 let ρ : Nm := ⟨fun n => if n = 7 then lc else ⟨n, 0, 0⟩, fun _ => S⟩
 have eL : ρ.L 7 = lc := by simp [ρ]
 have hF : (NV σ).F.arr (.ints l) = some (1, 3, kints.vals l) := rfl
 have hF' : (NV σ).F.arr (.ints l.reverse) = some (1, 3, kints.vals l.reverse) := rfl
 have hO : Own (NV σ) ρ (hpO noM [AV.ints l]) w1 := by
  refine ⟨⟨fun n c h => ?_, fun n m c d hne hc hd k _ _ => ?_, fun g hg => ?_⟩, hR, fun n c k h hk => ?_⟩
  ·obtain ⟨rfl, rfl⟩ := only7 n c h
   show (NV σ).F.q (.ints l) (ρ.L 7) S w1
   rw [eL]
   exact (((NV σ).F.arr_q _ _ _ _ hF).2 _ _ _).2 hq
  ·obtain ⟨rfl, _⟩ := only7 n c hc
   obtain ⟨rfl, _⟩ := only7 m d hd
   exact absurd rfl hne
  ·have hg' : g ≠ 7 := by
    have : g < 7 := hg
    omega
   show (ρ.L g).b = g
   simp only [ρ, if_neg hg']
  ·obtain ⟨rfl, rfl⟩ := only7 n c h
   exact hRS k hk
 refine ((rev_ctr (σ := σ) l hsm).2.2 ρ w1 hO).mono ?_
 rintro e w2 ⟨ρ', rfl, o2, ev⟩
 have e2 : ρ'.L 7 = lc := by rw [ev.agree 7 _ h7, eL]
 refine ⟨rfl, lc, ρ'.S 7, rfl, ho, ?_, fun k hk => ?_, ?_⟩
 ·have := (((NV σ).F.arr_q _ _ _ _ hF').2 _ _ _).1 (o2.q 7 _ h7')
  rw [e2] at this
  exact this
 ·rcases ev.new 7 _ k h7' hk with h | ⟨m, d, hm, hk'⟩
  ·omega
  ·obtain ⟨rfl, rfl⟩ := only7 m d hm
   exact hS k hk'
 ·refine hB.trans ⟨ev.os, ev.tape, ev.output, ev.size, fun k hk => ev.frame k (by omega) fun n c hc hk' => ?_⟩
  obtain ⟨rfl, rfl⟩ := only7 n c hc
  have := hS k hk'
  omega
theorem vals_walk {σ : Sg} (b : Nat) (w : World) (st : Int) (l : Sx.Loc) (S : Nat -> Prop) (vals : List N1) (h0 : w.cell? ⟨b, 0, none⟩ = some (.int .i64 st)) (h1 : w.cell? ⟨b, 1, none⟩ = some (vsDen l 0 vals.length 1))
 (hq : vecQ l S (kints.vals vals) 1 3 w) (hl : vals.length <= 1000) (hR : σ.has w) : Calls Tryd.prog 49 #[.pointer (some ⟨b, 0, none⟩)] w fun e w' =>
   ∃ v, e = .returned v /\ NewRow w.heap.size 1 3 w w' vals.length (kints.vals (if st = 1 then vals.reverse else vals)) v := by
 have hlen : (kints.vals vals).length = vals.length * 1 := (NV σ).F.len_ok (.ints vals) _ _ _ rfl
 have hone : ∀ u ∈ kints.vals vals, u.oneCell' = true := ((NV σ).F.arr_q (.ints vals) _ _ _ rfl).1
 have hcl := clone_row cloneI_c w l S vals.length (kints.vals vals) hq hlen (by omega) hone
 generalize vsDen l 0 vals.length 1 = sv at h1 hcl
 go_enter Tryd.func49, Tryd.ntmps49
 go_wp2_with (go_at_call 52; refine hcl.mono ?_; rintro e w1 ⟨v1, rfl, hrow⟩; refine Hid.out ?_)
 refine Lib.hid ?_
 have hb : b < w.heap.size := cell_lt h0
 obtain ⟨lc, S', hv, ho, hq1, hS, hB⟩ := hrow
 have h0' : w1.cell? ⟨b, 0, none⟩ = some (.int .i64 st) := by rw [<- h0]; exact below_cell hB hb
 have hrev := rev_row (σ := σ) w.heap.size w w1 lc S' vals hl (hR.mono hB) (fun k hk => hR.free (hS k hk)) ho hq1 hS hB hB.size
 rw [<- hv] at hrev
 by_cases hst : st = 1
 ·subst hst
  clear hlen hone hq hq1 hcl hb hl h0 h1 hS ho hv hR hB
  go_wp2_with (go_at_call 55; refine hrev.mono ?_; rintro e w2 ⟨rfl, hrow2⟩; refine Hid.out ?_)
  refine Lib.hid ?_
  go_wp2
  go_ret
  exact ⟨_, rfl, hrow2⟩
 ·have hrow : NewRow w.heap.size 1 3 w w1 vals.length (kints.vals vals) v1 := ⟨lc, S', hv, ho, hq1, hS, hB⟩
  clear hlen hone hq hq1 hcl hb hl h0 h1 hS ho hv hR hB hrev
  go_wp2
  go_ret
  exact ⟨_, rfl, hrow⟩
theorem pairs_walk (b : Nat) (w : World) (l : Sx.Loc) (S : Nat -> Prop) (ps : List Pr) (h2 : w.cell? ⟨b, 2, none⟩ = some (vsDen l 0 ps.length 2))
 (hq : vecQ l S (kpairs.vals ps) 2 98 w) (hl : ps.length <= 1000) : Calls Tryd.prog 51 #[.pointer (some ⟨b, 0, none⟩)] w fun e w' =>
   ∃ v, e = .returned v /\ NewRow w.heap.size 2 98 w w' ps.length (kpairs.vals ps) v := by
 have hlen : (kpairs.vals ps).length = ps.length * 2 := (NV sg0).F.len_ok (.pairs ps) _ _ _ rfl
 have hone : ∀ u ∈ kpairs.vals ps, u.oneCell' = true := ((NV sg0).F.arr_q (.pairs ps) _ _ _ rfl).1
 have hcl := clone_row cloneP_c w l S ps.length (kpairs.vals ps) hq hlen (by omega) hone
 generalize vsDen l 0 ps.length 2 = sv at h2 hcl
 go_enter Tryd.func51, Tryd.ntmps51
 go_wp2_with (go_at_call 53; refine hcl.mono ?_; rintro e w1 ⟨v1, rfl, hrow⟩; refine Hid.out ?_)
 refine Lib.hid ?_
 go_wp2
 go_ret
 exact ⟨_, rfl, hrow⟩
theorem own_still {N : Env AV} {ρ : Nm} {H : Hp AV} {w w' : World} (hO : Own N ρ H w) (hb : Below w.heap.size w w') : Own N ρ H w' /\ Evo N H.length ρ H w ρ H w' := by
 have he : Evo N H.length ρ H w ρ H w' := ⟨fun n c h => ⟨c, h⟩, fun _ _ _ => rfl, fun _ _ h => h, Nat.le_refl _, fun k hk _ => hb.block k hk, fun n c k h hk => .inr ⟨n, c, h, hk⟩, hb.os, hb.tape, hb.output, hb.size⟩
 exact ⟨hO.upd ⟨fun n c h => q_keep (hO.q n c h) rfl rfl rfl fun k hk => hb.block k (hO.lt h hk), hO.dis, hO.glb⟩ he, he⟩
def TabR (σ : Sg) : Prop := ∃ ty z, σ.R 4 = some (.cells (Lib.pow10Tab.map fun z => Value.int .u64 z).toArray ty z)
theorem tabR_is {σ : Sg} (h : TabR σ) {w : World} (hw : σ.has w) : Lib.TabIs Tryd.prog w "internal/strconv.uint64pow10" .u64 Lib.pow10Tab := by
 obtain ⟨ty, z, hR⟩ := h
 have hb := hw _ _ hR
 have hg : Tryd.prog.globalNamed "internal/strconv.uint64pow10" = some 4 := by kernel_rfl
 unfold Lib.TabIs World.var?
 rw [hg, Option.bind_some, hb]
theorem vals_ints (l : List N1) : kints.vals l = l.map fun x => Value.int .i64 x.val := by
 induction l with
 | nil => rfl
 | cons x r ih =>
   have e1 : kints.vals (x :: r) = .int .i64 x.val :: kints.vals r := rfl
   rw [e1, ih]
   rfl
theorem vals_pairs (l : List Pr) : kpairs.vals l = l.flatMap fun x => [Value.int .i64 x.key, .int .i64 x.val] := by
 induction l with
 | nil => rfl
 | cons x r ih =>
   have e1 : kpairs.vals (x :: r) = .int .i64 x.key :: .int .i64 x.val :: kpairs.vals r := rfl
   rw [e1, ih]
   rfl
theorem contS_ok {σ : Sg} (ht : TabR σ) : FnOk Tryd.prog (NV σ) 37 (sumG isS contM contS) := by
 refine sumG_ok isS_ok rfl fun args l v l' nw h hl hargs => ?_
 unfold contS at h
 split at h
 ·rename_i n a
  split at h
  ·rename_i m b h1 h3
   have hn := (beq_iff _ _).1 h1
   subst hn
   replace h := need_some h
   obtain ⟨hb, h⟩ := h
   subst hb
   have ha := creedY_spec h3
   subst ha
   replace h := need_some h
   obtain ⟨hok, h⟩ := h
   simp only [T.val, Option.some.injEq, Prod.mk.injEq] at h
   obtain ⟨rfl, rfl, rfl⟩ := h
   refine ⟨cl_plain rfl, hpO_cl contM [creedV m], fun ρ w hO => ?_⟩
   have h7 : hget (hpO contM [creedV m]) 7 = some (.abs (creedV m)) := hpO_at contM [creedV m] 0 _ rfl
   obtain ⟨ρ0, e0, hL, _⟩ := (q_obj (N := NV σ) (σ := σ) rfl (a := creedV m) (K := layG tCreed (creedC m)) rfl rfl _ _ _).1 (hO.q 7 _ h7)
   have c0 : w.heap[ρ0 0]? = some (.cells (denL ρ0 (cellsG 1 (creedC m))).toArray tCreed (0, 0)) := hL.q 0 (.cells (cellsG 1 (creedC m)) tCreed) rfl
   have c1 : (NV σ).F.q (.ints m.vals) (ρ0.L 1) (ρ0.S 1) w := hL.q 1 (.abs (.ints m.vals)) rfl
   have c2 : (NV σ).F.q (.pairs m.pairs) (ρ0.L 2) (ρ0.S 2) w := hL.q 2 (.abs (.pairs m.pairs)) rfl
   have q1 := (((NV σ).F.arr_q (.ints m.vals) _ _ _ rfl).2 _ _ _).1 c1
   have q2 := (((NV σ).F.arr_q (.pairs m.pairs) _ _ _ rfl).2 _ _ _).1 c2
   have eb : ρ0 0 = ρ 7 := congrArg Sx.Loc.b e0
   rw [eb] at c0
   have g0 : w.cell? ⟨ρ 7, 0, none⟩ = some (.int .i64 m.st) := by simp only [World.cell?, c0]; rfl
   have g1 : w.cell? ⟨ρ 7, 1, none⟩ = some (vsDen (ρ0.L 1) 0 m.vals.length 1) := by simp only [World.cell?, c0]; rfl
   have g2 : w.cell? ⟨ρ 7, 2, none⟩ = some (vsDen (ρ0.L 2) 0 m.pairs.length 2) := by simp only [World.cell?, c0]; rfl
   have hbs : ρ 7 < w.heap.size := (Array.getElem?_eq_some_iff.1 c0).1
   simp only [contOk, Bool.and_eq_true, decide_eq_true_eq, List.all_eq_true, in64] at hok
   obtain ⟨⟨hv, hp⟩, hvr, hpr⟩ := hok
   have hV := (vals_walk (σ := σ) (ρ 7) w m.st _ _ m.vals g0 g1 q1 hv hO.ro.1)
   have hw := cont_walk (.pointer (some ⟨ρ 7, 0, none⟩)) w (if m.st = 1 then m.vals.reverse else m.vals) m.pairs (hV.mono ?_) (fun w2 hb2 => ?_) (by split <;> simp [hv]) hp (fun x hx => ?_) (fun x hx => ?_) (tabR_is ht hO.ro.1)
   ·refine hw.mono ?_
    rintro e w' ⟨rfl, hb⟩
    obtain ⟨o1, o2⟩ := own_still hO hb
    exact ⟨ρ, rfl, o1, o2⟩
   ·rintro e w' ⟨v, rfl, hrow⟩
    have hlen : (if m.st = 1 then m.vals.reverse else m.vals).length = m.vals.length := by split <;> simp
    refine ⟨v, rfl, ?_, hrow.below⟩
    have := hrow.row (by rw [vals_ints, List.length_map, hlen, Nat.mul_one]) (by decide)
    rw [vals_ints] at this
    rw [hlen]
    exact this
   ·have := pairs_walk (ρ 7) w2 (ρ0.L 2) (ρ0.S 2) m.pairs (by rw [<- g2]; exact below_cell hb2 hbs) (vecQ_keep q2 fun k hk => hb2.block k ((NV σ).F.dom _ _ _ _ k c2 hk)) hp
    refine this.mono ?_
    rintro e w' ⟨v, rfl, hrow⟩
    refine ⟨v, rfl, ?_, hrow.below⟩
    have := hrow.row ((NV σ).F.len_ok (.pairs m.pairs) _ _ _ rfl) (by decide)
    rw [vals_pairs] at this
    exact this
   ·refine hvr x ?_
    split at hx
    ·simpa using hx
    ·exact hx
   ·obtain ⟨a1, a2⟩ := hpr x hx
    exact ⟨a1.1, a1.2, a2.1, a2.2⟩
  ·simp [T.val] at h
 ·simp [T.val] at h
end Go.Proofs.YtpapbhbnaalhcaaDoor

namespace Go.Proofs.YtpapbhbnaalhcaaDoor
open Go Go.Sx Go.Proofs
set_option linter.unusedVariables false
set_option maxRecDepth 100000
def packF (pk : Chunk AV -> Option AV) (ns : List Nat) : Nat -> Hp AV -> Hp AV
 | _, [] => []
 | i, x :: r => (match hasN ns i with | true => packC pk x | false => x) :: packF pk ns (i + 1) r
theorem packF_len (pk : Chunk AV -> Option AV) (ns : List Nat) : ∀ (H : Hp AV) (i : Nat), (packF pk ns i H).length = H.length
 | [], i => rfl
 | x :: r, i => congrArg (· + 1) (packF_len pk ns r (i + 1))
theorem packF_get (pk : Chunk AV -> Option AV) (ns : List Nat) : ∀ (H : Hp AV) (i n : Nat), hget (packF pk ns i H) n = match hasN ns (i + n) with | true => packC pk (hget H n) | false => hget H n
 | [], i, n => by cases n <;> (simp only [packF, hget, packC]; split <;> rfl)
 | x :: r, i, 0 => rfl
 | x :: r, i, n + 1 => by
   simp only [packF, hget]
   rw [packF_get pk ns r (i + 1) n, show i + 1 + n = i + (n + 1) by omega]
def looseC : SV -> SV
 | .v (.c (.vs n o len es _)) => .v (.c (.vs n o len es false))
 | x => x
theorem looseC_den (ρ : Nm) : ∀ x : SV, (looseC x).den ρ = x.den ρ
 | .v (.c (.vs _ _ _ _ _)) => rfl
 | x => by unfold looseC; split <;> rfl
theorem looseC_cl {H : Hp AV} : ∀ {x : SV}, ClV H x -> ClV H (looseC x) := fun {x} h => by
 unfold looseC
 split
 ·rename_i n o len es kn
  intro c hc m hm
  simp [V1.cells] at hc
  subst hc
  exact h (.vs n o len es kn) (by simp [V1.cells]) m hm
 ·exact h
def packT (g : List SV -> Hp AV -> T (SV × Hp AV)) : List SV -> Hp AV -> T (SV × Hp AV) := fun args H => g (args.map looseC) (packF pkJ (namesVs args) 0 H)
theorem chunk_id (d : Chunk AV) : d.ren (fun n => n) = d := by
 have one : ∀ l : List Cell, l.map (Cell.ren fun n => n) = l := fun l => by
  conv => rhs; rw [<- List.map_id l]
  exact List.map_congr_left fun c _ => ren_id c fun n _ => rfl
 cases d with
 | cells l ty => exact congrArg (Chunk.cells · ty) (one l)
 | vec l es ty => exact congrArg (Chunk.vec · es ty) (one l)
 | dead => rfl
 | abs a => rfl
theorem packT_ok {σ : Sg} {f : FuncId} {g : List SV -> Hp AV -> T (SV × Hp AV)} (h : FnOk Tryd.prog (NV σ) f g) : FnOk Tryd.prog (NV σ) f (packT g) := by
 intro args H v H' hr ha hC
 have src : ∀ n c, hget (packF pkJ (namesVs args) 0 H) n = some c -> ∃ d, hget H n = some d /\ Lesser (NV σ) d c /\ (c = d \/ ∃ a, c = .abs a) := fun n c hc => by
  rw [packF_get] at hc
  split at hc
  ·cases hd : hget H n with
   | none => rw [hd] at hc; cases hc
   | some d =>
     rw [hd] at hc
     simp only [packC] at hc
     split at hc
     ·rename_i a hpk
      cases hc
      refine ⟨d, rfl, ?_, .inr ⟨a, rfl⟩⟩
      have := pkJ_ok (σ := σ) (lp := noLp) d a hpk (fun n => n)
      rw [chunk_id] at this
      exact this
     ·cases hc
      exact ⟨c, rfl, Lesser.refl _, .inl rfl⟩
  ·exact ⟨c, hc, Lesser.refl _, .inl rfl⟩
 have pers : ∀ n d, hget H n = some d -> ∃ c, hget (packF pkJ (namesVs args) 0 H) n = some c := fun n d hd => by
  rw [packF_get]
  split
  ·rw [hd]
   simp only [packC]
   split <;> exact ⟨_, rfl⟩
  ·exact ⟨d, hd⟩
 have none' : ∀ n, hget H n = none -> hget (packF pkJ (namesVs args) 0 H) n = none := fun n hn => by
  rw [packF_get, hn]
  split <;> rfl
 have cl1 : ClHp (NV σ) (packF pkJ (namesVs args) 0 H) := by
  refine ⟨fun n c hc => ?_, trivial⟩
  obtain ⟨d, hd, _, e⟩ := src n c hc
  rcases e with rfl | ⟨a, rfl⟩
  ·exact (hC.1 n c hd).mono fun m c h => pers m c h
  ·intro x hx; cases hx
 obtain ⟨h1, h2, h3⟩ := h (args.map looseC) _ v H' hr (fun x hx => by
  obtain ⟨y, hy, rfl⟩ := List.mem_map.1 hx
  exact (looseC_cl (ha y hy)).mono fun m c h => pers m c h) cl1
 refine ⟨h1, h2, fun ρ w hO => ?_⟩
 have hO1 : Own (NV σ) ρ (packF pkJ (namesVs args) 0 H) w := by
  refine hO.sub ⟨fun n c hc => ?_, fun n m c d hne hc hd k hk hk' => ?_, hO.glb⟩ fun n c k hc hk => ?_
  ·obtain ⟨d, hd, hl, _⟩ := src n c hc
   exact (hl ρ n w).1 (hO.q n d hd)
  ·obtain ⟨c', hc', hl, _⟩ := src n c hc
   obtain ⟨d', hd', hl', _⟩ := src m d hd
   exact hO.dis n m c' d' hne hc' hd' k (((hl ρ n w).2 k).1 hk) (((hl' ρ m w).2 k).1 hk')
  ·obtain ⟨d, hd, hl, _⟩ := src n c hc
   exact ⟨n, d, hd, ((hl ρ n w).2 k).1 hk⟩
 have h3 := h3 ρ w hO1
 rw [List.map_map, show (SV.den ρ) ∘ looseC = SV.den ρ from funext (looseC_den ρ)] at h3
 refine h3.mono ?_
 rintro e w' ⟨ρ', he, o, ev⟩
 refine ⟨ρ', he, o, ⟨fun n c hc => ?_, fun n c hc => ?_, fun n hn hc => ?_, ?_, fun k hk hno => ?_, fun n c k hc hk => ?_, ev.os, ev.tape, ev.output, ev.size⟩⟩
 ·obtain ⟨c', hc'⟩ := pers n c hc
  exact ev.pers n c' hc'
 ·obtain ⟨c', hc'⟩ := pers n c hc
  exact ev.agree n c' hc'
 ·exact ev.non n (by rw [packF_len]; exact hn) (none' n hc)
 ·have := ev.len
  rwa [packF_len] at this
 ·refine ev.frame k hk fun n c hc hk' => ?_
  obtain ⟨d, hd, hl, _⟩ := src n c hc
  exact hno n d hd (((hl ρ n w).2 k).1 hk')
 ·rcases ev.new n c k hc hk with h | ⟨m, d, hd, hk'⟩
  ·exact .inl h
  ·obtain ⟨d', hd', hl, _⟩ := src m d hd
   exact .inr ⟨m, d', hd', ((hl ρ m w).2 k).1 hk'⟩
end Go.Proofs.YtpapbhbnaalhcaaDoor

namespace Go.Proofs.YtpapbhbnaalhcaaDoor
open Go Go.Sx Go.Proofs
set_option linter.unusedVariables false
set_option maxRecDepth 100000
noncomputable def tabAw (σ : Sg) : Tab := tabAdd 12 sumIs (tabAdd 10 (packT (sumG isS linM (linS σ (fmK 14)))) (tabAdd 8 (sumG isS argM (newS σ)) (tabAdd 11 (packT (sumG isS rowM (ofS σ))) (tabAdd 33 (sumG isS fitM perfS) fun _ => none))))
theorem tabAw_ok {σ : Sg} (ht : TabR σ) : TabOk Tryd.prog (NV σ) (tabAw σ) :=
 tabAdd_ok (lp := noLp) is_ok (tabAdd_ok (lp := noLp) (packT_ok (linS_ok (contS_ok ht) 14)) (tabAdd_ok (lp := noLp) newS_ok (tabAdd_ok (lp := noLp) (packT_ok ofS_ok) (tabAdd_ok (lp := noLp) perfS_ok fun f g h => by cases h))))
noncomputable def awakeR (σ : Sg) : T (SV × List AV × List AV) := runN noLp σ (tabAw σ) 7 linM [] []
def cutT {α : Type} : Nat -> T α -> Option (Bool × T α)
 | 0, .need b t => some (b, t)
 | n + 1, .need b t => match b with | true => cutT n t | false => none
 | n + 1, .ite b t e => match b with | true => cutT n t | false => cutT n e
 | _, _ => none
theorem cutT_val {α : Type} : ∀ {n : Nat} {t t' : T α} {b : Bool}, cutT n t = some (b, t') -> b = true -> t.val = t'.val
 | 0, .need b t, t', b', h, hb => by
   simp only [cutT, Option.some.injEq, Prod.mk.injEq] at h
   obtain ⟨rfl, rfl⟩ := h
   subst hb
   rfl
 | 0, .leaf _, _, _, h, _ => by simp [cutT] at h
 | 0, .ite _ _ _, _, _, h, _ => by simp [cutT] at h
 | 0, .fail _, _, _, h, _ => by simp [cutT] at h
 | n + 1, .need b t, t', b', h, hb => by
   cases b with
   | true => exact cutT_val (t := t) (n := n) h hb
   | false => simp [cutT] at h
 | n + 1, .ite b t e, t', b', h, hb => by
   cases b with
   | true => exact cutT_val (t := t) (n := n) h hb
   | false => exact cutT_val (t := e) (n := n) h hb
 | n + 1, .leaf _, _, _, h, _ => by simp [cutT] at h
 | n + 1, .fail _, _, _, h, _ => by simp [cutT] at h
theorem awake_cut (σ : Sg) : (cutT 28 (awakeR σ)).map (fun r => (r.1, r.2.val)) = some (decide (σ 0 = σ 0), some (.v (.c (.bl true)), [], [])) := by kernel_rfl
end Go.Proofs.YtpapbhbnaalhcaaDoor

namespace Go.Proofs.YtpapbhbnaalhcaaDoor
open Go Go.Sx Go.Proofs
set_option linter.unusedVariables false
theorem ofInt_nat (a : Nat) : BitVec.ofInt 64 (a : Int) = BitVec.ofNat 64 a := by
 apply BitVec.eq_of_toNat_eq
 simp [BitVec.toNat_ofInt, BitVec.toNat_ofNat]
theorem wrapQ {n : Nat} (h : n < 4611686018427387904) : IntKind.wrap .i64 (n : Int) = (n : Int) := wrap_in (by omega)
theorem and_nat {a b : Nat} (ha : a < 4611686018427387904) (hb : b < 4611686018427387904) : bitI .and .i64 a b = ((a &&& b : Nat) : Int) := by
 show IntKind.wrap .i64 (((BitVec.ofInt 64 a &&& BitVec.ofInt 64 b).toNat : Nat) : Int) = _
 rw [ofInt_nat, ofInt_nat, BitVec.toNat_and, BitVec.toNat_ofNat, BitVec.toNat_ofNat, Nat.mod_eq_of_lt (by omega), Nat.mod_eq_of_lt (by omega)]
 exact wrapQ (Nat.lt_of_le_of_lt Nat.and_le_left ha)
theorem or_nat {a b : Nat} (ha : a < 4611686018427387904) (hb : b < 4611686018427387904) : bitI .or .i64 a b = ((a ||| b : Nat) : Int) := by
 show IntKind.wrap .i64 (((BitVec.ofInt 64 a ||| BitVec.ofInt 64 b).toNat : Nat) : Int) = _
 rw [ofInt_nat, ofInt_nat, BitVec.toNat_or, BitVec.toNat_ofNat, BitVec.toNat_ofNat, Nat.mod_eq_of_lt (by omega), Nat.mod_eq_of_lt (by omega)]
 exact wrapQ (Nat.or_lt_two_pow (n := 62) ha hb)
theorem andNot_zero {a b : Nat} (ha : a < 4611686018427387904) (hb : b < 4611686018427387904) : (bitI .andNot .i64 a b != 0) = false ↔ ∀ i, a.testBit i = true -> b.testBit i = true := by
 have e : bitI .andNot .i64 a b = (((BitVec.ofNat 64 a &&& ~~~BitVec.ofNat 64 b).toNat : Nat) : Int) := by
  show IntKind.wrap .i64 (((BitVec.ofInt 64 a &&& ~~~BitVec.ofInt 64 b).toNat : Nat) : Int) = _
  rw [ofInt_nat, ofInt_nat]
  refine wrapQ ?_
  rw [BitVec.toNat_and, BitVec.toNat_ofNat, Nat.mod_eq_of_lt (by omega)]
  exact Nat.lt_of_le_of_lt Nat.and_le_left ha
 rw [e]
 have bit : ∀ i, (BitVec.ofNat 64 a &&& ~~~BitVec.ofNat 64 b).toNat.testBit i = (decide (i < 64) && (a.testBit i && !b.testBit i)) := fun i => by
  rw [BitVec.testBit_toNat, BitVec.getLsbD_and, BitVec.getLsbD_not, BitVec.getLsbD_ofNat, BitVec.getLsbD_ofNat]
  cases decide (i < 64) <;> cases a.testBit i <;> cases b.testBit i <;> rfl
 have big : ∀ i, a.testBit i = true -> i < 64 := fun i hi => by
  rcases Nat.lt_or_ge i 64 with h | h
  ·exact h
  ·have : a < 2 ^ i := Nat.lt_of_lt_of_le (by omega : a < 2 ^ 64) (Nat.pow_le_pow_right (by decide) h)
   rw [Nat.testBit_lt_two_pow this] at hi
   cases hi
 simp only [bne_eq_false_iff_eq]
 constructor
 ·intro h i hi
  have h0 : (BitVec.ofNat 64 a &&& ~~~BitVec.ofNat 64 b).toNat = 0 := by omega
  have := bit i
  rw [h0, Nat.zero_testBit, hi, decide_eq_true (big i hi)] at this
  simpa using this
 ·intro h
  have h0 : (BitVec.ofNat 64 a &&& ~~~BitVec.ofNat 64 b).toNat = 0 := by
   apply Nat.eq_of_testBit_eq
   intro i
   rw [bit i, Nat.zero_testBit]
   cases hi : a.testBit i with
   | false => simp
   | true => rw [h i hi]; simp
  omega
theorem shl_nat {i : Nat} (h : i < 62) : shI .shl .i64 1 (i : Int) = ((2 ^ i : Nat) : Int) := by
 show IntKind.wrap .i64 (1 * 2 ^ min (i : Int).toNat 64) = _
 rw [Int.toNat_natCast, Nat.min_eq_left (by omega), Int.one_mul]
 have : ((2 : Int) ^ i) = ((2 ^ i : Nat) : Int) := by norm_cast
 rw [this]
 exact wrapQ (Nat.pow_lt_pow_right (a := 2) (m := i) (n := 62) (by decide) h)
theorem shr_nat (a : Nat) {i : Nat} (h : i < 62) : shI .shr .i64 (a : Int) (i : Int) = ((a / 2 ^ i : Nat) : Int) := by
 show (a : Int).fdiv (2 ^ min (i : Int).toNat 64) = _
 rw [Int.toNat_natCast, Nat.min_eq_left (by omega)]
 have : ((2 : Int) ^ i) = ((2 ^ i : Nat) : Int) := by norm_cast
 rw [this]
 rw [Int.fdiv_eq_ediv_of_nonneg _ (Int.natCast_nonneg _)]
 norm_cast
theorem bit_nat {a i : Nat} (ha : a < 4611686018427387904) (h : i < 62) : (bitI .and .i64 (shI .shr .i64 (a : Int) (i : Int)) 1 == 1) = a.testBit i := by
 rw [shr_nat a h]
 have := and_nat (a := a / 2 ^ i) (b := 1) (Nat.lt_of_le_of_lt (Nat.div_le_self _ _) ha) (by decide)
 rw [show ((1 : Nat) : Int) = 1 from rfl] at this
 rw [this, Nat.and_one_is_mod, Nat.testBit_eq_decide_div_mod_eq]
 by_cases hc : a / 2 ^ i % 2 = 1
 ·rw [hc]; simp
 ·rw [decide_eq_false hc]
  have : a / 2 ^ i % 2 = 0 := by omega
  rw [this]; rfl
def markB (c : UInt8) : Bool := c == 32 || c == 61
theorem digit_mark {i : Nat} (h : i < 10) : markB (UInt8.ofNat (48 + i)) = false := by
 have : ∀ i : Fin 10, markB (UInt8.ofNat (48 + i.val)) = false := by decide
 exact this ⟨i, h⟩
theorem dec_mark : ∀ (u : Nat), ∀ c ∈ Lib.decDigits u, markB c = false := by
 intro u
 induction u using Nat.strongRecOn with
 | _ u ih =>
   intro c hc
   rw [Lib.decDigits] at hc
   split at hc
   ·rw [List.mem_singleton.1 hc]; exact digit_mark (by assumption)
   ·rcases List.mem_append.1 hc with h | h
    ·exact ih _ (by omega) c h
    ·rw [List.mem_singleton.1 h]; exact digit_mark (by omega)
theorem itoa_mark (n : Int) : ∀ c ∈ Lib.itoa n, markB c = false := by
 intro c hc
 unfold Lib.itoa at hc
 split at hc
 ·rcases List.mem_cons.1 hc with rfl | h
  ·decide
  ·exact dec_mark _ c h
 ·exact dec_mark _ c hc
def valB (l : List UInt8) : Nat := l.foldl (fun a c => a * 10 + (c.toNat - 48)) 0
theorem digit_val {i : Nat} (h : i < 10) : (UInt8.ofNat (48 + i)).toNat - 48 = i := by
 have : ∀ i : Fin 10, (UInt8.ofNat (48 + i.val)).toNat - 48 = i.val := by decide
 exact this ⟨i, h⟩
theorem dec_val : ∀ (u : Nat), valB (Lib.decDigits u) = u := by
 intro u
 induction u using Nat.strongRecOn with
 | _ u ih =>
   rw [Lib.decDigits]
   split
   ·rename_i h
    simp only [valB, List.foldl_cons, List.foldl_nil, digit_val h]
    omega
   ·have := ih (u / 10) (by omega)
    unfold valB at this ⊢
    rw [List.foldl_append, this]
    simp only [List.foldl_cons, List.foldl_nil, digit_val (show u % 10 < 10 by omega)]
    omega
theorem dec_head (u : Nat) : ∀ c r, Lib.decDigits u ≠ 45 :: (c :: r) /\ Lib.decDigits u ≠ [45] := by
 have hm : ∀ c ∈ Lib.decDigits u, (c == 45) = false := by
  induction u using Nat.strongRecOn with
  | _ u ih =>
    have dg : ∀ i : Fin 10, ((UInt8.ofNat (48 + i.val)) == 45) = false := by decide
    intro c hc
    rw [Lib.decDigits] at hc
    split at hc
    ·rename_i h
     rw [List.mem_singleton.1 hc]; exact dg ⟨u, h⟩
    ·rcases List.mem_append.1 hc with h | h
     ·exact ih _ (by omega) c h
     ·rw [List.mem_singleton.1 h]; exact dg ⟨u % 10, by omega⟩
 intro c r
 constructor
 ·intro h
  have := hm 45 (by rw [h]; exact List.mem_cons_self)
  cases this
 ·intro h
  have := hm 45 (by rw [h]; exact List.mem_cons_self)
  cases this
theorem dec_ne (u : Nat) (l : List UInt8) : Lib.decDigits u ≠ 45 :: l := by
 cases l with
 | nil => exact (dec_head u 0 []).2
 | cons c r => exact (dec_head u c r).1
theorem itoa_inj {a b : Int} (h : Lib.itoa a = Lib.itoa b) : a = b := by
 unfold Lib.itoa at h
 split at h <;> split at h
 ·have := congrArg valB (List.cons.inj h).2
  rw [dec_val, dec_val] at this
  omega
 ·exact absurd h.symm (dec_ne _ _)
 ·exact absurd h (dec_ne _ _)
 ·have := congrArg valB h
  rw [dec_val, dec_val] at this
  omega
theorem mark_split : ∀ {p q : List UInt8} {c d : UInt8} {X Y : List UInt8}, (∀ x ∈ p, markB x = false) -> (∀ x ∈ q, markB x = false) -> markB c = true -> markB d = true -> p ++ c :: X = q ++ d :: Y -> p = q /\ c = d /\ X = Y
 | [], [], c, d, X, Y, _, _, _, _, h => by
   obtain ⟨h1, h2⟩ := List.cons.inj (show c :: X = d :: Y from h)
   exact ⟨rfl, h1, h2⟩
 | [], y :: q, c, d, X, Y, _, hq, hc, _, h => by
   obtain ⟨h1, _⟩ := List.cons.inj (show c :: X = y :: (q ++ d :: Y) from h)
   have := hq y List.mem_cons_self
   rw [<- h1, hc] at this
   cases this
 | x :: p, [], c, d, X, Y, hp, _, _, hd, h => by
   obtain ⟨h1, _⟩ := List.cons.inj (show x :: (p ++ c :: X) = d :: Y from h)
   have := hp x List.mem_cons_self
   rw [h1, hd] at this
   cases this
 | x :: p, y :: q, c, d, X, Y, hp, hq, hc, hd, h => by
   obtain ⟨h1, h2⟩ := List.cons.inj (show x :: (p ++ c :: X) = y :: (q ++ d :: Y) from h)
   obtain ⟨e1, e2, e3⟩ := mark_split (fun z hz => hp z (List.mem_cons_of_mem _ hz)) (fun z hz => hq z (List.mem_cons_of_mem _ hz)) hc hd h2
   exact ⟨by rw [h1, e1], e2, e3⟩
theorem num_split {a b : Int} {c d : UInt8} {X Y : List UInt8} (hc : markB c = true) (hd : markB d = true) (h : numB a c ++ X = numB b d ++ Y) : a = b /\ c = d /\ X = Y := by
 unfold numB at h
 rw [List.append_assoc, List.append_assoc] at h
 obtain ⟨h1, h2, h3⟩ := mark_split (itoa_mark a) (itoa_mark b) hc hd h
 exact ⟨itoa_inj h1, h2, h3⟩
theorem num_ne (a : Int) (c : UInt8) (X : List UInt8) : numB a c ++ X ≠ [] := by unfold numB; simp
theorem pairs_inj : ∀ {p q : List Pr}, (p.flatMap fun x => numB x.key 61 ++ numB x.val 32) = (q.flatMap fun x => numB x.key 61 ++ numB x.val 32) -> p = q
 | [], [], _ => rfl
 | [], y :: q, h => by
   rw [List.flatMap_cons, List.append_assoc] at h
   exact absurd h.symm (num_ne _ _ _)
 | x :: p, [], h => by
   rw [List.flatMap_cons, List.append_assoc] at h
   exact absurd h (num_ne _ _ _)
 | x :: p, y :: q, h => by
   rw [List.flatMap_cons, List.flatMap_cons, List.append_assoc, List.append_assoc] at h
   obtain ⟨h1, _, h2⟩ := num_split (by decide) (by decide) h
   obtain ⟨h3, _, h4⟩ := num_split (by decide) (by decide) h2
   have := pairs_inj h4
   cases x; cases y
   simp only at h1 h3
   rw [h1, h3, this]
theorem text_inj : ∀ {v w : List N1} {p q : List Pr}, (v.flatMap fun x => numB x.val 32) ++ (p.flatMap fun x => numB x.key 61 ++ numB x.val 32) = (w.flatMap fun x => numB x.val 32) ++ (q.flatMap fun x => numB x.key 61 ++ numB x.val 32) -> v = w /\ p = q
 | [], [], p, q, h => ⟨rfl, pairs_inj h⟩
 | [], y :: w, p, q, h => by
   rw [List.flatMap_cons, List.append_assoc] at h
   cases p with
   | nil => exact absurd h.symm (num_ne _ _ _)
   | cons x p =>
     simp only [List.flatMap_nil, List.nil_append, List.flatMap_cons, List.append_assoc] at h
     obtain ⟨_, h2, _⟩ := num_split (by decide) (by decide) h
     cases h2
 | x :: v, [], p, q, h => by
   rw [List.flatMap_cons, List.append_assoc] at h
   cases q with
   | nil => exact absurd h (num_ne _ _ _)
   | cons y q =>
     simp only [List.flatMap_nil, List.nil_append, List.flatMap_cons, List.append_assoc] at h
     obtain ⟨_, h2, _⟩ := num_split (by decide) (by decide) h
     cases h2
 | x :: v, y :: w, p, q, h => by
   rw [List.flatMap_cons, List.flatMap_cons, List.append_assoc, List.append_assoc] at h
   obtain ⟨h1, _, h2⟩ := num_split (by decide) (by decide) h
   obtain ⟨h3, h4⟩ := text_inj h2
   cases x; cases y
   simp only at h1
   rw [h1, h3]
   exact ⟨rfl, h4⟩
theorem ctext_inj {m m' : CreedM} (hs : m.st = m'.st) (h : ctext m = ctext m') : m = m' := by
 have h0 : ctextB m = ctextB m' := by
  have := congrArg (fun b => b.data.toList) h
  simpa [ctext] using this
 unfold ctextB at h0
 obtain ⟨h1, h2⟩ := text_inj h0
 rw [<- hs] at h1
 obtain ⟨st, v, p⟩ := m
 obtain ⟨st', v', p'⟩ := m'
 simp only at hs h1 h2
 subst hs h2
 split at h1
 ·rw [List.reverse_inj.1 h1]
 ·rw [h1]
end Go.Proofs.YtpapbhbnaalhcaaDoor

namespace Go.Proofs.YtpapbhbnaalhcaaDoor
open Go Go.Sx Go.Proofs
set_option linter.unusedVariables false
def maskN (p : Nat -> Bool) : Nat -> Nat
 | 0 => 0
 | n + 1 => maskN p n ||| (if p n then 2 ^ n else 0)
theorem maskN_lt (p : Nat -> Bool) : ∀ n, maskN p n < 2 ^ n
 | 0 => Nat.zero_lt_one
 | n + 1 => by
   refine Nat.or_lt_two_pow (Nat.lt_of_lt_of_le (maskN_lt p n) (Nat.pow_le_pow_right (by decide) (by omega))) ?_
   split
   ·exact Nat.pow_lt_pow_right (by decide) (by omega)
   ·exact Nat.two_pow_pos _
theorem maskN_bit (p : Nat -> Bool) : ∀ (n i : Nat), (maskN p n).testBit i = (decide (i < n) && p i)
 | 0, i => by simp [maskN]
 | n + 1, i => by
   rw [maskN, Nat.testBit_or, maskN_bit p n i]
   by_cases h : i = n
   ·subst h
    cases hp : p i with
    | true => simp [Nat.testBit_two_pow_self]
    | false => simp
   ·have e : (decide (i < n + 1)) = decide (i < n) := decide_eq_decide.2 (by omega)
    rw [e]
    split
    ·rw [Nat.testBit_two_pow_of_ne (fun h' => h h'.symm)]; simp
    ·simp
abbrev rw0 : Rw := krows.dflt
def rowAt (l : List Rw) (i : Nat) : Rw := l.getD i rw0
def ahN (l : List Rw) (i j : Nat) : Bool := aheadB (rowAt l j) (rowAt l i)
def finN (l : List Rw) (i : Nat) : Bool := (rowAt l i).fin
theorem small_pow {n i : Nat} (hn : n <= 12) (h : i < 2 ^ n) : i < 4611686018427387904 := Nat.lt_of_lt_of_le h (Nat.le_trans (Nat.pow_le_pow_right (by decide) hn) (by decide))
theorem set_same {a : List N1} {i : Nat} {v : N1} (h : i < a.length) (hv : a.getD i kints.dflt = v) : a.set i v = a := by
 refine List.ext_getElem (by simp) fun k h1 h2 => ?_
 rw [List.getElem_set]
 split
 ·rename_i e
  subst e
  rw [<- hv]
  simp [List.getD, h]
 ·rfl
theorem getD_set {a : List N1} {i k : Nat} {v : N1} (h : i < a.length) : (a.set i v).getD k kints.dflt = if i = k then v else a.getD k kints.dflt := by
 simp only [List.getD, List.getElem?_set]
 split
 ·first | rfl | (rw [if_pos (by omega)]; rfl)
 ·rfl
theorem bitA_mask (l : List Rw) (hl : l.length <= 12) (i : Nat) : ∀ (k j : Nat) (a : List N1), j + k = l.length -> i < a.length -> a.getD i kints.dflt = ⟨((maskN (ahN l i) j : Nat) : Int)⟩ -> bitA (rowAt l i) i (l.drop j) j a = a.set i ⟨((maskN (ahN l i) l.length : Nat) : Int)⟩
 | 0, j, a, hk, hi, ha => by
   have e : j = l.length := by omega
   subst e
   rw [List.drop_length, bitA]
   exact (set_same hi ha).symm
 | k + 1, j, a, hk, hi, ha => by
   have hlt : j < l.length := by omega
   rw [drop_cons l krows.dflt hlt, bitA]
   have hm := maskN_lt (ahN l i) j
   have hnext : oneA (rowAt l i) i j (l.getD j krows.dflt) a = a.set i ⟨((maskN (ahN l i) (j + 1) : Nat) : Int)⟩ := by
    unfold oneA
    rw [maskN]
    cases h : aheadB (l.getD j krows.dflt) (rowAt l i) with
    | true =>
      have h' : ahN l i j = true := h
      simp only [h', if_true]
      rw [ha, shl_nat (by omega), or_nat (small_pow (by omega : j <= 12) hm) (small_pow hl (Nat.pow_lt_pow_right (by decide) hlt))]
    | false =>
      have h' : ahN l i j = false := h
      simp only [h', Bool.false_eq_true, if_false, Nat.or_zero]
      exact (set_same hi ha).symm
   rw [hnext, bitA_mask l hl i k (j + 1) _ (by omega) (by simpa using hi) (by rw [getD_set hi, if_pos rfl]), List.set_set]
theorem goL_mask (l : List Rw) (hl : l.length <= 12) : ∀ (k i : Nat) (a : List N1), i + k = l.length -> a.length = l.length -> (∀ j, j < l.length -> a.getD j kints.dflt = if j < i then ⟨((maskN (ahN l j) l.length : Nat) : Int)⟩ else ⟨0⟩) ->
 (goL l (l.drop i) i ((maskN (finN l) i : Nat) : Int) a).1 = ((maskN (finN l) l.length : Nat) : Int) /\ (goL l (l.drop i) i ((maskN (finN l) i : Nat) : Int) a).2.length = l.length /\ ∀ j, j < l.length -> (goL l (l.drop i) i ((maskN (finN l) i : Nat) : Int) a).2.getD j kints.dflt = ⟨((maskN (ahN l j) l.length : Nat) : Int)⟩
 | 0, i, a, hk, ha, hj => by
   have e : i = l.length := by omega
   subst e
   rw [List.drop_length, goL]
   exact ⟨rfl, ha, fun j h => by rw [hj j h, if_pos h]⟩
 | k + 1, i, a, hk, ha, hj => by
   have hlt : i < l.length := by omega
   rw [drop_cons l krows.dflt hlt, goL]
   have hm := maskN_lt (finN l) i
   have hd : dnU (l.getD i krows.dflt) i ((maskN (finN l) i : Nat) : Int) = ((maskN (finN l) (i + 1) : Nat) : Int) := by
    unfold dnU
    rw [maskN]
    cases h : (l.getD i krows.dflt).fin with
    | true =>
      have h' : finN l i = true := h
      simp only [h', if_true]
      rw [shl_nat (by omega), or_nat (small_pow (by omega : i <= 12) hm) (small_pow hl (Nat.pow_lt_pow_right (by decide) hlt))]
    | false =>
      have h' : finN l i = false := h
      simp only [h', Bool.false_eq_true, if_false, Nat.or_zero]
   have hb := bitA_mask l hl i l.length 0 a (by omega) (by omega) (by rw [hj i hlt, if_neg (by omega)]; rfl)
   rw [List.drop_zero] at hb
   rw [hd, show l.getD i krows.dflt = rowAt l i from rfl, hb]
   refine goL_mask l hl k (i + 1) _ (by omega) (by simpa using ha) fun j h => ?_
   rw [getD_set (by omega)]
   by_cases e : i = j
   ·subst e; rw [if_pos rfl, if_pos (by omega)]
   ·rw [if_neg e, hj j h]
    by_cases h2 : j < i
    ·rw [if_pos h2, if_pos (by omega)]
    ·rw [if_neg h2, if_neg (by omega)]
theorem setsL_mask (l : List Rw) (hl : l.length <= 12) : (setsL l).1 = ((maskN (finN l) l.length : Nat) : Int) /\ ∀ j, j < l.length -> (setsL l).2.getD j kints.dflt = ⟨((maskN (ahN l j) l.length : Nat) : Int)⟩ := by
 have h := goL_mask l hl l.length 0 (List.replicate l.length ⟨0⟩) (by omega) (by simp) fun j hj => by
  rw [if_neg (by omega)]
  simp [List.getD, hj]
 rw [List.drop_zero] at h
 exact ⟨h.1, h.2.2⟩
def unN (s : Nat) : Nat -> Nat
 | 0 => 0
 | n + 1 => unN s n + (if s.testBit n then 0 else 1)
theorem unN_le (s : Nat) : ∀ n, unN s n <= n
 | 0 => Nat.le_refl _
 | n + 1 => by
   have := unN_le s n
   unfold unN
   split <;> omega
theorem or_bit (s i k : Nat) : (s ||| 2 ^ i).testBit k = (s.testBit k || decide (i = k)) := by
 rw [Nat.testBit_or]
 by_cases h : i = k
 ·subst h; rw [Nat.testBit_two_pow_self]; simp
 ·rw [Nat.testBit_two_pow_of_ne h]; simp [h]
theorem unN_or (s i : Nat) : ∀ n, unN (s ||| 2 ^ i) n + (if i < n /\ s.testBit i = false then 1 else 0) = unN s n
 | 0 => by simp [unN]
 | n + 1 => by
   have ih := unN_or s i n
   simp only [unN, or_bit]
   by_cases e : i = n
   ·subst e
    rw [if_neg (by omega)] at ih
    cases h : s.testBit i with
    | true => simp [h]; omega
    | false => simp [h]; omega
   ·have e2 : (i < n + 1 /\ s.testBit i = false) ↔ (i < n /\ s.testBit i = false) := by constructor <;> (rintro ⟨h1, h2⟩; exact ⟨by omega, h2⟩)
    simp only [e2, decide_eq_false e, Bool.or_false]
    omega
theorem unN_next {s i n : Nat} (h : i < n) (hs : s.testBit i = false) : unN (s ||| 2 ^ i) n + 1 = unN s n := by
 have := unN_or s i n
 rw [if_pos ⟨h, hs⟩] at this
 exact this
abbrev In (n : Int) : Prop := -9223372036854775808 <= n /\ n <= 9223372036854775807
structure COk (b : Nat) (m : CreedM) : Prop where
 vals : m.vals.length <= b
 pairs : m.pairs.length <= b
 inv : ∀ v ∈ m.vals, In v.val
 inp : ∀ p ∈ m.pairs, In p.key /\ In p.val
theorem chg_ok {b : Nat} {m : CreedM} {o : O} {a : An} (h : COk b m) (hv : In o.val) (hk : In o.key) : COk (b + 1) (chgM m o a) /\ (chgM m o a).st = m.st := by
 have keep : COk (b + 1) m := ⟨Nat.le_succ_of_le h.vals, Nat.le_succ_of_le h.pairs, h.inv, h.inp⟩
 unfold chgM
 split
 ·exact ⟨keep, rfl⟩
 ·split
  ·refine ⟨⟨by simp; exact h.vals, Nat.le_succ_of_le h.pairs, fun v hv' => ?_, h.inp⟩, rfl⟩
   rcases List.mem_append.1 hv' with h1 | h1
   ·exact h.inv v h1
   ·rw [List.mem_singleton.1 h1]; exact hv
  ·split
   ·exact ⟨⟨by simp; have := h.vals; omega, Nat.le_succ_of_le h.pairs, fun v hv' => h.inv v (List.mem_of_mem_take hv'), h.inp⟩, rfl⟩
   ·split
    ·exact ⟨⟨by simp; have := h.vals; omega, Nat.le_succ_of_le h.pairs, fun v hv' => h.inv v (List.mem_of_mem_drop hv'), h.inp⟩, rfl⟩
    ·split
     ·refine ⟨⟨Nat.le_succ_of_le h.vals, by simp; have := h.pairs; omega, h.inv, fun p hp => ?_⟩, rfl⟩
      rcases List.mem_append.1 hp with h1 | h1
      ·exact h.inp p (List.mem_of_mem_take h1)
      ·rcases List.mem_cons.1 h1 with rfl | h1
       ·exact ⟨hk, hv⟩
       ·exact h.inp p (List.mem_of_mem_drop h1)
     ·split
      ·refine ⟨⟨Nat.le_succ_of_le h.vals, by simp; have := h.pairs; omega, h.inv, fun p hp => ?_⟩, rfl⟩
       rcases List.mem_append.1 hp with h1 | h1
       ·exact h.inp p (List.mem_of_mem_take h1)
       ·exact h.inp p (List.mem_of_mem_drop h1)
      ·exact ⟨keep, rfl⟩
structure FitOk (st : Int) (o : O) : Prop where
 key : 0 <= o.key /\ o.key <= 255
 val : 0 <= o.val /\ o.val <= 1073741824
 seq : st = 1 \/ st = 2 -> o.kind = 1 \/ o.kind = 2 \/ o.kind = 3 \/ o.kind = 4 \/ o.kind = 5
 map : st = 3 \/ st = 4 \/ st = 5 -> o.kind = 6 \/ o.kind = 7 \/ o.kind = 8
theorem fits1_spec (o : O) (h : boolOf (fits1_T sg0 o) = true) : o.key = 0 /\ (0 <= o.val /\ o.val <= 1073741824) /\ (o.kind = 1 \/ o.kind = 2 \/ o.kind = 3) := by
 unfold fits1_T at h
 dsimp only at h
 simp only [beq_self_eq_true, bne] at h
 generalize e1 : (o.kind == 1) = k1 at h
 generalize e2 : (o.kind == 2) = k2 at h
 generalize e3 : (o.kind == 3) = k3 at h
 generalize e4 : (o.key == 0) = y0 at h
 generalize e5 : (o.tall == 0) = t0 at h
 generalize e6 : (o.val == 0) = v0 at h
 generalize e7 : decide (0 <= o.val) = vp at h
 generalize e8 : decide (o.val <= 1073741824) = vm at h
 have key : (y0 && ((vp && vm) || v0) && (k1 || k2 || k3)) = true := by
  clear e1 e2 e3 e4 e5 e6 e7 e8
  revert k1 k2 k3 y0 t0 v0 vp vm
  decide +kernel
 subst e1 e2 e3 e4 e6 e7 e8
 simp only [Bool.and_eq_true, Bool.or_eq_true, beq_iff_eq, decide_eq_true_eq] at key
 omega
theorem fits2_spec (o : O) (h : boolOf (fits2_T sg0 o) = true) : o.key = 0 /\ (0 <= o.val /\ o.val <= 1073741824) /\ (o.kind = 4 \/ o.kind = 5) := by
 unfold fits2_T at h
 dsimp only at h
 simp only [beq_self_eq_true, bne] at h
 generalize e1 : (o.kind == 4) = k1 at h
 generalize e2 : (o.kind == 5) = k2 at h
 generalize e4 : (o.key == 0) = y0 at h
 generalize e5 : (o.tall == 0) = t0 at h
 generalize e6 : (o.val == 0) = v0 at h
 generalize e7 : decide (0 <= o.val) = vp at h
 generalize e8 : decide (o.val <= 1073741824) = vm at h
 have key : (y0 && ((vp && vm) || v0) && (k1 || k2)) = true := by
  clear e1 e2 e4 e5 e6 e7 e8
  revert k1 k2 y0 t0 v0 vp vm
  decide +kernel
 subst e1 e2 e4 e6 e7 e8
 simp only [Bool.and_eq_true, Bool.or_eq_true, beq_iff_eq, decide_eq_true_eq] at key
 omega
theorem fits3_spec (o : O) (h : boolOf (fits3_T sg0 o) = true) : (0 <= o.key /\ o.key <= 255) /\ (0 <= o.val /\ o.val <= 1073741824) /\ (o.kind = 6 \/ o.kind = 7 \/ o.kind = 8) := by
 unfold fits3_T at h
 dsimp only at h
 try simp only [bne] at h
 generalize e1 : (o.kind == 6) = k1 at h
 generalize e2 : (o.kind == 7) = k2 at h
 generalize e3 : (o.kind == 8) = k3 at h
 generalize e4 : decide (o.key < 0) = kn at h
 generalize e5 : decide (o.key > 255) = kb at h
 generalize e6 : (o.val == 0) = v0 at h
 generalize e7 : decide (0 <= o.val) = vp at h
 generalize e8 : decide (o.val <= 1073741824) = vm at h
 generalize e9 : (o.tall == 0) = t0 at h
 generalize e10 : decide (0 <= o.tall) = tp at h
 generalize e11 : decide (o.tall <= 3) = tm at h
 have key : (!kn && !kb && ((k1 && vp && vm) || (v0 && (k2 || k3)))) = true := by
  clear e1 e2 e3 e4 e5 e6 e7 e8 e9 e10 e11
  revert k1 k2 k3 kn kb v0 vp vm t0 tp tm
  decide +kernel
 subst e1 e2 e3 e4 e5 e6 e7 e8
 simp only [Bool.and_eq_true, Bool.or_eq_true, Bool.not_eq_true', beq_iff_eq, decide_eq_true_eq, decide_eq_false_iff_not] at key
 omega
theorem fits4_spec (o : O) (h : boolOf (fits4_T sg0 o) = true) : (0 <= o.key /\ o.key <= 255) /\ (0 <= o.val /\ o.val <= 1073741824) /\ (o.kind = 6 \/ o.kind = 7 \/ o.kind = 8) := by
 unfold fits4_T at h
 dsimp only at h
 try simp only [bne] at h
 generalize e1 : (o.kind == 6) = k1 at h
 generalize e2 : (o.kind == 7) = k2 at h
 generalize e3 : (o.kind == 8) = k3 at h
 generalize e4 : decide (o.key < 0) = kn at h
 generalize e5 : decide (o.key > 255) = kb at h
 generalize e6 : (o.val == 0) = v0 at h
 generalize e7 : decide (0 <= o.val) = vp at h
 generalize e8 : decide (o.val <= 1073741824) = vm at h
 generalize e9 : (o.tall == 0) = t0 at h
 generalize e10 : decide (0 <= o.tall) = tp at h
 generalize e11 : decide (o.tall <= 3) = tm at h
 have key : (!kn && !kb && ((k1 && vp && vm) || (v0 && (k2 || k3)))) = true := by
  clear e1 e2 e3 e4 e5 e6 e7 e8 e9 e10 e11
  revert k1 k2 k3 kn kb v0 vp vm t0 tp tm
  decide +kernel
 subst e1 e2 e3 e4 e5 e6 e7 e8
 simp only [Bool.and_eq_true, Bool.or_eq_true, Bool.not_eq_true', beq_iff_eq, decide_eq_true_eq, decide_eq_false_iff_not] at key
 omega
theorem fits5_spec (o : O) (h : boolOf (fits5_T sg0 o) = true) : (0 <= o.key /\ o.key <= 255) /\ (0 <= o.val /\ o.val <= 1073741824) /\ (o.kind = 6 \/ o.kind = 7 \/ o.kind = 8) := by
 unfold fits5_T at h
 dsimp only at h
 try simp only [bne] at h
 generalize e1 : (o.kind == 6) = k1 at h
 generalize e2 : (o.kind == 7) = k2 at h
 generalize e3 : (o.kind == 8) = k3 at h
 generalize e4 : decide (o.key < 0) = kn at h
 generalize e5 : decide (o.key > 255) = kb at h
 generalize e6 : (o.val == 0) = v0 at h
 generalize e7 : decide (0 <= o.val) = vp at h
 generalize e8 : decide (o.val <= 1073741824) = vm at h
 generalize e9 : (o.tall == 0) = t0 at h
 generalize e10 : decide (0 <= o.tall) = tp at h
 generalize e11 : decide (o.tall <= 3) = tm at h
 generalize e12 : decide (o.tall < 1) = tl at h
 have key : (!kn && !kb && ((k1 && vp && vm) || (v0 && (k2 || k3)))) = true := by
  clear e1 e2 e3 e4 e5 e6 e7 e8 e9 e10 e11 e12
  revert k1 k2 k3 kn kb v0 vp vm t0 tp tm tl
  decide +kernel
 subst e1 e2 e3 e4 e5 e6 e7 e8
 simp only [Bool.and_eq_true, Bool.or_eq_true, Bool.not_eq_true', beq_iff_eq, decide_eq_true_eq, decide_eq_false_iff_not] at key
 omega
theorem fit_ok {st : Int} {o : O} (h : fitsM st o = true) : FitOk st o /\ 1 <= st /\ st <= 5 := by
 unfold fitsM at h
 split at h
 ·obtain ⟨h1, h2, h3⟩ := fits1_spec o h
  refine ⟨⟨by omega, h2, fun _ => by omega, fun h => by omega⟩, by omega, by omega⟩
 ·split at h
  ·obtain ⟨h1, h2, h3⟩ := fits2_spec o h
   refine ⟨⟨by omega, h2, fun _ => by omega, fun h => by omega⟩, by omega, by omega⟩
  ·split at h
   ·obtain ⟨h1, h2, h3⟩ := fits3_spec o h
    refine ⟨⟨h1, h2, fun _ => by omega, fun h => h3⟩, by omega, by omega⟩
   ·split at h
    ·obtain ⟨h1, h2, h3⟩ := fits4_spec o h
     refine ⟨⟨h1, h2, fun _ => by omega, fun h => h3⟩, by omega, by omega⟩
    ·split at h
     ·obtain ⟨h1, h2, h3⟩ := fits5_spec o h
      refine ⟨⟨h1, h2, fun _ => by omega, fun h => h3⟩, by omega, by omega⟩
     ·cases h
theorem perf_ok {b : Nat} {m : CreedM} {r : Rw} (h : COk b m) : COk (b + 1) (perfM m r).2 /\ (perfM m r).2.st = m.st := by
 have keep : COk (b + 1) m := ⟨Nat.le_succ_of_le h.vals, Nat.le_succ_of_le h.pairs, h.inv, h.inp⟩
 have chg : ∀ (o : O) a, fitsM m.st o = true -> COk (b + 1) (chgM m o a) /\ (chgM m o a).st = m.st := fun o a hf => by
  obtain ⟨hf, _⟩ := fit_ok hf
  have := hf.key; have := hf.val
  exact chg_ok h (by constructor <;> omega) (by constructor <;> omega)
 unfold perfM
 split
 ·unfold mayM
  split
  ·rename_i hf
   split
   ·exact ⟨keep, rfl⟩
   ·split
    ·exact chg _ _ hf
    ·exact ⟨keep, rfl⟩
  ·exact ⟨keep, rfl⟩
 ·unfold doM
  split
  ·rename_i hf
   exact chg _ _ hf
  ·exact ⟨keep, rfl⟩
end Go.Proofs.YtpapbhbnaalhcaaDoor
