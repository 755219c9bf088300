import Derived.Test.YthdmoahfeimdaaaGreatDoorUm
import Derived.Test.YthdmoahfeimdaaaGreatDoorUe
import Derived.Test.YthdmoahfeimdaaaGreatDoorSxWr
namespace Go.Proofs.YthdmoahfeimdaaaGreatDoor
open Go Go.Sx Go.Proofs
set_option linter.unusedVariables false
set_option maxRecDepth 100000
variable {σ : Sg} {lp : Lp}
def g0B (n m k : Nat) (u : Nu) : Bool := bd (decide ((n : Int) > 100) == false) (bd (decide ((m : Int) > 100) == false) (bd (decide ((k : Int) > 100) == false) (bd ((!gtM u.t) == false) (bd ((!gtM u.o) == false) (bd ((!gtM u.a) == false) (bd ((!gtM u.b) == false) (bd ((!gtM u.c) == false) (!gtM u.d))))))))
def lfG (b : Bool) (rs : List Rw) (l : List N1) (p : List Pr) : T (Ex × St AV) := .leaf (stV (.v (.c (.bl b)), hpC nM [.abs (.rowsA rs), .abs (.intsA l), .abs (.pairsA p)]))
theorem greatR (σ : Sg) (gf : GrF) (rs : List Rw) (l : List N1) (p : List Pr) (n m k : Nat) (u : Nu) : runC (lpG gf) σ (fun _ => none) 7 nM [.v (.agg (repC n m k u))] [.abs (.rowsA rs), .abs (.intsA l), .abs (.pairsA p)] =
 .ite (g0B n m k u) (lfG true rs l p) (.need (decide (n = rs.length /\ rs.length <= 1000)) (.ite (gf.r rs) (lfG true rs l p) (.need (decide (m = l.length /\ l.length <= 1000)) (.ite (gf.v l) (lfG true rs l p)
  (.need (decide (k = p.length /\ p.length <= 1000)) (.ite (gf.p p) (lfG true rs l p) (lfG false rs l p))))))) := by kernel_rfl
theorem lps_great : LpsOk Tryz.prog (NVl (lpG grF) σ) :=
 lpsAdd (lpsAdd (lpsAdd lpsV (fn := Tryz.f7) (by kernel_rfl) (c := bodyOf Tryz.f7) (by kernel_rfl) (nt := 151) (by kernel_rfl) (b := LG 15) (oneLoop_spec (by kernel_rfl)) (gGP_ok rfl rfl))
  (fn := Tryz.f7) (by kernel_rfl) (c := bodyOf Tryz.f7) (by kernel_rfl) (nt := 151) (by kernel_rfl) (b := LG 10) (oneLoop_spec (by kernel_rfl)) (gGV_ok rfl rfl))
  (fn := Tryz.f7) (by kernel_rfl) (c := bodyOf Tryz.f7) (by kernel_rfl) (nt := 151) (by kernel_rfl) (b := LG 4) (oneLoop_spec (by kernel_rfl)) (gGR_ok rfl rfl)
def greatB (rs : List Rw) (l : List N1) (p : List Pr) (u : Nu) : Bool := g0B rs.length l.length p.length u || (grF.r rs || (grF.v l || grF.p p))
theorem bd_false {b x : Bool} (h : bd b x = false) : b = true /\ x = false := by cases b <;> cases x <;> first | exact ⟨rfl, rfl⟩ | cases h
theorem g0_lens {n m k : Nat} {u : Nu} (h : g0B n m k u = false) : n <= 100 /\ m <= 100 /\ k <= 100 := by
 obtain ⟨h1, h⟩ := bd_false h
 obtain ⟨h2, h⟩ := bd_false h
 obtain ⟨h3, h⟩ := bd_false h
 simp at h1 h2 h3
 omega
theorem great_val {rs : List Rw} {l : List N1} {p : List Pr} {u : Nu} : (runC (lpG grF) σ (fun _ => none) 7 nM [.v (.agg (repC rs.length l.length p.length u))] [.abs (.rowsA rs), .abs (.intsA l), .abs (.pairsA p)]).val = (lfG (greatB rs l p u) rs l p).val := by
 rw [greatR]
 unfold greatB
 cases h0 : g0B rs.length l.length p.length u with
 | true => rw [ivT rfl]; rfl
 | false =>
   obtain ⟨a1, a2, a3⟩ := g0_lens h0
   rw [ivF rfl, nv (decide_eq_true ⟨rfl, by omega⟩)]
   cases h1 : grF.r rs with
   | true => rw [ivT rfl]; rfl
   | false =>
     rw [ivF rfl, nv (decide_eq_true ⟨rfl, by omega⟩)]
     cases h2 : grF.v l with
     | true => rw [ivT rfl]; rfl
     | false =>
       rw [ivF rfl, nv (decide_eq_true ⟨rfl, by omega⟩)]
       cases h3 : grF.p p with
       | true => rw [ivT rfl]; rfl
       | false => rw [ivF rfl]; rfl
abbrev GreatF := List Rw -> List N1 -> List Pr -> Nu -> Bool
def greatP (gt : GreatF) (args : List SV) (ch : List (Chunk AV)) : T (SV × List (Chunk AV) × List (Chunk AV)) := match args, ch with
 | [.v (.agg [.vs 14 0 n 10 false, .vs 15 0 m 1 false, .vs 16 0 k 2 false, .it .i64 a, .it .i64 b, .it .i64 c, .it .i64 d, .it .i64 t, .it .i64 o])], [.abs (.rowsA rs), .abs (.intsA l), .abs (.pairsA p)] =>
   .need (decide (n = rs.length /\ m = l.length /\ k = p.length)) (.leaf (.v (.c (.bt (gt rs l p ⟨a, b, c, d, t, o⟩))), [.abs (.rowsA rs), .abs (.intsA l), .abs (.pairsA p)], []))
 | _, _ => .fail "great"
theorem great_ok : FnOk Tryz.prog (NVl lp σ) 7 (sumC isS nM (greatP greatB)) := by
 refine fnOk_env (N := NVl (lpG grF) σ) (N' := NVl lp σ) rfl rfl (sumC_ok isS_ok rfl fun args ch x l' nw h hlen ha hC => ?_)
 unfold greatP at h
 split at h
 ·rename_i n m k a b c d t o rs l p
  replace h := need_some h
  obtain ⟨h1, h⟩ := h
  obtain ⟨rfl, rfl, rfl⟩ := of_decide_eq_true h1
  simp only [T.val, Option.some.injEq, Prod.mk.injEq] at h
  obtain ⟨rfl, rfl, rfl⟩ := h
  exact ctr_val (runC_ctr lps_great tab0_ok rfl (great_val (u := ⟨a, b, c, d, t, o⟩)) (by rintro ⟨⟩)) ((plBt _).cl _) fun ρ => rfl
 ·simp [T.val] at h
theorem gtM_of {n : Int} (h : ((!gtM n) == false) = true) : -9223372036854775808 < n := by
 have : gtM n = true := by cases e : gtM n <;> rw [e] at h <;> first | rfl | cases h
 have := of_decide_eq_true this
 omega
theorem gtM_of2 {n : Int} (h : (!gtM n) = false) : -9223372036854775808 < n := gtM_of (by rw [h]; rfl)
theorem great_no {rs : List Rw} {l : List N1} {p : List Pr} {u : Nu} (h : greatB rs l p u = false) (hu : inI u.a /\ inI u.b /\ inI u.c /\ inI u.d /\ inI u.t /\ inI u.o)
 (hr : ∀ r ∈ rs, inI r.thread /\ inI r.kind /\ inI r.code /\ inI r.aval /\ inI r.frm /\ inI r.till) (hl : ∀ a ∈ l, inI a.val) (hp : ∀ a ∈ p, inP a) :
 okLens rs l p rs.length l.length p.length /\ okNums rs l p u := by
 unfold greatB at h
 simp only [Bool.or_eq_false_iff] at h
 obtain ⟨h0, h1, h2, h3⟩ := h
 obtain ⟨a1, a2, a3⟩ := g0_lens h0
 have h1 := anyB_iff.1 h1
 have h2 := anyB_iff.1 h2
 have h3 := anyB_iff.1 h3
 have mem : ∀ {α : Type} {L : List α} {x : α} (d : α), x ∈ L -> ∃ j, j < L.length /\ L.getD j d = x := fun {α L x} d hx => by
  obtain ⟨j, hj, e⟩ := List.getElem_of_mem hx
  exact ⟨j, hj, by simp [List.getD, hj, e]⟩
 obtain ⟨_, h0⟩ := bd_false h0
 obtain ⟨_, h0⟩ := bd_false h0
 obtain ⟨_, h0⟩ := bd_false h0
 obtain ⟨g1, h0⟩ := bd_false h0
 obtain ⟨g2, h0⟩ := bd_false h0
 obtain ⟨g3, h0⟩ := bd_false h0
 obtain ⟨g4, h0⟩ := bd_false h0
 obtain ⟨g5, g6⟩ := bd_false h0
 refine ⟨⟨rfl, rfl, rfl, a1, a2, a3⟩, fun r hx => ?_, fun a hx => ?_, fun a hx => ?_, ⟨gtM_of g3, hu.1.2⟩, ⟨gtM_of g4, hu.2.1.2⟩, ⟨gtM_of g5, hu.2.2.1.2⟩, ⟨gtM_of2 g6, hu.2.2.2.1.2⟩, ⟨gtM_of g1, hu.2.2.2.2.1.2⟩, ⟨gtM_of g2, hu.2.2.2.2.2.2⟩⟩
 ·obtain ⟨j, hj, e⟩ := mem krows.dflt hx
  have hb := h1 j (Nat.zero_le _) (by omega)
  unfold bR at hb
  have e : rwAt rs j = r := e
  rw [e] at hb
  obtain ⟨b1, hb⟩ := bd_false hb
  obtain ⟨b2, hb⟩ := bd_false hb
  obtain ⟨b3, hb⟩ := bd_false hb
  obtain ⟨b4, hb⟩ := bd_false hb
  obtain ⟨b5, b6⟩ := bd_false hb
  obtain ⟨r1, r2, r3, r4, r5, r6⟩ := hr r hx
  exact decide_eq_true ⟨⟨gtM_of b1, r1.2⟩, ⟨gtM_of b4, r2.2⟩, ⟨gtM_of b5, r3.2⟩, ⟨gtM_of2 b6, r4.2⟩, ⟨gtM_of b2, r5.2⟩, ⟨gtM_of b3, r6.2⟩⟩
 ·obtain ⟨j, hj, e⟩ := mem kints.dflt hx
  have hb := h2 j (Nat.zero_le _) (by omega)
  have e2 : hasV l j = a.val := congrArg N1.val e
  unfold bV at hb
  rw [e2] at hb
  exact ⟨gtM_of2 hb, (hl a hx).2⟩
 ·obtain ⟨j, hj, e⟩ := mem kpairs.dflt hx
  have hb := h3 j (Nat.zero_le _) (by omega)
  have e2 : hasK p j = a.key := congrArg Pr.key e
  have e3 : hasW2 p j = a.val := congrArg Pr.val e
  unfold bP at hb
  rw [e2, e3] at hb
  obtain ⟨b1, b2⟩ := bd_false hb
  exact ⟨⟨gtM_of b1, (hp a hx).1.2⟩, ⟨gtM_of2 b2, (hp a hx).2.2⟩⟩
end Go.Proofs.YthdmoahfeimdaaaGreatDoor

namespace Go.Proofs.YthdmoahfeimdaaaGreatDoor
open Go Go.Sx Go.Proofs
set_option linter.unusedVariables false
set_option maxRecDepth 100000
variable {σ : Sg} {lp : Lp}
noncomputable def tabTl (σ : Sg) (fb : FitF) (lt : LineF) (wb : WordF) : Tab := tabAdd 14 (sumC isS mLn (lnSum σ fb lt)) (tabAdd 10 (sumC isS nM (wordP wb)) tabT)
theorem tabTl_ok (ht : TabR σ) : TabOk Tryz.prog (NVl lp σ) (tabTl σ fitsB lineT wordB) := tabAdd_ok (line_ok ht) (tabAdd_ok (word_ok ht) (tabT_ok ht))
end Go.Proofs.YthdmoahfeimdaaaGreatDoor

namespace Go.Proofs.YthdmoahfeimdaaaGreatDoor
open Go Go.Sx Go.Proofs
set_option linter.unusedVariables false
set_option maxRecDepth 100000
variable {σ : Sg} {lp : Lp}
def ksR : List Nat := [0, 3, 5, 18, 19, 20]
noncomputable def LR : Code := loopAt 3 (loopsOf (bodyOf Tryz.f8))
noncomputable def hpU (rs : List Rw) (l : List N1) (p : List Pr) (n m k : Nat) (u : Nu) (sh : Nat) (bs : List UInt8) : Hp AV := hpO mT [.rowsA rs, .intsA l, .pairsA p] ++ [some (.cells (repC n m k u) 28), match sh with | 0 => some (.cells [.pnil, .snil] 55) | _ => some (.abs (.sheet false bs))]
noncomputable def famR (rs : List Rw) (l : List N1) (p : List Pr) (n m k : Nat) (u : Nu) (s : Int) (sh : Nat) (bs : List UInt8) (i : Int) : St AV :=
 { E := only ksR [(0, .v (.c (i6 s))), (3, .v (.c (.ptr 17 0))), (5, .v (.c (.ptr 18 0))), (18, .v (.c (.vs 14 0 n 10 false))), (19, .v (.c (.it .i64 n))), (20, .v (.c (.it .i64 i)))] 124, H := hpU rs l p n m k u sh bs }
def putU (bs J : List UInt8) (x : List UInt8 -> Ex × St AV) : T (Ex × St AV) := .need true (.need (fitB J.length) (.need (fitB (bs.length + J.length)) (.need (fitB ((bs ++ J).length + 1)) (.leaf (x ((bs ++ J) ++ [10]))))))
def rowU (wb : WordF) (op : ByteArray) (r : Rw) (bs : List UInt8) (x : List UInt8 -> Ex × St AV) : T (Ex × St AV) :=
 .need (okI r.thread) (.need (okI r.frm) (.ite r.fin (.need (okI r.till) (.need (decide (inI r.code /\ inI r.aval)) (putU bs (rowJ wb op r.thread r.code r.aval r.frm r.till true) x))) (putU bs (rowJ wb op r.thread r.code r.aval r.frm r.till false) x)))
def opRw (fb : FitF) (lt : LineF) (s : Int) (r : Rw) (x : ByteArray -> T (Ex × St AV)) : T (Ex × St AV) :=
 .need (decide (inI r.key /\ inI r.val /\ inI r.tall)) (.ite (fb s r.kind r.key r.val r.tall) (x (lt s r.kind r.key r.val r.tall)) (.need (match okI r.kind with | true => Nat.ble (strLen opT + strLen (itT r.kind)) 9223372036854775807 | false => false) (x (strCat opT (itT r.kind)))))
theorem rR0 (σ : Sg) (fb : FitF) (lt : LineF) (wb : WordF) (rs : List Rw) (l : List N1) (p : List Pr) (n m k : Nat) (u : Nu) (s : Int) (bs : List UInt8) (i : Int) : (xc (NV σ) (joinCal (lv (NV σ) (tabTl σ fb lt wb) 5)) (fun _ => none) 124 LR (famR rs l p n m k u s 0 bs i)).bind (backS 19 124 ksR noPk) =
 .ite (decide (i < (n : Int))) (.need (decide (0 <= i /\ i < (n : Int))) (.need (decide (0 + i.toNat < rs.length)) (opRw fb lt s (rwAt rs (0 + i.toNat)) fun op => rowU wb op (rwAt rs (0 + i.toNat)) [] fun b => (.normal, famR rs l p n m k u s 1 b (IntKind.wrap .i64 (i + 1))))))
  (.leaf (.exit 0, famR rs l p n m k u s 0 bs i)) := by kernel_rfl
theorem rR1 (σ : Sg) (fb : FitF) (lt : LineF) (wb : WordF) (rs : List Rw) (l : List N1) (p : List Pr) (n m k : Nat) (u : Nu) (s : Int) (bs : List UInt8) (i : Int) : (xc (NV σ) (joinCal (lv (NV σ) (tabTl σ fb lt wb) 5)) (fun _ => none) 124 LR (famR rs l p n m k u s 1 bs i)).bind (backS 19 124 ksR noPk) =
 .ite (decide (i < (n : Int))) (.need (decide (0 <= i /\ i < (n : Int))) (.need (decide (0 + i.toNat < rs.length)) (opRw fb lt s (rwAt rs (0 + i.toNat)) fun op => rowU wb op (rwAt rs (0 + i.toNat)) bs fun b => (.normal, famR rs l p n m k u s 1 b (IntKind.wrap .i64 (i + 1))))))
  (.leaf (.exit 0, famR rs l p n m k u s 1 bs i)) := by kernel_rfl
end Go.Proofs.YthdmoahfeimdaaaGreatDoor

namespace Go.Proofs.YthdmoahfeimdaaaGreatDoor
open Go Go.Sx Go.Proofs
set_option linter.unusedVariables false
set_option maxRecDepth 100000
theorem join_flat (s : UInt8) (x : List UInt8) : ∀ (xs : List (List UInt8)), Lib.join (x :: xs) [s] = x ++ xs.flatMap fun y => s :: y := by
 intro xs
 induction xs generalizing x with
 | nil => simp [Lib.join, List.intercalate]
 | cons y r ih =>
   have e : Lib.join (x :: y :: r) [s] = x ++ [s] ++ Lib.join (y :: r) [s] := by simp [Lib.join, List.intercalate, List.intersperse]
   rw [e, ih]; simp
end Go.Proofs.YthdmoahfeimdaaaGreatDoor

namespace Go.Proofs.YthdmoahfeimdaaaGreatDoor
open Go Go.Sx Go.Proofs
set_option linter.unusedVariables false
set_option maxRecDepth 100000
variable {σ : Sg} {lp : Lp}
theorem rowJ_is (s : Int) (r : Rw) : rowJ wordB (opTx s r.kind r.key r.val r.tall) r.thread r.code r.aval r.frm r.till r.fin ++ [10] = rwA rowL s r := by
 unfold rwA rowL endL rowJ joinL
 rw [List.map_cons, join_flat]
 cases r.fin <;> simp [tailW, itT, itoL]
def stepU (n B : Nat) (f : Nat -> List UInt8) (m : MT) : T (Ex × MT) := .need (decide (m.k <= n /\ m.bs.length <= B /\ (m.k = 0 -> m.bs = []))) (.leaf (if m.k < n then (.normal, ⟨m.k + 1, m.bs ++ f m.k⟩) else (.exit 0, m)))
theorem iterU {n B c : Nat} {f : Nat -> List UInt8} (hf : ∀ k, k < n -> (f k).length <= c) : ∀ (q k : Nat) (bs : List UInt8), k + q = n -> bs.length + q * c <= B -> (k = 0 -> bs = []) -> iter (stepU n B f) (q + 1) ⟨k, bs⟩ = some (.exit 0, ⟨n, bs ++ catF f k q⟩) := by
 intro q
 induction q with
 | zero =>
   intro k bs hk hb h0
   have e : k = n := by omega
   subst e
   rw [iter, stepU, nv (decide_eq_true ⟨Nat.le_refl _, by show bs.length <= _; omega, h0⟩)]
   simp only [T.val, if_neg (Nat.lt_irrefl _), catF, List.append_nil]
 | succ q ih =>
   intro k bs hk hb h0
   have hlt : k < n := by omega
   have h1 := hf k hlt
   have e : (q + 1) * c = q * c + c := Nat.succ_mul q c
   rw [iter, stepU, nv (decide_eq_true ⟨by show k <= _; omega, by show bs.length <= _; omega, h0⟩)]
   simp only [T.val, if_pos hlt]
   rw [ih (k + 1) (bs ++ f k) (by omega) (by rw [List.length_append]; omega) (by omega), catF, List.append_assoc]
theorem putU_val {bs J : List UInt8} {x : List UInt8 -> Ex × St AV} (h : bs.length + J.length <= 1000000) : (putU bs J x).val = some (x ((bs ++ J) ++ [10])) := by
 unfold putU
 rw [nv rfl, nv (fB (by omega)), nv (fB (by omega)), nv (fB (by rw [List.length_append]; omega))]; rfl
theorem okR_in {r : Rw} (h : okR r = true) : inI r.thread /\ inI r.kind /\ inI r.code /\ inI r.aval /\ inI r.frm /\ inI r.till := by
 obtain ⟨ht, hk, ha, hb, hf, ho⟩ := of_decide_eq_true h
 exact ⟨sm_in ht, sm_in hk, sm_in ha, sm_in hb, sm_in hf, sm_in ho⟩
theorem rowU_val {s : Int} {r : Rw} {bs : List UInt8} {x : List UInt8 -> Ex × St AV} (h : okR r = true) (hb : bs.length <= 500000) : (rowU wordB (opTx s r.kind r.key r.val r.tall) r bs x).val = some (x (bs ++ rwA rowL s r)) := by
 obtain ⟨ht, hk, ha, hb', hf, ho⟩ := okR_in h
 have hl := row_le (s := s) h
 rw [<- rowJ_is] at hl ⊢
 rw [List.length_append] at hl
 unfold rowU
 rw [nv (decide_eq_true ht), nv (decide_eq_true hf)]
 cases hfin : r.fin with
 | true =>
   rw [hfin] at hl
   rw [ivT rfl, nv (decide_eq_true ho), nv (decide_eq_true ⟨ha, hb'⟩), putU_val (by omega), List.append_assoc]
 | false =>
   rw [hfin] at hl
   rw [ivF rfl, putU_val (by omega), List.append_assoc]
theorem opRw_val {s : Int} {r : Rw} {x : ByteArray -> T (Ex × St AV)} (h : okR r = true) (hi : inI r.key /\ inI r.val /\ inI r.tall) : (opRw fitsB lineT s r x).val = (x (opTx s r.kind r.key r.val r.tall)).val := by
 obtain ⟨ht, hk, _⟩ := okR_in h
 unfold opRw opTx
 rw [nv (decide_eq_true hi)]
 cases hf : fitsB s r.kind r.key r.val r.tall with
 | true => rw [ivT rfl]
 | false =>
   have hop : strLen opT = 3 := rfl
   have := len_it hk
   rw [ivF rfl, nv (by rw [show okI r.kind = true from decide_eq_true hk]; exact bleT (by omega))]
noncomputable def famRM (rs : List Rw) (l : List N1) (p : List Pr) (m k : Nat) (u : Nu) (s : Int) (x : MT) : St AV := famR rs l p rs.length m k u s (if x.k = 0 then 0 else 1) x.bs x.k
theorem stepU_run (σ : Sg) (rs : List Rw) (l : List N1) (p : List Pr) (m k : Nat) (u : Nu) (s : Int) (hn : rs.length <= 1000) (hs : ∀ a ∈ rs, okR a = true /\ inI a.key /\ inI a.val /\ inI a.tall) (x : MT) (q : Ex × MT) (h : (stepU rs.length 100000 (fD s rs) x).val = some q) :
 ((xc (NV σ) (joinCal (lv (NV σ) (tabTl σ fitsB lineT wordB) 5)) (fun _ => none) 124 LR (famRM rs l p m k u s x)).bind (backS 19 124 ksR noPk)).val = some (q.1, famRM rs l p m k u s q.2) := by
 replace h := need_some h
 obtain ⟨hb, h⟩ := h
 obtain ⟨h1, h2, h3⟩ := of_decide_eq_true hb
 simp only [T.val, Option.some.injEq] at h
 subst h
 obtain ⟨j, bs⟩ := x
 simp only at h1 h2 h3
 have e1 : 0 + (j : Int).toNat = j := by omega
 have hw : IntKind.wrap .i64 ((j : Int) + 1) = ((j + 1 : Nat) : Int) := wrapS (by omega)
 dsimp only [famRM]
 by_cases h0 : j = 0
 ·subst h0
  have hbs := h3 rfl
  subst hbs
  rw [if_pos rfl, rR0]
  by_cases hk : 0 < rs.length
  ·obtain ⟨hv, hi⟩ := hs _ (getD_mem hk krows.dflt)
   rw [ivT (decide_eq_true (by omega)), nv (decide_eq_true (by omega)), e1, nv (decide_eq_true hk), opRw_val hv hi, rowU_val hv (by decide), hw]
   simp only [if_pos hk]
   rfl
  ·rw [ivF (decide_eq_false (by omega))]
   simp only [if_neg hk, T.val]
   rfl
 ·rw [if_neg h0, rR1]
  by_cases hk : j < rs.length
  ·obtain ⟨hv, hi⟩ := hs _ (getD_mem hk krows.dflt)
   rw [ivT (decide_eq_true (by omega)), nv (decide_eq_true (by omega)), e1, nv (decide_eq_true hk), opRw_val hv hi, rowU_val hv (by omega), hw]
   simp only [if_pos hk]
   rfl
  ·rw [ivF (decide_eq_false (by omega))]
   simp only [if_neg hk, T.val, if_neg h0]
end Go.Proofs.YthdmoahfeimdaaaGreatDoor

namespace Go.Proofs.YthdmoahfeimdaaaGreatDoor
open Go Go.Sx Go.Proofs
set_option linter.unusedVariables false
set_option maxRecDepth 100000
variable {σ : Sg} {lp : Lp}
def okT (r : Rw) : Bool := match okR r with | true => decide (inI r.key /\ inI r.val /\ inI r.tall) | false => false
theorem okT_spec {r : Rw} (h : okT r = true) : okR r = true /\ inI r.key /\ inI r.val /\ inI r.tall := by
 unfold okT at h
 split at h
 ·rename_i e; exact ⟨e, of_decide_eq_true h⟩
 ·cases h
noncomputable def gRl (cr : CatR) (s : St AV) : T (Ex × St AV) := match s.H with
 | [some (.abs (.sent 0)), some (.abs (.sent 1)), none, none, none, none, none, none, none, none, none, none, none, none, some (.abs (.rowsA rs)), some (.abs (.intsA l)), some (.abs (.pairsA p)),
     some (.cells [.vs 14 0 n 10 false, .vs 15 0 m 1 false, .vs 16 0 k 2 false, .it .i64 a, .it .i64 b, .it .i64 c, .it .i64 d, .it .i64 t, .it .i64 o] ty), some (.cells [.pnil, .snil] ty2)] =>
   match Sx.look s.E 0, Sx.look s.E 3, Sx.look s.E 5, Sx.look s.E 18, Sx.look s.E 19, Sx.look s.E 20, Nat.beq ty 28, Nat.beq ty2 55 with
   | .v (.c (.it .i64 st)), .v (.c (.ptr 17 0)), .v (.c (.ptr 18 0)), .v (.c (.vs 14 0 n1 10 false)), .v (.c (.it .i64 n2)), .v (.c (.il .i64 0)), true, true =>
     .need (decide (n = rs.length /\ n1 = n /\ n2 = (n : Int) /\ rs.length <= 100 /\ ∀ r ∈ rs, okT r = true)) (.ite (decide (rs.length = 0)) (.leaf (.exit 0, famR rs l p rs.length m k ⟨a, b, c, d, t, o⟩ st 0 [] rs.length))
      (.leaf (.exit 0, famR rs l p rs.length m k ⟨a, b, c, d, t, o⟩ st 1 (cr st rs) rs.length)))
   | _, _, _, _, _, _, _, _ => .fail "rows"
 | _ => .fail "rows"
theorem mT_is : sentL AV.sent 0 mT = [some (.abs (.sent 0)), some (.abs (.sent 1)), none, none, none, none, none, none, none, none, none, none, none, none] := by kernel_rfl
theorem gRl_ok (ht : TabR σ) {N' : Env AV} (hF : N'.F = (NV σ).F) (hG : N'.G = (NV σ).G) : LoopOk Tryz.prog N' 124 LR (gRl catD) := by
 have hcal : CalOk Tryz.prog (NV σ) (joinCal (lv (NV σ) (tabTl σ fitsB lineT wordB) 5)) := joinCal_ok (lv_ok okV lpsV hvV (tabTl_ok ht) 5)
 refine loopOk_it (N := NV σ) hF hG okV hcal (lp := fun _ => none) (fun _ _ _ g hg => by cases hg) fun s s' ex hgs => ?_
 obtain ⟨E1, H1⟩ := s
 unfold gRl at hgs
 split at hgs
 ·rename_i rs l p n m k a b c d t o ty ty2 hs
  simp only at hs
  subst hs
  split at hgs
  ·rename_i st n1 n2 e0 e3 e5 e18 e19 e20 ety ety2
   have ety := (beq_iff _ _).1 ety
   have ety2 := (beq_iff _ _).1 ety2
   subst ety ety2
   simp only at e0 e3 e5 e18 e19 e20
   replace hgs := need_some hgs
   obtain ⟨hb, hgs⟩ := hgs
   obtain ⟨rfl, rfl, rfl, hl, hr⟩ := of_decide_eq_true hb
   have hr1 : ∀ r ∈ rs, okR r = true /\ inI r.key /\ inI r.val /\ inI r.tall := fun r h => okT_spec (hr r h)
   have hr2 : ∀ r ∈ rs, okR r = true := fun r h => (hr1 r h).1
   have hgo : ex = .exit 0 /\ s' = famRM rs l p m k ⟨a, b, c, d, t, o⟩ st ⟨rs.length, [] ++ catF (fD st rs) 0 rs.length⟩ := by
    by_cases h0 : rs.length = 0
    ·rw [decide_eq_true h0, ivT rfl] at hgs
     simp only [T.val, Option.some.injEq, Prod.mk.injEq] at hgs
     refine ⟨hgs.1.symm, hgs.2.symm.trans ?_⟩
     have : rs = [] := List.eq_nil_of_length_eq_zero h0
     subst this
     rfl
    ·rw [decide_eq_false h0, ivF rfl] at hgs
     simp only [T.val, Option.some.injEq, Prod.mk.injEq] at hgs
     refine ⟨hgs.1.symm, hgs.2.symm.trans ?_⟩
     simp only [famRM, if_neg h0, List.nil_append]
     rfl
   obtain ⟨rfl, rfl⟩ := hgo
   refine ⟨{ M := MT, fam := famRM rs l p m k ⟨a, b, c, d, t, o⟩ st, step := stepU rs.length 100000 (fD st rs), ks := ksR, pk := noPk, hpk := (fun d a h => by cases h), L := 19, len := rfl, hGL := (by show 14 <= 19; decide), run := stepU_run σ rs l p m k ⟨a, b, c, d, t, o⟩ st (by omega) hr1, m := ⟨0, []⟩, k := _, m' := _, ent := ?_, it := iterU (c := 300) (fD_le hr2) rs.length 0 [] (by omega) (by simp only [List.length_nil]; omega) (fun _ => rfl), fin := rfl }⟩
   have eH : (famRM rs l p m k ⟨a, b, c, d, t, o⟩ st ⟨0, []⟩).H = [some (.abs (.sent 0)), some (.abs (.sent 1)), none, none, none, none, none, none, none, none, none, none, none, none, some (.abs (.rowsA rs)), some (.abs (.intsA l)), some (.abs (.pairsA p)),
    some (.cells [.vs 14 0 rs.length 10 false, .vs 15 0 m 1 false, .vs 16 0 k 2 false, .it .i64 a, .it .i64 b, .it .i64 c, .it .i64 d, .it .i64 t, .it .i64 o] 28), some (.cells [.pnil, .snil] 55)] := by
    show (sentL AV.sent 0 mT ++ absL [.rowsA rs, .intsA l, .pairsA p]) ++ _ = _
    rw [mT_is]; rfl
   have := enter_ks (N := NV σ) (nt := 124) (E := E1) (H := (famRM rs l p m k ⟨a, b, c, d, t, o⟩ st ⟨0, []⟩).H) (ks := ksR) (E' := [(0, .v (.c (i6 st))), (3, .v (.c (.ptr 17 0))), (5, .v (.c (.ptr 18 0))), (18, .v (.c (.vs 14 0 rs.length 10 false))), (19, .v (.c (.it .i64 rs.length))), (20, .v (.c (.it .i64 (0 : Nat))))]) fun j hk => ?_
   ·rw [<- eH]; exact this
   ·simp only [ksR, List.mem_cons, List.not_mem_nil, or_false] at hk
    rcases hk with rfl | rfl | rfl | rfl | rfl | rfl
    ·exact .inl e0.symm
    ·exact .inl e3.symm
    ·exact .inl e5.symm
    ·exact .inl e18.symm
    ·exact .inl e19.symm
    ·exact .inr ⟨by rw [e20]; rintro ⟨⟩, plainIl _ _, fun ρ => by rw [e20]; rfl⟩
  ·simp [T.val] at hgs
 ·simp [T.val] at hgs
end Go.Proofs.YthdmoahfeimdaaaGreatDoor

namespace Go.Proofs.YthdmoahfeimdaaaGreatDoor
open Go Go.Sx Go.Proofs
set_option linter.unusedVariables false
set_option maxRecDepth 100000
variable {σ : Sg} {lp : Lp}
def bN : Bool -> Nat
 | false => 0
 | true => 1
def hasH : Bool -> List Tx -> Hp AV
 | false, has => [some (.abs (.strs has))]
 | true, has => [some .dead, some (.abs (.strs has))]
def nmV : Bool -> Nat
 | false => 19
 | true => 20
structure Rp where
 rs : List Rw
 l : List N1
 p : List Pr
 n : Nat
 m : Nat
 k : Nat
 u : Nu
 sS : Bool
 bs : List UInt8
noncomputable def hpR (r : Rp) : Hp AV := hpU r.rs r.l r.p r.n r.m r.k r.u (bN r.sS) r.bs
noncomputable def famW (r : Rp) (sh : Bool) (i : Int) (len : Nat) (has : List Tx) : St AV :=
 { E := only ksV [(3, .v (.c (.ptr 17 0))), (5, .v (.c (.ptr 18 0))), (11, .v (.c (.vs (nmV sh) 0 len 1 false))), (65, .v (.c (.vs 15 0 r.m 1 false))), (66, .v (.c (.it .i64 r.m))), (67, .v (.c (.it .i64 i)))] 124,
   H := hpR r ++ hasH sh has }
theorem wR (σ : Sg) (rs : List Rw) (l : List N1) (p : List Pr) (n m k : Nat) (u : Nu) (bs : List UInt8) (i : Int) (len : Nat) (has : List Tx) : ∀ (sS sh : Bool), (xc (NV σ) (joinCal (lv (NV σ) tabT 5)) (fun _ => none) 124 LV (famW ⟨rs, l, p, n, m, k, u, sS, bs⟩ sh i len has)).bind (backS 20 124 ksV pkW) =
 .ite (decide (i < (m : Int))) (.need (ndI m l.length i) (.need (decide (-9223372036854775808 <= (l.getD (0 + i.toNat) kints.dflt).val /\ (l.getD (0 + i.toNat) kints.dflt).val <= 9223372036854775807)) (.need (decide (len = Intf.len (avF σ) (AV.strs has) /\ (len + 1) * (SI.bytes si58 + 1) <= lim))
  (.leaf (.normal, famW ⟨rs, l, p, n, m, k, u, sS, bs⟩ true (IntKind.wrap .i64 (i + 1)) (len + 1) (has ++ [txI (l.getD (0 + i.toNat) kints.dflt).val])))))) (.leaf (.exit 2, famW ⟨rs, l, p, n, m, k, u, sS, bs⟩ sh i len has))
 | false, false => by kernel_rfl
 | false, true => by kernel_rfl
 | true, false => by kernel_rfl
 | true, true => by kernel_rfl
def nmQ : Bool -> Bool -> Nat
 | false, false => 19
 | false, true => 20
 | true, false => 20
 | true, true => 21
def hasQ : Bool -> Bool -> List Tx -> Hp AV
 | false, false, has => [some (.abs (.strs has))]
 | false, true, has => [some .dead, some (.abs (.strs has))]
 | true, false, has => [some .dead, some (.abs (.strs has))]
 | true, true, has => [some .dead, some .dead, some (.abs (.strs has))]
noncomputable def famQ (r : Rp) (e sh : Bool) (i : Int) (len : Nat) (has : List Tx) : St AV :=
 { E := only ksP [(3, .v (.c (.ptr 17 0))), (5, .v (.c (.ptr 18 0))), (11, .v (.c (.vs (nmQ e sh) 0 len 1 false))), (78, .v (.c (.vs 16 0 r.k 2 false))), (79, .v (.c (.it .i64 r.k))), (80, .v (.c (.it .i64 i)))] 124,
   H := hpR r ++ hasQ e sh has }
def treeQ {α : Type} (σ : Sg) (p : List Pr) (k : Nat) (i : Int) (len : Nat) (has : List Tx) (x y : T α) : T α :=
 .ite (decide (i < (k : Int))) (.need (decide (0 <= i /\ i < (k : Int))) (.need (decide (0 + i.toNat < p.length)) (.need (decide (-9223372036854775808 <= (p.getD (0 + i.toNat) kpairs.dflt).key /\ (p.getD (0 + i.toNat) kpairs.dflt).key <= 9223372036854775807))
  (.need (Nat.ble (strLen ⟨(Lib.itoa (p.getD (0 + i.toNat) kpairs.dflt).key).toArray⟩ + strLen ⟨#[61]⟩) 9223372036854775807) (.need (decide (-9223372036854775808 <= (p.getD (0 + i.toNat) kpairs.dflt).val /\ (p.getD (0 + i.toNat) kpairs.dflt).val <= 9223372036854775807))
  (.need (Nat.ble (strLen (strCat ⟨(Lib.itoa (p.getD (0 + i.toNat) kpairs.dflt).key).toArray⟩ ⟨#[61]⟩) + strLen ⟨(Lib.itoa (p.getD (0 + i.toNat) kpairs.dflt).val).toArray⟩) 9223372036854775807) (.need (decide (len = Intf.len (avF σ) (AV.strs has) /\ (len + 1) * (SI.bytes si58 + 1) <= lim)) x))))))) y
theorem qR (σ : Sg) (rs : List Rw) (l : List N1) (p : List Pr) (n m k : Nat) (u : Nu) (bs : List UInt8) (i : Int) (len : Nat) (has : List Tx) : ∀ (sS sh : Bool), (xc (NV σ) (joinCal (lv (NV σ) tabT 5)) (fun _ => none) 124 LP (famQ ⟨rs, l, p, n, m, k, u, sS, bs⟩ false sh i len has)).bind (backS 20 124 ksP pkW) =
 treeQ σ p k i len has (.leaf (.normal, famQ ⟨rs, l, p, n, m, k, u, sS, bs⟩ false true (IntKind.wrap .i64 (i + 1)) (len + 1) (has ++ [txP (p.getD (0 + i.toNat) kpairs.dflt)]))) (.leaf (.exit 4, famQ ⟨rs, l, p, n, m, k, u, sS, bs⟩ false sh i len has))
 | false, false => by kernel_rfl
 | false, true => by kernel_rfl
 | true, false => by kernel_rfl
 | true, true => by kernel_rfl
theorem qR1 (σ : Sg) (rs : List Rw) (l : List N1) (p : List Pr) (n m k : Nat) (u : Nu) (bs : List UInt8) (i : Int) (len : Nat) (has : List Tx) : ∀ (sS sh : Bool), (xc (NV σ) (joinCal (lv (NV σ) tabT 5)) (fun _ => none) 124 LP (famQ ⟨rs, l, p, n, m, k, u, sS, bs⟩ true sh i len has)).bind (backS 21 124 ksP pkW) =
 treeQ σ p k i len has (.leaf (.normal, famQ ⟨rs, l, p, n, m, k, u, sS, bs⟩ true true (IntKind.wrap .i64 (i + 1)) (len + 1) (has ++ [txP (p.getD (0 + i.toNat) kpairs.dflt)]))) (.leaf (.exit 4, famQ ⟨rs, l, p, n, m, k, u, sS, bs⟩ true sh i len has))
 | false, false => by kernel_rfl
 | false, true => by kernel_rfl
 | true, false => by kernel_rfl
 | true, true => by kernel_rfl
end Go.Proofs.YthdmoahfeimdaaaGreatDoor

namespace Go.Proofs.YthdmoahfeimdaaaGreatDoor
open Go Go.Sx Go.Proofs
set_option linter.unusedVariables false
set_option maxRecDepth 100000
variable {σ : Sg} {lp : Lp}
structure MW where
 k : Nat
 has : List Tx
 sh : Bool
def stepW (l : List N1) (m : MW) : T (Ex × MW) := .need (decide (l.length <= 100 /\ m.k <= l.length /\ m.has.length <= 1000 /\ ∀ a ∈ l, inI a.val))
 (.leaf (if m.k < l.length then (.normal, ⟨m.k + 1, m.has ++ [txV (l.getD m.k kints.dflt)], true⟩) else (.exit 2, m)))
noncomputable def famWM (r : Rp) (m : MW) : St AV := famW { r with m := r.l.length } m.sh m.k m.has.length m.has
theorem stepW_run (σ : Sg) (r : Rp) (m : MW) (q : Ex × MW) (h : (stepW r.l m).val = some q) :
 ((xc (NV σ) (joinCal (lv (NV σ) tabT 5)) (fun _ => none) 124 LV (famWM r m)).bind (backS 20 124 ksV pkW)).val = some (q.1, famWM r q.2) := by
 replace h := need_some h
 obtain ⟨hb, h⟩ := h
 obtain ⟨h1, h2, h3, h4⟩ := of_decide_eq_true hb
 simp only [T.val, Option.some.injEq] at h
 subst h
 obtain ⟨k, has, sh⟩ := m
 obtain ⟨rs, l, p, n, m, kk, u, sS, bs⟩ := r
 simp only at h1 h2 h3 h4
 have e1 : 0 + (k : Int).toNat = k := by omega
 have hw : IntKind.wrap .i64 ((k : Int) + 1) = ((k + 1 : Nat) : Int) := wrapS (by omega)
 have dn : k < l.length -> ndI l.length l.length k = true := fun hlt => by
  unfold ndI
  rw [decide_eq_true (show 0 <= (k : Int) /\ (k : Int) < (l.length : Int) by omega), e1]
  exact decide_eq_true hlt
 show ((xc (NV σ) (joinCal (lv (NV σ) tabT 5)) (fun _ => none) 124 LV (famW ⟨rs, l, p, n, l.length, kk, u, sS, bs⟩ sh k has.length has)).bind (backS 20 124 ksV pkW)).val = _
 rw [wR]
 by_cases hlt : k < l.length
 ·rw [ivT (decide_eq_true (by omega)), nv (dn hlt), e1, nv (decide_eq_true (h4 _ (getD_mem hlt _))), nv (fitT rfl h3), hw]
  simp only [if_pos hlt, T.val, famWM, List.length_append, List.length_singleton]; rfl
 ·simp only [if_neg hlt]
  rw [ivF (decide_eq_false (by omega))]
  rfl
theorem iterW (l : List N1) (hl : l.length <= 100) (hr : ∀ a ∈ l, inI a.val) : ∀ (q k : Nat) (has : List Tx) (sh : Bool), k + q = l.length -> has.length + q <= 1000 ->
 iter (stepW l) (q + 1) ⟨k, has, sh⟩ = some (.exit 2, ⟨l.length, has ++ (l.drop k).map txV, if q = 0 then sh else true⟩) := by
 intro q
 induction q with
 | zero =>
   intro k has sh hk hh
   have e : k = l.length := by omega
   subst e
   rw [iter, stepW, nv (decide_eq_true ⟨hl, Nat.le_refl _, by omega, hr⟩)]
   simp only [T.val, if_neg (Nat.lt_irrefl _), List.drop_length, List.map_nil, List.append_nil, if_true]
 | succ q ih =>
   intro k has sh hk hh
   have hlt : k < l.length := by omega
   rw [iter, stepW, nv (decide_eq_true ⟨hl, by show k <= _; omega, by show has.length <= 1000; omega, hr⟩)]
   simp only [T.val, if_pos hlt]
   rw [ih (k + 1) (has ++ [txV (l.getD k kints.dflt)]) true (by omega) (by simp; omega), drop_map_succ txV hlt kints.dflt]
   simp
def shOf : Chunk AV -> Option (Bool × List UInt8)
 | .cells [.pnil, .snil] ty => match Nat.beq ty 55 with
   | true => some (false, [])
   | false => none
 | .abs (.sheet false bs) => some (true, bs)
 | _ => none
def shC : Bool -> List UInt8 -> Chunk AV
 | false, _ => .cells [.pnil, .snil] 55
 | true, bs => .abs (.sheet false bs)
theorem shOf_is {c : Chunk AV} {s : Bool} {bs : List UInt8} (h : shOf c = some (s, bs)) : c = shC s bs := by
 unfold shOf at h
 split at h
 ·split at h
  ·rename_i e
   have e := (beq_iff _ _).1 e
   subst e; cases h; rfl
  ·cases h
 ·cases h; rfl
 ·cases h
theorem hpR_is (rs : List Rw) (l : List N1) (p : List Pr) (n m k : Nat) (a b c d t o : Int) (sS : Bool) (bs : List UInt8) (X : Hp AV) : hpR ⟨rs, l, p, n, m, k, ⟨a, b, c, d, t, o⟩, sS, bs⟩ ++ X = some (.abs (.sent 0)) :: some (.abs (.sent 1)) :: none :: none :: none :: none :: none :: none :: none :: none :: none :: none :: none :: none :: some (.abs (.rowsA rs)) :: some (.abs (.intsA l)) :: some (.abs (.pairsA p)) ::
 some (.cells [.vs 14 0 n 10 false, .vs 15 0 m 1 false, .vs 16 0 k 2 false, .it .i64 a, .it .i64 b, .it .i64 c, .it .i64 d, .it .i64 t, .it .i64 o] 28) :: some (shC sS bs) :: X := by
 show ((sentL AV.sent 0 mT ++ absL [.rowsA rs, .intsA l, .pairsA p]) ++ _) ++ X = _
 rw [mT_is]
 cases sS <;> rfl
noncomputable def gWl (s : St AV) : T (Ex × St AV) := match s.H with
 | [some (.abs (.sent 0)), some (.abs (.sent 1)), none, none, none, none, none, none, none, none, none, none, none, none, some (.abs (.rowsA rs)), some (.abs (.intsA l)), some (.abs (.pairsA p)),
     some (.cells [.vs 14 0 n 10 false, .vs 15 0 m 1 false, .vs 16 0 k 2 false, .it .i64 a, .it .i64 b, .it .i64 c, .it .i64 d, .it .i64 t, .it .i64 o] t1), some sc, some (.vec [.st h] 1 t3)] =>
   match Sx.look s.E 3, Sx.look s.E 5, Sx.look s.E 11, Sx.look s.E 65, Sx.look s.E 66, Sx.look s.E 67, Nat.beq t1 28, shOf sc, Nat.beq t3 9 with
   | .v (.c (.ptr 17 0)), .v (.c (.ptr 18 0)), .v (.c (.vs 19 0 1 1 true)), .v (.c (.vs 15 0 n1 1 false)), .v (.c (.it .i64 n2)), .v (.c (.il .i64 0)), true, some (sS, bs), true =>
     .need (decide (m = l.length /\ n1 = m /\ n2 = (m : Int) /\ l.length <= 100 /\ ∀ a ∈ l, inI a.val)) (.ite (decide (l.length = 0)) (.leaf (.exit 2, famW ⟨rs, l, p, n, l.length, k, ⟨a, b, c, d, t, o⟩, sS, bs⟩ false l.length 1 [⟨h⟩]))
      (.leaf (.exit 2, famW ⟨rs, l, p, n, l.length, k, ⟨a, b, c, d, t, o⟩, sS, bs⟩ true l.length (1 + l.length) (⟨h⟩ :: l.map txV))))
   | _, _, _, _, _, _, _, _, _ => .fail "values"
 | _ => .fail "values"
theorem gWl_ok (ht : TabR σ) {N' : Env AV} (hF : N'.F = (NV σ).F) (hG : N'.G = (NV σ).G) : LoopOk Tryz.prog N' 124 LV gWl := by
 have hcal : CalOk Tryz.prog (NV σ) (joinCal (lv (NV σ) tabT 5)) := joinCal_ok (lv_ok okV lpsV hvV (tabT_ok ht) 5)
 refine loopOk_it (N := NV σ) hF hG okV hcal (lp := fun _ => none) (fun _ _ _ g hg => by cases hg) fun s s' ex hgs => ?_
 obtain ⟨E1, H1⟩ := s
 unfold gWl at hgs
 split at hgs
 ·rename_i rs l p n m k a b c d t o t1 sc h t3 hs
  simp only at hs
  subst hs
  split at hgs
  ·rename_i n1 n2 sS bs e3 e5 e11 e65 e66 e67 et1 esc et3
   simp only at e3 e5 e11 e65 e66 e67
   have et1 := (beq_iff _ _).1 et1
   have et3 := (beq_iff _ _).1 et3
   have esc := shOf_is esc
   subst et1 et3 esc
   replace hgs := need_some hgs
   obtain ⟨hb, hgs⟩ := hgs
   obtain ⟨rfl, rfl, rfl, hl, hr⟩ := of_decide_eq_true hb
   have hgo : ex = .exit 2 /\ s' = famWM ⟨rs, l, p, n, l.length, k, ⟨a, b, c, d, t, o⟩, sS, bs⟩ ⟨l.length, [⟨h⟩] ++ (l.drop 0).map txV, if l.length = 0 then false else true⟩ := by
    by_cases h0 : l.length = 0
    ·rw [decide_eq_true h0, ivT rfl] at hgs
     simp only [T.val, Option.some.injEq, Prod.mk.injEq] at hgs
     refine ⟨hgs.1.symm, hgs.2.symm.trans ?_⟩
     have : l = [] := List.eq_nil_of_length_eq_zero h0
     subst this
     rfl
    ·rw [decide_eq_false h0, ivF rfl] at hgs
     simp only [T.val, Option.some.injEq, Prod.mk.injEq] at hgs
     refine ⟨hgs.1.symm, hgs.2.symm.trans ?_⟩
     simp only [famWM, if_neg h0, List.drop_zero, List.singleton_append, List.length_cons, List.length_map, Nat.add_comm 1]
   obtain ⟨rfl, rfl⟩ := hgo
   refine ⟨{ M := MW, fam := famWM ⟨rs, l, p, n, l.length, k, ⟨a, b, c, d, t, o⟩, sS, bs⟩, step := stepW l, ks := ksV, pk := pkW, hpk := pkW_ok, L := 20, len := rfl, hGL := (by show 14 <= 20; decide), run := stepW_run σ ⟨rs, l, p, n, l.length, k, ⟨a, b, c, d, t, o⟩, sS, bs⟩, m := ⟨0, [⟨h⟩], false⟩, k := l.length + 1, m' := _, ent := ?_, it := iterW l hl hr l.length 0 [⟨h⟩] false (by omega) (by show 1 + _ <= _; omega), fin := rfl }⟩
   have eH : (famWM ⟨rs, l, p, n, l.length, k, ⟨a, b, c, d, t, o⟩, sS, bs⟩ ⟨0, [⟨h⟩], false⟩).H = _ := hpR_is rs l p n l.length k a b c d t o sS bs (hasH false [⟨h⟩])
   have := enter_pack (N := NV σ) (nt := 124) (E := E1) (ks := ksV) (H := some (.abs (.sent 0)) :: some (.abs (.sent 1)) :: none :: none :: none :: none :: none :: none :: none :: none :: none :: none :: none :: none :: some (.abs (.rowsA rs)) :: some (.abs (.intsA l)) :: some (.abs (.pairsA p)) ::
    some (.cells [.vs 14 0 n 10 false, .vs 15 0 l.length 1 false, .vs 16 0 k 2 false, .it .i64 a, .it .i64 b, .it .i64 c, .it .i64 d, .it .i64 t, .it .i64 o] 28) :: some (shC sS bs) :: [some (.vec [.st h] 1 9)]) (n := 19) (c := .vec [.st h] 1 9) (c' := .abs (.strs [⟨h⟩]))
    (E' := [(3, .v (.c (.ptr 17 0))), (5, .v (.c (.ptr 18 0))), (11, .v (.c (.vs 19 0 1 1 false))), (65, .v (.c (.vs 15 0 l.length 1 false))), (66, .v (.c (.it .i64 l.length))), (67, .v (.c (.it .i64 (0 : Nat))))]) rfl ?_ rfl fun j hk => ?_
   ·have e : famWM ⟨rs, l, p, n, l.length, k, ⟨a, b, c, d, t, o⟩, sS, bs⟩ ⟨0, [⟨h⟩], false⟩ = { E := only ksV [(3, .v (.c (.ptr 17 0))), (5, .v (.c (.ptr 18 0))), (11, .v (.c (.vs 19 0 1 1 false))), (65, .v (.c (.vs 15 0 l.length 1 false))), (66, .v (.c (.it .i64 l.length))), (67, .v (.c (.it .i64 (0 : Nat))))] 124, H := _ } := congrArg (St.mk (only ksV [(3, .v (.c (.ptr 17 0))), (5, .v (.c (.ptr 18 0))), (11, .v (.c (.vs 19 0 1 1 false))), (65, .v (.c (.vs 15 0 l.length 1 false))), (66, .v (.c (.it .i64 l.length))), (67, .v (.c (.it .i64 (0 : Nat))))] 124)) eH
    rw [e]
    exact this
   ·have := pkW_ok (σ := σ) (lp := noLp) (.vec [.st h] 1 9) (.strs [⟨h⟩]) (by kernel_rfl) id
    exact this
   ·simp only [ksV, List.mem_cons, List.not_mem_nil, or_false] at hk
    rcases hk with rfl | rfl | rfl | rfl | rfl | rfl
    ·exact .inl e3.symm
    ·exact .inl e5.symm
    ·refine .inr ⟨by rw [e11]; rintro ⟨⟩, ?_, fun ρ => by rw [e11]; rfl⟩
     intro c hc m hm
     have hc : c ∈ [Cell.vs 19 0 1 1 false] := hc
     rw [List.mem_singleton.1 hc] at hm
     cases hm
     exact ⟨_, rfl⟩
    ·exact .inl e65.symm
    ·exact .inl e66.symm
    ·exact .inr ⟨by rw [e67]; rintro ⟨⟩, (plainIl _ _).cl _, fun ρ => by rw [e67]; rfl⟩
  ·simp [T.val] at hgs
 ·simp [T.val] at hgs
end Go.Proofs.YthdmoahfeimdaaaGreatDoor

namespace Go.Proofs.YthdmoahfeimdaaaGreatDoor
open Go Go.Sx Go.Proofs
set_option linter.unusedVariables false
set_option maxRecDepth 100000
variable {σ : Sg} {lp : Lp}
def stepQ (p : List Pr) (m : MW) : T (Ex × MW) := .need (decide (p.length <= 100 /\ m.k <= p.length /\ m.has.length <= 1000 /\ ∀ a ∈ p, inP a))
 (.leaf (if m.k < p.length then (.normal, ⟨m.k + 1, m.has ++ [txP (p.getD m.k kpairs.dflt)], true⟩) else (.exit 4, m)))
noncomputable def famQM (r : Rp) (e : Bool) (m : MW) : St AV := famQ { r with k := r.p.length } e m.sh m.k m.has.length m.has
theorem treeQ_val {α : Type} {p : List Pr} {k : Nat} {has : List Tx} {x y : T α} (h1 : p.length <= 100) (h2 : k <= p.length) (h3 : has.length <= 1000) (h4 : ∀ a ∈ p, inP a) : (treeQ σ p p.length k has.length has x y).val = if k < p.length then x.val else y.val := by
 have e1 : 0 + (k : Int).toNat = k := by omega
 unfold treeQ
 by_cases hlt : k < p.length
 ·have hq := h4 _ (getD_mem hlt kpairs.dflt)
  obtain ⟨c1, c2⟩ := catL _ _ hq.1 hq.2
  rw [ivT (decide_eq_true (by omega)), nv (decide_eq_true (by omega)), e1, nv (decide_eq_true hlt), nv (decide_eq_true hq.1), nv c1, nv (decide_eq_true hq.2), nv c2, nv (fitT rfl h3), if_pos hlt]
 ·rw [ivF (decide_eq_false (by omega)), if_neg hlt]
theorem stepQ_run (σ : Sg) (r : Rp) (e : Bool) (m : MW) (q : Ex × MW) (h : (stepQ r.p m).val = some q) :
 ((xc (NV σ) (joinCal (lv (NV σ) tabT 5)) (fun _ => none) 124 LP (famQM r e m)).bind (backS (20 + bN e) 124 ksP pkW)).val = some (q.1, famQM r e q.2) := by
 replace h := need_some h
 obtain ⟨hb, h⟩ := h
 obtain ⟨h1, h2, h3, h4⟩ := of_decide_eq_true hb
 simp only [T.val, Option.some.injEq] at h
 subst h
 obtain ⟨k, has, sh⟩ := m
 obtain ⟨rs, l, p, n, m, kk, u, sS, bs⟩ := r
 simp only at h1 h2 h3 h4
 have e1 : 0 + (k : Int).toNat = k := by omega
 have hw : IntKind.wrap .i64 ((k : Int) + 1) = ((k + 1 : Nat) : Int) := wrapS (by omega)
 cases e
 ·show ((xc (NV σ) (joinCal (lv (NV σ) tabT 5)) (fun _ => none) 124 LP (famQ ⟨rs, l, p, n, m, p.length, u, sS, bs⟩ false sh k has.length has)).bind (backS 20 124 ksP pkW)).val = _
  rw [qR, treeQ_val h1 h2 h3 h4]
  by_cases hlt : k < p.length
  ·simp only [if_pos hlt, T.val, famQM, e1, hw, List.length_append, List.length_singleton]
  ·simp only [if_neg hlt]
   rfl
 ·show ((xc (NV σ) (joinCal (lv (NV σ) tabT 5)) (fun _ => none) 124 LP (famQ ⟨rs, l, p, n, m, p.length, u, sS, bs⟩ true sh k has.length has)).bind (backS 21 124 ksP pkW)).val = _
  rw [qR1, treeQ_val h1 h2 h3 h4]
  by_cases hlt : k < p.length
  ·simp only [if_pos hlt, T.val, famQM, e1, hw, List.length_append, List.length_singleton]
  ·simp only [if_neg hlt]
   rfl
theorem iterQ (p : List Pr) (hl : p.length <= 100) (hr : ∀ a ∈ p, inP a) : ∀ (q k : Nat) (has : List Tx) (sh : Bool), k + q = p.length -> has.length + q <= 1000 ->
 iter (stepQ p) (q + 1) ⟨k, has, sh⟩ = some (.exit 4, ⟨p.length, has ++ (p.drop k).map txP, if q = 0 then sh else true⟩) := by
 intro q
 induction q with
 | zero =>
   intro k has sh hk hh
   have e : k = p.length := by omega
   subst e
   rw [iter, stepQ, nv (decide_eq_true ⟨hl, Nat.le_refl _, by omega, hr⟩)]
   simp only [T.val, if_neg (Nat.lt_irrefl _), List.drop_length, List.map_nil, List.append_nil, if_true]
 | succ q ih =>
   intro k has sh hk hh
   have hlt : k < p.length := by omega
   rw [iter, stepQ, nv (decide_eq_true ⟨hl, by show k <= _; omega, by show has.length <= 1000; omega, hr⟩)]
   simp only [T.val, if_pos hlt]
   rw [ih (k + 1) (has ++ [txP (p.getD k kpairs.dflt)]) true (by omega) (by simp; omega), drop_map_succ txP hlt kpairs.dflt]
   simp
noncomputable def goQ (r : Rp) (e : Bool) (has : List Tx) : T (Ex × St AV) := .ite (decide (r.p.length = 0)) (.leaf (.exit 4, famQ { r with k := r.p.length } e false r.p.length has.length has)) (.leaf (.exit 4, famQ { r with k := r.p.length } e true r.p.length (has.length + r.p.length) (has ++ r.p.map txP)))
def okQ (p : List Pr) (k k1 : Nat) (k2 : Int) (len : Nat) (has : List Tx) : Bool := decide (k = p.length /\ k1 = k /\ k2 = (k : Int) /\ len = has.length /\ has.length <= 500 /\ p.length <= 100 /\ ∀ a ∈ p, inP a)
def hasX : Hp AV -> Option (Bool × List Tx)
 | [some (.abs (.strs has))] => some (false, has)
 | [some .dead, some (.abs (.strs has))] => some (true, has)
 | _ => none
theorem hasX_is {X : Hp AV} {e : Bool} {has : List Tx} (h : hasX X = some (e, has)) : X = hasQ e false has := by
 unfold hasX at h
 split at h
 ·cases h; rfl
 ·cases h; rfl
 ·cases h
def evQ (E : Ev) (e : Bool) : Option (Nat × Nat × Int) := match Sx.look E 3, Sx.look E 5, Sx.look E 11, Sx.look E 78, Sx.look E 79, Sx.look E 80 with
    | .v (.c (.ptr 17 0)), .v (.c (.ptr 18 0)), .v (.c (.vs nm 0 len 1 false)), .v (.c (.vs 16 0 k1 2 false)), .v (.c (.it .i64 k2)), .v (.c (.il .i64 0)) => match Nat.beq nm (nmQ e false) with
      | true => some (len, k1, k2)
      | false => none
    | _, _, _, _, _, _ => none
noncomputable def gQl (s : St AV) : T (Ex × St AV) := match s.H with
 | some (.abs (.sent 0)) :: some (.abs (.sent 1)) :: none :: none :: none :: none :: none :: none :: none :: none :: none :: none :: none :: none :: some (.abs (.rowsA rs)) :: some (.abs (.intsA l)) :: some (.abs (.pairsA p)) ::
    some (.cells [.vs 14 0 n 10 false, .vs 15 0 m 1 false, .vs 16 0 k 2 false, .it .i64 a, .it .i64 b, .it .i64 c, .it .i64 d, .it .i64 t, .it .i64 o] t1) :: some sc :: X =>
   match Nat.beq t1 28, shOf sc, hasX X with
   | true, some (sS, bs), some (e, has) => match evQ s.E e with
     | some (len, k1, k2) => .need (okQ p k k1 k2 len has) (goQ ⟨rs, l, p, n, m, k, ⟨a, b, c, d, t, o⟩, sS, bs⟩ e has)
     | none => .fail "pairs"
   | _, _, _ => .fail "pairs"
 | _ => .fail "pairs"
theorem goQ_spec {r : Rp} {e : Bool} {has : List Tx} {ex : Ex} {s' : St AV} (h : (goQ r e has).val = some (ex, s')) : ex = .exit 4 /\ s' = famQM r e ⟨r.p.length, has ++ (r.p.drop 0).map txP, if r.p.length = 0 then false else true⟩ := by
 unfold goQ at h
 by_cases h0 : r.p.length = 0
 ·rw [decide_eq_true h0, ivT rfl] at h
  simp only [T.val, Option.some.injEq, Prod.mk.injEq] at h
  refine ⟨h.1.symm, h.2.symm.trans ?_⟩
  have : r.p = [] := List.eq_nil_of_length_eq_zero h0
  simp [famQM, this]
 ·rw [decide_eq_false h0, ivF rfl] at h
  simp only [T.val, Option.some.injEq, Prod.mk.injEq] at h
  refine ⟨h.1.symm, h.2.symm.trans ?_⟩
  simp only [famQM, if_neg h0, List.drop_zero, List.length_append, List.length_map]
theorem gQl_ok (ht : TabR σ) {N' : Env AV} (hF : N'.F = (NV σ).F) (hG : N'.G = (NV σ).G) : LoopOk Tryz.prog N' 124 LP gQl := by
 have hcal : CalOk Tryz.prog (NV σ) (joinCal (lv (NV σ) tabT 5)) := joinCal_ok (lv_ok okV lpsV hvV (tabT_ok ht) 5)
 refine loopOk_it (N := NV σ) hF hG okV hcal (lp := fun _ => none) (fun _ _ _ g hg => by cases hg) fun s s' ex hgs => ?_
 obtain ⟨E1, H1⟩ := s
 unfold gQl at hgs
 split at hgs
 ·rename_i rs l p n m k a b c d t o t1 sc X hs
  simp only at hs
  subst hs
  split at hgs
  ·rename_i sS bs e has et1 esc eX
   have et1 := (beq_iff _ _).1 et1
   have esc := shOf_is esc
   have eX := hasX_is eX
   subst et1 esc eX
   split at hgs
   ·rename_i len k1 k2 eE
    unfold evQ at eE
    split at eE
    ·rename_i nm len1 k11 k21 e3 e5 e11 e78 e79 e80
     split at eE
     ·rename_i enm
      have enm := (beq_iff _ _).1 enm
      subst enm
      cases eE
      simp only at e3 e5 e11 e78 e79 e80
      replace hgs := need_some hgs
      obtain ⟨hb, hgs⟩ := hgs
      obtain ⟨rfl, rfl, rfl, rfl, hh, hl, hr⟩ := of_decide_eq_true hb
      obtain ⟨rfl, rfl⟩ := goQ_spec hgs
      refine ⟨{ M := MW, fam := famQM ⟨rs, l, p, n, m, p.length, ⟨a, b, c, d, t, o⟩, sS, bs⟩ e, step := stepQ p, ks := ksP, pk := pkW, hpk := pkW_ok, L := 20 + bN e, len := (by cases e <;> rfl), hGL := (by show 14 <= 20 + bN e; omega), run := stepQ_run σ ⟨rs, l, p, n, m, p.length, ⟨a, b, c, d, t, o⟩, sS, bs⟩ e, m := ⟨0, has, false⟩, k := p.length + 1, m' := _, ent := ?_, it := iterQ p hl hr p.length 0 has false (by omega) (by omega), fin := rfl }⟩
      have eH : (famQM ⟨rs, l, p, n, m, p.length, ⟨a, b, c, d, t, o⟩, sS, bs⟩ e ⟨0, has, false⟩).H = _ := hpR_is rs l p n m p.length a b c d t o sS bs (hasQ e false has)
      have := enter_ks (N := NV σ) (nt := 124) (E := E1) (ks := ksP) (H := (famQM ⟨rs, l, p, n, m, p.length, ⟨a, b, c, d, t, o⟩, sS, bs⟩ e ⟨0, has, false⟩).H)
       (E' := [(3, .v (.c (.ptr 17 0))), (5, .v (.c (.ptr 18 0))), (11, .v (.c (.vs (nmQ e false) 0 has.length 1 false))), (78, .v (.c (.vs 16 0 p.length 2 false))), (79, .v (.c (.it .i64 p.length))), (80, .v (.c (.it .i64 (0 : Nat))))]) fun j hk => ?_
      ·rw [<- eH]; exact this
      ·simp only [ksP, List.mem_cons, List.not_mem_nil, or_false] at hk
       rcases hk with rfl | rfl | rfl | rfl | rfl | rfl
       ·exact .inl e3.symm
       ·exact .inl e5.symm
       ·exact .inl e11.symm
       ·exact .inl e78.symm
       ·exact .inl e79.symm
       ·exact .inr ⟨by rw [e80]; rintro ⟨⟩, plainIl _ _, fun ρ => by rw [e80]; rfl⟩
     ·cases eE
    ·cases eE
   ·simp [T.val] at hgs
  ·simp [T.val] at hgs
 ·simp [T.val] at hgs
noncomputable def lpTl (cr : CatR) : Lp := lpAdd 8 3 (gRl cr) (lpAdd 8 16 gWl (lpAdd 8 21 gQl noLp))
theorem lps_tl (ht : TabR σ) : LpsOk Tryz.prog (NVl (lpTl catD) σ) :=
 lpsAdd (lpsAdd (lpsAdd lpsV (fn := Tryz.f8) (by kernel_rfl) (c := bodyOf Tryz.f8) (by kernel_rfl) (nt := 124) (by kernel_rfl) (b := LP) (oneLoop_spec (by kernel_rfl)) (gQl_ok ht rfl rfl))
  (fn := Tryz.f8) (by kernel_rfl) (c := bodyOf Tryz.f8) (by kernel_rfl) (nt := 124) (by kernel_rfl) (b := LV) (oneLoop_spec (by kernel_rfl)) (gWl_ok ht rfl rfl))
  (fn := Tryz.f8) (by kernel_rfl) (c := bodyOf Tryz.f8) (by kernel_rfl) (nt := 124) (by kernel_rfl) (b := LR) (oneLoop_spec (by kernel_rfl)) (gRl_ok ht rfl rfl)
end Go.Proofs.YthdmoahfeimdaaaGreatDoor

namespace Go.Proofs.YthdmoahfeimdaaaGreatDoor
open Go Go.Sx Go.Proofs
set_option linter.unusedVariables false
set_option maxRecDepth 100000
variable {σ : Sg} {lp : Lp}
theorem catF_from {α : Type} {g : α -> List UInt8} {f : Nat -> List UInt8} {l : List α} {d : α} (hf : ∀ k, f k = g (l.getD k d)) : ∀ (q k : Nat), k + q = l.length -> catF f k q = (l.drop k).flatMap g
 | 0, k, h => by
   have : l.drop k = [] := List.drop_eq_nil_of_le (by omega)
   rw [catF, this]; rfl
 | q + 1, k, h => by
   have hk : k < l.length := by omega
   rw [catF, catF_from hf q (k + 1) (by omega), hf, List.drop_eq_getElem_cons hk, List.flatMap_cons]
   have : l.getD k d = l[k] := by simp [List.getD, hk]
   rw [this]
theorem catF_flat {α : Type} {g : α -> List UInt8} {f : Nat -> List UInt8} {l : List α} {d : α} (hf : ∀ k, f k = g (l.getD k d)) : catF f 0 l.length = l.flatMap g := by
 rw [catF_from hf l.length 0 (by omega), List.drop_zero]
def jL (u : Nu) : List UInt8 := joinL [⟨#[108, 101, 102, 116]⟩, itB u.a, itB u.b, itB u.c, itB u.d] [32]
def jS (u : Nu) : List UInt8 := joinL [⟨#[115, 116, 101, 112, 115]⟩, itB u.t, ⟨#[109, 111, 115, 116]⟩, itB u.o] [32]
def txtU (bs : List UInt8) (has : List Tx) (u : Nu) : List UInt8 := ((((bs ++ joinL (has.map Tx.val) [32]) ++ [10]) ++ jL u ++ [10]) ++ jS u) ++ [10]
theorem has_is (l : List N1) (p : List Pr) : joinL ((hasT l p).map Tx.val) [32] ++ [10] = hasL l p := by
 show Lib.join (((hasT l p).map Tx.val).map (·.data.toList)) [32] ++ [10] = _
 have e1 : ((hasT l p).map Tx.val).map (·.data.toList) = [104, 97, 115] :: (l.map (fun a => Lib.itoa a.val) ++ p.map fun a => Lib.itoa a.key ++ 61 :: Lib.itoa a.val) := by
  simp only [hasT, List.map_cons, List.map_append, List.map_map]
  refine congrArg (List.cons [104, 97, 115]) ?_
  refine congr (congrArg _ (List.map_congr_left fun a _ => rfl)) (List.map_congr_left fun a _ => ?_)
  simp [txP, strCat]
 have e2 : catH l = l.flatMap fun a => 32 :: Lib.itoa a.val := catF_flat (d := kints.dflt) fun k => rfl
 have e3 : catI p = p.flatMap fun a => 32 :: (Lib.itoa a.key ++ 61 :: Lib.itoa a.val) := catF_flat (d := kpairs.dflt) fun k => rfl
 rw [e1, join_flat, hasL, e2, e3, List.flatMap_append, List.flatMap_map, List.flatMap_map]
 simp only [hasTx, List.append_assoc]
theorem ends_is (u : Nu) : (jL u ++ [10]) ++ (jS u ++ [10]) = endsL u.a u.b u.c u.d u.t u.o := by
 unfold jL jS joinL endsL
 simp only [List.map_cons, List.map_nil]
 rw [join_flat, join_flat]
 simp [itB, itoL]
theorem txtU_is (s : Int) (rs : List Rw) (l : List N1) (p : List Pr) (u : Nu) : txtU (catD s rs) (hasT l p) u = toldL s rs l p u := by
 have h1 := has_is l p
 have h2 := ends_is u
 unfold txtU toldL
 rw [<- h1, <- h2]
 simp only [List.append_assoc]
end Go.Proofs.YthdmoahfeimdaaaGreatDoor
