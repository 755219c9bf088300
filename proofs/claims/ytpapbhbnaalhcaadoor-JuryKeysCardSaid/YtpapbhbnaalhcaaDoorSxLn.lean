import Derived.Test.YtpapbhbnaalhcaaDoorJv
import Derived.Test.YtpapbhbnaalhcaaDoorSxN
import Derived.Test.YtpapbhbnaalhcaaDoorSxAr
namespace Go.Sx
variable {AV : Type} {P : Program} {N : Env AV}
def Lesser (N : Env AV) (d c : Chunk AV) : Prop := ∀ ρ n w, (d.q N ρ n w -> c.q N ρ n w) /\ ∀ k, c.fp ρ n k ↔ d.fp ρ n k
theorem Lesser.refl (d : Chunk AV) : Lesser N d d := fun _ _ _ => ⟨id, fun _ => Iff.rfl⟩
structure Back (N : Env AV) (L nt : Nat) (s t : St AV) (π : Nat -> Nat) : Prop where
 E : ∀ k, k < nt -> look t.E k ≠ .unk -> look s.E k = (look t.E k).ren π
 Eo : ∀ k, nt <= k -> look t.E k = undefV
 H : ∀ n c, hget t.H n = some c -> ∃ d, hget s.H (π n) = some d /\ Lesser N d (c.ren π)
 inj : ∀ n m c d, hget t.H n = some c -> hget t.H m = some d -> π n = π m -> n = m
 fix : ∀ n, n < L -> π n = n
 keep : ∀ n c, n < L -> hget s.H n = some c -> ∃ c', hget t.H n = some c'
 len : L <= t.H.length
 G : N.G <= L
 cl : Closed N t
theorem ren_unk {π : Nat -> Nat} {v : SV} (h : v.ren π = .unk) : v = .unk := by
 cases v <;> first | rfl | (simp [SV.ren] at h)
theorem Back.at {L nt : Nat} {s t : St AV} {π : Nat -> Nat} (h : Back N L nt s t π) {ρ : Nm} {a : Act} {w : World} (hat : At N nt ρ s a w) : At N nt (ρ.ren π) t a w := by
 refine ⟨⟨hat.em.size, fun k hk => ?_⟩, ⟨⟨fun n c hc => ?_, fun n m c d hnm hc hd k hk hk' => ?_, fun g hg => ?_⟩, hat.own.ro.1, fun n c k hc hk => ?_⟩⟩
 ·rcases Nat.lt_or_ge k nt with hlt | hge
  case inr =>
   rw [h.Eo k hge]
   have : ¬ k < a.tmps.size := by rw [hat.em.size]; omega
   simp [Array.getD, this, undefV, SV.den, undef]
  have he := h.E k hlt hk
  have hs : look s.E k ≠ .unk := fun e => hk (ren_unk (he.symm.trans e))
  rw [hat.em.get k hs, he, SV.den_ren]
 ·obtain ⟨d, g1, g2⟩ := h.H n c hc
  exact q_ren.1 ((g2 ρ (π n) w).1 (hat.own.q _ _ g1))
 ·obtain ⟨c', g1, g2⟩ := h.H n c hc
  obtain ⟨d', g3, g4⟩ := h.H m d hd
  rw [<- fp_ren] at hk hk'
  exact hat.own.dis (π n) (π m) _ _ (fun e => hnm (h.inj n m c d hc hd e)) g1 g3 k (((g2 ρ (π n) w).2 k).1 hk) (((g4 ρ (π m) w).2 k).1 hk')
 ·show ρ (π g) = g
  rw [h.fix g (by have := h.G; omega)]
  exact hat.own.glb g hg
 ·obtain ⟨d, g1, g2⟩ := h.H n c hc
  rw [<- fp_ren] at hk
  exact hat.own.ro.2 (π n) _ k g1 (((g2 ρ (π n) w).2 k).1 hk)
theorem Back.evo {L nt : Nat} {s t : St AV} {π : Nat -> Nat} (h : Back N L nt s t π) {ρ0 ρ : Nm} {H0 : Hp AV} {w0 w : World} (hL : H0.length = L) (he : Evo N L ρ0 H0 w0 ρ s.H w) : Evo N L ρ0 H0 w0 (ρ.ren π) t.H w := by
 refine ⟨fun n c hc => ?_, fun n c hc => ?_, fun n hn hc => ?_, by rw [hL]; exact h.len, he.frame, fun n c k hc hk => ?_, he.os, he.tape, he.output, he.size⟩
 ·obtain ⟨c', hc'⟩ := he.pers n c hc
  exact h.keep n c' (by have := hget_lt hc; omega) hc'
 ·show ρ.L (π n) = _
  rw [h.fix n (by have := hget_lt hc; omega)]
  exact he.agree n c hc
 ·cases ht : hget t.H n with
  | none => rfl
  | some c =>
    obtain ⟨d, g1, _⟩ := h.H n c ht
    rw [h.fix n hn, he.non n hn hc] at g1
    cases g1
 ·obtain ⟨d, g1, g2⟩ := h.H n c hc
  rw [<- fp_ren] at hk
  exact he.new (π n) _ k g1 (((g2 ρ (π n) w).2 k).1 hk)
theorem loop_ren (hT : TblOk P N) {cal : Callee AV} (hcal : CalOk P N cal) {lp : Nat -> Option (St AV -> T (Ex × St AV))} {nt : Nat} {c : Code} (hlp : LpOk P N nt c lp) {ι : Type} (fam : ι -> St AV) (μ : ι -> Nat) (Fin : Ex -> St AV -> Prop) (L : Nat)
 (hstep : ∀ i, ∃ ex s', (xc N cal lp nt c (fam i)).val = some (ex, s') /\ match ex with
   | .normal => ∃ i' π, μ i' < μ i /\ Back N L nt s' (fam i') π
   | e => Fin e s')
 {ρ0 : Nm} {H0 : Hp AV} {w0 : World} (hL : H0.length = L) : ∀ (n : Nat) (i : ι), μ i < n -> Closed N (fam i) -> L <= (fam i).H.length -> ∀ (ρ : Nm) (a : Act) (w : World), At N nt ρ (fam i) a w -> Evo N L ρ0 H0 w0 ρ (fam i).H w -> ∀ (Q : Exit -> Act -> World -> Prop),
   (∀ ex s' ρ' a' w', Fin ex s' -> Closed N s' -> L <= s'.H.length -> At N nt ρ' s' a' w' -> Evo N L ρ0 H0 w0 ρ' s'.H w' -> a'.defers = a.defers -> Q (exOf ex) a' w') -> Code.rounds P c Q n a w
 | 0, i, h, _, _, _, _, _, _, _, _, _ => by omega
 | n + 1, i, hm, hcl, hH, ρ, a, w, hat, hev, Q, hQ => by
   obtain ⟨ex, s', h1, h2⟩ := hstep i
   obtain ⟨c1, l1, k1⟩ := xc_wp (P := P) hT hcal (nt := nt) (L := L) c hlp (fam i) s' ex h1 hcl hH
   refine wp_mono (k1 hat) ?_
   rintro e a₁ w₁ ⟨rfl, hl⟩
   obtain ⟨⟨ρ₁, e1, o1, v1⟩, d1⟩ := hl
   cases ex with
   | normal =>
     obtain ⟨i', π, hmu, hb⟩ := h2
     have hat' := hb.at (At.mk e1 o1)
     have hev' := hb.evo hL (hev.trans v1)
     exact loop_ren hT hcal hlp fam μ Fin L hstep hL n i' (by omega) hb.cl hb.len _ a₁ w₁ hat' hev' Q fun ex s'' ρ' a' w' hf hc hh ha he hd => hQ ex s'' ρ' a' w' hf hc hh ha he (hd.trans d1)
   | exit id => exact hQ _ s' ρ₁ a₁ w₁ h2 c1 l1 ⟨e1, o1⟩ (hev.trans v1) d1
   | ret => exact hQ _ s' ρ₁ a₁ w₁ h2 c1 l1 ⟨e1, o1⟩ (hev.trans v1) d1
def nameOf (nl : List Nat) (n : Nat) : Nat := match nth nl n with | some m => m | none => n
def idxIn : List Nat -> Nat -> Nat
 | [], _ => 0
 | x :: r, n => match Nat.beq x n with | true => 0 | false => idxIn r n + 1
theorem nameOf_idx : ∀ {nl : List Nat} {n : Nat}, n ∈ nl -> nameOf nl (idxIn nl n) = n
 | x :: r, n, h => by
   simp only [idxIn]
   cases hb : Nat.beq x n with
   | true => exact (beq_iff _ _).1 hb
   | false =>
     rcases List.mem_cons.1 h with rfl | h
     ·rw [Nat.beq_refl] at hb; cases hb
     ·have := nameOf_idx h
      unfold nameOf at this ⊢
      simp only [nth]
      cases hn : nth r (idxIn r n) with
      | some m => rw [hn] at this; exact this
      | none =>
        rw [hn] at this
        exfalso
        rw [nth_eq] at hn
        have hlen : r.length <= idxIn r n := by
         rcases Nat.lt_or_ge (idxIn r n) r.length with hh | hh
         ·rw [List.getElem?_eq_getElem hh] at hn; cases hn
         ·exact hh
        have hlt : ∀ {l : List Nat}, n ∈ l -> idxIn l n < l.length := by
         intro l
         induction l with
         | nil => intro h; cases h
         | cons y l ih =>
           intro h
           simp only [idxIn]
           cases hy : Nat.beq y n with
           | true => simp
           | false =>
             rcases List.mem_cons.1 h with rfl | h
             ·rw [Nat.beq_refl] at hy; cases hy
             ·have := ih h; simp; omega
        have := hlt h
        omega
def refold (nl ks : List Nat) (nt : Nat) (s : St AV) : St AV :=
 { E := only ks (s.E.map fun p => (p.1, p.2.ren (idxIn nl))) nt, H := nl.map fun m => match hget s.H m with | some c => some (c.ren (idxIn nl)) | none => none }
theorem look_map (f : SV -> SV) (h0 : f undefV = undefV) : ∀ (E : Ev) (k : Nat), look (E.map fun p => (p.1, f p.2)) k = f (look E k)
 | [], k => h0.symm
 | (j, v) :: r, k => by
   simp only [List.map_cons, look]
   cases Nat.beq j k with
   | true => rfl
   | false => exact look_map f h0 r k
theorem hget_mapL (f : Nat -> Option (Chunk AV)) : ∀ (nl : List Nat) (n : Nat), hget (nl.map f) n = match nl[n]? with | some m => f m | none => none
 | [], n => by simp [hget]
 | x :: r, 0 => by simp [hget]
 | x :: r, n + 1 => by simp only [List.map_cons, hget, hget_mapL f r n, List.getElem?_cons_succ]
def subN (nl : List Nat) : List Nat -> Bool
 | [] => true
 | n :: r => match hasN nl n with | true => subN nl r | false => false
theorem subN_spec {nl : List Nat} : ∀ {l : List Nat}, subN nl l = true -> ∀ n ∈ l, n ∈ nl
 | [], _, n, h => by cases h
 | x :: r, hs, n, h => by
   simp only [subN] at hs
   split at hs
   ·rename_i hx
    rcases List.mem_cons.1 h with rfl | h
    ·exact (hasN_iff _ _).1 hx
    ·exact subN_spec hs n h
   ·cases hs
def subE (nl : List Nat) (E : Ev) : List Nat -> Bool
 | [] => true
 | k :: r => match subN nl (namesV (look E k)) with | true => subE nl E r | false => false
theorem subE_spec {nl : List Nat} {E : Ev} : ∀ {ks : List Nat}, subE nl E ks = true -> ∀ k ∈ ks, ∀ n ∈ namesV (look E k), n ∈ nl
 | [], _, k, h => by cases h
 | x :: r, hs, k, h => by
   simp only [subE] at hs
   split at hs
   ·rename_i hx
    rcases List.mem_cons.1 h with rfl | h
    ·exact subN_spec hx
    ·exact subE_spec hs k h
   ·cases hs
def subH (nl : List Nat) (H : Hp AV) : List Nat -> Bool
 | [] => true
 | m :: r => match (match hget H m with | some c => subN nl (namesL c.cellsOf) | none => true) with | true => subH nl H r | false => false
theorem subH_spec {nl : List Nat} {H : Hp AV} : ∀ {l : List Nat}, subH nl H l = true -> ∀ m ∈ l, ∀ c, hget H m = some c -> ∀ n ∈ namesL c.cellsOf, n ∈ nl
 | [], _, m, h => by cases h
 | x :: r, hs, m, h => by
   simp only [subH] at hs
   split at hs
   ·rename_i hx
    rcases List.mem_cons.1 h with rfl | h
    ·intro c hc
     rw [hc] at hx
     exact subN_spec hx
    ·exact subH_spec hs m h
   ·cases hs
def fixN : Nat -> Nat -> List Nat -> Bool
 | 0, _, _ => true
 | L + 1, i, x :: r => match Nat.beq x i with | true => fixN L (i + 1) r | false => false
 | _ + 1, _, [] => false
theorem fixN_spec : ∀ {L i : Nat} {nl : List Nat}, fixN L i nl = true -> L <= nl.length /\ ∀ n, n < L -> nl[n]? = some (i + n)
 | 0, _, _, _ => ⟨Nat.zero_le _, fun n h => by omega⟩
 | L + 1, i, [], h => by simp [fixN] at h
 | L + 1, i, x :: r, h => by
   simp only [fixN] at h
   split at h
   ·rename_i hx
    have hx := (beq_iff _ _).1 hx
    obtain ⟨h1, h2⟩ := fixN_spec h
    refine ⟨by simp; omega, fun n hn => ?_⟩
    cases n with
    | zero => simp [hx]
    | succ n =>
      rw [List.getElem?_cons_succ, h2 n (by omega)]
      congr 1
      omega
   ·cases h
def nodupL : List Nat -> Bool
 | [] => true
 | x :: r => match hasN r x with | true => false | false => nodupL r
theorem nodupL_spec : ∀ {l : List Nat}, nodupL l = true -> l.Nodup
 | [], _ => List.nodup_nil
 | x :: r, h => by
   simp only [nodupL] at h
   split at h
   ·cases h
   ·rename_i hx
    exact List.nodup_cons.2 ⟨(fun e => by rw [(hasN_iff _ _).2 e] at hx; cases hx), nodupL_spec h⟩
def foldB (L : Nat) (ks nl : List Nat) (s : St AV) : Bool :=
 match nodupL nl, fixN L 0 nl, subE nl s.E ks, subH nl s.H nl with | true, true, true, true => true | _, _, _, _ => false
theorem cell_ren_id {π σ : Nat -> Nat} {c : Chunk AV} (h : ∀ n ∈ namesL c.cellsOf, π (σ n) = n) : (c.ren σ).ren π = c := by
 have hl : ∀ l : List Cell, (∀ n ∈ namesL l, π (σ n) = n) -> (l.map (Cell.ren σ)).map (Cell.ren π) = l := fun l hl => by
  have := v1_ren_id (π := π) (σ := σ) (x := .agg l) hl
  simpa [V1.ren] using this
 cases c with
 | cells l ty => simp only [Chunk.ren]; rw [hl l h]
 | vec l es ty => simp only [Chunk.ren]; rw [hl l h]
 | dead => rfl
 | abs a => rfl
theorem refold_back {L nt : Nat} {ks nl : List Nat} {s : St AV} (h : foldB L ks nl s = true) (hG : N.G <= L) (hcl : Closed N (refold nl ks nt s)) :
 Back N L nt s (refold nl ks nt s) (nameOf nl) := by
 unfold foldB at h
 split at h
 ·rename_i h1 h2 h3 h4
  have h1 := nodupL_spec h1
  obtain ⟨h2, h2'⟩ := fixN_spec h2
  have h3 := subE_spec h3
  have h4 := subH_spec h4
  have hgt : ∀ n c, hget (refold nl ks nt s).H n = some c -> ∃ m d, nl[n]? = some m /\ hget s.H m = some d /\ c = d.ren (idxIn nl) := by
   intro n c hc
   rw [refold, hget_mapL] at hc
   split at hc
   ·rename_i m hm
    split at hc
    ·rename_i d hd
     cases hc
     exact ⟨m, d, hm, hd, rfl⟩
    ·cases hc
   ·cases hc
  have hnm : ∀ n m, nl[n]? = some m -> nameOf nl n = m := fun n m hm => by unfold nameOf; rw [nth_eq, hm]
  refine ⟨fun k hk hne => ?_, fun k hk => ?_, fun n c hc => ?_, fun n m c d hc hd he => ?_, fun n hn => ?_, fun n c hn hc => ?_, ?_, hG, hcl⟩
  ·have e : look (refold nl ks nt s).E k = match hasN ks k with | true => (look s.E k).ren (idxIn nl) | false => .unk := by
    rw [refold, only_look, if_pos hk, look_map (fun v => v.ren (idxIn nl)) rfl]
    cases hasN ks k <;> rfl
   cases hh : hasN ks k with
   | false => rw [e, hh] at hne; exact absurd rfl hne
   | true =>
     rw [e, hh]
     exact (sv_ren_id fun n hn => nameOf_idx (h3 k ((hasN_iff _ _).1 hh) n hn)).symm
  ·rw [refold, only_look, if_neg (by omega)]
  ·obtain ⟨m, d, g1, g2, rfl⟩ := hgt n c hc
   rw [hnm n m g1, cell_ren_id fun x hx => nameOf_idx (h4 m (List.mem_of_getElem? g1) d g2 x hx)]
   exact ⟨d, g2, Lesser.refl d⟩
  ·obtain ⟨x, _, g1, _, _⟩ := hgt n c hc
   obtain ⟨y, _, g2, _, _⟩ := hgt m d hd
   rw [hnm n x g1, hnm m y g2] at he
   subst he
   obtain ⟨b1, e1⟩ := List.getElem?_eq_some_iff.1 g1
   exact (List.getElem?_inj b1 h1).1 (g1.trans g2.symm)
  ·rw [hnm n n (by rw [h2' n hn]; simp)]
  ·refine ⟨c.ren (idxIn nl), ?_⟩
   rw [refold, hget_mapL, h2' n hn]
   simp [hc]
  ·show L <= (nl.map _).length
   rw [List.length_map]; exact h2
 ·cases h
theorem Back.less {L nt : Nat} {s t u : St AV} {π : Nat -> Nat} (h : Back N L nt s t π) (hE : u.E = t.E) (hlen : u.H.length = t.H.length) (hH : ∀ n, (hget t.H n = none /\ hget u.H n = none) \/ ∃ d c, hget t.H n = some d /\ hget u.H n = some c /\ Lesser N (d.ren π) (c.ren π)) (hcl : Closed N u) : Back N L nt s u π := by
 have get : ∀ n c, hget u.H n = some c -> ∃ d, hget t.H n = some d /\ Lesser N (d.ren π) (c.ren π) := fun n c hc => by
  rcases hH n with ⟨_, h2⟩ | ⟨d, c', h1, h2, h3⟩
  ·rw [h2] at hc; cases hc
  ·rw [h2] at hc; cases hc; exact ⟨d, h1, h3⟩
 refine ⟨fun k hk hne => ?_, fun k hk => by rw [hE]; exact h.Eo k hk, fun n c hc => ?_, fun n m c d hc hd he => ?_, h.fix, fun n c hn hc => ?_, by rw [hlen]; exact h.len, h.G, hcl⟩
 ·rw [hE] at hne ⊢; exact h.E k hk hne
 ·obtain ⟨d, g1, g2⟩ := get n c hc
  obtain ⟨e, g3, g4⟩ := h.H n d g1
  exact ⟨e, g3, fun ρ m w => ⟨fun hq => (g2 ρ m w).1 ((g4 ρ m w).1 hq), fun k => ((g2 ρ m w).2 k).trans ((g4 ρ m w).2 k)⟩⟩
 ·obtain ⟨x, g1, _⟩ := get n c hc
  obtain ⟨y, g2, _⟩ := get m d hd
  exact h.inj n m x y g1 g2 he
 ·obtain ⟨c', hc'⟩ := h.keep n c hn hc
  rcases hH n with ⟨h1, _⟩ | ⟨d, c2, h1, h2, _⟩
  ·rw [h1] at hc'; cases hc'
  ·exact ⟨c2, h2⟩
end Go.Sx

namespace Go.Sx
set_option linter.unusedVariables false
variable {AV : Type} {P : Program} {N : Env AV}
def iter {M : Type} (step : M -> T (Ex × M)) : Nat -> M -> Option (Ex × M)
 | 0, _ => none
 | k + 1, m => match (step m).val with
   | some (.normal, m') => iter step k m'
   | some (.exit i, m') => some (.exit i, m')
   | some (.ret, m') => some (.ret, m')
   | none => none
theorem iter_last {M : Type} {step : M -> T (Ex × M)} {ex : Ex} {m' : M} : ∀ {k : Nat} {m : M}, iter step k m = some (ex, m') -> ∃ m1, (step m1).val = some (ex, m')
 | 0, m, h => by cases h
 | k + 1, m, h => by
   simp only [iter] at h
   split at h
   ·exact iter_last h
   ·rename_i hs; cases h; exact ⟨m, hs⟩
   ·rename_i hs; cases h; exact ⟨m, hs⟩
   ·cases h
def seqN : Nat -> Nat -> List Nat
 | _, 0 => []
 | i, n + 1 => i :: seqN (i + 1) n
def namesE (E : Ev) : List Nat -> List Nat
 | [] => []
 | k :: r => namesV (look E k) ++ namesE E r
def namesAt (H : Hp AV) : List Nat -> List Nat
 | [] => []
 | n :: r => (match hget H n with | some c => namesL c.cellsOf | none => []) ++ namesAt H r
def canonN (L : Nat) (ks : List Nat) (s : St AV) : List Nat :=
 match uniq (seqN 0 L) (namesE s.E ks) with
 | a => match uniq a (namesAt s.H a) with
   | b => uniq b (namesAt s.H b)
def packC (pk : Chunk AV -> Option AV) : Option (Chunk AV) -> Option (Chunk AV)
 | none => none
 | some c => match pk c with | some a => some (.abs a) | none => some c
def packS (pk : Chunk AV -> Option AV) (s : St AV) : St AV := { E := s.E, H := s.H.map (packC pk) }
def clKs (H : Hp AV) (E : Ev) : List Nat -> Bool
 | [] => true
 | k :: r => match clV H (look E k) with | true => clKs H E r | false => false
theorem clKs_spec {H : Hp AV} {E : Ev} : ∀ {ks : List Nat}, clKs H E ks = true -> ∀ k ∈ ks, ClV H (look E k)
 | [], _, k, h => by cases h
 | x :: r, hs, k, h => by
   simp only [clKs] at hs
   split at hs
   ·rename_i hx
    rcases List.mem_cons.1 h with rfl | h
    ·exact clV_iff.1 hx
    ·exact clKs_spec hs k h
   ·cases hs
def backS (L nt : Nat) (ks : List Nat) (pk : Chunk AV -> Option AV) (r : Ex × St AV) : T (Ex × St AV) :=
 match canonN L ks r.2 with
 | nl => match foldB L ks nl r.2 with
   | false => .fail "back: names"
   | true => match refold nl ks nt r.2 with
     | s => match packS pk s with
       | t => match clKs s.H s.E ks, clHs s.H s.H, clKs t.H t.E ks, clHs t.H t.H with
         | true, true, true, true => .leaf (r.1, t)
         | _, _, _, _ => .fail "back: closed"
theorem closed_only {nt : Nat} {ks : List Nat} {E : Ev} {H : Hp AV} (h1 : clKs H (only ks E nt) ks = true) (h2 : clHs H H = true) : Closed N { E := only ks E nt, H := H } := by
 refine ⟨fun k => ?_, clHs_iff.1 h2⟩
 by_cases hk : k < nt
 ·cases hh : hasN ks k with
  | true => exact clKs_spec h1 k ((hasN_iff _ _).1 hh)
  | false =>
    simp only [only_look, if_pos hk, hh]
    trivial
 ·simp only [only_look, if_neg hk]
  exact undef_cl _
theorem packC_ren {pk : Chunk AV -> Option AV} (hpk : ∀ d a, pk d = some a -> ∀ π, Lesser N (d.ren π) (.abs a)) (π : Nat -> Nat) (d : Chunk AV) : ∃ c, packC pk (some d) = some c /\ Lesser N (d.ren π) (c.ren π) := by
 simp only [packC]
 split
 ·rename_i a ha; exact ⟨_, rfl, hpk d a ha π⟩
 ·exact ⟨d, rfl, Lesser.refl _⟩
theorem hget_mapF (f : Option (Chunk AV) -> Option (Chunk AV)) (h0 : f none = none) : ∀ (H : Hp AV) (n : Nat), hget (H.map f) n = f (hget H n)
 | [], n => by cases n <;> simp [hget, h0]
 | x :: r, 0 => rfl
 | x :: r, n + 1 => by simp only [List.map_cons, hget]; exact hget_mapF f h0 r n
theorem backS_ok {L nt : Nat} {ks : List Nat} {pk : Chunk AV -> Option AV} (hpk : ∀ d a, pk d = some a -> ∀ π, Lesser N (d.ren π) (.abs a)) (hG : N.G <= L) {r r' : Ex × St AV} (h : (backS L nt ks pk r).val = some r') : r'.1 = r.1 /\ ∃ π, Back N L nt r.2 r'.2 π := by
 unfold backS at h
 simp only at h
 split at h
 ·simp [T.val] at h
 ·rename_i hf
  split at h
  ·rename_i h1 h2 h3 h4
   simp only [T.val, Option.some.injEq] at h
   subst h
   refine ⟨rfl, _, (refold_back hf hG (closed_only h1 h2)).less rfl (by simp [packS]) (fun n => ?_) (closed_only h3 h4)⟩
   show _ \/ ∃ d c, _ /\ hget ((refold _ ks nt r.2).H.map (packC pk)) n = some c /\ _
   rw [hget_mapF _ rfl]
   cases hd : hget (refold (canonN L ks r.2) ks nt r.2).H n with
   | none => exact .inl ⟨rfl, by show hget ((refold _ ks nt r.2).H.map (packC pk)) n = none; rw [hget_mapF _ rfl, hd]; rfl⟩
   | some d =>
     obtain ⟨c, g1, g2⟩ := packC_ren hpk (nameOf (canonN L ks r.2)) d
     exact .inr ⟨d, c, rfl, g1, g2⟩
  ·simp [T.val] at h
def Enter (N : Env AV) (nt : Nat) (s t : St AV) : Prop := Closed N s -> Closed N t /\ s.H.length <= t.H.length /\ ∀ (ρ : Nm) (a : Act) (w : World), At N nt ρ s a w -> ∃ ρ', At N nt ρ' t a w /\ Evo N s.H.length ρ s.H w ρ' t.H w
theorem Enter.trans {nt : Nat} {s t u : St AV} (h1 : Enter N nt s t) (h2 : Enter N nt t u) : Enter N nt s u := fun h => by
 obtain ⟨c1, l1, k1⟩ := h1 h
 obtain ⟨c2, l2, k2⟩ := h2 c1
 exact ⟨c2, Nat.le_trans l1 l2, fun ρ a w hat => by
  obtain ⟨ρ1, a1, e1⟩ := k1 ρ a w hat
  obtain ⟨ρ2, a2, e2⟩ := k2 ρ1 a w a1
  exact ⟨ρ2, a2, e1.trans (e2.weaken l1)⟩⟩
theorem enter_grow {nt : Nat} {s t : St AV} {l : List AV} (hH : t.H = s.H ++ absL l) (hl : ∀ a ∈ l, ∃ es ty, N.F.arr a = some (es, ty, [])) (hG : N.G <= s.H.length)
 (hE : ∀ k, k < nt -> look t.E k = .unk \/ look t.E k = look s.E k \/ (look s.E k ≠ .unk /\ Plain (look t.E k) /\ ∀ ρ, (look t.E k).den ρ = (look s.E k).den ρ) \/ (look s.E k = .v (.c .snil) /\ ∃ j es, j < l.length /\ look t.E k = .v (.c (.vs (s.H.length + j) 0 0 es false))))
 (hEo : ∀ k, nt <= k -> look t.E k = undefV) : Enter N nt s t := fun hc => by
 have hget0 : ∀ n, hget t.H n = if n < s.H.length then hget s.H n else hget (absL l) (n - s.H.length) := fun n => by rw [hH, hget_append]
 have pers : ∀ n c, hget s.H n = some c -> hget t.H n = some c := fun n c h => by rw [hget0, if_pos (hget_lt h)]; exact h
 refine ⟨⟨fun k => ?_, fun n x hx => ?_⟩, by rw [hH]; simp, fun ρ a w hat => ?_⟩
 ·rcases Nat.lt_or_ge k nt with hk | hk
  ·rcases hE k hk with e | e | ⟨_, e, _⟩ | ⟨_, j, es, hj, e⟩
   ·rw [e]; trivial
   ·rw [e]; exact (hc.E k).mono fun n c h => ⟨c, pers n c h⟩
   ·exact e.cl _
   ·rw [e]
    intro c hcc m hm
    simp [V1.cells] at hcc
    subst hcc
    simp only [Cell.name, Option.some.injEq] at hm
    subst hm
    refine ⟨.abs l[j], ?_⟩
    rw [hget0, if_neg (by omega), Nat.add_sub_cancel_left]
    exact (absL_get _ _ _).2 ⟨_, List.getElem?_eq_getElem hj, rfl⟩
  ·rw [hEo k hk]; exact undef_cl _
 ·rw [hget0] at hx
  split at hx
  ·exact (hc.H n x hx).mono fun n c h => ⟨c, pers n c h⟩
  ·obtain ⟨a, _, rfl⟩ := (absL_get _ _ _).1 hx
   intro c hc; cases hc
 ·let ρ' : Nm := ⟨fun n => if n < s.H.length then ρ.L n else ⟨0, 0, 0⟩, fun n => if n < s.H.length then ρ.S n else fun _ => False⟩
  have eL : ∀ n, n < s.H.length -> ρ'.L n = ρ.L n := fun n hn => if_pos hn
  have eS : ∀ n, n < s.H.length -> ρ'.S n = ρ.S n := fun n hn => if_pos hn
  have eL0 : ∀ n, ¬ n < s.H.length -> ρ'.L n = ⟨0, 0, 0⟩ := fun n hn => if_neg hn
  have eS0 : ∀ n, ¬ n < s.H.length -> ρ'.S n = fun _ => False := fun n hn => if_neg hn
  have agr : ∀ n c, hget s.H n = some c -> ρ'.L n = ρ.L n := fun n c h => eL n (hget_lt h)
  have fp0 : ∀ n c k, hget t.H n = some c -> c.fp ρ' n k -> n < s.H.length /\ hget s.H n = some c /\ c.fp ρ n k := fun n c k hc hk => by
   rw [hget0] at hc
   split at hc
   ·rename_i hn
    rw [fp_congr (eL n hn) (eS n hn)] at hk
    exact ⟨hn, hc, hk⟩
   ·rename_i hn
    obtain ⟨a, _, rfl⟩ := (absL_get _ _ _).1 hc
    have hk : ρ'.S n k := hk
    rw [eS0 n hn] at hk
    exact hk.elim
  have own : Own N ρ' t.H w := by
   refine hat.own.sub ⟨fun n c hcn => ?_, fun n m c d hnm hc hd k hk hk' => ?_, fun g hg => ?_⟩ fun n c k hc hk => ?_
   ·rw [hget0] at hcn
    split at hcn
    ·rename_i hn
     exact q_keep (hat.own.q n c hcn) (eL n hn) (eS n hn) (denL_congr (hc.H n c hcn) fun x y hy => agr x y hy) (fun _ _ => rfl)
    ·rename_i hn
     obtain ⟨a, ha, rfl⟩ := (absL_get _ _ _).1 hcn
     obtain ⟨es, ty, harr⟩ := hl a (List.mem_of_getElem? ha)
     show N.F.q a _ _ _
     rw [eL0 n hn, eS0 n hn]
     exact ((N.F.arr_q a _ _ _ harr).2 _ _ _).2 (.inl ⟨Nat.zero_le _, rfl, fun k h => h⟩)
   ·obtain ⟨h1, h2, h3⟩ := fp0 n c k hc hk
    obtain ⟨g1, g2, g3⟩ := fp0 m d k hd hk'
    exact hat.own.dis n m c d hnm h2 g2 k h3 g3
   ·show (ρ'.L g).b = g
    rw [eL g (by omega)]
    exact hat.own.glb g hg
   ·obtain ⟨h1, h2, h3⟩ := fp0 n c k hc hk
    exact ⟨n, c, h2, h3⟩
  refine ⟨ρ', ⟨⟨hat.em.size, fun k hk => ?_⟩, own⟩, ⟨fun n c h => ⟨c, pers n c h⟩, fun n c h => agr n c h, fun n hn h => ?_, by rw [hH]; simp, fun _ _ _ => rfl, fun n c k hc hk => ?_, rfl, rfl, rfl, Nat.le_refl _⟩⟩
  ·rcases Nat.lt_or_ge k nt with hlt | hge
   ·rcases hE k hlt with e | e | ⟨e1, e2, e3⟩ | ⟨e1, j, es, hj, e2⟩
    ·exact absurd e hk
    ·rw [e] at hk ⊢
     rw [hat.em.get k hk]
     exact (SV.den_congr (hc.E k) agr).symm
    ·rw [e3, hat.em.get k e1]
     exact (SV.den_congr (hc.E k) agr).symm
    ·rw [e2, hat.em.get k (by rw [e1]; exact fun h => by cases h), e1]
     show _ = vsDen (ρ'.L (s.H.length + j)) 0 0 es
     rw [eL0 _ (by omega)]
     rfl
   ·rw [hEo k hge]
    have : ¬ k < a.tmps.size := by rw [hat.em.size]; omega
    simp [Array.getD, this, undefV, SV.den, undef]
  ·rw [hget0, if_pos hn]; exact h
  ·obtain ⟨h1, h2, h3⟩ := fp0 n c k hc hk
   exact .inr ⟨n, c, h2, h3⟩
structure ItAt (N : Env AV) (cal : Callee AV) (lp : Nat -> Option (St AV -> T (Ex × St AV))) (nt : Nat) (c : Code) (s s' : St AV) (ex : Ex) where
 M : Type
 fam : M -> St AV
 step : M -> T (Ex × M)
 ks : List Nat
 pk : Chunk AV -> Option AV
 hpk : ∀ d a, pk d = some a -> ∀ π, Lesser N (d.ren π) (.abs a)
 L : Nat
 len : s.H.length = L
 hGL : N.G <= L
 run : ∀ m r, (step m).val = some r -> ((xc N cal lp nt c (fam m)).bind (backS L nt ks pk)).val = some (r.1, fam r.2)
 m : M
 k : Nat
 m' : M
 ent : Enter N nt s (fam m)
 it : iter step k m = some (ex, m')
 fin : s' = fam m'
theorem loopOk_it {N N' : Env AV} (hF : N'.F = N.F) (hG : N'.G = N.G) (hT : TblOk P N) {cal : Callee AV} (hcal : CalOk P N cal) {lp : Nat -> Option (St AV -> T (Ex × St AV))} {nt : Nat} {c : Code} (hlp : LpOk P N nt c lp)
 {g : St AV -> T (Ex × St AV)} (h : ∀ s s' ex, (g s).val = some (ex, s') -> Nonempty (ItAt N cal lp nt c s s' ex)) : LoopOk P N' nt c g := by
 intro L0 s s' ex hg hcl hL
 obtain ⟨M, fam, step, ks, pk, hpk, L, rfl, hGL, hrun, m, k, m', hent, hit, rfl⟩ := h s s' ex hg
 have one : ∀ m r, (step m).val = some r -> ∃ s1, (xc N cal lp nt c (fam m)).val = some (r.1, s1) /\ ∃ π, Back N s.H.length nt s1 (fam r.2) π := fun m r hr => by
  obtain ⟨⟨e1, s1⟩, h1, h2⟩ := T.bind_some (hrun m r hr)
  obtain ⟨h3, π, h4⟩ := backS_ok hpk hGL h2
  simp only at h3 h4
  exact ⟨s1, by rw [h3]; exact h1, π, h4⟩
 have hclN : Closed N s := closed_env N hcl
 obtain ⟨m1, hm1⟩ := iter_last hit
 obtain ⟨s1, _, _, hb1⟩ := one m1 _ hm1
 simp only at hb1
 refine ⟨closed_env N' hb1.cl, Nat.le_trans hL hb1.len, fun {ρ a w} hat => ?_⟩
 have hatN : At N nt ρ s a w := ⟨hat.em, own_env hF.symm hG.symm hat.own⟩
 obtain ⟨hent1, hent2, hent3⟩ := hent hclN
 obtain ⟨ρ1, hat1, hev1⟩ := hent3 ρ a w hatN
 refine wp_loop_rounds (k + 1) (loop_ren hT hcal hlp (ι := { p : Nat × M // iter step p.1 p.2 = some (ex, m') }) (fun p => fam p.1.2) (fun p => p.1.1) (fun e s1 => e = ex /\ ∃ π, Back N s.H.length nt s1 (fam m') π) s.H.length (fun i => ?_) (ρ0 := ρ) (H0 := s.H) (w0 := w) rfl (k + 1) ⟨(k, m), hit⟩ (by simp) hent1 hent2 ρ1 a w hat1 hev1 _ ?_)
 ·obtain ⟨⟨j, n⟩, hi⟩ := i
  cases j with
  | zero => cases hi
  | succ j =>
    simp only [iter] at hi
    split at hi
    ·rename_i m2 hs
     obtain ⟨s2, g1, π, g2⟩ := one n _ hs
     exact ⟨.normal, s2, g1, ⟨(j, m2), hi⟩, π, by simp, g2⟩
    ·rename_i id m2 hs
     cases hi
     obtain ⟨s2, g1, π, g2⟩ := one n _ hs
     exact ⟨.exit id, s2, g1, rfl, π, g2⟩
    ·rename_i m2 hs
     cases hi
     obtain ⟨s2, g1, π, g2⟩ := one n _ hs
     exact ⟨.ret, s2, g1, rfl, π, g2⟩
    ·cases hi
 ·rintro ex1 s2 ρ2 a' w' ⟨rfl, π, hb⟩ _ _ hat2 hev2 d2
  have h3 := hb.at hat2
  exact ⟨rfl, ⟨ρ2.ren π, h3.em, own_env hF hG h3.own, evo_env N' ((hb.evo rfl hev2).weaken hL)⟩, d2⟩
end Go.Sx

namespace Go.Sx
set_option linter.unusedVariables false
variable {AV : Type} {P : Program} {N : Env AV}
def chAll (H : Hp AV) : List Nat -> Option (List (Chunk AV))
 | [] => some []
 | n :: r => match hget H n with
   | some c => match chAll H r with | some l => some (c :: l) | none => none
   | none => none
theorem chAll_spec {H : Hp AV} : ∀ {ns : List Nat} {l : List (Chunk AV)}, chAll H ns = some l -> l.length = ns.length /\ ∀ (i n : Nat), ns[i]? = some n -> ∃ c, l[i]? = some c /\ hget H n = some c
 | [], l, h => by simp only [chAll, Option.some.injEq] at h; subst h; exact ⟨rfl, fun i n h => by simp at h⟩
 | n :: r, l, h => by
   simp only [chAll] at h
   split at h
   ·rename_i c hc
    split at h
    ·rename_i l' hl
     cases h
     obtain ⟨h1, h2⟩ := chAll_spec hl
     refine ⟨congrArg (· + 1) h1, fun i m hm => ?_⟩
     cases i with
     | zero => cases hm; exact ⟨c, rfl, hc⟩
     | succ i => exact h2 i m hm
    ·cases h
   ·cases h
def chL (l : List (Chunk AV)) : Hp AV := l.map some
theorem chL_get (l : List (Chunk AV)) (n : Nat) (c : Chunk AV) : hget (chL l) n = some c ↔ l[n]? = some c := by
 induction l generalizing n with
 | nil => cases n <;> simp [chL, hget]
 | cons a r ih =>
   cases n with
   | zero => simp [chL, hget]
   | succ n => exact ih n
def putC : List Nat -> List (Chunk AV) -> Hp AV -> Hp AV
 | n :: r, c :: l, H => putC r l (lset H n (some c))
 | _, _, H => H
theorem putC_len : ∀ (ns : List Nat) (l : List (Chunk AV)) (H : Hp AV), (putC ns l H).length = H.length
 | [], l, H => by cases l <;> rfl
 | n :: r, [], H => rfl
 | n :: r, a :: l, H => by
   show (putC r l (lset H n (some a))).length = _
   rw [putC_len r l, length_lset]
theorem putC_out : ∀ (ns : List Nat) (l : List (Chunk AV)) (H : Hp AV) (m : Nat), m ∉ ns -> hget (putC ns l H) m = hget H m
 | [], l, H, m, h => by cases l <;> rfl
 | n :: r, [], H, m, h => rfl
 | n :: r, a :: l, H, m, h => by
   show hget (putC r l (lset H n (some a))) m = _
   rw [putC_out r l _ m (fun e => h (List.mem_cons_of_mem _ e)), hget_lset_ne _ (fun e => h (by rw [e]; exact List.mem_cons_self))]
theorem putC_in : ∀ (ns : List Nat) (l : List (Chunk AV)) (H : Hp AV), ns.Nodup -> (∀ n ∈ ns, n < H.length) -> ∀ (i n : Nat) (a : Chunk AV), ns[i]? = some n -> l[i]? = some a -> hget (putC ns l H) n = some a
 | [], l, H, h, hl, i, n, a, h1, h2 => by simp at h1
 | n :: r, [], H, h, hl, i, m, a, h1, h2 => by simp at h2
 | n :: r, b :: l, H, h, hl, i, m, a, h1, h2 => by
   show hget (putC r l (lset H n (some b))) m = _
   obtain ⟨hn, hr⟩ := List.nodup_cons.1 h
   cases i with
   | zero =>
     simp only [List.getElem?_cons_zero, Option.some.injEq] at h1 h2
     subst h1 h2
     rw [putC_out r l _ _ hn, hget_lset_self _ (hl _ List.mem_cons_self)]
   | succ i =>
     simp only [List.getElem?_cons_succ] at h1 h2
     exact putC_in r l _ hr (fun x hx => by rw [length_lset]; exact hl x (List.mem_cons_of_mem _ hx)) i m a h1 h2
def ordN (H : Hp AV) (l : List Nat) : List Nat := match uniq [] l with
 | a => match uniq a (namesAt H a) with
   | b => uniq b (namesAt H b)
theorem ordN_spec (H : Hp AV) (l : List Nat) : (ordN H l).Nodup /\ ∀ n ∈ l, n ∈ ordN H l := by
 unfold ordN
 simp only
 obtain ⟨a1, a2⟩ := uniq_spec l [] List.nodup_nil
 obtain ⟨b1, b2⟩ := uniq_spec (namesAt H (uniq [] l)) _ a1
 obtain ⟨c1, c2⟩ := uniq_spec (namesAt H (uniq (uniq [] l) (namesAt H (uniq [] l)))) _ b1
 exact ⟨c1, fun n hn => (c2 n).2 (.inl ((b2 n).2 (.inl ((a2 n).2 (.inr hn)))))⟩
def sumC (isS : AV -> Nat -> Bool) (M : List Bool) (tree : List SV -> List (Chunk AV) -> T (SV × List (Chunk AV) × List (Chunk AV))) (args : List SV) (H : Hp AV) : T (SV × Hp AV) :=
 match globsB isS 0 M H with
 | false => .fail "summary: variables"
 | true => match ordN H (namesVs args) with
   | ns => match chAll H ns, allGe M.length ns, subH ns H ns with
     | some l, true, true => (tree (args.map (SV.ren fun n => M.length + idxN ns n)) (l.map (Chunk.ren fun n => M.length + idxN ns n))).bind fun r => match Nat.beq r.2.1.length l.length with
       | true => .leaf (r.1.ren (outN M.length ns H.length), putC ns (r.2.1.map (Chunk.ren (outN M.length ns H.length))) H ++ chL (r.2.2.map (Chunk.ren (outN M.length ns H.length))))
       | false => .fail "summary: things"
     | _, _, _ => .fail "summary: things"
theorem sumC_ok {isS : AV -> Nat -> Bool} {sn : Nat -> AV} (hs : ∀ a i, isS a i = true -> a = sn i) {M : List Bool} (hG : N.G = M.length) {tree : List SV -> List (Chunk AV) -> T (SV × List (Chunk AV) × List (Chunk AV))} {f : FuncId}
 (h : ∀ args l v l' nw, (tree args l).val = some (v, l', nw) -> l'.length = l.length -> (∀ x ∈ args, ClV (sentL sn 0 M ++ chL l) x) -> ClHp N (sentL sn 0 M ++ chL l) -> Ctr P N f args (sentL sn 0 M ++ chL l) v (sentL sn 0 M ++ chL (l' ++ nw))) : FnOk P N f (sumC isS M tree) := by
 refine FnOk.of fun args H v H' hr ha hC => ?_
 unfold sumC at hr
 split at hr
 ·simp [T.val] at hr
 rename_i hgl
 obtain ⟨hML, hgl⟩ := globsB_spec hs hgl
 dsimp only at hr
 obtain ⟨hnd, hmem⟩ := ordN_spec H (namesVs args)
 generalize ordN H (namesVs args) = ns at hr hnd hmem
 split at hr
 ·rename_i l0 hl hge hsub
  obtain ⟨⟨v1, l', nw⟩, ht, hr⟩ := T.bind_some hr
  have hsub := subH_spec hsub
  split at hr
  ·rename_i hlen
   have hlen0 : l'.length = l0.length := (beq_iff _ _).1 hlen
   simp only [T.val, Option.some.injEq, Prod.mk.injEq] at hr
   obtain ⟨rfl, rfl⟩ := hr
   obtain ⟨al1, al2⟩ := chAll_spec hl
   have hge := allGe_spec hge
   have hnlt : ∀ n ∈ ns, n < H.length := fun n hn => by
    obtain ⟨i, hi⟩ := List.mem_iff_getElem?.1 hn
    obtain ⟨a, _, h2⟩ := al2 i n hi
    exact hget_lt h2
   let G := M.length
   let π := outN G ns H.length
   let l := l0.map (Chunk.ren fun n => G + idxN ns n)
   have hlen : l'.length = l.length := by show _ = (l0.map _).length; rw [List.length_map]; exact hlen0
   have lget : ∀ (j : Nat) (c : Chunk AV), l[j]? = some c -> ∃ n, ns[j]? = some n /\ hget H n = some (c.ren π) := fun j c hj => by
    have hj : (l0.map (Chunk.ren fun n => G + idxN ns n))[j]? = some c := hj
    rw [List.getElem?_map, Option.map_eq_some_iff] at hj
    obtain ⟨d, hd, rfl⟩ := hj
    have hjl : j < ns.length := by rw [<- al1]; exact (List.getElem?_eq_some_iff.1 hd).1
    have h2 : ns[j]? = some ns[j] := List.getElem?_eq_getElem hjl
    obtain ⟨d', h3, h4⟩ := al2 j _ h2
    rw [hd] at h3
    cases h3
    exact ⟨_, h2, by rw [h4, cell_ren_id fun n hn => outN_in (idxN_get (hsub _ (List.getElem_mem hjl) d h4 n hn))]⟩
   have lat : ∀ n, n ∈ ns -> ∃ d, hget H n = some d /\ l[idxN ns n]? = some (d.ren fun n => G + idxN ns n) := fun n hn => by
    obtain ⟨d, h1, h2⟩ := al2 _ _ (idxN_get hn)
    exact ⟨d, h2, by show (l0.map _)[_]? = _; rw [List.getElem?_map, h1]; rfl⟩
   have back : ∀ x ∈ args, ((x.ren fun n => G + idxN ns n).ren π) = x := fun x hx => sv_ren_id fun n hn => by
    have : n ∈ ns := hmem n (mem_namesVs.2 ⟨x, hx, hn⟩)
    exact outN_in (idxN_get this)
   have eargs : args = (args.map (SV.ren fun n => G + idxN ns n)).map (SV.ren π) := by
    rw [List.map_map]
    conv => lhs; rw [<- List.map_id args]
    exact List.map_congr_left fun x hx => (back x hx).symm
   have lenS : (sentL sn 0 M).length = G := sentL_len sn M 0
   have getS : ∀ (q : List (Chunk AV)) i c, hget (sentL sn 0 M ++ chL q) i = some c ↔ (i < G /\ M[i]? = some true /\ c = .abs (sn i)) \/ ∃ j, i = G + j /\ q[j]? = some c := fun q i c => by
    rw [hget_append, lenS]
    by_cases hi : i < G
    ·rw [if_pos hi, sentL_get, Nat.zero_add]
     constructor
     ·rintro ⟨h1, h2⟩; exact .inl ⟨hi, h1, h2⟩
     ·rintro (⟨_, h1, h2⟩ | ⟨j, h1, _⟩)
      ·exact ⟨h1, h2⟩
      ·omega
    ·rw [if_neg hi, chL_get]
     constructor
     ·intro h1; exact .inr ⟨i - G, by omega, h1⟩
     ·rintro (⟨h1, _⟩ | ⟨j, rfl, h1⟩)
      ·exact absurd h1 hi
      ·rw [Nat.add_sub_cancel_left]; exact h1
   have small : ∀ n, n ∈ ns -> ∃ c, hget (sentL sn 0 M ++ chL l) (G + idxN ns n) = some c := fun n hn => by
    obtain ⟨d, _, h2⟩ := lat n hn
    exact ⟨_, (getS l _ _).2 (.inr ⟨_, rfl, h2⟩)⟩
   have hlist : ∀ cs : List Cell, (∀ n ∈ namesL cs, n ∈ ns) -> ClL (sentL sn 0 M ++ chL l) (cs.map (Cell.ren fun n => G + idxN ns n)) := fun cs hcs c hc n hn => by
    obtain ⟨d, hd, rfl⟩ := List.mem_map.1 hc
    rw [name_ren] at hn
    obtain ⟨m, hm, rfl⟩ := Option.map_eq_some_iff.1 hn
    exact small m (hcs m (mem_nmL.2 ⟨d, hd, hm⟩))
   have argcl : ∀ x ∈ args.map (SV.ren fun n => G + idxN ns n), ClV (sentL sn 0 M ++ chL l) x := fun y hy => by
    obtain ⟨x, hx, rfl⟩ := List.mem_map.1 hy
    have one : ∀ z : V1, (∀ n ∈ namesL z.cells, n ∈ ns) -> ClV1 (sentL sn 0 M ++ chL l) (z.ren fun n => G + idxN ns n) := fun z hz => by
     cases z with
     | c c =>
       have := hlist [c] hz
       simpa [ClV1, V1.cells, V1.ren] using this
     | agg cs => exact hlist cs hz
    have hx' : ∀ n ∈ namesV x, n ∈ ns := fun n hn => hmem n (mem_namesVs.2 ⟨x, hx, hn⟩)
    cases x with
    | v x => exact one x hx'
    | tup q =>
      intro z hz
      obtain ⟨z', hz', rfl⟩ := List.mem_map.1 hz
      exact one z' fun n hn => hx' n (mem_namesV1s.2 ⟨z', hz', hn⟩)
    | unk => trivial
    | clo f cs => exact one (.agg cs) hx'
   have heapcl : ClHp N (sentL sn 0 M ++ chL l) := by
    refine ⟨fun i c hi => ?_, trivial⟩
    rcases (getS l i c).1 hi with ⟨_, _, rfl⟩ | ⟨j, rfl, h1⟩
    ·intro c hc; cases hc
    ·have h1 : (l0.map (Chunk.ren fun n => G + idxN ns n))[j]? = some c := h1
     rw [List.getElem?_map, Option.map_eq_some_iff] at h1
     obtain ⟨d, hd, rfl⟩ := h1
     have hjl : j < ns.length := by rw [<- al1]; exact (List.getElem?_eq_some_iff.1 hd).1
     obtain ⟨d', h3, h4⟩ := al2 j _ (List.getElem?_eq_getElem hjl)
     rw [hd] at h3
     cases h3
     rw [cellsOf_ren]
     exact hlist _ fun n hn => hsub _ (List.getElem_mem hjl) d h4 n hn
   have hc := h _ l v1 l' nw ht hlen argcl heapcl
   rw [eargs]
   have πlt : ∀ i, i < G -> π i = i := fun i hi => outN_lt hi
   have lenP := putC_len ns (l'.map (Chunk.ren π)) H
   have mget : ∀ (q : List (Chunk AV)) (j : Nat) a, q[j]? = some a -> (q.map (Chunk.ren π))[j]? = some (a.ren π) := fun q j a hj => by rw [List.getElem?_map, hj]; rfl
   have lens : l.length = ns.length := by show (l0.map _).length = _; rw [List.length_map, al1]
   have stand : ∀ j a, (l' ++ nw)[j]? = some a -> (∃ n, ns[j]? = some n /\ π (G + j) = n /\ hget (putC ns (l'.map (Chunk.ren π)) H ++ chL (nw.map (Chunk.ren π))) n = some (a.ren π)) \/ (ns.length <= j /\ π (G + j) = H.length + (j - ns.length) /\ hget (putC ns (l'.map (Chunk.ren π)) H ++ chL (nw.map (Chunk.ren π))) (H.length + (j - ns.length)) = some (a.ren π)) := fun j a hj => by
    by_cases hjl : j < ns.length
    ·have h1 : ns[j]? = some ns[j] := List.getElem?_eq_getElem hjl
     rw [List.getElem?_append_left (by omega)] at hj
     refine .inl ⟨ns[j], h1, outN_in h1, ?_⟩
     rw [hget_append, lenP, if_pos (hnlt _ (List.getElem_mem hjl))]
     exact putC_in ns _ H hnd hnlt j _ _ h1 (mget _ _ _ hj)
    ·rw [List.getElem?_append_right (by omega)] at hj
     refine .inr ⟨by omega, ?_, ?_⟩
     ·have := outN_new (G := G) (ns := ns) (L := H.length) (j := j - ns.length)
      rw [show G + ns.length + (j - ns.length) = G + j by omega] at this
      exact this
     ·rw [hget_append, lenP, if_neg (by omega), Nat.add_sub_cancel_left]
      refine (chL_get _ _ _).2 (mget _ _ _ ?_)
      rw [hlen, lens] at hj
      exact hj
   have sren : ∀ i, (Chunk.abs (sn i) : Chunk AV) = (Chunk.abs (sn i)).ren π := fun i => rfl
   refine ctr_embed (π := π) hc (B' := putC ns (l'.map (Chunk.ren π)) H ++ chL (nw.map (Chunk.ren π))) ?_ ?_ ?_ ?_ hC ?_ ?_ ?_ ?_ ?_ ?_ ?_
   ·intro i c hi
    rcases (getS l i c).1 hi with ⟨h1, h2, rfl⟩ | ⟨j, rfl, h1⟩
    ·rw [πlt i h1]
     have := hgl i h2
     rw [Nat.zero_add] at this
     exact this
    ·obtain ⟨n, g1, g2⟩ := lget j c h1
     rw [show π (G + j) = n from outN_in g1]
     exact g2
   ·intro i j c d hi hj e
    rcases (getS _ i c).1 hi with ⟨h1, _, _⟩ | ⟨x, rfl, h1⟩ <;> rcases (getS _ j d).1 hj with ⟨g1, _, _⟩ | ⟨y, rfl, g1⟩
    ·rw [πlt i h1, πlt j g1] at e; exact e
    ·rw [πlt i h1] at e
     rcases stand y d g1 with ⟨n, s1, s2, _⟩ | ⟨s0, s1, _⟩
     ·rw [s2] at e
      have := hge n (List.mem_of_getElem? s1)
      omega
     ·rw [s1] at e; omega
    ·rw [πlt j g1] at e
     rcases stand x c h1 with ⟨n, s1, s2, _⟩ | ⟨s0, s1, _⟩
     ·rw [s2] at e
      have := hge n (List.mem_of_getElem? s1)
      omega
     ·rw [s1] at e; omega
    ·rcases stand x c h1 with ⟨n, s1, s2, _⟩ | ⟨s0, s1, _⟩ <;> rcases stand y d g1 with ⟨m, t1, t2, _⟩ | ⟨t0, t1, _⟩
     ·rw [s2, t2] at e
      subst e
      have := nodup_get hnd s1 t1
      omega
     ·rw [s2, t1] at e
      have := hnlt n (List.mem_of_getElem? s1)
      omega
     ·rw [s1, t2] at e
      have := hnlt m (List.mem_of_getElem? t1)
      omega
     ·rw [s1, t1] at e; omega
   ·intro i c hi
    rcases (getS l i c).1 hi with ⟨h1, h2, rfl⟩ | ⟨j, rfl, h1⟩
    ·exact ⟨_, (getS _ _ _).2 (.inl ⟨h1, h2, rfl⟩)⟩
    ·have hj : j < l'.length := by rw [hlen]; exact (List.getElem?_eq_some_iff.1 h1).1
     exact ⟨_, (getS _ _ _).2 (.inr ⟨j, rfl, by rw [List.getElem?_append_left hj]; exact List.getElem?_eq_getElem hj⟩)⟩
   ·intro g hg
    rw [hG] at hg
    exact πlt g hg
   ·intro i c hi hno
    rcases (getS _ i c).1 hi with ⟨h1, h2, rfl⟩ | ⟨j, rfl, h1⟩
    ·have := (getS l i _).2 (.inl ⟨h1, h2, rfl⟩)
     rw [hno] at this; cases this
    ·by_cases hj : j < l.length
     ·have := (getS l (G + j) _).2 (.inr ⟨j, rfl, List.getElem?_eq_getElem hj⟩)
      rw [hno] at this; cases this
     ·rcases stand j c h1 with ⟨n, s1, _, _⟩ | ⟨_, s1, _⟩
      ·have := (List.getElem?_eq_some_iff.1 s1).1
       omega
      ·rw [s1]; omega
   ·rw [hG]; exact hML
   ·intro m c hm
    rw [hget_append, lenP] at hm
    split at hm
    ·rename_i hml
     by_cases hmn : m ∈ ns
     ·obtain ⟨j, hj⟩ := List.mem_iff_getElem?.1 hmn
      have hj' : j < l'.length := by rw [hlen, lens]; exact (List.getElem?_eq_some_iff.1 hj).1
      have := putC_in ns _ H hnd hnlt j m _ hj (mget l' j _ (List.getElem?_eq_getElem hj'))
      rw [this] at hm
      cases hm
      exact .inl ⟨G + j, _, (outN_in hj).symm, (getS _ _ _).2 (.inr ⟨j, rfl, by rw [List.getElem?_append_left hj']; exact List.getElem?_eq_getElem hj'⟩), rfl⟩
     ·rw [putC_out ns _ H m hmn] at hm
      by_cases hmg : m < G /\ M[m]? = some true
      ·have := hgl m hmg.2
       rw [Nat.zero_add, hm] at this
       cases this
       exact .inl ⟨m, _, (πlt m hmg.1).symm, (getS _ _ _).2 (.inl ⟨hmg.1, hmg.2, rfl⟩), sren m⟩
      ·refine .inr ⟨hm, fun i d hi e => ?_⟩
       rcases (getS _ i d).1 hi with ⟨h1, h2, rfl⟩ | ⟨j, rfl, h1⟩
       ·rw [πlt i h1] at e
        subst e
        exact hmg ⟨h1, h2⟩
       ·rcases stand j d h1 with ⟨n, s1, s2, _⟩ | ⟨_, s1, _⟩
        ·rw [s2] at e
         subst e
         exact hmn (List.mem_of_getElem? s1)
        ·rw [s1] at e; omega
    ·rename_i hml
     have h1 := (chL_get _ _ _).1 hm
     rw [List.getElem?_map, Option.map_eq_some_iff] at h1
     obtain ⟨a, h1, rfl⟩ := h1
     refine .inl ⟨G + (ns.length + (m - H.length)), a, ?_, (getS _ _ _).2 (.inr ⟨_, rfl, by rw [List.getElem?_append_right (by omega), hlen, lens, Nat.add_sub_cancel_left]; exact h1⟩), rfl⟩
     have := outN_new (G := G) (ns := ns) (L := H.length) (j := m - H.length)
     rw [show G + (ns.length + (m - H.length)) = G + ns.length + (m - H.length) by omega]
     rw [show π (G + ns.length + (m - H.length)) = _ from this]
     omega
   ·intro i d hi
    rcases (getS _ i d).1 hi with ⟨h1, h2, rfl⟩ | ⟨j, rfl, h1⟩
    ·rw [πlt i h1, hget_append, lenP, if_pos (by omega), putC_out]
     ·have := hgl i h2
      rw [Nat.zero_add] at this
      exact this
     ·intro hmem
      have := hge i hmem
      omega
    ·rcases stand j d h1 with ⟨n, _, s2, s3⟩ | ⟨_, s2, s3⟩
     ·rw [s2]; exact s3
     ·rw [s2]; exact s3
   ·intro m c hm
    by_cases hmn : m ∈ ns
    ·obtain ⟨j, hj⟩ := List.mem_iff_getElem?.1 hmn
     have hj' : j < l'.length := by rw [hlen, lens]; exact (List.getElem?_eq_some_iff.1 hj).1
     exact ⟨_, by rw [hget_append, lenP, if_pos (hget_lt hm)]; exact putC_in ns _ H hnd hnlt j m _ hj (mget l' j _ (List.getElem?_eq_getElem hj'))⟩
    ·exact ⟨c, by rw [hget_append, lenP, if_pos (hget_lt hm), putC_out ns _ H m hmn]; exact hm⟩
   ·intro m hm hno
    rw [hget_append, lenP, if_pos hm, putC_out]
    ·exact hno
    ·intro hmn
     obtain ⟨j, hj⟩ := List.mem_iff_getElem?.1 hmn
     obtain ⟨a, _, h2⟩ := al2 j m hj
     rw [hno] at h2; cases h2
   ·rw [List.length_append, lenP]; omega
  ·simp [T.val] at hr
 ·simp [T.val] at hr
end Go.Sx

namespace Go.Proofs.YtpapbhbnaalhcaaDoor
open Go Go.Sx Go.Proofs
set_option linter.unusedVariables false
variable {σ : Sg} {lp : Lp}
theorem q_arr {a : AV} {es : Nat} {ty : TypeId} {vs : List Value} (h : a.arr = some (es, ty, vs)) (l : Sx.Loc) (S : Nat -> Prop) (w : World) : (NVl lp σ).F.q a l S w ↔ vecQ l S vs es ty w :=
 ((NVl lp σ).F.arr_q a es ty vs h).2 l S w
def pkK {α : Type} (K : AK α) (mk : List α -> AV) (l : List Cell) (es : Nat) (ty : TypeId) : Option AV := match Nat.beq ty K.ty, Nat.beq es K.es with
 | true, true => match K.decs (l.length / K.es) l with | some r => some (mk r) | none => none
 | _, _ => none
theorem pkK_ok {α : Type} {K : AK α} {mk : List α -> AV} (hq : ∀ rs l S w, (NVl lp σ).F.q (mk rs) l S w ↔ vecQ l S (K.vals rs) K.es K.ty w) {l : List Cell} {es : Nat} {ty : TypeId} {a : AV} (h : pkK K mk l es ty = some a) (π : Nat -> Nat) : Lesser (NVl lp σ) (.vec (l.map (Cell.ren π)) es ty) (.abs a) := by
 unfold pkK at h
 split at h
 ·rename_i h1 h2
  split at h
  ·rename_i rs hr
   cases h
   have h1 := (beq_iff _ _).1 h1
   have h2 := (beq_iff _ _).1 h2
   subst h1 h2
   obtain ⟨g1, g2⟩ := K.decs_ok hr
   have el : l.map (Cell.ren π) = l := by
    conv => rhs; rw [<- List.map_id l]
    exact List.map_congr_left fun c hc => ren_id c fun n hn => by rw [g2 c hc] at hn; cases hn
   rw [el]
   intro ρ n w
   refine ⟨fun hv => (hq _ _ _ _).2 ?_, fun k => Iff.rfl⟩
   have hv : vecQ (ρ.L n) (ρ.S n) (denL ρ l) K.es K.ty w := hv
   rw [g1, names_den g2 Nm.id ρ]
   exact hv
  ·cases h
 ·cases h
def pkJ : Chunk AV -> Option AV
 | .vec l es ty => match pkK krows .rows l es ty with
   | some a => some a
   | none => match pkK kints .ints l es ty with
     | some a => some a
     | none => match pkK kbytes .bytes l es ty with
       | some a => some a
       | none => pkK kpairs .pairs l es ty
 | _ => none
theorem pkJ_ok : ∀ d a, pkJ d = some a -> ∀ π, Lesser (NVl lp σ) (d.ren π) (.abs a) := fun d a h π => by
 cases d with
 | vec l es ty =>
   simp only [pkJ] at h
   split at h
   ·rename_i hh; cases h; exact pkK_ok (fun rs => q_arr rfl) hh π
   ·split at h
    ·rename_i hh; cases h; exact pkK_ok (fun rs => q_arr rfl) hh π
    ·split at h
     ·rename_i hh; cases h; exact pkK_ok (fun rs => q_arr rfl) hh π
     ·exact pkK_ok (fun rs => q_arr rfl) h π
 | _ => cases h
def loopAt (id : Nat) : List (Nat × Code) -> Code
 | [] => .skip
 | (k, c) :: r => match Nat.beq k id with | true => c | false => loopAt id r
noncomputable def bodyOf (fn : Func) : Code := match fn.body with | some c => c | none => .skip
def hp7 (l : List AV) : Hp AV := [none, none, none, none, none, none, none] ++ absL l
theorem loopOk_env {P : Program} {N N' : Env AV} (hF : N'.F = N.F) (hG : N'.G = N.G) {nt : Nat} {c : Code} {g : St AV -> T (Ex × St AV)} (h : LoopOk P N nt c g) : LoopOk P N' nt c g := by
 intro L s s' ex hg hcl hL
 obtain ⟨h1, h2, h3⟩ := h L s s' ex hg (closed_env N hcl) hL
 refine ⟨closed_env N' h1, h2, fun {ρ a w} hat => ?_⟩
 refine wp_mono (h3 ⟨hat.em, own_env hF.symm hG.symm hat.own⟩) ?_
 rintro e a' w' ⟨he, ⟨ρ', e1, o1, v1⟩, d1⟩
 exact ⟨he, ⟨ρ', e1, own_env hF hG o1, evo_env N' v1⟩, d1⟩
def lpAdd (f id : Nat) (g : St AV -> T (Ex × St AV)) (lp : Lp) : Lp := fun f' => match Nat.beq f' f with
 | true => fun id' => match Nat.beq id' id with
   | true => some g
   | false => lp f' id'
 | false => lp f'
theorem lpsAdd {f id : Nat} {g : St AV -> T (Ex × St AV)} {lp : Lp} (h : LpsOk Tryd.prog (NVl lp σ)) {fn : Func} (hf : ft.get f = some fn) {c : Code} (hc : fn.body = some c) {nt : Nat} (hnt : fn.ntmps = nt) {b : Code} (hb : ∀ x ∈ loopsOf c, x.1 = id -> x.2 = b) (hg : LoopOk Tryd.prog (NVl lp σ) nt b g) : LpsOk Tryd.prog (NVl (lpAdd f id g lp) σ) := by
 intro f' fn' c' hf' hc' id' b' hb' g' hg'
 have hg' : lpAdd f id g lp f' id' = some g' := hg'
 have old : lp f' id' = some g' -> LoopOk Tryd.prog (NVl (lpAdd f id g lp) σ) fn'.ntmps b' g' := fun h1 => loopOk_env (N := NVl lp σ) (N' := NVl (lpAdd f id g lp) σ) rfl rfl (h f' fn' c' hf' hc' id' b' hb' g' h1)
 by_cases e : f' = f
 ·subst e
  by_cases e2 : id' = id
  ·subst e2
   have hg' : (match Nat.beq f' f' with
    | true => fun id => match Nat.beq id id' with
      | true => some g
      | false => lp f' id
    | false => lp f') id' = some g' := hg'
   simp only [Nat.beq_refl] at hg'
   cases hg'
   have hf' : ft.get f' = some fn' := hf'
   rw [hf] at hf'
   cases hf'
   rw [hc] at hc'
   cases hc'
   have hbb : b' = b := hb _ hb' rfl
   rw [hnt, hbb]
   exact loopOk_env (N := NVl lp σ) (N' := NVl (lpAdd f' id' g lp) σ) rfl rfl hg
  ·refine old ?_
   have hg' : (match Nat.beq f' f' with
    | true => fun id' => match Nat.beq id' id with
      | true => some g
      | false => lp f' id'
    | false => lp f') id' = some g' := hg'
   simp only [Nat.beq_refl, (beq_false_iff _ _).2 e2] at hg'
   exact hg'
 ·refine old ?_
  have hg' : (match Nat.beq f' f with
   | true => fun id' => match Nat.beq id' id with
     | true => some g
     | false => lp f' id'
   | false => lp f') id' = some g' := hg'
  simp only [(beq_false_iff _ _).2 e] at hg'
  exact hg'
def oneLoop (id : Nat) : List (Nat × Code) -> Bool
 | [] => true
 | (k, c) :: r => match Nat.beq k id with
   | true => match hasN (r.map Prod.fst) id with | true => false | false => true
   | false => oneLoop id r
theorem oneLoop_spec {id : Nat} : ∀ {l : List (Nat × Code)}, oneLoop id l = true -> ∀ x ∈ l, x.1 = id -> x.2 = loopAt id l
 | [], _, x, h, _ => by cases h
 | (k, c) :: r, h, x, hx, he => by
   simp only [oneLoop] at h
   show x.2 = match Nat.beq k id with | true => c | false => loopAt id r
   cases hk : Nat.beq k id with
   | true =>
     rw [hk] at h
     have hk := (beq_iff _ _).1 hk
     simp only at h ⊢
     split at h
     ·cases h
     ·rename_i hn
      rcases List.mem_cons.1 hx with rfl | hx
      ·rfl
      ·exfalso
       have : id ∈ r.map Prod.fst := List.mem_map.2 ⟨x, hx, he⟩
       rw [(hasN_iff _ _).2 this] at hn
       cases hn
   | false =>
     rw [hk] at h
     simp only at h ⊢
     rcases List.mem_cons.1 hx with rfl | hx
     ·exact absurd he ((beq_false_iff _ _).1 hk)
     ·exact oneLoop_spec h x hx he
def tabAdd (f : FuncId) (g : List SV -> Hp AV -> T (SV × Hp AV)) (tab : Tab) : Tab := fun x => match Nat.beq x f with
 | true => some g
 | false => tab x
theorem tabAdd_ok {f : FuncId} {g : List SV -> Hp AV -> T (SV × Hp AV)} {tab : Tab} (hg : FnOk Tryd.prog (NVl lp σ) f g) (ht : TabOk Tryd.prog (NVl lp σ) tab) : TabOk Tryd.prog (NVl lp σ) (tabAdd f g tab) := by
 intro x y h
 unfold tabAdd at h
 split at h
 ·rename_i e
  have e := (beq_iff _ _).1 e
  subst e
  cases h
  exact hg
 ·exact ht x y h
theorem tabOk_lp {lp lp' : Lp} {tab : Tab} (h : TabOk Tryd.prog (NVl lp σ) tab) : TabOk Tryd.prog (NVl lp' σ) tab := fun f g hg => fnOk_env (N := NVl lp σ) (N' := NVl lp' σ) rfl rfl (h f g hg)
def rowsX : AV -> Option (Bool × List Rw)
 | .rowsB b l => some (b, l)
 | .rows l => some (true, l)
 | .rowsA l => some (false, l)
 | _ => none
theorem rowsX_q {a : AV} {b : Bool} {l : List Rw} (h : rowsX a = some (b, l)) (lc : Sx.Loc) (S : Nat -> Prop) (w : World) : (NVl lp σ).F.q a lc S w ↔ (NVl lp σ).F.q (.rowsB b l) lc S w := by
 cases a <;> first | (cases h; done) | skip
 all_goals
  cases h
  exact (q_avF (N := NVl lp σ) rfl rfl lc S w).trans (Iff.trans Iff.rfl (q_avF (N := NVl lp σ) rfl rfl lc S w).symm)
def Alike (N : Env AV) : List AV -> List AV -> Prop
 | [], [] => True
 | a :: r, b :: q => (∀ lc S w, N.F.q a lc S w ↔ N.F.q b lc S w) /\ Alike N r q
 | _, _ => False
theorem Alike.refl {N : Env AV} : ∀ l, Alike N l l
 | [] => trivial
 | a :: r => ⟨fun _ _ _ => Iff.rfl, Alike.refl r⟩
theorem Alike.append {N : Env AV} : ∀ {l m : List AV}, Alike N l m -> ∀ nw, Alike N (l ++ nw) (m ++ nw)
 | [], [], _, nw => Alike.refl nw
 | a :: r, b :: q, h, nw => ⟨h.1, Alike.append h.2 nw⟩
 | [], _ :: _, h, _ => h.elim
 | _ :: _, [], h, _ => h.elim
theorem Alike.get {N : Env AV} : ∀ {l m : List AV}, Alike N l m -> l.length = m.length /\ ∀ (i : Nat) b, m[i]? = some b -> ∃ a, l[i]? = some a /\ ∀ lc S w, N.F.q a lc S w ↔ N.F.q b lc S w
 | [], [], _ => ⟨rfl, fun i b h => by simp at h⟩
 | a :: r, b :: q, h => by
   obtain ⟨h1, h2⟩ := Alike.get h.2
   refine ⟨by simp [h1], fun i c hc => ?_⟩
   cases i with
   | zero => simp only [List.getElem?_cons_zero, Option.some.injEq] at hc; subst hc; exact ⟨a, rfl, h.1⟩
   | succ i => simp only [List.getElem?_cons_succ] at hc ⊢; exact h2 i c hc
 | [], _ :: _, h => h.elim
 | _ :: _, [], h => h.elim
theorem alike_own {N : Env AV} {M : List Bool} {l m : List AV} (h : Alike N l m) {ρ : Nm} {w : World} (hO : Own N ρ (hpO M l) w) : Own N ρ (hpO M m) w := by
 obtain ⟨h1, h2⟩ := h.get
 have get : ∀ n c, hget (hpO M m) n = some c -> ∃ d, hget (hpO M l) n = some d /\ (d.q N ρ n w -> c.q N ρ n w) /\ ∀ k, c.fp ρ n k -> d.fp ρ n k := fun n c hc => by
  unfold hpO at hc ⊢
  rw [hget_append] at hc ⊢
  split at hc
  ·rename_i hn
   rw [if_pos hn]; exact ⟨c, hc, id, fun _ => id⟩
  ·rename_i hn
   rw [if_neg hn]
   obtain ⟨b, hb, rfl⟩ := (absL_get _ _ _).1 hc
   obtain ⟨a, ha, hq⟩ := h2 _ b hb
   exact ⟨.abs a, (absL_get _ _ _).2 ⟨a, ha, rfl⟩, fun hqa => (hq _ _ _).1 hqa, fun _ => id⟩
 exact hO.sub ⟨fun n c hc => by obtain ⟨d, g1, g2, _⟩ := get n c hc; exact g2 (hO.q n d g1), fun n n' c d hne hc hd k hk hk' => by
  obtain ⟨c', g1, _, g3⟩ := get n c hc
  obtain ⟨d', q1, _, q3⟩ := get n' d hd
  exact hO.dis n n' c' d' hne g1 q1 k (g3 k hk) (q3 k hk'), hO.glb⟩ fun n c k hc hk => by
  obtain ⟨d, g1, _, g3⟩ := get n c hc
  exact ⟨n, d, g1, g3 k hk⟩
theorem Alike.symm {N : Env AV} : ∀ {l m : List AV}, Alike N l m -> Alike N m l
 | [], [], _ => trivial
 | a :: r, b :: q, h => ⟨fun lc S w => (h.1 lc S w).symm, Alike.symm h.2⟩
 | [], _ :: _, h => h.elim
 | _ :: _, [], h => h.elim
theorem ctr_alike {M : List Bool} {f : FuncId} {args : List SV} {l m l' m' nw : List AV} {v : SV} (h1 : Alike (NVl lp σ) l m) (h2 : Alike (NVl lp σ) m' l') (hc : Ctr Tryd.prog (NVl lp σ) f args (hpO M m) v (hpO M (m' ++ nw))) : Ctr Tryd.prog (NVl lp σ) f args (hpO M l) v (hpO M (l' ++ nw)) := by
 have e1 := h1.get
 have e2 := (h2.append nw).get
 have e2' := (h2.symm.append nw).get
 have e1' := h1.symm.get
 have len : ∀ {a b : List AV}, a.length = b.length -> (hpO M a).length = (hpO M b).length := fun {a b} h => by unfold hpO; rw [List.length_append, List.length_append, absL_len, absL_len, h]
 have some1 : ∀ {a b : List AV}, (∀ (i : Nat) y, b[i]? = some y -> ∃ x, a[i]? = some x /\ ∀ lc S w, (NVl lp σ).F.q x lc S w ↔ (NVl lp σ).F.q y lc S w) -> ∀ n c, hget (hpO M b) n = some c -> ∃ d, hget (hpO M a) n = some d /\ ∀ ρ k, c.fp ρ n k ↔ d.fp ρ n k := fun {a b} h n c hc => by
  unfold hpO at hc ⊢
  rw [hget_append] at hc ⊢
  split at hc
  ·rename_i hn; rw [if_pos hn]; exact ⟨c, hc, fun _ _ => Iff.rfl⟩
  ·rename_i hn
   rw [if_neg hn]
   obtain ⟨y, hy, rfl⟩ := (absL_get _ _ _).1 hc
   obtain ⟨x, hx, _⟩ := h _ y hy
   exact ⟨.abs x, (absL_get _ _ _).2 ⟨x, hx, rfl⟩, fun _ _ => Iff.rfl⟩
 obtain ⟨hv, hH, hcall⟩ := hc
 refine ⟨hv.mono fun n c h => ?_, hpO_cl M _, fun ρ w hO => (hcall ρ w (alike_own h1 hO)).mono ?_⟩
 ·obtain ⟨d, hd, _⟩ := some1 e2'.2 n c h; exact ⟨d, hd⟩
 ·rintro e w' ⟨ρ', he, o', ev⟩
  refine ⟨ρ', he, alike_own (h2.append nw) o', ⟨fun n c h => ?_, fun n c h => ?_, fun n hn h => ?_, ?_, fun k hk hno => ?_, fun n c k h hk => ?_, ev.os, ev.tape, ev.output, ev.size⟩⟩
  ·obtain ⟨d, hd, _⟩ := some1 e1'.2 n c h
   obtain ⟨d', hd'⟩ := ev.pers n d hd
   obtain ⟨d'', hd'', _⟩ := some1 e2'.2 n d' hd'
   exact ⟨d'', hd''⟩
  ·obtain ⟨d, hd, _⟩ := some1 e1'.2 n c h
   exact ev.agree n d hd
  ·cases hm : hget (hpO M (l' ++ nw)) n with
   | none => rfl
   | some c =>
     exfalso
     obtain ⟨d, hd, _⟩ := some1 e2.2 n c hm
     have : hget (hpO M m) n = none := by
      cases hx : hget (hpO M m) n with
      | none => rfl
      | some y => obtain ⟨z, hz, _⟩ := some1 e1.2 n y hx; rw [h] at hz; cases hz
     rw [ev.non n (by rw [<- len e1.1]; exact hn) this] at hd
     cases hd
  ·rw [len e1.1, <- len e2.1]; exact ev.len
  ·refine ev.frame k hk fun n c h hk' => ?_
   obtain ⟨d, hd, hf⟩ := some1 e1.2 n c h
   exact hno n d hd ((hf ρ k).1 hk')
  ·obtain ⟨d, hd, hf⟩ := some1 e2.2 n c h
   rcases ev.new n d k hd ((hf ρ' k).1 hk) with h3 | ⟨x, y, hy, hk'⟩
   ·exact .inl h3
   ·obtain ⟨z, hz, hf'⟩ := some1 e1.2 x y hy
    exact .inr ⟨x, z, hz, (hf' ρ k).1 hk'⟩
end Go.Proofs.YtpapbhbnaalhcaaDoor
