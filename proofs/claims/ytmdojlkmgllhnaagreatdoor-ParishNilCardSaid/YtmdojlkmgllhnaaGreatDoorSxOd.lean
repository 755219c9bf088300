/- Objects, opened and folded again: what is shown of the opened heap holds of the folded one; summaries of methods from runs on small heaps. -/
import Derived.Test.YtmdojlkmgllhnaaGreatDoorSxOc
namespace Go.Sx
set_option linter.unusedVariables false
variable {AV : Type} {P : Program} {N : Env AV}
/-- a heap that tells more: the same blocks, under more names -/
def Opn (N : Env AV) (H H1 : Hp AV) : Prop := ∀ (ρ : Nm) (w : World), Own N ρ H w → ∃ ρ1, Own N ρ1 H1 w ∧ (∀ m, m < H.length → ρ1.L m = ρ.L m) ∧ ∀ m d k, hget H1 m = some d → d.fp ρ1 m k → ∃ m' d', hget H m' = some d' ∧ d'.fp ρ m' k
/-- a heap that tells less -/
def Fld (N : Env AV) (H R : Hp AV) : Prop := ∀ (ρ : Nm) (w : World), Own N ρ H w → ∃ ρ1, Own N ρ1 R w ∧ (∀ m c, hget H m = some c → ρ1.L m = ρ.L m) ∧ ∀ m d k, hget R m = some d → d.fp ρ1 m k → ∃ m' d', hget H m' = some d' ∧ d'.fp ρ m' k
theorem Opn.refl (H : Hp AV) : Opn N H H := fun ρ _ h => ⟨ρ, h, fun _ _ => rfl, fun m d k h h' => ⟨m, d, h, h'⟩⟩
theorem Fld.refl (H : Hp AV) : Fld N H H := fun ρ _ h => ⟨ρ, h, fun _ _ _ => rfl, fun m d k h h' => ⟨m, d, h, h'⟩⟩
theorem Opn.trans {A B C : Hp AV} (h1 : Opn N A B) (h2 : Opn N B C) (hl : A.length ≤ B.length) : Opn N A C := fun ρ w h => by
  obtain ⟨ρ1, o1, l1, f1⟩ := h1 ρ w h
  obtain ⟨ρ2, o2, l2, f2⟩ := h2 ρ1 w o1
  refine ⟨ρ2, o2, fun m hm => (l2 m (by omega)).trans (l1 m hm), fun m d k hd hk => ?_⟩
  obtain ⟨m', d', hd', hk'⟩ := f2 m d k hd hk
  exact f1 m' d' k hd' hk'
theorem Fld.trans {A B C : Hp AV} (h1 : Fld N A B) (h2 : Fld N B C) (hp' : ∀ m c, hget A m = some c → ∃ c', hget B m = some c') : Fld N A C := fun ρ w h => by
  obtain ⟨ρ1, o1, l1, f1⟩ := h1 ρ w h
  obtain ⟨ρ2, o2, l2, f2⟩ := h2 ρ1 w o1
  refine ⟨ρ2, o2, fun m c hm => ?_, fun m d k hd hk => ?_⟩
  · obtain ⟨c', hc'⟩ := hp' m c hm
    exact (l2 m c' hc').trans (l1 m c hm)
  · obtain ⟨m', d', hd', hk'⟩ := f2 m d k hd hk
    exact f1 m' d' k hd' hk'
theorem opn_open {H K : Hp AV} (hC : ClHp N H) {n : Nat} {a : AV} (hn : hget H n = some (.abs a)) (hK0 : ∃ c, hget K 0 = some c) (hGn : N.G ≤ n) (hq : ∀ l S w, N.F.q a l S w → objQ N K l S w) : Opn N H (openH H n K) := fun ρ w hO => by
  have hlt := hget_lt hn
  have hKn : K ≠ [] := by rintro rfl; obtain ⟨c, hc⟩ := hK0; cases hc
  obtain ⟨ρ1, o1, eL, eS, hS⟩ := own_open hO hC hn hK0 hGn hq
  refine ⟨ρ1, o1, eL, fun m d k hd hk => ?_⟩
  rcases open_src (H := H) (K := K) hlt hKn m d hd with ⟨h1, h2, h3⟩ | ⟨i, d', rfl, h3, rfl⟩
  · rw [fp_congr (eL m h2) (eS m h2 h1)] at hk
    exact ⟨m, d, h3, hk⟩
  · exact ⟨n, _, hn, (hS k).2 ⟨i, d', h3, hk⟩⟩
/-- the blocks of a thing and its parts -/
def partsF (ρ : Nm) (H : Hp AV) (n : Nat) (ns : List Nat) (k : Nat) : Prop := ∃ m d, (m = n ∨ m ∈ ns) ∧ hget H m = some d ∧ d.fp ρ m k
/-- the parts are struck, the thing at n becomes an object; i: the first name -/
def foldH (n : Nat) (ns : List Nat) (a : AV) : Nat → Hp AV → Hp AV
  | _, [] => []
  | i, x :: r => (match Nat.beq i n with | true => some (.abs a) | false => match hasN ns i with | true => none | false => x) :: foldH n ns a (i + 1) r
theorem fold_get (n : Nat) (ns : List Nat) (a : AV) : ∀ (H : Hp AV) (i m : Nat), hget (foldH n ns a i H) m = if m < H.length then (if i + m = n then some (.abs a) else if i + m ∈ ns then none else hget H m) else none
  | [], i, m => by cases m <;> simp [foldH, hget]
  | x :: r, i, 0 => by
    simp only [foldH, hget, List.length_cons, Nat.zero_lt_succ, if_true, Nat.add_zero]
    cases h : Nat.beq i n with
    | true => rw [if_pos ((beq_iff _ _).1 h)]
    | false =>
      rw [if_neg ((beq_false_iff _ _).1 h)]
      cases h' : hasN ns i with
      | true => rw [if_pos ((hasN_iff _ _).1 h')]
      | false => rw [if_neg (fun e => by rw [(hasN_iff _ _).2 e] at h'; cases h')]
  | x :: r, i, m + 1 => by
    simp only [foldH, hget, List.length_cons, fold_get n ns a r (i + 1) m, Nat.add_lt_add_iff_right]
    rw [show i + 1 + m = i + (m + 1) by omega]
theorem foldH_len (n : Nat) (ns : List Nat) (a : AV) : ∀ (H : Hp AV) (i : Nat), (foldH n ns a i H).length = H.length
  | [], i => rfl
  | x :: r, i => congrArg (· + 1) (foldH_len n ns a r (i + 1))
theorem fold_src {n : Nat} {ns : List Nat} {a : AV} {H : Hp AV} {m : Nat} {c : Chunk AV} (h : hget (foldH n ns a 0 H) m = some c) : (m = n ∧ c = .abs a) ∨ (m ≠ n ∧ m ∉ ns ∧ hget H m = some c) := by
  rw [fold_get] at h
  split at h
  · rw [Nat.zero_add] at h
    split at h
    · rename_i e; cases h; exact .inl ⟨e, rfl⟩
    · rename_i e
      split at h
      · cases h
      · rename_i e'; exact .inr ⟨e, e', h⟩
  · cases h
theorem fld_fold {H : Hp AV} {n : Nat} {ns : List Nat} {a : AV} (hn : ∃ c, hget H n = some c)
    (hq : ∀ (ρ : Nm) (w : World), Own N ρ H w → N.F.q a (ρ.L n) (partsF ρ H n ns) w) : Fld N H (foldH n ns a 0 H) := fun ρ w hO => by
  have hL : ∀ m, (ρ.set n (ρ.L n) (partsF ρ H n ns)).L m = ρ.L m := fun m => by by_cases e : m = n <;> simp [Nm.set, e]
  have hSn : (ρ.set n (ρ.L n) (partsF ρ H n ns)).S n = partsF ρ H n ns := by simp [Nm.set]
  have hSm : ∀ m, m ≠ n → (ρ.set n (ρ.L n) (partsF ρ H n ns)).S m = ρ.S m := fun m e => by simp [Nm.set, e]
  have hd : ∀ l, denL (ρ.set n (ρ.L n) (partsF ρ H n ns)) l = denL ρ l := fun l => by
    unfold denL
    exact List.map_congr_left fun c _ => den_congr c fun m _ => hL m
  have apart : ∀ m (c : Chunk AV) k, m ≠ n → m ∉ ns → hget H m = some c → c.fp ρ m k → partsF ρ H n ns k → False := by
    rintro m c k h1 h2 hc hk ⟨m', d, h3, hd, hk'⟩
    refine hO.dis m m' c d (fun e => ?_) hc hd k hk hk'
    subst e
    rcases h3 with h3 | h3
    · exact h1 h3
    · exact h2 h3
  refine ⟨ρ.set n (ρ.L n) (partsF ρ H n ns), ⟨fun m c h => ?_, fun m m' c d hne h h' k hk hk' => ?_, fun g hg => ?_⟩, fun m c _ => hL m, fun m d k h hk => ?_⟩
  · rcases fold_src h with ⟨rfl, rfl⟩ | ⟨h1, h2, h3⟩
    · show N.F.q a _ _ _
      rw [hL, hSn]; exact hq ρ w hO
    · exact q_keep (hO.q m c h3) (hL m) (hSm m h1) (hd _) (fun _ _ => rfl)
  · rcases fold_src h with ⟨rfl, rfl⟩ | ⟨h1, h2, h3⟩
    · have hk : (ρ.set m (ρ.L m) (partsF ρ H m ns)).S m k := hk
      rw [hSn] at hk
      rcases fold_src h' with ⟨rfl, rfl⟩ | ⟨g1, g2, g3⟩
      · exact hne rfl
      · rw [fp_congr (hL m') (hSm m' g1)] at hk'
        exact apart m' d k g1 g2 g3 hk' hk
    · rw [fp_congr (hL m) (hSm m h1)] at hk
      rcases fold_src h' with ⟨rfl, rfl⟩ | ⟨g1, g2, g3⟩
      · have hk' : (ρ.set m' (ρ.L m') (partsF ρ H m' ns)).S m' k := hk'
        rw [hSn] at hk'
        exact apart m c k h1 h2 h3 hk hk'
      · rw [fp_congr (hL m') (hSm m' g1)] at hk'
        exact hO.dis m m' c d hne h3 g3 k hk hk'
  · have : (ρ.set n (ρ.L n) (partsF ρ H n ns)) g = ρ g := by simp only [Nm.f, hL g]
    rw [this]; exact hO.glb g hg
  · rcases fold_src h with ⟨rfl, rfl⟩ | ⟨h1, h2, h3⟩
    · have hk : (ρ.set m (ρ.L m) (partsF ρ H m ns)).S m k := hk
      rw [hSn] at hk
      obtain ⟨m', d', _, h3, h4⟩ := hk
      exact ⟨m', d', h3, h4⟩
    · rw [fp_congr (hL m) (hSm m h1)] at hk
      exact ⟨m, d, h3, hk⟩
/-- nothing behind the last thing -/
theorem fld_get {H R : Hp AV} (h : ∀ m c, hget R m = some c → hget H m = some c) : Fld N H R := fun ρ w hO =>
  ⟨ρ, ⟨fun m c hc => hO.q m c (h m c hc), fun m m' c d hne hc hd k hk hk' => hO.dis m m' c d hne (h m c hc) (h m' d hd) k hk hk', hO.glb⟩, fun _ _ _ => rfl, fun m d k hd hk => ⟨m, d, h m d hd, hk⟩⟩
theorem fld_trim (n : Nat) (H : Hp AV) : Fld N H (trim n H) := fld_get fun m c h => by rw [(trim_get n H m).1] at h; exact h
/-- what was shown of the opened heap, up to a heap that is folded, holds of the heap itself -/
theorem ctr_via {f : FuncId} {args : List SV} {H H1 H2 R : Hp AV} {v : SV} (ho : Opn N H H1) (h01 : ∀ m c, hget H m = some c → ∃ c', hget H1 m = some c') (hc : Ctr P N f args H1 v H2) (hf : Fld N H2 R) (hargs : ∀ x ∈ args, ClV H x)
    (hv : ClV R v) (hR : ClHp N R) (pers : ∀ m c, hget H m = some c → ∃ c', hget R m = some c') (non : ∀ m, m < H.length → hget H m = none → hget R m = none) (len : H.length ≤ R.length) : Ctr P N f args H v R := by
  obtain ⟨hv2, _, hcall⟩ := hc
  refine ⟨hv, hR, fun ρ w hO => ?_⟩
  obtain ⟨ρ1, o1, l1, f1⟩ := ho ρ w hO
  have hmap : args.map (SV.den ρ1) = args.map (SV.den ρ) := List.map_congr_left fun x hx => SV.den_congr (hargs x hx) fun m c h => l1 m (hget_lt h)
  rw [← hmap]
  refine (hcall ρ1 w o1).mono ?_
  rintro e w' ⟨ρ2, rfl, o2, hE⟩
  obtain ⟨ρ3, o3, l3, f3⟩ := hf ρ2 w' o2
  refine ⟨ρ3, ?_, o3, ⟨pers, fun m c h => ?_, non, len, fun k hk hno => ?_, fun m c k h hk => ?_, hE.os, hE.tape, hE.output, hE.size⟩⟩
  · congr 1
    exact (SV.den_congr hv2 fun m c h => l3 m c h).symm
  · obtain ⟨c1, h1⟩ := h01 m c h
    obtain ⟨c2, h2⟩ := hE.pers m c1 h1
    rw [l3 m c2 h2, hE.agree m c1 h1, l1 m (hget_lt h)]
  · refine hE.frame k hk fun m d hd hk' => ?_
    obtain ⟨m', d', h1, h2⟩ := f1 m d k hd hk'
    exact hno m' d' h1 h2
  · obtain ⟨m', d', h1, h2⟩ := f3 m c k h hk
    rcases hE.new m' d' k h1 h2 with h3 | ⟨m'', d'', h3, h4⟩
    · exact .inl h3
    · exact .inr (f1 m'' d'' k h3 h4)
theorem ctr_args {f : FuncId} {args args' : List SV} {H R : Hp AV} {v : SV} (hc : Ctr P N f args H v R) (h : ∀ ρ, args'.map (SV.den ρ) = args.map (SV.den ρ)) : Ctr P N f args' H v R :=
  ⟨hc.1, hc.2.1, fun ρ w hO => by rw [h ρ]; exact hc.2.2 ρ w hO⟩
/-- the summary's value is known otherwise -/
theorem ctr_val {f : FuncId} {args : List SV} {H R : Hp AV} {v v' : SV} (hc : Ctr P N f args H v R) (hcl : ClV R v') (h : ∀ ρ, v'.den ρ = v.den ρ) : Ctr P N f args H v' R :=
  ⟨hcl, hc.2.1, fun ρ w hO => (hc.2.2 ρ w hO).mono fun e w' ⟨ρ', he, h1, h2⟩ => ⟨ρ', by rw [h ρ']; exact he, h1, h2⟩⟩
end Go.Sx
