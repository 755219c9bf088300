/- A run on opened objects, folded again, packed: the value of a summary. -/
import Derived.Test.YtmdojlkmgllhnaaGreatDoorSxOe
namespace Go.Sx
set_option linter.unusedVariables false
variable {AV : Type} {P : Program} {N : Env AV}
/-- a heap that tells less, of the same names -/
def Fl (N : Env AV) (H R : Hp AV) : Prop := ∀ (ρ : Nm) (w : World), Own N ρ H w → ∃ ρ1, Own N ρ1 R w ∧ (∀ m, ρ1.L m = ρ.L m) ∧ ∀ m d k, hget R m = some d → d.fp ρ1 m k → ∃ m' d', hget H m' = some d' ∧ d'.fp ρ m' k
theorem Fl.refl (H : Hp AV) : Fl N H H := fun ρ _ h => ⟨ρ, h, fun _ => rfl, fun m d k h h' => ⟨m, d, h, h'⟩⟩
theorem Fl.trans {A B C : Hp AV} (h1 : Fl N A B) (h2 : Fl N B C) : Fl N A C := fun ρ w h => by
  obtain ⟨ρ1, o1, l1, f1⟩ := h1 ρ w h
  obtain ⟨ρ2, o2, l2, f2⟩ := h2 ρ1 w o1
  refine ⟨ρ2, o2, fun m => (l2 m).trans (l1 m), fun m d k hd hk => ?_⟩
  obtain ⟨m', d', hd', hk'⟩ := f2 m d k hd hk
  exact f1 m' d' k hd' hk'
theorem fl_fold {H : Hp AV} {n : Nat} {ns : List Nat} {a : AV} (hq : ∀ (ρ : Nm) (w : World), Own N ρ H w → N.F.q a (ρ.L n) (partsF ρ H n ns) w) : Fl N H (foldH n ns a 0 H) := fun ρ w hO => by
  have hL : ∀ m, (ρ.set n (ρ.L n) (partsF ρ H n ns)).L m = ρ.L m := fun m => by by_cases e : m = n <;> simp [Nm.set, e]
  have hSn : (ρ.set n (ρ.L n) (partsF ρ H n ns)).S n = partsF ρ H n ns := by simp [Nm.set]
  have hSm : ∀ m, m ≠ n → (ρ.set n (ρ.L n) (partsF ρ H n ns)).S m = ρ.S m := fun m e => by simp [Nm.set, e]
  have hd : ∀ l, denL (ρ.set n (ρ.L n) (partsF ρ H n ns)) l = denL ρ l := fun l => by
    unfold denL
    exact List.map_congr_left fun c _ => den_congr c fun m _ => hL m
  have apart : ∀ m (c : Chunk AV) k, m ≠ n → m ∉ ns → hget H m = some c → c.fp ρ m k → partsF ρ H n ns k → False := by
    rintro m c k h1 h2 hc hk ⟨m', d, h3, hd, hk'⟩
    refine hO.dis m m' c d (fun e => ?_) hc hd k hk hk'
    subst e
    rcases h3 with h3 | h3
    · exact h1 h3
    · exact h2 h3
  refine ⟨ρ.set n (ρ.L n) (partsF ρ H n ns), ⟨fun m c h => ?_, fun m m' c d hne h h' k hk hk' => ?_, fun g hg => ?_⟩, hL, fun m d k h hk => ?_⟩
  · rcases fold_src h with ⟨rfl, rfl⟩ | ⟨h1, h2, h3⟩
    · show N.F.q a _ _ _
      rw [hL, hSn]; exact hq ρ w hO
    · exact q_keep (hO.q m c h3) (hL m) (hSm m h1) (hd _) (fun _ _ => rfl)
  · rcases fold_src h with ⟨rfl, rfl⟩ | ⟨h1, h2, h3⟩
    · have hk : (ρ.set m (ρ.L m) (partsF ρ H m ns)).S m k := hk
      rw [hSn] at hk
      rcases fold_src h' with ⟨rfl, rfl⟩ | ⟨g1, g2, g3⟩
      · exact hne rfl
      · rw [fp_congr (hL m') (hSm m' g1)] at hk'
        exact apart m' d k g1 g2 g3 hk' hk
    · rw [fp_congr (hL m) (hSm m h1)] at hk
      rcases fold_src h' with ⟨rfl, rfl⟩ | ⟨g1, g2, g3⟩
      · have hk' : (ρ.set m' (ρ.L m') (partsF ρ H m' ns)).S m' k := hk'
        rw [hSn] at hk'
        exact apart m c k h1 h2 h3 hk hk'
      · rw [fp_congr (hL m') (hSm m' g1)] at hk'
        exact hO.dis m m' c d hne h3 g3 k hk hk'
  · have : (ρ.set n (ρ.L n) (partsF ρ H n ns)) g = ρ g := by simp only [Nm.f, hL g]
    rw [this]; exact hO.glb g hg
  · rcases fold_src h with ⟨rfl, rfl⟩ | ⟨h1, h2, h3⟩
    · have hk : (ρ.set m (ρ.L m) (partsF ρ H m ns)).S m k := hk
      rw [hSn] at hk
      obtain ⟨m', d', _, h3, h4⟩ := hk
      exact ⟨m', d', h3, h4⟩
    · rw [fp_congr (hL m) (hSm m h1)] at hk
      exact ⟨m, d, h3, hk⟩
/-- objects are folded where names say so -/
def foldAll (view : Hp AV → Nat → T (AV × List Nat)) : List Nat → Hp AV → T (Hp AV)
  | [], H => .leaf H
  | n :: r, H => match hget H n with
    | some (.cells _ _) => (view H n).bind fun x => foldAll view r (foldH n x.2 x.1 0 H)
    | _ => foldAll view r H
def ViewOk (N : Env AV) (view : Hp AV → Nat → T (AV × List Nat)) : Prop := ∀ (H : Hp AV) (n : Nat) (a : AV) (ns : List Nat), (view H n).val = some (a, ns) → ∀ (ρ : Nm) (w : World), Own N ρ H w → N.F.q a (ρ.L n) (partsF ρ H n ns) w
theorem foldAll_ok {view : Hp AV → Nat → T (AV × List Nat)} (hv : ViewOk N view) : ∀ {l : List Nat} {H R : Hp AV}, (foldAll view l H).val = some R → Fl N H R
  | [], H, R, h => by
    simp only [foldAll, T.val, Option.some.injEq] at h
    subst h
    exact Fl.refl H
  | n :: r, H, R, h => by
    simp only [foldAll] at h
    split at h
    · obtain ⟨⟨a, ns⟩, h1, h2⟩ := T.bind_some h
      exact (fl_fold (hv H n a ns h1)).trans (foldAll_ok hv h2)
    · exact foldAll_ok hv h
/-- the things of a heap of objects; what is not there is left out -/
def somes : Hp AV → Option (List AV)
  | [] => some []
  | none :: r => somes r
  | some (.abs a) :: r => match somes r with | some l => some (a :: l) | none => none
  | some _ :: _ => none
def cntS : Hp AV → Nat → Nat
  | [], _ => 0
  | _ :: _, 0 => 0
  | none :: r, n + 1 => cntS r n
  | some _ :: r, n + 1 => cntS r n + 1
/-- where the thing number j stands -/
def nthS : Hp AV → Nat → Nat
  | [], _ => 0
  | none :: r, j => nthS r j + 1
  | some _ :: _, 0 => 0
  | some _ :: r, j + 1 => nthS r j + 1
theorem nthS_get : ∀ {H : Hp AV} {l : List AV}, somes H = some l → ∀ (j : Nat) (a : AV), l[j]? = some a → hget H (nthS H j) = some (.abs a)
  | [], l, h, j, a, h' => by simp only [somes, Option.some.injEq] at h; subst h; simp at h'
  | none :: r, l, h, j, a, h' => nthS_get (H := r) (by simpa [somes] using h) j a h'
  | some (.cells _ _) :: r, l, h, j, a, h' => by simp [somes] at h
  | some (.vec _ _ _) :: r, l, h, j, a, h' => by simp [somes] at h
  | some .dead :: r, l, h, j, a, h' => by simp [somes] at h
  | some (.abs b) :: r, l, h, j, a, h' => by
    simp only [somes] at h
    split at h
    · rename_i q hq
      cases h
      cases j with
      | zero => simp only [List.getElem?_cons_zero, Option.some.injEq] at h'; subst h'; rfl
      | succ j => exact nthS_get (H := r) hq j a (by simpa using h')
    · cases h
theorem cntS_nth : ∀ (H : Hp AV) (n : Nat) (c : Chunk AV), hget H n = some c → nthS H (cntS H n) = n
  | [], n, c, h => by cases n <;> simp [hget] at h
  | none :: r, 0, c, h => by simp [hget] at h
  | some x :: r, 0, c, h => rfl
  | none :: r, n + 1, c, h => by
    simp only [cntS, nthS]
    rw [cntS_nth r n c h]
  | some x :: r, n + 1, c, h => by
    simp only [cntS, nthS]
    rw [cntS_nth r n c h]
theorem nthS_inj {H : Hp AV} {l : List AV} (h : somes H = some l) : ∀ {i j : Nat}, i < l.length → j < l.length → nthS H i = nthS H j → i = j := by
  induction H generalizing l with
  | nil => intro i j hi _ _; simp only [somes, Option.some.injEq] at h; subst h; simp at hi
  | cons x r ih =>
    intro i j hi hj e
    cases x with
    | none => exact ih (l := l) (by simpa [somes] using h) hi hj (by simpa [nthS] using e)
    | some x =>
      cases x with
      | abs b =>
        simp only [somes] at h
        split at h
        · rename_i q hq
          cases h
          cases i with
          | zero => cases j with
            | zero => rfl
            | succ j => simp [nthS] at e
          | succ i => cases j with
            | zero => simp [nthS] at e
            | succ j => exact congrArg (· + 1) (ih hq (by simpa using hi) (by simpa using hj) (by simpa [nthS] using e))
        · cases h
      | cells _ _ => simp [somes] at h
      | vec _ _ _ => simp [somes] at h
      | dead => simp [somes] at h
def packN (L : Nat) (rest : Hp AV) (n : Nat) : Nat := match Nat.blt n L with
  | true => n
  | false => L + cntS rest (n - L)
/-- exactly the errors that are wanted, and what is behind them -/
def restB (isS : AV → Nat → Bool) : Nat → List Bool → Hp AV → Option (Hp AV)
  | _, [], H => some H
  | i, true :: m, some (.abs a) :: r => match isS a i with | true => restB isS (i + 1) m r | false => none
  | i, false :: m, none :: r => restB isS (i + 1) m r
  | _, _, _ => none
theorem restB_spec {isS : AV → Nat → Bool} {sn : Nat → AV} (hs : ∀ a i, isS a i = true → a = sn i) : ∀ {M : List Bool} {i : Nat} {H R : Hp AV}, restB isS i M H = some R → H = sentL sn i M ++ R
  | [], i, H, R, h => by simp only [restB, Option.some.injEq] at h; subst h; rfl
  | true :: m, i, some (.abs a) :: r, R, h => by
    simp only [restB] at h
    split at h
    · rename_i ha
      rw [restB_spec hs h, hs a i ha]; rfl
    · cases h
  | false :: m, i, none :: r, R, h => by
    simp only [restB] at h
    rw [restB_spec hs h]; rfl
  | true :: m, i, [], R, h => by simp [restB] at h
  | true :: m, i, none :: r, R, h => by simp [restB] at h
  | true :: m, i, some (.cells _ _) :: r, R, h => by simp [restB] at h
  | true :: m, i, some (.vec _ _ _) :: r, R, h => by simp [restB] at h
  | true :: m, i, some .dead :: r, R, h => by simp [restB] at h
  | false :: m, i, [], R, h => by simp [restB] at h
  | false :: m, i, some _ :: r, R, h => by simp [restB] at h
/-- k objects, and what is behind them -/
def firstK : Nat → Hp AV → Option (List AV × Hp AV)
  | 0, H => some ([], H)
  | n + 1, some (.abs a) :: r => match firstK n r with
    | some (l, q) => some (a :: l, q)
    | none => none
  | _ + 1, _ => none
theorem firstK_spec : ∀ {k : Nat} {H : Hp AV} {l : List AV} {R : Hp AV}, firstK k H = some (l, R) → H = absL l ++ R ∧ l.length = k
  | 0, H, l, R, h => by simp only [firstK, Option.some.injEq, Prod.mk.injEq] at h; obtain ⟨rfl, rfl⟩ := h; exact ⟨rfl, rfl⟩
  | n + 1, [], l, R, h => by simp [firstK] at h
  | n + 1, none :: r, l, R, h => by simp [firstK] at h
  | n + 1, some (.cells _ _) :: r, l, R, h => by simp [firstK] at h
  | n + 1, some (.vec _ _ _) :: r, l, R, h => by simp [firstK] at h
  | n + 1, some .dead :: r, l, R, h => by simp [firstK] at h
  | n + 1, some (.abs a) :: r, l, R, h => by
    simp only [firstK] at h
    split at h
    · rename_i l' q hq
      cases h
      obtain ⟨rfl, h2⟩ := firstK_spec hq
      exact ⟨rfl, by simp [h2]⟩
    · cases h
/-- the heap behind a run, as objects -/
def packT (isS : AV → Nat → Bool) (M : List Bool) (k : Nat) (r : SV × Hp AV) : T (SV × List AV × List AV) := match clV r.2 r.1 with
  | false => .fail "pack: value"
  | true => match restB isS 0 M r.2 with
    | none => .fail "pack: variables"
    | some H => match firstK k H with
      | none => .fail "pack: objects"
      | some (l, q) => match somes q with
        | none => .fail "pack: no object"
        | some nw => .leaf (r.1.ren (packN (M.length + k) q), l, nw)
/-- behind a run: the objects whose names are given, and those of the value, are folded; the heap as objects -/
def closeT (view : Hp AV → Nat → T (AV × List Nat)) (isS : AV → Nat → Bool) (M : List Bool) (k : Nat) (ns : List Nat) (r : SV × Hp AV) : T (SV × List AV × List AV) :=
  (foldAll view (ns ++ namesV r.1) r.2).bind fun H => packT isS M k (r.1, H)
theorem closeT_ok {view : Hp AV → Nat → T (AV × List Nat)} (hview : ViewOk N view) {isS : AV → Nat → Bool} {sn : Nat → AV} (hs : ∀ a i, isS a i = true → a = sn i) {M : List Bool} (hGM : N.G = M.length) {l : List AV} {ns : List Nat} {f : FuncId} {args : List SV} {H1 H2 : Hp AV} {v v' : SV} {l' nw : List AV}
    (hargs : ∀ x ∈ args, ClV (sentL sn 0 M ++ absL l) x) (ho : Opn N (sentL sn 0 M ++ absL l) H1) (h01 : ∀ m c, hget (sentL sn 0 M ++ absL l) m = some c → ∃ c', hget H1 m = some c') (hc : Ctr P N f args H1 v H2)
    (hr : (closeT view isS M l.length ns (v, H2)).val = some (v', l', nw)) : Ctr P N f args (sentL sn 0 M ++ absL l) v' (sentL sn 0 M ++ absL (l' ++ nw)) ∧ l'.length = l.length := by
  unfold closeT at hr
  obtain ⟨H3, h3, hr⟩ := T.bind_some hr
  have hfl := foldAll_ok hview h3
  unfold packT at hr
  split at hr
  · simp [T.val] at hr
  rename_i hcl
  have hcl : ClV H3 v := clV_iff.1 hcl
  split at hr
  · simp [T.val] at hr
  rename_i H4 h4
  have e4 : H3 = sentL sn 0 M ++ H4 := restB_spec hs h4
  split at hr
  · simp [T.val] at hr
  rename_i lq q h5
  obtain ⟨e5, hl5⟩ := firstK_spec h5
  split at hr
  · simp [T.val] at hr
  rename_i nq h6
  simp only [T.val, Option.some.injEq, Prod.mk.injEq] at hr
  obtain ⟨rfl, rfl, rfl⟩ := hr
  subst e5
  refine ⟨?_, hl5⟩
  let L := M.length + l.length
  let π := packN L q
  have lenS : (sentL sn 0 M).length = M.length := sentL_len sn M 0
  have lenA : (sentL sn 0 M ++ absL lq).length = L := by rw [List.length_append, lenS, absL_len, hl5]
  have g3 : ∀ n, hget H3 n = if n < L then hget (sentL sn 0 M ++ absL lq) n else hget q (n - L) := fun n => by
    rw [e4, ← List.append_assoc, hget_append, lenA]
  have gR : ∀ n, hget (sentL sn 0 M ++ absL (lq ++ nq)) n = if n < L then hget (sentL sn 0 M ++ absL lq) n else hget (absL nq) (n - L) := fun n => by
    rw [show absL (lq ++ nq) = absL lq ++ absL nq by simp [absL], ← List.append_assoc, hget_append, lenA]
  have isA : ∀ n c, hget (sentL sn 0 M ++ absL lq) n = some c → ∃ a, c = .abs a := fun n c h => by
    rw [hget_append] at h
    split at h
    · exact ⟨_, ((sentL_get sn M 0 n c).1 h).2⟩
    · obtain ⟨a, _, h⟩ := (absL_get _ _ _).1 h; exact ⟨a, h⟩
  have πlt : ∀ n, n < L → π n = n := fun n h => by
    show packN L q n = n
    unfold packN
    have e : Nat.blt n L = true := by simpa [Nat.blt_eq] using h
    rw [e]
  have πge : ∀ n, ¬ n < L → π n = L + cntS q (n - L) := fun n h => by
    show packN L q n = _
    unfold packN
    have e : Nat.blt n L = false := by
      cases e : Nat.blt n L with
      | false => rfl
      | true => rw [Nat.blt_eq] at e; omega
    rw [e]
  -- where the packed things stood
  let σ : Nat → Nat := fun n => if n < L then n else L + nthS q (n - L)
  have src : ∀ n c, hget (sentL sn 0 M ++ absL (lq ++ nq)) n = some c → hget H3 (σ n) = some c ∧ ∃ a, c = .abs a := fun n c h => by
    rw [gR] at h
    show hget H3 (if n < L then n else L + nthS q (n - L)) = some c ∧ _
    split at h
    · rename_i hn
      rw [if_pos hn, g3, if_pos hn]; exact ⟨h, isA n c h⟩
    · rename_i hn
      obtain ⟨a, h1, rfl⟩ := (absL_get _ _ _).1 h
      rw [if_neg hn, g3, if_neg (by omega), Nat.add_sub_cancel_left]
      exact ⟨nthS_get h6 _ a h1, a, rfl⟩
  have σinj : ∀ n m c d, hget (sentL sn 0 M ++ absL (lq ++ nq)) n = some c → hget (sentL sn 0 M ++ absL (lq ++ nq)) m = some d → σ n = σ m → n = m := fun n m c d hn hm e => by
    have e : (if n < L then n else L + nthS q (n - L)) = (if m < L then m else L + nthS q (m - L)) := e
    have ln : ∀ n c, ¬ n < L → hget (sentL sn 0 M ++ absL (lq ++ nq)) n = some c → n - L < nq.length := fun n c hn h => by
      rw [gR, if_neg hn] at h
      obtain ⟨a, h1, _⟩ := (absL_get _ _ _).1 h
      exact (List.getElem?_eq_some_iff.1 h1).1
    by_cases h1 : n < L <;> by_cases h2 : m < L
    · rw [if_pos h1, if_pos h2] at e; exact e
    · rw [if_pos h1, if_neg h2] at e; omega
    · rw [if_neg h1, if_pos h2] at e; omega
    · rw [if_neg h1, if_neg h2] at e
      have := nthS_inj h6 (ln n c h1 hn) (ln m d h2 hm) (by omega)
      omega
  have σπ : ∀ n c, hget H3 n = some c → σ (π n) = n := fun n c h => by
    by_cases hn : n < L
    · rw [πlt n hn]; exact if_pos hn
    · rw [πge n hn]
      show (if L + cntS q (n - L) < L then _ else L + nthS q (L + cntS q (n - L) - L)) = n
      rw [if_neg (by omega), Nat.add_sub_cancel_left]
      rw [g3, if_neg hn] at h
      rw [cntS_nth q _ c h]; omega
  have up : ∀ n c, hget H3 n = some c → ∃ d, hget (sentL sn 0 M ++ absL (lq ++ nq)) (π n) = some d := fun n c h => by
    by_cases hn : n < L
    · rw [πlt n hn, gR, if_pos hn]
      rw [g3, if_pos hn] at h
      exact ⟨c, h⟩
    · rw [πge n hn, gR, if_neg (by omega), Nat.add_sub_cancel_left]
      rw [g3, if_neg hn] at h
      have : ∀ (H : Hp AV) (l : List AV), somes H = some l → ∀ n c, hget H n = some c → cntS H n < l.length := by
        intro H
        induction H with
        | nil => intro l _ n c h; cases n <;> simp [hget] at h
        | cons x r ih =>
          intro l hl n c h
          cases x with
          | none =>
            cases n with
            | zero => simp [hget] at h
            | succ n => exact ih l (by simpa [somes] using hl) n c h
          | some x =>
            cases x with
            | abs b =>
              simp only [somes] at hl
              split at hl
              · rename_i p hp
                cases hl
                cases n with
                | zero => simp [cntS]
                | succ n => simpa [cntS] using ih p hp n c h
              · cases hl
            | cells _ _ => simp [somes] at hl
            | vec _ _ _ => simp [somes] at hl
            | dead => simp [somes] at hl
      have hlt := this q nq h6 _ c h
      exact ⟨_, (absL_get _ _ _).2 ⟨_, List.getElem?_eq_getElem hlt, rfl⟩⟩
  obtain ⟨hv2, _, hcall⟩ := hc
  have clR : ClHp N (sentL sn 0 M ++ absL (lq ++ nq)) := by
    refine ⟨fun n c h => ?_, trivial⟩
    obtain ⟨_, a, rfl⟩ := src n c h
    intro c hc; cases hc
  have clv : ClV (sentL sn 0 M ++ absL (lq ++ nq)) (v.ren π) := hcl.ren up
  have dom0 : ∀ m c, hget (sentL sn 0 M ++ absL l) m = some c → m < L ∧ ∃ d, hget (sentL sn 0 M ++ absL (lq ++ nq)) m = some d := fun m c h => by
    have hm : m < L := by
      have := hget_lt h
      rw [List.length_append, lenS, absL_len] at this
      exact this
    refine ⟨hm, ?_⟩
    rw [gR, if_pos hm]
    rw [hget_append, lenS] at h ⊢
    split at h
    · rename_i hm'
      rw [if_pos hm']; exact ⟨c, h⟩
    · rename_i hm'
      rw [if_neg hm']
      obtain ⟨a, h1, _⟩ := (absL_get _ _ _).1 h
      have : m - M.length < lq.length := by rw [hl5]; exact (List.getElem?_eq_some_iff.1 h1).1
      exact ⟨_, (absL_get _ _ _).2 ⟨_, List.getElem?_eq_getElem this, rfl⟩⟩
  refine ⟨clv, clR, fun ρ w hO => ?_⟩
  obtain ⟨ρ1, o1, l1, f1⟩ := ho ρ w hO
  have hmap : args.map (SV.den ρ1) = args.map (SV.den ρ) := List.map_congr_left fun x hx => SV.den_congr (hargs x hx) fun m c h => l1 m (hget_lt h)
  rw [← hmap]
  refine (hcall ρ1 w o1).mono ?_
  rintro e w' ⟨ρ2, rfl, o2, hE⟩
  obtain ⟨ρ3, o3, l3, f3⟩ := hfl ρ2 w' o2
  let ρ4 : Nm := ⟨fun n => ρ3.L (σ n), fun n => ρ3.S (σ n)⟩
  have L4 : ∀ n, n < L → ρ4.L n = ρ3.L n := fun n h => by
    show ρ3.L (if n < L then n else _) = _
    rw [if_pos h]
  have fp4 : ∀ n (c : Chunk AV), (∃ a, c = .abs a) → c.fp ρ4 n = c.fp ρ3 (σ n) := fun n c ⟨a, e⟩ => by subst e; rfl
  refine ⟨ρ4, ?_, ⟨fun n c h => ?_, fun n m c d hne h h' k hk hk' => ?_, fun g hg => ?_⟩, ⟨fun m c h => (dom0 m c h).2, fun m c h => ?_, fun m hm h => ?_, ?_, fun k hk hno => ?_, fun m c k h hk => ?_, hE.os, hE.tape, hE.output, hE.size⟩⟩
  · congr 1
    rw [SV.den_ren]
    have e1 : v.den (ρ4.ren π) = v.den ρ3 := SV.den_congr hcl fun n c h => by
      show ρ3.L (σ (π n)) = _
      rw [σπ n c h]
    have e2 : v.den ρ3 = v.den ρ2 := SV.den_congr hv2 fun n c _ => l3 n
    rw [e1, e2]
  · obtain ⟨h1, a, rfl⟩ := src n c h
    exact o3.q (σ n) _ h1
  · obtain ⟨h1, ha⟩ := src n c h
    obtain ⟨h2, hb⟩ := src m d h'
    rw [fp4 n c ha] at hk
    rw [fp4 m d hb] at hk'
    exact o3.dis (σ n) (σ m) c d (fun e => hne (σinj n m c d h h' e)) h1 h2 k hk hk'
  · have : ρ4 g = ρ3 g := by
      show (ρ4.L g).b = (ρ3.L g).b
      rw [L4 g (by omega)]
    rw [this]; exact o3.glb g hg
  · obtain ⟨hm, _⟩ := dom0 m c h
    obtain ⟨c1, h1⟩ := h01 m c h
    rw [L4 m hm, l3, hE.agree m c1 h1, l1 m (hget_lt h)]
  · have hm' : m < L := by
      rw [List.length_append, lenS, absL_len] at hm
      exact hm
    rw [gR, if_pos hm']
    rw [hget_append, lenS] at h ⊢
    split
    · rename_i h1; rw [if_pos h1] at h; exact h
    · rename_i h1
      rw [if_neg h1] at h
      exfalso
      have : m - M.length < l.length := by omega
      have h2 := (absL_get l (m - M.length) _).2 ⟨_, List.getElem?_eq_getElem this, rfl⟩
      rw [h] at h2; cases h2
  · rw [List.length_append, List.length_append, absL_len, absL_len, List.length_append]; omega
  · refine hE.frame k hk fun m d hd hk' => ?_
    obtain ⟨m', d', h1, h2⟩ := f1 m d k hd hk'
    exact hno m' d' h1 h2
  · obtain ⟨h1, ha⟩ := src m c h
    rw [fp4 m c ha] at hk
    obtain ⟨m', d', h2, h3⟩ := f3 (σ m) c k h1 hk
    rcases hE.new m' d' k h2 h3 with h4 | ⟨m'', d'', h4, h5⟩
    · exact .inl h4
    · exact .inr (f1 m'' d'' k h4 h5)
end Go.Sx
