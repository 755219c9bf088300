/- Summaries of functions of objects: shown of a small heap (listed errors, then the objects), they hold of every heap. -/
import Derived.Test.YtmdojlkmgllhnaaGreatDoorSxOd
namespace Go.Sx
set_option linter.unusedVariables false
variable {AV : Type} {P : Program} {N : Env AV}
theorem ren_ren (π σ : Nat → Nat) : ∀ c : Cell, (c.ren σ).ren π = c.ren (fun n => π (σ n))
  | .ifc t c => by simp only [Cell.ren]; rw [ren_ren π σ c]
  | .ptr _ _ => rfl
  | .vel _ _ _ _ => rfl
  | .sl _ _ _ _ => rfl
  | .vs _ _ _ _ _ => rfl
  | .sf _ _ _ _ _ _ => rfl
  | .bl _ => rfl
  | .bt _ => rfl
  | .il _ _ => rfl
  | .it _ _ => rfl
  | .iv _ _ _ _ => rfl
  | .ir _ _ _ _ _ => rfl
  | .st _ => rfl
  | .pnil => rfl
  | .snil => rfl
  | .sx _ _ => rfl
  | .inil => rfl
  | .fn _ => rfl
  | .nfn => rfl
  | .op _ _ => rfl
  | .mp _ => rfl
theorem ren_id {π : Nat → Nat} : ∀ c : Cell, (∀ n, c.name = some n → π n = n) → c.ren π = c
  | .ifc t c, h => by simp only [Cell.ren]; rw [ren_id c h]
  | .ptr n _, h => by simp only [Cell.ren]; rw [h n rfl]
  | .vel n _ _ _, h => by simp only [Cell.ren]; rw [h n rfl]
  | .sl n _ _ _, h => by simp only [Cell.ren]; rw [h n rfl]
  | .vs n _ _ _ _, h => by simp only [Cell.ren]; rw [h n rfl]
  | .sf n _ _ _ _ _, h => by simp only [Cell.ren]; rw [h n rfl]
  | .bl _, h => rfl
  | .bt _, h => rfl
  | .il _ _, h => rfl
  | .it _ _, h => rfl
  | .iv _ _ _ _, h => rfl
  | .ir _ _ _ _ _, h => rfl
  | .st _, h => rfl
  | .pnil, h => rfl
  | .snil, h => rfl
  | .sx _ _, h => rfl
  | .inil, h => rfl
  | .fn _, h => rfl
  | .nfn, h => rfl
  | .op _ _, h => rfl
  | .mp _, h => rfl
theorem mem_nmL {l : List Cell} {n : Nat} : n ∈ namesL l ↔ ∃ c ∈ l, c.name = some n := by
  induction l with
  | nil => simp [namesL]
  | cons c r ih =>
    simp only [namesL]
    cases h : c.name with
    | none => simp [ih, h]
    | some m => simp [ih, h, eq_comm]
theorem v1_ren_id {π σ : Nat → Nat} {x : V1} (h : ∀ n ∈ namesL x.cells, π (σ n) = n) : (x.ren σ).ren π = x := by
  have one : ∀ l : List Cell, (∀ n ∈ namesL l, π (σ n) = n) → (l.map (Cell.ren σ)).map (Cell.ren π) = l := fun l hl => by
    rw [List.map_map]
    conv => rhs; rw [← List.map_id l]
    refine List.map_congr_left fun c hc => ?_
    show (c.ren σ).ren π = c
    rw [ren_ren]
    exact ren_id c fun n hn => hl n (mem_nmL.2 ⟨c, hc, hn⟩)
  cases x with
  | c c =>
    show V1.c ((c.ren σ).ren π) = _
    rw [ren_ren, ren_id c fun n hn => h n (mem_nmL.2 ⟨c, List.mem_singleton.2 rfl, hn⟩)]
  | agg l => exact congrArg V1.agg (one l h)
theorem mem_namesV1s {l : List V1} {n : Nat} : n ∈ namesV1s l ↔ ∃ x ∈ l, n ∈ namesL x.cells := by
  induction l with
  | nil => simp [namesV1s]
  | cons x r ih => simp [namesV1s, ih]
theorem sv_ren_id {π σ : Nat → Nat} {x : SV} (h : ∀ n ∈ namesV x, π (σ n) = n) : (x.ren σ).ren π = x := by
  cases x with
  | v x => exact congrArg SV.v (v1_ren_id h)
  | tup l =>
    refine congrArg SV.tup ?_
    rw [List.map_map]
    conv => rhs; rw [← List.map_id l]
    exact List.map_congr_left fun x hx => v1_ren_id fun n hn => h n (mem_namesV1s.2 ⟨x, hx, hn⟩)
  | unk => rfl
theorem mem_namesVs {l : List SV} {n : Nat} : n ∈ namesVs l ↔ ∃ x ∈ l, n ∈ namesV x := by
  induction l with
  | nil => simp [namesVs]
  | cons x r ih => simp [namesVs, ih]
/-- the names of a list, each once, in the order of the first ones -/
def uniq : List Nat → List Nat → List Nat
  | acc, [] => acc
  | acc, x :: r => match hasN acc x with | true => uniq acc r | false => uniq (acc ++ [x]) r
theorem uniq_spec : ∀ (l acc : List Nat), acc.Nodup → (uniq acc l).Nodup ∧ ∀ n, n ∈ uniq acc l ↔ n ∈ acc ∨ n ∈ l
  | [], acc, h => ⟨h, fun n => by simp [uniq]⟩
  | x :: r, acc, h => by
    simp only [uniq]
    split
    · rename_i hx
      have hx := (hasN_iff _ _).1 hx
      obtain ⟨h1, h2⟩ := uniq_spec r acc h
      refine ⟨h1, fun n => ?_⟩
      rw [h2, List.mem_cons]
      constructor
      · rintro (h | h)
        · exact .inl h
        · exact .inr (.inr h)
      · rintro (h | rfl | h)
        · exact .inl h
        · exact .inl hx
        · exact .inr h
    · rename_i hx
      have hx : x ∉ acc := fun e => by rw [(hasN_iff _ _).2 e] at hx; cases hx
      obtain ⟨h1, h2⟩ := uniq_spec r (acc ++ [x]) (by
        rw [List.nodup_append]
        refine ⟨h, by simp, ?_⟩
        intro a ha b hb e
        rw [List.mem_singleton.1 hb] at e
        exact hx (e ▸ ha))
      refine ⟨h1, fun n => ?_⟩
      rw [h2]
      simp [or_assoc]
/-- where a name stands in a list -/
def idxN : List Nat → Nat → Nat
  | [], _ => 0
  | x :: r, n => match Nat.beq x n with | true => 0 | false => idxN r n + 1
theorem idxN_get : ∀ {l : List Nat} {n : Nat}, n ∈ l → l[idxN l n]? = some n
  | [], n, h => by cases h
  | x :: r, n, h => by
    simp only [idxN]
    cases e : Nat.beq x n with
    | true => simp [(beq_iff _ _).1 e]
    | false =>
      have := (beq_false_iff _ _).1 e
      simp only [List.getElem?_cons_succ]
      rcases List.mem_cons.1 h with rfl | h
      · exact absurd rfl this
      · exact idxN_get h
theorem nodup_get : ∀ {l : List Nat}, l.Nodup → ∀ {i j n : Nat}, l[i]? = some n → l[j]? = some n → i = j
  | [], _, i, j, n, h, _ => by simp at h
  | x :: r, hd, i, j, n, h1, h2 => by
    obtain ⟨hx, hr⟩ := List.nodup_cons.1 hd
    cases i with
    | zero =>
      simp only [List.getElem?_cons_zero, Option.some.injEq] at h1
      subst h1
      cases j with
      | zero => rfl
      | succ j => exact absurd (List.mem_of_getElem? (by simpa using h2)) hx
    | succ i =>
      simp only [List.getElem?_cons_succ] at h1
      cases j with
      | zero =>
        simp only [List.getElem?_cons_zero, Option.some.injEq] at h2
        subst h2
        exact absurd (List.mem_of_getElem? h1) hx
      | succ j => exact congrArg (· + 1) (nodup_get hr h1 (by simpa using h2))
def absAll (H : Hp AV) : List Nat → Option (List AV)
  | [] => some []
  | n :: r => match hget H n with
    | some (.abs a) => match absAll H r with | some l => some (a :: l) | none => none
    | _ => none
theorem absAll_spec {H : Hp AV} : ∀ {ns : List Nat} {l : List AV}, absAll H ns = some l → l.length = ns.length ∧ ∀ (i n : Nat), ns[i]? = some n → ∃ a : AV, l[i]? = some a ∧ hget H n = some (.abs a)
  | [], l, h => by simp only [absAll, Option.some.injEq] at h; subst h; exact ⟨rfl, fun i n h => by simp at h⟩
  | n :: r, l, h => by
    simp only [absAll] at h
    split at h
    · rename_i a ha
      split at h
      · rename_i l' hl
        cases h
        obtain ⟨h1, h2⟩ := absAll_spec hl
        refine ⟨congrArg (· + 1) h1, fun i m hm => ?_⟩
        cases i with
        | zero => cases hm; exact ⟨a, rfl, ha⟩
        | succ i => exact h2 i m hm
      · cases h
    · cases h
/-- the listed errors that are wanted; i: the first number -/
def sentL (sn : Nat → AV) : Nat → List Bool → Hp AV
  | _, [] => []
  | i, b :: r => (match b with | true => some (.abs (sn i)) | false => none) :: sentL sn (i + 1) r
theorem sentL_len (sn : Nat → AV) : ∀ (M : List Bool) (i : Nat), (sentL sn i M).length = M.length
  | [], i => rfl
  | b :: r, i => congrArg (· + 1) (sentL_len sn r (i + 1))
theorem sentL_get (sn : Nat → AV) : ∀ (M : List Bool) (i n : Nat) (c : Chunk AV), hget (sentL sn i M) n = some c ↔ M[n]? = some true ∧ c = .abs (sn (i + n))
  | [], i, n, c => by cases n <;> simp [sentL, hget]
  | b :: r, i, 0, c => by cases b <;> simp [sentL, hget, eq_comm]
  | b :: r, i, n + 1, c => by
    simp only [sentL, hget, List.getElem?_cons_succ]
    rw [sentL_get sn r (i + 1) n c, show i + 1 + n = i + (n + 1) by omega]
def absL (l : List AV) : Hp AV := l.map fun a => some (.abs a)
theorem absL_get (l : List AV) (n : Nat) (c : Chunk AV) : hget (absL l) n = some c ↔ ∃ a, l[n]? = some a ∧ c = .abs a := by
  induction l generalizing n with
  | nil => cases n <;> simp [absL, hget]
  | cons a r ih =>
    cases n with
    | zero => simp [absL, hget, eq_comm]
    | succ n => exact ih n
theorem absL_len (l : List AV) : (absL l).length = l.length := by simp [absL]
/-- does a heap have the errors that are wanted? -/
def globsB (isS : AV → Nat → Bool) : Nat → List Bool → Hp AV → Bool
  | _, [], _ => true
  | i, b :: m, x :: r => match b with
    | false => globsB isS (i + 1) m r
    | true => match x with
      | some (.abs a) => match isS a i with | true => globsB isS (i + 1) m r | false => false
      | _ => false
  | _, _ :: _, [] => false
theorem globsB_spec {isS : AV → Nat → Bool} {sn : Nat → AV} (hs : ∀ a i, isS a i = true → a = sn i) : ∀ {M : List Bool} {i : Nat} {H : Hp AV}, globsB isS i M H = true → M.length ≤ H.length ∧ ∀ n, M[n]? = some true → hget H n = some (.abs (sn (i + n)))
  | [], i, H, h => ⟨by simp, fun n h => by simp at h⟩
  | b :: m, i, [], h => by simp [globsB] at h
  | b :: m, i, x :: r, h => by
    have go : ∀ (h' : globsB isS (i + 1) m r = true) (h0 : b = true → x = some (.abs (sn i))), (b :: m).length ≤ (x :: r).length ∧ ∀ n, (b :: m)[n]? = some true → hget (x :: r) n = some (.abs (sn (i + n))) := fun h' h0 => by
      obtain ⟨h1, h2⟩ := globsB_spec hs h'
      refine ⟨by simpa using h1, fun n hn => ?_⟩
      cases n with
      | zero =>
        simp only [List.getElem?_cons_zero, Option.some.injEq] at hn
        exact h0 hn
      | succ n =>
        simp only [List.getElem?_cons_succ] at hn
        have := h2 n hn
        rw [show i + 1 + n = i + (n + 1) by omega] at this
        exact this
    cases b with
    | false => exact go (by simpa [globsB] using h) (fun e => by cases e)
    | true =>
      simp only [globsB] at h
      split at h
      · split at h
        · rename_i ha
          exact go h (fun _ => by rw [hs _ i ha])
        · cases h
      · cases h
def putAll : List Nat → List AV → Hp AV → Hp AV
  | n :: r, a :: l, H => putAll r l (lset H n (some (.abs a)))
  | _, _, H => H
theorem putAll_len : ∀ (ns : List Nat) (l : List AV) (H : Hp AV), (putAll ns l H).length = H.length
  | [], l, H => by cases l <;> rfl
  | n :: r, [], H => rfl
  | n :: r, a :: l, H => by
    show (putAll r l (lset H n (some (.abs a)))).length = _
    rw [putAll_len r l, length_lset]
theorem putAll_out : ∀ (ns : List Nat) (l : List AV) (H : Hp AV) (m : Nat), m ∉ ns → hget (putAll ns l H) m = hget H m
  | [], l, H, m, h => by cases l <;> rfl
  | n :: r, [], H, m, h => rfl
  | n :: r, a :: l, H, m, h => by
    show hget (putAll r l (lset H n (some (.abs a)))) m = _
    rw [putAll_out r l _ m (fun e => h (List.mem_cons_of_mem _ e)), hget_lset_ne _ (fun e => h (by rw [e]; exact List.mem_cons_self))]
theorem putAll_in : ∀ (ns : List Nat) (l : List AV) (H : Hp AV), ns.Nodup → (∀ n ∈ ns, n < H.length) → ∀ (i n : Nat) (a : AV), ns[i]? = some n → l[i]? = some a → hget (putAll ns l H) n = some (.abs a)
  | [], l, H, h, hl, i, n, a, h1, h2 => by simp at h1
  | n :: r, [], H, h, hl, i, m, a, h1, h2 => by simp at h2
  | n :: r, b :: l, H, h, hl, i, m, a, h1, h2 => by
    show hget (putAll r l (lset H n (some (.abs b)))) m = _
    obtain ⟨hn, hr⟩ := List.nodup_cons.1 h
    cases i with
    | zero =>
      simp only [List.getElem?_cons_zero, Option.some.injEq] at h1 h2
      subst h1 h2
      rw [putAll_out r l _ _ hn, hget_lset_self _ (hl _ List.mem_cons_self)]
    | succ i =>
      simp only [List.getElem?_cons_succ] at h1 h2
      exact putAll_in r l _ hr (fun x hx => by rw [length_lset]; exact hl x (List.mem_cons_of_mem _ hx)) i m a h1 h2
def allGe (G : Nat) : List Nat → Bool
  | [] => true
  | n :: r => match Nat.ble G n with | true => allGe G r | false => false
theorem allGe_spec {G : Nat} : ∀ {l : List Nat}, allGe G l = true → ∀ n ∈ l, G ≤ n
  | [], _, n, h => by cases h
  | x :: r, h, n, hn => by
    simp only [allGe] at h
    split at h
    · rename_i hx
      rcases List.mem_cons.1 hn with rfl | hn
      · exact Nat.le_of_ble_eq_true hx
      · exact allGe_spec h n hn
    · cases h
/-- the small heap's names, where they stand in the great one -/
def outN (G : Nat) (ns : List Nat) (L i : Nat) : Nat := match Nat.blt i G with
  | true => i
  | false => match nth ns (i - G) with
    | some n => n
    | none => L + (i - G - ns.length)
theorem outN_lt {G : Nat} {ns : List Nat} {L i : Nat} (h : i < G) : outN G ns L i = i := by
  unfold outN
  have e : Nat.blt i G = true := by simpa [Nat.blt_eq] using h
  rw [e]
theorem outN_in {G : Nat} {ns : List Nat} {L j n : Nat} (h : ns[j]? = some n) : outN G ns L (G + j) = n := by
  unfold outN
  have e : Nat.blt (G + j) G = false := by
    cases e : Nat.blt (G + j) G with
    | false => rfl
    | true => rw [Nat.blt_eq] at e; omega
  rw [e, Nat.add_sub_cancel_left, nth_eq, h]
theorem outN_new {G : Nat} {ns : List Nat} {L j : Nat} : outN G ns L (G + ns.length + j) = L + j := by
  unfold outN
  have e : Nat.blt (G + ns.length + j) G = false := by
    cases e : Nat.blt (G + ns.length + j) G with
    | false => rfl
    | true => rw [Nat.blt_eq] at e; omega
  have e2 : nth ns (G + ns.length + j - G) = none := by
    rw [nth_eq, List.getElem?_eq_none]; omega
  rw [e]
  simp only [e2]
  omega
/-- A SUMMARY OF OBJECTS: 'tree': from the arguments (the objects' names: G, G + 1, ..) and the objects to the value, the objects behind it, and new ones -/
def sumG (isS : AV → Nat → Bool) (M : List Bool) (tree : List SV → List AV → T (SV × List AV × List AV)) (args : List SV) (H : Hp AV) : T (SV × Hp AV) :=
  match globsB isS 0 M H with
  | false => .fail "summary: variables"
  | true => match uniq [] (namesVs args) with
    | ns => match absAll H ns, allGe M.length ns with
      | some l, true => (tree (args.map (SV.ren fun n => M.length + idxN ns n)) l).bind fun r => match Nat.beq r.2.1.length l.length with
        | true => .leaf (r.1.ren (outN M.length ns H.length), putAll ns r.2.1 H ++ absL r.2.2)
        | false => .fail "summary: objects"
      | _, _ => .fail "summary: objects"
theorem sumG_ok {isS : AV → Nat → Bool} {sn : Nat → AV} (hs : ∀ a i, isS a i = true → a = sn i) {M : List Bool} (hG : N.G = M.length) {tree : List SV → List AV → T (SV × List AV × List AV)} {f : FuncId}
    (h : ∀ args l v l' nw, (tree args l).val = some (v, l', nw) → l'.length = l.length → (∀ x ∈ args, ClV (sentL sn 0 M ++ absL l) x) → Ctr P N f args (sentL sn 0 M ++ absL l) v (sentL sn 0 M ++ absL (l' ++ nw))) : FnOk P N f (sumG isS M tree) := by
  refine FnOk.of fun args H v H' hr ha hC => ?_
  unfold sumG at hr
  split at hr
  · simp [T.val] at hr
  rename_i hgl
  obtain ⟨hML, hgl⟩ := globsB_spec hs hgl
  dsimp only at hr
  obtain ⟨hnd, hmem⟩ := uniq_spec (namesVs args) [] List.nodup_nil
  generalize uniq [] (namesVs args) = ns at hr hnd hmem
  split at hr
  · rename_i l hl hge
    obtain ⟨⟨v1, l', nw⟩, ht, hr⟩ := T.bind_some hr
    split at hr
    · rename_i hlen
      have hlen : l'.length = l.length := (beq_iff _ _).1 hlen
      simp only [T.val, Option.some.injEq, Prod.mk.injEq] at hr
      obtain ⟨rfl, rfl⟩ := hr
      obtain ⟨al1, al2⟩ := absAll_spec hl
      have hge := allGe_spec hge
      have hnlt : ∀ n ∈ ns, n < H.length := fun n hn => by
        obtain ⟨i, hi⟩ := List.mem_iff_getElem?.1 hn
        obtain ⟨a, _, h2⟩ := al2 i n hi
        exact hget_lt h2
      let G := M.length
      let π := outN G ns H.length
      have back : ∀ x ∈ args, ((x.ren fun n => G + idxN ns n).ren π) = x := fun x hx => sv_ren_id fun n hn => by
        have : n ∈ ns := (hmem n).2 (.inr (mem_namesVs.2 ⟨x, hx, hn⟩))
        exact outN_in (idxN_get this)
      have eargs : args = (args.map (SV.ren fun n => G + idxN ns n)).map (SV.ren π) := by
        rw [List.map_map]
        conv => lhs; rw [← List.map_id args]
        exact List.map_congr_left fun x hx => (back x hx).symm
      -- the small heap before and behind
      have lenS : (sentL sn 0 M).length = G := sentL_len sn M 0
      have getS : ∀ (q : List AV) i c, hget (sentL sn 0 M ++ absL q) i = some c ↔ (i < G ∧ M[i]? = some true ∧ c = .abs (sn i)) ∨ ∃ j a, i = G + j ∧ q[j]? = some a ∧ c = .abs a := fun q i c => by
        rw [hget_append, lenS]
        by_cases hi : i < G
        · rw [if_pos hi, sentL_get, Nat.zero_add]
          constructor
          · rintro ⟨h1, h2⟩; exact .inl ⟨hi, h1, h2⟩
          · rintro (⟨_, h1, h2⟩ | ⟨j, a, h1, _⟩)
            · exact ⟨h1, h2⟩
            · omega
        · rw [if_neg hi, absL_get]
          constructor
          · rintro ⟨a, h1, h2⟩; exact .inr ⟨i - G, a, by omega, h1, h2⟩
          · rintro (⟨h1, _⟩ | ⟨j, a, rfl, h1, h2⟩)
            · exact absurd h1 hi
            · rw [Nat.add_sub_cancel_left]; exact ⟨a, h1, h2⟩
      have argcl : ∀ x ∈ args.map (SV.ren fun n => G + idxN ns n), ClV (sentL sn 0 M ++ absL l) x := fun y hy => by
        obtain ⟨x, hx, rfl⟩ := List.mem_map.1 hy
        have one : ∀ z : V1, (∀ n ∈ namesL z.cells, n ∈ ns) → ClV1 (sentL sn 0 M ++ absL l) (z.ren fun n => G + idxN ns n) := fun z hz => by
          have hlist : ∀ cs : List Cell, (∀ n ∈ namesL cs, n ∈ ns) → ClL (sentL sn 0 M ++ absL l) (cs.map (Cell.ren fun n => G + idxN ns n)) := fun cs hcs c hc n hn => by
            obtain ⟨d, hd, rfl⟩ := List.mem_map.1 hc
            rw [name_ren] at hn
            obtain ⟨m, hm, rfl⟩ := Option.map_eq_some_iff.1 hn
            have := hcs m (mem_nmL.2 ⟨d, hd, hm⟩)
            obtain ⟨a, h1, _⟩ := al2 _ _ (idxN_get this)
            exact ⟨.abs a, (getS l _ _).2 (.inr ⟨_, a, rfl, h1, rfl⟩)⟩
          cases z with
          | c c =>
            have := hlist [c] hz
            simpa [ClV1, V1.cells, V1.ren] using this
          | agg cs => exact hlist cs hz
        have hx' : ∀ n ∈ namesV x, n ∈ ns := fun n hn => (hmem n).2 (.inr (mem_namesVs.2 ⟨x, hx, hn⟩))
        cases x with
        | v x => exact one x hx'
        | tup q =>
          intro z hz
          obtain ⟨z', hz', rfl⟩ := List.mem_map.1 hz
          exact one z' fun n hn => hx' n (mem_namesV1s.2 ⟨z', hz', hn⟩)
        | unk => trivial
      have hc := h _ l v1 l' nw ht hlen argcl
      rw [eargs]
      have πlt : ∀ i, i < G → π i = i := fun i hi => outN_lt hi
      have lenP := putAll_len ns l' H
      -- where the small heap's things stand behind
      have stand : ∀ j a, (l' ++ nw)[j]? = some a → (∃ n, ns[j]? = some n ∧ π (G + j) = n ∧ hget (putAll ns l' H ++ absL nw) n = some (.abs a)) ∨ (ns.length ≤ j ∧ π (G + j) = H.length + (j - ns.length) ∧ hget (putAll ns l' H ++ absL nw) (H.length + (j - ns.length)) = some (.abs a)) := fun j a hj => by
        by_cases hjl : j < ns.length
        · have h1 : ns[j]? = some ns[j] := List.getElem?_eq_getElem hjl
          rw [List.getElem?_append_left (by omega)] at hj
          refine .inl ⟨ns[j], h1, outN_in h1, ?_⟩
          rw [hget_append, lenP, if_pos (hnlt _ (List.getElem_mem hjl))]
          exact putAll_in ns l' H hnd hnlt j _ a h1 hj
        · rw [List.getElem?_append_right (by omega)] at hj
          refine .inr ⟨by omega, ?_, ?_⟩
          · have := outN_new (G := G) (ns := ns) (L := H.length) (j := j - ns.length)
            rw [show G + ns.length + (j - ns.length) = G + j by omega] at this
            exact this
          · rw [hget_append, lenP, if_neg (by omega), Nat.add_sub_cancel_left]
            refine (absL_get nw _ _).2 ⟨a, ?_, rfl⟩
            rw [hlen, al1] at hj
            exact hj
      refine ctr_embed (π := π) hc (B' := putAll ns l' H ++ absL nw) ?_ ?_ ?_ ?_ hC ?_ ?_ ?_ ?_ ?_ ?_ ?_
      · intro i c hi
        rcases (getS l i c).1 hi with ⟨h1, h2, rfl⟩ | ⟨j, a, rfl, h1, rfl⟩
        · rw [πlt i h1]
          have := hgl i h2
          rw [Nat.zero_add] at this
          exact this
        · have hjl : j < ns.length := by rw [← al1]; exact (List.getElem?_eq_some_iff.1 h1).1
          have h2 : ns[j]? = some ns[j] := List.getElem?_eq_getElem hjl
          obtain ⟨a', h3, h4⟩ := al2 j _ h2
          rw [h1] at h3
          cases h3
          rw [show π (G + j) = ns[j] from outN_in h2]
          exact h4
      · intro i j c d hi hj e
        rcases (getS _ i c).1 hi with ⟨h1, _, _⟩ | ⟨x, a, rfl, h1, _⟩ <;> rcases (getS _ j d).1 hj with ⟨g1, _, _⟩ | ⟨y, b, rfl, g1, _⟩
        · rw [πlt i h1, πlt j g1] at e; exact e
        · rw [πlt i h1] at e
          rcases stand y b g1 with ⟨n, s1, s2, _⟩ | ⟨s0, s1, _⟩
          · rw [s2] at e
            have := hge n (List.mem_of_getElem? s1)
            omega
          · rw [s1] at e; omega
        · rw [πlt j g1] at e
          rcases stand x a h1 with ⟨n, s1, s2, _⟩ | ⟨s0, s1, _⟩
          · rw [s2] at e
            have := hge n (List.mem_of_getElem? s1)
            omega
          · rw [s1] at e; omega
        · rcases stand x a h1 with ⟨n, s1, s2, _⟩ | ⟨s0, s1, _⟩ <;> rcases stand y b g1 with ⟨m, t1, t2, _⟩ | ⟨t0, t1, _⟩
          · rw [s2, t2] at e
            subst e
            have := nodup_get hnd s1 t1
            omega
          · rw [s2, t1] at e
            have := hnlt n (List.mem_of_getElem? s1)
            omega
          · rw [s1, t2] at e
            have := hnlt m (List.mem_of_getElem? t1)
            omega
          · rw [s1, t1] at e; omega
      · intro i c hi
        rcases (getS l i c).1 hi with ⟨h1, h2, rfl⟩ | ⟨j, a, rfl, h1, rfl⟩
        · exact ⟨_, (getS _ _ _).2 (.inl ⟨h1, h2, rfl⟩)⟩
        · have hj : j < l'.length := by rw [hlen]; exact (List.getElem?_eq_some_iff.1 h1).1
          exact ⟨_, (getS _ _ _).2 (.inr ⟨j, _, rfl, by rw [List.getElem?_append_left hj]; exact List.getElem?_eq_getElem hj, rfl⟩)⟩
      · intro g hg
        rw [hG] at hg
        exact πlt g hg
      · intro i c hi hno
        rcases (getS _ i c).1 hi with ⟨h1, h2, rfl⟩ | ⟨j, a, rfl, h1, rfl⟩
        · have := (getS l i _).2 (.inl ⟨h1, h2, rfl⟩)
          rw [hno] at this; cases this
        · by_cases hj : j < l.length
          · have := (getS l (G + j) _).2 (.inr ⟨j, _, rfl, List.getElem?_eq_getElem hj, rfl⟩)
            rw [hno] at this; cases this
          · rcases stand j a h1 with ⟨n, s1, _, _⟩ | ⟨_, s1, _⟩
            · have := (List.getElem?_eq_some_iff.1 s1).1
              omega
            · rw [s1]; omega
      · rw [hG]; exact hML
      · intro m c hm
        rw [hget_append, lenP] at hm
        split at hm
        · rename_i hml
          by_cases hmn : m ∈ ns
          · obtain ⟨j, hj⟩ := List.mem_iff_getElem?.1 hmn
            have hj' : j < l'.length := by rw [hlen, al1]; exact (List.getElem?_eq_some_iff.1 hj).1
            have := putAll_in ns l' H hnd hnlt j m _ hj (List.getElem?_eq_getElem hj')
            rw [this] at hm
            cases hm
            exact .inl ⟨G + j, _, (outN_in hj).symm, (getS _ _ _).2 (.inr ⟨j, _, rfl, by rw [List.getElem?_append_left hj']; exact List.getElem?_eq_getElem hj', rfl⟩), rfl⟩
          · rw [putAll_out ns l' H m hmn] at hm
            by_cases hmg : m < G ∧ M[m]? = some true
            · have := hgl m hmg.2
              rw [Nat.zero_add, hm] at this
              cases this
              exact .inl ⟨m, _, (πlt m hmg.1).symm, (getS _ _ _).2 (.inl ⟨hmg.1, hmg.2, rfl⟩), rfl⟩
            · refine .inr ⟨hm, fun i d hi e => ?_⟩
              rcases (getS _ i d).1 hi with ⟨h1, h2, rfl⟩ | ⟨j, a, rfl, h1, rfl⟩
              · rw [πlt i h1] at e
                subst e
                exact hmg ⟨h1, h2⟩
              · rcases stand j a h1 with ⟨n, s1, s2, _⟩ | ⟨_, s1, _⟩
                · rw [s2] at e
                  subst e
                  exact hmn (List.mem_of_getElem? s1)
                · rw [s1] at e; omega
        · rename_i hml
          obtain ⟨a, h1, rfl⟩ := (absL_get _ _ _).1 hm
          refine .inl ⟨G + (ns.length + (m - H.length)), .abs a, ?_, (getS _ _ _).2 (.inr ⟨_, a, rfl, by rw [List.getElem?_append_right (by omega), hlen, al1, Nat.add_sub_cancel_left]; exact h1, rfl⟩), rfl⟩
          have := outN_new (G := G) (ns := ns) (L := H.length) (j := m - H.length)
          rw [show G + (ns.length + (m - H.length)) = G + ns.length + (m - H.length) by omega]
          rw [show π (G + ns.length + (m - H.length)) = _ from this]
          omega
      · intro i d hi
        rcases (getS _ i d).1 hi with ⟨h1, h2, rfl⟩ | ⟨j, a, rfl, h1, rfl⟩
        · rw [πlt i h1, hget_append, lenP, if_pos (by omega), putAll_out]
          · have := hgl i h2
            rw [Nat.zero_add] at this
            exact this
          · intro hmem
            have := hge i hmem
            omega
        · rcases stand j a h1 with ⟨n, _, s2, s3⟩ | ⟨_, s2, s3⟩
          · rw [s2]; exact s3
          · rw [s2]; exact s3
      · intro m c hm
        by_cases hmn : m ∈ ns
        · obtain ⟨j, hj⟩ := List.mem_iff_getElem?.1 hmn
          have hj' : j < l'.length := by rw [hlen, al1]; exact (List.getElem?_eq_some_iff.1 hj).1
          exact ⟨_, by rw [hget_append, lenP, if_pos (hget_lt hm)]; exact putAll_in ns l' H hnd hnlt j m _ hj (List.getElem?_eq_getElem hj')⟩
        · exact ⟨c, by rw [hget_append, lenP, if_pos (hget_lt hm), putAll_out ns l' H m hmn]; exact hm⟩
      · intro m hm hno
        rw [hget_append, lenP, if_pos hm, putAll_out]
        · exact hno
        · intro hmn
          obtain ⟨j, hj⟩ := List.mem_iff_getElem?.1 hmn
          obtain ⟨a, _, h2⟩ := al2 j m hj
          rw [hno] at h2; cases h2
      · rw [List.length_append, lenP]; omega
    · simp [T.val] at hr
  · simp [T.val] at hr
end Go.Sx
