/- The symbolic executor: what one operation does to the heap, and that operations that touch different blocks may change places. -/
import Derived.Test.YtmdojlkmgllhnaaGreatDoorSxJ
namespace Go.Sx
variable {AV : Type} {N : Env AV}

/-- the effect of one operation: its value, the heap behind it, what it touches -/
def eff (N : Env AV) (cal : Callee AV) (W : Bool) (nm : Nat) (o : Op) (ev : Operand → Option SV) (H : Hp AV) : Option (SV × Hp AV × Ent) :=
  match W with
  | false => some (undefV, H, .pure)
  | true => match callee? N ev o with
    | some (some (g, l)) => (callV cal (gnames N g) g l H).val.map fun r => (r.1, r.2, entOf N nm ev H r.2 o)
    | some none => none
    | none => (light N nm ev H o).val.map fun r => (r.1, updH H r.2, entOf N nm ev H (updH H r.2) o)
theorem step1_eff {cal : Callee AV} {base : Nat} {all : List Oper} {i : Nat} {o : Oper} {s : St AV} :
    (step1 N cal base all i o s).val = (wantedS all o s.E).bind fun p => (eff N cal p.1 (nmOf all base i) o.op (evl N.G s.H s.E) s.H).map fun r => ({ E := putE s.E o.dst r.1, H := r.2.1 }, r.2.2) := by
  rw [step1_val]
  unfold step1v eff stepOp
  cases wantedS all o s.E with
  | none => rfl
  | some p =>
    obtain ⟨b, k⟩ := p
    simp only [Option.bind_some]
    cases b with
    | false => simp
    | true =>
      simp only [if_true]
      split
      · rename_i g l h
        simp only [h]
        rw [T.val_bind]
        cases (callV cal (gnames N g) g l s.H).val with
        | none => rfl
        | some r => rfl
      · rename_i h; simp [h, T.val]
      · rename_i h
        simp only [h]
        rw [T.val_bind]
        cases (light N (nmOf all base i) (evl N.G s.H s.E) s.H o.op).val with
        | none => rfl
        | some r => rfl

theorem evlP_congr {ev ev' : Operand → Option SV} : ∀ l : List (Nat × Operand), (∀ p ∈ l, ev p.2 = ev' p.2) → evlP ev l = evlP ev' l
  | [], _ => rfl
  | (i, x) :: l, hl => by
    simp only [evlP]
    rw [hl (i, x) (by simp), evlP_congr l (fun q hq => hl q (by simp [hq]))]
/-- a new array hangs on its name alone -/
theorem lightArr_val {nm : Nat} {H : Hp AV} {arr : Option Arr} {r : SV × Option (Nat × Chunk AV)} (h : (lightArr N nm H arr).val = some r) : hget H nm = none ∧ nm < H.length ∧ (∃ c, r.2 = some (nm, c)) ∧
    ∀ H2 : Hp AV, hget H2 nm = none → nm < H2.length → (lightArr N nm H2 arr).val = some r := by
  unfold lightArr at h
  split at h
  · split at h
    · rename_i h2 h3 h4
      simp only [T.val, Option.some.injEq] at h
      subst h
      refine ⟨h2, (blt_iff _ _).1 h3, ⟨_, rfl⟩, fun H2 e2 hl => ?_⟩
      have e3 := (blt_iff _ _).2 hl
      simp only [lightArr, e2, e3, h4, T.val]
    · simp [T.val] at h
  · simp [T.val] at h
/-- operands alone matter -/
theorem pureOp_congr {ev ev' : Operand → Option SV} (o : Op) (h : ∀ x ∈ o.operands, ev x = ev' x) : pureOp N ev o = pureOp N ev' o := by
  cases o <;> simp only [pureOp] <;> simp only [Op.operands] at h
  case move x => rw [h x (by simp)]
  case assign x => rw [h x (by simp)]
  case pick c a b => rw [h c (by simp), h a (by simp), h b (by simp)]
  case build t ps =>
    have : ∀ l : List (Nat × Operand), (∀ p ∈ l, ev p.2 = ev' p.2) → evlP ev l = evlP ev' l := by
      intro l
      induction l with
      | nil => intro _; rfl
      | cons p l ih =>
        intro hl
        obtain ⟨i, x⟩ := p
        simp only [evlP]
        rw [hl (i, x) (by simp), ih (fun q hq => hl q (by simp [hq]))]
    rw [this ps.toList (fun p hp => h p.2 (by simp; exact ⟨p.1, Array.mem_toList_iff.1 hp⟩))]
  case nilCheck x => rw [h x (by simp)]
  case fieldAddr t x i => rw [h x (by simp)]
  case field t x i => rw [h x (by simp)]
  case binOp op t x y t' => rw [h x (by simp), h y (by simp)]
  case unOp op t x => cases op <;> simp only []; rw [h x (by simp)]
  case extract x i => rw [h x (by simp)]
  case makeInterface t x => rw [h x (by simp)]
  case indexAddr t x i => rw [h x (by simp), h i (by simp)]
  case index t x i => rw [h x (by simp), h i (by simp)]
  case convert a b x => rw [h x (by simp)]
  case call c =>
    split
    · split
      · rename_i x t hx ht
        rw [h x (by simp only [Call.operands, Array.mem_append]; exact .inr (by rw [← Array.mem_toList_iff, hx]; simp))]
      · rfl
    · rfl
theorem evls_congr {ev ev' : Operand → Option SV} : ∀ (l : List Operand), (∀ x ∈ l, ev x = ev' x) → evls ev l = evls ev' l
  | [], _ => rfl
  | x :: r, h => by simp only [evls]; rw [h x (by simp), evls_congr r (fun y hy => h y (by simp [hy]))]
theorem callee_congr {ev ev' : Operand → Option SV} (o : Op) (h : ∀ x ∈ o.operands, ev x = ev' x) : callee? N ev o = callee? N ev' o := by
  unfold callee?
  split
  · rw [evls_congr o.operands.toList (fun x hx => h x (Array.mem_toList_iff.1 hx))]
  · rename_i hh
    clear hh
    cases o <;> simp only []
    case call c =>
      simp only [Op.operands, Call.operands] at h
      split
      · rename_i f hf
        rw [h f (by rw [hf]; simp), evls_congr c.args.toList (fun x hx => h x (by simp only [Array.mem_append]; exact .inr (Array.mem_toList_iff.1 hx)))]
      · rename_i f m hf
        rw [h f (by rw [hf]; simp), evls_congr c.args.toList (fun x hx => h x (by simp only [Array.mem_append]; exact .inr (Array.mem_toList_iff.1 hx)))]
      · rfl
theorem light_congr {ev ev' : Operand → Option SV} (nm : Nat) (H : Hp AV) (o : Op) (h : ∀ x ∈ o.operands, ev x = ev' x) : light N nm ev H o = light N nm ev' H o := by
  unfold light
  rw [pureOp_congr o h]
  split
  · rfl
  · rename_i hpo
    clear hpo
    cases o <;> simp only [] <;> simp only [Op.operands] at h
    case box t x => rw [h x (by simp)]
    case load t x => rw [h x (by simp)]
    case store t x y => rw [h x (by simp), h y (by simp)]
    case makeSlice t x y => rw [h x (by simp), h y (by simp)]
    case buildSlice t len parts => rw [evlP_congr parts.toList (fun p hp => h p.2 (by simp; exact ⟨p.1, Array.mem_toList_iff.1 hp⟩))]
theorem ent_congr {ev ev' : Operand → Option SV} (nm : Nat) (H H' : Hp AV) (o : Op) (h : ∀ x ∈ o.operands, ev x = ev' x) : entOf N nm ev H H' o = entOf N nm ev' H H' o := by
  unfold entOf
  rw [callee_congr o h]
  split
  · rfl
  · rfl
  · rename_i hpo
    clear hpo
    cases o <;> simp only [] <;> simp only [Op.operands] at h
    case load t x => rw [h x (by simp)]
    case store t x y => rw [h x (by simp)]
theorem eff_congr {cal : Callee AV} {W : Bool} {nm : Nat} {o : Op} {ev ev' : Operand → Option SV} {H : Hp AV} (h : ∀ x ∈ o.operands, ev x = ev' x) : eff N cal W nm o ev H = eff N cal W nm o ev' H := by
  unfold eff
  rw [callee_congr o h, light_congr nm H o h]
  simp only [ent_congr nm H _ o h]

def isCall : Ent → Bool
  | .call _ _ => true
  | _ => false
/-- an operation that is no call: it hangs on one block and turns one block at most -/
theorem eff_light {cal : Callee AV} {W : Bool} {nm : Nat} {o : Op} {ev : Operand → Option SV} {H H' : Hp AV} {v : SV} {en : Ent} (h : eff N cal W nm o ev H = some (v, H', en)) (hn : isCall en = false) :
    ∃ u, H' = updH H u ∧ (u = none ∨ ∃ n c, u = some (n, c) ∧ en = .wr n ∧ n < H.length) ∧
      (∀ n, en = .wr n → n < H.length ∧ (makes o = true) ∧ n = nm ∨ ∃ c, hget H n = some c) ∧
      ∀ H2 : Hp AV, (∀ n, (en = .rd n ∨ en = .wr n) → hget H2 n = hget H n) → ((makes o = true) → nm < H2.length) → eff N cal W nm o ev H2 = some (v, updH H2 u, en) := by
  unfold eff at h
  cases W with
  | false =>
    simp only [Option.some.injEq, Prod.mk.injEq] at h
    obtain ⟨rfl, rfl, rfl⟩ := h
    exact ⟨none, rfl, .inl rfl, (fun n h => by cases h), fun H2 _ _ => rfl⟩
  | true =>
    simp only at h
    split at h
    · rename_i g l hc
      obtain ⟨r, _, hr⟩ := Option.map_eq_some_iff.1 h
      cases hr
      simp [entOf, hc, isCall] at hn
    · cases h
    · rename_i hc
      obtain ⟨⟨v', u⟩, hl, hr⟩ := Option.map_eq_some_iff.1 h
      simp only [Prod.mk.injEq] at hr
      obtain ⟨rfl, rfl, hen⟩ := hr
      have hent : ∀ H2 H3 : Hp AV, entOf N nm ev H2 H3 o = en := fun H2 H3 => by rw [← hen]; simp only [entOf, hc]
      have done : ∀ H2 : Hp AV, (light N nm ev H2 o).val = some (v', u) → eff N cal true nm o ev H2 = some (v', updH H2 u, en) := fun H2 h2 => by
        unfold eff
        simp only [hc, h2, Option.map_some, hent H2]
      refine ⟨u, rfl, ?_⟩
      unfold light at hl
      split at hl
      · -- looks at no memory
        rename_i t ht
        rw [T.val_map] at hl
        obtain ⟨v0, hv0, he⟩ := Option.map_eq_some_iff.1 hl
        cases he
        have hno : ∀ n, en ≠ .wr n := by
          intro n hw
          rw [← hen] at hw
          simp only [entOf, hc] at hw
          cases o <;> simp [pureOp] at ht hw
        refine ⟨.inl rfl, (fun n h => absurd h (hno n)), fun H2 _ _ => done H2 ?_⟩
        unfold light
        simp only [ht, T.val_map, hv0, Option.map_some]
      · rename_i hpo
        split at hl
        · -- alloc
          rename_i t
          split at hl
          · rename_i kd sz z fl h1 h2 h3 h4
            simp only [T.val, Option.some.injEq, Prod.mk.injEq] at hl
            obtain ⟨rfl, rfl⟩ := hl
            have hwr : en = .wr nm := by rw [← hen]; simp only [entOf, hc]
            have hlt := (blt_iff _ _).1 h3
            refine ⟨.inr ⟨_, _, rfl, hwr, hlt⟩, (fun n h => .inl ?_), fun H2 hH2 hlen => done H2 ?_⟩
            · rw [hwr] at h; cases h; exact ⟨hlt, rfl, rfl⟩
            · have e2 := hH2 nm (.inr hwr)
              rw [h2] at e2
              have e3 := (blt_iff _ _).2 (hlen rfl)
              unfold light
              simp only [hpo, h1, e2, e3, h4, T.val]
          · simp [T.val] at hl
        · -- box
          rename_i t x
          split at hl
          · rename_i b h1 h2 h3 h4
            simp only [T.val, Option.some.injEq, Prod.mk.injEq] at hl
            obtain ⟨rfl, rfl⟩ := hl
            have hwr : en = .wr nm := by rw [← hen]; simp only [entOf, hc]
            have hlt := (blt_iff _ _).1 h3
            refine ⟨.inr ⟨_, _, rfl, hwr, hlt⟩, (fun n h => .inl ?_), fun H2 hH2 hlen => done H2 ?_⟩
            · rw [hwr] at h; cases h; exact ⟨hlt, rfl, rfl⟩
            · have e2 := hH2 nm (.inr hwr)
              rw [h2] at e2
              have e3 := (blt_iff _ _).2 (hlen rfl)
              unfold light
              simp only [hpo, h1, e2, e3, h4, T.val]
          · simp [T.val] at hl
        · -- load
          rename_i t x
          split at hl
          · rename_i p hp
            rw [T.val_map] at hl
            obtain ⟨v0, hv0, he⟩ := Option.map_eq_some_iff.1 hl
            cases he
            have hno : ∀ n, en ≠ .wr n := by
              intro n hw
              rw [← hen] at hw
              simp only [entOf, hc, hp] at hw
              split at hw <;> cases hw
            refine ⟨.inl rfl, (fun n h => absurd h (hno n)), fun H2 hH2 _ => done H2 ?_⟩
            have e2 : loadV N t H2 p = loadV N t H p := by
              unfold loadV
              split
              · rename_i n off
                have : en = .rd n := by rw [← hen]; simp only [entOf, hc, hp]
                rw [hH2 n (.inl this)]
              · rename_i n idx es off
                have : en = .rd n := by rw [← hen]; simp only [entOf, hc, hp]
                rw [hH2 n (.inl this)]
              · rfl
            unfold light
            simp only [hpo, hp, T.val_map, e2, hv0, Option.map_some]
          · simp [T.val] at hl
        · -- store
          rename_i t x y
          split at hl
          · rename_i n off b hx hy
            split at hl
            · rename_i l ty i h3 h4
              split at hl
              · rename_i h5
                split at hl
                · rename_i l' h6
                  simp only [T.val, Option.some.injEq, Prod.mk.injEq] at hl
                  obtain ⟨rfl, rfl⟩ := hl
                  have hwr : en = .wr n := by rw [← hen]; simp only [entOf, hc, hx]
                  refine ⟨.inr ⟨_, _, rfl, hwr, hget_lt h3⟩, (fun m h => .inr ?_), fun H2 hH2 _ => done H2 ?_⟩
                  · rw [hwr] at h; cases h; exact ⟨_, h3⟩
                  · have e2 := hH2 n (.inr hwr)
                    rw [h3] at e2
                    unfold light
                    simp only [hpo, hx, hy, e2, h4, h5, h6, T.val]
                · simp [T.val] at hl
              · simp [T.val] at hl
            · simp [T.val] at hl
          · rename_i n idx es off b hx hy
            have hwr : en = .wr n := by rw [← hen]; simp only [entOf, hc, hx]
            split at hl
            · rename_i l ve ty i h3 h4
              split at hl
              · rename_i h5
                split at hl
                · simp [T.val] at hl
                rename_i h50
                split at hl
                · rename_i l' h6
                  simp only [T.val, Option.some.injEq, Prod.mk.injEq] at hl
                  obtain ⟨rfl, rfl⟩ := hl
                  refine ⟨.inr ⟨_, _, rfl, hwr, hget_lt h3⟩, (fun m h => .inr ?_), fun H2 hH2 _ => done H2 ?_⟩
                  · rw [hwr] at h; cases h; exact ⟨_, h3⟩
                  · have e2 := hH2 n (.inr hwr)
                    rw [h3] at e2
                    unfold light
                    simp only [hpo, hx, hy, e2, h4, h5, h50, h6, T.val]
                · simp [T.val] at hl
              · simp [T.val] at hl
            · rename_i a i h3 h4
              split at hl
              · rename_i h5
                split at hl
                · rename_i bb a' h6
                  obtain ⟨rfl, hl⟩ := need_val hl
                  simp only [T.val, Option.some.injEq, Prod.mk.injEq] at hl
                  obtain ⟨rfl, rfl⟩ := hl
                  refine ⟨.inr ⟨_, _, rfl, hwr, hget_lt h3⟩, (fun m h => .inr ?_), fun H2 hH2 _ => done H2 ?_⟩
                  · rw [hwr] at h; cases h; exact ⟨_, h3⟩
                  · have e2 := hH2 n (.inr hwr)
                    rw [h3] at e2
                    unfold light
                    simp only [hpo, hx, hy, e2, h4, h5, h6, T.val]
                · simp [T.val] at hl
              · simp [T.val] at hl
            · simp [T.val] at hl
          · simp [T.val] at hl
        · -- make
          rename_i t x y
          obtain ⟨h2, hlt, ⟨c, hu⟩, hall⟩ := lightArr_val hl
          simp only at hu
          subst hu
          have hwr : en = .wr nm := by rw [← hen]; simp only [entOf, hc]
          refine ⟨.inr ⟨_, _, rfl, hwr, hlt⟩, (fun n h => .inl ?_), fun H2 hH2 hlen => done H2 ?_⟩
          · rw [hwr] at h; cases h; exact ⟨hlt, rfl, rfl⟩
          · have e2 := hH2 nm (.inr hwr)
            rw [h2] at e2
            unfold light
            simp only [hpo]
            exact hall H2 e2 (hlen rfl)
        · -- the building of a slice
          rename_i t len parts
          obtain ⟨h2, hlt, ⟨c, hu⟩, hall⟩ := lightArr_val hl
          simp only at hu
          subst hu
          have hwr : en = .wr nm := by rw [← hen]; simp only [entOf, hc]
          refine ⟨.inr ⟨_, _, rfl, hwr, hlt⟩, (fun n h => .inl ?_), fun H2 hH2 hlen => done H2 ?_⟩
          · rw [hwr] at h; cases h; exact ⟨hlt, rfl, rfl⟩
          · have e2 := hH2 nm (.inr hwr)
            rw [h2] at e2
            unfold light
            simp only [hpo]
            exact hall H2 e2 (hlen rfl)
        · simp [T.val] at hl

/-- a call: it hangs on what it sees, and turns that alone -/
theorem kept_spec {R : List Nat} {H K : Hp AV} {n : Nat} (h : keptU N R H K n = true) : hget H n = hget K n := by
  unfold keptU at h
  split at h
  · unfold keptC at h
    split at h
    · rename_i a b e1 e2
      rw [e1, e2, N.F.same_ok a b h]
    · cases h
  · cases h
theorem kept_mask {R : List Nat} {H H2 B : Hp AV} (hl : H.length ≤ B.length) (h : maskH R 0 H2 = maskH R 0 H) : keptU N R H2 (mergeH R 0 H2 B) = keptU N R H (mergeH R 0 H B) := by
  have hlen : H2.length = H.length := by have h1 := congrArg List.length h; rw [mask_len, mask_len] at h1; exact h1
  funext n
  unfold keptU
  cases hs : sees R n with
  | false => rfl
  | true =>
    have e : hget H2 n = hget H n := by
      have h1 : hget (maskH R 0 H2) n = hget H2 n := by rw [hget_mask, Nat.zero_add, if_pos hs]
      have h2 : hget (maskH R 0 H) n = hget H n := by rw [hget_mask, Nat.zero_add, if_pos hs]
      rw [← h1, ← h2, h]
    simp only
    rw [hget_merge _ _ _ _ _ hl, hget_merge _ _ _ _ _ (by omega), hlen, e]
theorem eff_call {cal : Callee AV} {W : Bool} {nm : Nat} {o : Op} {ev : Operand → Option SV} {H H' : Hp AV} {v : SV} {R : List Nat} {U : Nat → Bool} (h : eff N cal W nm o ev H = some (v, H', .call R U)) :
    ∃ (nl : List Nat) (B : Hp AV), R = reach H 400 nl [] ∧ H.length ≤ B.length ∧ H' = mergeH R 0 H B ∧ (∀ n, n < H.length → (hget H' n).isSome = (hget H n).isSome) ∧ (∀ n, U n = true → hget H' n = hget H n) ∧
      ∀ H2 : Hp AV, reach H2 400 nl [] = R → maskH R 0 H2 = maskH R 0 H → eff N cal W nm o ev H2 = some (v, mergeH R 0 H2 B, .call R U) := by
  unfold eff at h
  cases W with
  | false => simp at h
  | true =>
    simp only at h
    split at h
    · rename_i g l hc
      obtain ⟨⟨v', K⟩, hr, he⟩ := Option.map_eq_some_iff.1 h
      simp only [Prod.mk.injEq] at he
      obtain ⟨rfl, rfl, hen⟩ := he
      have hR : reach H 400 (namesVs l ++ gnames N g) [] = R := by
        simp only [entOf, hc, Ent.call.injEq] at hen
        exact hen.1
      have hU : keptU N R H K = U := by
        simp only [entOf, hc, Ent.call.injEq] at hen
        rw [← hR]
        exact hen.2
      have hr0 := hr
      unfold callV at hr
      rw [hR] at hr
      simp only at hr
      split at hr
      · simp [T.val] at hr
      · rename_i hargs
        split at hr
        · simp [T.val] at hr
        · rename_i hheap
          obtain ⟨⟨v0, B⟩, hb, hr⟩ := T.bind_some hr
          simp only at hr
          split at hr
          · simp [T.val] at hr
          · rename_i hpers
            simp only [T.val, Option.some.injEq, Prod.mk.injEq] at hr
            obtain ⟨rfl, rfl⟩ := hr
            have hlen := (pers_spec hpers).1
            rw [mask_len] at hlen
            refine ⟨_, B, hR.symm, hlen, rfl, fun n hn => ?_, fun n hn => ?_, fun H2 h2 h3 => ?_⟩
            · rw [hget_merge _ _ _ _ _ hlen, if_pos hn, Nat.zero_add]
              cases hx : hget H n with
              | none => rfl
              | some x =>
                simp only
                split
                · rename_i hs
                  obtain ⟨c', hc'⟩ := (pers_spec hpers).2.1 n x (by rw [hget_mask, Nat.zero_add, if_pos hs]; exact hx)
                  rw [hc']; rfl
                · rfl
            · rw [← hU] at hn
              exact (kept_spec hn).symm
            unfold eff
            simp only [hc]
            have : (callV cal (gnames N g) g l H2).val = some (v0, mergeH R 0 H2 B) := by
              unfold callV
              rw [h2, h3]
              simp only [hargs, hheap, T.val_bind, hb, Option.bind_some, hpers, T.val]
            rw [this]
            simp only [Option.map_some, entOf, hc, h2]
            rw [← hU, kept_mask hlen h3]
    · cases h
    · rename_i hc
      obtain ⟨r, _, he⟩ := Option.map_eq_some_iff.1 h
      simp only [Prod.mk.injEq] at he
      obtain ⟨_, _, hen⟩ := he
      simp only [entOf, hc] at hen
      cases o <;> simp at hen
      all_goals (split at hen <;> cases hen)
/-- the package-level variables stay -/
theorem eff_glb {cal : Callee AV} {W : Bool} {nm : Nat} {o : Op} {ev : Operand → Option SV} {H H' : Hp AV} {v : SV} {en : Ent} (h : eff N cal W nm o ev H = some (v, H', en)) (hnm : N.G ≤ nm) (hH : N.G ≤ H.length) (g : Nat) (hg : g < N.G) :
    (hget H' g).isSome = (hget H g).isSome := by
  cases hi : isCall en with
  | false =>
    obtain ⟨u, rfl, hu, hw, _⟩ := eff_light h hi
    rcases hu with rfl | ⟨n, c, rfl, hen, hlt⟩
    · rfl
    · by_cases e : n = g
      · subst e
        simp only [updH]
        rw [hget_lset_self _ hlt]
        rcases hw n hen with ⟨_, _, rfl⟩ | ⟨c', hc'⟩
        · omega
        · rw [hc']; rfl
      · simp only [updH]
        rw [hget_lset_ne _ e]
  | true =>
    cases en with
    | pure => cases hi
    | rd _ => cases hi
    | wr _ => cases hi
    | call R U =>
      obtain ⟨_, _, _, _, _, k, _⟩ := eff_call h
      exact k g (by omega)
end Go.Sx

namespace Go.Sx
variable {AV : Type} {N : Env AV}

theorem hasN_iff : ∀ (l : List Nat) (n : Nat), hasN l n = true ↔ n ∈ l
  | [], n => by simp [hasN]
  | x :: r, n => by
    simp only [hasN]
    split
    · rename_i h; simp [(beq_iff _ _).1 h]
    · rename_i h
      have := (beq_false_iff _ _).1 h
      rw [hasN_iff r n]
      simp [Ne.symm this]
theorem reach_acc (H : Hp AV) : ∀ (f : Nat) (todo acc : List Nat) (n : Nat), n ∈ acc → n ∈ reach H f todo acc
  | 0, _, _, _, h => by simpa [reach] using h
  | _ + 1, [], _, _, h => by simpa [reach] using h
  | f + 1, m :: r, acc, n, h => by
    simp only [reach]
    split
    · exact reach_acc H f r acc n h
    · split
      · exact reach_acc H f _ _ n (List.mem_cons_of_mem _ h)
      · exact reach_acc H f _ _ n (List.mem_cons_of_mem _ h)
      · exact reach_acc H f _ _ n (List.mem_cons_of_mem _ h)
/-- a block that is not come to does not matter -/
theorem reach_same {H H2 : Hp AV} {m : Nat} (hd : ∀ n, n ≠ m → hget H2 n = hget H n) : ∀ (f : Nat) (todo acc : List Nat), m ∉ reach H f todo acc → reach H2 f todo acc = reach H f todo acc
  | 0, _, _, _ => rfl
  | _ + 1, [], _, _ => rfl
  | f + 1, n :: r, acc, h => by
    simp only [reach] at h ⊢
    cases ha : hasN acc n with
    | true => simp only [ha] at h ⊢; exact reach_same hd f r acc h
    | false =>
      simp only [ha] at h ⊢
      have hn : n ≠ m := by
        intro e
        subst e
        split at h
        · exact h (reach_acc H f _ _ n (by simp))
        · exact h (reach_acc H f _ _ n (by simp))
        · exact h (reach_acc H f _ _ n (by simp))
      rw [hd n hn]
      cases hl : hget H n with
      | none => simp only [hl] at h ⊢; exact reach_same hd f _ _ h
      | some c =>
        cases c with
        | cells l ty => simp only [hl] at h ⊢; exact reach_same hd f _ _ h
        | vec l es ty => simp only [hl] at h ⊢; exact reach_same hd f _ _ h
        | dead => simp only [hl] at h ⊢; exact reach_same hd f _ _ h
        | abs a => simp only [hl] at h ⊢; exact reach_same hd f _ _ h
theorem sees_bit (R : List Nat) (n : Nat) : sees R n = (bitsOf R).testBit n := by
  have e : Nat.land (Nat.shiftRight (bitsOf R) n) 1 = (1 &&& bitsOf R >>> n) := Nat.and_comm _ _
  unfold sees
  rw [e, Nat.testBit]
  split
  · rename_i h; rw [h]; rfl
  · rename_i m h; rw [h]; rfl
theorem bitsOf_mem : ∀ {R : List Nat} {n : Nat}, n ∈ R → (bitsOf R).testBit n = true
  | [], n, h => by cases h
  | m :: r, n, h => by
    have e : bitsOf (m :: r) = (1 <<< m ||| bitsOf r) := rfl
    rw [e, Nat.testBit_or]
    rcases List.mem_cons.1 h with rfl | h
    · simp [Nat.testBit_shiftLeft]
    · rw [bitsOf_mem h]; simp
theorem not_sees {R : List Nat} {n : Nat} (h : sees R n = false) : n ∉ R := by
  intro hm; rw [sees_bit, bitsOf_mem hm] at h; cases h
theorem mask_lset {R : List Nat} {n : Nat} (h : sees R n = false) (x : Option (Chunk AV)) : ∀ (H : Hp AV) (i k : Nat), i + k = n → maskH R i (lset H k x) = maskH R i H
  | [], _, _, _ => by simp [lset]
  | y :: r, i, 0, e => by
    simp only [lset, maskH]
    have : i = n := by omega
    rw [this, h]
  | y :: r, i, k + 1, e => by
    simp only [lset, maskH]
    rw [mask_lset h x r (i + 1) k (by omega)]
theorem merge_lset {R : List Nat} {n : Nat} (h : sees R n = false) (c : Chunk AV) : ∀ (H B : Hp AV) (i k : Nat), i + k = n → k < H.length → H.length ≤ B.length → mergeH R i (lset H k (some c)) B = lset (mergeH R i H B) k (some c)
  | [], _, _, _, _, hk, _ => by simp at hk
  | y :: r, [], i, k, _, _, hl => by simp at hl
  | y :: r, b :: q, i, 0, e, _, _ => by
    have : i = n := by omega
    cases y <;> simp [lset, mergeH, this, h]
  | y :: r, b :: q, i, k + 1, e, hk, hl => by
    have ih := merge_lset h c r q (i + 1) k (by omega) (by simpa using hk) (by simpa using hl)
    cases y <;> simp [lset, mergeH, ih]
theorem merge_keep {R : List Nat} {H B : Hp AV} {n : Nat} (h : sees R n = false) (hn : n < H.length) (hl : H.length ≤ B.length) : hget (mergeH R 0 H B) n = hget H n := by
  rw [hget_merge _ _ _ _ _ hl, if_pos hn, Nat.zero_add, h]
  cases hget H n <;> simp
theorem lset_comm {α : Type} (l : List α) {n m : Nat} (x y : α) (h : n ≠ m) : lset (lset l n x) m y = lset (lset l m y) n x := by
  simp only [lset_eq]; exact List.set_comm _ _ h
theorem compat_symm {a b : Ent} (h : compatE a b = true) : compatE b a = true := by
  cases a <;> cases b <;> simp_all [compatE] <;> exact (beq_false_iff _ _).2 (Ne.symm ((beq_false_iff _ _).1 h))

/-- what is asked of one of the two: the names that it reads are there, the name of the block that it makes lies in the heap -/
structure Fits (N : Env AV) (o : Op) (nm : Nat) (ev : Operand → Option SV) (H : Hp AV) : Prop where
  cl : ∀ x ∈ o.operands, ∀ v, ev x = some v → ClV H v
  room : (makes o = true) → nm < H.length

theorem upd_len (H : Hp AV) (u : Option (Nat × Chunk AV)) : (updH H u).length = H.length := by
  cases u with
  | none => rfl
  | some p => simp [updH, length_lset]

/-- what an operation that is no call touches lies in the heap -/
theorem ent_in {cal : Callee AV} {W : Bool} {nm : Nat} {o : Op} {ev : Operand → Option SV} {H H0 H' : Hp AV} {v : SV} {en : Ent} (hf : Fits N o nm ev H0) (h : eff N cal W nm o ev H = some (v, H', en)) (n : Nat) (hn : en = .rd n ∨ en = .wr n) : n < H0.length := by
  unfold eff at h
  cases W with
  | false =>
    simp only [Option.some.injEq, Prod.mk.injEq] at h
    obtain ⟨_, _, rfl⟩ := h
    rcases hn with hn | hn <;> cases hn
  | true =>
    simp only at h
    have hen : ∃ H3, entOf N nm ev H H3 o = en := by
      split at h
      · obtain ⟨r, _, he⟩ := Option.map_eq_some_iff.1 h; cases he; exact ⟨_, rfl⟩
      · cases h
      · obtain ⟨r, _, he⟩ := Option.map_eq_some_iff.1 h; cases he; exact ⟨_, rfl⟩
    obtain ⟨H3, hen⟩ := hen
    rw [← hen] at hn
    unfold entOf at hn
    split at hn
    · rcases hn with hn | hn <;> cases hn
    · rcases hn with hn | hn <;> cases hn
    · have ptrIn : ∀ x ∈ o.operands, ∀ c m, ev x = some (.v (.c c)) → c.name = some m → m < H0.length := by
        intro x hx c m hev hm
        obtain ⟨y, hy⟩ := hf.cl x hx _ hev c (by simp [V1.cells]) m hm
        exact hget_lt hy
      rename_i hcc
      clear h hen hcc
      cases o <;> simp only [] at hn <;> (try (rcases hn with hn | hn <;> cases hn; done))
      case alloc t =>
        rcases hn with hn | hn <;> cases hn
        exact hf.room rfl
      case box t x =>
        rcases hn with hn | hn <;> cases hn
        exact hf.room rfl
      case makeSlice t x y =>
        rcases hn with hn | hn <;> cases hn
        exact hf.room rfl
      case buildSlice t len parts =>
        rcases hn with hn | hn <;> cases hn
        exact hf.room rfl
      case load t x =>
        split at hn
        · rename_i m off hx
          rcases hn with hn | hn <;> cases hn
          exact ptrIn x (by simp [Op.operands]) _ _ hx rfl
        · rename_i hx
          rcases hn with hn | hn <;> cases hn
          exact ptrIn x (by simp [Op.operands]) _ _ hx rfl
        · rcases hn with hn | hn <;> cases hn
      case store t x y =>
        split at hn
        · rename_i m off hx
          rcases hn with hn | hn <;> cases hn
          exact ptrIn x (by simp [Op.operands]) _ _ hx rfl
        · rename_i hx
          rcases hn with hn | hn <;> cases hn
          exact ptrIn x (by simp [Op.operands]) _ _ hx rfl
        · rcases hn with hn | hn <;> cases hn

theorem sees_false {R : List Nat} {n : Nat} (h : (!sees R n) = true) : sees R n = false := by
  cases hs : sees R n <;> simp_all

/-- THE TWO MAY CHANGE PLACES. -/
theorem eff_comm {cal : Callee AV} {Wi Wj : Bool} {ni nj : Nat} {oi oj : Op} {evi evj : Operand → Option SV} {H Hi Hij : Hp AV} {vi vj : SV} {ei ej : Ent}
    (fi : Fits N oi ni evi H) (fj : Fits N oj nj evj H)
    (h1 : eff N cal Wi ni oi evi H = some (vi, Hi, ei)) (h2 : eff N cal Wj nj oj evj Hi = some (vj, Hij, ej)) (hc : compatE ei ej = true) :
    ∃ Hj, eff N cal Wj nj oj evj H = some (vj, Hj, ej) ∧ eff N cal Wi ni oi evi Hj = some (vi, Hij, ei) := by
  cases hi : isCall ei with
  | false =>
    obtain ⟨ui, rfl, hui, _, ki⟩ := eff_light h1 hi
    have leni : (updH H ui).length = H.length := upd_len H ui
    cases hj : isCall ej with
    | false =>
      obtain ⟨uj, rfl, huj, _, kj⟩ := eff_light h2 hj
      have nj_in := ent_in fj h2
      -- j at H
      have e1 : eff N cal Wj nj oj evj H = some (vj, updH H uj, ej) := by
        refine kj H (fun n hn => ?_) (fun hm => fj.room hm)
        rcases hui with rfl | ⟨m, c, rfl, hwr, hlt⟩
        · rfl
        · have hne : m ≠ n := by
            intro e
            subst e
            subst hwr
            rcases hn with rfl | rfl <;> simp [compatE, Nat.beq_refl] at hc
          simp only [updH]
          rw [hget_lset_ne _ hne]
      refine ⟨_, e1, ?_⟩
      have e2 : eff N cal Wi ni oi evi (updH H uj) = some (vi, updH (updH H uj) ui, ei) := by
        refine ki _ (fun n hn => ?_) (fun hm => by rw [upd_len]; exact fi.room hm)
        rcases huj with rfl | ⟨m, c, rfl, hwr, hlt⟩
        · rfl
        · have hne : m ≠ n := by
            intro e
            subst e
            subst hwr
            rcases hn with rfl | rfl <;> simp [compatE, Nat.beq_refl] at hc
          simp only [updH]
          rw [hget_lset_ne _ hne]
      rw [e2]
      congr 3
      rcases hui with rfl | ⟨m, c, rfl, hwr, hlt⟩
      · rfl
      · rcases huj with rfl | ⟨m', c', rfl, hwr', hlt'⟩
        · rfl
        · subst hwr hwr'
          have hne : m ≠ m' := by
            intro e; subst e; simp [compatE, Nat.beq_refl] at hc
          simp only [updH]
          exact (lset_comm H _ _ hne).symm
    | true =>
      cases ej with
      | pure => cases hj
      | rd _ => cases hj
      | wr _ => cases hj
      | call R U =>
        obtain ⟨l, B, hR, hlen, rfl, _, hU, kj⟩ := eff_call h2
        rw [leni] at hlen
        have ni_in := ent_in fi h1
        -- what i writes j does not see; what i reads j leaves
        have hns : ∀ n, ei = .wr n → sees R n = false := by
          intro n hn
          subst hn
          exact sees_false hc
        have hkp : ∀ n, (ei = .rd n ∨ ei = .wr n) → hget (mergeH R 0 H B) n = hget H n := by
          intro n hn
          cases hs : sees R n with
          | false => exact merge_keep hs (ni_in n hn) hlen
          | true =>
            rcases hn with rfl | rfl
            · rcases hui with rfl | ⟨m, c, rfl, hwr, hlt⟩
              · refine hU n ?_
                simpa [compatE, hs] using hc
              · cases hwr
            · rw [hns n rfl] at hs; cases hs
        have e1 : eff N cal Wj nj oj evj H = some (vj, mergeH R 0 H B, .call R U) := by
          rcases hui with rfl | ⟨m, c, rfl, hwr, hlt⟩
          · exact kj H hR.symm rfl
          · have hm := hns m hwr
            refine kj H ?_ ?_
            · rw [hR] at hm ⊢
              refine reach_same (m := m) (fun n hn => ?_) _ _ _ (not_sees hm)
              simp only [updH]; rw [hget_lset_ne _ (Ne.symm hn)]
            · simp only [updH]; exact (mask_lset hm _ H 0 m (by omega)).symm
        refine ⟨_, e1, ?_⟩
        have e2 : eff N cal Wi ni oi evi (mergeH R 0 H B) = some (vi, updH (mergeH R 0 H B) ui, ei) := by
          refine ki _ (fun n hn => hkp n hn) (fun hm => ?_)
          rw [merge_len _ _ _ _ hlen]
          exact Nat.lt_of_lt_of_le (fi.room hm) hlen
        rw [e2]
        congr 3
        rcases hui with rfl | ⟨m, c, rfl, hwr, hlt⟩
        · rfl
        · simp only [updH]
          exact (merge_lset (hns m hwr) c H B 0 m (by omega) hlt hlen).symm
  | true =>
    cases ei with
    | pure => cases hi
    | rd _ => cases hi
    | wr _ => cases hi
    | call R U =>
      obtain ⟨l, B, hR, hlen, rfl, _, hU, ki⟩ := eff_call h1
      cases hj : isCall ej with
      | true =>
        cases ej with
        | call R' U' => simp [compatE] at hc
        | pure => cases hj
        | rd _ => cases hj
        | wr _ => cases hj
      | false =>
        obtain ⟨uj, rfl, huj, _, kj⟩ := eff_light h2 hj
        have nj_in := ent_in fj h2
        have hns : ∀ n, ej = .wr n → sees R n = false := by
          intro n hn
          subst hn
          exact sees_false hc
        have hkp : ∀ n, (ej = .rd n ∨ ej = .wr n) → hget H n = hget (mergeH R 0 H B) n := by
          intro n hn
          cases hs : sees R n with
          | false => exact (merge_keep hs (nj_in n hn) hlen).symm
          | true =>
            rcases hn with rfl | rfl
            · refine (hU n ?_).symm
              simpa [compatE, hs] using hc
            · rw [hns n rfl] at hs; cases hs
        have e1 : eff N cal Wj nj oj evj H = some (vj, updH H uj, ej) :=
          kj H (fun n hn => hkp n hn) (fun hm => fj.room hm)
        refine ⟨_, e1, ?_⟩
        have e2 : eff N cal Wi ni oi evi (updH H uj) = some (vi, mergeH R 0 (updH H uj) B, .call R U) := by
          rcases huj with rfl | ⟨m, c, rfl, hwr, hlt⟩
          · exact ki H hR.symm rfl
          · have hm := hns m hwr
            refine ki _ ?_ ?_
            · rw [hR] at hm ⊢
              refine reach_same (m := m) (fun n hn => ?_) _ _ _ (not_sees hm)
              simp only [updH]; rw [hget_lset_ne _ (Ne.symm hn)]
            · simp only [updH]; exact mask_lset hm _ H 0 m (by omega)
        rw [e2]
        congr 3
        rcases huj with rfl | ⟨m, c, rfl, hwr, hlt⟩
        · rfl
        · simp only [updH]
          exact merge_lset (hns m hwr) c H B 0 m (by omega) (nj_in m (.inr hwr)) hlen
end Go.Sx

namespace Go.Sx
variable {AV : Type} {P : Program} {N : Env AV}
theorem stepOps_len {cal : Callee AV} {base : Nat} {all : List Oper} : ∀ (r : List Oper) (i : Nat) (s s' : St AV), (stepOps N cal base all i r s).val = some s' → s.H.length ≤ s'.H.length
  | [], i, s, s', h => by
    simp only [stepOps, T.val, Option.some.injEq] at h
    subst h; exact Nat.le_refl _
  | o :: r, i, s, s', h => by
    simp only [stepOps] at h
    obtain ⟨⟨s₁, en⟩, h1, h2⟩ := T.bind_some h
    exact Nat.le_trans (step1_len h1) (stepOps_len r (i + 1) s₁ s' h2)

/-- two states that read alike -/
structure Like (s t : St AV) : Prop where
  H : s.H = t.H
  E : ∀ k, look s.E k = look t.E k
theorem Like.refl (s : St AV) : Like s s := ⟨rfl, fun _ => rfl⟩
theorem Like.evl {s t : St AV} (h : Like s t) (G : Nat) : evl G s.H s.E = evl G t.H t.E := by
  funext x
  rw [h.H]
  cases x <;> simp only [Sx.evl]
  rw [h.E]
theorem Like.wanted {s t : St AV} (h : Like s t) (all : List Oper) (o : Oper) : wantedS all o s.E = wantedS all o t.E := by
  unfold wantedS
  cases o.guard with
  | none => rfl
  | some p =>
    obtain ⟨j, w⟩ := p
    simp only
    cases nth all j with
    | none => rfl
    | some oj =>
      simp only
      cases oj.dst with
      | none => rfl
      | some d => simp only; rw [h.E]
theorem look_putE (E : Ev) (dst : Option Nat) (v : SV) (k : Nat) : look (putE E dst v) k = if dst = some k then v else look E k := by
  cases dst with
  | none => simp [putE]
  | some d => rw [look_put]; simp
theorem Like.put {E E' : Ev} (h : ∀ k, look E k = look E' k) (dst : Option Nat) (v : SV) : ∀ k, look (putE E dst v) k = look (putE E' dst v) k := by
  intro k; rw [look_putE, look_putE, h]

section
variable (N) (cal : Callee AV) (base : Nat) (ops : Array Oper)
/-- whatever order is picked: each step goes through, agrees with what came before, and in the end Φ holds -/
def symAny (Φ : St AV → Prop) : Nat → Array Bool → List (Nat × Ent) → St AV → Prop
  | 0, listed, _, s => Region.ready .any ops listed = [] ∧ Φ s
  | f + 1, listed, log, s => (Region.ready .any ops listed = [] → Φ s) ∧
      ∀ i ∈ Region.ready .any ops listed, ∀ o, ops[i]? = some o → ∃ s' en, (step1 N cal base ops.toList i o s).val = some (s', en) ∧
        (∀ p ∈ log, isAnc ops.toList 12 i p.1 = false → compatE p.2 en = true) ∧ symAny Φ f (listed.setIfInBounds i true) ((i, en) :: log) s'
end

theorem step1_like {cal : Callee AV} {base : Nat} {all : List Oper} {i : Nat} {o : Oper} {s t s' : St AV} {en : Ent} (hl : Like s t) (h : (step1 N cal base all i o s).val = some (s', en)) :
    ∃ t', (step1 N cal base all i o t).val = some (t', en) ∧ Like s' t' := by
  rw [step1_eff] at h
  obtain ⟨p, hp, h⟩ := Option.bind_eq_some_iff.1 h
  obtain ⟨⟨v, H', e⟩, he, hr⟩ := Option.map_eq_some_iff.1 h
  cases hr
  refine ⟨{ E := putE t.E o.dst v, H := H' }, ?_, ⟨rfl, Like.put hl.E _ _⟩⟩
  rw [step1_eff, ← hl.wanted, hp, ← hl.evl, ← hl.H]
  simp only [Option.bind_some, he]
  rfl
theorem symAny_congr {cal : Callee AV} {base : Nat} {ops : Array Oper} {Φ : St AV → Prop} (hΦ : ∀ s t, Like s t → Φ s → Φ t) : ∀ (f : Nat) (listed : Array Bool) (log log' : List (Nat × Ent)) (s t : St AV), Like s t → (∀ p ∈ log', p ∈ log) →
    symAny N cal base ops Φ f listed log s → symAny N cal base ops Φ f listed log' t
  | 0, _, _, _, s, t, hl, _, h => ⟨h.1, hΦ s t hl h.2⟩
  | f + 1, listed, log, log', s, t, hl, hsub, h => by
    refine ⟨fun hr => hΦ s t hl (h.1 hr), fun i hi o ho => ?_⟩
    obtain ⟨s', en, h1, h2, h3⟩ := h.2 i hi o ho
    obtain ⟨t', h1', hl'⟩ := step1_like hl h1
    refine ⟨t', en, h1', fun p hp => h2 p (hsub p hp), symAny_congr hΦ f _ _ _ s' t' hl' ?_ h3⟩
    intro p hp
    rcases List.mem_cons.1 hp with rfl | hp
    · simp
    · exact List.mem_cons_of_mem _ (hsub p hp)

/-- the listed operations' predecessors are listed -/
def Down (ops : Array Oper) (listed : Array Bool) : Prop := ∀ j o, ops[j]? = some o → listed.getD j false = true → ∀ e ∈ o.after, Region.binds .any e = true → listed.getD e.on false = true
theorem hasEdge_spec : ∀ {l : List Edge} {i : Nat}, hasEdge l i = true → ∃ e ∈ l, Region.binds .any e = true ∧ e.on = i
  | [], _, h => by simp [hasEdge] at h
  | e :: r, i, h => by
    simp only [hasEdge] at h
    split at h
    · rename_i hb
      split at h
      · rename_i he; exact ⟨e, by simp, hb, (beq_iff _ _).1 he⟩
      · obtain ⟨e', h1, h2⟩ := hasEdge_spec h; exact ⟨e', by simp [h1], h2⟩
    · obtain ⟨e', h1, h2⟩ := hasEdge_spec h; exact ⟨e', by simp [h1], h2⟩
theorem hasEdge_mk : ∀ {l : List Edge} {e : Edge}, e ∈ l → Region.binds .any e = true → hasEdge l e.on = true
  | [], _, h, _ => by cases h
  | x :: r, e, h, hb => by
    simp only [hasEdge]
    rcases List.mem_cons.1 h with rfl | h
    · rw [hb]; simp [Nat.beq_refl]
    · have ih := hasEdge_mk h hb
      split
      · split
        · rfl
        · exact ih
      · exact ih
theorem anyE_spec {rec : Nat → Bool} : ∀ {l : List Edge}, anyE rec l = true → ∃ e ∈ l, Region.binds .any e = true ∧ rec e.on = true
  | [], h => by simp [anyE] at h
  | e :: r, h => by
    simp only [anyE] at h
    split at h
    · rename_i hb
      split at h
      · rename_i he; exact ⟨e, by simp, hb, he⟩
      · obtain ⟨e', h1, h2⟩ := anyE_spec h; exact ⟨e', by simp [h1], h2⟩
    · obtain ⟨e', h1, h2⟩ := anyE_spec h; exact ⟨e', by simp [h1], h2⟩
theorem anc_listed {ops : Array Oper} {listed : Array Bool} (hd : Down ops listed) : ∀ (f j i : Nat) (o : Oper), ops[j]? = some o → (∀ e ∈ o.after, Region.binds .any e = true → listed.getD e.on false = true) → isAnc ops.toList f j i = true → listed.getD i false = true
  | 0, _, _, _, _, _, h => by simp [isAnc] at h
  | f + 1, j, i, o, ho, hall, h => by
    simp only [isAnc, nth_eq, Array.getElem?_toList, ho] at h
    split at h
    · rename_i he
      obtain ⟨e, h1, h2, rfl⟩ := hasEdge_spec he
      exact hall e (Array.mem_toList_iff.1 h1) h2
    · obtain ⟨e, h1, h2, h3⟩ := anyE_spec h
      have hl := hall e (Array.mem_toList_iff.1 h1) h2
      cases hoe : ops[e.on]? with
      | none =>
        cases f with
        | zero => simp [isAnc] at h3
        | succ f => simp [isAnc, nth_eq, hoe] at h3
      | some o' => exact anc_listed hd f e.on i o' hoe (fun e' he' hb' => hd e.on o' hoe hl e' he' hb') h3

/-- two operations that don't wait for each other touch no temporaries of each other -/
def Apart (ops : Array Oper) : Prop := ∀ i j oi oj, i ≠ j → ops[i]? = some oi → ops[j]? = some oj → (∀ e ∈ oj.after, Region.binds .any e = true → e.on ≠ i) → (∀ e ∈ oi.after, Region.binds .any e = true → e.on ≠ j) →
  (∀ d, oi.dst = some d → d ∉ oj.looksAt ops) ∧ (∀ d, oj.dst = some d → d ∉ oi.looksAt ops) ∧ (∀ d, oi.dst = some d → oj.dst ≠ some d)
theorem apartFrom_spec {ops : Array Oper} {j : Nat} {oj : Oper} : ∀ {l : List Oper} {k : Nat}, apartFrom ops j oj k l = true → ∀ m oi, l[m]? = some oi → k + m < j → hasEdge oj.after.toList (k + m) = true ∨ oi.apart ops oj = true
  | [], _, _, m, oi, hm, _ => by simp at hm
  | x :: r, k, h, m, oi, hm, hlt => by
    simp only [apartFrom] at h
    split at h
    · rename_i hb
      have := (blt_false_iff _ _).1 hb
      omega
    · split at h
      · rename_i he
        cases m with
        | zero => exact .inl he
        | succ m => have := apartFrom_spec h m oi (by simpa using hm) (by omega); rw [show k + (m + 1) = k + 1 + m from by omega]; exact this
      · split at h
        · rename_i hap
          cases m with
          | zero => simp at hm; subst hm; exact .inr hap
          | succ m => have := apartFrom_spec h m oi (by simpa using hm) (by omega); rw [show k + (m + 1) = k + 1 + m from by omega]; exact this
        · cases h
theorem apartAll_spec {ops : Array Oper} {all : List Oper} : ∀ {l : List Oper} {k : Nat}, apartAll ops all k l = true → ∀ m oj, l[m]? = some oj → apartFrom ops (k + m) oj 0 all = true
  | [], _, _, m, oj, hm => by simp at hm
  | x :: r, k, h, m, oj, hm => by
    simp only [apartAll] at h
    split at h
    · rename_i hx
      cases m with
      | zero => simp at hm; subst hm; exact hx
      | succ m => have := apartAll_spec h m oj (by simpa using hm); rw [show k + (m + 1) = k + 1 + m from by omega]; exact this
    · cases h
theorem apart_of {ops : Array Oper} (h : apartAll ops ops.toList 0 ops.toList = true) : Apart ops := by
  have key : ∀ i j oi oj, i < j → ops[i]? = some oi → ops[j]? = some oj → (∀ e ∈ oj.after, Region.binds .any e = true → e.on ≠ i) → oi.apart ops oj = true := by
    intro i j oi oj hlt hi hj hno
    have h1 := apartAll_spec h j oj (by simpa using hj)
    rw [Nat.zero_add] at h1
    rcases apartFrom_spec h1 i oi (by simpa using hi) (by omega) with h2 | h2
    · rw [Nat.zero_add] at h2
      obtain ⟨e, h3, h4, h5⟩ := hasEdge_spec h2
      exact absurd h5 (hno e (Array.mem_toList_iff.1 h3) h4)
    · exact h2
  intro i j oi oj hne hi hj h1 h2
  rcases Nat.lt_or_gt_of_ne hne with hlt | hlt
  · obtain ⟨a1, a2, a3⟩ := Oper.apart_spec (key i j oi oj hlt hi hj h1)
    exact ⟨a1, a3, a2⟩
  · obtain ⟨a1, a2, a3⟩ := Oper.apart_spec (key j i oj oi hlt hj hi h2)
    exact ⟨a3, a1, fun d hd he => a2 d he hd⟩

theorem evl_put {G : Nat} {H H' : Hp AV} {E : Ev} {dst : Option Nat} {v : SV} {x : Operand} (h : ∀ d, dst = some d → x ≠ .tmp d) (hg : ∀ g, g < G → (hget H' g).isSome = (hget H g).isSome) : evl G H' (putE E dst v) x = evl G H E x := by
  cases x with
  | tmp t =>
    simp only [evl, look_putE]
    rw [if_neg]
    intro e
    exact h t e rfl
  | const c => rfl
  | global g =>
    simp only [evl]
    cases hb : Nat.blt g G with
    | false => rfl
    | true =>
      have := hg g ((blt_iff _ _).1 hb)
      cases h1 : hget H' g <;> cases h2 : hget H g <;> simp_all
  | func f => rfl
theorem looks_op {ops : Array Oper} {o : Oper} {d : Nat} (h : d ∉ o.looksAt ops) : ∀ x ∈ o.op.operands, x ≠ .tmp d := by
  intro x hx e
  subst e
  refine h ?_
  unfold Oper.looksAt
  refine List.mem_append.2 (.inl (List.mem_filterMap.2 ⟨.tmp d, Array.mem_toList_iff.2 hx, rfl⟩))
theorem wanted_putE {ops : Array Oper} {o : Oper} {E : Ev} {dst : Option Nat} {v : SV} (h : ∀ d, dst = some d → d ∉ o.looksAt ops) : wantedS ops.toList o (putE E dst v) = wantedS ops.toList o E := by
  unfold wantedS
  cases hg : o.guard with
  | none => rfl
  | some p =>
    obtain ⟨j, w⟩ := p
    simp only [nth_eq, Array.getElem?_toList]
    cases hj : ops[j]? with
    | none => rfl
    | some oj =>
      simp only
      cases hd : oj.dst with
      | none => rfl
      | some d =>
        simp only
        rw [look_putE, if_neg]
        intro e
        refine h d e ?_
        unfold Oper.looksAt
        refine List.mem_append.2 (.inr ?_)
        simp [hg, hj, hd]

theorem nmOf_lt : ∀ (all : List Oper) (b i : Nat) (o : Oper), all[i]? = some o → makes o.op = true → nmOf all b i < b + countMk all
  | [], _, _, _, h, _ => by simp at h
  | x :: r, b, 0, o, h, hm => by
    simp at h
    subst h
    simp only [nmOf, countMk, hm]
    omega
  | x :: r, b, i + 1, o, h, hm => by
    simp only [nmOf, countMk]
    cases hx : makes x.op with
    | true => have := nmOf_lt r (b + 1) i o (by simpa using h) hm; simp only; omega
    | false => have := nmOf_lt r b i o (by simpa using h) hm; simp only; omega

/-- THE STEPS OF TWO OPERATIONS MAY CHANGE PLACES. -/
theorem step1_comm {cal : Callee AV} {base : Nat} {ops : Array Oper} {i j : Nat} {oi oj : Oper} {s s1 s12 : St AV} {ei ej : Ent} (hcl : Closed N s) (hGb : N.G ≤ base) (hroom : base + countMk ops.toList ≤ s.H.length)
    (hoi : ops[i]? = some oi) (hoj : ops[j]? = some oj) (hap : (∀ d, oi.dst = some d → d ∉ oj.looksAt ops) ∧ (∀ d, oj.dst = some d → d ∉ oi.looksAt ops) ∧ (∀ d, oi.dst = some d → oj.dst ≠ some d))
    (h1 : (step1 N cal base ops.toList i oi s).val = some (s1, ei)) (h2 : (step1 N cal base ops.toList j oj s1).val = some (s12, ej)) (hc : compatE ei ej = true) :
    ∃ s2 s21, (step1 N cal base ops.toList j oj s).val = some (s2, ej) ∧ (step1 N cal base ops.toList i oi s2).val = some (s21, ei) ∧ Like s12 s21 := by
  obtain ⟨p1, p2, p3⟩ := hap
  rw [step1_eff] at h1 h2
  obtain ⟨wi, hwi, h1⟩ := Option.bind_eq_some_iff.1 h1
  obtain ⟨wj, hwj, h2⟩ := Option.bind_eq_some_iff.1 h2
  obtain ⟨⟨vi, Hi, ei'⟩, he1, hr1⟩ := Option.map_eq_some_iff.1 h1
  cases hr1
  obtain ⟨⟨vj, Hij, ej'⟩, he2, hr2⟩ := Option.map_eq_some_iff.1 h2
  cases hr2
  simp only at he2 hwj
  rw [wanted_putE p1] at hwj
  have nmi : N.G ≤ nmOf ops.toList base i := Nat.le_trans hGb (nmOf_ge _ _ _)
  have nmj : N.G ≤ nmOf ops.toList base j := Nat.le_trans hGb (nmOf_ge _ _ _)
  have hGH : N.G ≤ s.H.length := by omega
  rw [eff_congr (ev' := evl N.G s.H s.E) (fun x hx => evl_put (fun d hd => looks_op (p1 d hd) x hx) (eff_glb he1 nmi hGH))] at he2
  have clx : ∀ x v, evl N.G s.H s.E x = some v → ClV s.H v := fun x v hx => evl_cl hcl hx
  have fits : ∀ k o, ops[k]? = some o → Fits N o.op (nmOf ops.toList base k) (evl N.G s.H s.E) s.H := fun k o ho =>
    ⟨fun x _ v hv => clx x v hv, fun hm => Nat.lt_of_lt_of_le (nmOf_lt ops.toList base k o (by simpa using ho) hm) hroom⟩
  obtain ⟨Hj, k1, k2⟩ := eff_comm (fits i oi hoi) (fits j oj hoj) he1 he2 hc
  refine ⟨{ E := putE s.E oj.dst vj, H := Hj }, { E := putE (putE s.E oj.dst vj) oi.dst vi, H := Hij }, ?_, ?_, ⟨rfl, fun k => ?_⟩⟩
  · rw [step1_eff, hwj]
    simp only [Option.bind_some, k1]
    rfl
  · rw [step1_eff]
    simp only
    rw [wanted_putE p2, hwi]
    simp only [Option.bind_some]
    rw [eff_congr (ev' := evl N.G s.H s.E) (fun x hx => evl_put (fun d hd => looks_op (p2 d hd) x hx) (eff_glb k1 nmj hGH)), k2]
    rfl
  · simp only [look_putE]
    by_cases h1 : oj.dst = some k
    · rw [if_pos h1, if_neg (fun h => p3 k h h1), if_pos h1]
    · rw [if_neg h1, if_neg h1]

section sound
variable (hT : TblOk P N) {cal : Callee AV} (hcal : CalOk P N cal) {base : Nat} {ops : Array Oper}
theorem getD_set_self {listed : Array Bool} {i : Nat} (hi : i < listed.size) : (listed.setIfInBounds i true).getD i false = true := by simp [hi]
include hT hcal in
/-- what may come up now may be taken first -/
theorem sym_first {nt L : Nat} (hL : L ≤ base) (hGb : N.G ≤ base) {Φ : St AV → Prop} (hΦ : ∀ s t, Like s t → Φ s → Φ t) (hap : Apart ops) (hd : ∀ (k : Nat) (o : Oper), ops[k]? = some o → ∀ d, o.dst = some d → d < nt) {i : Nat} {oi : Oper} (hoi : ops[i]? = some oi) :
    ∀ (f : Nat) (listed : Array Bool) (log : List (Nat × Ent)) (s s1 : St AV) (en : Ent), listed.size = ops.size → Down ops listed → Closed N s → L ≤ s.H.length → base + countMk ops.toList ≤ s.H.length → i ∈ Region.ready .any ops listed →
      (step1 N cal base ops.toList i oi s).val = some (s1, en) → (∀ p ∈ log, isAnc ops.toList 12 i p.1 = false → compatE p.2 en = true) →
      symAny N cal base ops Φ f (listed.setIfInBounds i true) ((i, en) :: log) s1 → symAny N cal base ops Φ (f + 1) listed log s := by
  intro f
  induction f with
  | zero =>
    intro listed log s s1 en _ _ _ _ _ hr h1 hlog H
    refine ⟨fun h0 => (by rw [h0] at hr; cases hr), fun j hj o ho => ?_⟩
    by_cases hji : j = i
    · subst hji
      rw [hoi] at ho; cases ho
      exact ⟨s1, en, h1, hlog, H⟩
    · have := ready_mono hj hji
      rw [H.1] at this
      cases this
  | succ f ih =>
    intro listed log s s1 en hsz hdown hcl hH hroom hr h1 hlog H
    refine ⟨fun h0 => (by rw [h0] at hr; cases hr), fun j hj oj hoj => ?_⟩
    by_cases hji : j = i
    · subst hji
      rw [hoi] at hoj; cases hoj
      exact ⟨s1, en, h1, hlog, H⟩
    · obtain ⟨s12, ej, h2, hlog2, H2⟩ := H.2 j (ready_mono hj hji) oj hoj
      obtain ⟨ui, oi', hoi', alli⟩ := mem_ready.1 hr
      rw [hoi] at hoi'; cases hoi'
      obtain ⟨uj, oj', hoj', allj⟩ := mem_ready.1 hj
      rw [hoj] at hoj'; cases hoj'
      have hisz : i < ops.size := (Array.getElem?_eq_some_iff.1 hoi).1
      have hjsz : j < ops.size := (Array.getElem?_eq_some_iff.1 hoj).1
      have nl : ∀ k, k < ops.size → listed.getD k true = false → listed.getD k false = false := by
        intro k hk h
        have hk' : k < listed.size := by omega
        simp [hk'] at h ⊢
        exact h
      have ui' := nl i hisz ui
      have uj' := nl j hjsz uj
      have noij : ∀ e ∈ oj.after, Region.binds .any e = true → e.on ≠ i := fun e he hb heq => by
        have := allj e he hb; rw [heq, ui'] at this; cases this
      have noji : ∀ e ∈ oi.after, Region.binds .any e = true → e.on ≠ j := fun e he hb heq => by
        have := alli e he hb; rw [heq, uj'] at this; cases this
      have notanc : isAnc ops.toList 12 j i = false := by
        cases ha : isAnc ops.toList 12 j i with
        | false => rfl
        | true => have := anc_listed hdown 12 j i oj hoj allj ha; rw [ui'] at this; cases this
      have hcompat := hlog2 (i, en) (by simp) notanc
      obtain ⟨s2, s21, k1, k2, hlike⟩ := step1_comm hcl hGb hroom hoi hoj (hap i j oi oj (Ne.symm hji) hoi hoj noij noji) h1 h2 hcompat
      refine ⟨s2, ej, k1, fun p hp => hlog2 p (List.mem_cons_of_mem _ hp), ?_⟩
      have hcl2 : Closed N s2 := (step1_wp (P := P) (nt := nt) (L := L) hT hcal k1 hcl hL hH (hd j oj hoj)).1
      have hlen2 := step1_len k1
      refine ih (listed.setIfInBounds j true) ((j, ej) :: log) s2 s21 en (by simp [hsz]) ?_ hcl2 (Nat.le_trans hH hlen2) (Nat.le_trans hroom hlen2) (ready_mono hr (Ne.symm hji)) k2 ?_ ?_
      · -- down
        intro k ok hok hk e he hb
        by_cases hkj : k = j
        · subst hkj
          rw [hoj] at hok; cases hok
          exact getD_set_true (allj e he hb)
        · rw [getD_set_ne false (Ne.symm hkj)] at hk
          exact getD_set_true (hdown k ok hok hk e he hb)
      · intro p hp hpa
        rcases List.mem_cons.1 hp with rfl | hp
        · exact compat_symm hcompat
        · exact hlog p hp hpa
      · rw [Array.setIfInBounds_comm _ _ hji]
        refine symAny_congr hΦ f _ _ _ s12 s21 hlike ?_ H2
        intro p hp
        rcases List.mem_cons.1 hp with rfl | hp
        · simp
        · rcases List.mem_cons.1 hp with rfl | hp
          · simp
          · simp [hp]

/-- the first i operations are listed -/
def upTo (n i : Nat) : Array Bool := ((List.range n).map fun k => decide (k < i)).toArray
theorem upTo_size (n i : Nat) : (upTo n i).size = n := by simp [upTo]
theorem upTo_get (n i k : Nat) (d : Bool) : (upTo n i).getD k d = if k < n then decide (k < i) else d := by
  unfold upTo
  by_cases h : k < n
  · simp [h]
  · simp [h]
theorem upTo_succ (n i : Nat) : (upTo n i).setIfInBounds i true = upTo n (i + 1) := by
  apply Array.ext
  · simp [upTo]
  · intro k h1 h2
    have hk : k < n := by simpa [upTo] using h2
    simp only [upTo, List.getElem_toArray, List.getElem_map, List.getElem_range]
    by_cases e : i = k
    · subst e; simp
    · simp [e]; omega
theorem logOk_spec {all : List Oper} {j : Nat} {en : Ent} : ∀ {log : List (Nat × Ent)}, logOk all j en log = true → ∀ p ∈ log, isAnc all 12 j p.1 = false → compatE p.2 en = true
  | [], _, p, hp, _ => by cases hp
  | (i, x) :: r, h, p, hp, ha => by
    simp only [logOk] at h
    split at h
    · rename_i hc
      rcases List.mem_cons.1 hp with rfl | hp
      · exact hc
      · exact logOk_spec h p hp ha
    · split at h
      · rename_i han
        rcases List.mem_cons.1 hp with rfl | hp
        · rw [han] at ha; cases ha
        · exact logOk_spec h p hp ha
      · cases h
theorem edges_spec {i : Nat} : ∀ {l : List Edge}, edgesBelow i l = true → ∀ e ∈ l, Region.binds .any e = true → e.on < i
  | [], _, e, he, _ => by cases he
  | x :: r, h, e, he, hb => by
    simp only [edgesBelow] at h
    split at h
    · rename_i hx
      split at h
      · rename_i hlt
        rcases List.mem_cons.1 he with rfl | he
        · exact (blt_iff _ _).1 hlt
        · exact edges_spec h e he hb
      · cases h
    · rename_i hx
      rcases List.mem_cons.1 he with rfl | he
      · rw [hb] at hx; cases hx
      · exact edges_spec h e he hb
/-- the edges of the operations from i on -/
def Below (ops : Array Oper) : Prop := ∀ (j : Nat) (o : Oper), ops[j]? = some o → ∀ e ∈ o.after, Region.binds .any e = true → e.on < j
theorem below_of {cal : Callee AV} : ∀ (r : List Oper) (i : Nat) (log : List (Nat × Ent)) (s s' : St AV), (stepOpsD N cal base ops.toList i r log s).val = some s' → ∀ (k : Nat) (o : Oper), r[k]? = some o → ∀ e ∈ o.after, Region.binds .any e = true → e.on < i + k
  | [], _, _, _, _, _, k, o, hk => by simp at hk
  | x :: r, i, log, s, s', h, k, o, hk => by
    simp only [stepOpsD] at h
    split at h
    · simp [T.val] at h
    · rename_i hed
      obtain ⟨⟨s1, en⟩, h1, h2⟩ := T.bind_some h
      simp only at h2
      split at h2
      · cases k with
        | zero =>
          simp at hk
          subst hk
          intro e he hb
          exact edges_spec hed e (Array.mem_toList_iff.2 he) hb
        | succ k =>
          have := below_of r (i + 1) _ s1 s' h2 k o (by simpa using hk)
          rw [show i + (k + 1) = i + 1 + k from by omega]
          exact this
      · simp [T.val] at h2
theorem down_upTo {i : Nat} (hb : Below ops) : Down ops (upTo ops.size i) := by
  intro j o ho hj e he hbe
  have hjs : j < ops.size := (Array.getElem?_eq_some_iff.1 ho).1
  have := hb j o ho e he hbe
  rw [upTo_get, if_pos hjs] at hj
  rw [upTo_get, if_pos (by omega)]
  simp at hj ⊢
  omega
include hT hcal in
theorem D_sym {nt L : Nat} (hL : L ≤ base) (hGb : N.G ≤ base) (hap : Apart ops) (hb : Below ops) (hd : ∀ (k : Nat) (o : Oper), ops[k]? = some o → ∀ d, o.dst = some d → d < nt) (s' : St AV) :
    ∀ (r : List Oper) (i : Nat) (log : List (Nat × Ent)) (s : St AV), ops.toList.drop i = r → i + r.length = ops.size → (stepOpsD N cal base ops.toList i r log s).val = some s' → Closed N s → L ≤ s.H.length → base + countMk ops.toList ≤ s.H.length →
      symAny N cal base ops (fun t => Like s' t) r.length (upTo ops.size i) log s ∧ Closed N s' ∧ L ≤ s'.H.length
  | [], i, log, s, hr, hi, h, hcl, hH, _ => by
    simp only [stepOpsD, T.val, Option.some.injEq] at h
    subst h
    refine ⟨⟨?_, Like.refl s⟩, hcl, hH⟩
    have hi' : i = ops.size := by simpa using hi
    subst hi'
    apply List.eq_nil_iff_forall_not_mem.2
    intro j hj
    obtain ⟨h0, o, ho, _⟩ := mem_ready.1 hj
    have hjs : j < ops.size := (Array.getElem?_eq_some_iff.1 ho).1
    rw [upTo_get, if_pos hjs] at h0
    simp at h0
    omega
  | x :: r, i, log, s, hr, hi, h, hcl, hH, hroom => by
    have hx : ops[i]? = some x := by
      have := congrArg (fun l => l[0]?) hr
      simpa using this
    have hr' : ops.toList.drop (i + 1) = r := by
      have := congrArg List.tail hr
      simpa [List.tail_drop] using this
    simp only [stepOpsD] at h
    split at h
    · simp [T.val] at h
    · rename_i hed
      obtain ⟨⟨s1, en⟩, h1, h2⟩ := T.bind_some h
      simp only at h2
      split at h2
      · rename_i hlog
        have hcl1 : Closed N s1 := (step1_wp (P := P) (nt := nt) (L := L) hT hcal h1 hcl hL hH (hd i x hx)).1
        have hlen1 := step1_len h1
        obtain ⟨ih, c', l'⟩ := D_sym hL hGb hap hb hd s' r (i + 1) ((i, en) :: log) s1 hr' (by simp at hi; omega) h2 hcl1 (Nat.le_trans hH hlen1) (Nat.le_trans hroom hlen1)
        refine ⟨?_, c', l'⟩
        have his : i < ops.size := (Array.getElem?_eq_some_iff.1 hx).1
        refine sym_first (P := P) (nt := nt) (L := L) hT hcal hL hGb (fun s t hst h => ⟨h.H.trans hst.H, fun k => (h.E k).trans (hst.E k)⟩) hap hd hx r.length (upTo ops.size i) log s s1 en (upTo_size _ _) (down_upTo hb) hcl hH hroom ?_ h1 (logOk_spec hlog) ?_
        · refine mem_ready.2 ⟨by rw [upTo_get, if_pos his]; simp, x, hx, fun e he hbe => ?_⟩
          have := hb i x hx e he hbe
          rw [upTo_get, if_pos (by omega)]
          simp; exact this
        · rw [upTo_succ]; exact ih
      · simp [T.val] at h2
include hT hcal in
theorem sym_wp {nt L : Nat} (hL : L ≤ base) (hd : ∀ (k : Nat) (o : Oper), ops[k]? = some o → ∀ d, o.dst = some d → d < nt) {Φ : St AV → Prop} {Q : Exit → Act → World → Prop} {ρ₀ : Nm} {s₀ : St AV} {a₀ : Act} {w₀ : World}
    (hQ : ∀ t a w, Φ t → Lands N nt L ρ₀ s₀ w₀ a₀ t a w → Q .normal a w) :
    ∀ (f : Nat) (listed : Array Bool) (log : List (Nat × Ent)) (s : St AV), symAny N cal base ops Φ f listed log s → Closed N s → L ≤ s.H.length → ∀ (ρ : Nm) (a : Act) (w : World), At N nt ρ s a w → Evo N L ρ₀ s₀.H w₀ ρ s.H w → a.defers = a₀.defers → wpAny P .any ops Q f listed a w
  | 0, listed, log, s, h, hcl, hH, ρ, a, w, hat, hev, hdf => ⟨h.1, hQ s a w h.2 ⟨⟨ρ, hat.em, hat.own, hev⟩, hdf⟩⟩
  | f + 1, listed, log, s, h, hcl, hH, ρ, a, w, hat, hev, hdf => by
    refine ⟨fun hr => hQ s a w (h.1 hr) ⟨⟨ρ, hat.em, hat.own, hev⟩, hdf⟩, fun i hi => ?_⟩
    obtain ⟨_, o, ho, _⟩ := mem_ready.1 hi
    obtain ⟨s1, en, h1, _, h3⟩ := h.2 i hi o ho
    obtain ⟨c1, k1⟩ := step1_wp (P := P) (nt := nt) (L := L) hT hcal h1 hcl hL hH (hd i o ho)
    have := k1 hat (K := wpAny P .any ops Q f (listed.setIfInBounds i true)) (Q := Q) (fun a1 w1 hl => by
      obtain ⟨⟨ρ1, e1, o1, v1⟩, d1⟩ := hl
      exact sym_wp hL hd hQ f _ _ s1 h3 c1 (Nat.le_trans hH (step1_len h1)) ρ1 a1 w1 ⟨e1, o1⟩ (hev.trans v1) (d1.trans hdf))
    unfold wpOp
    simp only [ho]
    split
    · rename_i hw; rw [if_pos hw] at this; exact .inl this
    · rename_i hw; rw [if_neg hw] at this; exact this
end sound

theorem stepOpsD_wp (hT : TblOk P N) {cal : Callee AV} (hcal : CalOk P N cal) {nt L base : Nat} (ops : Array Oper) (hap : apartAll ops ops.toList 0 ops.toList = true) (hL : L ≤ base) (hGb : N.G ≤ base) {s s' : St AV} (h : (stepOpsD N cal base ops.toList 0 ops.toList [] s).val = some s')
    (hcl : Closed N s) (hH : L ≤ s.H.length) (hd : ∀ o ∈ ops.toList, ∀ d, o.dst = some d → d < nt) (hroom : s.H.length = base + countMk ops.toList) :
    Closed N s' ∧ L ≤ s'.H.length ∧ ∀ {id : Nat} {ρ : Nm} {a : Act} {w : World}, At N nt ρ s a w → ∀ {Q : Exit → Act → World → Prop}, (∀ a' w', Lands N nt L ρ s w a s' a' w' → Q .normal a' w') → (Code.region id ops true).wp P Q a w := by
  have hb : Below ops := fun j o ho e he hbe => by
    have := below_of ops.toList 0 [] s s' h j o (by simpa using ho) e he hbe
    omega
  have hd' : ∀ (k : Nat) (o : Oper), ops[k]? = some o → ∀ d, o.dst = some d → d < nt := fun k o ho => hd o (Array.mem_toList_iff.2 (Array.mem_of_getElem? ho))
  obtain ⟨hsym, c', l'⟩ := D_sym (P := P) (nt := nt) (L := L) hT hcal hL hGb (apart_of hap) hb hd' s' ops.toList 0 [] s rfl (by simp) h hcl hH (by omega)
  refine ⟨c', l', fun {id ρ a w} hat Q hQ => wp_region_any hT.mix ?_⟩
  have hrep : Array.replicate ops.size false = upTo ops.size 0 := by
    apply Array.ext
    · simp [upTo]
    · intro k h1 h2; simp [upTo]
  rw [hrep]
  have hlen : ops.toList.length = ops.size := by simp
  rw [hlen] at hsym
  refine sym_wp (P := P) (nt := nt) (L := L) hT hcal hL hd' (Φ := fun t => Like s' t) (Q := Q) (ρ₀ := ρ) (s₀ := s) (a₀ := a) (w₀ := w) ?_ ops.size (upTo ops.size 0) [] s hsym hcl hH ρ a _ ⟨hat.em, hat.own.drew⟩ (Evo.drew' (Evo.refl _ _ _ _)) rfl
  intro t a' w' hlike hl
  refine hQ a' w' ?_
  obtain ⟨⟨ρ1, e1, o1, v1⟩, d1⟩ := hl
  refine ⟨⟨ρ1, ⟨e1.size, fun k hk => by rw [hlike.E k] at hk ⊢; exact e1.get k hk⟩, by rw [hlike.H]; exact o1, by rw [hlike.H]; exact v1⟩, d1⟩
end Go.Sx
