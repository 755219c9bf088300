/- The symbolic executor: what one operation does to the heap, and that operations that touch different blocks may change places. -/
import Derived.Test.YtfamkibdecgbgaaGreatDoorSxK
namespace Go.Sx
variable {AV : Type} {N : Env AV}

/-- the effect of one operation: its value, the heap behind it, what it touches -/
def eff (N : Env AV) (cal : Callee AV) (W : Bool) (nm : Nat) (o : Op) (ev : Operand → Option SV) (H : Hp AV) : Option (SV × Hp AV × Ent) :=
  match W with
  | false => some (undefV, H, .pure)
  | true => match callee? N ev o with
    | some (some (g, l)) => (callV cal (gnames N g) g l H).val.map fun r => (r.1, r.2, entOf N nm ev H r.2 o)
    | some none => none
    | none => (light N nm ev H o).val.map fun r => (r.1, updH H r.2, entOf N nm ev H (updH H r.2) o)
theorem step1_eff {cal : Callee AV} {base : Nat} {all : List Oper} {i : Nat} {o : Oper} {s : St AV} :
    (step1 N cal base all i o s).val = (wantedS all o s.E).bind fun p => (eff N cal p.1 (nmOf all base i) o.op (evl N.G s.H s.E) s.H).map fun r => ({ E := putE s.E o.dst r.1, H := r.2.1 }, r.2.2) := by
  rw [step1_val]
  unfold step1v eff stepOp
  cases wantedS all o s.E with
  | none => rfl
  | some p =>
    obtain ⟨b, k⟩ := p
    simp only [Option.bind_some]
    cases b with
    | false => simp
    | true =>
      simp only [if_true]
      split
      · rename_i g l h
        simp only [h]
        rw [T.val_bind]
        cases (callV cal (gnames N g) g l s.H).val with
        | none => rfl
        | some r => rfl
      · rename_i h; simp [h, T.val]
      · rename_i h
        simp only [h]
        rw [T.val_bind]
        cases (light N (nmOf all base i) (evl N.G s.H s.E) s.H o.op).val with
        | none => rfl
        | some r => rfl

theorem evlP_congr {ev ev' : Operand → Option SV} : ∀ l : List (Nat × Operand), (∀ p ∈ l, ev p.2 = ev' p.2) → evlP ev l = evlP ev' l
  | [], _ => rfl
  | (i, x) :: l, hl => by
    simp only [evlP]
    rw [hl (i, x) (by simp), evlP_congr l (fun q hq => hl q (by simp [hq]))]
/-- a new array hangs on its name alone -/
theorem lightArr_val {nm : Nat} {H : Hp AV} {arr : Option Arr} {r : SV × Option (Nat × Chunk AV)} (h : (lightArr N nm H arr).val = some r) : hget H nm = none ∧ nm < H.length ∧ (∃ c, r.2 = some (nm, c)) ∧
    ∀ H2 : Hp AV, hget H2 nm = none → nm < H2.length → (lightArr N nm H2 arr).val = some r := by
  unfold lightArr at h
  split at h
  · split at h
    · rename_i h2 h3 h4
      simp only [T.val, Option.some.injEq] at h
      subst h
      refine ⟨h2, (blt_iff _ _).1 h3, ⟨_, rfl⟩, fun H2 e2 hl => ?_⟩
      have e3 := (blt_iff _ _).2 hl
      simp only [lightArr, e2, e3, h4, T.val]
    · simp [T.val] at h
  · simp [T.val] at h
/-- operands alone matter -/
theorem pureOp_congr {ev ev' : Operand → Option SV} (o : Op) (h : ∀ x ∈ o.operands, ev x = ev' x) : pureOp N ev o = pureOp N ev' o := by
  cases o <;> simp only [pureOp] <;> simp only [Op.operands] at h
  case move x => rw [h x (by simp)]
  case assign x => rw [h x (by simp)]
  case pick c a b => rw [h c (by simp), h a (by simp), h b (by simp)]
  case build t ps =>
    have : ∀ l : List (Nat × Operand), (∀ p ∈ l, ev p.2 = ev' p.2) → evlP ev l = evlP ev' l := by
      intro l
      induction l with
      | nil => intro _; rfl
      | cons p l ih =>
        intro hl
        obtain ⟨i, x⟩ := p
        simp only [evlP]
        rw [hl (i, x) (by simp), ih (fun q hq => hl q (by simp [hq]))]
    rw [this ps.toList (fun p hp => h p.2 (by simp; exact ⟨p.1, Array.mem_toList_iff.1 hp⟩))]
  case nilCheck x => rw [h x (by simp)]
  case fieldAddr t x i => rw [h x (by simp)]
  case field t x i => rw [h x (by simp)]
  case binOp op t x y t' => rw [h x (by simp), h y (by simp)]
  case unOp op t x => cases op <;> simp only []; rw [h x (by simp)]
  case extract x i => rw [h x (by simp)]
  case makeInterface t x => rw [h x (by simp)]
  case indexAddr t x i => rw [h x (by simp), h i (by simp)]
  case index t x i => rw [h x (by simp), h i (by simp)]
  case convert a b x => rw [h x (by simp)]
  case call c =>
    split
    · split
      · rename_i x t hx ht
        rw [h x (by simp only [Call.operands, Array.mem_append]; exact .inr (by rw [← Array.mem_toList_iff, hx]; simp))]
      · rfl
    · rfl
theorem evls_congr {ev ev' : Operand → Option SV} : ∀ (l : List Operand), (∀ x ∈ l, ev x = ev' x) → evls ev l = evls ev' l
  | [], _ => rfl
  | x :: r, h => by simp only [evls]; rw [h x (by simp), evls_congr r (fun y hy => h y (by simp [hy]))]
theorem callee_congr {ev ev' : Operand → Option SV} (o : Op) (h : ∀ x ∈ o.operands, ev x = ev' x) : callee? N ev o = callee? N ev' o := by
  unfold callee?
  split
  · rw [evls_congr o.operands.toList (fun x hx => h x (Array.mem_toList_iff.1 hx))]
  · rename_i hh
    clear hh
    cases o <;> simp only []
    case call c =>
      simp only [Op.operands, Call.operands] at h
      split
      · rename_i f hf
        rw [h f (by rw [hf]; simp), evls_congr c.args.toList (fun x hx => h x (by simp only [Array.mem_append]; exact .inr (Array.mem_toList_iff.1 hx)))]
      · rename_i f m hf
        rw [h f (by rw [hf]; simp), evls_congr c.args.toList (fun x hx => h x (by simp only [Array.mem_append]; exact .inr (Array.mem_toList_iff.1 hx)))]
      · rfl
theorem light_congr {ev ev' : Operand → Option SV} (nm : Nat) (H : Hp AV) (o : Op) (h : ∀ x ∈ o.operands, ev x = ev' x) : light N nm ev H o = light N nm ev' H o := by
  unfold light
  rw [pureOp_congr o h]
  split
  · rfl
  · rename_i hpo
    clear hpo
    cases o <;> simp only [] <;> simp only [Op.operands] at h
    case box t x => rw [h x (by simp)]
    case load t x => rw [h x (by simp)]
    case store t x y => rw [h x (by simp), h y (by simp)]
    case makeSlice t x y => rw [h x (by simp), h y (by simp)]
    case buildSlice t len parts => rw [evlP_congr parts.toList (fun p hp => h p.2 (by simp; exact ⟨p.1, Array.mem_toList_iff.1 hp⟩))]
theorem ent_congr {ev ev' : Operand → Option SV} (nm : Nat) (H H' : Hp AV) (o : Op) (h : ∀ x ∈ o.operands, ev x = ev' x) : entOf N nm ev H H' o = entOf N nm ev' H H' o := by
  unfold entOf
  rw [callee_congr o h]
  split
  · rfl
  · rfl
  · rename_i hpo
    clear hpo
    cases o <;> simp only [] <;> simp only [Op.operands] at h
    case load t x => rw [h x (by simp)]
    case store t x y => rw [h x (by simp)]
theorem eff_congr {cal : Callee AV} {W : Bool} {nm : Nat} {o : Op} {ev ev' : Operand → Option SV} {H : Hp AV} (h : ∀ x ∈ o.operands, ev x = ev' x) : eff N cal W nm o ev H = eff N cal W nm o ev' H := by
  unfold eff
  rw [callee_congr o h, light_congr nm H o h]
  simp only [ent_congr nm H _ o h]

def isCall : Ent → Bool
  | .call _ _ => true
  | _ => false
/-- an operation that is no call: it hangs on one block and turns one block at most -/
theorem eff_light {cal : Callee AV} {W : Bool} {nm : Nat} {o : Op} {ev : Operand → Option SV} {H H' : Hp AV} {v : SV} {en : Ent} (h : eff N cal W nm o ev H = some (v, H', en)) (hn : isCall en = false) :
    ∃ u, H' = updH H u ∧ (u = none ∨ ∃ n c, u = some (n, c) ∧ en = .wr n ∧ n < H.length) ∧
      (∀ n, en = .wr n → n < H.length ∧ (makes o = true) ∧ n = nm ∨ ∃ c, hget H n = some c) ∧
      ∀ H2 : Hp AV, (∀ n, (en = .rd n ∨ en = .wr n) → hget H2 n = hget H n) → ((makes o = true) → nm < H2.length) → eff N cal W nm o ev H2 = some (v, updH H2 u, en) := by
  unfold eff at h
  cases W with
  | false =>
    simp only [Option.some.injEq, Prod.mk.injEq] at h
    obtain ⟨rfl, rfl, rfl⟩ := h
    exact ⟨none, rfl, .inl rfl, (fun n h => by cases h), fun H2 _ _ => rfl⟩
  | true =>
    simp only at h
    split at h
    · rename_i g l hc
      obtain ⟨r, _, hr⟩ := Option.map_eq_some_iff.1 h
      cases hr
      simp [entOf, hc, isCall] at hn
    · cases h
    · rename_i hc
      obtain ⟨⟨v', u⟩, hl, hr⟩ := Option.map_eq_some_iff.1 h
      simp only [Prod.mk.injEq] at hr
      obtain ⟨rfl, rfl, hen⟩ := hr
      have hent : ∀ H2 H3 : Hp AV, entOf N nm ev H2 H3 o = en := fun H2 H3 => by rw [← hen]; simp only [entOf, hc]
      have done : ∀ H2 : Hp AV, (light N nm ev H2 o).val = some (v', u) → eff N cal true nm o ev H2 = some (v', updH H2 u, en) := fun H2 h2 => by
        unfold eff
        simp only [hc, h2, Option.map_some, hent H2]
      refine ⟨u, rfl, ?_⟩
      unfold light at hl
      split at hl
      · -- looks at no memory
        rename_i t ht
        rw [T.val_map] at hl
        obtain ⟨v0, hv0, he⟩ := Option.map_eq_some_iff.1 hl
        cases he
        have hno : ∀ n, en ≠ .wr n := by
          intro n hw
          rw [← hen] at hw
          simp only [entOf, hc] at hw
          cases o <;> simp [pureOp] at ht hw
        refine ⟨.inl rfl, (fun n h => absurd h (hno n)), fun H2 _ _ => done H2 ?_⟩
        unfold light
        simp only [ht, T.val_map, hv0, Option.map_some]
      · rename_i hpo
        split at hl
        · -- alloc
          rename_i t
          split at hl
          · rename_i kd sz z fl h1 h2 h3 h4
            simp only [T.val, Option.some.injEq, Prod.mk.injEq] at hl
            obtain ⟨rfl, rfl⟩ := hl
            have hwr : en = .wr nm := by rw [← hen]; simp only [entOf, hc]
            have hlt := (blt_iff _ _).1 h3
            refine ⟨.inr ⟨_, _, rfl, hwr, hlt⟩, (fun n h => .inl ?_), fun H2 hH2 hlen => done H2 ?_⟩
            · rw [hwr] at h; cases h; exact ⟨hlt, rfl, rfl⟩
            · have e2 := hH2 nm (.inr hwr)
              rw [h2] at e2
              have e3 := (blt_iff _ _).2 (hlen rfl)
              unfold light
              simp only [hpo, h1, e2, e3, h4, T.val]
          · simp [T.val] at hl
        · -- box
          rename_i t x
          split at hl
          · rename_i b h1 h2 h3 h4
            simp only [T.val, Option.some.injEq, Prod.mk.injEq] at hl
            obtain ⟨rfl, rfl⟩ := hl
            have hwr : en = .wr nm := by rw [← hen]; simp only [entOf, hc]
            have hlt := (blt_iff _ _).1 h3
            refine ⟨.inr ⟨_, _, rfl, hwr, hlt⟩, (fun n h => .inl ?_), fun H2 hH2 hlen => done H2 ?_⟩
            · rw [hwr] at h; cases h; exact ⟨hlt, rfl, rfl⟩
            · have e2 := hH2 nm (.inr hwr)
              rw [h2] at e2
              have e3 := (blt_iff _ _).2 (hlen rfl)
              unfold light
              simp only [hpo, h1, e2, e3, h4, T.val]
          · simp [T.val] at hl
        · -- load
          rename_i t x
          split at hl
          · rename_i p hp
            rw [T.val_map] at hl
            obtain ⟨v0, hv0, he⟩ := Option.map_eq_some_iff.1 hl
            cases he
            have hno : ∀ n, en ≠ .wr n := by
              intro n hw
              rw [← hen] at hw
              simp only [entOf, hc, hp] at hw
              split at hw <;> cases hw
            refine ⟨.inl rfl, (fun n h => absurd h (hno n)), fun H2 hH2 _ => done H2 ?_⟩
            have e2 : loadV N t H2 p = loadV N t H p := by
              unfold loadV
              split
              · rename_i n off
                have : en = .rd n := by rw [← hen]; simp only [entOf, hc, hp]
                rw [hH2 n (.inl this)]
              · rename_i n idx es off
                have : en = .rd n := by rw [← hen]; simp only [entOf, hc, hp]
                rw [hH2 n (.inl this)]
              · rfl
            unfold light
            simp only [hpo, hp, T.val_map, e2, hv0, Option.map_some]
          · simp [T.val] at hl
        · -- store
          rename_i t x y
          split at hl
          · rename_i n off b hx hy
            split at hl
            · rename_i l ty i h3 h4
              split at hl
              · rename_i h5
                split at hl
                · rename_i l' h6
                  simp only [T.val, Option.some.injEq, Prod.mk.injEq] at hl
                  obtain ⟨rfl, rfl⟩ := hl
                  have hwr : en = .wr n := by rw [← hen]; simp only [entOf, hc, hx]
                  refine ⟨.inr ⟨_, _, rfl, hwr, hget_lt h3⟩, (fun m h => .inr ?_), fun H2 hH2 _ => done H2 ?_⟩
                  · rw [hwr] at h; cases h; exact ⟨_, h3⟩
                  · have e2 := hH2 n (.inr hwr)
                    rw [h3] at e2
                    unfold light
                    simp only [hpo, hx, hy, e2, h4, h5, h6, T.val]
                · simp [T.val] at hl
              · simp [T.val] at hl
            · simp [T.val] at hl
          · rename_i n idx es off b hx hy
            have hwr : en = .wr n := by rw [← hen]; simp only [entOf, hc, hx]
            split at hl
            · rename_i l ve ty i h3 h4
              split at hl
              · rename_i h5
                split at hl
                · simp [T.val] at hl
                rename_i h50
                split at hl
                · rename_i l' h6
                  simp only [T.val, Option.some.injEq, Prod.mk.injEq] at hl
                  obtain ⟨rfl, rfl⟩ := hl
                  refine ⟨.inr ⟨_, _, rfl, hwr, hget_lt h3⟩, (fun m h => .inr ?_), fun H2 hH2 _ => done H2 ?_⟩
                  · rw [hwr] at h; cases h; exact ⟨_, h3⟩
                  · have e2 := hH2 n (.inr hwr)
                    rw [h3] at e2
                    unfold light
                    simp only [hpo, hx, hy, e2, h4, h5, h50, h6, T.val]
                · simp [T.val] at hl
              · simp [T.val] at hl
            · rename_i a i h3 h4
              split at hl
              · rename_i h5
                split at hl
                · rename_i bb a' h6
                  obtain ⟨rfl, hl⟩ := need_val hl
                  simp only [T.val, Option.some.injEq, Prod.mk.injEq] at hl
                  obtain ⟨rfl, rfl⟩ := hl
                  refine ⟨.inr ⟨_, _, rfl, hwr, hget_lt h3⟩, (fun m h => .inr ?_), fun H2 hH2 _ => done H2 ?_⟩
                  · rw [hwr] at h; cases h; exact ⟨_, h3⟩
                  · have e2 := hH2 n (.inr hwr)
                    rw [h3] at e2
                    unfold light
                    simp only [hpo, hx, hy, e2, h4, h5, h6, T.val]
                · simp [T.val] at hl
              · simp [T.val] at hl
            · simp [T.val] at hl
          · simp [T.val] at hl
        · -- make
          rename_i t x y
          obtain ⟨h2, hlt, ⟨c, hu⟩, hall⟩ := lightArr_val hl
          simp only at hu
          subst hu
          have hwr : en = .wr nm := by rw [← hen]; simp only [entOf, hc]
          refine ⟨.inr ⟨_, _, rfl, hwr, hlt⟩, (fun n h => .inl ?_), fun H2 hH2 hlen => done H2 ?_⟩
          · rw [hwr] at h; cases h; exact ⟨hlt, rfl, rfl⟩
          · have e2 := hH2 nm (.inr hwr)
            rw [h2] at e2
            unfold light
            simp only [hpo]
            exact hall H2 e2 (hlen rfl)
        · -- the building of a slice
          rename_i t len parts
          obtain ⟨h2, hlt, ⟨c, hu⟩, hall⟩ := lightArr_val hl
          simp only at hu
          subst hu
          have hwr : en = .wr nm := by rw [← hen]; simp only [entOf, hc]
          refine ⟨.inr ⟨_, _, rfl, hwr, hlt⟩, (fun n h => .inl ?_), fun H2 hH2 hlen => done H2 ?_⟩
          · rw [hwr] at h; cases h; exact ⟨hlt, rfl, rfl⟩
          · have e2 := hH2 nm (.inr hwr)
            rw [h2] at e2
            unfold light
            simp only [hpo]
            exact hall H2 e2 (hlen rfl)
        · simp [T.val] at hl

/-- a call: it hangs on what it sees, and turns that alone -/
theorem kept_spec {R : List Nat} {H K : Hp AV} {n : Nat} (h : keptU N R H K n = true) : hget H n = hget K n := by
  unfold keptU at h
  split at h
  · unfold keptC at h
    split at h
    · rename_i a b e1 e2
      rw [e1, e2, N.F.same_ok a b h]
    · cases h
  · cases h
theorem kept_mask {R : List Nat} {H H2 B : Hp AV} (hl : H.length ≤ B.length) (h : maskH R 0 H2 = maskH R 0 H) : keptU N R H2 (mergeH R 0 H2 B) = keptU N R H (mergeH R 0 H B) := by
  have hlen : H2.length = H.length := by have h1 := congrArg List.length h; rw [mask_len, mask_len] at h1; exact h1
  funext n
  unfold keptU
  cases hs : sees R n with
  | false => rfl
  | true =>
    have e : hget H2 n = hget H n := by
      have h1 : hget (maskH R 0 H2) n = hget H2 n := by rw [hget_mask, Nat.zero_add, if_pos hs]
      have h2 : hget (maskH R 0 H) n = hget H n := by rw [hget_mask, Nat.zero_add, if_pos hs]
      rw [← h1, ← h2, h]
    simp only
    rw [hget_merge _ _ _ _ _ hl, hget_merge _ _ _ _ _ (by omega), hlen, e]
theorem eff_call {cal : Callee AV} {W : Bool} {nm : Nat} {o : Op} {ev : Operand → Option SV} {H H' : Hp AV} {v : SV} {R : List Nat} {U : Nat → Bool} (h : eff N cal W nm o ev H = some (v, H', .call R U)) :
    ∃ (nl : List Nat) (B : Hp AV), R = reach H 400 nl [] ∧ H.length ≤ B.length ∧ H' = mergeH R 0 H B ∧ (∀ n, n < H.length → (hget H' n).isSome = (hget H n).isSome) ∧ (∀ n, U n = true → hget H' n = hget H n) ∧
      ∀ H2 : Hp AV, reach H2 400 nl [] = R → maskH R 0 H2 = maskH R 0 H → eff N cal W nm o ev H2 = some (v, mergeH R 0 H2 B, .call R U) := by
  unfold eff at h
  cases W with
  | false => simp at h
  | true =>
    simp only at h
    split at h
    · rename_i g l hc
      obtain ⟨⟨v', K⟩, hr, he⟩ := Option.map_eq_some_iff.1 h
      simp only [Prod.mk.injEq] at he
      obtain ⟨rfl, rfl, hen⟩ := he
      have hR : reach H 400 (namesVs l ++ gnames N g) [] = R := by
        simp only [entOf, hc, Ent.call.injEq] at hen
        exact hen.1
      have hU : keptU N R H K = U := by
        simp only [entOf, hc, Ent.call.injEq] at hen
        rw [← hR]
        exact hen.2
      have hr0 := hr
      unfold callV at hr
      rw [hR] at hr
      simp only at hr
      split at hr
      · simp [T.val] at hr
      · rename_i hargs
        split at hr
        · simp [T.val] at hr
        · rename_i hheap
          obtain ⟨⟨v0, B⟩, hb, hr⟩ := T.bind_some hr
          simp only at hr
          split at hr
          · simp [T.val] at hr
          · rename_i hpers
            simp only [T.val, Option.some.injEq, Prod.mk.injEq] at hr
            obtain ⟨rfl, rfl⟩ := hr
            have hlen := (pers_spec hpers).1
            rw [mask_len] at hlen
            refine ⟨_, B, hR.symm, hlen, rfl, fun n hn => ?_, fun n hn => ?_, fun H2 h2 h3 => ?_⟩
            · rw [hget_merge _ _ _ _ _ hlen, if_pos hn, Nat.zero_add]
              cases hx : hget H n with
              | none => rfl
              | some x =>
                simp only
                split
                · rename_i hs
                  obtain ⟨c', hc'⟩ := (pers_spec hpers).2.1 n x (by rw [hget_mask, Nat.zero_add, if_pos hs]; exact hx)
                  rw [hc']; rfl
                · rfl
            · rw [← hU] at hn
              exact (kept_spec hn).symm
            unfold eff
            simp only [hc]
            have : (callV cal (gnames N g) g l H2).val = some (v0, mergeH R 0 H2 B) := by
              unfold callV
              rw [h2, h3]
              simp only [hargs, hheap, T.val_bind, hb, Option.bind_some, hpers, T.val]
            rw [this]
            simp only [Option.map_some, entOf, hc, h2]
            rw [← hU, kept_mask hlen h3]
    · cases h
    · rename_i hc
      obtain ⟨r, _, he⟩ := Option.map_eq_some_iff.1 h
      simp only [Prod.mk.injEq] at he
      obtain ⟨_, _, hen⟩ := he
      simp only [entOf, hc] at hen
      cases o <;> simp at hen
      all_goals (split at hen <;> cases hen)
/-- the package-level variables stay -/
theorem eff_glb {cal : Callee AV} {W : Bool} {nm : Nat} {o : Op} {ev : Operand → Option SV} {H H' : Hp AV} {v : SV} {en : Ent} (h : eff N cal W nm o ev H = some (v, H', en)) (hnm : N.G ≤ nm) (hH : N.G ≤ H.length) (g : Nat) (hg : g < N.G) :
    (hget H' g).isSome = (hget H g).isSome := by
  cases hi : isCall en with
  | false =>
    obtain ⟨u, rfl, hu, hw, _⟩ := eff_light h hi
    rcases hu with rfl | ⟨n, c, rfl, hen, hlt⟩
    · rfl
    · by_cases e : n = g
      · subst e
        simp only [updH]
        rw [hget_lset_self _ hlt]
        rcases hw n hen with ⟨_, _, rfl⟩ | ⟨c', hc'⟩
        · omega
        · rw [hc']; rfl
      · simp only [updH]
        rw [hget_lset_ne _ e]
  | true =>
    cases en with
    | pure => cases hi
    | rd _ => cases hi
    | wr _ => cases hi
    | call R U =>
      obtain ⟨_, _, _, _, _, k, _⟩ := eff_call h
      exact k g (by omega)
end Go.Sx
