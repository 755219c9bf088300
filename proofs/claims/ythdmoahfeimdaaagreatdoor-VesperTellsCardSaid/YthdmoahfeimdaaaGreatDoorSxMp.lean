import Derived.Test.YthdmoahfeimdaaaGreatDoorSxOb
import Derived.MapKept
import Derived.Laws.BytesArg
import Derived.Laws.Small
import Derived.Test.YthdmoahfeimdaaaGreatDoorSxM
namespace Go.Sx
variable {AV : Type} {P : Program} {N : Env AV}
theorem bs_inj {a b : ByteArray} (h : (a == b) = true) : a = b := by
 rw [<- strEq_beq, strEq, bsEq_eq] at h
 have h := eq_of_beq h
 cases a; cases b
 rw [ByteArray.mk.injEq]
 exact Array.toList_inj.1 h
theorem bs_refl (a : ByteArray) : (a == a) = true := by
 rw [<- strEq_beq, strEq, bsEq_eq]
 exact beq_self_eq_true _
theorem eqC_total {x y : Cell} {k : FK} (hx : kindC x = some k) (hy : kindC y = some k) : ∃ b q, eqC x y = some (b, q) := by
 cases k <;> cases x <;> simp [kindC] at hx <;> cases y <;> simp [kindC] at hy <;> simp [eqC, boolC, intC, strC]
theorem kindsB_cons {k : FK} {ks : List FK} {c : Cell} {cs : List Cell} (h : kindsB (k :: ks) (c :: cs) = true) : kindC c = some k /\ kindsB ks cs = true := by
 simp only [kindsB] at h
 split at h
 ·rename_i k' hk
  split at h
  ·rename_i hd
   rw [hk, <- of_decide_eq_true hd]
   exact ⟨rfl, h⟩
  ·cases h
 ·cases h
theorem eqL_total : ∀ {ks : List FK} {xs ys : List Cell}, kindsB ks xs = true -> kindsB ks ys = true -> ∃ b q, eqL xs ys = some (b, q)
 | [], [], [], _, _ => ⟨_, _, rfl⟩
 | [], _ :: _, _, h, _ => by simp [kindsB] at h
 | [], [], _ :: _, _, h => by simp [kindsB] at h
 | _ :: _, [], _, h, _ => by simp [kindsB] at h
 | _ :: _, _ :: _, [], _, h => by simp [kindsB] at h
 | k :: ks, x :: xs, y :: ys, hx, hy => by
   obtain ⟨x1, x2⟩ := kindsB_cons hx
   obtain ⟨y1, y2⟩ := kindsB_cons hy
   obtain ⟨b, q, h1⟩ := eqC_total x1 y1
   obtain ⟨b', q', h2⟩ := eqL_total x2 y2
   simp only [eqL, h1, h2]
   cases q <;> cases b <;> cases q' <;> cases b' <;> exact ⟨_, _, rfl⟩
theorem kindC_name {c : Cell} {k : FK} (h : kindC c = some k) : c.name = none /\ ∀ ρ ρ' : Nm, c.den ρ = c.den ρ' := by
 cases c <;> simp [kindC] at h <;> exact ⟨rfl, fun _ _ => rfl⟩
theorem kinds_name : ∀ {ks : List FK} {l : List Cell}, kindsB ks l = true -> (∀ c ∈ l, c.name = none) /\ ∀ ρ ρ' : Nm, denL ρ l = denL ρ' l
 | [], [], _ => ⟨fun _ h => (by cases h), fun _ _ => rfl⟩
 | [], _ :: _, h => by simp [kindsB] at h
 | _ :: _, [], h => by simp [kindsB] at h
 | k :: ks, c :: cs, h => by
   obtain ⟨h1, h2⟩ := kindsB_cons h
   obtain ⟨i1, i2⟩ := kinds_name h2
   obtain ⟨j1, j2⟩ := kindC_name h1
   refine ⟨fun x hx => ?_, fun ρ ρ' => ?_⟩
   ·rcases List.mem_cons.1 hx with rfl | hx
    ·exact j1
    ·exact i1 x hx
   ·simp only [denL, List.map_cons] at i2 ⊢
    rw [j2 ρ ρ', i2 ρ ρ']
theorem keyOk_kinds {ks : List FK} {ag : Bool} {x : V1} (h : keyOk ks ag x = true) : kindsB ks x.cells = true := by
 cases x <;> cases ag <;> simp [keyOk] at h <;> exact h
theorem keyOk_den {ks : List FK} {ag : Bool} {x : V1} (h : keyOk ks ag x = true) (ρ ρ' : Nm) : x.den ρ = x.den ρ' := by
 have := (kinds_name (keyOk_kinds h)).2 ρ ρ'
 cases x with
 | c x => simpa [V1.cells, denL, V1.den] using this
 | agg l => simp only [V1.den]; exact congrArg (fun l => Value.agg (List.toArray l)) this
theorem keyOk_shape {ks : List FK} {ag : Bool} {x : V1} {t : TypeId} (h : keyOk ks ag x = true) (ha : isAggT P t = some ag) : Shaped P t x := by
 cases x <;> cases ag <;> simp [keyOk] at h
 ·exact .inr ⟨ha, _, rfl⟩
 ·exact .inl ⟨ha, _, rfl⟩
theorem keyEq_eq {ks : List FK} {ag : Bool} {x y : V1} (hx : keyOk ks ag x = true) (hy : keyOk ks ag y = true) (ρ : Nm) : keyEq x y = allEq (denL ρ x.cells) (denL ρ y.cells) := by
 obtain ⟨b, q, h⟩ := eqL_total (keyOk_kinds hx) (keyOk_kinds hy)
 unfold keyEq
 rw [h]
 exact eqL_den ρ h
theorem vEq_den {x y : Cell} {k : FK} (hx : kindC x = some k) (hy : kindC y = some k) {ρ : Nm} (h : vEq (x.den ρ) (y.den ρ) = true) : x.den ρ = y.den ρ := by
 cases k with
 | bool => cases x <;> simp [kindC] at hx <;> cases y <;> simp [kindC] at hy <;> simp [Cell.den, vEq] at h <;> simp [Cell.den, h]
 | int k =>
   obtain ⟨n, e1⟩ := kindC_int hx
   obtain ⟨m, e2⟩ := kindC_int hy
   rw [e1 ρ, e2 ρ] at h ⊢
   simp [vEq] at h
   rw [h]
 | str => cases x <;> simp [kindC] at hx <;> cases y <;> simp [kindC] at hy <;> simp only [Cell.den, vEq] at h <;> simp only [Cell.den] <;> rw [bs_inj h]
theorem allEq_den : ∀ {ks : List FK} {xs ys : List Cell} {ρ : Nm}, kindsB ks xs = true -> kindsB ks ys = true -> allEq (denL ρ xs) (denL ρ ys) = true -> denL ρ xs = denL ρ ys
 | [], [], [], _, _, _, _ => rfl
 | [], _ :: _, _, _, h, _, _ => by simp [kindsB] at h
 | [], [], _ :: _, _, _, h, _ => by simp [kindsB] at h
 | _ :: _, [], _, _, h, _, _ => by simp [kindsB] at h
 | _ :: _, _ :: _, [], _, _, h, _ => by simp [kindsB] at h
 | k :: ks, x :: xs, y :: ys, ρ, hx, hy, h => by
   obtain ⟨x1, x2⟩ := kindsB_cons hx
   obtain ⟨y1, y2⟩ := kindsB_cons hy
   simp only [denL, List.map_cons, allEq, Bool.and_eq_true] at h ⊢
   rw [vEq_den x1 y1 h.1]
   have := allEq_den (ρ := ρ) x2 y2 h.2
   simp only [denL] at this
   rw [this]
theorem keyEq_den {ks : List FK} {ag : Bool} {x y : V1} (hx : keyOk ks ag x = true) (hy : keyOk ks ag y = true) (h : keyEq x y = true) (ρ : Nm) : x.den ρ = y.den ρ := by
 rw [keyEq_eq hx hy ρ] at h
 have := allEq_den (keyOk_kinds hx) (keyOk_kinds hy) h
 cases x <;> cases y <;> cases ag <;> simp [keyOk] at hx hy
 ·simpa [V1.cells, denL, V1.den] using this
 ·simp only [V1.den]; exact congrArg (fun l => Value.agg (List.toArray l)) this
theorem same_cell {x : Cell} {k : FK} (h : kindC x = some k) (ρ : Nm) (n : Nat) : Instr.sameBits n (x.den ρ) (x.den ρ) = true := by
 cases x <;> simp [kindC] at h <;> cases n <;> simp [Cell.den, Instr.sameBits, bs_refl]
theorem same_key {ks : List FK} {ag : Bool} {x : V1} (h : keyOk ks ag x = true) (ρ : Nm) : Instr.sameBits 10000 (x.den ρ) (x.den ρ) = true := by
 have hk := keyOk_kinds h
 cases x with
 | c x =>
   cases ks with
   | nil => simp [V1.cells, kindsB] at hk
   | cons k ks => exact same_cell (kindsB_cons hk).1 ρ _
 | agg l =>
   simp only [V1.den, Instr.sameBits, beq_self_eq_true, Bool.true_and, List.all_eq_true]
   have : ∀ {ks : List FK} {l : List Cell}, kindsB ks l = true -> ∀ p ∈ (denL ρ l).zip (denL ρ l), Instr.sameBits 9999 p.1 p.2 = true := by
    intro ks l
    induction l generalizing ks with
    | nil => intro _ p hp; simp [denL] at hp
    | cons c cs ih =>
      intro h p hp
      cases ks with
      | nil => simp [kindsB] at h
      | cons k ks =>
        obtain ⟨h1, h2⟩ := kindsB_cons h
        simp only [denL, List.map_cons, List.zip_cons_cons, List.mem_cons] at hp
        rcases hp with rfl | hp
        ·exact same_cell h1 ρ _
        ·exact ih h2 p hp
   exact this hk
theorem stays_run {ks : List FK} {ag : Bool} {x : V1} (h : keyOk ks ag x = true) (ρ : Nm) (w : World) : (Instr.keyThatStays (x.den ρ) (x.den ρ)).run P w = .ok (x.den ρ) w := by
 simp [Instr.keyThatStays, same_key h ρ]
def findIx (k : V1) : Nat -> List (V1 × V1) -> Option (Nat × Value)
 | _, [] => none
 | i, e :: r => match keyEq k e.1 with | true => some (i, e.2.den Nm.id) | false => findIx k (i + 1) r
theorem asking_run {ks : List FK} {ag : Bool} {t : TypeId} {k : V1} (hf : flatT P 12 t = some ks) (ha : isAggT P t = some ag) (hk : keyOk ks ag k = true) (ρ : Nm) (w : World) :
 ∀ (en : List MapEntry) (es : List (V1 × V1)) (i : Nat), en.map (fun e => (e.key, e.val)) = es.map (fun e => (e.1.den Nm.id, e.2.den Nm.id)) -> (∀ e ∈ es, keyOk ks ag e.1 = true) ->
   (Instr.findAsking t (k.den ρ) en i).run P w = .ok (findIx k i es) w
 | [], [], i, _, _ => by simp [Instr.findAsking, findIx]
 | [], _ :: _, i, h, _ => by simp at h
 | _ :: _, [], i, h, _ => by simp at h
 | m :: en, e :: es, i, h, hes => by
   simp only [List.map_cons, List.cons.injEq, Prod.mk.injEq] at h
   obtain ⟨⟨h1, h2⟩, h3⟩ := h
   have he := hes e (List.mem_cons_self ..)
   have hq : (Op.equal t (k.den ρ) m.key).run P w = .ok (keyEq k e.1) w := by
    rw [h1, keyOk_den he Nm.id ρ, keyEq_eq hk he ρ]
    exact equal_run (ρ := ρ) (P := P) w 12 Op.maxDepth (by decide) t ks k e.1 hf (keyOk_shape hk ha) (keyOk_shape he ha) (keyOk_kinds hk) (keyOk_kinds he)
   rw [Instr.findAsking, Sem.run_bind, hq, Result.andThen_ok]
   cases hb : keyEq k e.1 with
   | true => simp [findIx, hb, h2]
   | false =>
     simp only [findIx, hb, Bool.false_eq_true, if_false]
     exact asking_run hf ha hk ρ w en es (i + 1) h3 fun x hx => hes x (List.mem_cons_of_mem _ hx)
theorem same_now {ks : List FK} {ag : Bool} {k e : V1} {d : TypeDesc} {b : Bool} (hk : keyOk ks ag k = true) (he : keyOk ks ag e = true) (ρ : Nm) (h : Instr.sameNow d (k.den ρ) (e.den ρ) = some b) : b = keyEq k e := by
 rw [keyEq_eq hk he ρ]
 cases k with
 | agg l => simp only [V1.den] at h; unfold Instr.sameNow at h; split at h <;> simp_all
 | c x =>
   cases e with
   | agg l => cases ag <;> simp [keyOk] at hk he
   | c y =>
     simp only [V1.den] at h
     simp only [V1.cells, denL, List.map_cons, List.map_nil, allEq, Bool.and_true]
     unfold Instr.sameNow at h
     split at h <;> simp_all [vEq]
theorem now_run {ks : List FK} {ag : Bool} {k : V1} {d : TypeDesc} (hk : keyOk ks ag k = true) (ρ : Nm) :
 ∀ (en : List MapEntry) (es : List (V1 × V1)) (i : Nat) (r : Option (Nat × Value)), en.map (fun e => (e.key, e.val)) = es.map (fun e => (e.1.den Nm.id, e.2.den Nm.id)) -> (∀ e ∈ es, keyOk ks ag e.1 = true) ->
   Instr.findNow d (k.den ρ) en i = some r -> r = findIx k i es
 | [], [], i, r, _, _, h => by simp [Instr.findNow] at h; simp [findIx, <- h]
 | [], _ :: _, i, _, h, _, _ => by simp at h
 | _ :: _, [], i, _, h, _, _ => by simp at h
 | m :: en, e :: es, i, r, h, hes, hr => by
   simp only [List.map_cons, List.cons.injEq, Prod.mk.injEq] at h
   obtain ⟨⟨h1, h2⟩, h3⟩ := h
   have he := hes e (List.mem_cons_self ..)
   rw [Instr.findNow, h1, keyOk_den he Nm.id ρ] at hr
   split at hr
   ·rename_i hs
    have := same_now hk he ρ hs
    cases hr
    simp [findIx, <- this, h2]
   ·rename_i hs
    have := same_now hk he ρ hs
    simp only [findIx, <- this]
    exact now_run hk ρ en es (i + 1) r h3 (fun x hx => hes x (List.mem_cons_of_mem _ hx)) hr
   ·cases hr
theorem find_run {ks : List FK} {ag : Bool} {t : TypeId} {k : V1} (hf : flatT P 12 t = some ks) (ha : isAggT P t = some ag) (hk : keyOk ks ag k = true) (ρ : Nm) (w : World)
 {en : List MapEntry} {es : List (V1 × V1)} (h : en.map (fun e => (e.key, e.val)) = es.map (fun e => (e.1.den Nm.id, e.2.den Nm.id))) (hes : ∀ e ∈ es, keyOk ks ag e.1 = true) :
 (Instr.findKey t (k.den ρ) en).run P w = .ok (findIx k 0 es) w := by
 obtain ⟨d, hd⟩ : ∃ d, P.underlying t = some d := by
  unfold isAggT at ha
  cases hu : P.underlying t with
  | none => simp [hu] at ha
  | some d => exact ⟨d, rfl⟩
 rw [Instr.findKey, Sem.run_bind, under_run hd, Result.andThen_ok]
 split
 ·rename_i r hr
  rw [now_run hk ρ en es 0 r h hes hr]
  simp
 ·exact asking_run hf ha hk ρ w en es 0 h hes
theorem findIx_none {k v z : V1} : ∀ {es : List (V1 × V1)} {i : Nat}, findIx k i es = none -> lookV k z es = (z, false) /\ putV k v es = es ++ [(k, v)] /\ delV k es = es
 | [], _, _ => ⟨rfl, rfl, rfl⟩
 | e :: r, i, h => by
   simp only [findIx] at h
   split at h
   ·cases h
   ·rename_i hq
    obtain ⟨h1, h2, h3⟩ := findIx_none (v := v) (z := z) h
    simp [lookV, putV, delV, hq, h1, h2, h3]
theorem findIx_some {k v z : V1} {j : Nat} {u : Value} : ∀ {es : List (V1 × V1)} {i : Nat}, findIx k i es = some (j, u) -> ∃ e, i <= j /\ es[j - i]? = some e /\ keyEq k e.1 = true /\ u = e.2.den Nm.id /\ lookV k z es = (e.2, true) /\ putV k v es = es.modify (j - i) (fun e => (e.1, v)) /\ delV k es = es.eraseIdx (j - i)
 | [], _, h => by simp [findIx] at h
 | e :: r, i, h => by
   simp only [findIx] at h
   split at h
   ·rename_i hq
    cases h
    exact ⟨e, Nat.le_refl _, by simp, hq, rfl, by simp [lookV, hq], by simp [putV, hq], by simp [delV, hq]⟩
   ·rename_i hq
    obtain ⟨e', h0, h1, h2, h3, h4, h5, h6⟩ := findIx_some (v := v) (z := z) h
    have e1 : j - i = (j - (i + 1)) + 1 := by omega
    refine ⟨e', by omega, ?_, h2, h3, ?_, ?_, ?_⟩
    ·rw [e1]; simpa using h1
    ·simp [lookV, hq, h4]
    ·rw [e1]; simp [putV, hq, h5]
    ·rw [e1]; simp [delV, hq, h6]
end Go.Sx

namespace Go.Sx
variable {AV : Type} {P : Program} {N : Env AV}
def ZtOk (P : Program) (zt : TypeId -> Option V1) : Prop := ∀ t z, zt t = some z -> (∀ c ∈ z.cells, c.name = none) /\ ∃ i v, P.info? t = some i /\ i.zero = some v /\ ∀ ρ, z.den ρ = v
def mapT (tt : Tr TI) (t : TypeId) : Option (TypeId × TypeId × List FK × Bool) := match tt.get t with
 | some ⟨.map kt et, _, _, _⟩ => match tt.get kt with
   | some ⟨kd, _, _, some ks⟩ => some (kt, et, ks, isAggK kd)
   | _ => none
 | _ => none
def absM (H : Hp AV) : Cell -> Option (Nat × AV)
 | .mp (some n) => match hget H n with
   | some (.abs a) => some (n, a)
   | _ => none
 | _ => none
def sameB : Bool -> Bool -> Bool
 | true, b => b
 | false, true => false
 | false, false => true
def mpOk (F : Intf AV) (a : AV) (ks : List FK) (ag : Bool) : Bool := match F.mp a with
 | some (ks', ag', _) => match decide (ks' = ks) with
   | true => sameB ag' ag
   | false => false
 | none => false
def opM (F : Intf AV) (tt : Tr TI) (t : TypeId) (m : Cell) (key : V1) (H : Hp AV) : Option (Nat × AV × TypeId) := match mapT tt t, absM H m with
 | some (_, et, ks, ag), some (n, a) => match mpOk F a ks ag, keyOk ks ag key with
   | true, true => some (n, a, et)
   | _, _ => none
 | _, _ => none
def mkM (F : Intf AV) (tt : Tr TI) (G : Nat) (t : TypeId) (H : Hp AV) : T (SV × Hp AV) := match mapT tt t, Nat.ble G H.length with
 | some (_, _, ks, ag), true => match F.mnew ks ag with
   | some a => .leaf (.v (.c (.mp (some H.length))), H ++ [some (.abs a)])
   | none => .fail "makeMap"
 | _, _ => .fail "makeMap"
def lookM (F : Intf AV) (tt : Tr TI) (zt : TypeId -> Option V1) (t : TypeId) (ok : Bool) (m : Cell) (key : V1) (H : Hp AV) : T (SV × Hp AV) := match opM F tt t m key H with
 | some (_, a, et) => match zt et with
   | some z => match F.mlook a key z with
     | some (v, b, kn) => .leaf (match ok with | true => .tup [v, mkB b kn] | false => .v v, H)
     | none => .fail "lookup"
   | none => .fail "lookup: zero"
 | none => .fail "lookup: map"
def putM (F : Intf AV) (tt : Tr TI) (t : TypeId) (m : Cell) (key val : V1) (H : Hp AV) : T (SV × Hp AV) := match opM F tt t m key H with
 | some (n, a, _) => match F.mput a key val with
   | some a' => .leaf (undefV, lset H n (some (.abs a')))
   | none => .fail "mapUpdate"
 | none => .fail "mapUpdate: map"
def delM (F : Intf AV) (tt : Tr TI) (t : TypeId) (m : Cell) (key : V1) (H : Hp AV) : T (SV × Hp AV) := match opM F tt t m key H with
 | some (n, a, _) => match F.mdel a key with
   | some a' => .leaf (undefV, lset H n (some (.abs a')))
   | none => .fail "delete"
 | none => .fail "delete: map"
def lenM (F : Intf AV) (tt : Tr TI) (t : TypeId) (m : Cell) (H : Hp AV) : T (SV × Hp AV) := match mapT tt t, absM H m with
 | some _, some (_, a) => match F.mlen a with
   | some (n, kn) => .leaf (.v (mkI .i64 n kn), H)
   | none => .fail "len"
 | _, _ => .fail "len: map"
def strM (F : Intf AV) (tt : Tr TI) (sl : Tr SI) (src dst : TypeId) (x : Cell) (H : Hp AV) : T (SV × Hp AV) := match x, sl.get src, tt.get dst with
 | .vs n 0 len 1 _, some si, some ⟨.str, _, _, _⟩ => match tt.get si.e, absM H (.mp (some n)) with
   | some ⟨.int .u8, _, _, _⟩, some (_, a) => match F.txt a with
     | some xs => .need (Nat.beq xs.length len) (.leaf (.v (.c (.sv (strOfNums xs))), H))
     | none => .fail "text"
   | _, _ => .fail "text"
 | _, _, _ => .fail "text"
def hvM (F : Intf AV) (tt : Tr TI) (zt : TypeId -> Option V1) (sl : Tr SI) (G : Nat) (o : Op) (args : List SV) (H : Hp AV) : T (SV × Hp AV) := match o with
 | .makeMap t r => match r, args with
   | none, [] => mkM F tt G t H
   | _, _ => .fail "makeMap"
 | .lookup t _ _ ok => match args with
   | [.v (.c m), .v key] => lookM F tt zt t ok m key H
   | _ => .fail "lookup"
 | .mapUpdate t _ _ _ => match args with
   | [.v (.c m), .v key, .v val] => putM F tt t m key val H
   | _ => .fail "mapUpdate"
 | .call c => match c.callee with
   | .builtin .delete => match c.argTypes.toList, args with
     | [t, _], [.v (.c m), .v key] => delM F tt t m key H
     | _, _ => .fail "delete"
   | .builtin .len => match c.argTypes.toList, args with
     | [t], [.v (.c m)] => lenM F tt t m H
     | _, _ => .fail "len"
   | _ => hvG F sl G o args H
 | .convert src dst _ => match args with
   | [.v (.c x)] => strM F tt sl src dst x H
   | _ => .fail "convert"
 | o => hvG F sl G o args H
theorem part_key {d : Nat} {t : TypeId} {n off : Nat} {k1 : List FK} {agg : Bool} (hk1 : flatT P d t = some k1) (hagg : isAggT P t = some agg) (hlen : n = k1.length) {l : List Cell}
 (_ : kindsB k1 ((l.drop off).take k1.length) = true) (hle : off + n <= l.length) : ∃ x, part1 agg n l off = some x /\ Shaped P t x /\ x.cells = (l.drop off).take n := by
 cases agg with
 | true =>
   refine ⟨.agg ((l.drop off).take n), ?_, .inl ⟨hagg, _, rfl⟩, rfl⟩
   have : ∀ (l : List Cell) (k m : Nat), k + m <= l.length -> lsub l k m = some ((l.drop k).take m) := by
    have ht : ∀ (l : List Cell) (m : Nat), m <= l.length -> ltake l m = some (l.take m) := by
     intro l
     induction l with
     | nil => intro m hm; simp at hm; subst hm; rfl
     | cons c l ih => intro m hm; cases m with
       | zero => rfl
       | succ m => simp at hm; simp [ltake, ih m hm]
    intro l
    induction l with
    | nil => intro k m hm; simp at hm; obtain ⟨rfl, rfl⟩ := hm; rfl
    | cons c l ih => intro k m hm; cases k with
      | zero => simp only [lsub, List.drop_zero]; exact ht _ _ (by simpa using hm)
      | succ k => simp only [lsub, List.drop_succ_cons]; exact ih k m (by simp at hm; omega)
   simp [part1, this l off n hle]
 | false =>
   have h1 := flat_one hk1 hagg
   have hn1 : n = 1 := by omega
   subst hn1
   have hlt : off < l.length := by omega
   refine ⟨.c l[off], ?_, .inr ⟨hagg, _, rfl⟩, ?_⟩
   ·simp [part1, nth_eq, hlt]
   ·simp only [V1.cells]; rw [List.drop_eq_getElem_cons hlt]; rfl
theorem check_loop {P : Program} {ρ : Nm} {d D : Nat} {em : Bool} (xs : List Cell) (w : World)
 (ih : ∀ (t : TypeId) (ks : List FK) (x : V1), flatT P d t = some ks -> Shaped P t x -> kindsB ks x.cells = true -> (Instr.checkKey em D t (x.den ρ)).run P w = .ok () w) :
 ∀ (r : List Field) (off : Nat) (ks : List FK), off <= xs.length -> flatFs P (flatT P d) r off = some ks -> kindsB ks (xs.drop off) = true ->
   (forIn r PUnit.unit fun f _ =>
     if f.name ≠ "_" then do
      let x <- part f.type (denL ρ xs).toArray f.offset
      Instr.checkKey em D f.type x
      pure (ForInStep.yield PUnit.unit)
     else pure (ForInStep.yield PUnit.unit) : Sem PUnit).run P w = .ok PUnit.unit w
 | [], off, ks, _, h, hx => by simp
 | f :: r, off, ks, hox, h, hx => by
   simp only [flatFs] at h
   split at h
   ·cases h
   ·rename_i hname
    split at h
    ·cases h
    ·rename_i hoff
     have hoff := (beq_iff _ _).1 hoff
     split at h
     ·cases h
     ·rename_i k1 hk1
      split at h
      ·cases h
      ·rename_i n hn
       split at h
       ·cases h
       ·rename_i hlen
        have hlen := (beq_iff _ _).1 hlen
        split at h
        ·rename_i k2 hk2
         cases h
         obtain ⟨agg, hagg⟩ := flat_agg hk1
         obtain ⟨x1, x2⟩ := kindsB_append hx
         have lx := kindsB_length hx
         simp only [List.length_drop, List.length_append] at lx
         rw [List.drop_drop, <- hlen] at x2
         have hrec := check_loop xs w ih r (off + n) k2 (by omega) hk2 x2
         obtain ⟨px, hpx, hsx, hcx⟩ := part_key hk1 hagg hlen x1 (by omega)
         have rx := part_run (ρ := ρ) hagg hn hpx w
         have hnm : f.name ≠ "_" := by simpa using hname
         have e0 := ih f.type k1 px hk1 hsx (by rw [hcx, hlen]; exact x1)
         rw [List.forIn_cons]
         simp only [hnm, ne_eq, not_false_eq_true, if_true, Sem.run_bind, hoff, rx, e0, Result.andThen_ok, Sem.run_pure]
         exact hrec
        ·cases h
theorem forIn_run_congr {P : Program} {α β : Type} {f g : α -> β -> Sem (ForInStep β)} (h : ∀ i s w, (f i s).run P w = (g i s).run P w) : ∀ (l : List α) (s : β) (w : World), (forIn l s f).run P w = (forIn l s g).run P w
 | [], s, w => by simp
 | x :: l, s, w => by
   rw [List.forIn_cons, List.forIn_cons, Sem.run_bind, Sem.run_bind, h x s w]
   congr 1
   funext r w'
   cases r with
   | done b => rfl
   | yield b => exact forIn_run_congr h l b w'
theorem check_run {P : Program} {ρ : Nm} (w : World) (em : Bool) : ∀ (d D : Nat), d <= D -> ∀ (t : TypeId) (ks : List FK) (x : V1), flatT P d t = some ks -> Shaped P t x -> kindsB ks x.cells = true ->
 (Instr.checkKey em D t (x.den ρ)).run P w = .ok () w
 | 0, _, _, _, _, _, h, _, _ => by cases h
 | d + 1, 0, hle, _, _, _, _, _, _ => by omega
 | d + 1, D + 1, hle, t, ks, x, h, sx, kx => by
   have ih := check_run (ρ := ρ) (P := P) w em d D (by omega)
   unfold flatT at h
   cases hu : P.underlying t with
   | none => simp [hu] at h
   | some u =>
     rw [Instr.checkKey, Sem.run_bind, under_run hu, Result.andThen_ok]
     cases u <;> simp only [hu] at h <;> (first | (cases h; done) | skip)
     case bool => simp
     case int k => simp
     case string => simp
     case struct fs =>
      have ha : isAggT P t = some true := by simp [isAggT, hu]
      obtain ⟨xs, rfl⟩ : ∃ l, x = .agg l := by
       rcases sx with ⟨_, h⟩ | ⟨h1, _⟩
       ·exact h
       ·rw [ha] at h1; cases h1
      cases hs : P.stoodInHeld t with
      | true => simp [hs] at h
      | false =>
        simp only [hs] at h
        have hl := check_loop (ρ := ρ) xs w ih fs.toList 0 ks (Nat.zero_le _) h (by simpa [V1.cells] using kx)
        simp only [V1.den]
        rw [<- Array.forIn_toList, Sem.run_bind, hl]
        simp
     case array len e =>
      have ha : isAggT P t = some true := by simp [isAggT, hu]
      obtain ⟨xs, rfl⟩ : ∃ l, x = .agg l := by
       rcases sx with ⟨_, h⟩ | ⟨h1, _⟩
       ·exact h
       ·rw [ha] at h1; cases h1
      cases hs : sizeT P e with
      | none => simp [hs] at h
      | some n =>
        simp only [hs] at h
        have hl := check_loop (ρ := ρ) xs w ih (arrFs e n len 0) 0 ks (Nat.zero_le _) h (by simpa [V1.cells] using kx)
        rw [arrFs_eq, List.forIn_map] at hl
        simp only [arrFd, show ("x" : String) ≠ "_" from by decide, ne_eq, not_false_eq_true, if_true] at hl
        simp only [V1.den]
        simp only [Std.Legacy.Range.forIn_eq_forIn_range', Std.Legacy.Range.size, Nat.sub_zero, Nat.add_one_sub_one, Nat.div_one]
        rw [Sem.run_bind, forIn_run_congr (g := fun a y => do
         let x <- part e (denL ρ xs).toArray (a * n)
         Instr.checkKey em D e x
         pure (ForInStep.yield PUnit.unit)) (fun i s w => by simp only [Sem.run_bind, sizeOf_run hs w, Result.andThen_ok]) , hl]
        simp
theorem kd_map {P : Program} {t k e : TypeId} (h : kdT P t = some (.map k e)) : P.underlying t = some (.map k e) := by
 unfold kdT at h
 split at h <;> (try split at h) <;> simp_all
theorem mapT_spec (hT : TblOk P N) {t kt et : TypeId} {ks : List FK} {ag : Bool} (h : mapT N.tt t = some (kt, et, ks, ag)) : P.underlying t = some (.map kt et) /\ flatT P 12 kt = some ks /\ isAggT P kt = some ag := by
 unfold mapT at h
 split at h
 ·rename_i k e _ _ _ h1
  split at h
  ·rename_i kd _ _ ks' h2
   simp only [Option.some.injEq, Prod.mk.injEq] at h
   obtain ⟨rfl, rfl, rfl, rfl⟩ := h
   obtain ⟨inf, g1, g2, g3, g4, g5⟩ := mkTI_parts (hT.ty _ _ h2)
   refine ⟨kd_map (tbl_kd hT h1), ?_, isAggT_kd g2⟩
   simp only at g5
   cases hg : P.eqGuardType P.depth k with
   | true => simp [hg] at g5
   | false => simp only [hg] at g5; exact g5.symm
  ·cases h
 ·cases h
theorem absM_spec {H : Hp AV} {m : Cell} {n : Nat} {a : AV} (h : absM H m = some (n, a)) : m = .mp (some n) /\ hget H n = some (.abs a) := by
 unfold absM at h
 split at h
 ·split at h
  ·rename_i h1
   cases h
   exact ⟨rfl, h1⟩
  ·cases h
 ·cases h
theorem mpOk_spec {F : Intf AV} {a : AV} {ks : List FK} {ag : Bool} (h : mpOk F a ks ag = true) : ∃ es, F.mp a = some (ks, ag, es) := by
 unfold mpOk at h
 split at h
 ·rename_i ks' ag' es h1
  split at h
  ·rename_i hd
   have hd := of_decide_eq_true hd
   subst hd
   have : ag' = ag := by cases ag' <;> cases ag <;> simp [sameB] at h <;> rfl
   subst this
   exact ⟨_, h1⟩
  ·cases h
 ·cases h
theorem opM_spec (hT : TblOk P N) {t : TypeId} {m : Cell} {key : V1} {H : Hp AV} {n : Nat} {a : AV} {et : TypeId} (h : opM N.F N.tt t m key H = some (n, a, et)) :
 ∃ kt ks ag es, P.underlying t = some (.map kt et) /\ flatT P 12 kt = some ks /\ isAggT P kt = some ag /\ m = .mp (some n) /\ hget H n = some (.abs a) /\ N.F.mp a = some (ks, ag, es) /\ keyOk ks ag key = true := by
 unfold opM at h
 split at h
 ·rename_i h1 h2
  split at h
  ·rename_i h3 h4
   simp only [Option.some.injEq, Prod.mk.injEq] at h
   obtain ⟨rfl, rfl, rfl⟩ := h
   obtain ⟨g1, g2, g3⟩ := mapT_spec hT h1
   obtain ⟨g4, g5⟩ := absM_spec h2
   obtain ⟨es, g6⟩ := mpOk_spec h3
   exact ⟨_, _, _, es, g1, g2, g3, g4, g5, g6, h4⟩
  ·cases h
 ·cases h
theorem at_run {H : Hp AV} {ρ : Nm} {w : World} (hO : Own N ρ H w) {n : Nat} {a : AV} {ks : List FK} {ag : Bool} {es : List (V1 × V1)} (hn : hget H n = some (.abs a)) (hm : N.F.mp a = some (ks, ag, es)) {kt : TypeId} (hf : flatT P 12 kt = some ks) (ha : isAggT P kt = some ag) {key : V1} (hk : keyOk ks ag key = true) :
 ∃ en clock, w.heap[ρ n]? = some (.map en clock) /\ (∀ k, ρ.S n k ↔ k = ρ n) /\ en.toList.map (fun e => (e.key, e.val)) = es.map (fun e => (e.1.den Nm.id, e.2.den Nm.id)) /\ (∀ em, (Instr.checkKey em 10000 kt (key.den ρ)).run P w = .ok () w) /\ (Instr.findKey kt (key.den ρ) en.toList).run P w = .ok (findIx key 0 es) w := by
 obtain ⟨g1, g2⟩ := N.F.mp_q a ks ag es hm
 obtain ⟨h1, en, clock, h2, h3⟩ := (g2 _ _ _).1 (hO.q n _ hn)
 exact ⟨en, clock, h2, h1, h3, fun em => check_run (ρ := ρ) w em 12 10000 (by decide) kt ks key hf (keyOk_shape hk ha) (keyOk_kinds hk), find_run hf ha hk ρ w h3 fun e he => (g1 e he).1⟩
theorem map_new (w : World) (t : TypeId) : (Instr.makeMap t none).run P w = .ok (.map (some w.heap.size)) (w.alloc (.map #[] 0)) := by
 simp [Instr.makeMap, newObj, Sem.run]
theorem mkM_ok {t : TypeId} {H H' : Hp AV} {v : SV} (hC : ClHp N H) (h : (mkM N.F N.tt N.G t H).val = some (v, H')) : ClV H' v /\ ClHp N H' /\ ∀ (ρ : Nm) (w : World), Own N ρ H w ->
 ∃ r w', (Instr.makeMap t none).run P w = .ok r w' /\ ∃ ρ', r = v.den ρ' /\ Own N ρ' H' w' /\ Evo N H.length ρ H w ρ' H' w' := by
 unfold mkM at h
 split at h
 ·rename_i hG
  split at h
  ·rename_i a ha
   simp only [T.val, Option.some.injEq, Prod.mk.injEq] at h
   obtain ⟨rfl, rfl⟩ := h
   have hm := N.F.mnew_ok _ _ _ ha
   refine ⟨?_, cl_abs hC (d := none) (fun n h => by cases h) a, fun ρ w hO => ⟨_, _, map_new w t, ?_⟩⟩
   ·intro c hc m hcm
    simp [V1.cells] at hc
    subst hc
    simp only [Cell.name, Option.some.injEq] at hcm
    subst hcm
    exact ⟨_, by rw [hget_app, if_pos rfl]⟩
   ·have hh : (w.alloc (.map #[] 0)).heap = w.heap.push (.map #[] 0) := rfl
    have := own_swap (w' := w.alloc (.map #[] 0)) hO hC (Nat.le_of_ble_eq_true hG) (d := none) (ck := .abs a) (fun n h => by cases h) (fun x hx => by cases hx) (lc := ⟨w.heap.size, 0, 0⟩) (S := fun k => k = w.heap.size)
     (fun k hk _ => by rw [hh, Array.getElem?_push_lt hk, Array.getElem?_eq_getElem hk]) rfl rfl rfl (by rw [hh, Array.size_push]; omega)
     (by
       show N.F.q a _ _ _
       rw [(set_L _ _ _ _).1, (set_L _ _ _ _).2]
       exact ((N.F.mp_q a _ _ _ hm).2 _ _ _).2 ⟨fun k => Iff.rfl, #[], 0, by rw [hh]; simp, rfl⟩)
     (fun k hk => by
       have hk : (ρ.set H.length ⟨w.heap.size, 0, 0⟩ fun k => k = w.heap.size).S H.length k := hk
       rw [(set_L _ _ _ _).2] at hk
       exact .inl (by rw [hk]; omega))
    refine ⟨_, ?_, this.1, this.2.1⟩
    simp only [SV.den, V1.den, Cell.den, Option.map_some, Nm.f, (set_L _ _ _ _).1]
  ·simp [T.val] at h
 ·simp [T.val] at h
theorem names_den {l : List Cell} (h : ∀ c ∈ l, c.name = none) (ρ ρ' : Nm) : denL ρ l = denL ρ' l := by
 unfold denL
 apply List.map_congr_left
 intro c hc
 exact den_congr c fun n hn => by rw [h c hc] at hn; cases hn
theorem names_v1 {x : V1} (h : ∀ c ∈ x.cells, c.name = none) (ρ ρ' : Nm) : x.den ρ = x.den ρ' := by
 have := names_den h ρ ρ'
 cases x with
 | c x => simpa [V1.cells, denL, V1.den] using this
 | agg l => simp only [V1.den]; exact congrArg (fun l => Value.agg (List.toArray l)) this
theorem cl_names {H : Hp AV} {x : V1} (h : ∀ c ∈ x.cells, c.name = none) : ClV1 H x := fun c hc n hn => by rw [h c hc] at hn; cases hn
theorem lookM_ok (hT : TblOk P N) {zt : TypeId -> Option V1} (hz : ZtOk P zt) {t : TypeId} {ok : Bool} {m : Cell} {key : V1} {H H' : Hp AV} {v : SV} (h : (lookM N.F N.tt zt t ok m key H).val = some (v, H')) : H' = H /\ ClV H v /\ ∀ (ρ : Nm) (w : World), Own N ρ H w ->
 (Instr.lookup t (m.den ρ) (key.den ρ) ok).run P w = .ok (v.den ρ) w := by
 unfold lookM at h
 split at h
 ·rename_i n a et ho
  obtain ⟨kt, ks, ag, es, hu, hf, ha, rfl, hn, hm, hk⟩ := opM_spec hT ho
  split at h
  ·rename_i z hzt
   obtain ⟨z1, zi, zv, z2, z3, z4⟩ := hz _ _ hzt
   split at h
   ·rename_i x b kn hl
    simp only [T.val, Option.some.injEq, Prod.mk.injEq] at h
    obtain ⟨rfl, rfl⟩ := h
    obtain ⟨ks', ag', es', hm', hv, hx, hvd⟩ := N.F.mlook_ok a key z x b kn hl
    rw [hm] at hm'
    simp only [Option.some.injEq, Prod.mk.injEq] at hm'
    obtain ⟨rfl, rfl, rfl⟩ := hm'
    refine ⟨rfl, ?_, fun ρ w hO => ?_⟩
    ·cases ok with
     | false => exact cl_names hx
     | true =>
       intro y hy
       simp only [List.mem_cons, List.not_mem_nil, or_false] at hy
       rcases hy with rfl | rfl
       ·exact cl_names hx
       ·exact mkB_cl _ _
    ·obtain ⟨en, clock, q1, q2, q3, q4, q5⟩ := at_run hO hn hm hf ha hk
     have hzr : ∀ w, (zeroValue et).run P w = .ok (z.den ρ) w := fun w => by
      simp [zeroValue, typeInfo, z2, z3, z4 ρ]
     have hfin : ∀ (y : Value) (c : Bool), (match findIx key 0 es with | some (_, v) => (v, true) | none => (z.den ρ, false)) = (y, c) -> x.den ρ = y /\ b = c := by
      intro y c hy
      cases hi : findIx key 0 es with
      | none =>
        have h5 := (findIx_none (v := z) (z := z) hi).1
        rw [h5] at hv hvd
        rw [hi] at hy
        cases hv; cases hy
        exact ⟨hvd ρ, rfl⟩
      | some p =>
        obtain ⟨j, u⟩ := p
        obtain ⟨e, _, h2, _, h4, h5, _⟩ := findIx_some (v := z) (z := z) hi
        rw [h5] at hv hvd
        rw [hi] at hy
        cases hv; cases hy
        exact ⟨by rw [h4, hvd ρ]; exact names_v1 ((N.F.mp_q a _ _ _ hm).1 e (List.mem_of_getElem? h2)).2.2 _ _, rfl⟩
     simp only [Instr.lookup, Sem.run_bind, under_run hu, Result.andThen_ok, Cell.den, Option.map_some, Go.MapKept.run_getObj_map q1, Sem.run_pure, q4, q5]
     cases hi : findIx key 0 es with
     | none =>
       rw [hi] at hfin
       obtain ⟨e1, e2⟩ := hfin _ _ rfl
       simp only [Sem.run_bind, hzr, Result.andThen_ok, Sem.run_pure]
       cases ok <;> simp [SV.den, e1, e2, mkB_den]
     | some p =>
       obtain ⟨j, u⟩ := p
       rw [hi] at hfin
       obtain ⟨e1, e2⟩ := hfin _ _ rfl
       cases ok <;> simp [SV.den, e1, e2, mkB_den]
   ·simp [T.val] at h
  ·simp [T.val] at h
 ·simp [T.val] at h
theorem modify_map {α β γ : Type} {g : α -> γ} {g' : β -> γ} {f : α -> α} {f' : β -> β} : ∀ (l : List α) (m : List β) (i : Nat), l.map g = m.map g' -> (∀ x y, l[i]? = some x -> m[i]? = some y -> g (f x) = g' (f' y)) -> (l.modify i f).map g = (m.modify i f').map g'
 | [], [], _, _, _ => by simp
 | [], _ :: _, _, h, _ => by simp at h
 | _ :: _, [], _, h, _ => by simp at h
 | x :: l, y :: m, 0, h, hi => by
   simp only [List.map_cons, List.cons.injEq] at h
   simp only [List.modify_zero_cons, List.map_cons]
   rw [hi x y rfl rfl, h.2]
 | x :: l, y :: m, i + 1, h, hi => by
   simp only [List.map_cons, List.cons.injEq] at h
   simp only [List.modify_succ_cons, List.map_cons]
   rw [h.1, modify_map l m i h.2 (fun a b ha hb => hi a b (by simpa using ha) (by simpa using hb))]
theorem map_set {ρ : Nm} {H : Hp AV} {w : World} (hO : Own N ρ H w) (hC : ClHp N H) {n : Nat} {a a' : AV} (hn : hget H n = some (.abs a)) {ks : List FK} {ag : Bool} {es : List (V1 × V1)} (hm : N.F.mp a' = some (ks, ag, es)) {en en' : Array MapEntry} {c c' : Nat}
 (h1 : w.heap[ρ n]? = some (.map en c)) (hS : ∀ k, ρ.S n k ↔ k = ρ n) (he : en'.toList.map (fun e => (e.key, e.val)) = es.map (fun e => (e.1.den Nm.id, e.2.den Nm.id))) (L : Nat) :
 ∃ ρ', Own N ρ' (lset H n (some (.abs a'))) { w with heap := w.heap.setIfInBounds (ρ n) (.map en' c') } /\ Evo N L ρ H w ρ' (lset H n (some (.abs a'))) { w with heap := w.heap.setIfInBounds (ρ n) (.map en' c') } := by
 have hlt : ρ n < w.heap.size := by
  rcases Nat.lt_or_ge (ρ n) w.heap.size with h | h
  ·exact h
  ·rw [Array.getElem?_eq_none h] at h1; cases h1
 have := own_obj (w' := { w with heap := w.heap.setIfInBounds (ρ n) (.map en' c') }) hO hC hn (a' := a') (S' := ρ.S n)
  (((N.F.mp_q a' _ _ _ hm).2 _ _ _).2 ⟨hS, en', c', Array.getElem?_setIfInBounds_self_of_lt hlt, he⟩)
  ⟨fun k hk hs => by
    have hne : ρ n ≠ k := fun e => hs ((hS k).2 e.symm)
    show (w.heap.setIfInBounds (ρ n) _)[k]? = _
    rw [Array.getElem?_setIfInBounds_ne hne], fun k hk => .inr hk, rfl, rfl, rfl, by show _ <= (w.heap.setIfInBounds _ _).size; simp⟩ L
 exact ⟨_, this.1, this.2.1⟩
theorem cl_lset {H : Hp AV} (hC : ClHp N H) (n : Nat) (a : AV) : ClHp N (lset H n (some (.abs a))) := by
 refine ⟨fun m x hx => ?_, trivial⟩
 by_cases e : m = n
 ·subst e
  have hlt := hget_lt hx
  rw [length_lset] at hlt
  rw [hget_lset_self _ hlt] at hx
  cases hx
  intro c hc
  cases hc
 ·rw [hget_lset_ne _ (Ne.symm e)] at hx
  intro c hc k hk
  obtain ⟨y, hy⟩ := hC.1 m x hx c hc k hk
  by_cases e' : k = n
  ·subst e'
   exact ⟨_, hget_lset_self _ (hget_lt hy)⟩
  ·exact ⟨y, by rw [hget_lset_ne _ (Ne.symm e')]; exact hy⟩
theorem putM_ok (hT : TblOk P N) {t : TypeId} {m : Cell} {key val : V1} {H H' : Hp AV} {v : SV} (hC : ClHp N H) (h : (putM N.F N.tt t m key val H).val = some (v, H')) : ClV H' v /\ ClHp N H' /\ ∀ (ρ : Nm) (w : World), Own N ρ H w ->
 ∃ w', (Instr.mapUpdate t (m.den ρ) (key.den ρ) (val.den ρ)).run P w = .ok () w' /\ ∃ ρ', v.den ρ' = undef /\ Own N ρ' H' w' /\ Evo N H.length ρ H w ρ' H' w' := by
 unfold putM at h
 split at h
 ·rename_i n a et ho
  obtain ⟨kt, ks, ag, es, hu, hf, ha, rfl, hn, hm, hk⟩ := opM_spec hT ho
  split at h
  ·rename_i a' hp
   simp only [T.val, Option.some.injEq, Prod.mk.injEq] at h
   obtain ⟨rfl, rfl⟩ := h
   obtain ⟨k1, k2, ks', ag', es', es2, hm', hma, hes2⟩ := N.F.mput_ok a key val a' hp
   rw [hm] at hm'
   simp only [Option.some.injEq, Prod.mk.injEq] at hm'
   obtain ⟨rfl, rfl, rfl⟩ := hm'
   refine ⟨fun x hx => (by cases hx), cl_lset hC n a', fun ρ w hO => ?_⟩
   obtain ⟨en, clock, q1, q2, q3, q4, q5⟩ := at_run hO hn hm hf ha hk
   cases hi : findIx key 0 es with
   | none =>
     rw [hi] at q5
     obtain ⟨_, h2, _⟩ := findIx_none (v := val) (z := val) hi
     rw [h2] at hes2
     have hen : (en.push { key := key.den ρ, val := val.den ρ, born := clock }).toList.map (fun e => (e.key, e.val)) = es2.map (fun e => (e.1.den Nm.id, e.2.den Nm.id)) := by
      rw [hes2]
      simp only [Array.toList_push, List.map_append, q3, List.map_cons, List.map_nil, names_v1 k1 ρ Nm.id, names_v1 k2 ρ Nm.id]
     obtain ⟨ρ', o1, o2⟩ := map_set hO hC hn hma q1 q2 hen H.length (c' := clock + 1)
     refine ⟨_, ?_, ρ', rfl, o1, o2⟩
     simp only [Instr.mapUpdate, Sem.run_bind, under_run hu, Result.andThen_ok, Cell.den, Option.map_some, Go.MapKept.run_getObj_map q1, q4, q5, Go.MapKept.run_setObj_map _ q1]
   | some p =>
     obtain ⟨j, u⟩ := p
     rw [hi] at q5
     obtain ⟨e, _, g2, g3, _, _, g6, _⟩ := findIx_some (v := val) (z := val) hi
     simp only [Nat.sub_zero] at g2 g6
     rw [g6] at hes2
     have hke : keyOk ks ag e.1 = true := ((N.F.mp_q a _ _ _ hm).1 e (List.mem_of_getElem? g2)).1
     have hkd : ∀ ρ : Nm, key.den ρ = e.1.den ρ := keyEq_den hk hke g3
     have hj : (en.toList.map (fun e => (e.key, e.val)))[j]? = some (e.1.den Nm.id, e.2.den Nm.id) := by rw [q3, List.getElem?_map, g2]; rfl
     obtain ⟨x, hx, hxe⟩ : ∃ x, en[j]? = some x /\ x.key = key.den ρ := by
      rw [List.getElem?_map] at hj
      cases hx : en.toList[j]? with
      | none => rw [hx] at hj; simp at hj
      | some x =>
        rw [hx] at hj
        simp only [Option.map_some, Option.some.injEq, Prod.mk.injEq] at hj
        refine ⟨x, by simpa using hx, ?_⟩
        rw [hj.1, hkd ρ]
        exact keyOk_den hke _ _
     have hen : (en.modify j fun e => { e with key := key.den ρ, val := val.den ρ }).toList.map (fun e => (e.key, e.val)) = es2.map (fun e => (e.1.den Nm.id, e.2.den Nm.id)) := by
      rw [hes2, Array.toList_modify]
      refine modify_map _ _ _ q3 fun x y hx hy => ?_
      rw [g2] at hy
      cases hy
      simp only [Prod.mk.injEq]
      exact ⟨by rw [hkd ρ]; exact keyOk_den hke _ _, names_v1 k2 _ _⟩
     obtain ⟨ρ', o1, o2⟩ := map_set hO hC hn hma q1 q2 hen H.length (c' := clock)
     refine ⟨_, ?_, ρ', rfl, o1, o2⟩
     simp only [Instr.mapUpdate, Sem.run_bind, under_run hu, Result.andThen_ok, Cell.den, Option.map_some, Go.MapKept.run_getObj_map q1, q4, q5, hx, Option.getD_some, hxe, stays_run hk ρ, Go.MapKept.run_setObj_map _ q1]
  ·simp [T.val] at h
 ·simp [T.val] at h
theorem erase_map {α β : Type} (f : α -> β) : ∀ (l : List α) (j : Nat), (l.map f).eraseIdx j = (l.eraseIdx j).map f
 | [], _ => by simp
 | _ :: _, 0 => by simp
 | a :: r, j + 1 => by simp [erase_map f r j]
theorem delM_ok (hT : TblOk P N) {t t2 ty : TypeId} {m : Cell} {key : V1} {H H' : Hp AV} {v : SV} (hC : ClHp N H) (h : (delM N.F N.tt t m key H).val = some (v, H')) : ClV H' v /\ ClHp N H' /\ ∀ (ρ : Nm) (w : World), Own N ρ H w ->
 ∃ w', (Builtin.delete_ #[t, t2] ty #[m.den ρ, key.den ρ]).run P w = .ok undef w' /\ ∃ ρ', v.den ρ' = undef /\ Own N ρ' H' w' /\ Evo N H.length ρ H w ρ' H' w' := by
 unfold delM at h
 split at h
 ·rename_i n a et ho
  obtain ⟨kt, ks, ag, es, hu, hf, ha, rfl, hn, hm, hk⟩ := opM_spec hT ho
  split at h
  ·rename_i a' hp
   simp only [T.val, Option.some.injEq, Prod.mk.injEq] at h
   obtain ⟨rfl, rfl⟩ := h
   obtain ⟨ks', ag', es', hm', hma⟩ := N.F.mdel_ok a key a' hp
   rw [hm] at hm'
   simp only [Option.some.injEq, Prod.mk.injEq] at hm'
   obtain ⟨rfl, rfl, rfl⟩ := hm'
   refine ⟨fun x hx => (by cases hx), cl_lset hC n a', fun ρ w hO => ?_⟩
   obtain ⟨en, clock, q1, q2, q3, q4, q5⟩ := at_run hO hn hm hf ha hk
   cases hi : findIx key 0 es with
   | none =>
     rw [hi] at q5
     obtain ⟨_, _, h2⟩ := findIx_none (v := key) (z := key) hi
     rw [h2] at hma
     obtain ⟨ρ', o1, o2⟩ := map_set hO hC hn hma q1 q2 q3 H.length (c' := clock)
     refine ⟨_, ?_, ρ', rfl, o1, o2⟩
     simp [Builtin.delete_, under_run hu, Cell.den, Go.MapKept.run_getObj_map q1, q4, q5, Go.MapKept.run_setObj_map _ q1, undef]
   | some p =>
     obtain ⟨j, u⟩ := p
     rw [hi] at q5
     obtain ⟨e, _, g2, g3, _, _, _, g6⟩ := findIx_some (v := key) (z := key) hi
     simp only [Nat.sub_zero] at g2 g6
     rw [g6] at hma
     have hen : (en.eraseIdxIfInBounds j).toList.map (fun e => (e.key, e.val)) = (es.eraseIdx j).map (fun e => (e.1.den Nm.id, e.2.den Nm.id)) := by
      rw [Array.toList_eraseIdxIfInBounds, <- erase_map, q3, erase_map]
     obtain ⟨ρ', o1, o2⟩ := map_set hO hC hn hma q1 q2 hen H.length (c' := clock)
     refine ⟨_, ?_, ρ', rfl, o1, o2⟩
     simp [Builtin.delete_, under_run hu, Cell.den, Go.MapKept.run_getObj_map q1, q4, q5, Go.MapKept.run_setObj_map _ q1, undef]
  ·simp [T.val] at h
 ·simp [T.val] at h
theorem lenM_ok (hT : TblOk P N) {t ty : TypeId} {m : Cell} {H H' : Hp AV} {v : SV} (h : (lenM N.F N.tt t m H).val = some (v, H')) : H' = H /\ ClV H v /\ ∀ (ρ : Nm) (w : World), Own N ρ H w ->
 (Builtin.len_ #[t] ty #[m.den ρ]).run P w = .ok (v.den ρ) w := by
 unfold lenM at h
 split at h
 ·rename_i hq n a hmT habs
  obtain ⟨kt, et, ks, ag⟩ := hq
  obtain ⟨hu, _, _⟩ := mapT_spec hT hmT
  obtain ⟨rfl, hn⟩ := absM_spec habs
  split at h
  ·rename_i k kn hl
   simp only [T.val, Option.some.injEq, Prod.mk.injEq] at h
   obtain ⟨rfl, rfl⟩ := h
   obtain ⟨ks', ag', es, hm, rfl⟩ := N.F.mlen_ok a k kn hl
   refine ⟨rfl, mkI_cl _ _ _, fun ρ w hO => ?_⟩
   obtain ⟨h1, en, clock, h2, h3⟩ := ((N.F.mp_q a _ _ _ hm).2 _ _ _).1 (hO.q _ _ hn)
   have hlen : en.size = es.length := by
    have := congrArg List.length h3
    simpa using this
   simp [Builtin.len_, under_run hu, Cell.den, Go.MapKept.run_getObj_map h2, SV.den, mkI_den, goInt, hlen]
  ·simp [T.val] at h
 ·simp [T.val] at h
theorem exec_builtin {ev : Operand -> Value} {o : Oper} {c : Call} {w w' : World} {v : Value} {b : Builtin} (ho : o.op = .call c) (hb : c.callee = .builtin b) {ts : List TypeId} (ht : c.argTypes.toList = ts) {vs : List Value} (hv : (Op.call c).operands.toList.map ev = vs)
 (hr : ∀ cs, (builtin b ts.toArray o.type cs vs.toArray).run P w = .ok (.value v) w') : (execOp ev o).run P w = .ok (.value v) w' := by
 obtain ⟨dst, op, ty, pos, after, guard⟩ := o
 simp only at ho hr
 subst ho
 obtain ⟨cal, args, tys⟩ := c
 simp only at hb ht
 subst hb
 have ht : tys = ts.toArray := by rw [<- ht, Array.toArray_toList]
 subst ht
 have ha : args.map ev = vs.toArray := by
  have h : args.toList.map ev = vs := by simpa [Op.operands, Call.operands] using hv
  rw [<- Array.toArray_toList (xs := args), List.map_toArray, h]
 simp [execOp, resolve, invoke, ha, hr]
theorem strM_ok (hT : TblOk P N) {sl : Tr SI} (hsl : SlOk P sl) {src dst : TypeId} {x : Cell} {H H' : Hp AV} {v : SV} (h : (strM N.F N.tt sl src dst x H).val = some (v, H')) : H' = H /\ ClV H v /\ ∀ (ρ : Nm) (w : World), Own N ρ H w ->
 (convert src dst (x.den ρ)).run P w = .ok (v.den ρ) w := by
 unfold strM at h
 split at h
 ·rename_i n len _ si _ _ _ hs hd
  split at h
  ·rename_i _ _ _ _ a he ha
   split at h
   ·rename_i xs hx
    obtain ⟨hl, h⟩ := need_val h
    simp only [T.val, Option.some.injEq, Prod.mk.injEq] at h
    obtain ⟨rfl, rfl⟩ := h
    have hl := (beq_iff _ _).1 hl
    obtain ⟨hm, hn⟩ := absM_spec ha
    simp only [Cell.mp.injEq, Option.some.injEq] at hm
    subst hm
    obtain ⟨ty, harr⟩ := N.F.txt_ok a xs hx
    obtain ⟨hone, hq⟩ := N.F.arr_q a _ _ _ harr
    obtain ⟨hu, _⟩ := mkSI_spec (hsl src si hs)
    have hue : P.underlying si.e = some (.int .u8) := kd_int (tbl_kd hT he)
    have hud : P.underlying dst = some .string := kd_str (tbl_kd hT hd)
    refine ⟨rfl, fun c hc m hm => ?_, fun ρ w hO => ?_⟩
    ·simp [V1.cells] at hc
     subst hc
     cases hm
    ·show (convert src dst (vsDen (ρ.L n) 0 len 1)).run P w = _
     have hv := (hq _ _ _).1 (hO.q n _ hn)
     rw [vsDen_eq]
     split
     ·rename_i h0
      have : xs = [] := List.eq_nil_of_length_eq_zero (by omega)
      subst this
      exact run_convert_bytes_nil w src si.e hu hue 0 0 dst hud
     ·refine run_convert_bytes_arg w src si.e hu hue _ _ len _ xs hl (fun i hi => ?_) dst hud
      have := vecQ_at hv i (.int .u8 (xs.getD i 0)) (by simp [List.getD, List.getElem?_eq_getElem (show i < xs.length by omega)])
      have ea : (⟨(ρ.L n).b, (ρ.L n).o, none⟩ : Addr).add i = ⟨(ρ.L n).b, (ρ.L n).o + i, none⟩ := by unfold Addr.add; split <;> simp_all
      rw [ea] at this
      simpa using this
   ·simp [T.val] at h
  ·simp [T.val] at h
 ·simp [T.val] at h
theorem hvM_ok {sl : Tr SI} {zt : TypeId -> Option V1} (hT : TblOk P N) (hsl : SlOk P sl) (hz : ZtOk P zt) (hhv : N.hv = hvM N.F N.tt zt sl N.G) : HvOk P N := by
 intro o args H v H' h hargs hC
 rw [hhv] at h
 have old : (hvG N.F sl N.G o args H).val = some (v, H') -> ClV H' v /\ ClHp N H' /\ ∀ (ρ : Nm) (w : World), Own N ρ H w ->
  Does P (.op o) (args.map (SV.den ρ)) w fun e w' => ∃ ρ', e = v.den ρ' /\ Own N ρ' H' w' /\ Evo N H.length ρ H w ρ' H' w' := by
  intro h
  obtain ⟨a1, a2, a3⟩ := hvG_ok (P := P) (N := { N with hv := hvG N.F sl N.G }) hsl rfl o args H v H' h hargs ⟨fun n x hh => hC.1 n x hh, trivial⟩
  refine ⟨a1, ⟨fun n x hh => a2.1 n x hh, trivial⟩, fun ρ w hO => (a3 ρ w (own_env (N := N) (N' := { N with hv := hvG N.F sl N.G }) rfl rfl hO)).mono ?_⟩
  rintro e w' ⟨ρ', h1, h2, h3⟩
  exact ⟨ρ', h1, own_env (N := { N with hv := hvG N.F sl N.G }) (N' := N) rfl rfl h2, evo_env N h3⟩
 unfold hvM at h
 split at h
 ·rename_i t r
  split at h
  ·obtain ⟨c1, c2, c3⟩ := mkM_ok (P := P) hC h
   refine ⟨c1, c2, fun ρ w hO => ?_⟩
   intro ev o ho hv
   obtain ⟨r, w', g1, ρ', g2, g3, g4⟩ := c3 ρ w hO
   refine ⟨r, w', .inl ?_, ρ', g2, g3, g4⟩
   obtain ⟨dst, op, ty, pos, after, guard⟩ := o
   simp only at ho
   subst ho
   simp only [execOp, Option.map_none, Sem.run_bind, g1, Result.andThen_ok, Sem.run_pure]
  ·simp [T.val] at h
 ·rename_i t x ix ok
  split at h
  ·rename_i m key
   obtain ⟨rfl, c2, c3⟩ := lookM_ok hT hz h
   refine ⟨c2, hC, fun ρ w hO => ?_⟩
   intro ev o ho hv
   have g1 := c3 ρ w hO
   simp [Op.operands, SV.den] at hv
   obtain ⟨v1, v2⟩ := hv
   refine ⟨v.den ρ, w, .inl ?_, ρ, rfl, hO, Evo.refl _ _ _ _⟩
   obtain ⟨dst, op, ty, pos, after, guard⟩ := o
   simp only at ho
   subst ho
   have v1 : ev x = m.den ρ := v1
   simp only [execOp, v1, v2, Sem.run_bind, g1, Result.andThen_ok, Sem.run_pure]
  ·simp [T.val] at h
 ·rename_i t x ix val
  split at h
  ·rename_i m key vl
   obtain ⟨c1, c2, c3⟩ := putM_ok hT hC h
   refine ⟨c1, c2, fun ρ w hO => ?_⟩
   intro ev o ho hv
   obtain ⟨w', g1, ρ', g2, g3, g4⟩ := c3 ρ w hO
   simp [Op.operands, SV.den] at hv
   obtain ⟨v1, v2, v3⟩ := hv
   refine ⟨undef, w', .inr ⟨?_, rfl⟩, ρ', g2.symm, g3, g4⟩
   obtain ⟨dst, op, ty, pos, after, guard⟩ := o
   simp only at ho
   subst ho
   have v1 : ev x = m.den ρ := v1
   simp only [execOp, v1, v2, v3, Sem.run_bind, g1, Result.andThen_ok, Sem.run_pure]
  ·simp [T.val] at h
 ·rename_i c
  split at h
  ·rename_i hcal
   split at h
   ·rename_i t t2 m key hty
    have cc := fun ty => delM_ok (t2 := t2) (ty := ty) hT hC h
    refine ⟨(cc 0).1, (cc 0).2.1, fun ρ w hO => ?_⟩
    intro ev o ho hv
    obtain ⟨w', g1, ρ', g2, g3, g4⟩ := (cc o.type).2.2 ρ w hO
    exact ⟨undef, w', .inl (exec_builtin ho hcal hty hv fun _ => by
     have g1 : (Builtin.delete_ #[t, t2] o.type #[SV.den ρ (SV.v (V1.c m)), SV.den ρ (SV.v key)]).run P w = .ok undef w' := g1
     simp [builtin, g1]), ρ', g2.symm, g3, g4⟩
   ·simp [T.val] at h
  ·rename_i hcal
   split at h
   ·rename_i t m hty
    have cc := fun ty => lenM_ok (ty := ty) hT h
    obtain ⟨rfl, c2, _⟩ := cc 0
    refine ⟨c2, hC, fun ρ w hO => ?_⟩
    intro ev o ho hv
    exact ⟨v.den ρ, w, .inl (exec_builtin ho hcal hty hv fun _ => by
     have g1 : (Builtin.len_ #[t] o.type #[SV.den ρ (SV.v (V1.c m))]).run P w = .ok (v.den ρ) w := (cc o.type).2.2 ρ w hO
     simp [builtin, g1]), ρ, rfl, hO, Evo.refl _ _ _ _⟩
   ·simp [T.val] at h
  ·exact old h
 ·rename_i src dst x
  split at h
  ·rename_i c
   obtain ⟨rfl, c2, c3⟩ := strM_ok hT hsl h
   refine ⟨c2, hC, fun ρ w hO => ?_⟩
   intro ev o ho hv
   have g1 := c3 ρ w hO
   simp [Op.operands, SV.den] at hv
   refine ⟨v.den ρ, w, .inl ?_, ρ, rfl, hO, Evo.refl _ _ _ _⟩
   obtain ⟨dt, op, ty, pos, after, guard⟩ := o
   simp only at ho
   subst ho
   have hv : ev x = c.den ρ := hv
   simp only [execOp, hv, Sem.run_bind, g1, Result.andThen_ok, Sem.run_pure]
  ·simp [T.val] at h
 ·exact old h
end Go.Sx

namespace Go.Sx
variable {AV : Type} {P : Program} {N : Env AV}
def cutS (s : ByteArray) (l h : Int) (k : Bool) (H : Hp AV) : T (SV × Hp AV) := .need (decide (0 <= l /\ l <= h /\ h <= (strLen s : Int))) (.leaf (.v (mkS (cutTx s l.toNat h.toNat) k), H))
def sliceS (lo hi mx : Bool) (args : List SV) (H : Hp AV) : T (SV × Hp AV) := match lo, hi, mx, args with
 | true, false, false, [.v (.c s), l] => match strC s, bndI l with
   | some (s, ks), some (l, k) => cutS s l (strLen s) (andK ks k) H
   | _, _ => .fail "slice: text"
 | false, true, false, [.v (.c s), h] => match strC s, bndI h with
   | some (s, ks), some (h, k) => cutS s 0 h (andK ks k) H
   | _, _ => .fail "slice: text"
 | true, true, false, [.v (.c s), l, h] => match strC s, bndI l, bndI h with
   | some (s, ks), some (l, k), some (h, k') => cutS s l h (andK ks (andK k k')) H
   | _, _, _ => .fail "slice: text"
 | _, _, _, _ => .fail "slice: text"
def isTx (tt : Tr TI) (t : TypeId) : Bool := match tt.get t with
 | some ⟨.str, _, _, _⟩ => true
 | _ => false
def minI (gr : Bool) (x y : Int) : Int := match gr with
 | true => (match decide (x < y) with | true => y | false => x)
 | false => (match decide (y < x) with | true => y | false => x)
def minS (gr : Bool) (n : List TypeId) (args : List SV) (H : Hp AV) : T (SV × Hp AV) := match n, args with
 | [_, _], [.v (.c a), .v (.c b)] => match intC a, intC b with
   | some (k, x, l), some (_, y, l') => .leaf (.v (mkI k (minI gr x y) (andK l l')), H)
   | _, _ => .fail "min"
 | _, _ => .fail "min"
def arrS (i : Option TI) (args : List SV) (H : Hp AV) : T (SV × Hp AV) := match i, args with
 | some ⟨.arr len _, _, _, _⟩, [.v (.c (.ptr n off))] => .leaf (.v (.c (.sl n off len len)), H)
 | _, _ => .fail "slice: array"
def isAr (tt : Tr TI) (t : TypeId) (lo hi mx : Bool) : Bool := match lo, hi, mx with
 | false, false, false => match tt.get t with
   | some ⟨.arr _ _, _, _, _⟩ => true
   | _ => false
 | _, _, _ => false
def hvS (F : Intf AV) (tt : Tr TI) (zt : TypeId -> Option V1) (sl : Tr SI) (G : Nat) (o : Op) (args : List SV) (H : Hp AV) : T (SV × Hp AV) := match o with
 | .slice t x lo hi mx => match isTx tt t with
   | true => sliceS lo.isSome hi.isSome mx.isSome args H
   | false => match isAr tt t lo.isSome hi.isSome mx.isSome with
     | true => arrS (tt.get t) args H
     | false => hvM F tt zt sl G (.slice t x lo hi mx) args H
 | .call c => match c.callee with
   | .builtin .min => minS false c.argTypes.toList args H
   | .builtin .max => minS true c.argTypes.toList args H
   | _ => hvM F tt zt sl G (.call c) args H
 | o => hvM F tt zt sl G o args H
theorem cutS_spec {s : ByteArray} {l h : Int} {k : Bool} {H H' : Hp AV} {v : SV} (e : (cutS s l h k H).val = some (v, H')) : H' = H /\ v = .v (mkS (cutTx s l.toNat h.toNat) k) /\ 0 <= l /\ l <= h /\ h <= (s.size : Int) := by
 unfold cutS at e
 obtain ⟨hb, e⟩ := need_some e
 simp only [T.val, Option.some.injEq, Prod.mk.injEq] at e
 obtain ⟨b1, b2, b3⟩ := of_decide_eq_true hb
 rw [strLen_eq] at b3
 exact ⟨e.2.symm, e.1.symm, b1, b2, b3⟩
theorem minS_spec {gr : Bool} {n : List TypeId} {args : List SV} {H H' : Hp AV} {v : SV} (e : (minS gr n args H).val = some (v, H')) : H' = H /\ ∃ t t' a b k x y k' lit, n = [t, t'] /\ args = [.v (.c a), .v (.c b)] /\
 (∀ ρ : Nm, a.den ρ = .int k x /\ b.den ρ = .int k' y) /\ v = .v (mkI k (minI gr x y) lit) := by
 unfold minS at e
 split at e
 ·rename_i t t' a b
  split at e
  ·rename_i k x l k' y l' h1 h2
   simp only [T.val, Option.some.injEq, Prod.mk.injEq] at e
   exact ⟨e.2.symm, t, t', a, b, k, x, y, k', _, rfl, rfl, fun ρ => ⟨intC_den ρ h1, intC_den ρ h2⟩, e.1.symm⟩
  ·simp [T.val] at e
 ·simp [T.val] at e
theorem mkNt_cl (H : Hp AV) (k : IntKind) (n : Int) (lit : Bool) : ClV H (.v (mkI k n lit)) := by
 intro c hc m hm
 cases lit <;> · simp [mkI, V1.cells] at hc; subst hc; cases hm
theorem mkI_dn (ρ : Nm) (k : IntKind) (n : Int) (lit : Bool) : (SV.v (mkI k n lit)).den ρ = .int k n := by
 cases lit <;> rfl
theorem minI_lo (x y : Int) : minI false x y = if y < x then y else x := by
 unfold minI
 by_cases h : y < x <;> simp [h]
theorem minI_hi (x y : Int) : minI true x y = if y > x then y else x := by
 unfold minI
 by_cases h : x < y <;> simp [h]
theorem hvS_ok {sl : Tr SI} {zt : TypeId -> Option V1} (hT : TblOk P N) (hsl : SlOk P sl) (hz : ZtOk P zt) (hhv : N.hv = hvS N.F N.tt zt sl N.G) : HvOk P N := by
 intro o args H v H' h hargs hC
 rw [hhv] at h
 have hT' : TblOk P { N with hv := hvM N.F N.tt zt sl N.G } := by obtain ⟨a, b, c, d, e⟩ := hT; exact ⟨a, b, c, d, e⟩
 have old : (hvM N.F N.tt zt sl N.G o args H).val = some (v, H') -> ClV H' v /\ ClHp N H' /\ ∀ (ρ : Nm) (w : World), Own N ρ H w ->
  Does P (.op o) (args.map (SV.den ρ)) w fun e w' => ∃ ρ', e = v.den ρ' /\ Own N ρ' H' w' /\ Evo N H.length ρ H w ρ' H' w' := by
  intro h
  obtain ⟨a1, a2, a3⟩ := hvM_ok (P := P) (N := { N with hv := hvM N.F N.tt zt sl N.G }) hT' hsl hz rfl o args H v H' h hargs ⟨fun n x hh => hC.1 n x hh, trivial⟩
  refine ⟨a1, ⟨fun n x hh => a2.1 n x hh, trivial⟩, fun ρ w hO => (a3 ρ w (own_env (N := N) (N' := { N with hv := hvM N.F N.tt zt sl N.G }) rfl rfl hO)).mono ?_⟩
  rintro e w' ⟨ρ', h1, h2, h3⟩
  exact ⟨ρ', h1, own_env (N := { N with hv := hvM N.F N.tt zt sl N.G }) (N' := N) rfl rfl h2, evo_env N h3⟩
 unfold hvS at h
 split at h
 ·rename_i t x lo hi mx
  split at h
  ·rename_i htx
   have hu : P.underlying t = some .string := by
    unfold isTx at htx
    split at htx
    ·rename_i hh; exact kd_str (tbl_kd hT hh)
    ·cases htx
   unfold sliceS at h
   split at h
   ·rename_i c l q1 q2 q3
    split at h
    ·rename_i s ks l k hs hl
     obtain ⟨rfl, rfl, b1, b2, b3⟩ := cutS_spec h
     refine ⟨mkTx_cl _ _ _, hC, fun ρ w hO => ?_⟩
     intro ev o ho hv
     refine ⟨_, w, .inl ?_, ρ, rfl, hO, Evo.refl _ _ _ _⟩
     cases lo with
     | none => cases q1
     | some lo =>
     cases hi with
     | some _ => cases q2
     | none =>
     cases mx with
     | some _ => cases q3
     | none =>
     simp [Op.operands, SV.den, V1.den, strC_den ρ hs] at hv
     obtain ⟨v1, v2⟩ := hv
     obtain ⟨ik, v3⟩ := bndI_spec hl ρ
     rw [mkTx_den]
     have e3 : ev lo = .int ik l := by rw [v2]; exact v3
     refine exec_cutTx (m := s.size) ho hu v1 ?_
     have e4 : (strLen s : Int).toNat = s.size := by rw [strLen_eq]; rfl
     rw [e4]
     have hb := run_sliceBound (P := P) w ik l s.size .sliceB b1 (by omega)
     simp [Instr.sliceBounds, e3, hb, Result.andThen]
    ·simp [T.val] at h
   ·rename_i c l q1 q2 q3
    split at h
    ·rename_i s ks l k hs hl
     obtain ⟨rfl, rfl, b1, b2, b3⟩ := cutS_spec h
     refine ⟨mkTx_cl _ _ _, hC, fun ρ w hO => ?_⟩
     intro ev o ho hv
     refine ⟨_, w, .inl ?_, ρ, rfl, hO, Evo.refl _ _ _ _⟩
     cases lo with
     | some _ => cases q1
     | none =>
     cases hi with
     | none => cases q2
     | some hi =>
     cases mx with
     | some _ => cases q3
     | none =>
     simp [Op.operands, SV.den, V1.den, strC_den ρ hs] at hv
     obtain ⟨v1, v2⟩ := hv
     obtain ⟨ik, v3⟩ := bndI_spec hl ρ
     rw [mkTx_den]
     have e3 : ev hi = .int ik l := by rw [v2]; exact v3
     refine exec_cutTx (m := s.size) ho hu v1 ?_
     have hb := run_sliceBound (P := P) w ik l s.size .sliceAlen b2 (by omega)
     simp [Instr.sliceBounds, e3, hb, Result.andThen]
    ·simp [T.val] at h
   ·rename_i c l r q1 q2 q3
    split at h
    ·rename_i s ks l k r k' hs hl hr
     obtain ⟨rfl, rfl, b1, b2, b3⟩ := cutS_spec h
     refine ⟨mkTx_cl _ _ _, hC, fun ρ w hO => ?_⟩
     intro ev o ho hv
     refine ⟨_, w, .inl ?_, ρ, rfl, hO, Evo.refl _ _ _ _⟩
     cases lo with
     | none => cases q1
     | some lo =>
     cases hi with
     | none => cases q2
     | some hi =>
     cases mx with
     | some _ => cases q3
     | none =>
     simp [Op.operands, SV.den, V1.den, strC_den ρ hs] at hv
     obtain ⟨v1, v2, v4⟩ := hv
     obtain ⟨ik, v3⟩ := bndI_spec hl ρ
     obtain ⟨jk, v5⟩ := bndI_spec hr ρ
     rw [mkTx_den]
     have e3 : ev lo = .int ik l := by rw [v2]; exact v3
     have e5 : ev hi = .int jk r := by rw [v4]; exact v5
     refine exec_cutTx (m := s.size) ho hu v1 ?_
     have hb := run_sliceBound (P := P) w jk r s.size .sliceAlen (by omega) b3
     have hb2 := run_sliceBound (P := P) w ik l r.toNat .sliceB b1 (by omega)
     simp [Instr.sliceBounds, e3, e5, hb, hb2, Result.andThen]
    ·simp [T.val] at h
   ·simp [T.val] at h
  ·split at h
   ·rename_i har
    unfold isAr at har
    split at har
    ·rename_i q1 q2 q3
     unfold arrS at h
     split at h
     ·rename_i len sz _ _ _ n off hi2
      simp only [T.val, Option.some.injEq, Prod.mk.injEq] at h
      obtain ⟨rfl, rfl⟩ := h
      refine ⟨?_, hC, fun ρ w hO => ?_⟩
      ·have h0 := hargs _ (List.mem_singleton.2 rfl)
       intro c hc m hm
       simp [V1.cells] at hc
       subst hc
       exact h0 _ (List.mem_singleton.2 rfl) m hm
      intro ev o ho hv
      refine ⟨_, w, .inl ?_, ρ, rfl, hO, Evo.refl _ _ _ _⟩
      cases lo with
      | some _ => cases q1
      | none =>
      cases hi with
      | some _ => cases q2
      | none =>
      cases mx with
      | some _ => cases q3
      | none =>
      simp [Op.operands, SV.den, V1.den, Cell.den] at hv
      obtain ⟨e, hu, hsz⟩ := kd_arr (tbl_kd hT hi2)
      have he : P.elem t = e := by simp [Program.elem, hu]
      have hl : P.arrayLen t = len := by simp [Program.arrayLen, hu]
      have hu' : P.underlying t = some (.array (P.arrayLen t) (P.elem t)) := by rw [he, hl]; exact hu
      have hz := sizeOf_run hsz w
      rw [<- he] at hz
      obtain ⟨dst, op, ty, pos, after, guard⟩ := o
      simp only at ho
      subst ho
      have g := run_sliceAt_array_all w t ⟨ρ n, off, none⟩ hu'
      rw [hz, hl] at g
      simp only [execOp, hv, Option.map_none, Sem.run_bind, g, Result.andThen_ok, Sem.run_pure]
      simp only [slicedAt, SV.den, V1.den, Cell.den, Nat.zero_mul, Nat.sub_zero]
      have : (Addr.add ⟨ρ n, off, none⟩ 0) = ⟨ρ n, off, none⟩ := by simp [Addr.add]
      rw [this]
      split <;> rfl
     ·simp [T.val] at h
    ·cases har
   ·exact old h
 ·rename_i c
  split at h
  ·rename_i hcal
   obtain ⟨rfl, t, t', a, b, k, x, y, k', lit, hty, rfl, hd, rfl⟩ := minS_spec h
   refine ⟨mkNt_cl _ _ _ _, hC, fun ρ w hO => ?_⟩
   intro ev o ho hv
   obtain ⟨d1, d2⟩ := hd ρ
   refine ⟨_, w, .inl (exec_builtin ho hcal hty hv fun _ => ?_), ρ, rfl, hO, Evo.refl _ _ _ _⟩
   have g1 : (Builtin.min_ #[t, t'] o.type #[SV.den ρ (SV.v (V1.c a)), SV.den ρ (SV.v (V1.c b))]).run P w = .ok ((SV.v (mkI k (minI false x y) lit)).den ρ) w := by
    rw [mkI_dn, minI_lo]
    show (Builtin.min_ #[t, t'] o.type #[a.den ρ, b.den ρ]).run P w = _
    rw [d1, d2]
    exact run_min_int2 ..
   simp [builtin, g1]
  ·rename_i hcal
   obtain ⟨rfl, t, t', a, b, k, x, y, k', lit, hty, rfl, hd, rfl⟩ := minS_spec h
   refine ⟨mkNt_cl _ _ _ _, hC, fun ρ w hO => ?_⟩
   intro ev o ho hv
   obtain ⟨d1, d2⟩ := hd ρ
   refine ⟨_, w, .inl (exec_builtin ho hcal hty hv fun _ => ?_), ρ, rfl, hO, Evo.refl _ _ _ _⟩
   have g1 : (Builtin.max_ #[t, t'] o.type #[SV.den ρ (SV.v (V1.c a)), SV.den ρ (SV.v (V1.c b))]).run P w = .ok ((SV.v (mkI k (minI true x y) lit)).den ρ) w := by
    rw [mkI_dn, minI_hi]
    show (Builtin.max_ #[t, t'] o.type #[a.den ρ, b.den ρ]).run P w = _
    rw [d1, d2]
    exact run_max_int2 ..
   simp [builtin, g1]
  ·exact old h
 ·exact old h
end Go.Sx

namespace Go.Sx
variable {AV : Type}
end Go.Sx
