import Derived.Test.YtpapbhbnaalhcaaDoorSxOf
import Derived.Laws.BytesArg
import Derived.Test.YtpapbhbnaalhcaaDoorSxM
import Derived.Test.YtpapbhbnaalhcaaDoorChecked
import Derived.WalkKit
import Derived.LaidEql
import Derived.Stop.Asserts
import Derived.RowKitTokens
namespace Go.Sx
variable {AV : Type} {P : Program} {N : Env AV}
def ZtOk (P : Program) (zt : TypeId -> Option V1) : Prop := ∀ t z, zt t = some z -> (∀ c ∈ z.cells, c.name = none) /\ ∃ i v, P.info? t = some i /\ i.zero = some v /\ ∀ ρ, z.den ρ = v
def mapT (tt : Tr TI) (t : TypeId) : Option (TypeId × TypeId × List FK × Bool) := match tt.get t with
 | some ⟨.map kt et, _, _, _⟩ => match tt.get kt with
   | some ⟨kd, _, _, some ks⟩ => some (kt, et, ks, isAggK kd)
   | _ => none
 | _ => none
def absM (H : Hp AV) : Cell -> Option (Nat × AV)
 | .mp (some n) => match hget H n with
   | some (.abs a) => some (n, a)
   | _ => none
 | _ => none
def sameB : Bool -> Bool -> Bool
 | true, b => b
 | false, true => false
 | false, false => true
def mpOk (F : Intf AV) (a : AV) (ks : List FK) (ag : Bool) : Bool := match F.mp a with
 | some (ks', ag', _) => match decide (ks' = ks) with
   | true => sameB ag' ag
   | false => false
 | none => false
def opM (F : Intf AV) (tt : Tr TI) (t : TypeId) (m : Cell) (key : V1) (H : Hp AV) : Option (Nat × AV × TypeId) := match mapT tt t, absM H m with
 | some (_, et, ks, ag), some (n, a) => match mpOk F a ks ag, keyOk ks ag key with
   | true, true => some (n, a, et)
   | _, _ => none
 | _, _ => none
def mkM (F : Intf AV) (tt : Tr TI) (G : Nat) (t : TypeId) (H : Hp AV) : T (SV × Hp AV) := match mapT tt t, Nat.ble G H.length with
 | some (_, _, ks, ag), true => match F.mnew ks ag with
   | some a => .leaf (.v (.c (.mp (some H.length))), H ++ [some (.abs a)])
   | none => .fail "makeMap"
 | _, _ => .fail "makeMap"
def lookM (F : Intf AV) (tt : Tr TI) (zt : TypeId -> Option V1) (t : TypeId) (ok : Bool) (m : Cell) (key : V1) (H : Hp AV) : T (SV × Hp AV) := match opM F tt t m key H with
 | some (_, a, et) => match zt et with
   | some z => match F.mlook a key z with
     | some (v, b, kn) => .leaf (match ok with | true => .tup [v, mkB b kn] | false => .v v, H)
     | none => .fail "lookup"
   | none => .fail "lookup: zero"
 | none => .fail "lookup: map"
def putM (F : Intf AV) (tt : Tr TI) (t : TypeId) (m : Cell) (key val : V1) (H : Hp AV) : T (SV × Hp AV) := match opM F tt t m key H with
 | some (n, a, _) => match F.mput a key val with
   | some a' => .leaf (undefV, lset H n (some (.abs a')))
   | none => .fail "mapUpdate"
 | none => .fail "mapUpdate: map"
def delM (F : Intf AV) (tt : Tr TI) (t : TypeId) (m : Cell) (key : V1) (H : Hp AV) : T (SV × Hp AV) := match opM F tt t m key H with
 | some (n, a, _) => match F.mdel a key with
   | some a' => .leaf (undefV, lset H n (some (.abs a')))
   | none => .fail "delete"
 | none => .fail "delete: map"
def lenM (F : Intf AV) (tt : Tr TI) (t : TypeId) (m : Cell) (H : Hp AV) : T (SV × Hp AV) := match mapT tt t, absM H m with
 | some _, some (_, a) => match F.mlen a with
   | some (n, kn) => .leaf (.v (mkI .i64 n kn), H)
   | none => .fail "len"
 | _, _ => .fail "len: map"
def strM (F : Intf AV) (tt : Tr TI) (sl : Tr SI) (src dst : TypeId) (x : Cell) (H : Hp AV) : T (SV × Hp AV) := match x, sl.get src, tt.get dst with
 | .vs n 0 len 1 _, some si, some ⟨.str, _, _, _⟩ => match tt.get si.e, absM H (.mp (some n)) with
   | some ⟨.int .u8, _, _, _⟩, some (_, a) => match F.txt a with
     | some xs => .need (Nat.beq xs.length len) (.leaf (.v (.c (.sv (strOfNums xs))), H))
     | none => .fail "text"
   | _, _ => .fail "text"
 | _, _, _ => .fail "text"
def hvM (F : Intf AV) (tt : Tr TI) (zt : TypeId -> Option V1) (sl : Tr SI) (G : Nat) (o : Op) (args : List SV) (H : Hp AV) : T (SV × Hp AV) := match o with
 | .makeMap t r => match r, args with
   | none, [] => mkM F tt G t H
   | _, _ => .fail "makeMap"
 | .lookup t _ _ ok => match args with
   | [.v (.c m), .v key] => lookM F tt zt t ok m key H
   | _ => .fail "lookup"
 | .mapUpdate t _ _ _ => match args with
   | [.v (.c m), .v key, .v val] => putM F tt t m key val H
   | _ => .fail "mapUpdate"
 | .call c => match c.callee with
   | .builtin .delete => match c.argTypes.toList, args with
     | [t, _], [.v (.c m), .v key] => delM F tt t m key H
     | _, _ => .fail "delete"
   | .builtin .len => match c.argTypes.toList, args with
     | [t], [.v (.c m)] => lenM F tt t m H
     | _, _ => .fail "len"
   | _ => hvG F sl G o args H
 | .convert src dst _ => match args with
   | [.v (.c x)] => strM F tt sl src dst x H
   | _ => .fail "convert"
 | o => hvG F sl G o args H
theorem part_key {d : Nat} {t : TypeId} {n off : Nat} {k1 : List FK} {agg : Bool} (hk1 : flatT P d t = some k1) (hagg : isAggT P t = some agg) (hlen : n = k1.length) {l : List Cell}
 (_ : kindsB k1 ((l.drop off).take k1.length) = true) (hle : off + n <= l.length) : ∃ x, part1 agg n l off = some x /\ Shaped P t x /\ x.cells = (l.drop off).take n := by
 cases agg with
 | true =>
   refine ⟨.agg ((l.drop off).take n), ?_, .inl ⟨hagg, _, rfl⟩, rfl⟩
   have : ∀ (l : List Cell) (k m : Nat), k + m <= l.length -> lsub l k m = some ((l.drop k).take m) := by
    have ht : ∀ (l : List Cell) (m : Nat), m <= l.length -> ltake l m = some (l.take m) := by
     intro l
     induction l with
     | nil => intro m hm; simp at hm; subst hm; rfl
     | cons c l ih => intro m hm; cases m with
       | zero => rfl
       | succ m => simp at hm; simp [ltake, ih m hm]
    intro l
    induction l with
    | nil => intro k m hm; simp at hm; obtain ⟨rfl, rfl⟩ := hm; rfl
    | cons c l ih => intro k m hm; cases k with
      | zero => simp only [lsub, List.drop_zero]; exact ht _ _ (by simpa using hm)
      | succ k => simp only [lsub, List.drop_succ_cons]; exact ih k m (by simp at hm; omega)
   simp [part1, this l off n hle]
 | false =>
   have h1 := flat_one hk1 hagg
   have hn1 : n = 1 := by omega
   subst hn1
   have hlt : off < l.length := by omega
   refine ⟨.c l[off], ?_, .inr ⟨hagg, _, rfl⟩, ?_⟩
   ·simp [part1, nth_eq, hlt]
   ·simp only [V1.cells]; rw [List.drop_eq_getElem_cons hlt]; rfl
theorem check_loop {P : Program} {ρ : Nm} {d D : Nat} {em : Bool} (xs : List Cell) (w : World)
 (ih : ∀ (t : TypeId) (ks : List FK) (x : V1), flatT P d t = some ks -> Shaped P t x -> kindsB ks x.cells = true -> (Instr.checkKey em D t (x.den ρ)).run P w = .ok () w) :
 ∀ (r : List Field) (off : Nat) (ks : List FK), off <= xs.length -> flatFs P (flatT P d) r off = some ks -> kindsB ks (xs.drop off) = true ->
   (forIn r PUnit.unit fun f _ =>
     if f.name ≠ "_" then do
      let x <- part f.type (denL ρ xs).toArray f.offset
      Instr.checkKey em D f.type x
      pure (ForInStep.yield PUnit.unit)
     else pure (ForInStep.yield PUnit.unit) : Sem PUnit).run P w = .ok PUnit.unit w
 | [], off, ks, _, h, hx => by simp
 | f :: r, off, ks, hox, h, hx => by
   simp only [flatFs] at h
   split at h
   ·cases h
   ·rename_i hname
    split at h
    ·cases h
    ·rename_i hoff
     have hoff := (beq_iff _ _).1 hoff
     split at h
     ·cases h
     ·rename_i k1 hk1
      split at h
      ·cases h
      ·rename_i n hn
       split at h
       ·cases h
       ·rename_i hlen
        have hlen := (beq_iff _ _).1 hlen
        split at h
        ·rename_i k2 hk2
         cases h
         obtain ⟨agg, hagg⟩ := flat_agg hk1
         obtain ⟨x1, x2⟩ := kindsB_append hx
         have lx := kindsB_length hx
         simp only [List.length_drop, List.length_append] at lx
         rw [List.drop_drop, <- hlen] at x2
         have hrec := check_loop xs w ih r (off + n) k2 (by omega) hk2 x2
         obtain ⟨px, hpx, hsx, hcx⟩ := part_key hk1 hagg hlen x1 (by omega)
         have rx := part_run (ρ := ρ) hagg hn hpx w
         have hnm : f.name ≠ "_" := by simpa using hname
         have e0 := ih f.type k1 px hk1 hsx (by rw [hcx, hlen]; exact x1)
         rw [List.forIn_cons]
         simp only [hnm, ne_eq, not_false_eq_true, if_true, Sem.run_bind, hoff, rx, e0, Result.andThen_ok, Sem.run_pure]
         exact hrec
        ·cases h
theorem forIn_run_congr {P : Program} {α β : Type} {f g : α -> β -> Sem (ForInStep β)} (h : ∀ i s w, (f i s).run P w = (g i s).run P w) : ∀ (l : List α) (s : β) (w : World), (forIn l s f).run P w = (forIn l s g).run P w
 | [], s, w => by simp
 | x :: l, s, w => by
   rw [List.forIn_cons, List.forIn_cons, Sem.run_bind, Sem.run_bind, h x s w]
   congr 1
   funext r w'
   cases r with
   | done b => rfl
   | yield b => exact forIn_run_congr h l b w'
theorem check_run {P : Program} {ρ : Nm} (w : World) (em : Bool) : ∀ (d D : Nat), d <= D -> ∀ (t : TypeId) (ks : List FK) (x : V1), flatT P d t = some ks -> Shaped P t x -> kindsB ks x.cells = true ->
 (Instr.checkKey em D t (x.den ρ)).run P w = .ok () w
 | 0, _, _, _, _, _, h, _, _ => by cases h
 | d + 1, 0, hle, _, _, _, _, _, _ => by omega
 | d + 1, D + 1, hle, t, ks, x, h, sx, kx => by
   have ih := check_run (ρ := ρ) (P := P) w em d D (by omega)
   unfold flatT at h
   cases hu : P.underlying t with
   | none => simp [hu] at h
   | some u =>
     rw [Instr.checkKey, Sem.run_bind, under_run hu, Result.andThen_ok]
     cases u <;> simp only [hu] at h <;> (first | (cases h; done) | skip)
     case bool => simp
     case int k => simp
     case string => simp
     case struct fs =>
      have ha : isAggT P t = some true := by simp [isAggT, hu]
      obtain ⟨xs, rfl⟩ : ∃ l, x = .agg l := by
       rcases sx with ⟨_, h⟩ | ⟨h1, _⟩
       ·exact h
       ·rw [ha] at h1; cases h1
      cases hs : P.stoodInHeld t with
      | true => simp [hs] at h
      | false =>
        simp only [hs] at h
        have hl := check_loop (ρ := ρ) xs w ih fs.toList 0 ks (Nat.zero_le _) h (by simpa [V1.cells] using kx)
        simp only [V1.den]
        rw [<- Array.forIn_toList, Sem.run_bind, hl]
        simp
     case array len e =>
      have ha : isAggT P t = some true := by simp [isAggT, hu]
      obtain ⟨xs, rfl⟩ : ∃ l, x = .agg l := by
       rcases sx with ⟨_, h⟩ | ⟨h1, _⟩
       ·exact h
       ·rw [ha] at h1; cases h1
      cases hs : sizeT P e with
      | none => simp [hs] at h
      | some n =>
        simp only [hs] at h
        have hl := check_loop (ρ := ρ) xs w ih (arrFs e n len 0) 0 ks (Nat.zero_le _) h (by simpa [V1.cells] using kx)
        rw [arrFs_eq, List.forIn_map] at hl
        simp only [arrFd, show ("x" : String) ≠ "_" from by decide, ne_eq, not_false_eq_true, if_true] at hl
        simp only [V1.den]
        simp only [Std.Legacy.Range.forIn_eq_forIn_range', Std.Legacy.Range.size, Nat.sub_zero, Nat.add_one_sub_one, Nat.div_one]
        rw [Sem.run_bind, forIn_run_congr (g := fun a y => do
         let x <- part e (denL ρ xs).toArray (a * n)
         Instr.checkKey em D e x
         pure (ForInStep.yield PUnit.unit)) (fun i s w => by simp only [Sem.run_bind, sizeOf_run hs w, Result.andThen_ok]) , hl]
        simp
theorem kd_map {P : Program} {t k e : TypeId} (h : kdT P t = some (.map k e)) : P.underlying t = some (.map k e) := by
 unfold kdT at h
 split at h <;> (try split at h) <;> simp_all
theorem mapT_spec (hT : TblOk P N) {t kt et : TypeId} {ks : List FK} {ag : Bool} (h : mapT N.tt t = some (kt, et, ks, ag)) : P.underlying t = some (.map kt et) /\ flatT P 12 kt = some ks /\ isAggT P kt = some ag := by
 unfold mapT at h
 split at h
 ·rename_i k e _ _ _ h1
  split at h
  ·rename_i kd _ _ ks' h2
   simp only [Option.some.injEq, Prod.mk.injEq] at h
   obtain ⟨rfl, rfl, rfl, rfl⟩ := h
   obtain ⟨inf, g1, g2, g3, g4, g5⟩ := mkTI_parts (hT.ty _ _ h2)
   refine ⟨kd_map (tbl_kd hT h1), ?_, isAggT_kd g2⟩
   simp only at g5
   cases hg : P.eqGuardType P.depth k with
   | true => simp [hg] at g5
   | false => simp only [hg] at g5; exact g5.symm
  ·cases h
 ·cases h
theorem absM_spec {H : Hp AV} {m : Cell} {n : Nat} {a : AV} (h : absM H m = some (n, a)) : m = .mp (some n) /\ hget H n = some (.abs a) := by
 unfold absM at h
 split at h
 ·split at h
  ·rename_i h1
   cases h
   exact ⟨rfl, h1⟩
  ·cases h
 ·cases h
theorem mpOk_spec {F : Intf AV} {a : AV} {ks : List FK} {ag : Bool} (h : mpOk F a ks ag = true) : ∃ es, F.mp a = some (ks, ag, es) := by
 unfold mpOk at h
 split at h
 ·rename_i ks' ag' es h1
  split at h
  ·rename_i hd
   have hd := of_decide_eq_true hd
   subst hd
   have : ag' = ag := by cases ag' <;> cases ag <;> simp [sameB] at h <;> rfl
   subst this
   exact ⟨_, h1⟩
  ·cases h
 ·cases h
theorem opM_spec (hT : TblOk P N) {t : TypeId} {m : Cell} {key : V1} {H : Hp AV} {n : Nat} {a : AV} {et : TypeId} (h : opM N.F N.tt t m key H = some (n, a, et)) :
 ∃ kt ks ag es, P.underlying t = some (.map kt et) /\ flatT P 12 kt = some ks /\ isAggT P kt = some ag /\ m = .mp (some n) /\ hget H n = some (.abs a) /\ N.F.mp a = some (ks, ag, es) /\ keyOk ks ag key = true := by
 unfold opM at h
 split at h
 ·rename_i h1 h2
  split at h
  ·rename_i h3 h4
   simp only [Option.some.injEq, Prod.mk.injEq] at h
   obtain ⟨rfl, rfl, rfl⟩ := h
   obtain ⟨g1, g2, g3⟩ := mapT_spec hT h1
   obtain ⟨g4, g5⟩ := absM_spec h2
   obtain ⟨es, g6⟩ := mpOk_spec h3
   exact ⟨_, _, _, es, g1, g2, g3, g4, g5, g6, h4⟩
  ·cases h
 ·cases h
theorem at_run {H : Hp AV} {ρ : Nm} {w : World} (hO : Own N ρ H w) {n : Nat} {a : AV} {ks : List FK} {ag : Bool} {es : List (V1 × V1)} (hn : hget H n = some (.abs a)) (hm : N.F.mp a = some (ks, ag, es)) {kt : TypeId} (hf : flatT P 12 kt = some ks) (ha : isAggT P kt = some ag) {key : V1} (hk : keyOk ks ag key = true) :
 ∃ en clock, w.heap[ρ n]? = some (.map en clock) /\ (∀ k, ρ.S n k ↔ k = ρ n) /\ en.toList.map (fun e => (e.key, e.val)) = es.map (fun e => (e.1.den Nm.id, e.2.den Nm.id)) /\ (∀ em, (Instr.checkKey em 10000 kt (key.den ρ)).run P w = .ok () w) /\ (Instr.findKey kt (key.den ρ) en.toList).run P w = .ok (findIx key 0 es) w := by
 obtain ⟨g1, g2⟩ := N.F.mp_q a ks ag es hm
 obtain ⟨h1, en, clock, h2, h3⟩ := (g2 _ _ _).1 (hO.q n _ hn)
 exact ⟨en, clock, h2, h1, h3, fun em => check_run (ρ := ρ) w em 12 10000 (by decide) kt ks key hf (keyOk_shape hk ha) (keyOk_kinds hk), find_run hf ha hk ρ w h3 fun e he => (g1 e he).1⟩
theorem map_new (w : World) (t : TypeId) : (Instr.makeMap t none).run P w = .ok (.map (some w.heap.size)) (w.alloc (.map #[] 0)) := by
 simp [Instr.makeMap, newObj, Sem.run]
theorem mkM_ok {t : TypeId} {H H' : Hp AV} {v : SV} (hC : ClHp N H) (h : (mkM N.F N.tt N.G t H).val = some (v, H')) : ClV H' v /\ ClHp N H' /\ ∀ (ρ : Nm) (w : World), Own N ρ H w ->
 ∃ r w', (Instr.makeMap t none).run P w = .ok r w' /\ ∃ ρ', r = v.den ρ' /\ Own N ρ' H' w' /\ Evo N H.length ρ H w ρ' H' w' := by
 unfold mkM at h
 split at h
 ·rename_i hG
  split at h
  ·rename_i a ha
   simp only [T.val, Option.some.injEq, Prod.mk.injEq] at h
   obtain ⟨rfl, rfl⟩ := h
   have hm := N.F.mnew_ok _ _ _ ha
   refine ⟨?_, cl_abs hC (d := none) (fun n h => by cases h) a, fun ρ w hO => ⟨_, _, map_new w t, ?_⟩⟩
   ·intro c hc m hcm
    simp [V1.cells] at hc
    subst hc
    simp only [Cell.name, Option.some.injEq] at hcm
    subst hcm
    exact ⟨_, by rw [hget_app, if_pos rfl]⟩
   ·have hh : (w.alloc (.map #[] 0)).heap = w.heap.push (.map #[] 0) := rfl
    have := own_swap (w' := w.alloc (.map #[] 0)) hO hC (Nat.le_of_ble_eq_true hG) (d := none) (ck := .abs a) (fun n h => by cases h) (fun x hx => by cases hx) (lc := ⟨w.heap.size, 0, 0⟩) (S := fun k => k = w.heap.size)
     (fun k hk _ => by rw [hh, Array.getElem?_push_lt hk, Array.getElem?_eq_getElem hk]) rfl rfl rfl (by rw [hh, Array.size_push]; omega)
     (by
       show N.F.q a _ _ _
       rw [(set_L _ _ _ _).1, (set_L _ _ _ _).2]
       exact ((N.F.mp_q a _ _ _ hm).2 _ _ _).2 ⟨fun k => Iff.rfl, #[], 0, by rw [hh]; simp, rfl⟩)
     (fun k hk => by
       have hk : (ρ.set H.length ⟨w.heap.size, 0, 0⟩ fun k => k = w.heap.size).S H.length k := hk
       rw [(set_L _ _ _ _).2] at hk
       exact .inl (by rw [hk]; omega))
    refine ⟨_, ?_, this.1, this.2.1⟩
    simp only [SV.den, V1.den, Cell.den, Option.map_some, Nm.f, (set_L _ _ _ _).1]
  ·simp [T.val] at h
 ·simp [T.val] at h
theorem names_den {l : List Cell} (h : ∀ c ∈ l, c.name = none) (ρ ρ' : Nm) : denL ρ l = denL ρ' l := by
 unfold denL
 apply List.map_congr_left
 intro c hc
 exact den_congr c fun n hn => by rw [h c hc] at hn; cases hn
theorem names_v1 {x : V1} (h : ∀ c ∈ x.cells, c.name = none) (ρ ρ' : Nm) : x.den ρ = x.den ρ' := by
 have := names_den h ρ ρ'
 cases x with
 | c x => simpa [V1.cells, denL, V1.den] using this
 | agg l => simp only [V1.den]; exact congrArg (fun l => Value.agg (List.toArray l)) this
theorem cl_names {H : Hp AV} {x : V1} (h : ∀ c ∈ x.cells, c.name = none) : ClV1 H x := fun c hc n hn => by rw [h c hc] at hn; cases hn
theorem lookM_ok (hT : TblOk P N) {zt : TypeId -> Option V1} (hz : ZtOk P zt) {t : TypeId} {ok : Bool} {m : Cell} {key : V1} {H H' : Hp AV} {v : SV} (h : (lookM N.F N.tt zt t ok m key H).val = some (v, H')) : H' = H /\ ClV H v /\ ∀ (ρ : Nm) (w : World), Own N ρ H w ->
 (Instr.lookup t (m.den ρ) (key.den ρ) ok).run P w = .ok (v.den ρ) w := by
 unfold lookM at h
 split at h
 ·rename_i n a et ho
  obtain ⟨kt, ks, ag, es, hu, hf, ha, rfl, hn, hm, hk⟩ := opM_spec hT ho
  split at h
  ·rename_i z hzt
   obtain ⟨z1, zi, zv, z2, z3, z4⟩ := hz _ _ hzt
   split at h
   ·rename_i x b kn hl
    simp only [T.val, Option.some.injEq, Prod.mk.injEq] at h
    obtain ⟨rfl, rfl⟩ := h
    obtain ⟨ks', ag', es', hm', hv, hx, hvd⟩ := N.F.mlook_ok a key z x b kn hl
    rw [hm] at hm'
    simp only [Option.some.injEq, Prod.mk.injEq] at hm'
    obtain ⟨rfl, rfl, rfl⟩ := hm'
    refine ⟨rfl, ?_, fun ρ w hO => ?_⟩
    ·cases ok with
     | false => exact cl_names hx
     | true =>
       intro y hy
       simp only [List.mem_cons, List.not_mem_nil, or_false] at hy
       rcases hy with rfl | rfl
       ·exact cl_names hx
       ·exact mkB_cl _ _
    ·obtain ⟨en, clock, q1, q2, q3, q4, q5⟩ := at_run hO hn hm hf ha hk
     have hzr : ∀ w, (zeroValue et).run P w = .ok (z.den ρ) w := fun w => by
      simp [zeroValue, typeInfo, z2, z3, z4 ρ]
     have hfin : ∀ (y : Value) (c : Bool), (match findIx key 0 es with | some (_, v) => (v, true) | none => (z.den ρ, false)) = (y, c) -> x.den ρ = y /\ b = c := by
      intro y c hy
      cases hi : findIx key 0 es with
      | none =>
        have h5 := (findIx_none (v := z) (z := z) hi).1
        rw [h5] at hv hvd
        rw [hi] at hy
        cases hv; cases hy
        exact ⟨hvd ρ, rfl⟩
      | some p =>
        obtain ⟨j, u⟩ := p
        obtain ⟨e, _, h2, _, h4, h5, _⟩ := findIx_some (v := z) (z := z) hi
        rw [h5] at hv hvd
        rw [hi] at hy
        cases hv; cases hy
        exact ⟨by rw [h4, hvd ρ]; exact names_v1 ((N.F.mp_q a _ _ _ hm).1 e (List.mem_of_getElem? h2)).2.2 _ _, rfl⟩
     simp only [Instr.lookup, Sem.run_bind, under_run hu, Result.andThen_ok, Cell.den, Option.map_some, Go.MapKept.run_getObj_map q1, Sem.run_pure, q4, q5]
     cases hi : findIx key 0 es with
     | none =>
       rw [hi] at hfin
       obtain ⟨e1, e2⟩ := hfin _ _ rfl
       simp only [Sem.run_bind, hzr, Result.andThen_ok, Sem.run_pure]
       cases ok <;> simp [SV.den, e1, e2, mkB_den]
     | some p =>
       obtain ⟨j, u⟩ := p
       rw [hi] at hfin
       obtain ⟨e1, e2⟩ := hfin _ _ rfl
       cases ok <;> simp [SV.den, e1, e2, mkB_den]
   ·simp [T.val] at h
  ·simp [T.val] at h
 ·simp [T.val] at h
theorem modify_map {α β γ : Type} {g : α -> γ} {g' : β -> γ} {f : α -> α} {f' : β -> β} : ∀ (l : List α) (m : List β) (i : Nat), l.map g = m.map g' -> (∀ x y, l[i]? = some x -> m[i]? = some y -> g (f x) = g' (f' y)) -> (l.modify i f).map g = (m.modify i f').map g'
 | [], [], _, _, _ => by simp
 | [], _ :: _, _, h, _ => by simp at h
 | _ :: _, [], _, h, _ => by simp at h
 | x :: l, y :: m, 0, h, hi => by
   simp only [List.map_cons, List.cons.injEq] at h
   simp only [List.modify_zero_cons, List.map_cons]
   rw [hi x y rfl rfl, h.2]
 | x :: l, y :: m, i + 1, h, hi => by
   simp only [List.map_cons, List.cons.injEq] at h
   simp only [List.modify_succ_cons, List.map_cons]
   rw [h.1, modify_map l m i h.2 (fun a b ha hb => hi a b (by simpa using ha) (by simpa using hb))]
theorem map_set {ρ : Nm} {H : Hp AV} {w : World} (hO : Own N ρ H w) (hC : ClHp N H) {n : Nat} {a a' : AV} (hn : hget H n = some (.abs a)) {ks : List FK} {ag : Bool} {es : List (V1 × V1)} (hm : N.F.mp a' = some (ks, ag, es)) {en en' : Array MapEntry} {c c' : Nat}
 (h1 : w.heap[ρ n]? = some (.map en c)) (hS : ∀ k, ρ.S n k ↔ k = ρ n) (he : en'.toList.map (fun e => (e.key, e.val)) = es.map (fun e => (e.1.den Nm.id, e.2.den Nm.id))) (L : Nat) :
 ∃ ρ', Own N ρ' (lset H n (some (.abs a'))) { w with heap := w.heap.setIfInBounds (ρ n) (.map en' c') } /\ Evo N L ρ H w ρ' (lset H n (some (.abs a'))) { w with heap := w.heap.setIfInBounds (ρ n) (.map en' c') } := by
 have hlt : ρ n < w.heap.size := by
  rcases Nat.lt_or_ge (ρ n) w.heap.size with h | h
  ·exact h
  ·rw [Array.getElem?_eq_none h] at h1; cases h1
 have := own_obj (w' := { w with heap := w.heap.setIfInBounds (ρ n) (.map en' c') }) hO hC hn (a' := a') (S' := ρ.S n)
  (((N.F.mp_q a' _ _ _ hm).2 _ _ _).2 ⟨hS, en', c', Array.getElem?_setIfInBounds_self_of_lt hlt, he⟩)
  ⟨fun k hk hs => by
    have hne : ρ n ≠ k := fun e => hs ((hS k).2 e.symm)
    show (w.heap.setIfInBounds (ρ n) _)[k]? = _
    rw [Array.getElem?_setIfInBounds_ne hne], fun k hk => .inr hk, rfl, rfl, rfl, by show _ <= (w.heap.setIfInBounds _ _).size; simp⟩ L
 exact ⟨_, this.1, this.2.1⟩
theorem cl_lset {H : Hp AV} (hC : ClHp N H) (n : Nat) (a : AV) : ClHp N (lset H n (some (.abs a))) := by
 refine ⟨fun m x hx => ?_, trivial⟩
 by_cases e : m = n
 ·subst e
  have hlt := hget_lt hx
  rw [length_lset] at hlt
  rw [hget_lset_self _ hlt] at hx
  cases hx
  intro c hc
  cases hc
 ·rw [hget_lset_ne _ (Ne.symm e)] at hx
  intro c hc k hk
  obtain ⟨y, hy⟩ := hC.1 m x hx c hc k hk
  by_cases e' : k = n
  ·subst e'
   exact ⟨_, hget_lset_self _ (hget_lt hy)⟩
  ·exact ⟨y, by rw [hget_lset_ne _ (Ne.symm e')]; exact hy⟩
theorem putM_ok (hT : TblOk P N) {t : TypeId} {m : Cell} {key val : V1} {H H' : Hp AV} {v : SV} (hC : ClHp N H) (h : (putM N.F N.tt t m key val H).val = some (v, H')) : ClV H' v /\ ClHp N H' /\ ∀ (ρ : Nm) (w : World), Own N ρ H w ->
 ∃ w', (Instr.mapUpdate t (m.den ρ) (key.den ρ) (val.den ρ)).run P w = .ok () w' /\ ∃ ρ', v.den ρ' = undef /\ Own N ρ' H' w' /\ Evo N H.length ρ H w ρ' H' w' := by
 unfold putM at h
 split at h
 ·rename_i n a et ho
  obtain ⟨kt, ks, ag, es, hu, hf, ha, rfl, hn, hm, hk⟩ := opM_spec hT ho
  split at h
  ·rename_i a' hp
   simp only [T.val, Option.some.injEq, Prod.mk.injEq] at h
   obtain ⟨rfl, rfl⟩ := h
   obtain ⟨k1, k2, ks', ag', es', es2, hm', hma, hes2⟩ := N.F.mput_ok a key val a' hp
   rw [hm] at hm'
   simp only [Option.some.injEq, Prod.mk.injEq] at hm'
   obtain ⟨rfl, rfl, rfl⟩ := hm'
   refine ⟨fun x hx => (by cases hx), cl_lset hC n a', fun ρ w hO => ?_⟩
   obtain ⟨en, clock, q1, q2, q3, q4, q5⟩ := at_run hO hn hm hf ha hk
   cases hi : findIx key 0 es with
   | none =>
     rw [hi] at q5
     obtain ⟨_, h2, _⟩ := findIx_none (v := val) (z := val) hi
     rw [h2] at hes2
     have hen : (en.push { key := key.den ρ, val := val.den ρ, born := clock }).toList.map (fun e => (e.key, e.val)) = es2.map (fun e => (e.1.den Nm.id, e.2.den Nm.id)) := by
      rw [hes2]
      simp only [Array.toList_push, List.map_append, q3, List.map_cons, List.map_nil, names_v1 k1 ρ Nm.id, names_v1 k2 ρ Nm.id]
     obtain ⟨ρ', o1, o2⟩ := map_set hO hC hn hma q1 q2 hen H.length (c' := clock + 1)
     refine ⟨_, ?_, ρ', rfl, o1, o2⟩
     simp only [Instr.mapUpdate, Sem.run_bind, under_run hu, Result.andThen_ok, Cell.den, Option.map_some, Go.MapKept.run_getObj_map q1, q4, q5, Go.MapKept.run_setObj_map _ q1]
   | some p =>
     obtain ⟨j, u⟩ := p
     rw [hi] at q5
     obtain ⟨e, _, g2, g3, _, _, g6, _⟩ := findIx_some (v := val) (z := val) hi
     simp only [Nat.sub_zero] at g2 g6
     rw [g6] at hes2
     have hke : keyOk ks ag e.1 = true := ((N.F.mp_q a _ _ _ hm).1 e (List.mem_of_getElem? g2)).1
     have hkd : ∀ ρ : Nm, key.den ρ = e.1.den ρ := keyEq_den hk hke g3
     have hj : (en.toList.map (fun e => (e.key, e.val)))[j]? = some (e.1.den Nm.id, e.2.den Nm.id) := by rw [q3, List.getElem?_map, g2]; rfl
     obtain ⟨x, hx, hxe⟩ : ∃ x, en[j]? = some x /\ x.key = key.den ρ := by
      rw [List.getElem?_map] at hj
      cases hx : en.toList[j]? with
      | none => rw [hx] at hj; simp at hj
      | some x =>
        rw [hx] at hj
        simp only [Option.map_some, Option.some.injEq, Prod.mk.injEq] at hj
        refine ⟨x, by simpa using hx, ?_⟩
        rw [hj.1, hkd ρ]
        exact keyOk_den hke _ _
     have hen : (en.modify j fun e => { e with key := key.den ρ, val := val.den ρ }).toList.map (fun e => (e.key, e.val)) = es2.map (fun e => (e.1.den Nm.id, e.2.den Nm.id)) := by
      rw [hes2, Array.toList_modify]
      refine modify_map _ _ _ q3 fun x y hx hy => ?_
      rw [g2] at hy
      cases hy
      simp only [Prod.mk.injEq]
      exact ⟨by rw [hkd ρ]; exact keyOk_den hke _ _, names_v1 k2 _ _⟩
     obtain ⟨ρ', o1, o2⟩ := map_set hO hC hn hma q1 q2 hen H.length (c' := clock)
     refine ⟨_, ?_, ρ', rfl, o1, o2⟩
     simp only [Instr.mapUpdate, Sem.run_bind, under_run hu, Result.andThen_ok, Cell.den, Option.map_some, Go.MapKept.run_getObj_map q1, q4, q5, hx, Option.getD_some, hxe, stays_run hk ρ, Go.MapKept.run_setObj_map _ q1]
  ·simp [T.val] at h
 ·simp [T.val] at h
theorem erase_map {α β : Type} (f : α -> β) : ∀ (l : List α) (j : Nat), (l.map f).eraseIdx j = (l.eraseIdx j).map f
 | [], _ => by simp
 | _ :: _, 0 => by simp
 | a :: r, j + 1 => by simp [erase_map f r j]
theorem delM_ok (hT : TblOk P N) {t t2 ty : TypeId} {m : Cell} {key : V1} {H H' : Hp AV} {v : SV} (hC : ClHp N H) (h : (delM N.F N.tt t m key H).val = some (v, H')) : ClV H' v /\ ClHp N H' /\ ∀ (ρ : Nm) (w : World), Own N ρ H w ->
 ∃ w', (Builtin.delete_ #[t, t2] ty #[m.den ρ, key.den ρ]).run P w = .ok undef w' /\ ∃ ρ', v.den ρ' = undef /\ Own N ρ' H' w' /\ Evo N H.length ρ H w ρ' H' w' := by
 unfold delM at h
 split at h
 ·rename_i n a et ho
  obtain ⟨kt, ks, ag, es, hu, hf, ha, rfl, hn, hm, hk⟩ := opM_spec hT ho
  split at h
  ·rename_i a' hp
   simp only [T.val, Option.some.injEq, Prod.mk.injEq] at h
   obtain ⟨rfl, rfl⟩ := h
   obtain ⟨ks', ag', es', hm', hma⟩ := N.F.mdel_ok a key a' hp
   rw [hm] at hm'
   simp only [Option.some.injEq, Prod.mk.injEq] at hm'
   obtain ⟨rfl, rfl, rfl⟩ := hm'
   refine ⟨fun x hx => (by cases hx), cl_lset hC n a', fun ρ w hO => ?_⟩
   obtain ⟨en, clock, q1, q2, q3, q4, q5⟩ := at_run hO hn hm hf ha hk
   cases hi : findIx key 0 es with
   | none =>
     rw [hi] at q5
     obtain ⟨_, _, h2⟩ := findIx_none (v := key) (z := key) hi
     rw [h2] at hma
     obtain ⟨ρ', o1, o2⟩ := map_set hO hC hn hma q1 q2 q3 H.length (c' := clock)
     refine ⟨_, ?_, ρ', rfl, o1, o2⟩
     simp [Builtin.delete_, under_run hu, Cell.den, Go.MapKept.run_getObj_map q1, q4, q5, Go.MapKept.run_setObj_map _ q1, undef]
   | some p =>
     obtain ⟨j, u⟩ := p
     rw [hi] at q5
     obtain ⟨e, _, g2, g3, _, _, _, g6⟩ := findIx_some (v := key) (z := key) hi
     simp only [Nat.sub_zero] at g2 g6
     rw [g6] at hma
     have hen : (en.eraseIdxIfInBounds j).toList.map (fun e => (e.key, e.val)) = (es.eraseIdx j).map (fun e => (e.1.den Nm.id, e.2.den Nm.id)) := by
      rw [Array.toList_eraseIdxIfInBounds, <- erase_map, q3, erase_map]
     obtain ⟨ρ', o1, o2⟩ := map_set hO hC hn hma q1 q2 hen H.length (c' := clock)
     refine ⟨_, ?_, ρ', rfl, o1, o2⟩
     simp [Builtin.delete_, under_run hu, Cell.den, Go.MapKept.run_getObj_map q1, q4, q5, Go.MapKept.run_setObj_map _ q1, undef]
  ·simp [T.val] at h
 ·simp [T.val] at h
theorem lenM_ok (hT : TblOk P N) {t ty : TypeId} {m : Cell} {H H' : Hp AV} {v : SV} (h : (lenM N.F N.tt t m H).val = some (v, H')) : H' = H /\ ClV H v /\ ∀ (ρ : Nm) (w : World), Own N ρ H w ->
 (Builtin.len_ #[t] ty #[m.den ρ]).run P w = .ok (v.den ρ) w := by
 unfold lenM at h
 split at h
 ·rename_i hq n a hmT habs
  obtain ⟨kt, et, ks, ag⟩ := hq
  obtain ⟨hu, _, _⟩ := mapT_spec hT hmT
  obtain ⟨rfl, hn⟩ := absM_spec habs
  split at h
  ·rename_i k kn hl
   simp only [T.val, Option.some.injEq, Prod.mk.injEq] at h
   obtain ⟨rfl, rfl⟩ := h
   obtain ⟨ks', ag', es, hm, rfl⟩ := N.F.mlen_ok a k kn hl
   refine ⟨rfl, mkI_cl _ _ _, fun ρ w hO => ?_⟩
   obtain ⟨h1, en, clock, h2, h3⟩ := ((N.F.mp_q a _ _ _ hm).2 _ _ _).1 (hO.q _ _ hn)
   have hlen : en.size = es.length := by
    have := congrArg List.length h3
    simpa using this
   simp [Builtin.len_, under_run hu, Cell.den, Go.MapKept.run_getObj_map h2, SV.den, mkI_den, goInt, hlen]
  ·simp [T.val] at h
 ·simp [T.val] at h
theorem exec_builtin {ev : Operand -> Value} {o : Oper} {c : Call} {w w' : World} {v : Value} {b : Builtin} (ho : o.op = .call c) (hb : c.callee = .builtin b) {ts : List TypeId} (ht : c.argTypes.toList = ts) {vs : List Value} (hv : (Op.call c).operands.toList.map ev = vs)
 (hr : ∀ cs, (builtin b ts.toArray o.type cs vs.toArray).run P w = .ok (.value v) w') : (execOp ev o).run P w = .ok (.value v) w' := by
 obtain ⟨dst, op, ty, pos, after, guard⟩ := o
 simp only at ho hr
 subst ho
 obtain ⟨cal, args, tys⟩ := c
 simp only at hb ht
 subst hb
 have ht : tys = ts.toArray := by rw [<- ht, Array.toArray_toList]
 subst ht
 have ha : args.map ev = vs.toArray := by
  have h : args.toList.map ev = vs := by simpa [Op.operands, Call.operands] using hv
  rw [<- Array.toArray_toList (xs := args), List.map_toArray, h]
 simp [execOp, resolve, invoke, ha, hr]
theorem strM_ok (hT : TblOk P N) {sl : Tr SI} (hsl : SlOk P sl) {src dst : TypeId} {x : Cell} {H H' : Hp AV} {v : SV} (h : (strM N.F N.tt sl src dst x H).val = some (v, H')) : H' = H /\ ClV H v /\ ∀ (ρ : Nm) (w : World), Own N ρ H w ->
 (convert src dst (x.den ρ)).run P w = .ok (v.den ρ) w := by
 unfold strM at h
 split at h
 ·rename_i n len _ si _ _ _ hs hd
  split at h
  ·rename_i _ _ _ _ a he ha
   split at h
   ·rename_i xs hx
    obtain ⟨hl, h⟩ := need_val h
    simp only [T.val, Option.some.injEq, Prod.mk.injEq] at h
    obtain ⟨rfl, rfl⟩ := h
    have hl := (beq_iff _ _).1 hl
    obtain ⟨hm, hn⟩ := absM_spec ha
    simp only [Cell.mp.injEq, Option.some.injEq] at hm
    subst hm
    obtain ⟨ty, harr⟩ := N.F.txt_ok a xs hx
    obtain ⟨hone, hq⟩ := N.F.arr_q a _ _ _ harr
    obtain ⟨hu, _⟩ := mkSI_spec (hsl src si hs)
    have hue : P.underlying si.e = some (.int .u8) := kd_int (tbl_kd hT he)
    have hud : P.underlying dst = some .string := kd_str (tbl_kd hT hd)
    refine ⟨rfl, fun c hc m hm => ?_, fun ρ w hO => ?_⟩
    ·simp [V1.cells] at hc
     subst hc
     cases hm
    ·show (convert src dst (vsDen (ρ.L n) 0 len 1)).run P w = _
     have hv := (hq _ _ _).1 (hO.q n _ hn)
     rw [vsDen_eq]
     split
     ·rename_i h0
      have : xs = [] := List.eq_nil_of_length_eq_zero (by omega)
      subst this
      exact run_convert_bytes_nil w src si.e hu hue 0 0 dst hud
     ·refine run_convert_bytes_arg w src si.e hu hue _ _ len _ xs hl (fun i hi => ?_) dst hud
      have := vecQ_at hv i (.int .u8 (xs.getD i 0)) (by simp [List.getD, List.getElem?_eq_getElem (show i < xs.length by omega)])
      have ea : (⟨(ρ.L n).b, (ρ.L n).o, none⟩ : Addr).add i = ⟨(ρ.L n).b, (ρ.L n).o + i, none⟩ := by unfold Addr.add; split <;> simp_all
      rw [ea] at this
      simpa using this
   ·simp [T.val] at h
  ·simp [T.val] at h
 ·simp [T.val] at h
theorem hvM_ok {sl : Tr SI} {zt : TypeId -> Option V1} (hT : TblOk P N) (hsl : SlOk P sl) (hz : ZtOk P zt) (hhv : N.hv = hvM N.F N.tt zt sl N.G) : HvOk P N := by
 intro o args H v H' h hargs hC
 rw [hhv] at h
 have old : (hvG N.F sl N.G o args H).val = some (v, H') -> ClV H' v /\ ClHp N H' /\ ∀ (ρ : Nm) (w : World), Own N ρ H w ->
  Does P (.op o) (args.map (SV.den ρ)) w fun e w' => ∃ ρ', e = v.den ρ' /\ Own N ρ' H' w' /\ Evo N H.length ρ H w ρ' H' w' := by
  intro h
  obtain ⟨a1, a2, a3⟩ := hvG_ok (P := P) (N := { N with hv := hvG N.F sl N.G }) hsl rfl o args H v H' h hargs ⟨fun n x hh => hC.1 n x hh, trivial⟩
  refine ⟨a1, ⟨fun n x hh => a2.1 n x hh, trivial⟩, fun ρ w hO => (a3 ρ w (own_env (N := N) (N' := { N with hv := hvG N.F sl N.G }) rfl rfl hO)).mono ?_⟩
  rintro e w' ⟨ρ', h1, h2, h3⟩
  exact ⟨ρ', h1, own_env (N := { N with hv := hvG N.F sl N.G }) (N' := N) rfl rfl h2, evo_env N h3⟩
 unfold hvM at h
 split at h
 ·rename_i t r
  split at h
  ·obtain ⟨c1, c2, c3⟩ := mkM_ok (P := P) hC h
   refine ⟨c1, c2, fun ρ w hO => ?_⟩
   intro ev o ho hv
   obtain ⟨r, w', g1, ρ', g2, g3, g4⟩ := c3 ρ w hO
   refine ⟨r, w', .inl ?_, ρ', g2, g3, g4⟩
   obtain ⟨dst, op, ty, pos, after, guard⟩ := o
   simp only at ho
   subst ho
   simp only [execOp, Option.map_none, Sem.run_bind, g1, Result.andThen_ok, Sem.run_pure]
  ·simp [T.val] at h
 ·rename_i t x ix ok
  split at h
  ·rename_i m key
   obtain ⟨rfl, c2, c3⟩ := lookM_ok hT hz h
   refine ⟨c2, hC, fun ρ w hO => ?_⟩
   intro ev o ho hv
   have g1 := c3 ρ w hO
   simp [Op.operands, SV.den] at hv
   obtain ⟨v1, v2⟩ := hv
   refine ⟨v.den ρ, w, .inl ?_, ρ, rfl, hO, Evo.refl _ _ _ _⟩
   obtain ⟨dst, op, ty, pos, after, guard⟩ := o
   simp only at ho
   subst ho
   have v1 : ev x = m.den ρ := v1
   simp only [execOp, v1, v2, Sem.run_bind, g1, Result.andThen_ok, Sem.run_pure]
  ·simp [T.val] at h
 ·rename_i t x ix val
  split at h
  ·rename_i m key vl
   obtain ⟨c1, c2, c3⟩ := putM_ok hT hC h
   refine ⟨c1, c2, fun ρ w hO => ?_⟩
   intro ev o ho hv
   obtain ⟨w', g1, ρ', g2, g3, g4⟩ := c3 ρ w hO
   simp [Op.operands, SV.den] at hv
   obtain ⟨v1, v2, v3⟩ := hv
   refine ⟨undef, w', .inr ⟨?_, rfl⟩, ρ', g2.symm, g3, g4⟩
   obtain ⟨dst, op, ty, pos, after, guard⟩ := o
   simp only at ho
   subst ho
   have v1 : ev x = m.den ρ := v1
   simp only [execOp, v1, v2, v3, Sem.run_bind, g1, Result.andThen_ok, Sem.run_pure]
  ·simp [T.val] at h
 ·rename_i c
  split at h
  ·rename_i hcal
   split at h
   ·rename_i t t2 m key hty
    have cc := fun ty => delM_ok (t2 := t2) (ty := ty) hT hC h
    refine ⟨(cc 0).1, (cc 0).2.1, fun ρ w hO => ?_⟩
    intro ev o ho hv
    obtain ⟨w', g1, ρ', g2, g3, g4⟩ := (cc o.type).2.2 ρ w hO
    exact ⟨undef, w', .inl (exec_builtin ho hcal hty hv fun _ => by
     have g1 : (Builtin.delete_ #[t, t2] o.type #[SV.den ρ (SV.v (V1.c m)), SV.den ρ (SV.v key)]).run P w = .ok undef w' := g1
     simp [builtin, g1]), ρ', g2.symm, g3, g4⟩
   ·simp [T.val] at h
  ·rename_i hcal
   split at h
   ·rename_i t m hty
    have cc := fun ty => lenM_ok (ty := ty) hT h
    obtain ⟨rfl, c2, _⟩ := cc 0
    refine ⟨c2, hC, fun ρ w hO => ?_⟩
    intro ev o ho hv
    exact ⟨v.den ρ, w, .inl (exec_builtin ho hcal hty hv fun _ => by
     have g1 : (Builtin.len_ #[t] o.type #[SV.den ρ (SV.v (V1.c m))]).run P w = .ok (v.den ρ) w := (cc o.type).2.2 ρ w hO
     simp [builtin, g1]), ρ, rfl, hO, Evo.refl _ _ _ _⟩
   ·simp [T.val] at h
  ·exact old h
 ·rename_i src dst x
  split at h
  ·rename_i c
   obtain ⟨rfl, c2, c3⟩ := strM_ok hT hsl h
   refine ⟨c2, hC, fun ρ w hO => ?_⟩
   intro ev o ho hv
   have g1 := c3 ρ w hO
   simp [Op.operands, SV.den] at hv
   refine ⟨v.den ρ, w, .inl ?_, ρ, rfl, hO, Evo.refl _ _ _ _⟩
   obtain ⟨dt, op, ty, pos, after, guard⟩ := o
   simp only at ho
   subst ho
   have hv : ev x = c.den ρ := hv
   simp only [execOp, hv, Sem.run_bind, g1, Result.andThen_ok, Sem.run_pure]
  ·simp [T.val] at h
 ·exact old h
end Go.Sx

namespace Go.Sx
variable {AV : Type}
end Go.Sx

namespace Go.Proofs.YtpapbhbnaalhcaaDoor
open Go.RowKit Go.Extern.Stop Go.Stop Go.Extern
set_option maxRecDepth 100000
theorem Tryd.isTypeOf (v : Value) (w : World) : (Extern.ReflectliteType.typeOf #[.iface 189 v]).run Tryd.prog w = .ok (.iface 111 (.agg #[.pointer (some ⟨7, 189, none⟩)])) w := by kernel_rfl
theorem Tryd.isComparable (w : World) : ((Extern.ReflectliteType.method fun t => do Go.Extern.Rtype.noPackHeld "Comparable" t; (fun a => Value.bool a.comparable) <$> typeInfo t) #[.agg #[.pointer (some ⟨7, 189, none⟩)]]).run Tryd.prog w = .ok (.bool true) w := by kernel_rfl
theorem Tryd.isMethodComparable (v : Value) (w : World) : (Go.method 340 111 v "Comparable").run Tryd.prog w = .ok (93, v) w := by kernel_rfl
theorem Tryd.isComp : (Tryd.prog.info? 189).map (·.comparable) = some true := by kernel_rfl
theorem Tryd.isSize : (Tryd.prog.info? 226).map (·.size) = some 1 := by kernel_rfl
theorem Tryd.noIsE (v : Value) (xT : TypeId) (w : World) : (Instr.typeAssert (.iface 189 v) xT 113 true).run Tryd.prog w = .ok (.tuple #[.nilIface, .bool false]) w := run_typeAssert_lacksB Tryd.underlying113 (by kernel_rfl) (by kernel_rfl) v xT w
theorem Tryd.noUnwrapE (v : Value) (xT : TypeId) (w : World) : (Instr.typeAssert (.iface 189 v) xT 116 true).run Tryd.prog w = .ok (.tuple #[.nilIface, .bool false]) w := run_typeAssert_lacksB Tryd.underlying116 (by kernel_rfl) (by kernel_rfl) v xT w
theorem Tryd.noUnwrapsE (v : Value) (xT : TypeId) (w : World) : (Instr.typeAssert (.iface 189 v) xT 118 true).run Tryd.prog w = .ok (.tuple #[.nilIface, .bool false]) w := run_typeAssert_lacksB Tryd.underlying118 (by kernel_rfl) (by kernel_rfl) v xT w
theorem Tryd.noIsW (v : Value) (xT : TypeId) (w : World) : (Instr.typeAssert (.iface 162 v) xT 113 true).run Tryd.prog w = .ok (.tuple #[.nilIface, .bool false]) w := run_typeAssert_lacksB Tryd.underlying113 (by kernel_rfl) (by kernel_rfl) v xT w
theorem Tryd.hasUnwrapW (v : Value) (xT : TypeId) (w : World) : (Instr.typeAssert (.iface 162 v) xT 116 true).run Tryd.prog w = .ok (.tuple #[.iface 162 v, .bool true]) w := run_typeAssert_hasB Tryd.underlying116 (by kernel_rfl) v xT w
theorem Tryd.methodUnwrap (v : Value) (w : World) : (Go.method 340 162 v "Unwrap").run Tryd.prog w = .ok (105, v) w := by kernel_rfl
theorem is_same (a : Addr) (w : World) :
 Calls Tryd.prog 12 #[.iface 189 (.pointer (some a)), .iface 189 (.pointer (some a))] w fun e w' => e = .returned (.bool true) /\ w' = w := by
 obtain ⟨i, hi, hcmp⟩ := Option.map_eq_some_iff.1 Tryd.isComp
 obtain ⟨j, hj, hjs⟩ := Option.map_eq_some_iff.1 Tryd.isSize
 have h8 := @run_callFunc_extern Tryd.prog 25 _ Extern.ReflectliteType.typeOf Tryd.func25 (by kernel_rfl) (by kernel_rfl) (by kernel_rfl) (by kernel_rfl)
 have h32 := @run_callFunc_extern Tryd.prog 93 _ (Extern.ReflectliteType.method fun t => do Go.Extern.Rtype.noPackHeld "Comparable" t; pure (.bool (<- typeInfo t).comparable)) Tryd.func93 (by kernel_rfl) (by kernel_rfl) (by kernel_rfl) (by kernel_rfl)
 have tT := Tryd.isTypeOf
 have cT := Tryd.isComparable
 have mR := Tryd.isMethodComparable
 have heq := run_eql_iface_ptr_same (P := Tryd.prog) w a Tryd.underlying28 Tryd.underlying189 hi hcmp hj
 go_enter Tryd.func12, Tryd.ntmps12
 go_wp2
 refine wp_loop_rounds 1 ?_
 rw [rounds_succ]
 go_wp2
 go_ret
 exact ⟨rfl, rfl⟩
theorem is_wrap_same (pb po : Nat) (b : Addr) (w : World) (h1 : w.cell? ⟨pb, po + 1, none⟩ = some (.iface 189 (.pointer (some b)))) :
 Calls Tryd.prog 12 #[.iface 162 (.pointer (some ⟨pb, po, none⟩)), .iface 189 (.pointer (some b))] w fun e w' => e = .returned (.bool true) /\ w' = w := by
 obtain ⟨i, hi, hcmp⟩ := Option.map_eq_some_iff.1 Tryd.isComp
 obtain ⟨j, hj, hjs⟩ := Option.map_eq_some_iff.1 Tryd.isSize
 have h8 := @run_callFunc_extern Tryd.prog 25 _ Extern.ReflectliteType.typeOf Tryd.func25 (by kernel_rfl) (by kernel_rfl) (by kernel_rfl) (by kernel_rfl)
 have h32 := @run_callFunc_extern Tryd.prog 93 _ (Extern.ReflectliteType.method fun t => do Go.Extern.Rtype.noPackHeld "Comparable" t; pure (.bool (<- typeInfo t).comparable)) Tryd.func93 (by kernel_rfl) (by kernel_rfl) (by kernel_rfl) (by kernel_rfl)
 have tT := Tryd.isTypeOf
 have cT := Tryd.isComparable
 have mR := Tryd.isMethodComparable
 have nE := Tryd.noIsE
 have uE := Tryd.noUnwrapE
 have vE := Tryd.noUnwrapsE
 have nW := Tryd.noIsW
 have uW := Tryd.hasUnwrapW
 have mU := Tryd.methodUnwrap
 have heq := run_eql_iface_ptr_same (P := Tryd.prog) w b Tryd.underlying28 Tryd.underlying189 hi hcmp hj
 have hty := run_eql_iface_types (P := Tryd.prog) 162 189 (.pointer (some ⟨pb, po, none⟩)) (.pointer (some b)) Tryd.underlying28 (by decide) w
 go_enter Tryd.func12, Tryd.ntmps12
 go_wp2
 refine wp_loop_rounds 2 ?_
 rw [rounds_succ]
 go_wp2
 rw [rounds_succ]
 go_wp2
 go_ret
 exact ⟨rfl, rfl⟩
end Go.Proofs.YtpapbhbnaalhcaaDoor

namespace Go.Proofs.YtpapbhbnaalhcaaDoor
open Go Go.Sx Go.Proofs
variable {AV : Type} {N : Env AV}
def sumIs : List SV -> Hp AV -> T (SV × Hp AV)
 | [.v (.c (.ifc te (.op i a))), .v (.c (.ifc tt (.op j b)))], H => match Nat.beq te 189, Nat.beq tt 189, Nat.beq i j with
   | true, true, true => .need (decide (a = b)) (.leaf (.v (.c (.bl true)), H))
   | _, _, _ => .fail "Is"
 | [.v (.c (.ifc tw (.ptr n 0))), .v (.c (.ifc tt (.op j b)))], H => match Nat.beq tw 162, Nat.beq tt 189, hget H n with
   | true, true, some (.cells [_, .ifc te (.op i a)] _) => match Nat.beq te 189, Nat.beq i j with
     | true, true => .need (decide (a = b)) (.leaf (.v (.c (.bl true)), H))
     | _, _ => .fail "Is"
   | _, _, _ => .fail "Is"
 | _, _ => .fail "Is"
theorem same_ok {f : FuncId} {args : List SV} {H : Hp AV} {v : SV} (hC : ClHp N H) (hv : Plain v)
 (hc : ∀ (ρ : Nm) (w : World), Own N ρ H w -> Calls Tryd.prog f (args.map (SV.den ρ)).toArray w fun e w' => e = .returned (v.den ρ) /\ w' = w) :
 ClV H v /\ ClHp N H /\ ∀ (ρ : Nm) (w : World), Own N ρ H w ->
  Calls Tryd.prog f (args.map (SV.den ρ)).toArray w fun e w' => ∃ ρ', e = .returned (v.den ρ') /\ Own N ρ' H w' /\ Evo N H.length ρ H w ρ' H w' := by
 refine ⟨hv.cl _, hC, fun ρ w hO => (hc ρ w hO).mono ?_⟩
 rintro e w' ⟨rfl, rfl⟩
 exact ⟨ρ, rfl, hO, Evo.refl _ _ _ _⟩
theorem plT : Plain (.v (.c (.bl true))) := by intro c hc; simp [V1.cells] at hc; subst hc; rfl
theorem is_ok : FnOk Tryd.prog N 12 sumIs := by
 intro args H v H' h hargs hC
 unfold sumIs at h
 split at h
 ·rename_i te _ a tt _ b
  split at h
  ·rename_i h1 h2 _
   have h1 := (beq_iff _ _).1 h1
   have h2 := (beq_iff _ _).1 h2
   subst h1 h2
   obtain ⟨hab, h⟩ := need_val h
   have hab := of_decide_eq_true hab
   subst hab
   simp only [T.val, Option.some.injEq, Prod.mk.injEq] at h
   obtain ⟨rfl, rfl⟩ := h
   exact same_ok hC plT fun ρ w _ => is_same a w
  ·simp [T.val] at h
 ·rename_i tw n tt _ b
  split at h
  ·rename_i p te _ a ty h1 h2 hn
   split at h
   ·rename_i h3 _
    have h1 := (beq_iff _ _).1 h1
    have h2 := (beq_iff _ _).1 h2
    have h3 := (beq_iff _ _).1 h3
    subst h1 h2 h3
    obtain ⟨hab, h⟩ := need_val h
    have hab := of_decide_eq_true hab
    subst hab
    simp only [T.val, Option.some.injEq, Prod.mk.injEq] at h
    obtain ⟨rfl, rfl⟩ := h
    refine same_ok hC plT fun ρ w hO => is_wrap_same (ρ n) 0 a w ?_
    have := cells_at hO hn 1 _ rfl
    exact this
   ·simp [T.val] at h
  ·simp [T.val] at h
 ·simp [T.val] at h
end Go.Proofs.YtpapbhbnaalhcaaDoor
