/- Rows: a call that leaves all memory as it was meets a law's row; what the row's list of sentinels gives. -/
import Derived.Test.YtmdojlkmgllhnaaGreatDoorSxP
import Derived.WideKeyArgs
import Derived.ChangeSame
import Derived.RowKit
import Derived.RowKit3
import Derived.LaidLaws
import Derived.Deep.DeepHandedRow
import Derived.SevenTiedAt
import Derived.JoinedCond
namespace Go.Sx
open Go.ChangeShapes Go.WideShapes Go.RowKit

theorem Quiet.same {W W' : World} (h : Quiet W W') {p : MemPlace} (hp : p.block < W.heap.size) : W.sameAt W' p := by
  cases p with
  | cell b off =>
    have := h.block b hp
    simp only [World.sameAt, World.cell?, this]
  | map b => exact h.block b hp
theorem Quiet.frozen {W W' : World} (h : Quiet W W') (a : Addr) (ha : a.block < W.heap.size) : W'.frozen? a = W.frozen? a := by
  simp only [World.frozen?, h.block a.block ha]
theorem Quiet.kept {W W' : World} (h : Quiet W W') (may : MemPlace → Prop) : W.keptBut W' may := by
  refine ⟨h.os, h.output, fun i hi => ?_⟩
  rw [h.block i hi]
  cases hx : W.heap[i]? with
  | none => trivial
  | some o => cases o <;> simp

section
variable {H : Type} {enc : TypeId × Value → H} {P : Program}
theorem trodAll_stays (hl : laidOutB P = true) {W W' : World} {sp' : Nat → Bool} : ∀ {ts : List TypeId} {vs : List Value} {ds : List (DataW H)} {ps : List MemPlace}, (∀ t ∈ ts, P.readableRec t = true ∧ t < P.types.size) →
    DataW.TrodAll enc P W 0 (fun _ => true) true ts vs ds ps → (∀ p ∈ ps, W.sameAt W' p) → (∀ p ∈ ps, sp' p.block = true) → DataW.TrodAll enc P W' 0 sp' true ts vs ds ps
  | [], [], [], _, _, h, _, _ => h
  | t :: ts, v :: vs, d :: ds, ps, ht, h, hs, hsp => by
    obtain ⟨p, q, h1, h2, rfl⟩ := h
    have := ht t (List.mem_cons_self ..)
    refine ⟨p, q, WideElems.Trod_stays hl this.1 this.2 h1 (fun x hx => hs x (List.mem_append_left _ hx)) (fun x hx => hsp x (List.mem_append_left _ hx)), ?_, rfl⟩
    exact trodAll_stays hl (fun x hx => ht x (List.mem_cons_of_mem _ hx)) h2 (fun x hx => hs x (List.mem_append_right _ hx)) (fun x hx => hsp x (List.mem_append_right _ hx))
  | [], [], _ :: _, _, _, h, _, _ => by simp [DataW.TrodAll] at h
  | [], _ :: _, _, _, _, h, _, _ => by simp [DataW.TrodAll] at h
  | _ :: _, [], _, _, _, h, _, _ => by simp [DataW.TrodAll] at h
  | _ :: _, _ :: _, [], _, _, h, _, _ => by simp [DataW.TrodAll] at h

/-- a law's row: the call answered true and left all memory as it was -/
theorem post_of_quiet (hl : laidOutB P = true) {f : Func} {s : ChangeSpec} {apart fresh handsOn again : Bool} {W W' : World} {args : Array Value} {ds gs : List (DataW H)} {before : List MemPlace} {tb : TypeId}
    (hvars : s.vars = []) (hpar : ∀ t ∈ f.params.toList, P.readableRec t = true ∧ t < P.types.size) (hres : f.resultTypes = #[tb]) (htb : P.underlying tb = some .bool)
    (hW : DataW.Whole enc P f.params.toList s.vars apart W args.toList ds gs before)
    (hspec : s.fn H ds = { results := [.lit (.bool true)], args := ds }) (hq : Quiet W W') :
    s.post enc P f apart fresh handsOn again W args (.bool true) W' := by
  have hW' := hW
  obtain ⟨p, q, hA, hV, rfl, hfz, hnd⟩ := hW
  rw [hvars] at hV
  obtain ⟨rfl, rfl⟩ := trodVars_none hV
  have hlt := hW'.lt
  simp only [List.append_nil] at hW' hlt hfz
  have hspec' : s.fn H (ds ++ []) = { results := [.lit (.bool true)], args := ds } := by rw [List.append_nil]; exact hspec
  have hok := ok_one (P := P) (W' := W') (f := f) (v := .bool true) hres rfl (okWide_bool_mk htb true)
  have hold : ∀ p' ∈ p, (fun b => decide (b < W.heap.size)) p'.block = true := fun p' hp => by simpa using hlt p' hp
  have hargs : ∀ sp : Nat → Bool, (∀ x ∈ p, sp x.block = true) → DataW.TrodAll enc P W' 0 sp true f.params.toList args.toList (s.fn H (ds ++ [])).args p := by
    intro sp hsp
    rw [hspec']
    exact trodAll_stays hl hpar hA (fun x hx => hq.same (hlt x hx)) hsp
  have hres' : ∀ (b : Nat) (sp : Nat → Bool) (hd : Bool), DataW.TrodAll enc P W' b sp hd f.resultTypes.toList ((Value.bool true).resultList f.resultTypes.size) (s.fn H (ds ++ [])).results [] := by
    intro b sp hd
    rw [hspec', hres]
    exact ⟨[], [], shut_bool htb _, rfl, rfl⟩
  have hvars' : ∀ sp : Nat → Bool, DataW.TrodVars enc P W' sp s.vars (s.fn H (ds ++ [])).vars [] := by
    intro sp
    rw [hspec', hvars]
    exact rfl
  refine ⟨ds, [], p, [], p, [], hW', hres' _ _ _, hargs _ hold, hvars' _, World.keptBut_mono (fun x hx => ⟨hx, Or.inr (by simpa using hx)⟩) (hq.kept _), fun _ => ?_⟩
  obtain ⟨_, _, _, _, _, hz, hn⟩ := hW'
  refine ⟨hok, _, _, ([] ++ p) ++ [], ⟨[] ++ p, [], trodAll_append (hargs _ (fun _ _ => rfl)) (hres' _ _ _), hvars' _, rfl, ?_, ?_⟩, ?_⟩
  · intro b off hp
    simp only [List.nil_append, List.append_nil] at hp
    rw [hq.frozen _ (hlt _ hp)]
    exact hfz b off hp
  · intro ha
    simpa using hnd ha
  · intro x hx _
    simpa using hx
end

/-- the types by which the sentinels of package errors are read -/
structure SentTy (P : Program) (ti tp te ts : TypeId) : Prop where
  hi : ∃ ms, P.underlying ti = some (.interface ms)
  row : ∀ u, P.typeName? 3 u = some "*errors.errorString" → u = tp
  hp : P.underlying tp = some (.pointer te)
  he : ∃ f : Field, P.underlying te = some (.struct #[f]) ∧ f.type = ts ∧ f.offset = 0
  hs : P.underlying ts = some .string
  hc : P.cellsOf te = 1
  hcs : P.cellsOf ts = 1
def sent (text : List UInt8) : DataW Unit := .iface "*errors.errorString" (.ptr (.agg [.lit (.string text)]))
/-- what a row's list of sentinels gives: each variable (by its number) holds a pointer of its own -/
theorem sents_of_laid {P : Program} {ti tp te ts : TypeId} (S : SentTy P ti tp te ts) {W : World} : ∀ {l : List (String × List UInt8)} {gs : List Nat} {ps : List MemPlace},
    l.map (fun x => P.globalNamed x.1) = gs.map some → (∀ g ∈ gs, (P.globals[g]?).map (·.type) = some ti) →
    DataW.LaidVars P W (l.map fun x => (x.1, sent x.2)) ps → ps.Nodup → (∀ b off, MemPlace.cell b off ∈ ps → (∃ c t, W.heap[b]? = some (.cells c t (0, 0))) ∧ ∀ u v, W.cell? ⟨b, off, none⟩ = some (.iface u v) → Value.okWide P W .any 0 u v) →
    ∃ ads : List Addr, ads.length = gs.length ∧ ads.Nodup ∧ (∀ a ∈ ads, MemPlace.cell a.block a.off ∈ ps) ∧ ∀ (i g : Nat) (a : Addr), gs[i]? = some g → ads[i]? = some a → ∃ t, W.heap[g]? = some (.cells #[.iface tp (.pointer (some a))] t (0, 0))
  | [], [], _, _, _, _, _, _ => ⟨[], rfl, List.nodup_nil, (by intro a h; cases h), (by intro i g a h; simp at h)⟩
  | [], _ :: _, _, h, _, _, _, _ => by simp at h
  | _ :: _, [], _, h, _, _, _, _ => by simp at h
  | (n, text) :: l, g :: gs, ps, hn, ht, h, hnd, hr => by
    simp only [List.map_cons, List.cons.injEq] at hn
    obtain ⟨g', t, cs, fuel, p, q, hg, hty, hv, hd, hq, rfl⟩ := h
    obtain rfl := Option.some.inj (hn.1.symm.trans hg)
    obtain rfl := Option.some.inj ((ht g (List.mem_cons_self ..)).symm.trans hty)
    obtain ⟨l0⟩ := cs
    obtain ⟨ms, hi⟩ := S.hi
    obtain ⟨f, he, hft, hfo⟩ := S.he
    have ok0 : ∀ u v, l0 = [.iface u v] → Value.okWide P W .any 0 u v := fun u v e => by
      subst e
      exact (hr g 0 (by simp [MemPlace.row])).2 u v (by simpa using World.var?_cell hg hv 0)
    obtain ⟨a, s, rfl, hc0, hs0, hz0, rfl⟩ := errorString_of_trod hi S.row S.hp he hft hfo S.hs S.hc S.hcs hd ok0
    have hnd' := List.nodup_append.1 hnd
    obtain ⟨ads, h1, h2, h3, h4⟩ := sents_of_laid S hn.2 (fun x hx => ht x (List.mem_cons_of_mem _ hx)) hq hnd'.2.1 (fun b off hb => hr b off (List.mem_append_right _ hb))
    refine ⟨a :: ads, by simp [h1], List.nodup_cons.2 ⟨fun ha => ?_, h2⟩, ?_, ?_⟩
    · exact hnd'.2.2 (MemPlace.cell a.block a.off) (by simp [MemPlace.row]) _ (h3 a ha) rfl
    · intro x hx
      rcases List.mem_cons.1 hx with rfl | hx
      · exact List.mem_append_left _ (List.mem_append_right _ (by simp [MemPlace.row]))
      · exact List.mem_append_right _ (h3 x hx)
    · intro i g' a' hgi hai
      cases i with
      | zero =>
        simp only [List.getElem?_cons_zero, Option.some.injEq] at hgi hai
        subst hgi; subst hai
        obtain ⟨c, t, hb⟩ := (hr g 0 (by simp [MemPlace.row])).1
        refine ⟨t, ?_⟩
        simp only [World.var?, hg, Option.bind_some, hb] at hv
        rw [hb]
        simpa using hv
      | succ i =>
        simp only [List.getElem?_cons_succ] at hgi hai
        exact h4 i g' a' hgi hai
end Go.Sx
