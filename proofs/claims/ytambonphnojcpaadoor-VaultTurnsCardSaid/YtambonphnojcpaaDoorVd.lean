/- VaultTurns: the inner loop as a summary. -/
import Derived.Test.YtambonphnojcpaaDoorVb
import Derived.Test.YtambonphnojcpaaDoorSxX
namespace Go.Proofs.YtambonphnojcpaaDoor
open Go Go.Sx Go.Proofs
set_option maxRecDepth 100000
noncomputable def bodyT : Code := match Tryd.f4.body with | some c => c | none => .skip
noncomputable def LO : Code := match loopsOf bodyT with | (_, c) :: _ => c | _ => .skip
noncomputable def LI : Code := match loopsOf bodyT with | _ :: (_, c) :: _ => c | _ => .skip
theorem loopsT : loopsOf bodyT = [(10, LO), (16, LI)] := by kernel_rfl
def ksT : List Nat := [0, 1, 9, 10, 11, 12, 13]
def famTL (a b n : SV) (size at' next m : Int) : Ev := [(0, a), (1, b), (9, .v (.c (.it .i64 size))), (10, n), (11, .v (.c (.it .i64 at'))), (12, .v (.c (.it .i64 next))), (13, .v (.c (.it .i64 m)))]
def famTE (a b n : SV) (size at' next m : Int) : Ev := only ksT (famTL a b n size at' next m) 117
def famT (x : Chunk Empty) (a b n : SV) (size at' next m : Int) : St Empty := { E := famTE a b n size at' next m, H := [some x] }
def mapT (r : Ex × St Empty) : Ex × St Empty := (r.1, { r.2 with E := only ksT r.2.E 117 })
/-- is there no such bucket? what is asked; the place -/
def noB (m : Int) : Bool := match decide (m < 0) == false with
  | true => decide (m ≥ 8)
  | false => true
def askB (m : Int) : Bool := match noB m with
  | true => true
  | false => decide (0 ≤ m ∧ m < 256)
def bordE (m : Int) : Int := match noB m with
  | true => -1
  | false => IntKind.i64.wrap (2 * rev m)
def loopT (size at' next m : Int) (fam : Int → Int → St Empty) : T (Ex × St Empty) :=
  .ite (decide (m < size))
    (.need (match askB m with
      | true => match decide (bordE m > at') == true with
        | true => askB m
        | false => true
      | false => false)
      (.ite (match decide (bordE m > at') == true with
        | true => decide (bordE m < next)
        | false => false)
        (.need (askB m) (.leaf (.normal, fam (bordE m) (IntKind.i64.wrap (m + 1)))))
        (.leaf (.normal, fam next (IntKind.i64.wrap (m + 1))))))
    (.leaf (.exit 2, fam next m))
theorem runLI (x : Chunk Empty) (a b n : SV) (size at' next m : Int) : (xc N0 (joinCal (lv N0 tabV 6)) (fun _ => none) 117 LI (famT x a b n size at' next m)).map mapT = loopT size at' next m (famT x a b n size at') := by kernel_rfl
/-- the next place behind one, of buckets from m on -/
def nx1 (at' next m : Int) : Int := match decide (bordE m > at') && decide (bordE m < next) with | true => bordE m | false => next
def nx (at' : Int) : Nat → Int → Int → Int
  | 0, next, _ => next
  | k + 1, next, m => nx at' k (nx1 at' next m) (m + 1)
def gT (s : St Empty) : T (Ex × St Empty) :=
  match s.H with
  | [some _] => match Sx.look s.E 9, Sx.look s.E 11, Sx.look s.E 12, Sx.look s.E 13 with
    | .v (.c (.il .i64 size)), .v (.c (.it .i64 at')), .v (.c (.il .i64 next)), .v (.c (.il .i64 m)) => match decide (0 ≤ size ∧ size ≤ 8 ∧ m = 0) with
      | true => .leaf (.exit 2, { s with E := only [0, 1, 9, 10, 11, 12] ((12, .v (.c (.it .i64 (nx at' size.toNat next 0)))) :: s.E) 117 })
      | false => .fail "inner loop"
    | _, _, _, _ => .fail "inner loop"
  | _ => .fail "inner loop"
theorem askB_true {m : Int} (h0 : 0 ≤ m) (h1 : m < 8) : askB m = true := by
  have : noB m = false := by
    simp only [noB, decide_eq_false (show ¬ m < 0 by omega), decide_eq_false (show ¬ m ≥ 8 by omega)]
    rfl
  simp only [askB, this]
  exact decide_eq_true ⟨h0, by omega⟩
theorem wrapS {m : Int} (h0 : 0 ≤ m) (h1 : m < 100) : IntKind.i64.wrap m = m := by
  unfold IntKind.wrap
  simp [IntKind.bits, IntKind.signed]
  omega
theorem says_look {k : Nat} {E E' : Ev} {v : SV} (h : only ksT E 117 = E') (hk : Sx.look E' k = v) (hks : hasN ksT k = true) (hlt : k < 117) : Sx.look E k = v := by
  rw [← h, only_look, if_pos hlt, hks] at hk
  exact hk
theorem gT_ok {N' : Env Empty} (hF : N'.F = F0) (hG : N'.G = 1) : LoopOk Tryd.prog N' 117 LI gT := by
  have hcal : CalOk Tryd.prog N0 (joinCal (lv N0 tabV 6)) := joinCal_ok (lv_ok ok0 lps0 hv0 tabV_ok 6)
  refine loopOk_fam (N := N0) hF hG ok0 hcal (lp := fun _ => none) (fun _ _ _ g hg => by cases hg) fun s s' ex h => ?_
  obtain ⟨E, H⟩ := s
  unfold gT at h
  split at h
  · rename_i x hs
    simp only at hs
    subst hs
    split at h
    · rename_i size at' next m e9 e11 e12 e13
      simp only at e9 e11 e12 e13
      split at h
      · rename_i hb
        obtain ⟨hs0, hs8, rfl⟩ := of_decide_eq_true hb
        have h9 := Option.some.inj h
        have q1 := congrArg Prod.fst h9
        have q2 := congrArg Prod.snd h9
        simp only at q1 q2
        clear h h9
        subst q1
        subst q2
        let a := Sx.look E 0
        let b := Sx.look E 1
        let n := Sx.look E 10
        let fin := nx at' size.toNat next 0
        refine ⟨⟨{ ι := { p : Int × Int // 0 ≤ p.2 ∧ p.2 ≤ size ∧ nx at' (size - p.2).toNat p.1 p.2 = fin }, fam := fun p => famT x a b n size at' p.1.1 p.1.2, ks := ksT, μ := fun p => (size - p.1.2).toNat, i0 := ⟨(next, 0), by simp, by simpa using hs0, by simp [fin]⟩, says := ?_, heap := rfl, step := ?_ }⟩, rfl, ?_⟩
        · refine says_only (nt := 117) (ks := ksT) (E := E) (E' := famTL a b n size at' next 0) fun k hk _ => ?_
          simp only [ksT, List.mem_cons, List.not_mem_nil, or_false] at hk
          rcases hk with rfl | rfl | rfl | rfl | rfl | rfl | rfl
          · exact .inl rfl
          · exact .inl rfl
          · rw [e9]; exact .inr ⟨by simp, plI size false, fun ρ => rfl⟩
          · exact .inl rfl
          · rw [e11]; exact .inl rfl
          · rw [e12]; exact .inr ⟨by simp, plI next false, fun ρ => rfl⟩
          · rw [e13]; exact .inr ⟨by simp, plI 0 false, fun ρ => rfl⟩
        · rintro ⟨⟨nxt, m⟩, h0, h1, h2⟩
          simp only at h0 h1 h2
          have htree := runLI x a b n size at' nxt m
          by_cases hlt : m < size
          · have hm : m < 8 := by omega
            have q0 : decide (m < size) = true := decide_eq_true hlt
            have hw : IntKind.i64.wrap (m + 1) = m + 1 := wrapS (by omega) (by omega)
            have ha := askB_true h0 hm
            have e : (loopT size at' nxt m (famT x a b n size at')).val = some (.normal, famT x a b n size at' (nx1 at' nxt m) (m + 1)) := by
              simp only [loopT, T.val, q0, ha, hw, nx1]
              cases decide (bordE m > at') <;> cases decide (bordE m < nxt) <;> rfl
            rw [← htree, T.val_map] at e
            obtain ⟨⟨ex, s1⟩, h3, h4⟩ := Option.map_eq_some_iff.1 e
            simp only [mapT, Prod.mk.injEq] at h4
            obtain ⟨rfl, h4⟩ := h4
            refine ⟨.normal, s1, h3, ⟨(nx1 at' nxt m, m + 1), by simp only; omega, by simp only; omega, ?_⟩, by simp only; omega, h4⟩
            simp only
            have : (size - m).toNat = (size - (m + 1)).toNat + 1 := by omega
            rw [this] at h2
            exact h2
          · have q0 : decide (m < size) = false := decide_eq_false hlt
            have e : (loopT size at' nxt m (famT x a b n size at')).val = some (.exit 2, famT x a b n size at' nxt m) := by
              simp only [loopT, T.val, q0]
            rw [← htree, T.val_map] at e
            obtain ⟨⟨ex, s1⟩, h3, h4⟩ := Option.map_eq_some_iff.1 e
            simp only [mapT, Prod.mk.injEq] at h4
            obtain ⟨rfl, h4⟩ := h4
            have hfin : fin = nxt := by
              rw [← h2]
              have : (size - m).toNat = 0 := by omega
              rw [this]; rfl
            have hE : only ksT s1.E 117 = famTE a b n size at' nxt m := congrArg St.E h4
            have hH : s1.H = [some x] := congrArg St.H h4
            refine ⟨.exit 2, s1, h3, rfl, says_only (nt := 117) (ks := [0, 1, 9, 10, 11, 12]) (E := s1.E) (E' := (12, SV.v (.c (.it .i64 (nx at' size.toNat next 0)))) :: E) fun k hk hk1 => ?_, hH⟩
            simp only [List.mem_cons, List.not_mem_nil, or_false] at hk
            have l0 : Sx.look s1.E 0 = a := says_look hE rfl rfl (by decide)
            have l1 : Sx.look s1.E 1 = b := says_look hE rfl rfl (by decide)
            have l9 : Sx.look s1.E 9 = .v (.c (.it .i64 size)) := says_look hE rfl rfl (by decide)
            have l10 : Sx.look s1.E 10 = n := says_look hE rfl rfl (by decide)
            have l11 : Sx.look s1.E 11 = .v (.c (.it .i64 at')) := says_look hE rfl rfl (by decide)
            have l12 : Sx.look s1.E 12 = .v (.c (.it .i64 nxt)) := says_look hE rfl rfl (by decide)
            rcases hk with rfl | rfl | rfl | rfl | rfl | rfl
            · rw [l0]; exact .inl rfl
            · rw [l1]; exact .inl rfl
            · rw [l9]; refine .inr ⟨by simp, ?_, fun ρ => ?_⟩
              · show Plain (Sx.look E 9); rw [e9]; exact plI size true
              · show (Sx.look E 9).den ρ = _; rw [e9]; rfl
            · rw [l10]; exact .inl rfl
            · rw [l11]; refine .inl ?_; show Sx.look E 11 = _; rw [e11]
            · rw [l12]; refine .inl ?_
              show SV.v (.c (.it .i64 (nx at' size.toNat next 0))) = _
              rw [show nx at' size.toNat next 0 = nxt from hfin]
        · intro hcl
          refine ⟨fun k => ?_, hcl.H⟩
          simp only [only_look]
          split
          · split
            · by_cases hk : k = 12
              · subst hk; exact (plI (nx at' size.toNat next 0) false).cl _
              · have : Sx.look ((12, SV.v (.c (.it .i64 (nx at' size.toNat next 0)))) :: E) k = Sx.look E k := by
                  simp only [Sx.look, (beq_false_iff 12 k).2 (Ne.symm hk)]
                rw [this]; exact hcl.E k
            · trivial
          · exact undef_cl _
      · simp [T.val] at h
    · simp [T.val] at h
  · simp [T.val] at h
noncomputable def lpT : FuncId → Nat → Option (St Empty → T (Ex × St Empty)) := fun f => match Nat.beq f 4 with
  | true => fun id => match Nat.beq id 16 with
    | true => some gT
    | false => none
  | false => fun _ => none
noncomputable def N1 : Env Empty := { tt := tt, ft := ft, gu := gu, G := 1, F := F0, lp := lpT }
theorem ok1 : TblOk Tryd.prog N1 := tblOk 1 F0 _ _
theorem hv1 : HvOk Tryd.prog N1 := fun o args H v H' h => by simp [N1, T.val] at h
theorem bodyT_eq : Tryd.f4.body = some bodyT := by kernel_rfl
theorem ntT : Tryd.f4.ntmps = 117 := by kernel_rfl
theorem ftT : ft.get 4 = some Tryd.f4 := by kernel_rfl
theorem lps1 : LpsOk Tryd.prog N1 := by
  intro f fn c hf hc id b hb g hg
  have hg : lpT f id = some g := hg
  by_cases e : f = 4
  · subst e
    have hf : ft.get 4 = some fn := hf
    rw [ftT] at hf
    cases hf
    rw [bodyT_eq] at hc
    cases hc
    rw [loopsT] at hb
    rw [ntT]
    simp only [List.mem_cons, List.not_mem_nil, or_false, Prod.mk.injEq] at hb
    rcases hb with ⟨rfl, rfl⟩ | ⟨rfl, rfl⟩
    · have e1 : lpT 4 10 = none := rfl
      rw [e1] at hg
      cases hg
    · have e1 : lpT 4 16 = some gT := rfl
      rw [e1] at hg
      cases hg; exact gT_ok rfl rfl
  · have e1 : lpT f id = none := by
      unfold lpT
      rw [(beq_false_iff f 4).2 e]
    rw [e1] at hg
    cases hg
theorem fnOk_env {AV : Type} {N N' : Env AV} (hF : N'.F = N.F) (hG : N'.G = N.G) {f : FuncId} {g : List SV → Hp AV → T (SV × Hp AV)} (h : FnOk Tryd.prog N f g) : FnOk Tryd.prog N' f g := by
  intro args H v H' hr ha hC
  obtain ⟨h1, h2, h3⟩ := h args H v H' hr ha ⟨hC.1, trivial⟩
  refine ⟨h1, ⟨h2.1, trivial⟩, fun ρ w hO => (h3 ρ w (own_env hF.symm hG.symm hO)).mono ?_⟩
  rintro e w' ⟨ρ', he, ho, hv⟩
  exact ⟨ρ', he, own_env hF hG ho, evo_env N' hv⟩
theorem tabV_ok1 : TabOk Tryd.prog N1 tabV := fun f g h => fnOk_env (N := N0) (N' := N1) rfl rfl (tabV_ok f g h)
theorem fn1 (n : Nat) (f : FuncId) : FnOk Tryd.prog N1 f (lv N1 tabV n (.fn f)) := lv_fn ok1 lps1 hv1 tabV_ok1 n f
noncomputable def lawT (a b : Int) (ad : Addr) := lv N1 tabV 16 (.fn 4) [.v (.c (I a)), .v (.c (I b))] [some (G0 ad)]
end Go.Proofs.YtambonphnojcpaaDoor
