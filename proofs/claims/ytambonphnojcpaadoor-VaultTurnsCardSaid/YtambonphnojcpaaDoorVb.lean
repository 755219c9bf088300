/- VaultPlaces: the law's run as a plain tree, which is true at every number; the law's contract. -/
import Derived.Test.YtambonphnojcpaaDoorVa
namespace Go.Proofs.YtambonphnojcpaaDoor
open Go Go.Sx Go.Proofs
set_option maxRecDepth 100000
def treeV (n : Int) (ad : Addr) : T SV :=
  T.need true
    (T.need true
      (T.need (decide (ad = ad))
        (T.need
          (match
            match decide (n < 0) == false with
            | true =>
              match decide (n > 511) == false with
              | true => 2 != 0
              | false => true
            | false => true with
          | true =>
            match
              match decide (n < 0) == false with
              | true =>
                match decide (n > 511) == false with
                | true => n.tmod 2 == 0
                | false => true
              | false => true with
            | true => true
            | false =>
              match 2 != 0 with
              | true => decide (0 ≤ IntKind.i64.wrap (n.tdiv 2) ∧ IntKind.i64.wrap (n.tdiv 2) < 256)
              | false => false
          | false => false)
          (T.need
            (match
              match decide (n < 1) == false with
              | true =>
                match decide (n > 511) == false with
                | true => 2 != 0
                | false => true
              | false => true with
            | true =>
              match
                match decide (n < 1) == false with
                | true =>
                  match decide (n > 511) == false with
                  | true => n.tmod 2 == 0
                  | false => true
                | false => true with
              | true => true
              | false =>
                match 2 != 0 with
                | true => decide (0 ≤ IntKind.i64.wrap (n.tdiv 2) ∧ IntKind.i64.wrap (n.tdiv 2) < 256)
                | false => false
            | false => false)
            (T.need
              (match
                match
                  match decide (n < 0) == false with
                  | true => decide (n > 255)
                  | false => true with
                | true => true
                | false => decide (0 ≤ n ∧ n < 256) with
              | true =>
                match
                  match
                    match decide (n < 0) == false with
                    | true => decide (n > 255)
                    | false => true with
                  | true => true
                  | false => decide (0 ≤ n ∧ n < 256) with
                | true =>
                  match
                    ((match
                          match decide (n < 0) == false with
                          | true => decide (n > 255)
                          | false => true with
                        | true => -1
                        | false => IntKind.i64.wrap (IntKind.i64.wrap (2 * rev n) + 1)) ==
                        match
                          match decide (n < 0) == false with
                          | true => decide (n > 255)
                          | false => true with
                        | true => -1
                        | false => IntKind.i64.wrap (IntKind.i64.wrap (2 * rev n) + 1)) ==
                      true with
                  | true =>
                    match
                      match
                        match decide (n < 0) == false with
                        | true => decide (n ≥ 8)
                        | false => true with
                      | true => true
                      | false => decide (0 ≤ n ∧ n < 256) with
                    | true =>
                      match
                        match decide (n < 0) == false with
                        | true => decide (n > 7)
                        | false => true with
                      | true => true
                      | false => decide (0 ≤ n ∧ n < 256)
                    | false => false
                  | false => true
                | false => false
              | false => false)
              (T.leaf
                (SV.v
                  (V1.c
                    (Cell.bt
                      (match
                        ((match
                              match decide (n < 0) == false with
                              | true => decide (n > 255)
                              | false => true with
                            | true => -1
                            | false => IntKind.i64.wrap (IntKind.i64.wrap (2 * rev n) + 1)) ==
                            match
                              match decide (n < 0) == false with
                              | true => decide (n > 255)
                              | false => true with
                            | true => -1
                            | false => IntKind.i64.wrap (IntKind.i64.wrap (2 * rev n) + 1)) ==
                          true with
                      | true =>
                        match
                          ((match
                                match decide (n < 0) == false with
                                | true => decide (n ≥ 8)
                                | false => true with
                              | true => -1
                              | false => IntKind.i64.wrap (2 * rev n)) ==
                              match
                                match decide (n < 0) == false with
                                | true => decide (n > 7)
                                | false => true with
                              | true => -1
                              | false => IntKind.i64.wrap (2 * rev n)) ==
                            true with
                        | true =>
                          match
                            ((match
                                  match decide (n < 0) == false with
                                  | true =>
                                    match decide (n > 511) == false with
                                    | true => n.tmod 2 == 0
                                    | false => true
                                  | false => true with
                                | true => 0
                                | false => rev (IntKind.i64.wrap (n.tdiv 2))) ==
                                match
                                  match decide (n < 1) == false with
                                  | true =>
                                    match decide (n > 511) == false with
                                    | true => n.tmod 2 == 0
                                    | false => true
                                  | false => true with
                                | true => 0
                                | false => rev (IntKind.i64.wrap (n.tdiv 2))) ==
                              true with
                          | true =>
                            (match
                                match decide (n < 0) == false with
                                | true =>
                                  match decide (n > 511) == false with
                                  | true => n.tmod 2 == 0
                                  | false => true
                                | false => true with
                              | true => false
                              | false => true) ==
                              match
                                match decide (n < 1) == false with
                                | true =>
                                  match decide (n > 511) == false with
                                  | true => n.tmod 2 == 0
                                  | false => true
                                | false => true with
                              | true => false
                              | false => true
                          | false => false
                        | false => false
                      | false => false))))))))))
theorem run_lawV (n : Int) (ad : Addr) : (lawV n ad).map (fun r => r.1) = treeV n ad := by kernel_rfl
theorem leaves_lawV (n : Int) (ad : Addr) : ((lawV n ad).map fun r => hget r.2 0).leaves = List.replicate 1 (some (G0 ad)) := by kernel_rfl
theorem chk_V : checkI (fun n => (treeV n ⟨0, 0, none⟩).boolV) 512 = true := by kernel_rfl
theorem treeV_ad (n : Int) (ad : Addr) : (treeV n ad).boolV = (treeV n ⟨0, 0, none⟩).boolV := by
  unfold treeV
  simp only [T.boolV, decide_true]
theorem treeV_true (n : Int) (ad : Addr) : (treeV n ad).boolV = true := by
  rw [treeV_ad]
  by_cases h0 : n < 0
  · have h1 : n < 1 := by omega
    simp [treeV, T.boolV, svB, boolC, h0, h1]
  · by_cases h1 : n > 511
    · have h2 : ¬ n < 1 := by omega
      have h3 : n > 255 := by omega
      have h4 : n ≥ 8 := by omega
      have h5 : n > 7 := by omega
      simp [treeV, T.boolV, svB, boolC, h0, h1, h2, h3, h4, h5]
    · exact checkI_spec chk_V n (by omega) (by omega)
/-- a function that sees the one variable alone, and leaves it -/
theorem quietG {AV : Type} {N : Env AV} (hN : N.G = 1) {g : List SV → Hp AV → T (SV × Hp AV)} {f : FuncId} (hf : FnOk Tryd.prog N f g) {ad : Addr} {te ty : TypeId} {args : List SV} {w : World}
    (hg : w.heap[0]? = some (.cells #[.iface te (.pointer (some ad))] ty (0, 0)))
    (hargs : ∀ x ∈ args, Plain x) {v : SV} {H' : Hp AV} (hrun : (g args [some (.cells [.ifc te (.op 0 ad)] ty)]).val = some (v, H')) (hv : ∀ ρ : Nm, v.den ρ = .bool true) (h0 : hget H' 0 = some (.cells [.ifc te (.op 0 ad)] ty)) :
    Calls Tryd.prog f (args.map (SV.den Nm.id)).toArray w fun e w' => e = .returned (.bool true) ∧ Quiet w w' := by
  have get : ∀ n c, hget ([some (.cells [.ifc te (.op 0 ad)] ty)] : Hp AV) n = some c → n = 0 ∧ c = .cells [.ifc te (.op 0 ad)] ty := fun n c h => by
    match n, h with
    | 0, h => simp only [hget, Option.some.injEq] at h; exact ⟨rfl, h.symm⟩
    | n + 1, h => simp [hget] at h
  have hO : Own N Nm.id [some (.cells [.ifc te (.op 0 ad)] ty)] w := by
    refine ⟨fun n c h => ?_, fun n m c d hnm h h' k hk hk' => ?_, fun g _ => rfl⟩
    · obtain ⟨rfl, rfl⟩ := get n c h
      exact hg
    · obtain ⟨rfl, rfl⟩ := get n c h
      obtain ⟨rfl, rfl⟩ := get m d h'
      exact hnm rfl
  have hnm : ∀ c ∈ [Cell.ifc te (.op 0 ad)], c.name = none := by intro c hc; simp at hc; subst hc; rfl
  have hcl : ClHp N [some (.cells [.ifc te (.op 0 ad)] ty)] := by
    refine ⟨fun n x h => ?_, trivial⟩
    obtain ⟨rfl, rfl⟩ := get n x h
    exact clL_nil hnm
  obtain ⟨_, _, hc⟩ := hf args _ v H' hrun (fun x hx => (hargs x hx).cl _) hcl
  refine (hc _ w hO).mono ?_
  rintro e w' ⟨ρ', rfl, hO', hE⟩
  refine ⟨by rw [hv ρ'], ⟨fun k hk => ?_, hE.os, hE.tape, hE.output, hE.size⟩⟩
  by_cases e0 : k = 0
  · subst e0
    have := hO'.q 0 _ h0
    have hr0 : ρ' 0 = 0 := hO'.glb 0 (by rw [hN]; decide)
    have this : w'.heap[ρ' 0]? = some (.cells #[.iface te (.pointer (some ad))] ty (0, 0)) := this
    rw [hr0] at this
    rw [this, hg]
  · refine hE.frame k hk fun n c h hf => ?_
    obtain ⟨rfl, rfl⟩ := get n c h
    exact e0 hf
theorem fnV (n : Nat) (f : FuncId) : FnOk Tryd.prog N0 f (lv N0 tabV n (.fn f)) := lv_fn ok0 lps0 hv0 tabV_ok n f
theorem vaultPlaces_calls (n : Int) (ad : Addr) (w : World) (hg : w.heap[0]? = some (.cells #[.iface 117 (.pointer (some ad))] 31 (0, 0))) :
    Calls Tryd.prog 3 #[.int .i64 n] w fun e w' => e = .returned (.bool true) ∧ Quiet w w' := by
  have hb : (lawV n ad).bool = true := by rw [← T.bool_map, run_lawV]; exact treeV_true n ad
  obtain ⟨⟨v, H'⟩, h1, h2⟩ := T.bool_spec hb
  have h3 := T.val_leaf (t := lawV n ad) (f := fun (r : SV × Hp Empty) => hget r.2 0) (b := some (G0 ad)) (n := 1) h1 (leaves_lawV n ad)
  have hpl : ∀ x ∈ [SV.v (.c (I n))], Plain x := fun x hx => by simp at hx; subst hx; exact plI n false
  have e : lawV n ad = lv N0 tabV 16 (.fn 3) [.v (.c (I n))] [some (.cells [.ifc 117 (.op 0 ad)] 31)] := by delta lawV; delta G0; exact Eq.refl _
  rw [e] at h1
  exact quietG (N := N0) rfl (fnV 16 3) (ad := ad) (args := [SV.v (.c (I n))]) hg hpl h1 h2 h3
end Go.Proofs.YtambonphnojcpaaDoor
