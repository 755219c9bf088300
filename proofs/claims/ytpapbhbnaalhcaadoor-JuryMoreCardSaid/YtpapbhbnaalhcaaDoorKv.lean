import Derived.Test.YtpapbhbnaalhcaaDoorKu
namespace Go.Proofs.YtpapbhbnaalhcaaDoor
open Go Go.Sx Go.Proofs
set_option linter.unusedVariables false
set_option maxRecDepth 100000
theorem op_plain (o : O) : Plain (.v (.agg o.enc)) := fun c hc => by
 have hc : c ∈ o.enc := hc
 simp only [O.enc, List.mem_cons, List.not_mem_nil, or_false] at hc
 rcases hc with rfl | rfl | rfl | rfl <;> rfl
theorem juryMore_calls (s : Int) (lc : Sx.Loc) (l : List Rw) (o0 o1 o2 o3 : Int) (ad : Nat -> Addr) (W : World) (hq : fixQ (sgOf W ad) krows l lc (fun _ => False))
 (hg : ∀ n, n < 3 -> W.heap[n]? = some (.cells #[.iface 189 (.pointer (some (ad n)))] 28 (0, 0))) (ht : TabR (sgOf W ad)) :
 Calls Tryd.prog 4 #[.int .i64 s, vsDen lc 0 l.length 10, .agg #[.int .i64 o0, .int .i64 o1, .int .i64 o2, .int .i64 o3]] W fun e w' => e = .returned (.bool true) /\ Quiet W w' := by
 have hr : (runN lpMore (sgOf W ad) (tabY (sgOf W ad) linT) 4 linM [.v (.c (.it .i64 s)), .v (.c (.vs 7 0 l.length 10 false)), .v (.agg (⟨o0, o1, o2, o3⟩ : O).enc)] [.rowsB false l]).val = some (.v (.c (.bl true)), [.rowsB false l], []) := by
  rw [moreR, more_val]
 have hc := (runN_ok (σ := sgOf W ad) lpMore_ok (tab_env (tabY_ok ht)) (M := linM) rfl (l := [.rowsB false l]) (fun x hx => by
  simp only [List.mem_cons, List.not_mem_nil, or_false] at hx
  rcases hx with rfl | rfl | rfl
  ·exact cl_plain rfl
  ·exact cl_vs (hpO_at linM [.rowsB false l] 0 _ rfl)
  ·exact (op_plain _).cl _) hr).1
 have hQ := quietJ (L := [(lc, .rowsB false l)]) hc (fun ρ => rfl) (fun x hx w _ => by rw [List.mem_singleton.1 hx]; exact rowsB_q hq w) (sgOf_has W ad) (fun k hk => if_pos hk) hg
 have e : ([.v (.c (.it .i64 s)), .v (.c (.vs 7 0 l.length 10 false)), .v (.agg (⟨o0, o1, o2, o3⟩ : O).enc)].map (SV.den (nmL [(lc, .rowsB false l)]))).toArray = #[.int .i64 s, vsDen lc 0 l.length 10, .agg #[.int .i64 o0, .int .i64 o1, .int .i64 o2, .int .i64 o3]] := by
  simp only [List.map_cons, List.map_nil]
  rw [den_row (L := [(lc, .rowsB false l)]) 0 l.length 10]
  rfl
 rw [e] at hQ
 exact hQ
end Go.Proofs.YtpapbhbnaalhcaaDoor
