/- 'awake' of layer 13, run on the listed errors (behind them two names of the law that it doesn't see): it comes to 'true', and leaves them. -/
import Derived.Test.YtfamkibdecgbgaaGreatDoorNa
namespace Go.Proofs.YtfamkibdecgbgaaGreatDoor
open Go Go.Sx Go.Proofs
set_option maxRecDepth 100000
def MA : List Bool := [true, true, true, true, true, true, true, false, false]
theorem run_awake (σ : Nat → Addr) : lv (NS σ) tabI 14 (.fn 4) [] (sentM 0 MA) =
    .need (decide (σ 2 = σ 2)) (.need (decide (σ 0 = σ 0)) (.leaf (.v (.c (.bl true)), sentM 0 MA))) := by kernel_rfl
theorem awake_ok (σ : Nat → Addr) : FnOk Tryz.prog (NS σ) 4 (sumT MA) :=
  sumT_ok (fnI 14 4) (by rw [run_awake]; simp [T.val])
end Go.Proofs.YtfamkibdecgbgaaGreatDoor
