/- ParishNil: the law's run, where the loop ends in a round from 20 on, below 40. -/
import Derived.Test.YtmdojlkmgllhnaaGreatDoorYd
namespace Go.Proofs.YtmdojlkmgllhnaaGreatDoor
open Go Go.Sx Go.Proofs
set_option maxRecDepth 100000
set_option maxHeartbeats 0
theorem run_law20 (σ : Nat → Addr) (x k key val tall many : Int) : lawN σ 20 40 x k key val tall many = treeN σ 20 40 (sN x) (nN many) (fitsB σ (sN x) k key val tall) := by kernel_rfl
end Go.Proofs.YtmdojlkmgllhnaaGreatDoor
