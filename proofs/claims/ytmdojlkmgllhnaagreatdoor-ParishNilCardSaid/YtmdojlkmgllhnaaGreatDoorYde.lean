/- ParishNil: the law's run, where the loop ends in a round from 68 on, below 80. -/
import Derived.Test.YtmdojlkmgllhnaaGreatDoorYd
namespace Go.Proofs.YtmdojlkmgllhnaaGreatDoor
open Go Go.Sx Go.Proofs
set_option maxRecDepth 100000
set_option maxHeartbeats 0
theorem run_law68 (σ : Nat → Addr) (x k key val tall many : Int) : lawN σ 68 80 x k key val tall many = treeN σ 68 80 (sN x) (nN many) (fitsB σ (sN x) k key val tall) := by kernel_rfl
end Go.Proofs.YtmdojlkmgllhnaaGreatDoor
