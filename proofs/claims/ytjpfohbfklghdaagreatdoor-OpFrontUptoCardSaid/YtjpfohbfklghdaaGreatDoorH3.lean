/-
  stratumlaw15.OpFront: the closed facts of the second form's row.
  Its conditions: none.
-/
import Derived.Test.YtjpfohbfklghdaaGreatDoorRows
import Derived.JoinedCond
set_option linter.all false
set_option maxRecDepth 100000
namespace Go.Proofs.YtjpfohbfklghdaaGreatDoor.opFront
theorem closedF : joinedFacts Tryz.pinned.checked.prog 8 Tryz.f8 (Rows.OpenSpec.upto Rows.opFrontSpec).bare Rows.opFrontUptoRow = true := by kernel_rfl
end Go.Proofs.YtjpfohbfklghdaaGreatDoor.opFront
