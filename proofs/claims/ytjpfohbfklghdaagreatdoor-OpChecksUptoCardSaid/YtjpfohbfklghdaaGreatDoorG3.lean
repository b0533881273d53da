/-
  stratumlaw15.OpChecks: the closed facts of the second form's row.
  Its conditions: none.
-/
import Derived.Test.YtjpfohbfklghdaaGreatDoorRows
import Derived.JoinedCond
set_option linter.all false
set_option linter.unusedVariables false
set_option maxRecDepth 100000
namespace Go.Proofs.YtjpfohbfklghdaaGreatDoor.opChecks
theorem closedF : joinedFacts Tryz.pinned.checked.prog 4 Tryz.f4 (Rows.OpenSpec.upto Rows.opChecksSpec).bare Rows.opChecksUptoRow = true := by kernel_rfl
end Go.Proofs.YtjpfohbfklghdaaGreatDoor.opChecks
