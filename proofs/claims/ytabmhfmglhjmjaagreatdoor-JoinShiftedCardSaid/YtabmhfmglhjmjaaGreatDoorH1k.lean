/- The closed facts of JoinShifted's row: a text of their own (memory). -/
import Derived.Test.YtabmhfmglhjmjaaGreatDoorRows
import Derived.ProofKit
import Derived.KernelRfl
set_option maxRecDepth 100000
namespace Go.Proofs.YtabmhfmglhjmjaaGreatDoor
theorem closedJoinShifted : joinedFacts Tryz.pinned.checked.prog 3 Tryz.f3 Rows.joinShiftedSpec Rows.joinShiftedRow = true := by kernel_rfl
end Go.Proofs.YtabmhfmglhjmjaaGreatDoor
