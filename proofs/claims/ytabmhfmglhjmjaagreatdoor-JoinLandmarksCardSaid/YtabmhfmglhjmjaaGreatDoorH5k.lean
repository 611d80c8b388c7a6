/- Closed facts of JoinLandmarks's row, one part: a text of their own (memory). -/
import Derived.Test.YtabmhfmglhjmjaaGreatDoorHq
import Derived.KernelRfl
set_option maxRecDepth 100000
namespace Go.Proofs.YtabmhfmglhjmjaaGreatDoor.joinLandmarks
theorem jA : joinA Tryz.pinned.checked.prog Tryz.f7 Rows.joinLandmarksSpec Rows.joinLandmarksRow = true := by kernel_rfl
theorem jB : joinB Tryz.pinned.checked.prog Tryz.f7 Rows.joinLandmarksSpec Rows.joinLandmarksRow = true := by kernel_rfl
end Go.Proofs.YtabmhfmglhjmjaaGreatDoor.joinLandmarks
