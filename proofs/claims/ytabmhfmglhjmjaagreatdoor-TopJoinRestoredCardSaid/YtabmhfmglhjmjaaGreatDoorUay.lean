/- Parts of the proof, put together by a program. -/
import Derived.KernelRfl
import Derived.Test.YtabmhfmglhjmjaaGreatDoorUax
set_option maxRecDepth 100000
namespace Go.Proofs.YtabmhfmglhjmjaaGreatDoor.topJoinRestored
theorem jA : joinA Tryz.pinned.checked.prog Tryz.f11 Rows.topJoinRestoredSpec Rows.topJoinRestoredRow = true := by kernel_rfl
theorem jB : joinB Tryz.pinned.checked.prog Tryz.f11 Rows.topJoinRestoredSpec Rows.topJoinRestoredRow = true := by kernel_rfl
end Go.Proofs.YtabmhfmglhjmjaaGreatDoor.topJoinRestored
