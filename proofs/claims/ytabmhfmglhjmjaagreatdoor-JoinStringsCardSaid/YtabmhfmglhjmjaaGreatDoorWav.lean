/- Parts of the proof, put together by a program. -/
import Derived.KernelRfl
import Derived.Test.YtabmhfmglhjmjaaGreatDoorWau
set_option maxRecDepth 100000
namespace Go.Proofs.YtabmhfmglhjmjaaGreatDoor.joinStrings
theorem jA : joinA Tryz.pinned.checked.prog Tryz.f16 Rows.joinStringsSpec Rows.joinStringsRow = true := by kernel_rfl
theorem jB : joinB Tryz.pinned.checked.prog Tryz.f16 Rows.joinStringsSpec Rows.joinStringsRow = true := by kernel_rfl
end Go.Proofs.YtabmhfmglhjmjaaGreatDoor.joinStrings
