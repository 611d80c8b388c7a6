/- Parts of the proof, put together by a program. -/
import Derived.KernelRfl
import Derived.Test.YtabmhfmglhjmjaaGreatDoorYas
set_option maxRecDepth 100000
namespace Go.Proofs.YtabmhfmglhjmjaaGreatDoor.joinTransfers
theorem jA : joinA Tryz.pinned.checked.prog Tryz.f9 Rows.joinTransfersSpec Rows.joinTransfersRow = true := by kernel_rfl
theorem jB : joinB Tryz.pinned.checked.prog Tryz.f9 Rows.joinTransfersSpec Rows.joinTransfersRow = true := by kernel_rfl
end Go.Proofs.YtabmhfmglhjmjaaGreatDoor.joinTransfers
