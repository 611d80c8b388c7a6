/- Parts of the proof, put together by a program. -/
import Derived.KernelRfl
import Derived.Test.YtabmhfmglhjmjaaGreatDoorYas
set_option maxRecDepth 100000
namespace Go.Proofs.YtabmhfmglhjmjaaGreatDoor.joinTransfers
theorem j1 : (Rows.joinTransfersRow.inPlace == Tryz.pinned.checked.prog.inPlace 9) = true := by kernel_rfl
theorem j2 : (Rows.joinTransfersRow.unfollowed == Tryz.pinned.checked.prog.unfollowed 9) = true := by kernel_rfl
theorem j3 : (Rows.joinTransfersRow.recurses == Tryz.pinned.checked.prog.recurses 9) = true := by kernel_rfl
theorem j4 : (Rows.joinTransfersRow.named == Tryz.pinned.checked.prog.varsNamed 9) = true := by kernel_rfl
end Go.Proofs.YtabmhfmglhjmjaaGreatDoor.joinTransfers
