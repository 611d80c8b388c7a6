/- Parts of the proof, put together by a program. -/
import Derived.KernelRfl
import Derived.Test.YtabmhfmglhjmjaaGreatDoorYas
set_option maxRecDepth 100000
namespace Go.Proofs.YtabmhfmglhjmjaaGreatDoor.joinCorrelations
theorem j1 : (Rows.joinCorrelationsRow.inPlace == Tryz.pinned.checked.prog.inPlace 5) = true := by kernel_rfl
theorem j2 : (Rows.joinCorrelationsRow.unfollowed == Tryz.pinned.checked.prog.unfollowed 5) = true := by kernel_rfl
theorem j3 : (Rows.joinCorrelationsRow.recurses == Tryz.pinned.checked.prog.recurses 5) = true := by kernel_rfl
theorem j4 : (Rows.joinCorrelationsRow.named == Tryz.pinned.checked.prog.varsNamed 5) = true := by kernel_rfl
end Go.Proofs.YtabmhfmglhjmjaaGreatDoor.joinCorrelations
