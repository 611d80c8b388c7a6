/- Parts of the proof, put together by a program. -/
import Derived.KernelRfl
import Derived.Test.YtabmhfmglhjmjaaGreatDoorWau
set_option maxRecDepth 100000
namespace Go.Proofs.YtabmhfmglhjmjaaGreatDoor.joinStrings
theorem j1 : (Rows.joinStringsRow.inPlace == Tryz.pinned.checked.prog.inPlace 16) = true := by kernel_rfl
theorem j2 : (Rows.joinStringsRow.unfollowed == Tryz.pinned.checked.prog.unfollowed 16) = true := by kernel_rfl
theorem j3 : (Rows.joinStringsRow.recurses == Tryz.pinned.checked.prog.recurses 16) = true := by kernel_rfl
theorem j4 : (Rows.joinStringsRow.named == Tryz.pinned.checked.prog.varsNamed 16) = true := by kernel_rfl
end Go.Proofs.YtabmhfmglhjmjaaGreatDoor.joinStrings
