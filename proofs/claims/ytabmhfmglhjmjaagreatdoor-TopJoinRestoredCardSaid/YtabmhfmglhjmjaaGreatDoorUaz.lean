/- Parts of the proof, put together by a program. -/
import Derived.KernelRfl
import Derived.Test.YtabmhfmglhjmjaaGreatDoorUax
set_option maxRecDepth 100000
namespace Go.Proofs.YtabmhfmglhjmjaaGreatDoor.topJoinRestored
theorem j1 : (Rows.topJoinRestoredRow.inPlace == Tryz.pinned.checked.prog.inPlace 11) = true := by kernel_rfl
theorem j2 : (Rows.topJoinRestoredRow.unfollowed == Tryz.pinned.checked.prog.unfollowed 11) = true := by kernel_rfl
theorem j3 : (Rows.topJoinRestoredRow.recurses == Tryz.pinned.checked.prog.recurses 11) = true := by kernel_rfl
theorem j4 : (Rows.topJoinRestoredRow.named == Tryz.pinned.checked.prog.varsNamed 11) = true := by kernel_rfl
end Go.Proofs.YtabmhfmglhjmjaaGreatDoor.topJoinRestored
