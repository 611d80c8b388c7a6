/- Parts of the proof, put together by a program. -/
import Derived.KernelRfl
import Derived.Test.YtabmhfmglhjmjaaGreatDoorYas
set_option maxRecDepth 100000
namespace Go.Proofs.YtabmhfmglhjmjaaGreatDoor.joinTasks
theorem j1 : (Rows.joinTasksRow.inPlace == Tryz.pinned.checked.prog.inPlace 6) = true := by kernel_rfl
theorem j2 : (Rows.joinTasksRow.unfollowed == Tryz.pinned.checked.prog.unfollowed 6) = true := by kernel_rfl
theorem j3 : (Rows.joinTasksRow.recurses == Tryz.pinned.checked.prog.recurses 6) = true := by kernel_rfl
theorem j4 : (Rows.joinTasksRow.named == Tryz.pinned.checked.prog.varsNamed 6) = true := by kernel_rfl
end Go.Proofs.YtabmhfmglhjmjaaGreatDoor.joinTasks
