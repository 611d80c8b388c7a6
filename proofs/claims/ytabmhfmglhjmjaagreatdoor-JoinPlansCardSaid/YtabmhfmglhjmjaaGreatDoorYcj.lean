/- Parts of the proof, put together by a program. -/
import Derived.KernelRfl
import Derived.Test.YtabmhfmglhjmjaaGreatDoorYas
set_option maxRecDepth 100000
namespace Go.Proofs.YtabmhfmglhjmjaaGreatDoor.joinPlans
theorem j1 : (Rows.joinPlansRow.inPlace == Tryz.pinned.checked.prog.inPlace 13) = true := by kernel_rfl
theorem j2 : (Rows.joinPlansRow.unfollowed == Tryz.pinned.checked.prog.unfollowed 13) = true := by kernel_rfl
theorem j3 : (Rows.joinPlansRow.recurses == Tryz.pinned.checked.prog.recurses 13) = true := by kernel_rfl
theorem j4 : (Rows.joinPlansRow.named == Tryz.pinned.checked.prog.varsNamed 13) = true := by kernel_rfl
end Go.Proofs.YtabmhfmglhjmjaaGreatDoor.joinPlans
