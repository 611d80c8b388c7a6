/- Closed facts of JoinPlans's row, the other part (they follow calls): a text of their own (memory). -/
import Derived.Test.YtabmhfmglhjmjaaGreatDoorHq
import Derived.KernelRfl
set_option maxRecDepth 100000
namespace Go.Proofs.YtabmhfmglhjmjaaGreatDoor.joinPlans
theorem j1 : (Rows.joinPlansRow.inPlace == Tryz.pinned.checked.prog.inPlace 13) = true := by kernel_rfl
theorem j2 : (Rows.joinPlansRow.unfollowed == Tryz.pinned.checked.prog.unfollowed 13) = true := by kernel_rfl
theorem j3 : (Rows.joinPlansRow.recurses == Tryz.pinned.checked.prog.recurses 13) = true := by kernel_rfl
theorem j4 : (Rows.joinPlansRow.named == Tryz.pinned.checked.prog.varsNamed 13) = true := by kernel_rfl
end Go.Proofs.YtabmhfmglhjmjaaGreatDoor.joinPlans
