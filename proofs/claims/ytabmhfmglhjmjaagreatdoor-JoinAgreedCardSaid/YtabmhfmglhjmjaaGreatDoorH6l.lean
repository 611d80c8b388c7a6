/- Closed facts of JoinAgreed's row, the other part (they follow calls): a text of their own (memory). -/
import Derived.Test.YtabmhfmglhjmjaaGreatDoorHq
import Derived.KernelRfl
set_option maxRecDepth 100000
namespace Go.Proofs.YtabmhfmglhjmjaaGreatDoor.joinAgreed
theorem j1 : (Rows.joinAgreedRow.inPlace == Tryz.pinned.checked.prog.inPlace 8) = true := by kernel_rfl
theorem j2 : (Rows.joinAgreedRow.unfollowed == Tryz.pinned.checked.prog.unfollowed 8) = true := by kernel_rfl
theorem j3 : (Rows.joinAgreedRow.recurses == Tryz.pinned.checked.prog.recurses 8) = true := by kernel_rfl
theorem j4 : (Rows.joinAgreedRow.named == Tryz.pinned.checked.prog.varsNamed 8) = true := by kernel_rfl
end Go.Proofs.YtabmhfmglhjmjaaGreatDoor.joinAgreed
