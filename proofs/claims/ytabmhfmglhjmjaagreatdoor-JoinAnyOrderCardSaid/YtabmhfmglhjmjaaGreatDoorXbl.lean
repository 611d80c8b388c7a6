/- Parts of the proof, put together by a program. -/
import Derived.KernelRfl
import Derived.Test.YtabmhfmglhjmjaaGreatDoorXat
set_option maxRecDepth 100000
namespace Go.Proofs.YtabmhfmglhjmjaaGreatDoor.joinAnyOrder
theorem jA : joinA Tryz.pinned.checked.prog Tryz.f15 Rows.joinAnyOrderSpec Rows.joinAnyOrderRow = true := by kernel_rfl
theorem jB : joinB Tryz.pinned.checked.prog Tryz.f15 Rows.joinAnyOrderSpec Rows.joinAnyOrderRow = true := by kernel_rfl
end Go.Proofs.YtabmhfmglhjmjaaGreatDoor.joinAnyOrder
