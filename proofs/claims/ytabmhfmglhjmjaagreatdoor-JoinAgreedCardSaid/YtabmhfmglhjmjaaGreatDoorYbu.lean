/- Parts of the proof, put together by a program. -/
import Derived.KernelRfl
import Derived.Test.YtabmhfmglhjmjaaGreatDoorYas
set_option maxRecDepth 100000
namespace Go.Proofs.YtabmhfmglhjmjaaGreatDoor.joinAgreed
theorem jA : joinA Tryz.pinned.checked.prog Tryz.f8 Rows.joinAgreedSpec Rows.joinAgreedRow = true := by kernel_rfl
theorem jB : joinB Tryz.pinned.checked.prog Tryz.f8 Rows.joinAgreedSpec Rows.joinAgreedRow = true := by kernel_rfl
end Go.Proofs.YtabmhfmglhjmjaaGreatDoor.joinAgreed
