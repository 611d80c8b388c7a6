/- Parts of the proof, put together by a program. -/
import Derived.KernelRfl
import Derived.Test.YtabmhfmglhjmjaaGreatDoorXat
set_option maxRecDepth 100000
namespace Go.Proofs.YtabmhfmglhjmjaaGreatDoor.joinPrices
theorem jA : joinA Tryz.pinned.checked.prog Tryz.f12 Rows.joinPricesSpec Rows.joinPricesRow = true := by kernel_rfl
theorem jB : joinB Tryz.pinned.checked.prog Tryz.f12 Rows.joinPricesSpec Rows.joinPricesRow = true := by kernel_rfl
end Go.Proofs.YtabmhfmglhjmjaaGreatDoor.joinPrices
