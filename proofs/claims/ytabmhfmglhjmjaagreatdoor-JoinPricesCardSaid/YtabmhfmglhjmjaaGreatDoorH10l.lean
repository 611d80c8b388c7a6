/- Closed facts of JoinPrices's row, the other part (they follow calls): a text of their own (memory). -/
import Derived.Test.YtabmhfmglhjmjaaGreatDoorHq
import Derived.KernelRfl
set_option maxRecDepth 100000
namespace Go.Proofs.YtabmhfmglhjmjaaGreatDoor.joinPrices
theorem j1 : (Rows.joinPricesRow.inPlace == Tryz.pinned.checked.prog.inPlace 12) = true := by kernel_rfl
theorem j2 : (Rows.joinPricesRow.unfollowed == Tryz.pinned.checked.prog.unfollowed 12) = true := by kernel_rfl
theorem j3 : (Rows.joinPricesRow.recurses == Tryz.pinned.checked.prog.recurses 12) = true := by kernel_rfl
theorem j4 : (Rows.joinPricesRow.named == Tryz.pinned.checked.prog.varsNamed 12) = true := by kernel_rfl
end Go.Proofs.YtabmhfmglhjmjaaGreatDoor.joinPrices
