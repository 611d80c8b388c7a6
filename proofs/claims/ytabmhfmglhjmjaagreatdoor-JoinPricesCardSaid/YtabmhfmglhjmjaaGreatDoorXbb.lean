/- Parts of the proof, put together by a program. -/
import Derived.KernelRfl
import Derived.Test.YtabmhfmglhjmjaaGreatDoorXat
set_option maxRecDepth 100000
namespace Go.Proofs.YtabmhfmglhjmjaaGreatDoor.joinPrices
theorem j1 : (Rows.joinPricesRow.inPlace == Tryz.pinned.checked.prog.inPlace 12) = true := by kernel_rfl
theorem j2 : (Rows.joinPricesRow.unfollowed == Tryz.pinned.checked.prog.unfollowed 12) = true := by kernel_rfl
theorem j3 : (Rows.joinPricesRow.recurses == Tryz.pinned.checked.prog.recurses 12) = true := by kernel_rfl
theorem j4 : (Rows.joinPricesRow.named == Tryz.pinned.checked.prog.varsNamed 12) = true := by kernel_rfl
end Go.Proofs.YtabmhfmglhjmjaaGreatDoor.joinPrices
