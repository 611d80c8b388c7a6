/- Parts of the proof, put together by a program. -/
import Derived.KernelRfl
import Derived.Test.YtabmhfmglhjmjaaGreatDoorXat
set_option maxRecDepth 100000
namespace Go.Proofs.YtabmhfmglhjmjaaGreatDoor.joinAnyOrder
theorem j1 : (Rows.joinAnyOrderRow.inPlace == Tryz.pinned.checked.prog.inPlace 15) = true := by kernel_rfl
theorem j2 : (Rows.joinAnyOrderRow.unfollowed == Tryz.pinned.checked.prog.unfollowed 15) = true := by kernel_rfl
theorem j3 : (Rows.joinAnyOrderRow.recurses == Tryz.pinned.checked.prog.recurses 15) = true := by kernel_rfl
theorem j4 : (Rows.joinAnyOrderRow.named == Tryz.pinned.checked.prog.varsNamed 15) = true := by kernel_rfl
end Go.Proofs.YtabmhfmglhjmjaaGreatDoor.joinAnyOrder
