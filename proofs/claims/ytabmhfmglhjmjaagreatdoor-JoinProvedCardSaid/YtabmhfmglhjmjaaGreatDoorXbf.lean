/- Parts of the proof, put together by a program. -/
import Derived.KernelRfl
import Derived.Test.YtabmhfmglhjmjaaGreatDoorXat
set_option maxRecDepth 100000
namespace Go.Proofs.YtabmhfmglhjmjaaGreatDoor.joinProved
theorem j1 : (Rows.joinProvedRow.inPlace == Tryz.pinned.checked.prog.inPlace 14) = true := by kernel_rfl
theorem j2 : (Rows.joinProvedRow.unfollowed == Tryz.pinned.checked.prog.unfollowed 14) = true := by kernel_rfl
theorem j3 : (Rows.joinProvedRow.recurses == Tryz.pinned.checked.prog.recurses 14) = true := by kernel_rfl
theorem j4 : (Rows.joinProvedRow.named == Tryz.pinned.checked.prog.varsNamed 14) = true := by kernel_rfl
end Go.Proofs.YtabmhfmglhjmjaaGreatDoor.joinProved
