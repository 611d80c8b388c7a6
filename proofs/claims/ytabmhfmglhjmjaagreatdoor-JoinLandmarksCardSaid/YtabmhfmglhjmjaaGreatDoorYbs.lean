/- Parts of the proof, put together by a program. -/
import Derived.KernelRfl
import Derived.Test.YtabmhfmglhjmjaaGreatDoorYas
set_option maxRecDepth 100000
namespace Go.Proofs.YtabmhfmglhjmjaaGreatDoor.joinLandmarks
theorem j1 : (Rows.joinLandmarksRow.inPlace == Tryz.pinned.checked.prog.inPlace 7) = true := by kernel_rfl
theorem j2 : (Rows.joinLandmarksRow.unfollowed == Tryz.pinned.checked.prog.unfollowed 7) = true := by kernel_rfl
theorem j3 : (Rows.joinLandmarksRow.recurses == Tryz.pinned.checked.prog.recurses 7) = true := by kernel_rfl
theorem j4 : (Rows.joinLandmarksRow.named == Tryz.pinned.checked.prog.varsNamed 7) = true := by kernel_rfl
end Go.Proofs.YtabmhfmglhjmjaaGreatDoor.joinLandmarks
