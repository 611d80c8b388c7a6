/- Parts of the proof, put together by a program. -/
import Derived.Test.YtabmhfmglhjmjaaGreatDoorRows
import GoSem.ClaimWrapper
import Derived.KernelRfl
set_option maxRecDepth 100000
namespace Go.Proofs.YtabmhfmglhjmjaaGreatDoor
theorem mainP : Tryz.pinned.checked.prog.mainIs = some (true, "9668bd9c6f1f91fd5c040781b0ab8211d16066f293eb130b98289b61b33fea60".toList) := by kernel_rfl
end Go.Proofs.YtabmhfmglhjmjaaGreatDoor
