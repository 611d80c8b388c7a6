/- Parts of the proof, put together by a program. -/
import Derived.Test.YtpdecefdhkhlnaaGreatDoorRows
import GoSem.ClaimWrapper
import Derived.KernelRfl
set_option maxRecDepth 100000
namespace Go.Proofs.YtpdecefdhkhlnaaGreatDoor
theorem mainP : Tryz.pinned.checked.prog.mainIs = some (true, "2dc2bc6c8b86d94b9912e5dbbe1800714792999b467cabb8dd8ff21e15448709".toList) := by kernel_rfl
end Go.Proofs.YtpdecefdhkhlnaaGreatDoor
