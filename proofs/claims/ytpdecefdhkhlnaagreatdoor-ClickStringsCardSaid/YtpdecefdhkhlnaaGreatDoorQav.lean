/- Parts of the proof, put together by a program. -/
import Derived.KernelRfl
import Derived.Test.YtpdecefdhkhlnaaGreatDoorQau
set_option maxRecDepth 100000
namespace Go.Proofs.YtpdecefdhkhlnaaGreatDoor.clickStrings
theorem jA : joinA Tryz.pinned.checked.prog Tryz.f4 Rows.clickStringsSpec Rows.clickStringsRow = true := by kernel_rfl
theorem jB : joinB Tryz.pinned.checked.prog Tryz.f4 Rows.clickStringsSpec Rows.clickStringsRow = true := by kernel_rfl
end Go.Proofs.YtpdecefdhkhlnaaGreatDoor.clickStrings
