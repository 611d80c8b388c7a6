/- Parts of the proof, put together by a program. -/
import Derived.KernelRfl
import Derived.Test.YtpdecefdhkhlnaaGreatDoorQau
set_option maxRecDepth 100000
namespace Go.Proofs.YtpdecefdhkhlnaaGreatDoor.clickStrings
theorem j1 : (Rows.clickStringsRow.inPlace == Tryz.pinned.checked.prog.inPlace 4) = true := by kernel_rfl
theorem j2 : (Rows.clickStringsRow.unfollowed == Tryz.pinned.checked.prog.unfollowed 4) = true := by kernel_rfl
theorem j3 : (Rows.clickStringsRow.recurses == Tryz.pinned.checked.prog.recurses 4) = true := by kernel_rfl
theorem j4 : (Rows.clickStringsRow.named == Tryz.pinned.checked.prog.varsNamed 4) = true := by kernel_rfl
end Go.Proofs.YtpdecefdhkhlnaaGreatDoor.clickStrings
