/- Parts of the proof, put together by a program. -/
import Derived.KernelRfl
import Derived.Test.YtpdecefdhkhlnaaGreatDoorVao
set_option maxRecDepth 100000
namespace Go.Proofs.YtpdecefdhkhlnaaGreatDoor.topClickHumTakenBack
theorem j1 : (Rows.topClickHumTakenBackRow.inPlace == Tryz.pinned.checked.prog.inPlace 3) = true := by kernel_rfl
theorem j2 : (Rows.topClickHumTakenBackRow.unfollowed == Tryz.pinned.checked.prog.unfollowed 3) = true := by kernel_rfl
theorem j3 : (Rows.topClickHumTakenBackRow.recurses == Tryz.pinned.checked.prog.recurses 3) = true := by kernel_rfl
theorem j4 : (Rows.topClickHumTakenBackRow.named == Tryz.pinned.checked.prog.varsNamed 3) = true := by kernel_rfl
end Go.Proofs.YtpdecefdhkhlnaaGreatDoor.topClickHumTakenBack
