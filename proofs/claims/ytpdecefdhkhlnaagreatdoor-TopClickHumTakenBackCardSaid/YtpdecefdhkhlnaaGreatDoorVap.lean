/- Parts of the proof, put together by a program. -/
import Derived.KernelRfl
import Derived.Test.YtpdecefdhkhlnaaGreatDoorVao
set_option maxRecDepth 100000
namespace Go.Proofs.YtpdecefdhkhlnaaGreatDoor.topClickHumTakenBack
theorem jA : joinA Tryz.pinned.checked.prog Tryz.f3 Rows.topClickHumTakenBackSpec Rows.topClickHumTakenBackRow = true := by kernel_rfl
theorem jB : joinB Tryz.pinned.checked.prog Tryz.f3 Rows.topClickHumTakenBackSpec Rows.topClickHumTakenBackRow = true := by kernel_rfl
end Go.Proofs.YtpdecefdhkhlnaaGreatDoor.topClickHumTakenBack
