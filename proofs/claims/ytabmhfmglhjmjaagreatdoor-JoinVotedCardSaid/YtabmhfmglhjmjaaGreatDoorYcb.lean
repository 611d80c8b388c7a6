/- Parts of the proof, put together by a program. -/
import Derived.KernelRfl
import Derived.Test.YtabmhfmglhjmjaaGreatDoorYas
set_option maxRecDepth 100000
namespace Go.Proofs.YtabmhfmglhjmjaaGreatDoor.joinVoted
theorem jA : joinA Tryz.pinned.checked.prog Tryz.f10 Rows.joinVotedSpec Rows.joinVotedRow = true := by kernel_rfl
theorem jB : joinB Tryz.pinned.checked.prog Tryz.f10 Rows.joinVotedSpec Rows.joinVotedRow = true := by kernel_rfl
end Go.Proofs.YtabmhfmglhjmjaaGreatDoor.joinVoted
