import Derived.Test.YtabmhfmglhjmjaaGreatDoorE13
set_option maxRecDepth 100000
set_option maxHeartbeats 4000000
set_option linter.unusedSimpArgs false
set_option linter.unusedVariables false
set_option linter.unusedSectionVars false
namespace Go.Proofs.YtabmhfmglhjmjaaGreatDoor
open Go.Ab Go.RowKit
variable [Dr]

/-! ### pieces -/
def gpT (l : List Pc) (i : Nat) : Pc := l.getD i ⟨0, 0, 0⟩
theorem plc_atT {l : List Pc} {i : Nat} (h : i < l.length) : ((plc l).drop (i * 3)).take 3 = [iv (gpT l i).fr, iv (gpT l i).so, iv (gpT l i).lag] := by
  unfold plc
  rw [fm_at (c := pcA) (k := 3) (fun _ => rfl) h]
  simp [gpT, h, pcA]
end Go.Proofs.YtabmhfmglhjmjaaGreatDoor
