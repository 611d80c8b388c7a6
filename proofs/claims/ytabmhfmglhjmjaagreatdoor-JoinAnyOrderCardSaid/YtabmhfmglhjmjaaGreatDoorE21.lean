import Derived.Test.YtabmhfmglhjmjaaGreatDoorE20
set_option maxRecDepth 100000
set_option maxHeartbeats 4000000
set_option linter.unusedSimpArgs false
set_option linter.unusedVariables false
set_option linter.unusedSectionVars false
namespace Go.Proofs.YtabmhfmglhjmjaaGreatDoor
open Go.Ab Go.RowKit
variable [Dr]
end Go.Proofs.YtabmhfmglhjmjaaGreatDoor
