/- What all statements of this chapter share: closed facts of the program; arguments of the kinds that occur. -/
import Derived.Test.YtabmhfmglhjmjaaGreatDoorAbC
import Derived.Test.YtabmhfmglhjmjaaGreatDoorEnv
import Derived.WalkKit
import Derived.ProofKit
import Derived.OpenShut
set_option linter.unusedSimpArgs false
set_option linter.unusedVariables false
set_option linter.unusedSectionVars false
set_option maxRecDepth 100000
namespace Go.Proofs.YtabmhfmglhjmjaaGreatDoor
open Go.ChangeShapes Go.WideShapes Go.ChangeAt Go.RowKit Go.Ab
attribute [local instance] drS
theorem ownK : ownKnob Tryz.prog.godebug = none := by kernel_rfl
theorem laidP : laidOutB Tryz.prog = true := by kernel_rfl
theorem cells3 : Tryz.prog.cellsOf 3 = 1 := by kernel_rfl
end Go.Proofs.YtabmhfmglhjmjaaGreatDoor
