import Derived.Test.YtbobgnkohnbonaaC25
import Derived.Test.YtbobgnkohnbonaaS05p
set_option maxRecDepth 100000
set_option maxHeartbeats 4000000
set_option linter.unusedSimpArgs false
set_option linter.unusedVariables false
namespace Go.Proofs.Ytbobgnkohnbonaa
open Go.Ab Go.RowKit
end Go.Proofs.Ytbobgnkohnbonaa
