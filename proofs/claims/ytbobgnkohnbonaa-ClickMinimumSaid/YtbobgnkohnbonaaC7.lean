import Derived.Test.YtbobgnkohnbonaaC6
set_option maxRecDepth 100000
set_option maxHeartbeats 4000000
set_option linter.unusedSimpArgs false
set_option linter.unusedVariables false
namespace Go.Proofs.Ytbobgnkohnbonaa
open Go.Ab Go.RowKit
end Go.Proofs.Ytbobgnkohnbonaa
