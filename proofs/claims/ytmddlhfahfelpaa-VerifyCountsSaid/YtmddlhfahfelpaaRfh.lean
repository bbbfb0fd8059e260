/- The reference of how many weights and biases a node has; made, put together. -/
import Derived.Test.YtmddlhfahfelpaaRfg
set_option linter.unusedSimpArgs false
set_option linter.unusedVariables false
set_option linter.unnecessarySimpa false
namespace Go.Proofs.Ytmddlhfahfelpaa
open Go.RowKit

end Go.Proofs.Ytmddlhfahfelpaa
