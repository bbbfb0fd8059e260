/- The walk of the reference's Check of layer 20. -/
import Derived.Test.YtmddlhfahfelpaaVfm
set_option linter.unusedSimpArgs false
set_option linter.unusedVariables false
set_option linter.unnecessarySimpa false
namespace Go.Proofs.Ytmddlhfahfelpaa
set_option maxRecDepth 10000
open Go.RowKit

end Go.Proofs.Ytmddlhfahfelpaa
