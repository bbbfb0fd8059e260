/- The walk of the reference of graph.Value. -/
import Derived.Test.YtmddlhfahfelpaaRfh
import Derived.Test.YtmddlhfahfelpaaGrh
set_option linter.unusedSimpArgs false
set_option linter.unusedVariables false
set_option linter.unnecessarySimpa false
namespace Go.Proofs.Ytmddlhfahfelpaa
open Go.RowKit

end Go.Proofs.Ytmddlhfahfelpaa
