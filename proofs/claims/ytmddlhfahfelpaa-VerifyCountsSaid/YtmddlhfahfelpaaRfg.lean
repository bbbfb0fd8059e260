/- The reference of the shape that a node makes: OpConcat and OpReshape. -/
import Derived.Test.YtmddlhfahfelpaaRff
set_option linter.unusedSimpArgs false
set_option linter.unusedVariables false
set_option linter.unnecessarySimpa false
namespace Go.Proofs.Ytmddlhfahfelpaa
open Go.RowKit

end Go.Proofs.Ytmddlhfahfelpaa
