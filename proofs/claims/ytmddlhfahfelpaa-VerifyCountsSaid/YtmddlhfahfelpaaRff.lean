/- The reference of the shape that a node makes: those of two, and OpReshape. -/
import Derived.Test.YtmddlhfahfelpaaRfe
set_option linter.unusedSimpArgs false
set_option linter.unusedVariables false
set_option linter.unnecessarySimpa false
namespace Go.Proofs.Ytmddlhfahfelpaa
open Go.RowKit

end Go.Proofs.Ytmddlhfahfelpaa
