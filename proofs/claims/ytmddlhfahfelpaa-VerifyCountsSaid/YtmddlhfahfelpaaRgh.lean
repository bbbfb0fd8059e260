/- The walk of the reference's Of: loads and stores, and what reads and writes nothing. -/
import Derived.Test.YtmddlhfahfelpaaRgg
set_option linter.unusedSimpArgs false
set_option linter.unusedVariables false
set_option linter.unnecessarySimpa false
namespace Go.Proofs.Ytmddlhfahfelpaa
open Go.RowKit

end Go.Proofs.Ytmddlhfahfelpaa
