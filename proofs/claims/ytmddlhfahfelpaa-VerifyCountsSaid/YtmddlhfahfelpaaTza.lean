/- The walk of Put of the reference of commands, and of the law IsaPuts. -/
/- The walk of May of the images' reference. -/
import Derived.Test.YtmddlhfahfelpaaNsaJ
import Derived.Test.YtmddlhfahfelpaaNsaH
import Derived.Test.YtmddlhfahfelpaaVfa
import Derived.Test.YtmddlhfahfelpaaRfj
set_option linter.unusedSimpArgs false
set_option linter.unusedVariables false
set_option linter.unnecessarySimpa false
namespace Go.Proofs.Ytmddlhfahfelpaa.Isa
set_option maxRecDepth 10000
open Go.RowKit

end Go.Proofs.Ytmddlhfahfelpaa.Isa

namespace Go.Proofs.Ytmddlhfahfelpaa
set_option maxRecDepth 10000
open Go.RowKit

end Go.Proofs.Ytmddlhfahfelpaa
