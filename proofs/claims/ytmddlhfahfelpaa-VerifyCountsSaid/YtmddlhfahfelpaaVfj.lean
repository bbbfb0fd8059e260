/- The walk of the reference's Streams of layer 20. -/
import Derived.Test.YtmddlhfahfelpaaVfg
import Derived.Test.YtmddlhfahfelpaaTza
set_option linter.unusedSimpArgs false
set_option linter.unusedVariables false
set_option linter.unnecessarySimpa false
namespace Go.Proofs.Ytmddlhfahfelpaa
set_option maxRecDepth 10000
open Go.RowKit

def hb3 (p q r : Bool) (k : Nat) : Bool := if k = 0 then (p && q && r) else if k = 1 then (q && r) else if k = 2 then r else true

end Go.Proofs.Ytmddlhfahfelpaa
