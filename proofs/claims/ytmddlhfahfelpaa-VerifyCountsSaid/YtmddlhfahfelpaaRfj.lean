/- The walk of the reference of graph.Values. -/
import Derived.Test.YtmddlhfahfelpaaRfi
import Derived.Test.YtmddlhfahfelpaaGrk
set_option linter.unusedSimpArgs false
set_option linter.unusedVariables false
set_option linter.unnecessarySimpa false
namespace Go.Proofs.Ytmddlhfahfelpaa
open Go.RowKit

/-- One value more in a row of the call's own. -/
theorem OwnV.more {w0 W : World} {v' : Value} {l : List Vl} {x : Vl} (h : W.ownsRow w0.heap.size 44 4 v' (l.length + 1) (l.flatMap Vl.cs ++ x.cs)) : OwnV w0 W v' (l ++ [x]) := by
  unfold OwnV
  rw [List.length_append, List.flatMap_append]
  simpa using h
end Go.Proofs.Ytmddlhfahfelpaa
