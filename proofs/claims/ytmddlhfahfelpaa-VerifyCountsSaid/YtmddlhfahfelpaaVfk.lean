/- The walk of the reference's Balance of layer 20. -/
import Derived.Test.YtmddlhfahfelpaaVfd
set_option linter.unusedSimpArgs false
set_option linter.unusedVariables false
set_option linter.unnecessarySimpa false
namespace Go.Proofs.Ytmddlhfahfelpaa
set_option maxRecDepth 10000
open Go.RowKit

theorem Blk.other {w : World} {b : Nat} {cs : Array Value} {T : TypeId} (h : Blk w b cs T) {B : Nat} (hne : b ≠ B) (i : Nat) (v : Value) : Blk (w.setCell ⟨B, i, none⟩ v) b cs T :=
  h.grown (setCell_grown w B i v) (by simpa using hne)

end Go.Proofs.Ytmddlhfahfelpaa
