/- The reference of shapes, and small functions of the reference of graphs. -/
/- The reference of shape.Out: place by place. -/
/- The reference of whether a node may be. -/
import Derived.Test.YtmddlhfahfelpaaGre
import Derived.Test.YtmddlhfahfelpaaGrg
import Derived.Deep.Cut
import Derived.Deep.CutBlock
import Derived.Deep.DeepCutAuto
set_option linter.unusedSimpArgs false
set_option linter.unusedVariables false
set_option linter.unnecessarySimpa false
namespace Go.Proofs.Ytmddlhfahfelpaa
open Go.RowKit

def twoB (op : Int) : Bool := decide (op = 6) || decide (op = 7) || decide (op = 10)
def windowB (op : Int) : Bool := decide (1 ≤ op) && decide (op ≤ 5) && !decide (op = 3)
def keepsB (op : Int) : Bool := decide (op = 4) || decide (op = 5) || decide (op = 8) || decide (op = 9) || decide (op = 10) || decide (op = 11)

end Go.Proofs.Ytmddlhfahfelpaa

namespace Go.Proofs.Ytmddlhfahfelpaa
open Go.RowKit

end Go.Proofs.Ytmddlhfahfelpaa

namespace Go.Proofs.Ytmddlhfahfelpaa
open Go.RowKit

def nodeB (n : Nd) (len : Nat) : Bool := match kindOf n.op with
  | none => false
  | some k => nodeOk k n len

def wantZ (op : Int) : Int := if twoB op then 2 else 1
def rk (n : Nd) : Bool := if windowB n.op then inB 1 3 n.k && inB 1 2 n.st else decide (n.k = 0) && decide (n.st = 0)
def rpad0 (n : Nd) : Bool := if n.op = 1 ∨ n.op = 2 then inB 0 1 n.pad && decide (n.pad < n.k) else decide (n.pad = 0)
def rpad (n : Nd) : Bool := if n.op = 9 then decide (n.pad = 1) else rpad0 n
def rout (n : Nd) : Bool := if n.op = 1 ∨ n.op = 3 then inB 1 8 n.out else decide (n.out = 0)
def rto (n : Nd) : Bool := decide (n.to = ⟨0, 0, 0⟩) || decide (n.op = 11)
def rscale (n : Nd) : Bool := inB 1 32767 n.mul && inB 0 31 n.sh && inB (-128) 127 n.zero
def rnode (n : Nd) (len : Nat) : Bool := inB 1 12 n.op && decide ((len : Int) = wantZ n.op) && rk n && rpad n && rout n && rto n && rscale n

end Go.Proofs.Ytmddlhfahfelpaa
