/- The walk of put of the reference of commands. -/
import Derived.Test.YtmddlhfahfelpaaNsaR
import Derived.Deep.CutBlock
set_option linter.unusedSimpArgs false
set_option linter.unusedVariables false
set_option linter.unnecessarySimpa false
namespace Go.Proofs.Ytmddlhfahfelpaa.Isa
set_option maxRecDepth 10000
open Go.RowKit

def tileB (i0 i1 b0 b1 h0 h1 : Int) : Nat → List Int
  | 0 => []
  | 1 => be i0 2 ++ be b0 1 ++ be h0 1
  | _ => be i0 2 ++ be b0 1 ++ be h0 1 ++ be i1 2 ++ be b1 1 ++ be h1 1

def GrewB (w : World) (base : Nat) (v : Value) (bs : List Int) (w' : World) (v' : Value) : Prop := Grew w base 5 1 v bs.length (bs.map (.int .u8)) w' v'

def PutCPost (w : World) (base : Nat) (v : Value) (bs : List Int) (ed : Ending) (w' : World) : Prop := ∃ v', ed = .returned v' ∧ GrewB w base v bs w' v'

end Go.Proofs.Ytmddlhfahfelpaa.Isa
