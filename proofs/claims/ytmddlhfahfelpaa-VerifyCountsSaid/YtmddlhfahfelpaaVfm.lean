/- The walk of the reference's Turns of layer 20. -/
import Derived.Test.YtmddlhfahfelpaaVfj
import Derived.Test.YtmddlhfahfelpaaVfi
import Derived.Test.YtmddlhfahfelpaaVfk
set_option linter.unusedSimpArgs false
set_option linter.unusedVariables false
set_option linter.unnecessarySimpa false
namespace Go.Proofs.Ytmddlhfahfelpaa
set_option maxRecDepth 10000
open Go.RowKit

def atC (a b c : Nat) : Array Value := #[.int .i64 (a : Int), .int .i64 (b : Int), .int .i64 (c : Int)]
/-- Behind some turns of the reference. -/
structure RSt (w : World) (ims : Array Value) (r : Int × Int) (M B1 B4 B5 : Nat) (L0 L1 L2 : List Isa.Cm) (n a b c : Nat) (cs : List Int) (wr : World) : Prop where
  im : Blk wr B1 ims 30
  at_ : Blk wr B4 (atC a b c) 58
  sem : Blk wr B5 (cnt cs) 53
  pl : PlZ cs (L0.drop a) (L1.drop b) (L2.drop c)
  la : a ≤ L0.length
  lb : b ≤ L1.length
  lc : c ≤ L2.length
  all : n + ((L0.drop a).length + (L1.drop b).length + (L2.drop c).length) = M
  is : r = playZ ((L0.drop a).length + (L1.drop b).length + (L2.drop c).length + 1) cs (L0.drop a) (L1.drop b) (L2.drop c) n
  ext : Ext w wr

theorem RSt.later {w : World} {ims : Array Value} {r : Int × Int} {M B1 B4 B5 : Nat} {L0 L1 L2 : List Isa.Cm} {n a b c : Nat} {cs : List Int} {wr W : World} (h : RSt w ims r M B1 B4 B5 L0 L1 L2 n a b c cs wr) (e : Ext wr W) : RSt w ims r M B1 B4 B5 L0 L1 L2 n a b c cs W :=
  ⟨h.im.ext e, h.at_.ext e, h.sem.ext e, h.pl, h.la, h.lb, h.lc, h.all, h.is, h.ext.trans e⟩
/-- Within a turn: engine k is asked next; q: one has gone; e: all that were asked have ended. -/
inductive RIn (w : World) (ims : Array Value) (r : Int × Int) (M B1 B4 B5 : Nat) (L0 L1 L2 : List Isa.Cm) (n k : Nat) : Bool → Bool → Nat → World → Prop where
  | gone {e : Bool} {a b c : Nat} {cs : List Int} {wr : World} (hn : n + 1 ≤ M) (h : RSt w ims r M B1 B4 B5 L0 L1 L2 (n + 1) a b c cs wr) : RIn w ims r M B1 B4 B5 L0 L1 L2 n k true e (n + 1) wr
  | not {e : Bool} {a b c : Nat} {cs : List Int} {wr : World} (h : RSt w ims r M B1 B4 B5 L0 L1 L2 n a b c cs wr) (t0 : 0 < k → tryZ cs (L0.drop a) = 0) (t1 : 1 < k → tryZ cs (L1.drop b) = 0) (t2 : 2 < k → tryZ cs (L2.drop c) = 0)
      (he : e = true ↔ (0 < k → L0.drop a = []) ∧ (1 < k → L1.drop b = []) ∧ (2 < k → L2.drop c = [])) : RIn w ims r M B1 B4 B5 L0 L1 L2 n k false e n wr

end Go.Proofs.Ytmddlhfahfelpaa
