/- The reference of whether a node may be. -/
import Derived.Test.YtdhdbmfipkppiaaRfb
import Derived.Test.YtdhdbmfipkppiaaGrg
import Derived.Deep.Cut
import Derived.Deep.CutBlock
import Derived.Deep.DeepCutAuto
namespace Go.Proofs.Ytdhdbmfipkppiaa
set_option linter.unusedSimpArgs false
set_option linter.unusedVariables false
set_option linter.unnecessarySimpa false
open Go.RowKit

def nodeB (n : Nd) (len : Nat) : Bool := match kindOf n.op with
  | none => false
  | some k => nodeOk k n len

def wantZ (op : Int) : Int := if twoB op then 2 else 1
def rk (n : Nd) : Bool := if windowB n.op then inB 1 3 n.k && inB 1 2 n.st else decide (n.k = 0) && decide (n.st = 0)
def rpad0 (n : Nd) : Bool := if n.op = 1 ∨ n.op = 2 then inB 0 1 n.pad && decide (n.pad < n.k) else decide (n.pad = 0)
def rpad (n : Nd) : Bool := if n.op = 9 then decide (n.pad = 1) else rpad0 n
def rout (n : Nd) : Bool := if n.op = 1 ∨ n.op = 3 then inB 1 8 n.out else decide (n.out = 0)
def rto (n : Nd) : Bool := decide (n.to = ⟨0, 0, 0⟩) || decide (n.op = 11)
def rscale (n : Nd) : Bool := inB 1 32767 n.mul && inB 0 31 n.sh && inB (-128) 127 n.zero
def rnode (n : Nd) (len : Nat) : Bool := inB 1 12 n.op && decide ((len : Int) = wantZ n.op) && rk n && rpad n && rout n && rto n && rscale n

theorem rnode_eq (n : Nd) (len : Nat) : rnode n len = nodeB n len := by
  by_cases hop : 1 ≤ n.op ∧ n.op ≤ 12
  · have hi : inB 1 12 n.op = true := by simp [inB, hop]
    unfold rnode nodeB
    rw [hi]
    rcases (by omega : n.op = 1 ∨ n.op = 2 ∨ n.op = 3 ∨ n.op = 4 ∨ n.op = 5 ∨ n.op = 6 ∨ n.op = 7 ∨ n.op = 8 ∨ n.op = 9 ∨ n.op = 10 ∨ n.op = 11 ∨ n.op = 12) with ho | ho | ho | ho | ho | ho | ho | ho | ho | ho | ho | ho
    all_goals
      simp only [kindOf, ho, reduceIte, Int.reduceEq, nodeOk, ok1, ok2, ok3, ok4, ok5, wantZ, rk, rpad, rpad0, rout, rto, rscale, twoB, windowB, decide_true, decide_false, Bool.or_false, Bool.false_or, Bool.or_true, Bool.true_or, Bool.and_true, Bool.true_and, Bool.not_false, Bool.not_true, Bool.and_false, Bool.false_and, Int.reduceLE, Bool.false_eq_true, or_true, or_false, false_or, true_or]
      rw [Bool.eq_iff_iff]
      by_cases hto : n.to = ⟨0, 0, 0⟩
      · simp [inB, hto]
        omega
      · simp [inB, hto]
        try omega
  · have hi : inB 1 12 n.op = false := by
      rw [Bool.eq_false_iff]
      intro h
      simp [inB] at h
      exact hop h
    unfold rnode nodeB kindOf
    rw [hi, if_neg (by omega), if_neg (by omega), if_neg (by omega), if_neg (by omega), if_neg (by omega), if_neg (by omega), if_neg (by omega), if_neg (by omega), if_neg (by omega), if_neg (by omega), if_neg (by omega), if_neg (by omega)]
    simp

end Go.Proofs.Ytdhdbmfipkppiaa
