/-
  No cell of these rows narrows 'for every input' (looked for: loops, veiled, ifaces, maps, wideKeys, modest, calm, conditions, laid).
  DERIVED. THE GIVEN ROWS OF THIS SEAT. 6 by the template 'for every input the law returns true; each argument reads behind the call as it read before'; 0 by the template 'total and deterministic' (their statements: YtgchdgnephbafaaTotals.lean).
  GIVEN WITH THE SEED: the statements are not yours to turn. If you find one false, say at which input.
  Laid BY PROGRAM, IN A SANDBOX (cutbox-rows.mjs): the forced cells as the released guide's own fill.sh prints them over the translation 85584afbab604447… (all of the seat's roots in one cut). By AI agents, Wed Nov 11 2026. No macro, syntax, notation, axiom, sorry.
-/
import Derived.Test.YtgchdgnephbafaaChecked
import GoSem.Claim
import GoSem.ClaimJoined
import GoSem.ClaimMapViews
import Derived.JoinedTies
import Derived.KernelRfl
namespace Go.Proofs.Ytgchdgnephbafaa
/- THE CELL 'sum', in the pinned program and in every row, IS THE sha256 OF THE DUMP (.gsa) THAT YtgchdgnephbafaaProg.lean LOADS. Nothing in Lean hashes anything: it is a label: what it is worth is what the hold of that sum in a sandbox is worth. -/
noncomputable def Try.pinned : Pinned := { name := "ytgchdgnephbafaa", sum := "85584afbab60444708932d82fdffc9ed7b6d702324dd37c26ceb21fb5d9a0a4f", checked := Try.checked }
namespace Rows
def none {H : Type} : Left H := { results := [], args := [] }

/-- 'quiltlaw08.IsaFields': WHATEVER THE INPUT: true; the input reads as it did. -/
def isaFieldsSpec : ChangeSpec := { name := "isaFields", fn := fun _ => fun
  | [d1, d2, d3] => { results := [.lit (.bool true)], args := [d1, d2, d3] }
  | _ => none }
def isaFieldsRow : OpenClaim := { program := "ytgchdgnephbafaa", sum := "85584afbab60444708932d82fdffc9ed7b6d702324dd37c26ceb21fb5d9a0a4f", func := "quilt/quiltlaw08.IsaFields", spec := "isaFields", apart := false }
def IsaFieldsSaid : Prop := isaFieldsRow.holds Try.pinned (OpenSpec.ofChange isaFieldsSpec)

/-- ITS FALSE NEIGHBOUR: 'it returns false'. Refute it at one input. -/
def isaFieldsWrong : ChangeSpec := { name := "isaFields", fn := fun _ => fun
  | [d1, d2, d3] => { results := [.lit (.bool false)], args := [d1, d2, d3] }
  | _ => none }
def IsaFieldsWrongFalsely : Prop := isaFieldsRow.holds Try.pinned (OpenSpec.ofChange isaFieldsWrong)

/-- 'quiltlaw08.IsaPuts': WHATEVER THE INPUT: true; the input reads as it did. -/
def isaPutsSpec : ChangeSpec := { name := "isaPuts", fn := fun _ => fun
  | [d] => { results := [.lit (.bool true)], args := [d] }
  | _ => none }
def isaPutsRow : OpenClaim := { program := "ytgchdgnephbafaa", sum := "85584afbab60444708932d82fdffc9ed7b6d702324dd37c26ceb21fb5d9a0a4f", func := "quilt/quiltlaw08.IsaPuts", spec := "isaPuts", apart := false }
def IsaPutsSaid : Prop := isaPutsRow.holds Try.pinned (OpenSpec.ofChange isaPutsSpec)

/-- ITS FALSE NEIGHBOUR: 'it returns false'. Refute it at one input. -/
def isaPutsWrong : ChangeSpec := { name := "isaPuts", fn := fun _ => fun
  | [d] => { results := [.lit (.bool false)], args := [d] }
  | _ => none }
def IsaPutsWrongFalsely : Prop := isaPutsRow.holds Try.pinned (OpenSpec.ofChange isaPutsWrong)

/-- 'quiltlaw08.IsaSteps': WHATEVER THE INPUT: true; the input reads as it did. -/
def isaStepsSpec : ChangeSpec := { name := "isaSteps", fn := fun _ => fun
  | [d] => { results := [.lit (.bool true)], args := [d] }
  | _ => none }
def isaStepsRow : OpenClaim := { program := "ytgchdgnephbafaa", sum := "85584afbab60444708932d82fdffc9ed7b6d702324dd37c26ceb21fb5d9a0a4f", func := "quilt/quiltlaw08.IsaSteps", spec := "isaSteps", apart := false }
def IsaStepsSaid : Prop := isaStepsRow.holds Try.pinned (OpenSpec.ofChange isaStepsSpec)

/-- ITS FALSE NEIGHBOUR: 'it returns false'. Refute it at one input. -/
def isaStepsWrong : ChangeSpec := { name := "isaSteps", fn := fun _ => fun
  | [d] => { results := [.lit (.bool false)], args := [d] }
  | _ => none }
def IsaStepsWrongFalsely : Prop := isaStepsRow.holds Try.pinned (OpenSpec.ofChange isaStepsWrong)

/-- 'quiltlaw08.IsaTakes': WHATEVER THE INPUT: true; the input reads as it did. -/
def isaTakesSpec : ChangeSpec := { name := "isaTakes", fn := fun _ => fun
  | [d] => { results := [.lit (.bool true)], args := [d] }
  | _ => none }
def isaTakesRow : OpenClaim := { program := "ytgchdgnephbafaa", sum := "85584afbab60444708932d82fdffc9ed7b6d702324dd37c26ceb21fb5d9a0a4f", func := "quilt/quiltlaw08.IsaTakes", spec := "isaTakes", apart := false }
def IsaTakesSaid : Prop := isaTakesRow.holds Try.pinned (OpenSpec.ofChange isaTakesSpec)

/-- ITS FALSE NEIGHBOUR: 'it returns false'. Refute it at one input. -/
def isaTakesWrong : ChangeSpec := { name := "isaTakes", fn := fun _ => fun
  | [d] => { results := [.lit (.bool false)], args := [d] }
  | _ => none }
def IsaTakesWrongFalsely : Prop := isaTakesRow.holds Try.pinned (OpenSpec.ofChange isaTakesWrong)

/-- 'quiltlaw08.IsaBack': WHATEVER THE INPUT: true; the input reads as it did. -/
def isaBackSpec : ChangeSpec := { name := "isaBack", fn := fun _ => fun
  | [d1, d2, d3] => { results := [.lit (.bool true)], args := [d1, d2, d3] }
  | _ => none }
def isaBackRow : OpenClaim := { program := "ytgchdgnephbafaa", sum := "85584afbab60444708932d82fdffc9ed7b6d702324dd37c26ceb21fb5d9a0a4f", func := "quilt/quiltlaw08.IsaBack", spec := "isaBack", apart := false }
def IsaBackSaid : Prop := isaBackRow.holds Try.pinned (OpenSpec.ofChange isaBackSpec)

/-- ITS FALSE NEIGHBOUR: 'it returns false'. Refute it at one input. -/
def isaBackWrong : ChangeSpec := { name := "isaBack", fn := fun _ => fun
  | [d1, d2, d3] => { results := [.lit (.bool false)], args := [d1, d2, d3] }
  | _ => none }
def IsaBackWrongFalsely : Prop := isaBackRow.holds Try.pinned (OpenSpec.ofChange isaBackWrong)

/-- 'quiltlaw08.IsaLong': WHATEVER THE INPUT: true; the input reads as it did. -/
def isaLongSpec : ChangeSpec := { name := "isaLong", fn := fun _ => fun
  | [d1, d2] => { results := [.lit (.bool true)], args := [d1, d2] }
  | _ => none }
def isaLongRow : OpenClaim := { program := "ytgchdgnephbafaa", sum := "85584afbab60444708932d82fdffc9ed7b6d702324dd37c26ceb21fb5d9a0a4f", func := "quilt/quiltlaw08.IsaLong", spec := "isaLong", apart := false }
def IsaLongSaid : Prop := isaLongRow.holds Try.pinned (OpenSpec.ofChange isaLongSpec)

/-- ITS FALSE NEIGHBOUR: 'it returns false'. Refute it at one input. -/
def isaLongWrong : ChangeSpec := { name := "isaLong", fn := fun _ => fun
  | [d1, d2] => { results := [.lit (.bool false)], args := [d1, d2] }
  | _ => none }
def IsaLongWrongFalsely : Prop := isaLongRow.holds Try.pinned (OpenSpec.ofChange isaLongWrong)

/- THE SECOND FORM. 'bulk': how many values and letters a reading holds, each counted each time it is reached (what is shared counts as often as it is met; a slice's spare places count too). A statement '..UptoSaid' is the law's where the arguments, and the package variables that the reading takes, are together of bulk at most 1048576: NARROWER than '..Said'. Prove '..Said' where nothing that the law and all that it calls make is longer than what came in: it says more and counts as full. Else prove '..UptoSaid'. A law counts once. -/
mutual
def uptoBulk {H : Type} : DataW H → Nat
  | .lit (.string bytes) => bytes.length + 1
  | .lit _ => 1
  | .nil => 1
  | .ptr d => uptoBulk d + 1
  | .slice elems spare => uptoBulkAll elems + uptoBulkAll spare + 1
  | .agg parts => uptoBulkAll parts + 1
  | .iface _ d => uptoBulk d + 1
  | .map entries => uptoBulkEntries entries + 1
  | .held _ => 1
def uptoBulkAll {H : Type} : List (DataW H) → Nat
  | [] => 0
  | d :: r => uptoBulk d + uptoBulkAll r
def uptoBulkEntries {H : Type} : List (Lit × DataW H) → Nat
  | [] => 0
  | x :: r => uptoBulkEntry x + uptoBulkEntries r
def uptoBulkEntry {H : Type} : Lit × DataW H → Nat
  | (.string bytes, d) => bytes.length + uptoBulk d + 1
  | (_, d) => uptoBulk d + 1
 end
def uptoSmall : (H : Type) → List (DataW H) → Bool := fun _ ds => decide (uptoBulkAll ds ≤ 1048576)
def OpenSpec.upto (s : _root_.Go.ChangeSpec) : _root_.Go.OpenSpec := { _root_.Go.OpenSpec.ofChange s with cond := some uptoSmall }

/-- 'quiltlaw08.IsaFields', WHERE WHAT IT READS IS OF BULK AT MOST 1048576: true; the input reads as it did. -/
def isaFieldsUptoRow : OpenClaim := { program := "ytgchdgnephbafaa", sum := "85584afbab60444708932d82fdffc9ed7b6d702324dd37c26ceb21fb5d9a0a4f", func := "quilt/quiltlaw08.IsaFields", spec := "isaFields", apart := false, narrowed := true }
def IsaFieldsUptoSaid : Prop := isaFieldsUptoRow.holds Try.pinned (OpenSpec.upto isaFieldsSpec)

/-- 'quiltlaw08.IsaPuts', WHERE WHAT IT READS IS OF BULK AT MOST 1048576: true; the input reads as it did. -/
def isaPutsUptoRow : OpenClaim := { program := "ytgchdgnephbafaa", sum := "85584afbab60444708932d82fdffc9ed7b6d702324dd37c26ceb21fb5d9a0a4f", func := "quilt/quiltlaw08.IsaPuts", spec := "isaPuts", apart := false, narrowed := true }
def IsaPutsUptoSaid : Prop := isaPutsUptoRow.holds Try.pinned (OpenSpec.upto isaPutsSpec)

/-- 'quiltlaw08.IsaSteps', WHERE WHAT IT READS IS OF BULK AT MOST 1048576: true; the input reads as it did. -/
def isaStepsUptoRow : OpenClaim := { program := "ytgchdgnephbafaa", sum := "85584afbab60444708932d82fdffc9ed7b6d702324dd37c26ceb21fb5d9a0a4f", func := "quilt/quiltlaw08.IsaSteps", spec := "isaSteps", apart := false, narrowed := true }
def IsaStepsUptoSaid : Prop := isaStepsUptoRow.holds Try.pinned (OpenSpec.upto isaStepsSpec)

/-- 'quiltlaw08.IsaTakes', WHERE WHAT IT READS IS OF BULK AT MOST 1048576: true; the input reads as it did. -/
def isaTakesUptoRow : OpenClaim := { program := "ytgchdgnephbafaa", sum := "85584afbab60444708932d82fdffc9ed7b6d702324dd37c26ceb21fb5d9a0a4f", func := "quilt/quiltlaw08.IsaTakes", spec := "isaTakes", apart := false, narrowed := true }
def IsaTakesUptoSaid : Prop := isaTakesUptoRow.holds Try.pinned (OpenSpec.upto isaTakesSpec)

/-- 'quiltlaw08.IsaBack', WHERE WHAT IT READS IS OF BULK AT MOST 1048576: true; the input reads as it did. -/
def isaBackUptoRow : OpenClaim := { program := "ytgchdgnephbafaa", sum := "85584afbab60444708932d82fdffc9ed7b6d702324dd37c26ceb21fb5d9a0a4f", func := "quilt/quiltlaw08.IsaBack", spec := "isaBack", apart := false, narrowed := true }
def IsaBackUptoSaid : Prop := isaBackUptoRow.holds Try.pinned (OpenSpec.upto isaBackSpec)

/-- 'quiltlaw08.IsaLong', WHERE WHAT IT READS IS OF BULK AT MOST 1048576: true; the input reads as it did. -/
def isaLongUptoRow : OpenClaim := { program := "ytgchdgnephbafaa", sum := "85584afbab60444708932d82fdffc9ed7b6d702324dd37c26ceb21fb5d9a0a4f", func := "quilt/quiltlaw08.IsaLong", spec := "isaLong", apart := false, narrowed := true }
def IsaLongUptoSaid : Prop := isaLongUptoRow.holds Try.pinned (OpenSpec.upto isaLongSpec)

end Rows
end Go.Proofs.Ytgchdgnephbafaa
