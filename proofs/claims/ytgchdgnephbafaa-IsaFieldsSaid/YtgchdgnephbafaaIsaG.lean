/- The walk of the law IsaFields. -/
import Derived.Test.YtgchdgnephbafaaIsaG1
import Derived.Test.YtgchdgnephbafaaIsaG2
import Derived.Test.YtgchdgnephbafaaIsaG3
import Derived.Test.YtgchdgnephbafaaIsaG4
namespace Go.Proofs.Ytgchdgnephbafaa
open Go.RowKit

theorem isaFields_calls (rows row x0 x1 x2 x3 : Int) (w : World) : Calls Try.prog 3 #[.int .i64 rows, .int .i64 row, .agg #[.int .i64 x0, .int .i64 x1, .int .i64 x2, .int .i64 x3]] w fun e w' => e = .returned (.bool true) ∧ Below w.heap.size w w' := by
  by_cases h1 : 1 ≤ rows ∧ rows ≤ 16
  · rcases Int.lt_or_le x2 0 with h2 | h2
    · exact isaFields_b rows row x0 x1 x2 x3 w h1 h2
    · rcases Int.lt_or_le x2 12 with h3 | h3
      · exact isaFields_c rows row x0 x1 x2 x3 w h1 h2 h3
      · exact isaFields_d rows row x0 x1 x2 x3 w h1 h2 h3
  · exact isaFields_a rows row x0 x1 x2 x3 w h1

end Go.Proofs.Ytgchdgnephbafaa
