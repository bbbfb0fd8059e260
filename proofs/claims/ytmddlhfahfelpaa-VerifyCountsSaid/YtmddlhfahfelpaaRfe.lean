/- The reference of the shape that a node makes. -/
import Derived.Test.YtmddlhfahfelpaaRfd
set_option linter.unusedSimpArgs false
set_option linter.unusedVariables false
set_option linter.unnecessarySimpa false
namespace Go.Proofs.Ytmddlhfahfelpaa
open Go.RowKit

/-- The boxes of a node, of the result and of the first shape. -/
structure BoxM (w W : World) (n : Nd) (x : Vl) : Prop where
  hn : Blk W w.heap.size #[.int .i64 n.op, n.inV, .int .i64 n.k, .int .i64 n.st, .int .i64 n.pad, .int .i64 n.out, .int .i64 n.mul, .int .i64 n.sh, .int .i64 n.zero, .int .i64 n.th, .int .i64 n.tw, .int .i64 n.tc, n.wV, n.bV] 51
  hr : Blk W (w.heap.size + 1) #[.int .i64 0, .int .i64 0, .int .i64 0] 42
  hx : Blk W (w.heap.size + 1 + 1) #[.int .i64 x.s.h, .int .i64 x.s.w, .int .i64 x.s.c] 42
  he : Ext w W

end Go.Proofs.Ytmddlhfahfelpaa
