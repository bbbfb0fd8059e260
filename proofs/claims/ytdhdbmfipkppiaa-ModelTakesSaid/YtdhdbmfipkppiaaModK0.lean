/- The walk of the reference's SameNode: two boxes of nodes. -/
import Derived.Test.YtdhdbmfipkppiaaModQ
import Derived.Test.YtdhdbmfipkppiaaModV
namespace Go.Proofs.Ytdhdbmfipkppiaa
set_option linter.unusedSimpArgs false
set_option linter.unusedVariables false
set_option linter.unnecessarySimpa false
open Go.RowKit

/-- Two boxes of nodes. -/
structure Two (w W : World) (n m : Nd) : Prop where
  hn : Blk W w.heap.size #[.int .i64 n.op, n.inV, .int .i64 n.k, .int .i64 n.st, .int .i64 n.pad, .int .i64 n.out, .int .i64 n.mul, .int .i64 n.sh, .int .i64 n.zero, .int .i64 n.th, .int .i64 n.tw, .int .i64 n.tc, n.wV, n.bV] 40
  hm : Blk W (w.heap.size + 1) #[.int .i64 m.op, m.inV, .int .i64 m.k, .int .i64 m.st, .int .i64 m.pad, .int .i64 m.out, .int .i64 m.mul, .int .i64 m.sh, .int .i64 m.zero, .int .i64 m.th, .int .i64 m.tw, .int .i64 m.tc, m.wV, m.bV] 40
  ext : Ext w W
theorem Two.later {w W W' : World} {n m : Nd} (h : Two w W n m) (e : Ext W W') : Two w W' n m := ⟨h.hn.ext e, h.hm.ext e, h.ext.trans e⟩
theorem two_new (w : World) (n m : Nd) : Two w ((w.alloc (.cells #[.int .i64 n.op, n.inV, .int .i64 n.k, .int .i64 n.st, .int .i64 n.pad, .int .i64 n.out, .int .i64 n.mul, .int .i64 n.sh, .int .i64 n.zero, .int .i64 n.th, .int .i64 n.tw, .int .i64 n.tc, n.wV, n.bV] 40)).alloc (.cells #[.int .i64 m.op, m.inV, .int .i64 m.k, .int .i64 m.st, .int .i64 m.pad, .int .i64 m.out, .int .i64 m.mul, .int .i64 m.sh, .int .i64 m.zero, .int .i64 m.th, .int .i64 m.tw, .int .i64 m.tc, m.wV, m.bV] 40)) n m := by
  have h1 := Blk.new (w.alloc (.cells #[.int .i64 n.op, n.inV, .int .i64 n.k, .int .i64 n.st, .int .i64 n.pad, .int .i64 n.out, .int .i64 n.mul, .int .i64 n.sh, .int .i64 n.zero, .int .i64 n.th, .int .i64 n.tw, .int .i64 n.tc, n.wV, n.bV] 40)) #[.int .i64 m.op, m.inV, .int .i64 m.k, .int .i64 m.st, .int .i64 m.pad, .int .i64 m.out, .int .i64 m.mul, .int .i64 m.sh, .int .i64 m.zero, .int .i64 m.th, .int .i64 m.tw, .int .i64 m.tc, m.wV, m.bV] 40
  rw [show (w.alloc (.cells #[.int .i64 n.op, n.inV, .int .i64 n.k, .int .i64 n.st, .int .i64 n.pad, .int .i64 n.out, .int .i64 n.mul, .int .i64 n.sh, .int .i64 n.zero, .int .i64 n.th, .int .i64 n.tw, .int .i64 n.tc, n.wV, n.bV] 40)).heap.size = w.heap.size + 1 from by simp] at h1
  exact ⟨(Blk.new w _ _).ext (ext_alloc _ _), h1, (ext_alloc w _).trans (ext_alloc _ _)⟩

theorem nc_ext {a b : Nc} (h : a.op = b.op) (h1 : a.k = b.k) (h2 : a.st = b.st) (h3 : a.pad = b.pad) (h4 : a.out = b.out) (h5 : a.mul = b.mul) (h6 : a.sh = b.sh) (h7 : a.zero = b.zero) (h8 : a.th = b.th) (h9 : a.tw = b.tw) (h10 : a.tc = b.tc)
    (h11 : a.ins = b.ins) (h12 : a.ws = b.ws) (h13 : a.bs = b.bs) : a = b := by
  cases a; cases b; simp_all

end Go.Proofs.Ytdhdbmfipkppiaa
