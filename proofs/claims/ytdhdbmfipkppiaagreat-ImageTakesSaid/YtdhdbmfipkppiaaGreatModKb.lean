/- The walk of the reference's SameNode: where two nodes differ (values, op, window). -/
/- The walk of the reference's SameNode: where two nodes differ (padding, numbers). -/
import Derived.Test.YtdhdbmfipkppiaaGreatModK0
set_option linter.unusedSimpArgs false
set_option linter.unusedVariables false
set_option linter.unnecessarySimpa false
namespace Go.Proofs.YtdhdbmfipkppiaaGreat
open Go.RowKit

set_option maxRecDepth 20000 in
set_option maxHeartbeats 12800000 in
theorem sn_ins (n m : Nd) (w : World) (hn : nodeAt w n) (hm : nodeAt w m) (hi : n.ins ≠ m.ins) :
    Calls Tryz.prog 55 #[.agg #[.int .i64 n.op, n.inV, .int .i64 n.k, .int .i64 n.st, .int .i64 n.pad, .int .i64 n.out, .int .i64 n.mul, .int .i64 n.sh, .int .i64 n.zero, .int .i64 n.th, .int .i64 n.tw, .int .i64 n.tc, n.wV, n.bV], .agg #[.int .i64 m.op, m.inV, .int .i64 m.k, .int .i64 m.st, .int .i64 m.pad, .int .i64 m.out, .int .i64 m.mul, .int .i64 m.sh, .int .i64 m.zero, .int .i64 m.th, .int .i64 m.tw, .int .i64 m.tc, m.wV, m.bV]] w fun e w' => e = .returned (.bool false) ∧ Ext w w' := by
  have hT := two_new w n m
  obtain ⟨n1, n2, n3, n4, n5, n6, n7, n8⟩ := hn
  obtain ⟨m1, m2, m3, m4, m5, m6, m7, m8⟩ := hm
  have hsi := fun W (h : Ext w W) => sameInts_calls n.inV m.inV _ _ W (n1.ext h) (m1.ext h)
  rw [decide_eq_false hi] at hsi
  clear hi
  clear n1 m1 n2 n3 m2 m3 n4 n5 n6 n7 n8 m4 m5 m6 m7 m8
  go_enter Tryz.func55, Tryz.ntmps55
  go_upto_region 1 with fail
  generalize World.alloc (World.alloc w _) _ = w1 at *
  have x1 : World.cell? w1 ⟨w.heap.size, 1, none⟩ = some n.inV := hT.hn.cell 1
  have y1 : World.cell? w1 ⟨w.heap.size + 1, 1, none⟩ = some m.inV := hT.hm.cell 1
  go_upto_region 2 with (go_at_call 54; refine (hsi _ hT.ext).mono ?_; rintro e w2 ⟨rfl, h2⟩)
  clear x1 y1 hsi
  replace hT := hT.later h2
  clear h2

  have hEE := hT.ext
  clear hT
  go_wp2_with fail
  go_ret
  exact ⟨rfl, hEE⟩

set_option maxRecDepth 20000 in
set_option maxHeartbeats 12800000 in
theorem sn_op (n m : Nd) (w : World) (hn : nodeAt w n) (hm : nodeAt w m) (hi : n.ins = m.ins)  (hop : n.op ≠ m.op) :
    Calls Tryz.prog 55 #[.agg #[.int .i64 n.op, n.inV, .int .i64 n.k, .int .i64 n.st, .int .i64 n.pad, .int .i64 n.out, .int .i64 n.mul, .int .i64 n.sh, .int .i64 n.zero, .int .i64 n.th, .int .i64 n.tw, .int .i64 n.tc, n.wV, n.bV], .agg #[.int .i64 m.op, m.inV, .int .i64 m.k, .int .i64 m.st, .int .i64 m.pad, .int .i64 m.out, .int .i64 m.mul, .int .i64 m.sh, .int .i64 m.zero, .int .i64 m.th, .int .i64 m.tw, .int .i64 m.tc, m.wV, m.bV]] w fun e w' => e = .returned (.bool false) ∧ Ext w w' := by
  have hT := two_new w n m
  obtain ⟨n1, n2, n3, n4, n5, n6, n7, n8⟩ := hn
  obtain ⟨m1, m2, m3, m4, m5, m6, m7, m8⟩ := hm
  have hsi := fun W (h : Ext w W) => sameInts_calls n.inV m.inV _ _ W (n1.ext h) (m1.ext h)
  rw [decide_eq_true hi] at hsi
  clear hi
  have top : (n.op != m.op) = true := by simp [hop]
  clear hop
  clear n1 m1 n2 n3 m2 m3 n4 n5 n6 n7 n8 m4 m5 m6 m7 m8
  go_enter Tryz.func55, Tryz.ntmps55
  go_upto_region 1 with fail
  generalize World.alloc (World.alloc w _) _ = w1 at *
  have x1 : World.cell? w1 ⟨w.heap.size, 1, none⟩ = some n.inV := hT.hn.cell 1
  have y1 : World.cell? w1 ⟨w.heap.size + 1, 1, none⟩ = some m.inV := hT.hm.cell 1
  go_upto_region 2 with (go_at_call 54; refine (hsi _ hT.ext).mono ?_; rintro e w2 ⟨rfl, h2⟩)
  clear x1 y1 hsi
  replace hT := hT.later h2
  clear h2
  have x0 : World.cell? w2 ⟨w.heap.size, 0, none⟩ = some (.int .i64 n.op) := hT.hn.cell 0
  have y0 : World.cell? w2 ⟨w.heap.size + 1, 0, none⟩ = some (.int .i64 m.op) := hT.hm.cell 0
  have hEE := hT.ext
  clear hT
  go_wp2_with fail
  go_ret
  exact ⟨rfl, hEE⟩

set_option maxRecDepth 20000 in
set_option maxHeartbeats 12800000 in
theorem sn_k (n m : Nd) (w : World) (hn : nodeAt w n) (hm : nodeAt w m) (hi : n.ins = m.ins) (hop : n.op = m.op) (hk : n.k ≠ m.k) :
    Calls Tryz.prog 55 #[.agg #[.int .i64 n.op, n.inV, .int .i64 n.k, .int .i64 n.st, .int .i64 n.pad, .int .i64 n.out, .int .i64 n.mul, .int .i64 n.sh, .int .i64 n.zero, .int .i64 n.th, .int .i64 n.tw, .int .i64 n.tc, n.wV, n.bV], .agg #[.int .i64 m.op, m.inV, .int .i64 m.k, .int .i64 m.st, .int .i64 m.pad, .int .i64 m.out, .int .i64 m.mul, .int .i64 m.sh, .int .i64 m.zero, .int .i64 m.th, .int .i64 m.tw, .int .i64 m.tc, m.wV, m.bV]] w fun e w' => e = .returned (.bool false) ∧ Ext w w' := by
  have hT := two_new w n m
  obtain ⟨n1, n2, n3, n4, n5, n6, n7, n8⟩ := hn
  obtain ⟨m1, m2, m3, m4, m5, m6, m7, m8⟩ := hm
  have hsi := fun W (h : Ext w W) => sameInts_calls n.inV m.inV _ _ W (n1.ext h) (m1.ext h)
  rw [decide_eq_true hi] at hsi
  clear hi
  have top : (n.op != m.op) = false := by simp [hop]
  clear hop
  have tk : (n.k != m.k) = true := by simp [hk]
  clear hk
  clear n1 m1 n2 n3 m2 m3 n4 n5 n6 n7 n8 m4 m5 m6 m7 m8
  go_enter Tryz.func55, Tryz.ntmps55
  go_upto_region 1 with fail
  generalize World.alloc (World.alloc w _) _ = w1 at *
  have x1 : World.cell? w1 ⟨w.heap.size, 1, none⟩ = some n.inV := hT.hn.cell 1
  have y1 : World.cell? w1 ⟨w.heap.size + 1, 1, none⟩ = some m.inV := hT.hm.cell 1
  go_upto_region 2 with (go_at_call 54; refine (hsi _ hT.ext).mono ?_; rintro e w2 ⟨rfl, h2⟩)
  clear x1 y1 hsi
  replace hT := hT.later h2
  clear h2
  have x0 : World.cell? w2 ⟨w.heap.size, 0, none⟩ = some (.int .i64 n.op) := hT.hn.cell 0
  have x2 : World.cell? w2 ⟨w.heap.size, 2, none⟩ = some (.int .i64 n.k) := hT.hn.cell 2
  have y0 : World.cell? w2 ⟨w.heap.size + 1, 0, none⟩ = some (.int .i64 m.op) := hT.hm.cell 0
  have y2 : World.cell? w2 ⟨w.heap.size + 1, 2, none⟩ = some (.int .i64 m.k) := hT.hm.cell 2
  have hEE := hT.ext
  clear hT
  go_wp2_with fail
  go_ret
  exact ⟨rfl, hEE⟩

set_option maxRecDepth 20000 in
set_option maxHeartbeats 12800000 in
theorem sn_st (n m : Nd) (w : World) (hn : nodeAt w n) (hm : nodeAt w m) (hi : n.ins = m.ins) (hop : n.op = m.op) (hk : n.k = m.k) (hst : n.st ≠ m.st) :
    Calls Tryz.prog 55 #[.agg #[.int .i64 n.op, n.inV, .int .i64 n.k, .int .i64 n.st, .int .i64 n.pad, .int .i64 n.out, .int .i64 n.mul, .int .i64 n.sh, .int .i64 n.zero, .int .i64 n.th, .int .i64 n.tw, .int .i64 n.tc, n.wV, n.bV], .agg #[.int .i64 m.op, m.inV, .int .i64 m.k, .int .i64 m.st, .int .i64 m.pad, .int .i64 m.out, .int .i64 m.mul, .int .i64 m.sh, .int .i64 m.zero, .int .i64 m.th, .int .i64 m.tw, .int .i64 m.tc, m.wV, m.bV]] w fun e w' => e = .returned (.bool false) ∧ Ext w w' := by
  have hT := two_new w n m
  obtain ⟨n1, n2, n3, n4, n5, n6, n7, n8⟩ := hn
  obtain ⟨m1, m2, m3, m4, m5, m6, m7, m8⟩ := hm
  have hsi := fun W (h : Ext w W) => sameInts_calls n.inV m.inV _ _ W (n1.ext h) (m1.ext h)
  rw [decide_eq_true hi] at hsi
  clear hi
  have top : (n.op != m.op) = false := by simp [hop]
  clear hop
  have tk : (n.k != m.k) = false := by simp [hk]
  clear hk
  have tst : (n.st != m.st) = true := by simp [hst]
  clear hst
  clear n1 m1 n2 n3 m2 m3 n4 n5 n6 n7 n8 m4 m5 m6 m7 m8
  go_enter Tryz.func55, Tryz.ntmps55
  go_upto_region 1 with fail
  generalize World.alloc (World.alloc w _) _ = w1 at *
  have x1 : World.cell? w1 ⟨w.heap.size, 1, none⟩ = some n.inV := hT.hn.cell 1
  have y1 : World.cell? w1 ⟨w.heap.size + 1, 1, none⟩ = some m.inV := hT.hm.cell 1
  go_upto_region 2 with (go_at_call 54; refine (hsi _ hT.ext).mono ?_; rintro e w2 ⟨rfl, h2⟩)
  clear x1 y1 hsi
  replace hT := hT.later h2
  clear h2
  have x0 : World.cell? w2 ⟨w.heap.size, 0, none⟩ = some (.int .i64 n.op) := hT.hn.cell 0
  have x2 : World.cell? w2 ⟨w.heap.size, 2, none⟩ = some (.int .i64 n.k) := hT.hn.cell 2
  have x3 : World.cell? w2 ⟨w.heap.size, 3, none⟩ = some (.int .i64 n.st) := hT.hn.cell 3
  have y0 : World.cell? w2 ⟨w.heap.size + 1, 0, none⟩ = some (.int .i64 m.op) := hT.hm.cell 0
  have y2 : World.cell? w2 ⟨w.heap.size + 1, 2, none⟩ = some (.int .i64 m.k) := hT.hm.cell 2
  have y3 : World.cell? w2 ⟨w.heap.size + 1, 3, none⟩ = some (.int .i64 m.st) := hT.hm.cell 3
  have hEE := hT.ext
  clear hT
  go_wp2_with fail
  go_ret
  exact ⟨rfl, hEE⟩

end Go.Proofs.YtdhdbmfipkppiaaGreat

namespace Go.Proofs.YtdhdbmfipkppiaaGreat
open Go.RowKit

set_option maxRecDepth 20000 in
set_option maxHeartbeats 12800000 in
theorem sn_pad (n m : Nd) (w : World) (hn : nodeAt w n) (hm : nodeAt w m) (hi : n.ins = m.ins) (hop : n.op = m.op) (hk : n.k = m.k) (hst : n.st = m.st) (hpad : n.pad ≠ m.pad) :
    Calls Tryz.prog 55 #[.agg #[.int .i64 n.op, n.inV, .int .i64 n.k, .int .i64 n.st, .int .i64 n.pad, .int .i64 n.out, .int .i64 n.mul, .int .i64 n.sh, .int .i64 n.zero, .int .i64 n.th, .int .i64 n.tw, .int .i64 n.tc, n.wV, n.bV], .agg #[.int .i64 m.op, m.inV, .int .i64 m.k, .int .i64 m.st, .int .i64 m.pad, .int .i64 m.out, .int .i64 m.mul, .int .i64 m.sh, .int .i64 m.zero, .int .i64 m.th, .int .i64 m.tw, .int .i64 m.tc, m.wV, m.bV]] w fun e w' => e = .returned (.bool false) ∧ Ext w w' := by
  have hT := two_new w n m
  obtain ⟨n1, n2, n3, n4, n5, n6, n7, n8⟩ := hn
  obtain ⟨m1, m2, m3, m4, m5, m6, m7, m8⟩ := hm
  have hsi := fun W (h : Ext w W) => sameInts_calls n.inV m.inV _ _ W (n1.ext h) (m1.ext h)
  rw [decide_eq_true hi] at hsi
  clear hi
  have top : (n.op != m.op) = false := by simp [hop]
  clear hop
  have tk : (n.k != m.k) = false := by simp [hk]
  clear hk
  have tst : (n.st != m.st) = false := by simp [hst]
  clear hst
  have tpad : (n.pad != m.pad) = true := by simp [hpad]
  clear hpad
  clear n1 m1 n2 n3 m2 m3 n4 n5 n6 n7 n8 m4 m5 m6 m7 m8
  go_enter Tryz.func55, Tryz.ntmps55
  go_upto_region 1 with fail
  generalize World.alloc (World.alloc w _) _ = w1 at *
  have x1 : World.cell? w1 ⟨w.heap.size, 1, none⟩ = some n.inV := hT.hn.cell 1
  have y1 : World.cell? w1 ⟨w.heap.size + 1, 1, none⟩ = some m.inV := hT.hm.cell 1
  go_upto_region 2 with (go_at_call 54; refine (hsi _ hT.ext).mono ?_; rintro e w2 ⟨rfl, h2⟩)
  clear x1 y1 hsi
  replace hT := hT.later h2
  clear h2
  have x0 : World.cell? w2 ⟨w.heap.size, 0, none⟩ = some (.int .i64 n.op) := hT.hn.cell 0
  have x2 : World.cell? w2 ⟨w.heap.size, 2, none⟩ = some (.int .i64 n.k) := hT.hn.cell 2
  have x3 : World.cell? w2 ⟨w.heap.size, 3, none⟩ = some (.int .i64 n.st) := hT.hn.cell 3
  have x4 : World.cell? w2 ⟨w.heap.size, 4, none⟩ = some (.int .i64 n.pad) := hT.hn.cell 4
  have y0 : World.cell? w2 ⟨w.heap.size + 1, 0, none⟩ = some (.int .i64 m.op) := hT.hm.cell 0
  have y2 : World.cell? w2 ⟨w.heap.size + 1, 2, none⟩ = some (.int .i64 m.k) := hT.hm.cell 2
  have y3 : World.cell? w2 ⟨w.heap.size + 1, 3, none⟩ = some (.int .i64 m.st) := hT.hm.cell 3
  have y4 : World.cell? w2 ⟨w.heap.size + 1, 4, none⟩ = some (.int .i64 m.pad) := hT.hm.cell 4
  have hEE := hT.ext
  clear hT
  go_wp2_with fail
  go_ret
  exact ⟨rfl, hEE⟩

set_option maxRecDepth 20000 in
set_option maxHeartbeats 12800000 in
theorem sn_out (n m : Nd) (w : World) (hn : nodeAt w n) (hm : nodeAt w m) (hi : n.ins = m.ins) (hop : n.op = m.op) (hk : n.k = m.k) (hst : n.st = m.st) (hpad : n.pad = m.pad) (hout : n.out ≠ m.out) :
    Calls Tryz.prog 55 #[.agg #[.int .i64 n.op, n.inV, .int .i64 n.k, .int .i64 n.st, .int .i64 n.pad, .int .i64 n.out, .int .i64 n.mul, .int .i64 n.sh, .int .i64 n.zero, .int .i64 n.th, .int .i64 n.tw, .int .i64 n.tc, n.wV, n.bV], .agg #[.int .i64 m.op, m.inV, .int .i64 m.k, .int .i64 m.st, .int .i64 m.pad, .int .i64 m.out, .int .i64 m.mul, .int .i64 m.sh, .int .i64 m.zero, .int .i64 m.th, .int .i64 m.tw, .int .i64 m.tc, m.wV, m.bV]] w fun e w' => e = .returned (.bool false) ∧ Ext w w' := by
  have hT := two_new w n m
  obtain ⟨n1, n2, n3, n4, n5, n6, n7, n8⟩ := hn
  obtain ⟨m1, m2, m3, m4, m5, m6, m7, m8⟩ := hm
  have hsi := fun W (h : Ext w W) => sameInts_calls n.inV m.inV _ _ W (n1.ext h) (m1.ext h)
  rw [decide_eq_true hi] at hsi
  clear hi
  have top : (n.op != m.op) = false := by simp [hop]
  clear hop
  have tk : (n.k != m.k) = false := by simp [hk]
  clear hk
  have tst : (n.st != m.st) = false := by simp [hst]
  clear hst
  have tpad : (n.pad != m.pad) = false := by simp [hpad]
  clear hpad
  have tout : (n.out != m.out) = true := by simp [hout]
  clear hout
  clear n1 m1 n2 n3 m2 m3 n4 n5 n6 n7 n8 m4 m5 m6 m7 m8
  go_enter Tryz.func55, Tryz.ntmps55
  go_upto_region 1 with fail
  generalize World.alloc (World.alloc w _) _ = w1 at *
  have x1 : World.cell? w1 ⟨w.heap.size, 1, none⟩ = some n.inV := hT.hn.cell 1
  have y1 : World.cell? w1 ⟨w.heap.size + 1, 1, none⟩ = some m.inV := hT.hm.cell 1
  go_upto_region 2 with (go_at_call 54; refine (hsi _ hT.ext).mono ?_; rintro e w2 ⟨rfl, h2⟩)
  clear x1 y1 hsi
  replace hT := hT.later h2
  clear h2
  have x0 : World.cell? w2 ⟨w.heap.size, 0, none⟩ = some (.int .i64 n.op) := hT.hn.cell 0
  have x2 : World.cell? w2 ⟨w.heap.size, 2, none⟩ = some (.int .i64 n.k) := hT.hn.cell 2
  have x3 : World.cell? w2 ⟨w.heap.size, 3, none⟩ = some (.int .i64 n.st) := hT.hn.cell 3
  have x4 : World.cell? w2 ⟨w.heap.size, 4, none⟩ = some (.int .i64 n.pad) := hT.hn.cell 4
  have x5 : World.cell? w2 ⟨w.heap.size, 5, none⟩ = some (.int .i64 n.out) := hT.hn.cell 5
  have y0 : World.cell? w2 ⟨w.heap.size + 1, 0, none⟩ = some (.int .i64 m.op) := hT.hm.cell 0
  have y2 : World.cell? w2 ⟨w.heap.size + 1, 2, none⟩ = some (.int .i64 m.k) := hT.hm.cell 2
  have y3 : World.cell? w2 ⟨w.heap.size + 1, 3, none⟩ = some (.int .i64 m.st) := hT.hm.cell 3
  have y4 : World.cell? w2 ⟨w.heap.size + 1, 4, none⟩ = some (.int .i64 m.pad) := hT.hm.cell 4
  have y5 : World.cell? w2 ⟨w.heap.size + 1, 5, none⟩ = some (.int .i64 m.out) := hT.hm.cell 5
  have hEE := hT.ext
  clear hT
  go_wp2_with fail
  go_ret
  exact ⟨rfl, hEE⟩

set_option maxRecDepth 20000 in
set_option maxHeartbeats 12800000 in
theorem sn_mul (n m : Nd) (w : World) (hn : nodeAt w n) (hm : nodeAt w m) (hi : n.ins = m.ins) (hop : n.op = m.op) (hk : n.k = m.k) (hst : n.st = m.st) (hpad : n.pad = m.pad) (hout : n.out = m.out) (hmul : n.mul ≠ m.mul) :
    Calls Tryz.prog 55 #[.agg #[.int .i64 n.op, n.inV, .int .i64 n.k, .int .i64 n.st, .int .i64 n.pad, .int .i64 n.out, .int .i64 n.mul, .int .i64 n.sh, .int .i64 n.zero, .int .i64 n.th, .int .i64 n.tw, .int .i64 n.tc, n.wV, n.bV], .agg #[.int .i64 m.op, m.inV, .int .i64 m.k, .int .i64 m.st, .int .i64 m.pad, .int .i64 m.out, .int .i64 m.mul, .int .i64 m.sh, .int .i64 m.zero, .int .i64 m.th, .int .i64 m.tw, .int .i64 m.tc, m.wV, m.bV]] w fun e w' => e = .returned (.bool false) ∧ Ext w w' := by
  have hT := two_new w n m
  obtain ⟨n1, n2, n3, n4, n5, n6, n7, n8⟩ := hn
  obtain ⟨m1, m2, m3, m4, m5, m6, m7, m8⟩ := hm
  have hsi := fun W (h : Ext w W) => sameInts_calls n.inV m.inV _ _ W (n1.ext h) (m1.ext h)
  rw [decide_eq_true hi] at hsi
  clear hi
  have top : (n.op != m.op) = false := by simp [hop]
  clear hop
  have tk : (n.k != m.k) = false := by simp [hk]
  clear hk
  have tst : (n.st != m.st) = false := by simp [hst]
  clear hst
  have tpad : (n.pad != m.pad) = false := by simp [hpad]
  clear hpad
  have tout : (n.out != m.out) = false := by simp [hout]
  clear hout
  have tmul : (n.mul != m.mul) = true := by simp [hmul]
  clear hmul
  clear n1 m1 n2 n3 m2 m3 n4 n5 n6 n7 n8 m4 m5 m6 m7 m8
  go_enter Tryz.func55, Tryz.ntmps55
  go_upto_region 1 with fail
  generalize World.alloc (World.alloc w _) _ = w1 at *
  have x1 : World.cell? w1 ⟨w.heap.size, 1, none⟩ = some n.inV := hT.hn.cell 1
  have y1 : World.cell? w1 ⟨w.heap.size + 1, 1, none⟩ = some m.inV := hT.hm.cell 1
  go_upto_region 2 with (go_at_call 54; refine (hsi _ hT.ext).mono ?_; rintro e w2 ⟨rfl, h2⟩)
  clear x1 y1 hsi
  replace hT := hT.later h2
  clear h2
  have x0 : World.cell? w2 ⟨w.heap.size, 0, none⟩ = some (.int .i64 n.op) := hT.hn.cell 0
  have x2 : World.cell? w2 ⟨w.heap.size, 2, none⟩ = some (.int .i64 n.k) := hT.hn.cell 2
  have x3 : World.cell? w2 ⟨w.heap.size, 3, none⟩ = some (.int .i64 n.st) := hT.hn.cell 3
  have x4 : World.cell? w2 ⟨w.heap.size, 4, none⟩ = some (.int .i64 n.pad) := hT.hn.cell 4
  have x5 : World.cell? w2 ⟨w.heap.size, 5, none⟩ = some (.int .i64 n.out) := hT.hn.cell 5
  have x6 : World.cell? w2 ⟨w.heap.size, 6, none⟩ = some (.int .i64 n.mul) := hT.hn.cell 6
  have y0 : World.cell? w2 ⟨w.heap.size + 1, 0, none⟩ = some (.int .i64 m.op) := hT.hm.cell 0
  have y2 : World.cell? w2 ⟨w.heap.size + 1, 2, none⟩ = some (.int .i64 m.k) := hT.hm.cell 2
  have y3 : World.cell? w2 ⟨w.heap.size + 1, 3, none⟩ = some (.int .i64 m.st) := hT.hm.cell 3
  have y4 : World.cell? w2 ⟨w.heap.size + 1, 4, none⟩ = some (.int .i64 m.pad) := hT.hm.cell 4
  have y5 : World.cell? w2 ⟨w.heap.size + 1, 5, none⟩ = some (.int .i64 m.out) := hT.hm.cell 5
  have y6 : World.cell? w2 ⟨w.heap.size + 1, 6, none⟩ = some (.int .i64 m.mul) := hT.hm.cell 6
  have hEE := hT.ext
  clear hT
  go_wp2_with fail
  go_ret
  exact ⟨rfl, hEE⟩

set_option maxRecDepth 20000 in
set_option maxHeartbeats 12800000 in
theorem sn_sh (n m : Nd) (w : World) (hn : nodeAt w n) (hm : nodeAt w m) (hi : n.ins = m.ins) (hop : n.op = m.op) (hk : n.k = m.k) (hst : n.st = m.st) (hpad : n.pad = m.pad) (hout : n.out = m.out) (hmul : n.mul = m.mul) (hsh : n.sh ≠ m.sh) :
    Calls Tryz.prog 55 #[.agg #[.int .i64 n.op, n.inV, .int .i64 n.k, .int .i64 n.st, .int .i64 n.pad, .int .i64 n.out, .int .i64 n.mul, .int .i64 n.sh, .int .i64 n.zero, .int .i64 n.th, .int .i64 n.tw, .int .i64 n.tc, n.wV, n.bV], .agg #[.int .i64 m.op, m.inV, .int .i64 m.k, .int .i64 m.st, .int .i64 m.pad, .int .i64 m.out, .int .i64 m.mul, .int .i64 m.sh, .int .i64 m.zero, .int .i64 m.th, .int .i64 m.tw, .int .i64 m.tc, m.wV, m.bV]] w fun e w' => e = .returned (.bool false) ∧ Ext w w' := by
  have hT := two_new w n m
  obtain ⟨n1, n2, n3, n4, n5, n6, n7, n8⟩ := hn
  obtain ⟨m1, m2, m3, m4, m5, m6, m7, m8⟩ := hm
  have hsi := fun W (h : Ext w W) => sameInts_calls n.inV m.inV _ _ W (n1.ext h) (m1.ext h)
  rw [decide_eq_true hi] at hsi
  clear hi
  have top : (n.op != m.op) = false := by simp [hop]
  clear hop
  have tk : (n.k != m.k) = false := by simp [hk]
  clear hk
  have tst : (n.st != m.st) = false := by simp [hst]
  clear hst
  have tpad : (n.pad != m.pad) = false := by simp [hpad]
  clear hpad
  have tout : (n.out != m.out) = false := by simp [hout]
  clear hout
  have tmul : (n.mul != m.mul) = false := by simp [hmul]
  clear hmul
  have tsh : (n.sh != m.sh) = true := by simp [hsh]
  clear hsh
  clear n1 m1 n2 n3 m2 m3 n4 n5 n6 n7 n8 m4 m5 m6 m7 m8
  go_enter Tryz.func55, Tryz.ntmps55
  go_upto_region 1 with fail
  generalize World.alloc (World.alloc w _) _ = w1 at *
  have x1 : World.cell? w1 ⟨w.heap.size, 1, none⟩ = some n.inV := hT.hn.cell 1
  have y1 : World.cell? w1 ⟨w.heap.size + 1, 1, none⟩ = some m.inV := hT.hm.cell 1
  go_upto_region 2 with (go_at_call 54; refine (hsi _ hT.ext).mono ?_; rintro e w2 ⟨rfl, h2⟩)
  clear x1 y1 hsi
  replace hT := hT.later h2
  clear h2
  have x0 : World.cell? w2 ⟨w.heap.size, 0, none⟩ = some (.int .i64 n.op) := hT.hn.cell 0
  have x2 : World.cell? w2 ⟨w.heap.size, 2, none⟩ = some (.int .i64 n.k) := hT.hn.cell 2
  have x3 : World.cell? w2 ⟨w.heap.size, 3, none⟩ = some (.int .i64 n.st) := hT.hn.cell 3
  have x4 : World.cell? w2 ⟨w.heap.size, 4, none⟩ = some (.int .i64 n.pad) := hT.hn.cell 4
  have x5 : World.cell? w2 ⟨w.heap.size, 5, none⟩ = some (.int .i64 n.out) := hT.hn.cell 5
  have x6 : World.cell? w2 ⟨w.heap.size, 6, none⟩ = some (.int .i64 n.mul) := hT.hn.cell 6
  have x7 : World.cell? w2 ⟨w.heap.size, 7, none⟩ = some (.int .i64 n.sh) := hT.hn.cell 7
  have y0 : World.cell? w2 ⟨w.heap.size + 1, 0, none⟩ = some (.int .i64 m.op) := hT.hm.cell 0
  have y2 : World.cell? w2 ⟨w.heap.size + 1, 2, none⟩ = some (.int .i64 m.k) := hT.hm.cell 2
  have y3 : World.cell? w2 ⟨w.heap.size + 1, 3, none⟩ = some (.int .i64 m.st) := hT.hm.cell 3
  have y4 : World.cell? w2 ⟨w.heap.size + 1, 4, none⟩ = some (.int .i64 m.pad) := hT.hm.cell 4
  have y5 : World.cell? w2 ⟨w.heap.size + 1, 5, none⟩ = some (.int .i64 m.out) := hT.hm.cell 5
  have y6 : World.cell? w2 ⟨w.heap.size + 1, 6, none⟩ = some (.int .i64 m.mul) := hT.hm.cell 6
  have y7 : World.cell? w2 ⟨w.heap.size + 1, 7, none⟩ = some (.int .i64 m.sh) := hT.hm.cell 7
  have hEE := hT.ext
  clear hT
  go_wp2_with fail
  go_ret
  exact ⟨rfl, hEE⟩

end Go.Proofs.YtdhdbmfipkppiaaGreat
