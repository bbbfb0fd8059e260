/- The walk of graph.Same: its function value over two nodes, slices.EqualFunc over nodes. -/
import Derived.Test.YtdhdbmfipkppiaaEqa
import Derived.Test.YtdhdbmfipkppiaaModP
import Derived.Test.YtdhdbmfipkppiaaGri
import Derived.Deep.Cut
import Derived.Deep.CutBlock
import Derived.Deep.DeepCutAuto
namespace Go.Proofs.Ytdhdbmfipkppiaa
set_option linter.unusedSimpArgs false
set_option linter.unusedVariables false
set_option linter.unnecessarySimpa false
set_option maxRecDepth 10000
open Go.RowKit

/-- Two boxes of nodes. -/
structure NdTwo (w W : World) (n m : Nd) : Prop where
  hn : Blk W w.heap.size #[.int .i64 n.op, n.inV, .int .i64 n.k, .int .i64 n.st, .int .i64 n.pad, .int .i64 n.out, .int .i64 n.mul, .int .i64 n.sh, .int .i64 n.zero, .int .i64 n.th, .int .i64 n.tw, .int .i64 n.tc, n.wV, n.bV] 40
  hm : Blk W (w.heap.size + 1) #[.int .i64 m.op, m.inV, .int .i64 m.k, .int .i64 m.st, .int .i64 m.pad, .int .i64 m.out, .int .i64 m.mul, .int .i64 m.sh, .int .i64 m.zero, .int .i64 m.th, .int .i64 m.tw, .int .i64 m.tc, m.wV, m.bV] 40
  ext : Ext w W
theorem NdTwo.later {w W W' : World} {n m : Nd} (h : NdTwo w W n m) (e : Ext W W') : NdTwo w W' n m := ⟨h.hn.ext e, h.hm.ext e, h.ext.trans e⟩
theorem ndTwo_new (w : World) (n m : Nd) : NdTwo w ((w.alloc (.cells #[.int .i64 n.op, n.inV, .int .i64 n.k, .int .i64 n.st, .int .i64 n.pad, .int .i64 n.out, .int .i64 n.mul, .int .i64 n.sh, .int .i64 n.zero, .int .i64 n.th, .int .i64 n.tw, .int .i64 n.tc, n.wV, n.bV] 40)).alloc (.cells #[.int .i64 m.op, m.inV, .int .i64 m.k, .int .i64 m.st, .int .i64 m.pad, .int .i64 m.out, .int .i64 m.mul, .int .i64 m.sh, .int .i64 m.zero, .int .i64 m.th, .int .i64 m.tw, .int .i64 m.tc, m.wV, m.bV] 40)) n m := by
  have h1 := Blk.new (w.alloc (.cells #[.int .i64 n.op, n.inV, .int .i64 n.k, .int .i64 n.st, .int .i64 n.pad, .int .i64 n.out, .int .i64 n.mul, .int .i64 n.sh, .int .i64 n.zero, .int .i64 n.th, .int .i64 n.tw, .int .i64 n.tc, n.wV, n.bV] 40)) #[.int .i64 m.op, m.inV, .int .i64 m.k, .int .i64 m.st, .int .i64 m.pad, .int .i64 m.out, .int .i64 m.mul, .int .i64 m.sh, .int .i64 m.zero, .int .i64 m.th, .int .i64 m.tw, .int .i64 m.tc, m.wV, m.bV] 40
  rw [show (w.alloc (.cells #[.int .i64 n.op, n.inV, .int .i64 n.k, .int .i64 n.st, .int .i64 n.pad, .int .i64 n.out, .int .i64 n.mul, .int .i64 n.sh, .int .i64 n.zero, .int .i64 n.th, .int .i64 n.tw, .int .i64 n.tc, n.wV, n.bV] 40)).heap.size = w.heap.size + 1 from by simp] at h1
  exact ⟨(Blk.new w _ _).ext (ext_alloc _ _), h1, (ext_alloc w _).trans (ext_alloc _ _)⟩

theorem sz_equal (a b : Sz) (w : World) : (Op.equalIn 10000 36 (.agg #[.int .i64 a.h, .int .i64 a.w, .int .i64 a.c]) (.agg #[.int .i64 b.h, .int .i64 b.w, .int .i64 b.c])).run Try.prog w = .ok (decide (a = b)) w := by
  rw [show (10000 : Nat) = 9998 + 2 from rfl, eq_sz]
  congr 1
  rw [Bool.eq_iff_iff, decide_eq_true_iff]
  simp only [Bool.and_eq_true, beq_iff_eq, and_true]
  obtain ⟨a1, a2, a3⟩ := a
  obtain ⟨b1, b2, b3⟩ := b
  simp
theorem sz_eql (a b : Sz) (w : World) : (binOp .eql 36 (.agg #[.int .i64 a.h, .int .i64 a.w, .int .i64 a.c]) (.agg #[.int .i64 b.h, .int .i64 b.w, .int .i64 b.c])).run Try.prog w = .ok (.bool (decide (a = b))) w := by
  have := sz_equal a b w
  rw [run_eql_struct, this]
  rfl
theorem szGuard : Try.prog.eqGuardType Try.prog.depth 36 = false := by kernel_rfl

/-- What two nodes are compared by. -/
def rowsE (n m : Nd) : Bool := decide (n.ins = m.ins) && decide (n.ws = m.ws) && decide (n.bs = m.bs)
def numsE (n m : Nd) : Bool := decide (n.op = m.op) && decide (n.k = m.k) && decide (n.st = m.st) && decide (n.pad = m.pad) && decide (n.out = m.out) && decide ((⟨n.th, n.tw, n.tc⟩ : Sz) = ⟨m.th, m.tw, m.tc⟩)
theorem node_eq (n m : Nd) : decide (n.c = m.c) = (rowsE n m && numsE n m && decide (n.mul = m.mul) && decide (n.sh = m.sh) && decide (n.zero = m.zero)) := by
  unfold rowsE numsE
  rw [Bool.eq_iff_iff]
  simp only [Bool.and_eq_true, decide_eq_true_eq, Nd.c, Nc.mk.injEq, Sz.mk.injEq]
  constructor
  · rintro ⟨h1, h2, h3, h4, h5, h6, h7, h8, h9, h10, h11, h12, h13, h14⟩
    exact ⟨⟨⟨⟨⟨⟨h12, h13⟩, h14⟩, ⟨⟨⟨⟨⟨h1, h2⟩, h3⟩, h4⟩, h5⟩, h9, h10, h11⟩⟩, h6⟩, h7⟩, h8⟩
  · rintro ⟨⟨⟨⟨⟨⟨h12, h13⟩, h14⟩, ⟨⟨⟨⟨⟨h1, h2⟩, h3⟩, h4⟩, h5⟩, h9, h10, h11⟩⟩, h6⟩, h7⟩, h8⟩
    exact ⟨h1, h2, h3, h4, h5, h6, h7, h8, h9, h10, h11, h12, h13, h14⟩

/-- The rows of a node. -/
def NdRows (w : World) (n : Nd) : Prop := Ints .i64 w n.inV n.ins ∧ Ints .i8 w n.wV n.ws ∧ Ints .i32 w n.bV n.bs
theorem NdRows.ext {w W : World} {n : Nd} (h : NdRows w n) (e : Ext w W) : NdRows W n := ⟨h.1.ext e, h.2.1.ext e, h.2.2.ext e⟩

set_option maxRecDepth 20000 in
set_option maxHeartbeats 12800000 in
theorem eqNode_calls (n m : Nd) (w : World) (hn : NdRows w n) (hm : NdRows w m) :
    Calls Try.prog 113 #[.agg #[.int .i64 n.op, n.inV, .int .i64 n.k, .int .i64 n.st, .int .i64 n.pad, .int .i64 n.out, .int .i64 n.mul, .int .i64 n.sh, .int .i64 n.zero, .int .i64 n.th, .int .i64 n.tw, .int .i64 n.tc, n.wV, n.bV], .agg #[.int .i64 m.op, m.inV, .int .i64 m.k, .int .i64 m.st, .int .i64 m.pad, .int .i64 m.out, .int .i64 m.mul, .int .i64 m.sh, .int .i64 m.zero, .int .i64 m.th, .int .i64 m.tw, .int .i64 m.tc, m.wV, m.bV]] w fun e w' => e = .returned (.bool (decide (n.c = m.c))) ∧ Ext w w' := by
  have HPE : Hid (decide (n.c = m.c) = (rowsE n m && numsE n m && decide (n.mul = m.mul) && decide (n.sh = m.sh) && decide (n.zero = m.zero))) := node_eq n m
  have HR1 : Hid (rowsE n m = (decide (n.ins = m.ins) && decide (n.ws = m.ws) && decide (n.bs = m.bs))) := rfl
  have HR2 : Hid (numsE n m = (decide (n.op = m.op) && decide (n.k = m.k) && decide (n.st = m.st) && decide (n.pad = m.pad) && decide (n.out = m.out) && decide ((⟨n.th, n.tw, n.tc⟩ : Sz) = ⟨m.th, m.tw, m.tc⟩))) := rfl
  generalize rowsE n m = B1 at *
  generalize numsE n m = B2 at *
  have HP : Hid (∀ (b : Bool) w', b = (B1 && B2 && decide (n.mul = m.mul) && decide (n.sh = m.sh) && decide (n.zero = m.zero)) → Ext w w' → (Ending.returned (.bool b) = .returned (.bool (decide (n.c = m.c))) ∧ Ext w w')) := fun b w' h1 h2 => ⟨by rw [h1, HPE.out], h2⟩
  clear HPE
  have hT := ndTwo_new w n m
  obtain ⟨n1, n2, n3⟩ := hn
  obtain ⟨m1, m2, m3⟩ := hm
  have HI := Lib.hid (fun W (h : Ext w W) => eqs_i64 n.inV m.inV _ _ W (n1.ext h) (m1.ext h))
  have HW := Lib.hid (fun W (h : Ext w W) => eqs_i8 n.wV m.wV _ _ W (n2.ext h) (m2.ext h))
  have HB := Lib.hid (fun W (h : Ext w W) => eqs_i32 n.bV m.bV _ _ W (n3.ext h) (m3.ext h))
  clear n1 n2 n3 m1 m2 m3
  go_enter Try.func113, Try.ntmps113
  go_upto_region 1 with fail
  generalize World.alloc (World.alloc w _) _ = w1 at *
  go_cut [5] (fun v wx => v = .bool B1 ∧ NdTwo w wx n m)
  case first =>
    have x1 : World.cell? w1 ⟨w.heap.size, 1, none⟩ = some (n.inV) := hT.hn.cell 1
    have y1 : World.cell? w1 ⟨w.heap.size + 1, 1, none⟩ = some (m.inV) := hT.hm.cell 1
    have hc := HI.out w1 hT.ext
    go_wp2_with fail
    refine hc.mono ?_
    rintro e w2 ⟨rfl, h2⟩
    replace hT := hT.later h2
    clear x1 y1 hc h2
    by_cases e1 : n.ins = m.ins
    · have HE1 := Lib.hid (decide_eq_true e1)
      rw [decide_eq_true e1]
      clear e1
      have x12 : World.cell? w2 ⟨w.heap.size, 12, none⟩ = some (n.wV) := hT.hn.cell 12
      have y12 : World.cell? w2 ⟨w.heap.size + 1, 12, none⟩ = some (m.wV) := hT.hm.cell 12
      have hc := HW.out w2 hT.ext
      go_wp2_with fail
      refine hc.mono ?_
      rintro e w3 ⟨rfl, h2⟩
      replace hT := hT.later h2
      clear x12 y12 hc h2
      by_cases e2 : n.ws = m.ws
      · have HE2 := Lib.hid (decide_eq_true e2)
        rw [decide_eq_true e2]
        clear e2
        have x13 : World.cell? w3 ⟨w.heap.size, 13, none⟩ = some (n.bV) := hT.hn.cell 13
        have y13 : World.cell? w3 ⟨w.heap.size + 1, 13, none⟩ = some (m.bV) := hT.hm.cell 13
        have hc := HB.out w3 hT.ext
        go_wp2_with fail
        refine hc.mono ?_
        rintro e w4 ⟨rfl, h2⟩
        replace hT := hT.later h2
        clear x13 y13 hc h2
        have HX := Lib.hid (show decide (n.bs = m.bs) = B1 by rw [HR1.out, HE1.out, HE2.out]; rfl)
        generalize decide (n.bs = m.bs) = q at *
        go_wp2_with fail
        go_meet
        exact ⟨by rw [HX.out], hT⟩
      · have HX := Lib.hid (show B1 = false by rw [HR1.out, decide_eq_false e2]; simp)
        rw [decide_eq_false e2]
        clear e2
        go_wp2_with fail
        go_meet
        exact ⟨by rw [HX.out], hT⟩
    · have HX := Lib.hid (show B1 = false by rw [HR1.out, decide_eq_false e1]; rfl)
      rw [decide_eq_false e1]
      clear e1
      go_wp2_with fail
      go_meet
      exact ⟨by rw [HX.out], hT⟩
  clear hT HI HW HB HR1
  obtain ⟨rfl, hT⟩ := hcut
  go_upto_region 2 with fail
  go_cut [6] (fun v wx => v = .bool B2 ∧ wx = wc)
  case first =>
    have x0 : World.cell? wc ⟨w.heap.size, 0, none⟩ = some (.int .i64 n.op) := hT.hn.cell 0
    have y0 : World.cell? wc ⟨w.heap.size + 1, 0, none⟩ = some (.int .i64 m.op) := hT.hm.cell 0
    have x2 : World.cell? wc ⟨w.heap.size, 2, none⟩ = some (.int .i64 n.k) := hT.hn.cell 2
    have y2 : World.cell? wc ⟨w.heap.size + 1, 2, none⟩ = some (.int .i64 m.k) := hT.hm.cell 2
    have x3 : World.cell? wc ⟨w.heap.size, 3, none⟩ = some (.int .i64 n.st) := hT.hn.cell 3
    have y3 : World.cell? wc ⟨w.heap.size + 1, 3, none⟩ = some (.int .i64 m.st) := hT.hm.cell 3
    have x4 : World.cell? wc ⟨w.heap.size, 4, none⟩ = some (.int .i64 n.pad) := hT.hn.cell 4
    have y4 : World.cell? wc ⟨w.heap.size + 1, 4, none⟩ = some (.int .i64 m.pad) := hT.hm.cell 4
    have x5 : World.cell? wc ⟨w.heap.size, 5, none⟩ = some (.int .i64 n.out) := hT.hn.cell 5
    have y5 : World.cell? wc ⟨w.heap.size + 1, 5, none⟩ = some (.int .i64 m.out) := hT.hm.cell 5
    have x9 : World.cell? wc ⟨w.heap.size, 9, none⟩ = some (.int .i64 n.th) := hT.hn.cell 9
    have y9 : World.cell? wc ⟨w.heap.size + 1, 9, none⟩ = some (.int .i64 m.th) := hT.hm.cell 9
    have x10 : World.cell? wc ⟨w.heap.size, 10, none⟩ = some (.int .i64 n.tw) := hT.hn.cell 10
    have y10 : World.cell? wc ⟨w.heap.size + 1, 10, none⟩ = some (.int .i64 m.tw) := hT.hm.cell 10
    have x11 : World.cell? wc ⟨w.heap.size, 11, none⟩ = some (.int .i64 n.tc) := hT.hn.cell 11
    have y11 : World.cell? wc ⟨w.heap.size + 1, 11, none⟩ = some (.int .i64 m.tc) := hT.hm.cell 11
    have hq := fun w => sz_eql ⟨n.th, n.tw, n.tc⟩ ⟨m.th, m.tw, m.tc⟩ w
    simp only at hq
    have hgd := szGuard
    clear hT
    by_cases e0 : n.op = m.op
    case neg =>
      have HX := Lib.hid (show B2 = false by rw [HR2.out, decide_eq_false e0]; simp)
      have t0 : (n.op == m.op) = false := by simpa using e0
      clear e0
      go_wp2_with fail
      go_meet
      exact ⟨by rw [HX.out], rfl⟩
    have H0 := Lib.hid (decide_eq_true e0)
    have t0 : (n.op == m.op) = true := by simpa using e0
    clear e0
    by_cases e2 : n.k = m.k
    case neg =>
      have HX := Lib.hid (show B2 = false by rw [HR2.out, decide_eq_false e2]; simp)
      have t2 : (n.k == m.k) = false := by simpa using e2
      clear e2
      go_wp2_with fail
      go_meet
      exact ⟨by rw [HX.out], rfl⟩
    have H2 := Lib.hid (decide_eq_true e2)
    have t2 : (n.k == m.k) = true := by simpa using e2
    clear e2
    by_cases e3 : n.st = m.st
    case neg =>
      have HX := Lib.hid (show B2 = false by rw [HR2.out, decide_eq_false e3]; simp)
      have t3 : (n.st == m.st) = false := by simpa using e3
      clear e3
      go_wp2_with fail
      go_meet
      exact ⟨by rw [HX.out], rfl⟩
    have H3 := Lib.hid (decide_eq_true e3)
    have t3 : (n.st == m.st) = true := by simpa using e3
    clear e3
    by_cases e4 : n.pad = m.pad
    case neg =>
      have HX := Lib.hid (show B2 = false by rw [HR2.out, decide_eq_false e4]; simp)
      have t4 : (n.pad == m.pad) = false := by simpa using e4
      clear e4
      go_wp2_with fail
      go_meet
      exact ⟨by rw [HX.out], rfl⟩
    have H4 := Lib.hid (decide_eq_true e4)
    have t4 : (n.pad == m.pad) = true := by simpa using e4
    clear e4
    by_cases e5 : n.out = m.out
    case neg =>
      have HX := Lib.hid (show B2 = false by rw [HR2.out, decide_eq_false e5]; simp)
      have t5 : (n.out == m.out) = false := by simpa using e5
      clear e5
      go_wp2_with fail
      go_meet
      exact ⟨by rw [HX.out], rfl⟩
    have H5 := Lib.hid (decide_eq_true e5)
    have t5 : (n.out == m.out) = true := by simpa using e5
    clear e5
    have HX := Lib.hid (show decide ((⟨n.th, n.tw, n.tc⟩ : Sz) = ⟨m.th, m.tw, m.tc⟩) = B2 by rw [HR2.out, H0.out, H2.out, H3.out, H4.out, H5.out]; rfl)
    generalize decide ((⟨n.th, n.tw, n.tc⟩ : Sz) = ⟨m.th, m.tw, m.tc⟩) = q at *
    go_wp2_with fail
    go_meet
    exact ⟨by rw [HX.out], rfl⟩
  clear HR2
  obtain ⟨rfl, rfl⟩ := hcut
  have x6 : World.cell? wc ⟨w.heap.size, 6, none⟩ = some (.int .i64 n.mul) := hT.hn.cell 6
  have y6 : World.cell? wc ⟨w.heap.size + 1, 6, none⟩ = some (.int .i64 m.mul) := hT.hm.cell 6
  have x7 : World.cell? wc ⟨w.heap.size, 7, none⟩ = some (.int .i64 n.sh) := hT.hn.cell 7
  have y7 : World.cell? wc ⟨w.heap.size + 1, 7, none⟩ = some (.int .i64 m.sh) := hT.hm.cell 7
  have x8 : World.cell? wc ⟨w.heap.size, 8, none⟩ = some (.int .i64 n.zero) := hT.hn.cell 8
  have y8 : World.cell? wc ⟨w.heap.size + 1, 8, none⟩ = some (.int .i64 m.zero) := hT.hm.cell 8
  have hE := hT.ext
  clear hT
  cases B1 with
  | false =>
    go_wp2_with fail
    go_ret
    exact HP.out _ _ rfl hE
  | true =>
    cases B2 with
    | false =>
      go_wp2_with fail
      go_ret
      exact HP.out _ _ rfl hE
    | true =>
      by_cases e6 : n.mul = m.mul
      case neg =>
        have HX := Lib.hid (show false = (true && true && decide (n.mul = m.mul) && decide (n.sh = m.sh) && decide (n.zero = m.zero)) by rw [decide_eq_false e6]; simp)
        have t6 : (n.mul == m.mul) = false := by simpa using e6
        clear e6
        go_wp2_with fail
        go_ret
        exact HP.out _ _ HX.out hE
      have H6 := Lib.hid (decide_eq_true e6)
      have t6 : (n.mul == m.mul) = true := by simpa using e6
      clear e6
      by_cases e7 : n.sh = m.sh
      case neg =>
        have HX := Lib.hid (show false = (true && true && decide (n.mul = m.mul) && decide (n.sh = m.sh) && decide (n.zero = m.zero)) by rw [decide_eq_false e7]; simp)
        have t7 : (n.sh == m.sh) = false := by simpa using e7
        clear e7
        go_wp2_with fail
        go_ret
        exact HP.out _ _ HX.out hE
      have H7 := Lib.hid (decide_eq_true e7)
      have t7 : (n.sh == m.sh) = true := by simpa using e7
      clear e7
      by_cases e8 : n.zero = m.zero
      case neg =>
        have HX := Lib.hid (show false = (true && true && decide (n.mul = m.mul) && decide (n.sh = m.sh) && decide (n.zero = m.zero)) by rw [decide_eq_false e8]; simp)
        have t8 : (n.zero == m.zero) = false := by simpa using e8
        clear e8
        go_wp2_with fail
        go_ret
        exact HP.out _ _ HX.out hE
      have H8 := Lib.hid (decide_eq_true e8)
      have t8 : (n.zero == m.zero) = true := by simpa using e8
      clear e8
      go_wp2_with fail
      go_ret
      exact HP.out _ _ (by rw [H6.out, H7.out, H8.out]; rfl) hE

end Go.Proofs.Ytdhdbmfipkppiaa
