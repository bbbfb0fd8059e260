/- The walk of the reference's SameNode: where two nodes differ (the rows, element by element). -/
/- The walk of the reference's SameNode. -/
/- The walk of the reference's Same. -/
import Derived.Test.YtdhdbmfipkppiaaModK0
import Derived.Test.YtdhdbmfipkppiaaModKa
import Derived.Test.YtdhdbmfipkppiaaModKb
import Derived.Test.YtdhdbmfipkppiaaModKc
import Derived.Test.YtdhdbmfipkppiaaModH
namespace Go.Proofs.Ytdhdbmfipkppiaa
set_option linter.unusedSimpArgs false
set_option linter.unusedVariables false
set_option linter.unnecessarySimpa false
open Go.RowKit

set_option maxRecDepth 20000 in
set_option maxHeartbeats 12800000 in
theorem sn_eq (n m : Nd) (w : World) (hn : nodeAt w n) (hm : nodeAt w m) (hi : n.ins = m.ins) (hop : n.op = m.op) (hk : n.k = m.k) (hst : n.st = m.st) (hpad : n.pad = m.pad) (hout : n.out = m.out) (hmul : n.mul = m.mul) (hsh : n.sh = m.sh) (hzero : n.zero = m.zero) (hto : (⟨n.th, n.tw, n.tc⟩ : Sz) = ⟨m.th, m.tw, m.tc⟩) (hw : n.ws.length = m.ws.length) (hb : n.bs.length = m.bs.length) :
    Calls Try.prog 58 #[.agg #[.int .i64 n.op, n.inV, .int .i64 n.k, .int .i64 n.st, .int .i64 n.pad, .int .i64 n.out, .int .i64 n.mul, .int .i64 n.sh, .int .i64 n.zero, .int .i64 n.th, .int .i64 n.tw, .int .i64 n.tc, n.wV, n.bV], .agg #[.int .i64 m.op, m.inV, .int .i64 m.k, .int .i64 m.st, .int .i64 m.pad, .int .i64 m.out, .int .i64 m.mul, .int .i64 m.sh, .int .i64 m.zero, .int .i64 m.th, .int .i64 m.tw, .int .i64 m.tc, m.wV, m.bV]] w fun e w' => e = .returned (.bool (decide (n.ws = m.ws ∧ n.bs = m.bs))) ∧ Ext w w' := by
  have hT := two_new w n m
  obtain ⟨n1, n2, n3, n4, n5, n6, n7, n8⟩ := hn
  obtain ⟨m1, m2, m3, m4, m5, m6, m7, m8⟩ := hm
  obtain ⟨Aw, cw, ew, aw1, aw2, _⟩ := id n2.form
  obtain ⟨Bw, dw, fw, bw1, bw2, _⟩ := id m2.form
  unfold maxLen at aw2 bw2
  have EW := Lib.hid ew
  have FW := Lib.hid fw
  clear ew fw
  obtain ⟨Ab, cb, eb, ab1, ab2, _⟩ := id n3.form
  obtain ⟨Bb, db, fb, bb1, bb2, _⟩ := id m3.form
  unfold maxLen at ab2 bb2
  have EB := Lib.hid eb
  have FB := Lib.hid fb
  clear eb fb
  have hsi := fun W (h : Ext w W) => sameInts_calls n.inV m.inV _ _ W (n1.ext h) (m1.ext h)
  rw [decide_eq_true hi] at hsi
  clear hi
  have top : (n.op != m.op) = false := by simp [hop]
  clear hop
  have tk : (n.k != m.k) = false := by simp [hk]
  clear hk
  have tst : (n.st != m.st) = false := by simp [hst]
  clear hst
  have tpad : (n.pad != m.pad) = false := by simp [hpad]
  clear hpad
  have tout : (n.out != m.out) = false := by simp [hout]
  clear hout
  have tmul : (n.mul != m.mul) = false := by simp [hmul]
  clear hmul
  have tsh : (n.sh != m.sh) = false := by simp [hsh]
  clear hsh
  have tzero : (n.zero != m.zero) = false := by simp [hzero]
  clear hzero
  have hq0 := fun W => sz_neq ⟨n.th, n.tw, n.tc⟩ ⟨m.th, m.tw, m.tc⟩ W
  simp only at hq0
  rw [decide_eq_true hto] at hq0
  clear hto
  have tw : ((n.ws.length : Int) != (m.ws.length : Int)) = false := by simp [hw]
  have tb : ((n.bs.length : Int) != (m.bs.length : Int)) = false := by simp [hb]
  have HW := Lib.hid hw
  have HB := Lib.hid hb
  clear hw hb
  clear n1 m1 n4 n5 n6 n7 n8 m4 m5 m6 m7 m8
  go_enter Try.func58, Try.ntmps58
  go_upto_region 1 with fail
  generalize World.alloc (World.alloc w _) _ = w1 at *
  have x1 : World.cell? w1 ⟨w.heap.size, 1, none⟩ = some n.inV := hT.hn.cell 1
  have y1 : World.cell? w1 ⟨w.heap.size + 1, 1, none⟩ = some m.inV := hT.hm.cell 1
  go_upto_region 2 with (go_at_call 57; refine (hsi _ hT.ext).mono ?_; rintro e w2 ⟨rfl, h2⟩)
  clear x1 y1 hsi
  replace hT := hT.later h2
  clear h2
  have x0 : World.cell? w2 ⟨w.heap.size, 0, none⟩ = some (.int .i64 n.op) := hT.hn.cell 0
  have x2 : World.cell? w2 ⟨w.heap.size, 2, none⟩ = some (.int .i64 n.k) := hT.hn.cell 2
  have x3 : World.cell? w2 ⟨w.heap.size, 3, none⟩ = some (.int .i64 n.st) := hT.hn.cell 3
  have x4 : World.cell? w2 ⟨w.heap.size, 4, none⟩ = some (.int .i64 n.pad) := hT.hn.cell 4
  have x5 : World.cell? w2 ⟨w.heap.size, 5, none⟩ = some (.int .i64 n.out) := hT.hn.cell 5
  have x6 : World.cell? w2 ⟨w.heap.size, 6, none⟩ = some (.int .i64 n.mul) := hT.hn.cell 6
  have x7 : World.cell? w2 ⟨w.heap.size, 7, none⟩ = some (.int .i64 n.sh) := hT.hn.cell 7
  have x8 : World.cell? w2 ⟨w.heap.size, 8, none⟩ = some (.int .i64 n.zero) := hT.hn.cell 8
  have x9 : World.cell? w2 ⟨w.heap.size, 9, none⟩ = some (.int .i64 n.th) := hT.hn.cell 9
  have x10 : World.cell? w2 ⟨w.heap.size, 10, none⟩ = some (.int .i64 n.tw) := hT.hn.cell 10
  have x11 : World.cell? w2 ⟨w.heap.size, 11, none⟩ = some (.int .i64 n.tc) := hT.hn.cell 11
  have y0 : World.cell? w2 ⟨w.heap.size + 1, 0, none⟩ = some (.int .i64 m.op) := hT.hm.cell 0
  have y2 : World.cell? w2 ⟨w.heap.size + 1, 2, none⟩ = some (.int .i64 m.k) := hT.hm.cell 2
  have y3 : World.cell? w2 ⟨w.heap.size + 1, 3, none⟩ = some (.int .i64 m.st) := hT.hm.cell 3
  have y4 : World.cell? w2 ⟨w.heap.size + 1, 4, none⟩ = some (.int .i64 m.pad) := hT.hm.cell 4
  have y5 : World.cell? w2 ⟨w.heap.size + 1, 5, none⟩ = some (.int .i64 m.out) := hT.hm.cell 5
  have y6 : World.cell? w2 ⟨w.heap.size + 1, 6, none⟩ = some (.int .i64 m.mul) := hT.hm.cell 6
  have y7 : World.cell? w2 ⟨w.heap.size + 1, 7, none⟩ = some (.int .i64 m.sh) := hT.hm.cell 7
  have y8 : World.cell? w2 ⟨w.heap.size + 1, 8, none⟩ = some (.int .i64 m.zero) := hT.hm.cell 8
  have y9 : World.cell? w2 ⟨w.heap.size + 1, 9, none⟩ = some (.int .i64 m.th) := hT.hm.cell 9
  have y10 : World.cell? w2 ⟨w.heap.size + 1, 10, none⟩ = some (.int .i64 m.tw) := hT.hm.cell 10
  have y11 : World.cell? w2 ⟨w.heap.size + 1, 11, none⟩ = some (.int .i64 m.tc) := hT.hm.cell 11
  have x12 : World.cell? w2 ⟨w.heap.size, 12, none⟩ = some (.slice Aw n.ws.length cw) := by rw [← EW.out]; exact hT.hn.cell 12
  have y12 : World.cell? w2 ⟨w.heap.size + 1, 12, none⟩ = some (.slice Bw m.ws.length dw) := by rw [← FW.out]; exact hT.hm.cell 12
  have x13 : World.cell? w2 ⟨w.heap.size, 13, none⟩ = some (.slice Ab n.bs.length cb) := by rw [← EB.out]; exact hT.hn.cell 13
  have y13 : World.cell? w2 ⟨w.heap.size + 1, 13, none⟩ = some (.slice Bb m.bs.length db) := by rw [← FB.out]; exact hT.hm.cell 13
  have hEE := hT.ext
  go_wp2_with fail
  go_loopw [6] (fun i wr => ∃ k : Nat, k ≤ n.ws.length ∧ i = .int .i64 k ∧ Hid (n.ws.take k = m.ws.take k) ∧ Ext w2 wr) (fun i _ => n.ws.length - (intOf i).toNat)
  case atStart => exact ⟨0, by omega, rfl, rfl, Ext.refl _⟩
  case round =>
    obtain ⟨k, hk, rfl, ht, hE⟩ := hrel
    have bx : World.cell? wr ⟨w.heap.size, 12, none⟩ = some (.slice Aw n.ws.length cw) := by rw [← EW.out]; exact (hT.later hE).hn.cell 12
    by_cases hlt : k < n.ws.length
    · have hlt2 : k < m.ws.length := by have := HW.out; omega
      obtain ⟨_, _, e1, _, _, hc1⟩ := (n2.ext (hT.ext.trans hE)).form
      rw [EW.out] at e1
      cases e1
      obtain ⟨_, _, e2, _, _, hc2⟩ := (m2.ext (hT.ext.trans hE)).form
      rw [FW.out] at e2
      cases e2
      obtain ⟨p, o, rfl, x0⟩ := hc1 k hlt
      obtain ⟨q, o2, rfl, y0⟩ := hc2 k hlt2
      rw [show n.ws[k]?.getD 0 = n.ws[k] by simp [hlt]] at x0
      rw [show m.ws[k]?.getD 0 = m.ws[k] by simp [hlt2]] at y0
      have HX := Lib.hid (show n.ws[k]? = some n.ws[k] by simp [hlt])
      have HY := Lib.hid (show m.ws[k]? = some m.ws[k] by simp [hlt2])
      clear hc1 hc2
      generalize n.ws[k] = x at *
      generalize m.ws[k] = y at *
      go_upto_region 7 with fail
      clear bx
      refine wp_region_X [0, 1, 2, 3, 4, 5, 6, 7, 8, 9, 10] [] (by kernel_rfl) (by kernel_rfl) (fun _ _ d _ _ h => by cases d <;> exact h) (fun w4 hE2 => ?_)
      have b1 : ∀ W, Ext w4 W → W.cell? ⟨w.heap.size, 12, none⟩ = some (.slice (some ⟨p, o, none⟩) n.ws.length cw) := fun W h => by rw [← EW.out]; exact (((hT.later hE).later hE2).later h).hn.cell 12
      have b2 : ∀ W, Ext w4 W → W.cell? ⟨w.heap.size + 1, 12, none⟩ = some (.slice (some ⟨q, o2, none⟩) m.ws.length dw) := fun W h => by rw [← FW.out]; exact (((hT.later hE).later hE2).later h).hm.cell 12
      have x1 : ∀ W, Ext w4 W → W.cell? ⟨p, o + k, none⟩ = some (.int .i8 x) := cell_ext (cell_ext x0 _ hE2)
      have y1 : ∀ W, Ext w4 W → W.cell? ⟨q, o2 + k, none⟩ = some (.int .i8 y) := cell_ext (cell_ext y0 _ hE2)
      clear x0 y0
      repeat (first | (refine wpP_pure rfl (by rfl) (fun W hW => by go_simp; with_reducible rfl) ?_; simp only [Act.put, List.setIfInBounds_toArray, List.set_cons_zero, List.set_cons_succ]) | (refine wpP_skip rfl (by rfl) ?_; simp only [Act.put, List.setIfInBounds_toArray, List.set_cons_zero, List.set_cons_succ]))
      refine ⟨trivial, fun W hR => ?_⟩
      simp only [rFin, envAt, TP.top, TP.mine, MP.top, MP.mine, MT.mine, MT.tied, MT.done, MT.is, List.map_cons, List.map_nil, true_implies, List.head?_cons, ME.is, MP.is, MP.done, ME.ints, ME.row, phi, dstAt, List.getElem?_cons_zero, List.getElem?_cons_succ, Option.bind_some, Act.put, List.setIfInBounds_toArray, List.set_cons_zero, List.set_cons_succ, and_true, forall_eq, reduceIte, Nat.reduceEqDiff, beq_iff_eq, Option.some.injEq, Bool.false_eq_true, reduceCtorEq, implies_true, true_and]
      have hEW := hE.trans (hE2.trans hR)
      clear x1 y1 b1 b2
      by_cases hxy : x = y
      · have t2 : (x != y) = false := by simp [hxy]
        have HTK := Lib.hid (take_eq ht.out HX.out HY.out hxy)
        clear hxy
        go_wp2_with fail
        go_roundw
        case rel => exact ⟨k + 1, by omega, by go_num, HTK, hEW⟩
        case measure => simp [intOf]; omega
      · have t2 : (x != y) = true := by simp [hxy]
        have HTK := Lib.hid (take_ne HX.out HY.out hxy)
        clear hxy
        go_wp2_with fail
        go_ret
        exact ⟨ret_bool (by rw [decide_eq_false]; exact fun h => HTK.out h.1), hT.ext.trans hEW⟩
    · have hab : n.ws = m.ws := by
        have h1 := ht.out
        have h2 := HW.out
        rw [List.take_of_length_le (by omega), List.take_of_length_le (by omega)] at h1
        exact h1
      have HABws := Lib.hid hab
      clear hab
      go_wp2_with fail
      clear bx hk ht hlt
      go_loopw [7] (fun i wr => ∃ k : Nat, k ≤ n.bs.length ∧ i = .int .i64 k ∧ Hid (n.bs.take k = m.bs.take k) ∧ Ext w2 wr) (fun i _ => n.bs.length - (intOf i).toNat)
      case atStart => exact ⟨0, by omega, rfl, rfl, hE⟩
      case round =>
        obtain ⟨k, hk, rfl, ht, hE⟩ := hrel
        have bx : World.cell? wr ⟨w.heap.size, 13, none⟩ = some (.slice Ab n.bs.length cb) := by rw [← EB.out]; exact (hT.later hE).hn.cell 13
        by_cases hlt : k < n.bs.length
        · have hlt2 : k < m.bs.length := by have := HB.out; omega
          obtain ⟨_, _, e1, _, _, hc1⟩ := (n3.ext (hT.ext.trans hE)).form
          rw [EB.out] at e1
          cases e1
          obtain ⟨_, _, e2, _, _, hc2⟩ := (m3.ext (hT.ext.trans hE)).form
          rw [FB.out] at e2
          cases e2
          obtain ⟨p, o, rfl, x0⟩ := hc1 k hlt
          obtain ⟨q, o2, rfl, y0⟩ := hc2 k hlt2
          rw [show n.bs[k]?.getD 0 = n.bs[k] by simp [hlt]] at x0
          rw [show m.bs[k]?.getD 0 = m.bs[k] by simp [hlt2]] at y0
          have HX := Lib.hid (show n.bs[k]? = some n.bs[k] by simp [hlt])
          have HY := Lib.hid (show m.bs[k]? = some m.bs[k] by simp [hlt2])
          clear hc1 hc2
          generalize n.bs[k] = x at *
          generalize m.bs[k] = y at *
          go_upto_region 12 with fail
          clear bx
          refine wp_region_X [0, 1, 2, 3, 4, 5, 6, 7, 8, 9, 10] [] (by kernel_rfl) (by kernel_rfl) (fun _ _ d _ _ h => by cases d <;> exact h) (fun w4 hE2 => ?_)
          have b1 : ∀ W, Ext w4 W → W.cell? ⟨w.heap.size, 13, none⟩ = some (.slice (some ⟨p, o, none⟩) n.bs.length cb) := fun W h => by rw [← EB.out]; exact (((hT.later hE).later hE2).later h).hn.cell 13
          have b2 : ∀ W, Ext w4 W → W.cell? ⟨w.heap.size + 1, 13, none⟩ = some (.slice (some ⟨q, o2, none⟩) m.bs.length db) := fun W h => by rw [← FB.out]; exact (((hT.later hE).later hE2).later h).hm.cell 13
          have x1 : ∀ W, Ext w4 W → W.cell? ⟨p, o + k, none⟩ = some (.int .i32 x) := cell_ext (cell_ext x0 _ hE2)
          have y1 : ∀ W, Ext w4 W → W.cell? ⟨q, o2 + k, none⟩ = some (.int .i32 y) := cell_ext (cell_ext y0 _ hE2)
          clear x0 y0
          repeat (first | (refine wpP_pure rfl (by rfl) (fun W hW => by go_simp; with_reducible rfl) ?_; simp only [Act.put, List.setIfInBounds_toArray, List.set_cons_zero, List.set_cons_succ]) | (refine wpP_skip rfl (by rfl) ?_; simp only [Act.put, List.setIfInBounds_toArray, List.set_cons_zero, List.set_cons_succ]))
          refine ⟨trivial, fun W hR => ?_⟩
          simp only [rFin, envAt, TP.top, TP.mine, MP.top, MP.mine, MT.mine, MT.tied, MT.done, MT.is, List.map_cons, List.map_nil, true_implies, List.head?_cons, ME.is, MP.is, MP.done, ME.ints, ME.row, phi, dstAt, List.getElem?_cons_zero, List.getElem?_cons_succ, Option.bind_some, Act.put, List.setIfInBounds_toArray, List.set_cons_zero, List.set_cons_succ, and_true, forall_eq, reduceIte, Nat.reduceEqDiff, beq_iff_eq, Option.some.injEq, Bool.false_eq_true, reduceCtorEq, implies_true, true_and]
          have hEW := hE.trans (hE2.trans hR)
          clear x1 y1 b1 b2
          by_cases hxy : x = y
          · have t2 : (x != y) = false := by simp [hxy]
            have HTK := Lib.hid (take_eq ht.out HX.out HY.out hxy)
            clear hxy
            go_wp2_with fail
            go_roundw
            case rel => exact ⟨k + 1, by omega, by go_num, HTK, hEW⟩
            case measure => simp [intOf]; omega
          · have t2 : (x != y) = true := by simp [hxy]
            have HTK := Lib.hid (take_ne HX.out HY.out hxy)
            clear hxy
            go_wp2_with fail
            go_ret
            exact ⟨ret_bool (by rw [decide_eq_false]; exact fun h => HTK.out h.2), hT.ext.trans hEW⟩
        · have hab : n.bs = m.bs := by
            have h1 := ht.out
            have h2 := HB.out
            rw [List.take_of_length_le (by omega), List.take_of_length_le (by omega)] at h1
            exact h1
          have HABbs := Lib.hid hab
          clear hab
          go_wp2_with fail
          go_ret
          exact ⟨ret_bool (by rw [decide_eq_true]; exact ⟨HABws.out, HABbs.out⟩), hT.ext.trans hE⟩

end Go.Proofs.Ytdhdbmfipkppiaa

namespace Go.Proofs.Ytdhdbmfipkppiaa
set_option linter.unusedSimpArgs false
set_option linter.unusedVariables false
set_option linter.unnecessarySimpa false
open Go.RowKit

theorem sameNode_calls (n m : Nd) (w : World) (hn : nodeAt w n) (hm : nodeAt w m) :
    Calls Try.prog 58 #[.agg #[.int .i64 n.op, n.inV, .int .i64 n.k, .int .i64 n.st, .int .i64 n.pad, .int .i64 n.out, .int .i64 n.mul, .int .i64 n.sh, .int .i64 n.zero, .int .i64 n.th, .int .i64 n.tw, .int .i64 n.tc, n.wV, n.bV], .agg #[.int .i64 m.op, m.inV, .int .i64 m.k, .int .i64 m.st, .int .i64 m.pad, .int .i64 m.out, .int .i64 m.mul, .int .i64 m.sh, .int .i64 m.zero, .int .i64 m.th, .int .i64 m.tw, .int .i64 m.tc, m.wV, m.bV]] w fun e w' => e = .returned (.bool (decide (n.c = m.c))) ∧ Ext w w' := by
  have key : ∀ (b : Bool), (n.c ≠ m.c) → Calls Try.prog 58 #[.agg #[.int .i64 n.op, n.inV, .int .i64 n.k, .int .i64 n.st, .int .i64 n.pad, .int .i64 n.out, .int .i64 n.mul, .int .i64 n.sh, .int .i64 n.zero, .int .i64 n.th, .int .i64 n.tw, .int .i64 n.tc, n.wV, n.bV], .agg #[.int .i64 m.op, m.inV, .int .i64 m.k, .int .i64 m.st, .int .i64 m.pad, .int .i64 m.out, .int .i64 m.mul, .int .i64 m.sh, .int .i64 m.zero, .int .i64 m.th, .int .i64 m.tw, .int .i64 m.tc, m.wV, m.bV]] w (fun e w' => e = .returned (.bool false) ∧ Ext w w') → Calls Try.prog 58 #[.agg #[.int .i64 n.op, n.inV, .int .i64 n.k, .int .i64 n.st, .int .i64 n.pad, .int .i64 n.out, .int .i64 n.mul, .int .i64 n.sh, .int .i64 n.zero, .int .i64 n.th, .int .i64 n.tw, .int .i64 n.tc, n.wV, n.bV], .agg #[.int .i64 m.op, m.inV, .int .i64 m.k, .int .i64 m.st, .int .i64 m.pad, .int .i64 m.out, .int .i64 m.mul, .int .i64 m.sh, .int .i64 m.zero, .int .i64 m.th, .int .i64 m.tw, .int .i64 m.tc, m.wV, m.bV]] w fun e w' => e = .returned (.bool (decide (n.c = m.c))) ∧ Ext w w' := fun _ h hc => hc.mono fun e w' ⟨h1, h2⟩ => ⟨by rw [h1, decide_eq_false h], h2⟩
  by_cases hi : n.ins = m.ins
  case neg => exact key true (fun e => hi (congrArg Nc.ins e)) (sn_ins n m w hn hm hi)
  by_cases hop : n.op = m.op
  case neg => exact key true (fun e => hop (congrArg Nc.op e)) (sn_op n m w hn hm hi hop)
  by_cases hk : n.k = m.k
  case neg => exact key true (fun e => hk (congrArg Nc.k e)) (sn_k n m w hn hm hi hop hk)
  by_cases hst : n.st = m.st
  case neg => exact key true (fun e => hst (congrArg Nc.st e)) (sn_st n m w hn hm hi hop hk hst)
  by_cases hpad : n.pad = m.pad
  case neg => exact key true (fun e => hpad (congrArg Nc.pad e)) (sn_pad n m w hn hm hi hop hk hst hpad)
  by_cases hout : n.out = m.out
  case neg => exact key true (fun e => hout (congrArg Nc.out e)) (sn_out n m w hn hm hi hop hk hst hpad hout)
  by_cases hmul : n.mul = m.mul
  case neg => exact key true (fun e => hmul (congrArg Nc.mul e)) (sn_mul n m w hn hm hi hop hk hst hpad hout hmul)
  by_cases hsh : n.sh = m.sh
  case neg => exact key true (fun e => hsh (congrArg Nc.sh e)) (sn_sh n m w hn hm hi hop hk hst hpad hout hmul hsh)
  by_cases hzero : n.zero = m.zero
  case neg => exact key true (fun e => hzero (congrArg Nc.zero e)) (sn_zero n m w hn hm hi hop hk hst hpad hout hmul hsh hzero)
  by_cases hto : (⟨n.th, n.tw, n.tc⟩ : Sz) = ⟨m.th, m.tw, m.tc⟩
  case neg => exact key true (fun e => hto (by
    have e1 := congrArg Nc.th e
    have e2 := congrArg Nc.tw e
    have e3 := congrArg Nc.tc e
    simp only [Nd.c] at e1 e2 e3
    rw [e1, e2, e3])) (sn_to n m w hn hm hi hop hk hst hpad hout hmul hsh hzero hto)
  by_cases hw : n.ws.length = m.ws.length
  case neg => exact key true (fun e => hw (congrArg (fun c : Nc => c.ws.length) e)) (sn_wl n m w hn hm hi hop hk hst hpad hout hmul hsh hzero hto hw)
  by_cases hb : n.bs.length = m.bs.length
  case neg => exact key true (fun e => hb (congrArg (fun c : Nc => c.bs.length) e)) (sn_bl n m w hn hm hi hop hk hst hpad hout hmul hsh hzero hto hw hb)
  refine (sn_eq n m w hn hm hi hop hk hst hpad hout hmul hsh hzero hto hw hb).mono fun e w' ⟨h1, h2⟩ => ⟨?_, h2⟩
  rw [h1]
  refine ret_bool ?_
  rw [Bool.eq_iff_iff, decide_eq_true_iff, decide_eq_true_iff]
  constructor
  · rintro ⟨k1, k2⟩
    simp only [Sz.mk.injEq] at hto
    exact nc_ext hop hk hst hpad hout hmul hsh hzero hto.1 hto.2.1 hto.2.2 hi k1 k2
  · intro e
    exact ⟨congrArg Nc.ws e, congrArg Nc.bs e⟩

end Go.Proofs.Ytdhdbmfipkppiaa

namespace Go.Proofs.Ytdhdbmfipkppiaa
set_option linter.unusedSimpArgs false
set_option linter.unusedVariables false
set_option linter.unnecessarySimpa false
open Go.RowKit

theorem gc_eq_iff (g h : Gr) : g.c = h.c ↔ g.ins = h.ins ∧ g.outs = h.outs ∧ g.nodes.map Nd.c = h.nodes.map Nd.c := by
  constructor
  · intro e
    exact ⟨congrArg Gc.ins e, congrArg Gc.outs e, congrArg Gc.nodes e⟩
  · rintro ⟨h1, h2, h3⟩
    show (⟨g.ins, g.nodes.map Nd.c, g.outs⟩ : Gc) = ⟨h.ins, h.nodes.map Nd.c, h.outs⟩
    rw [h1, h2, h3]

set_option maxRecDepth 20000 in
set_option maxHeartbeats 6400000 in
theorem same_calls (g h : Gr) (w : World) (hg : GrAt w g) (hh : GrAt w h) :
    Calls Try.prog 20 #[.agg #[g.iV, g.nV, g.oV], .agg #[h.iV, h.nV, h.oV]] w fun e w' => e = .returned (.bool (decide (g.c = h.c))) ∧ Ext w w' := by
  have hE1 := (ext_alloc w (.cells #[g.iV, g.nV, g.oV] 26)).trans (ext_alloc _ (.cells #[h.iV, h.nV, h.oV] 26))
  have hb1 := (Blk.new w #[g.iV, g.nV, g.oV] 26).ext (ext_alloc _ (.cells #[h.iV, h.nV, h.oV] 26))
  have hb2 := Blk.new (w.alloc (.cells #[g.iV, g.nV, g.oV] 26)) #[h.iV, h.nV, h.oV] 26
  rw [show (w.alloc (.cells #[g.iV, g.nV, g.oV] 26)).heap.size = w.heap.size + 1 from by simp] at hb2
  have HNE : Hid (∀ (e : Ending) (w' : World), e = .returned (.bool false) → g.c ≠ h.c → Ext w w' → (e = .returned (.bool (decide (g.c = h.c))) ∧ Ext w w')) := fun (e : Ending) (w' : World) h1 h2 h3 => ⟨by rw [h1, decide_eq_false h2], h3⟩
  have hvs := fun W (e : Ext w W) => sameVls_calls g.iV h.iV _ _ W (hg.ins.ext e) (hh.ins.ext e)
  have hio := fun W (e : Ext w W) => sameInts_calls g.oV h.oV _ _ W (hg.outs.ext e) (hh.outs.ext e)
  obtain ⟨An, cn, en, hn1, hn2, _⟩ := id (SRow.form hg.nodes (fun _ => rfl) (by omega))
  obtain ⟨Bn, dn, fn, hm1, hm2, _⟩ := id (SRow.form hh.nodes (fun _ => rfl) (by omega))
  unfold maxLen at hn2 hm2
  have EN := Lib.hid en
  have FN := Lib.hid fn
  clear en fn
  go_enter Try.func20, Try.ntmps20
  go_upto_region 1 with fail
  generalize World.alloc (World.alloc w _) _ = w1 at *
  have a0 : World.cell? w1 ⟨w.heap.size, 0, none⟩ = some g.iV := hb1.cell 0
  have b0 : World.cell? w1 ⟨w.heap.size + 1, 0, none⟩ = some h.iV := hb2.cell 0
  go_upto_region 2 with (go_at_call 56; refine (hvs _ hE1).mono ?_; rintro e w2 ⟨rfl, h2⟩)
  clear a0 b0 hvs
  replace hb1 := hb1.ext h2
  replace hb2 := hb2.ext h2
  have hE2 := hE1.trans h2
  clear hE1 h2
  have a2 : World.cell? w2 ⟨w.heap.size, 2, none⟩ = some g.oV := hb1.cell 2
  have b2 : World.cell? w2 ⟨w.heap.size + 1, 2, none⟩ = some h.oV := hb2.cell 2
  go_upto_region 3 with (go_at_call 57; refine (hio _ hE2).mono ?_; rintro e w3 ⟨rfl, h3⟩)
  clear a2 b2 hio
  replace hb1 := hb1.ext h3
  replace hb2 := hb2.ext h3
  have hE3 := hE2.trans h3
  clear hE2 h3
  have a1 : World.cell? w3 ⟨w.heap.size, 1, none⟩ = some (.slice An g.nodes.length cn) := by rw [← EN.out]; exact hb1.cell 1
  have b1 : World.cell? w3 ⟨w.heap.size + 1, 1, none⟩ = some (.slice Bn h.nodes.length dn) := by rw [← FN.out]; exact hb2.cell 1
  by_cases hi : g.ins = h.ins
  case neg =>
    have hne := Lib.hid (show g.c ≠ h.c from fun e => hi ((gc_eq_iff g h).1 e).1)
    rw [decide_eq_false hi]
    clear hi
    go_wp2_with fail
    go_ret
    exact HNE.out _ _ rfl hne.out hE3
  by_cases ho : g.outs = h.outs
  case neg =>
    have hne := Lib.hid (show g.c ≠ h.c from fun e => ho ((gc_eq_iff g h).1 e).2.1)
    rw [decide_eq_false ho, decide_eq_true hi]
    clear hi ho
    go_wp2_with fail
    go_ret
    exact HNE.out _ _ rfl hne.out hE3
  by_cases hl : g.nodes.length = h.nodes.length
  case neg =>
    have hne := Lib.hid (show g.c ≠ h.c from fun e => hl (by have := congrArg List.length ((gc_eq_iff g h).1 e).2.2; simpa using this))
    have t1 : ((g.nodes.length : Int) != (h.nodes.length : Int)) = true := by rw [bne_iff_ne]; omega
    rw [decide_eq_true ho, decide_eq_true hi]
    clear hi ho hl
    go_wp2_with fail
    go_ret
    exact HNE.out _ _ rfl hne.out hE3
  rw [decide_eq_true ho, decide_eq_true hi]
  have t1 : ((g.nodes.length : Int) != (h.nodes.length : Int)) = false := by simp [hl]
  have HI := Lib.hid hi
  have HO := Lib.hid ho
  have HL := Lib.hid hl
  clear hi ho hl
  go_wp2_with fail
  clear a1 b1 t1
  go_loopw [7] (fun i wr => ∃ k : Nat, k ≤ g.nodes.length ∧ i = .int .i64 k ∧ Hid ((g.nodes.map Nd.c).take k = (h.nodes.map Nd.c).take k) ∧ Ext w3 wr) (fun i _ => g.nodes.length - (intOf i).toNat)
  case atStart => exact ⟨0, by omega, rfl, rfl, Ext.refl _⟩
  case round =>
    obtain ⟨k, hk, rfl, ht, hE⟩ := hrel
    have a1 : World.cell? wr ⟨w.heap.size, 1, none⟩ = some (.slice An g.nodes.length cn) := by rw [← EN.out]; exact (hb1.ext hE).cell 1
    by_cases hlt : k < g.nodes.length
    · have hlt2 : k < h.nodes.length := by have := HL.out; omega
      obtain ⟨_, _, e1, _, _, hc1⟩ := SRow.form (Row.below hg.nodes (hE3.trans hE)) (fun _ => rfl) (by omega)
      rw [EN.out] at e1
      cases e1
      obtain ⟨_, _, e2, _, _, hc2⟩ := SRow.form (Row.below hh.nodes (hE3.trans hE)) (fun _ => rfl) (by omega)
      rw [FN.out] at e2
      cases e2
      have hs1 : g.nodes[k]? = some g.nodes[k] := by simp [hlt]
      have hs2 : h.nodes[k]? = some h.nodes[k] := by simp [hlt2]
      obtain ⟨p, o, rfl, _, hx⟩ := hc1 k _ hs1
      obtain ⟨q, o2, rfl, _, hy⟩ := hc2 k _ hs2
      have hxn := hg.each _ (List.getElem_mem hlt)
      have hyn := hh.each _ (List.getElem_mem hlt2)
      have HX := Lib.hid (show (g.nodes.map Nd.c)[k]? = some (g.nodes[k]).c by simp [hlt])
      have HY := Lib.hid (show (h.nodes.map Nd.c)[k]? = some (h.nodes[k]).c by simp [hlt2])
      clear hc1 hc2 hs1 hs2
      generalize g.nodes[k] = x at *
      generalize h.nodes[k] = y at *
      have hsn := fun W (e : Ext w W) => sameNode_calls x y W (hxn.ext e) (hyn.ext e)
      obtain ⟨z, hz⟩ : ∃ z, decide (x.c = y.c) = z := ⟨_, rfl⟩
      rw [hz] at hsn
      go_upto_region 8 with fail
      clear a1
      have hE0 := hE3.trans hE
      have hbb1 := hb1.ext hE
      have hbb2 := hb2.ext hE
      refine wp_region_X [0, 1, 2, 3, 4, 5, 6, 7, 8, 9] [⟨10, [], ME.is (.bool z)⟩, ⟨11, [10], ME.is (.bool z)⟩] (by kernel_rfl) (by kernel_rfl) (fun _ _ d _ _ h => by cases d <;> exact h) (fun w4 hE4 => ?_)
      have c1 : ∀ W, Ext w4 W → W.cell? ⟨w.heap.size, 1, none⟩ = some (.slice (some ⟨p, o, none⟩) g.nodes.length cn) := fun W h => by rw [← EN.out]; exact ((hbb1.ext hE4).ext h).cell 1
      have c2 : ∀ W, Ext w4 W → W.cell? ⟨w.heap.size + 1, 1, none⟩ = some (.slice (some ⟨q, o2, none⟩) h.nodes.length dn) := fun W h' => by rw [← FN.out]; exact ((hbb2.ext hE4).ext h').cell 1
      have x0 : ∀ W, Ext w4 W → W.cell? ⟨p, o + k * 14, none⟩ = some (.int .i64 x.op) := cell_ext (cell_ext (hx 0 _ rfl) _ hE4)
      have x1 : ∀ W, Ext w4 W → W.cell? ⟨p, o + k * 14 + 1, none⟩ = some x.inV := cell_ext (cell_ext (hx 1 _ rfl) _ hE4)
      have x2 : ∀ W, Ext w4 W → W.cell? ⟨p, o + k * 14 + 2, none⟩ = some (.int .i64 x.k) := cell_ext (cell_ext (hx 2 _ rfl) _ hE4)
      have x3 : ∀ W, Ext w4 W → W.cell? ⟨p, o + k * 14 + 3, none⟩ = some (.int .i64 x.st) := cell_ext (cell_ext (hx 3 _ rfl) _ hE4)
      have x4 : ∀ W, Ext w4 W → W.cell? ⟨p, o + k * 14 + 4, none⟩ = some (.int .i64 x.pad) := cell_ext (cell_ext (hx 4 _ rfl) _ hE4)
      have x5 : ∀ W, Ext w4 W → W.cell? ⟨p, o + k * 14 + 5, none⟩ = some (.int .i64 x.out) := cell_ext (cell_ext (hx 5 _ rfl) _ hE4)
      have x6 : ∀ W, Ext w4 W → W.cell? ⟨p, o + k * 14 + 6, none⟩ = some (.int .i64 x.mul) := cell_ext (cell_ext (hx 6 _ rfl) _ hE4)
      have x7 : ∀ W, Ext w4 W → W.cell? ⟨p, o + k * 14 + 7, none⟩ = some (.int .i64 x.sh) := cell_ext (cell_ext (hx 7 _ rfl) _ hE4)
      have x8 : ∀ W, Ext w4 W → W.cell? ⟨p, o + k * 14 + 8, none⟩ = some (.int .i64 x.zero) := cell_ext (cell_ext (hx 8 _ rfl) _ hE4)
      have x9 : ∀ W, Ext w4 W → W.cell? ⟨p, o + k * 14 + 9, none⟩ = some (.int .i64 x.th) := cell_ext (cell_ext (hx 9 _ rfl) _ hE4)
      have x10 : ∀ W, Ext w4 W → W.cell? ⟨p, o + k * 14 + 10, none⟩ = some (.int .i64 x.tw) := cell_ext (cell_ext (hx 10 _ rfl) _ hE4)
      have x11 : ∀ W, Ext w4 W → W.cell? ⟨p, o + k * 14 + 11, none⟩ = some (.int .i64 x.tc) := cell_ext (cell_ext (hx 11 _ rfl) _ hE4)
      have x12 : ∀ W, Ext w4 W → W.cell? ⟨p, o + k * 14 + 12, none⟩ = some x.wV := cell_ext (cell_ext (hx 12 _ rfl) _ hE4)
      have x13 : ∀ W, Ext w4 W → W.cell? ⟨p, o + k * 14 + 13, none⟩ = some x.bV := cell_ext (cell_ext (hx 13 _ rfl) _ hE4)
      have y0 : ∀ W, Ext w4 W → W.cell? ⟨q, o2 + k * 14, none⟩ = some (.int .i64 y.op) := cell_ext (cell_ext (hy 0 _ rfl) _ hE4)
      have y1 : ∀ W, Ext w4 W → W.cell? ⟨q, o2 + k * 14 + 1, none⟩ = some y.inV := cell_ext (cell_ext (hy 1 _ rfl) _ hE4)
      have y2 : ∀ W, Ext w4 W → W.cell? ⟨q, o2 + k * 14 + 2, none⟩ = some (.int .i64 y.k) := cell_ext (cell_ext (hy 2 _ rfl) _ hE4)
      have y3 : ∀ W, Ext w4 W → W.cell? ⟨q, o2 + k * 14 + 3, none⟩ = some (.int .i64 y.st) := cell_ext (cell_ext (hy 3 _ rfl) _ hE4)
      have y4 : ∀ W, Ext w4 W → W.cell? ⟨q, o2 + k * 14 + 4, none⟩ = some (.int .i64 y.pad) := cell_ext (cell_ext (hy 4 _ rfl) _ hE4)
      have y5 : ∀ W, Ext w4 W → W.cell? ⟨q, o2 + k * 14 + 5, none⟩ = some (.int .i64 y.out) := cell_ext (cell_ext (hy 5 _ rfl) _ hE4)
      have y6 : ∀ W, Ext w4 W → W.cell? ⟨q, o2 + k * 14 + 6, none⟩ = some (.int .i64 y.mul) := cell_ext (cell_ext (hy 6 _ rfl) _ hE4)
      have y7 : ∀ W, Ext w4 W → W.cell? ⟨q, o2 + k * 14 + 7, none⟩ = some (.int .i64 y.sh) := cell_ext (cell_ext (hy 7 _ rfl) _ hE4)
      have y8 : ∀ W, Ext w4 W → W.cell? ⟨q, o2 + k * 14 + 8, none⟩ = some (.int .i64 y.zero) := cell_ext (cell_ext (hy 8 _ rfl) _ hE4)
      have y9 : ∀ W, Ext w4 W → W.cell? ⟨q, o2 + k * 14 + 9, none⟩ = some (.int .i64 y.th) := cell_ext (cell_ext (hy 9 _ rfl) _ hE4)
      have y10 : ∀ W, Ext w4 W → W.cell? ⟨q, o2 + k * 14 + 10, none⟩ = some (.int .i64 y.tw) := cell_ext (cell_ext (hy 10 _ rfl) _ hE4)
      have y11 : ∀ W, Ext w4 W → W.cell? ⟨q, o2 + k * 14 + 11, none⟩ = some (.int .i64 y.tc) := cell_ext (cell_ext (hy 11 _ rfl) _ hE4)
      have y12 : ∀ W, Ext w4 W → W.cell? ⟨q, o2 + k * 14 + 12, none⟩ = some y.wV := cell_ext (cell_ext (hy 12 _ rfl) _ hE4)
      have y13 : ∀ W, Ext w4 W → W.cell? ⟨q, o2 + k * 14 + 13, none⟩ = some y.bV := cell_ext (cell_ext (hy 13 _ rfl) _ hE4)
      repeat (first | (refine wpP_pure rfl (by rfl) (fun W hW => by go_simp; with_reducible rfl) ?_; simp only [Act.put, List.setIfInBounds_toArray, List.set_cons_zero, List.set_cons_succ]) | (refine wpP_skip rfl (by rfl) ?_; simp only [Act.put, List.setIfInBounds_toArray, List.set_cons_zero, List.set_cons_succ]))
      clear x0 y0 x1 y1 x2 y2 x3 y3 x4 y4 x5 y5 x6 y6 x7 y7 x8 y8 x9 y9 x10 y10 x11 y11 x12 y12 x13 y13 c1 c2 hx hy
      refine ⟨?_, fun W hR => ?_⟩
      · simp only [rSteps, rNeed, rStep, both_top, tie, TP.top, TP.mine, MP.top, MP.mine, MT.mine, MT.tied, MT.done, MT.is, List.reverse_cons, List.reverse_nil, List.nil_append, List.cons_append, ME.is, MP.is, MP.done, ME.ints, ME.row, Region.wanted, yielded, List.getElem?_toArray, phi, dstAt, List.getElem?_cons_zero, List.getElem?_cons_succ, Option.bind_some, Act.put, List.setIfInBounds_toArray, List.set_cons_zero, List.set_cons_succ, and_true, forall_eq, reduceIte, Nat.reduceEqDiff, beq_iff_eq, Option.some.injEq, Bool.false_eq_true, reduceCtorEq, implies_true, true_and]
        refine ⟨fun W hR => ?_, fun W hR => ?_⟩
        · go_simp
          refine (hsn W (hE0.trans (hE4.trans hR))).mono ?_
          rintro e w' ⟨rfl, h1⟩
          exact ⟨_, rfl, h1, rfl⟩
        · (go_simp; exact ⟨_, rfl, Ext.refl _, rfl⟩)
      · simp only [rFin, envAt, TP.top, TP.mine, MP.top, MP.mine, MT.mine, MT.tied, MT.done, MT.is, List.map_cons, List.map_nil, true_implies, List.head?_cons, ME.is, MP.is, MP.done, ME.ints, ME.row, phi, dstAt, List.getElem?_cons_zero, List.getElem?_cons_succ, Option.bind_some, Act.put, List.setIfInBounds_toArray, List.set_cons_zero, List.set_cons_succ, and_true, forall_eq, reduceIte, Nat.reduceEqDiff, beq_iff_eq, Option.some.injEq, Bool.false_eq_true, reduceCtorEq, implies_true, true_and]
        have hEW := hE.trans (hE4.trans hR)
        cases z with
        | true =>
          have HTK := Lib.hid (take_eq ht.out HX.out HY.out (of_decide_eq_true hz))
          clear hz hsn
          go_wp2_with fail
          go_roundw
          case rel => exact ⟨k + 1, by omega, by go_num, HTK, hEW⟩
          case measure => simp [intOf]; omega
        | false =>
          have HTK := Lib.hid (take_ne HX.out HY.out (of_decide_eq_false hz))
          clear hz hsn
          go_wp2_with fail
          go_ret
          exact HNE.out _ _ rfl (fun e => HTK.out ((gc_eq_iff g h).1 e).2.2) (hE3.trans hEW)
    · have hab : g.nodes.map Nd.c = h.nodes.map Nd.c := by
        have h1 := ht.out
        have h2 := HL.out
        rw [List.take_of_length_le (by rw [List.length_map]; omega), List.take_of_length_le (by rw [List.length_map]; omega)] at h1
        exact h1
      have HAB := Lib.hid hab
      clear hab
      go_wp2_with fail
      go_ret
      exact ⟨ret_bool (by rw [decide_eq_true]; exact (gc_eq_iff g h).2 ⟨HI.out, HO.out, HAB.out⟩), hE3.trans hE⟩

end Go.Proofs.Ytdhdbmfipkppiaa
