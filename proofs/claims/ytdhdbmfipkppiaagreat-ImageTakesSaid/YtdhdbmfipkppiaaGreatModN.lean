/- The walk of the reference's SameNode: where two nodes differ (the rows, element by element). -/
/- The walk of the reference's SameNode. -/
/- The walk of the writer of graphs: node. -/
import Derived.Test.YtdhdbmfipkppiaaGreatModK0
import Derived.Test.YtdhdbmfipkppiaaGreatModKb
import Derived.Test.YtdhdbmfipkppiaaGreatModKc
import Derived.Test.YtdhdbmfipkppiaaGreatModP
set_option linter.unusedSimpArgs false
set_option linter.unusedVariables false
set_option linter.unnecessarySimpa false
namespace Go.Proofs.YtdhdbmfipkppiaaGreat
open Go.RowKit

set_option maxRecDepth 20000 in
set_option maxHeartbeats 12800000 in
theorem sn_eq (n m : Nd) (w : World) (hn : nodeAt w n) (hm : nodeAt w m) (hi : n.ins = m.ins) (hop : n.op = m.op) (hk : n.k = m.k) (hst : n.st = m.st) (hpad : n.pad = m.pad) (hout : n.out = m.out) (hmul : n.mul = m.mul) (hsh : n.sh = m.sh) (hzero : n.zero = m.zero) (hto : (⟨n.th, n.tw, n.tc⟩ : Sz) = ⟨m.th, m.tw, m.tc⟩) (hw : n.ws.length = m.ws.length) (hb : n.bs.length = m.bs.length) :
    Calls Tryz.prog 55 #[.agg #[.int .i64 n.op, n.inV, .int .i64 n.k, .int .i64 n.st, .int .i64 n.pad, .int .i64 n.out, .int .i64 n.mul, .int .i64 n.sh, .int .i64 n.zero, .int .i64 n.th, .int .i64 n.tw, .int .i64 n.tc, n.wV, n.bV], .agg #[.int .i64 m.op, m.inV, .int .i64 m.k, .int .i64 m.st, .int .i64 m.pad, .int .i64 m.out, .int .i64 m.mul, .int .i64 m.sh, .int .i64 m.zero, .int .i64 m.th, .int .i64 m.tw, .int .i64 m.tc, m.wV, m.bV]] w fun e w' => e = .returned (.bool (decide (n.ws = m.ws ∧ n.bs = m.bs))) ∧ Ext w w' := by
  have hT := two_new w n m
  obtain ⟨n1, n2, n3, n4, n5, n6, n7, n8⟩ := hn
  obtain ⟨m1, m2, m3, m4, m5, m6, m7, m8⟩ := hm
  obtain ⟨Aw, cw, ew, aw1, aw2, _⟩ := id n2.form
  obtain ⟨Bw, dw, fw, bw1, bw2, _⟩ := id m2.form
  unfold maxLen at aw2 bw2
  have EW := Lib.hid ew
  have FW := Lib.hid fw
  clear ew fw
  obtain ⟨Ab, cb, eb, ab1, ab2, _⟩ := id n3.form
  obtain ⟨Bb, db, fb, bb1, bb2, _⟩ := id m3.form
  unfold maxLen at ab2 bb2
  have EB := Lib.hid eb
  have FB := Lib.hid fb
  clear eb fb
  have hsi := fun W (h : Ext w W) => sameInts_calls n.inV m.inV _ _ W (n1.ext h) (m1.ext h)
  rw [decide_eq_true hi] at hsi
  clear hi
  have top : (n.op != m.op) = false := by simp [hop]
  clear hop
  have tk : (n.k != m.k) = false := by simp [hk]
  clear hk
  have tst : (n.st != m.st) = false := by simp [hst]
  clear hst
  have tpad : (n.pad != m.pad) = false := by simp [hpad]
  clear hpad
  have tout : (n.out != m.out) = false := by simp [hout]
  clear hout
  have tmul : (n.mul != m.mul) = false := by simp [hmul]
  clear hmul
  have tsh : (n.sh != m.sh) = false := by simp [hsh]
  clear hsh
  have tzero : (n.zero != m.zero) = false := by simp [hzero]
  clear hzero
  have hq0 := fun W => sz_neq ⟨n.th, n.tw, n.tc⟩ ⟨m.th, m.tw, m.tc⟩ W
  simp only at hq0
  rw [decide_eq_true hto] at hq0
  clear hto
  have tw : ((n.ws.length : Int) != (m.ws.length : Int)) = false := by simp [hw]
  have tb : ((n.bs.length : Int) != (m.bs.length : Int)) = false := by simp [hb]
  have HW := Lib.hid hw
  have HB := Lib.hid hb
  clear hw hb
  clear n1 m1 n4 n5 n6 n7 n8 m4 m5 m6 m7 m8
  go_enter Tryz.func55, Tryz.ntmps55
  go_upto_region 1 with fail
  generalize World.alloc (World.alloc w _) _ = w1 at *
  have x1 : World.cell? w1 ⟨w.heap.size, 1, none⟩ = some n.inV := hT.hn.cell 1
  have y1 : World.cell? w1 ⟨w.heap.size + 1, 1, none⟩ = some m.inV := hT.hm.cell 1
  go_upto_region 2 with (go_at_call 54; refine (hsi _ hT.ext).mono ?_; rintro e w2 ⟨rfl, h2⟩)
  clear x1 y1 hsi
  replace hT := hT.later h2
  clear h2
  have x0 : World.cell? w2 ⟨w.heap.size, 0, none⟩ = some (.int .i64 n.op) := hT.hn.cell 0
  have x2 : World.cell? w2 ⟨w.heap.size, 2, none⟩ = some (.int .i64 n.k) := hT.hn.cell 2
  have x3 : World.cell? w2 ⟨w.heap.size, 3, none⟩ = some (.int .i64 n.st) := hT.hn.cell 3
  have x4 : World.cell? w2 ⟨w.heap.size, 4, none⟩ = some (.int .i64 n.pad) := hT.hn.cell 4
  have x5 : World.cell? w2 ⟨w.heap.size, 5, none⟩ = some (.int .i64 n.out) := hT.hn.cell 5
  have x6 : World.cell? w2 ⟨w.heap.size, 6, none⟩ = some (.int .i64 n.mul) := hT.hn.cell 6
  have x7 : World.cell? w2 ⟨w.heap.size, 7, none⟩ = some (.int .i64 n.sh) := hT.hn.cell 7
  have x8 : World.cell? w2 ⟨w.heap.size, 8, none⟩ = some (.int .i64 n.zero) := hT.hn.cell 8
  have x9 : World.cell? w2 ⟨w.heap.size, 9, none⟩ = some (.int .i64 n.th) := hT.hn.cell 9
  have x10 : World.cell? w2 ⟨w.heap.size, 10, none⟩ = some (.int .i64 n.tw) := hT.hn.cell 10
  have x11 : World.cell? w2 ⟨w.heap.size, 11, none⟩ = some (.int .i64 n.tc) := hT.hn.cell 11
  have y0 : World.cell? w2 ⟨w.heap.size + 1, 0, none⟩ = some (.int .i64 m.op) := hT.hm.cell 0
  have y2 : World.cell? w2 ⟨w.heap.size + 1, 2, none⟩ = some (.int .i64 m.k) := hT.hm.cell 2
  have y3 : World.cell? w2 ⟨w.heap.size + 1, 3, none⟩ = some (.int .i64 m.st) := hT.hm.cell 3
  have y4 : World.cell? w2 ⟨w.heap.size + 1, 4, none⟩ = some (.int .i64 m.pad) := hT.hm.cell 4
  have y5 : World.cell? w2 ⟨w.heap.size + 1, 5, none⟩ = some (.int .i64 m.out) := hT.hm.cell 5
  have y6 : World.cell? w2 ⟨w.heap.size + 1, 6, none⟩ = some (.int .i64 m.mul) := hT.hm.cell 6
  have y7 : World.cell? w2 ⟨w.heap.size + 1, 7, none⟩ = some (.int .i64 m.sh) := hT.hm.cell 7
  have y8 : World.cell? w2 ⟨w.heap.size + 1, 8, none⟩ = some (.int .i64 m.zero) := hT.hm.cell 8
  have y9 : World.cell? w2 ⟨w.heap.size + 1, 9, none⟩ = some (.int .i64 m.th) := hT.hm.cell 9
  have y10 : World.cell? w2 ⟨w.heap.size + 1, 10, none⟩ = some (.int .i64 m.tw) := hT.hm.cell 10
  have y11 : World.cell? w2 ⟨w.heap.size + 1, 11, none⟩ = some (.int .i64 m.tc) := hT.hm.cell 11
  have x12 : World.cell? w2 ⟨w.heap.size, 12, none⟩ = some (.slice Aw n.ws.length cw) := by rw [← EW.out]; exact hT.hn.cell 12
  have y12 : World.cell? w2 ⟨w.heap.size + 1, 12, none⟩ = some (.slice Bw m.ws.length dw) := by rw [← FW.out]; exact hT.hm.cell 12
  have x13 : World.cell? w2 ⟨w.heap.size, 13, none⟩ = some (.slice Ab n.bs.length cb) := by rw [← EB.out]; exact hT.hn.cell 13
  have y13 : World.cell? w2 ⟨w.heap.size + 1, 13, none⟩ = some (.slice Bb m.bs.length db) := by rw [← FB.out]; exact hT.hm.cell 13
  have hEE := hT.ext
  go_wp2_with fail
  go_loopw [6] (fun i wr => ∃ k : Nat, k ≤ n.ws.length ∧ i = .int .i64 k ∧ Hid (n.ws.take k = m.ws.take k) ∧ Ext w2 wr) (fun i _ => n.ws.length - (intOf i).toNat)
  case atStart => exact ⟨0, by omega, rfl, rfl, Ext.refl _⟩
  case round =>
    obtain ⟨k, hk, rfl, ht, hE⟩ := hrel
    have bx : World.cell? wr ⟨w.heap.size, 12, none⟩ = some (.slice Aw n.ws.length cw) := by rw [← EW.out]; exact (hT.later hE).hn.cell 12
    by_cases hlt : k < n.ws.length
    · have hlt2 : k < m.ws.length := by have := HW.out; omega
      obtain ⟨_, _, e1, _, _, hc1⟩ := (n2.ext (hT.ext.trans hE)).form
      rw [EW.out] at e1
      cases e1
      obtain ⟨_, _, e2, _, _, hc2⟩ := (m2.ext (hT.ext.trans hE)).form
      rw [FW.out] at e2
      cases e2
      obtain ⟨p, o, rfl, x0⟩ := hc1 k hlt
      obtain ⟨q, o2, rfl, y0⟩ := hc2 k hlt2
      rw [show n.ws[k]?.getD 0 = n.ws[k] by simp [hlt]] at x0
      rw [show m.ws[k]?.getD 0 = m.ws[k] by simp [hlt2]] at y0
      have HX := Lib.hid (show n.ws[k]? = some n.ws[k] by simp [hlt])
      have HY := Lib.hid (show m.ws[k]? = some m.ws[k] by simp [hlt2])
      clear hc1 hc2
      generalize n.ws[k] = x at *
      generalize m.ws[k] = y at *
      go_upto_region 7 with fail
      clear bx
      refine wp_region_X [0, 1, 2, 3, 4, 5, 6, 7, 8, 9, 10] [] (by kernel_rfl) (by kernel_rfl) (fun _ _ d _ _ h => by cases d <;> exact h) (fun w4 hE2 => ?_)
      have b1 : ∀ W, Ext w4 W → W.cell? ⟨w.heap.size, 12, none⟩ = some (.slice (some ⟨p, o, none⟩) n.ws.length cw) := fun W h => by rw [← EW.out]; exact (((hT.later hE).later hE2).later h).hn.cell 12
      have b2 : ∀ W, Ext w4 W → W.cell? ⟨w.heap.size + 1, 12, none⟩ = some (.slice (some ⟨q, o2, none⟩) m.ws.length dw) := fun W h => by rw [← FW.out]; exact (((hT.later hE).later hE2).later h).hm.cell 12
      have x1 : ∀ W, Ext w4 W → W.cell? ⟨p, o + k, none⟩ = some (.int .i8 x) := cell_ext (cell_ext x0 _ hE2)
      have y1 : ∀ W, Ext w4 W → W.cell? ⟨q, o2 + k, none⟩ = some (.int .i8 y) := cell_ext (cell_ext y0 _ hE2)
      clear x0 y0
      repeat (first | (refine wpP_pure rfl (by rfl) (fun W hW => by go_simp; with_reducible rfl) ?_; simp only [Act.put, List.setIfInBounds_toArray, List.set_cons_zero, List.set_cons_succ]) | (refine wpP_skip rfl (by rfl) ?_; simp only [Act.put, List.setIfInBounds_toArray, List.set_cons_zero, List.set_cons_succ]))
      refine ⟨trivial, fun W hR => ?_⟩
      simp only [rFin, envAt, TP.top, TP.mine, MP.top, MP.mine, MT.mine, MT.tied, MT.done, MT.is, List.map_cons, List.map_nil, true_implies, List.head?_cons, ME.is, MP.is, MP.done, ME.ints, ME.row, phi, dstAt, List.getElem?_cons_zero, List.getElem?_cons_succ, Option.bind_some, Act.put, List.setIfInBounds_toArray, List.set_cons_zero, List.set_cons_succ, and_true, forall_eq, reduceIte, Nat.reduceEqDiff, beq_iff_eq, Option.some.injEq, Bool.false_eq_true, reduceCtorEq, implies_true, true_and]
      have hEW := hE.trans (hE2.trans hR)
      clear x1 y1 b1 b2
      by_cases hxy : x = y
      · have t2 : (x != y) = false := by simp [hxy]
        have HTK := Lib.hid (take_eq ht.out HX.out HY.out hxy)
        clear hxy
        go_wp2_with fail
        go_roundw
        case rel => exact ⟨k + 1, by omega, by go_num, HTK, hEW⟩
        case measure => simp [intOf]; omega
      · have t2 : (x != y) = true := by simp [hxy]
        have HTK := Lib.hid (take_ne HX.out HY.out hxy)
        clear hxy
        go_wp2_with fail
        go_ret
        exact ⟨ret_bool (by rw [decide_eq_false]; exact fun h => HTK.out h.1), hT.ext.trans hEW⟩
    · have hab : n.ws = m.ws := by
        have h1 := ht.out
        have h2 := HW.out
        rw [List.take_of_length_le (by omega), List.take_of_length_le (by omega)] at h1
        exact h1
      have HABws := Lib.hid hab
      clear hab
      go_wp2_with fail
      clear bx hk ht hlt
      go_loopw [7] (fun i wr => ∃ k : Nat, k ≤ n.bs.length ∧ i = .int .i64 k ∧ Hid (n.bs.take k = m.bs.take k) ∧ Ext w2 wr) (fun i _ => n.bs.length - (intOf i).toNat)
      case atStart => exact ⟨0, by omega, rfl, rfl, hE⟩
      case round =>
        obtain ⟨k, hk, rfl, ht, hE⟩ := hrel
        have bx : World.cell? wr ⟨w.heap.size, 13, none⟩ = some (.slice Ab n.bs.length cb) := by rw [← EB.out]; exact (hT.later hE).hn.cell 13
        by_cases hlt : k < n.bs.length
        · have hlt2 : k < m.bs.length := by have := HB.out; omega
          obtain ⟨_, _, e1, _, _, hc1⟩ := (n3.ext (hT.ext.trans hE)).form
          rw [EB.out] at e1
          cases e1
          obtain ⟨_, _, e2, _, _, hc2⟩ := (m3.ext (hT.ext.trans hE)).form
          rw [FB.out] at e2
          cases e2
          obtain ⟨p, o, rfl, x0⟩ := hc1 k hlt
          obtain ⟨q, o2, rfl, y0⟩ := hc2 k hlt2
          rw [show n.bs[k]?.getD 0 = n.bs[k] by simp [hlt]] at x0
          rw [show m.bs[k]?.getD 0 = m.bs[k] by simp [hlt2]] at y0
          have HX := Lib.hid (show n.bs[k]? = some n.bs[k] by simp [hlt])
          have HY := Lib.hid (show m.bs[k]? = some m.bs[k] by simp [hlt2])
          clear hc1 hc2
          generalize n.bs[k] = x at *
          generalize m.bs[k] = y at *
          go_upto_region 12 with fail
          clear bx
          refine wp_region_X [0, 1, 2, 3, 4, 5, 6, 7, 8, 9, 10] [] (by kernel_rfl) (by kernel_rfl) (fun _ _ d _ _ h => by cases d <;> exact h) (fun w4 hE2 => ?_)
          have b1 : ∀ W, Ext w4 W → W.cell? ⟨w.heap.size, 13, none⟩ = some (.slice (some ⟨p, o, none⟩) n.bs.length cb) := fun W h => by rw [← EB.out]; exact (((hT.later hE).later hE2).later h).hn.cell 13
          have b2 : ∀ W, Ext w4 W → W.cell? ⟨w.heap.size + 1, 13, none⟩ = some (.slice (some ⟨q, o2, none⟩) m.bs.length db) := fun W h => by rw [← FB.out]; exact (((hT.later hE).later hE2).later h).hm.cell 13
          have x1 : ∀ W, Ext w4 W → W.cell? ⟨p, o + k, none⟩ = some (.int .i32 x) := cell_ext (cell_ext x0 _ hE2)
          have y1 : ∀ W, Ext w4 W → W.cell? ⟨q, o2 + k, none⟩ = some (.int .i32 y) := cell_ext (cell_ext y0 _ hE2)
          clear x0 y0
          repeat (first | (refine wpP_pure rfl (by rfl) (fun W hW => by go_simp; with_reducible rfl) ?_; simp only [Act.put, List.setIfInBounds_toArray, List.set_cons_zero, List.set_cons_succ]) | (refine wpP_skip rfl (by rfl) ?_; simp only [Act.put, List.setIfInBounds_toArray, List.set_cons_zero, List.set_cons_succ]))
          refine ⟨trivial, fun W hR => ?_⟩
          simp only [rFin, envAt, TP.top, TP.mine, MP.top, MP.mine, MT.mine, MT.tied, MT.done, MT.is, List.map_cons, List.map_nil, true_implies, List.head?_cons, ME.is, MP.is, MP.done, ME.ints, ME.row, phi, dstAt, List.getElem?_cons_zero, List.getElem?_cons_succ, Option.bind_some, Act.put, List.setIfInBounds_toArray, List.set_cons_zero, List.set_cons_succ, and_true, forall_eq, reduceIte, Nat.reduceEqDiff, beq_iff_eq, Option.some.injEq, Bool.false_eq_true, reduceCtorEq, implies_true, true_and]
          have hEW := hE.trans (hE2.trans hR)
          clear x1 y1 b1 b2
          by_cases hxy : x = y
          · have t2 : (x != y) = false := by simp [hxy]
            have HTK := Lib.hid (take_eq ht.out HX.out HY.out hxy)
            clear hxy
            go_wp2_with fail
            go_roundw
            case rel => exact ⟨k + 1, by omega, by go_num, HTK, hEW⟩
            case measure => simp [intOf]; omega
          · have t2 : (x != y) = true := by simp [hxy]
            have HTK := Lib.hid (take_ne HX.out HY.out hxy)
            clear hxy
            go_wp2_with fail
            go_ret
            exact ⟨ret_bool (by rw [decide_eq_false]; exact fun h => HTK.out h.2), hT.ext.trans hEW⟩
        · have hab : n.bs = m.bs := by
            have h1 := ht.out
            have h2 := HB.out
            rw [List.take_of_length_le (by omega), List.take_of_length_le (by omega)] at h1
            exact h1
          have HABbs := Lib.hid hab
          clear hab
          go_wp2_with fail
          go_ret
          exact ⟨ret_bool (by rw [decide_eq_true]; exact ⟨HABws.out, HABbs.out⟩), hT.ext.trans hE⟩

end Go.Proofs.YtdhdbmfipkppiaaGreat

namespace Go.Proofs.YtdhdbmfipkppiaaGreat
open Go.RowKit

theorem sameNode_calls (n m : Nd) (w : World) (hn : nodeAt w n) (hm : nodeAt w m) :
    Calls Tryz.prog 55 #[.agg #[.int .i64 n.op, n.inV, .int .i64 n.k, .int .i64 n.st, .int .i64 n.pad, .int .i64 n.out, .int .i64 n.mul, .int .i64 n.sh, .int .i64 n.zero, .int .i64 n.th, .int .i64 n.tw, .int .i64 n.tc, n.wV, n.bV], .agg #[.int .i64 m.op, m.inV, .int .i64 m.k, .int .i64 m.st, .int .i64 m.pad, .int .i64 m.out, .int .i64 m.mul, .int .i64 m.sh, .int .i64 m.zero, .int .i64 m.th, .int .i64 m.tw, .int .i64 m.tc, m.wV, m.bV]] w fun e w' => e = .returned (.bool (decide (n.c = m.c))) ∧ Ext w w' := by
  have key : ∀ (b : Bool), (n.c ≠ m.c) → Calls Tryz.prog 55 #[.agg #[.int .i64 n.op, n.inV, .int .i64 n.k, .int .i64 n.st, .int .i64 n.pad, .int .i64 n.out, .int .i64 n.mul, .int .i64 n.sh, .int .i64 n.zero, .int .i64 n.th, .int .i64 n.tw, .int .i64 n.tc, n.wV, n.bV], .agg #[.int .i64 m.op, m.inV, .int .i64 m.k, .int .i64 m.st, .int .i64 m.pad, .int .i64 m.out, .int .i64 m.mul, .int .i64 m.sh, .int .i64 m.zero, .int .i64 m.th, .int .i64 m.tw, .int .i64 m.tc, m.wV, m.bV]] w (fun e w' => e = .returned (.bool false) ∧ Ext w w') → Calls Tryz.prog 55 #[.agg #[.int .i64 n.op, n.inV, .int .i64 n.k, .int .i64 n.st, .int .i64 n.pad, .int .i64 n.out, .int .i64 n.mul, .int .i64 n.sh, .int .i64 n.zero, .int .i64 n.th, .int .i64 n.tw, .int .i64 n.tc, n.wV, n.bV], .agg #[.int .i64 m.op, m.inV, .int .i64 m.k, .int .i64 m.st, .int .i64 m.pad, .int .i64 m.out, .int .i64 m.mul, .int .i64 m.sh, .int .i64 m.zero, .int .i64 m.th, .int .i64 m.tw, .int .i64 m.tc, m.wV, m.bV]] w fun e w' => e = .returned (.bool (decide (n.c = m.c))) ∧ Ext w w' := fun _ h hc => hc.mono fun e w' ⟨h1, h2⟩ => ⟨by rw [h1, decide_eq_false h], h2⟩
  by_cases hi : n.ins = m.ins
  case neg => exact key true (fun e => hi (congrArg Nc.ins e)) (sn_ins n m w hn hm hi)
  by_cases hop : n.op = m.op
  case neg => exact key true (fun e => hop (congrArg Nc.op e)) (sn_op n m w hn hm hi hop)
  by_cases hk : n.k = m.k
  case neg => exact key true (fun e => hk (congrArg Nc.k e)) (sn_k n m w hn hm hi hop hk)
  by_cases hst : n.st = m.st
  case neg => exact key true (fun e => hst (congrArg Nc.st e)) (sn_st n m w hn hm hi hop hk hst)
  by_cases hpad : n.pad = m.pad
  case neg => exact key true (fun e => hpad (congrArg Nc.pad e)) (sn_pad n m w hn hm hi hop hk hst hpad)
  by_cases hout : n.out = m.out
  case neg => exact key true (fun e => hout (congrArg Nc.out e)) (sn_out n m w hn hm hi hop hk hst hpad hout)
  by_cases hmul : n.mul = m.mul
  case neg => exact key true (fun e => hmul (congrArg Nc.mul e)) (sn_mul n m w hn hm hi hop hk hst hpad hout hmul)
  by_cases hsh : n.sh = m.sh
  case neg => exact key true (fun e => hsh (congrArg Nc.sh e)) (sn_sh n m w hn hm hi hop hk hst hpad hout hmul hsh)
  by_cases hzero : n.zero = m.zero
  case neg => exact key true (fun e => hzero (congrArg Nc.zero e)) (sn_zero n m w hn hm hi hop hk hst hpad hout hmul hsh hzero)
  by_cases hto : (⟨n.th, n.tw, n.tc⟩ : Sz) = ⟨m.th, m.tw, m.tc⟩
  case neg => exact key true (fun e => hto (by
    have e1 := congrArg Nc.th e
    have e2 := congrArg Nc.tw e
    have e3 := congrArg Nc.tc e
    simp only [Nd.c] at e1 e2 e3
    rw [e1, e2, e3])) (sn_to n m w hn hm hi hop hk hst hpad hout hmul hsh hzero hto)
  by_cases hw : n.ws.length = m.ws.length
  case neg => exact key true (fun e => hw (congrArg (fun c : Nc => c.ws.length) e)) (sn_wl n m w hn hm hi hop hk hst hpad hout hmul hsh hzero hto hw)
  by_cases hb : n.bs.length = m.bs.length
  case neg => exact key true (fun e => hb (congrArg (fun c : Nc => c.bs.length) e)) (sn_bl n m w hn hm hi hop hk hst hpad hout hmul hsh hzero hto hw hb)
  refine (sn_eq n m w hn hm hi hop hk hst hpad hout hmul hsh hzero hto hw hb).mono fun e w' ⟨h1, h2⟩ => ⟨?_, h2⟩
  rw [h1]
  refine ret_bool ?_
  rw [Bool.eq_iff_iff, decide_eq_true_iff, decide_eq_true_iff]
  constructor
  · rintro ⟨k1, k2⟩
    simp only [Sz.mk.injEq] at hto
    exact nc_ext hop hk hst hpad hout hmul hsh hzero hto.1 hto.2.1 hto.2.2 hi k1 k2
  · intro e
    exact ⟨congrArg Nc.ws e, congrArg Nc.bs e⟩

end Go.Proofs.YtdhdbmfipkppiaaGreat

namespace Go.Proofs.YtdhdbmfipkppiaaGreat
open Go.RowKit

theorem off_base {S : Side} {w0 w : World} {B : Nat} {v lv : Value} {bs l : List Int} {k : IntKind} (hw : Wr S w0 w B v bs) (hl : Ints k w0 lv l) : Off l lv v B := fun h0 b hb => by
  obtain ⟨b', e, hlt⟩ := Row.lt hl (by simpa using h0)
  rw [hb] at e
  cases e
  have := hw.hB
  exact ⟨by omega, fun e => by have := (hw.ownGe e).1; omega⟩

theorem Wr.sideCell {w0 w : World} {B b : Nat} {v : Value} {bs : List Int} {cs : Array Value} {T : TypeId} (h : Wr [(b, cs, T)] w0 w B v bs) : Blk w b cs T := (h.side _ (List.mem_singleton.2 rfl)).1

set_option maxRecDepth 4000 in
set_option maxHeartbeats 3200000 in
theorem node_calls (n : Nd) (w0 w : World) (B : Nat) (v : Value) (bs : List Int) (hw : Wr [] w0 w B v bs) (hn : nodeAt w0 n) (hlen : bs.length + longN n.c ≤ 100000000) :
    Calls Tryz.prog 58 #[.pointer (some ⟨B, 0, none⟩), .agg #[.int .i64 n.op, n.inV, .int .i64 n.k, .int .i64 n.st, .int .i64 n.pad, .int .i64 n.out, .int .i64 n.mul, .int .i64 n.sh, .int .i64 n.zero, .int .i64 n.th, .int .i64 n.tw, .int .i64 n.tc, n.wV, n.bV]] w fun e w' => e = .returned (.tuple #[]) ∧ ∃ v', Wr [] w0 w' B v' (bs ++ encN n.c) := by
  obtain ⟨hi, hws, hbs, hbr, hwr, hil, hwl, hbl⟩ := hn
  have hw1 := hw.with #[.int .i64 n.op, n.inV, .int .i64 n.k, .int .i64 n.st, .int .i64 n.pad, .int .i64 n.out, .int .i64 n.mul, .int .i64 n.sh, .int .i64 n.zero, .int .i64 n.th, .int .i64 n.tw, .int .i64 n.tc, n.wV, n.bV] 67
  generalize hNb : w.heap.size = Nb at *
  have hlen' : bs.length + (16 + n.ins.length + n.ws.length + 4 * n.bs.length) ≤ 100000000 := hlen
  have hb := hw1.sideCell
  obtain ⟨Ai, ci, ei, hi1, hi2, _⟩ := id hi.form
  obtain ⟨Aw, cw, ew, hws1, hws2, _⟩ := id hws.form
  obtain ⟨Ab, cb, eb, hbs1, hbs2, _⟩ := id hbs.form
  unfold maxLen at hi2 hws2 hbs2
  have EI := Lib.hid ei
  have EW := Lib.hid ew
  have EB := Lib.hid eb
  clear ei ew eb
  have d0 : World.cell? (w.alloc (.cells #[.int .i64 n.op, n.inV, .int .i64 n.k, .int .i64 n.st, .int .i64 n.pad, .int .i64 n.out, .int .i64 n.mul, .int .i64 n.sh, .int .i64 n.zero, .int .i64 n.th, .int .i64 n.tw, .int .i64 n.tc, n.wV, n.bV] 67)) ⟨Nb, 0, none⟩ = some (.int .i64 n.op) := hb.cell 0
  have d1 : World.cell? (w.alloc (.cells #[.int .i64 n.op, n.inV, .int .i64 n.k, .int .i64 n.st, .int .i64 n.pad, .int .i64 n.out, .int .i64 n.mul, .int .i64 n.sh, .int .i64 n.zero, .int .i64 n.th, .int .i64 n.tw, .int .i64 n.tc, n.wV, n.bV] 67)) ⟨Nb, 1, none⟩ = some (.slice Ai n.ins.length ci) := by rw [← EI.out]; exact hb.cell 1
  have hS := hw.with #[.int .i64 n.op, n.inV, .int .i64 n.k, .int .i64 n.st, .int .i64 n.pad, .int .i64 n.out, .int .i64 n.mul, .int .i64 n.sh, .int .i64 n.zero, .int .i64 n.th, .int .i64 n.tw, .int .i64 n.tc, n.wV, n.bV] 67
  go_enter Tryz.func58, Tryz.ntmps58
  go_upto_region 1 with fail
  clear hS hw
  generalize w.alloc _ = w1 at *
  have hl1 : bs.length + [n.op, (n.ins.length : Int)].length ≤ 100000000 := by simp; omega
  go_upto_region 2 with (go_at_call 57; refine (putl_calls hw1 [n.op, n.ins.length] rfl rfl hl1).mono ?_; rintro e w2 ⟨rfl, v2, hw2⟩)
  clear d0 d1 hb hl1 hw1
  have d1 : World.cell? w2 ⟨Nb, 1, none⟩ = some n.inV := hw2.sideCell.cell 1
  have hl1 : (bs ++ [n.op, (n.ins.length : Int)].map b8).length + n.ins.length ≤ 100000000 := by simp; omega
  have hp := put_calls w0 w2 B v2 n.inV _ n.ins hw2 (hi.ext hw2.ext) (off_base hw2 hi) hl1
  go_upto_region 3 with (go_at_call 57; refine hp.mono ?_; rintro e w3 ⟨rfl, v3, hw3⟩)
  clear d1 hp hl1 hw2
  have d2 : World.cell? w3 ⟨Nb, 2, none⟩ = some (.int .i64 n.k) := hw3.sideCell.cell 2
  have d3 : World.cell? w3 ⟨Nb, 3, none⟩ = some (.int .i64 n.st) := hw3.sideCell.cell 3
  have d4 : World.cell? w3 ⟨Nb, 4, none⟩ = some (.int .i64 n.pad) := hw3.sideCell.cell 4
  have d5 : World.cell? w3 ⟨Nb, 5, none⟩ = some (.int .i64 n.out) := hw3.sideCell.cell 5
  have d6 : World.cell? w3 ⟨Nb, 6, none⟩ = some (.int .i64 n.mul) := hw3.sideCell.cell 6
  have d7 : World.cell? w3 ⟨Nb, 7, none⟩ = some (.int .i64 n.sh) := hw3.sideCell.cell 7
  have d8 : World.cell? w3 ⟨Nb, 8, none⟩ = some (.int .i64 n.zero) := hw3.sideCell.cell 8
  have d9 : World.cell? w3 ⟨Nb, 9, none⟩ = some (.int .i64 n.th) := hw3.sideCell.cell 9
  have d10 : World.cell? w3 ⟨Nb, 10, none⟩ = some (.int .i64 n.tw) := hw3.sideCell.cell 10
  have d11 : World.cell? w3 ⟨Nb, 11, none⟩ = some (.int .i64 n.tc) := hw3.sideCell.cell 11
  have d12 : World.cell? w3 ⟨Nb, 12, none⟩ = some (.slice Aw n.ws.length cw) := by rw [← EW.out]; exact hw3.sideCell.cell 12
  have hl1 : (bs ++ [n.op, (n.ins.length : Int)].map b8 ++ n.ins.map b8).length + 13 ≤ 100000000 := by simp; omega
  go_upto_region 4 with (go_at_call 57; refine (putl_calls hw3 [n.k, n.st, n.pad, n.out, n.mul / 256, n.mul, n.sh, n.zero, n.th, n.tw, n.tc, (n.ws.length : Int) / 256, n.ws.length] rfl rfl hl1).mono ?_; rintro e w4 ⟨rfl, v4, hw4⟩)
  clear d2 d3 d4 d5 d6 d7 d8 d9 d10 d11 d12 hl1 hw3
  have HB3 : Hid (bs ++ [n.op, (n.ins.length : Int)].map b8 ++ n.ins.map b8 ++ [n.k, n.st, n.pad, n.out, n.mul / 256, n.mul, n.sh, n.zero, n.th, n.tw, n.tc, (n.ws.length : Int) / 256, n.ws.length].map b8 ++ n.ws.map b8 ++ [(n.bs.length : Int)].map b8 ++ n.bs.flatMap encB = bs ++ encN n.c) := by
    show _ = _
    simp [encN, Nd.c, List.append_assoc]
  have hl3 : (bs ++ [n.op, (n.ins.length : Int)].map b8 ++ n.ins.map b8 ++ [n.k, n.st, n.pad, n.out, n.mul / 256, n.mul, n.sh, n.zero, n.th, n.tw, n.tc, (n.ws.length : Int) / 256, n.ws.length].map b8).length = bs.length + 15 + n.ins.length := by simp; omega
  generalize bs ++ [n.op, (n.ins.length : Int)].map b8 ++ n.ins.map b8 ++ [n.k, n.st, n.pad, n.out, n.mul / 256, n.mul, n.sh, n.zero, n.th, n.tw, n.tc, (n.ws.length : Int) / 256, n.ws.length].map b8 = b3 at *
  have d12 : World.cell? w4 ⟨Nb, 10 + 2, none⟩ = some (.slice Aw n.ws.length cw) := by rw [← EW.out]; exact hw4.sideCell.cell 12
  go_wp2_with fail
  clear d12
  go_loopw [59] (fun i wr => ∃ (k : Nat) (v : Value), k ≤ n.ws.length ∧ i = .int .i64 k ∧ Wr [(Nb, #[.int .i64 n.op, n.inV, .int .i64 n.k, .int .i64 n.st, .int .i64 n.pad, .int .i64 n.out, .int .i64 n.mul, .int .i64 n.sh, .int .i64 n.zero, .int .i64 n.th, .int .i64 n.tw, .int .i64 n.tc, n.wV, n.bV], 67)] w0 wr B v (b3 ++ (n.ws.take k).map b8)) (fun i _ => n.ws.length - (intOf i).toNat)
  case atStart => exact ⟨0, v4, by omega, rfl, by simpa using hw4⟩
  case round =>
    clear hw4
    obtain ⟨k, v, hk, rfl, hw⟩ := hrel
    by_cases hlt : k < n.ws.length
    · obtain ⟨A', c', e', _, _, hcell⟩ := (hws.ext hw.ext).form
      rw [EW.out] at e'
      cases e'
      obtain ⟨b, off, rfl, x0⟩ := hcell k hlt
      rw [show n.ws[k]?.getD 0 = n.ws[k] by simp [hlt]] at x0
      have HT : Hid (n.ws.take (k + 1) = n.ws.take k ++ [n.ws[k]]) := List.take_succ_eq_append_getElem hlt
      have hz := hwr n.ws[k] (List.getElem_mem hlt)
      clear hcell hws hbs hi hbr hwr
      generalize n.ws[k] = z at *
      obtain ⟨hz1, hz2⟩ := hz
      have hlk : (b3 ++ (n.ws.take k).map b8).length + [z].length ≤ 100000000 := by simp; omega
      go_wp2_with (go_at_call 57; refine (putl_calls hw [z] rfl rfl hlk).mono ?_; rintro e w5 ⟨rfl, v5, hw5⟩)
      go_roundw
      case rel => exact ⟨k + 1, v5, by omega, by go_num, by rw [HT.out, List.map_append, ← List.append_assoc]; exact hw5⟩
      case measure => simp [intOf]; omega
    · have e : n.ws.take k = n.ws := List.take_of_length_le (by omega)
      rw [e] at hw
      have d11 : World.cell? wr ⟨Nb, 13, none⟩ = some (.slice Ab n.bs.length cb) := by rw [← EB.out]; exact hw.sideCell.cell 13
      go_upto_region 9 with fail
      have hl4 : (b3 ++ n.ws.map b8).length + [(n.bs.length : Int)].length ≤ 100000000 := by simp; omega
      go_upto_region 10 with (go_at_call 57; refine (putl_calls hw [(n.bs.length : Int)] rfl rfl hl4).mono ?_; rintro e w6 ⟨rfl, v6, hw6⟩)
      clear d11 hl4 hw hlt hk e
      have d11 : World.cell? w6 ⟨Nb, 13, none⟩ = some (.slice Ab n.bs.length cb) := by rw [← EB.out]; exact hw6.sideCell.cell 13
      have hl5 : (b3 ++ n.ws.map b8 ++ [(n.bs.length : Int)].map b8).length = bs.length + 16 + n.ins.length + n.ws.length := by simp; omega
      generalize b3 ++ n.ws.map b8 ++ [(n.bs.length : Int)].map b8 = b5 at *
      go_wp2_with fail
      clear d11
      go_loopw [78] (fun i wr => ∃ (k : Nat) (v : Value), k ≤ n.bs.length ∧ i = .int .i64 k ∧ Wr [(Nb, #[.int .i64 n.op, n.inV, .int .i64 n.k, .int .i64 n.st, .int .i64 n.pad, .int .i64 n.out, .int .i64 n.mul, .int .i64 n.sh, .int .i64 n.zero, .int .i64 n.th, .int .i64 n.tw, .int .i64 n.tc, n.wV, n.bV], 67)] w0 wr B v (b5 ++ (n.bs.take k).flatMap encB)) (fun i _ => n.bs.length - (intOf i).toNat)
      case atStart => exact ⟨0, v6, by omega, rfl, by simpa using hw6⟩
      case round =>
        clear hw6
        obtain ⟨k, v, hk, rfl, hw⟩ := hrel
        by_cases hlt : k < n.bs.length
        · obtain ⟨A', c', e', _, _, hcell⟩ := (hbs.ext hw.ext).form
          rw [EB.out] at e'
          cases e'
          obtain ⟨b, off, rfl, x0⟩ := hcell k hlt
          rw [show n.bs[k]?.getD 0 = n.bs[k] by simp [hlt]] at x0
          have HT : Hid (n.bs.take (k + 1) = n.bs.take k ++ [n.bs[k]]) := List.take_succ_eq_append_getElem hlt
          have hz := hbr n.bs[k] (List.getElem_mem hlt)
          clear hcell hws hbs hi hbr hwr
          generalize n.bs[k] = z at *
          obtain ⟨hz1, hz2⟩ := hz
          have hlk : (b5 ++ (n.bs.take k).flatMap encB).length + [z / 16777216, z / 65536, z / 256, z].length ≤ 100000000 := by
            rw [List.length_append, flat_len encB 4 (fun _ => rfl), List.length_take, hl5]
            simp only [List.length_cons, List.length_nil]
            omega
          go_wp2_with (go_at_call 57; refine (putl_calls hw [z / 16777216, z / 65536, z / 256, z] rfl rfl hlk).mono ?_; rintro e w7 ⟨rfl, v7, hw7⟩)
          go_roundw
          case rel => exact ⟨k + 1, v7, by omega, by go_num, by rw [HT.out, List.flatMap_append, ← List.append_assoc]; simpa [encB] using hw7⟩
          case measure => simp [intOf]; omega
        · have e : n.bs.take k = n.bs := List.take_of_length_le (by omega)
          rw [e, HB3.out] at hw
          go_wp2_with fail
          go_end0
          exact ⟨rfl, v, hw.bare⟩

end Go.Proofs.YtdhdbmfipkppiaaGreat
