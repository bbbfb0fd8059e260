/- The reference of the shape that a node makes: those of two, and OpReshape. -/
import Derived.Test.YtmddlhfahfelpaaRfe
set_option linter.unusedSimpArgs false
set_option linter.unusedVariables false
set_option linter.unnecessarySimpa false
namespace Go.Proofs.Ytmddlhfahfelpaa
open Go.RowKit

set_option maxRecDepth 8000 in
set_option maxHeartbeats 1600000 in
theorem rmade6 (n : Nd) (lv : Value) (x y : Vl) (w : World) (hv : Vls w lv [x, y]) (ho : n.op = 6) : Calls Try.prog 76 #[.agg #[.int .i64 n.op, n.inV, .int .i64 n.k, .int .i64 n.st, .int .i64 n.pad, .int .i64 n.out, .int .i64 n.mul, .int .i64 n.sh, .int .i64 n.zero, .int .i64 n.th, .int .i64 n.tw, .int .i64 n.tc, n.wV, n.bV], lv] w fun e w' => e = .returned (.agg #[.int .i64 (madeZ n x.s y.s).h, .int .i64 (madeZ n x.s y.s).w, .int .i64 (madeZ n x.s y.s).c]) ∧ Ext w w' := by
  obtain ⟨mz, hmz⟩ : ∃ mz, madeZ n x.s y.s = mz := ⟨_, rfl⟩
  rw [hmz]
  have HMZ := Lib.hid hmz
  clear hmz
  obtain ⟨A, c, rfl, hlc, hcm, hcc⟩ := hv.form
  unfold maxLen at hcm
  have BX := boxM w n x
  obtain ⟨b, off, rfl, bh, xc⟩ := hcc 0 x rfl
  have xc0 : w.cell? ⟨b, off, none⟩ = some (.int .i64 x.s.h) := by simpa using xc 0 _ rfl
  have xc1 : w.cell? ⟨b, off + 1, none⟩ = some (.int .i64 x.s.w) := by simpa using xc 1 _ rfl
  have xc2 : w.cell? ⟨b, off + 2, none⟩ = some (.int .i64 x.s.c) := by simpa using xc 2 _ rfl
  obtain ⟨b', off', eA', _, yc⟩ := hcc 1 y rfl
  cases eA'
  have yc0 : w.cell? ⟨b, off + 4, none⟩ = some (.int .i64 y.s.h) := by simpa using yc 0 _ rfl
  have yc1 : w.cell? ⟨b, off + 4 + 1, none⟩ = some (.int .i64 y.s.w) := by simpa using yc 1 _ rfl
  have yc2 : w.cell? ⟨b, off + 4 + 2, none⟩ = some (.int .i64 y.s.c) := by simpa using yc 2 _ rfl
  clear yc
  have hne : b < w.heap.size := bh
  clear xc hcc
  go_enter Try.func76, Try.ntmps76
  go_upto_region 15 with fail
  have HM1 : Hid (mz = if x.s = y.s then x.s else ⟨0, 0, 0⟩) := by show _ = _; rw [← HMZ.out]; simp only [madeZ, ho, reduceIte, Int.reduceEq]; rfl
  rw [ho] at BX
  clear ho
  generalize World.alloc (World.alloc (World.alloc w _) _) _ = w1 at *
  by_cases d1 : y.s.h = x.s.h
  · by_cases d2 : y.s.w = x.s.w
    · by_cases d3 : y.s.c = x.s.c
      · have HM2 : Hid (mz = ⟨x.s.h, x.s.w, x.s.c⟩) := by show _ = _; rw [HM1.out, if_pos]; cases x; cases y; rename_i a _ b _; cases a; cases b; simp_all
        clear HM1
        rw [d1] at yc0
        rw [d2] at yc1
        rw [d3] at yc2
        clear d1 d2 d3
        refine wp_region_X [0, 1, 2, 3, 4, 5] [] (by kernel_rfl) (by kernel_rfl) (fun _ _ d _ _ h => by cases d <;> exact h) (fun w2 hE => ?_)
        have y0' : ∀ W, Ext w2 W → W.cell? ⟨b, off + 4, none⟩ = some (.int .i64 x.s.h) := cell_ext (cell_ext yc0 _ (BX.he.trans hE))
        have y1' : ∀ W, Ext w2 W → W.cell? ⟨b, off + 4 + 1, none⟩ = some (.int .i64 x.s.w) := cell_ext (cell_ext yc1 _ (BX.he.trans hE))
        have y2' : ∀ W, Ext w2 W → W.cell? ⟨b, off + 4 + 2, none⟩ = some (.int .i64 x.s.c) := cell_ext (cell_ext yc2 _ (BX.he.trans hE))
        have b0' : ∀ W, Ext w2 W → W.cell? ⟨w.heap.size + 1 + 1, 0, none⟩ = some (.int .i64 x.s.h) := fun W h => ((BX.hx.ext hE).ext h).cell 0
        have b1' : ∀ W, Ext w2 W → W.cell? ⟨w.heap.size + 1 + 1, 1, none⟩ = some (.int .i64 x.s.w) := fun W h => ((BX.hx.ext hE).ext h).cell 1
        have b2' : ∀ W, Ext w2 W → W.cell? ⟨w.heap.size + 1 + 1, 2, none⟩ = some (.int .i64 x.s.c) := fun W h => ((BX.hx.ext hE).ext h).cell 2
        repeat (first | (refine wpP_pure rfl (by rfl) (fun W hW => by go_simp; with_reducible rfl) ?_; simp only [Act.put, List.setIfInBounds_toArray, List.set_cons_zero, List.set_cons_succ]) | (refine wpP_skip rfl (by rfl) ?_; simp only [Act.put, List.setIfInBounds_toArray, List.set_cons_zero, List.set_cons_succ]))
        refine ⟨trivial, fun W hR => ?_⟩
        simp only [rFin, envAt, TP.top, TP.mine, MP.top, MP.mine, MT.mine, MT.tied, MT.done, MT.is, List.map_cons, List.map_nil, true_implies, List.head?_cons, ME.is, MP.is, MP.done, ME.ints, ME.row, phi, dstAt, List.getElem?_cons_zero, List.getElem?_cons_succ, Option.bind_some, Act.put, List.setIfInBounds_toArray, List.set_cons_zero, List.set_cons_succ, and_true, forall_eq, reduceIte, Nat.reduceEqDiff, beq_iff_eq, Option.some.injEq, Bool.false_eq_true, reduceCtorEq, implies_true, true_and]
        have hr9 := BX.hr.ext (hE.trans hR)
        have hxb := BX.hx.ext (hE.trans hR)
        have BE := BX.he.trans (hE.trans hR)
        have hnb := BX.hn.ext (hE.trans hR)
        clear b0' b1' b2'
        clear y0' y1' y2'
        have x0' := hxb.cell 0
        have x1' := hxb.cell 1
        have x2' := hxb.cell 2
        have hx9 := ext_setRow BE #[.int .i64 x.s.h, .int .i64 x.s.w, .int .i64 x.s.c] (show w.heap.size ≤ w.heap.size + 1 by omega)
        go_wp2_with (refine wpList_store_row rfl 42 _ _ rfl (w.heap.size + 1) #[.int .i64 x.s.h, .int .i64 x.s.w, .int .i64 x.s.c] rfl rfl 42 _ hr9 (by kernel_rfl) rfl (by simp [Value.oneCell']) ?_)
        refine bodyPost_ret (v := .agg #[.int .i64 x.s.h, .int .i64 x.s.w, .int .i64 x.s.c]) (results_cell_row Try.results76 _ _ (w.heap.size + 1) 42 _ (0, 0) _ rfl (setRow_heap _ _ _ _ _ _ hr9) (by kernel_rfl : Try.prog.underlying 42 = some (.struct (Try.prog.fieldsOf 42))) rfl (by kernel_rfl)) rfl ?_
        exact ⟨by rw [HM2.out], hx9⟩
      · have HM2 : Hid (mz = ⟨0, 0, 0⟩) := by show _ = _; rw [HM1.out, if_neg]; intro h; exact d3 (by rw [h])
        clear HM1
        refine wp_region_X [0, 1, 2, 3, 4, 5] [] (by kernel_rfl) (by kernel_rfl) (fun _ _ d _ _ h => by cases d <;> exact h) (fun w2 hE => ?_)
        have y0' : ∀ W, Ext w2 W → W.cell? ⟨b, off + 4, none⟩ = some (.int .i64 y.s.h) := cell_ext (cell_ext yc0 _ (BX.he.trans hE))
        have y1' : ∀ W, Ext w2 W → W.cell? ⟨b, off + 4 + 1, none⟩ = some (.int .i64 y.s.w) := cell_ext (cell_ext yc1 _ (BX.he.trans hE))
        have y2' : ∀ W, Ext w2 W → W.cell? ⟨b, off + 4 + 2, none⟩ = some (.int .i64 y.s.c) := cell_ext (cell_ext yc2 _ (BX.he.trans hE))
        have b0' : ∀ W, Ext w2 W → W.cell? ⟨w.heap.size + 1 + 1, 0, none⟩ = some (.int .i64 x.s.h) := fun W h => ((BX.hx.ext hE).ext h).cell 0
        have b1' : ∀ W, Ext w2 W → W.cell? ⟨w.heap.size + 1 + 1, 1, none⟩ = some (.int .i64 x.s.w) := fun W h => ((BX.hx.ext hE).ext h).cell 1
        have b2' : ∀ W, Ext w2 W → W.cell? ⟨w.heap.size + 1 + 1, 2, none⟩ = some (.int .i64 x.s.c) := fun W h => ((BX.hx.ext hE).ext h).cell 2
        repeat (first | (refine wpP_pure rfl (by rfl) (fun W hW => by go_simp; with_reducible rfl) ?_; simp only [Act.put, List.setIfInBounds_toArray, List.set_cons_zero, List.set_cons_succ]) | (refine wpP_skip rfl (by rfl) ?_; simp only [Act.put, List.setIfInBounds_toArray, List.set_cons_zero, List.set_cons_succ]))
        refine ⟨trivial, fun W hR => ?_⟩
        simp only [rFin, envAt, TP.top, TP.mine, MP.top, MP.mine, MT.mine, MT.tied, MT.done, MT.is, List.map_cons, List.map_nil, true_implies, List.head?_cons, ME.is, MP.is, MP.done, ME.ints, ME.row, phi, dstAt, List.getElem?_cons_zero, List.getElem?_cons_succ, Option.bind_some, Act.put, List.setIfInBounds_toArray, List.set_cons_zero, List.set_cons_succ, and_true, forall_eq, reduceIte, Nat.reduceEqDiff, beq_iff_eq, Option.some.injEq, Bool.false_eq_true, reduceCtorEq, implies_true, true_and]
        have hr9 := BX.hr.ext (hE.trans hR)
        have hxb := BX.hx.ext (hE.trans hR)
        have BE := BX.he.trans (hE.trans hR)
        have hnb := BX.hn.ext (hE.trans hR)
        clear b0' b1' b2'
        clear y0' y1' y2'
        have hx9 := ext_setRow BE #[.int .i64 0, .int .i64 0, .int .i64 0] (show w.heap.size ≤ w.heap.size + 1 by omega)
        go_wp2_with (refine wpList_store_row rfl 42 _ _ rfl (w.heap.size + 1) #[.int .i64 0, .int .i64 0, .int .i64 0] rfl rfl 42 _ hr9 (by kernel_rfl) rfl (by simp [Value.oneCell']) ?_)
        refine bodyPost_ret (v := .agg #[.int .i64 0, .int .i64 0, .int .i64 0]) (results_cell_row Try.results76 _ _ (w.heap.size + 1) 42 _ (0, 0) _ rfl (setRow_heap _ _ _ _ _ _ hr9) (by kernel_rfl : Try.prog.underlying 42 = some (.struct (Try.prog.fieldsOf 42))) rfl (by kernel_rfl)) rfl ?_
        exact ⟨by rw [HM2.out], hx9⟩
    · have HM2 : Hid (mz = ⟨0, 0, 0⟩) := by show _ = _; rw [HM1.out, if_neg]; intro h; exact d2 (by rw [h])
      clear HM1
      refine wp_region_X [0, 1, 2, 3, 4, 5] [] (by kernel_rfl) (by kernel_rfl) (fun _ _ d _ _ h => by cases d <;> exact h) (fun w2 hE => ?_)
      have y0' : ∀ W, Ext w2 W → W.cell? ⟨b, off + 4, none⟩ = some (.int .i64 y.s.h) := cell_ext (cell_ext yc0 _ (BX.he.trans hE))
      have y1' : ∀ W, Ext w2 W → W.cell? ⟨b, off + 4 + 1, none⟩ = some (.int .i64 y.s.w) := cell_ext (cell_ext yc1 _ (BX.he.trans hE))
      have y2' : ∀ W, Ext w2 W → W.cell? ⟨b, off + 4 + 2, none⟩ = some (.int .i64 y.s.c) := cell_ext (cell_ext yc2 _ (BX.he.trans hE))
      have b0' : ∀ W, Ext w2 W → W.cell? ⟨w.heap.size + 1 + 1, 0, none⟩ = some (.int .i64 x.s.h) := fun W h => ((BX.hx.ext hE).ext h).cell 0
      have b1' : ∀ W, Ext w2 W → W.cell? ⟨w.heap.size + 1 + 1, 1, none⟩ = some (.int .i64 x.s.w) := fun W h => ((BX.hx.ext hE).ext h).cell 1
      have b2' : ∀ W, Ext w2 W → W.cell? ⟨w.heap.size + 1 + 1, 2, none⟩ = some (.int .i64 x.s.c) := fun W h => ((BX.hx.ext hE).ext h).cell 2
      repeat (first | (refine wpP_pure rfl (by rfl) (fun W hW => by go_simp; with_reducible rfl) ?_; simp only [Act.put, List.setIfInBounds_toArray, List.set_cons_zero, List.set_cons_succ]) | (refine wpP_skip rfl (by rfl) ?_; simp only [Act.put, List.setIfInBounds_toArray, List.set_cons_zero, List.set_cons_succ]))
      refine ⟨trivial, fun W hR => ?_⟩
      simp only [rFin, envAt, TP.top, TP.mine, MP.top, MP.mine, MT.mine, MT.tied, MT.done, MT.is, List.map_cons, List.map_nil, true_implies, List.head?_cons, ME.is, MP.is, MP.done, ME.ints, ME.row, phi, dstAt, List.getElem?_cons_zero, List.getElem?_cons_succ, Option.bind_some, Act.put, List.setIfInBounds_toArray, List.set_cons_zero, List.set_cons_succ, and_true, forall_eq, reduceIte, Nat.reduceEqDiff, beq_iff_eq, Option.some.injEq, Bool.false_eq_true, reduceCtorEq, implies_true, true_and]
      have hr9 := BX.hr.ext (hE.trans hR)
      have hxb := BX.hx.ext (hE.trans hR)
      have BE := BX.he.trans (hE.trans hR)
      have hnb := BX.hn.ext (hE.trans hR)
      clear b0' b1' b2'
      clear y0' y1' y2'
      have hx9 := ext_setRow BE #[.int .i64 0, .int .i64 0, .int .i64 0] (show w.heap.size ≤ w.heap.size + 1 by omega)
      go_wp2_with (refine wpList_store_row rfl 42 _ _ rfl (w.heap.size + 1) #[.int .i64 0, .int .i64 0, .int .i64 0] rfl rfl 42 _ hr9 (by kernel_rfl) rfl (by simp [Value.oneCell']) ?_)
      refine bodyPost_ret (v := .agg #[.int .i64 0, .int .i64 0, .int .i64 0]) (results_cell_row Try.results76 _ _ (w.heap.size + 1) 42 _ (0, 0) _ rfl (setRow_heap _ _ _ _ _ _ hr9) (by kernel_rfl : Try.prog.underlying 42 = some (.struct (Try.prog.fieldsOf 42))) rfl (by kernel_rfl)) rfl ?_
      exact ⟨by rw [HM2.out], hx9⟩
  · have HM2 : Hid (mz = ⟨0, 0, 0⟩) := by show _ = _; rw [HM1.out, if_neg]; intro h; exact d1 (by rw [h])
    clear HM1
    refine wp_region_X [0, 1, 2, 3, 4, 5] [] (by kernel_rfl) (by kernel_rfl) (fun _ _ d _ _ h => by cases d <;> exact h) (fun w2 hE => ?_)
    have y0' : ∀ W, Ext w2 W → W.cell? ⟨b, off + 4, none⟩ = some (.int .i64 y.s.h) := cell_ext (cell_ext yc0 _ (BX.he.trans hE))
    have y1' : ∀ W, Ext w2 W → W.cell? ⟨b, off + 4 + 1, none⟩ = some (.int .i64 y.s.w) := cell_ext (cell_ext yc1 _ (BX.he.trans hE))
    have y2' : ∀ W, Ext w2 W → W.cell? ⟨b, off + 4 + 2, none⟩ = some (.int .i64 y.s.c) := cell_ext (cell_ext yc2 _ (BX.he.trans hE))
    have b0' : ∀ W, Ext w2 W → W.cell? ⟨w.heap.size + 1 + 1, 0, none⟩ = some (.int .i64 x.s.h) := fun W h => ((BX.hx.ext hE).ext h).cell 0
    have b1' : ∀ W, Ext w2 W → W.cell? ⟨w.heap.size + 1 + 1, 1, none⟩ = some (.int .i64 x.s.w) := fun W h => ((BX.hx.ext hE).ext h).cell 1
    have b2' : ∀ W, Ext w2 W → W.cell? ⟨w.heap.size + 1 + 1, 2, none⟩ = some (.int .i64 x.s.c) := fun W h => ((BX.hx.ext hE).ext h).cell 2
    repeat (first | (refine wpP_pure rfl (by rfl) (fun W hW => by go_simp; with_reducible rfl) ?_; simp only [Act.put, List.setIfInBounds_toArray, List.set_cons_zero, List.set_cons_succ]) | (refine wpP_skip rfl (by rfl) ?_; simp only [Act.put, List.setIfInBounds_toArray, List.set_cons_zero, List.set_cons_succ]))
    refine ⟨trivial, fun W hR => ?_⟩
    simp only [rFin, envAt, TP.top, TP.mine, MP.top, MP.mine, MT.mine, MT.tied, MT.done, MT.is, List.map_cons, List.map_nil, true_implies, List.head?_cons, ME.is, MP.is, MP.done, ME.ints, ME.row, phi, dstAt, List.getElem?_cons_zero, List.getElem?_cons_succ, Option.bind_some, Act.put, List.setIfInBounds_toArray, List.set_cons_zero, List.set_cons_succ, and_true, forall_eq, reduceIte, Nat.reduceEqDiff, beq_iff_eq, Option.some.injEq, Bool.false_eq_true, reduceCtorEq, implies_true, true_and]
    have hr9 := BX.hr.ext (hE.trans hR)
    have hxb := BX.hx.ext (hE.trans hR)
    have BE := BX.he.trans (hE.trans hR)
    have hnb := BX.hn.ext (hE.trans hR)
    clear b0' b1' b2'
    clear y0' y1' y2'
    have hx9 := ext_setRow BE #[.int .i64 0, .int .i64 0, .int .i64 0] (show w.heap.size ≤ w.heap.size + 1 by omega)
    go_wp2_with (refine wpList_store_row rfl 42 _ _ rfl (w.heap.size + 1) #[.int .i64 0, .int .i64 0, .int .i64 0] rfl rfl 42 _ hr9 (by kernel_rfl) rfl (by simp [Value.oneCell']) ?_)
    refine bodyPost_ret (v := .agg #[.int .i64 0, .int .i64 0, .int .i64 0]) (results_cell_row Try.results76 _ _ (w.heap.size + 1) 42 _ (0, 0) _ rfl (setRow_heap _ _ _ _ _ _ hr9) (by kernel_rfl : Try.prog.underlying 42 = some (.struct (Try.prog.fieldsOf 42))) rfl (by kernel_rfl)) rfl ?_
    exact ⟨by rw [HM2.out], hx9⟩

set_option maxRecDepth 8000 in
set_option maxHeartbeats 1600000 in
theorem rmade7 (n : Nd) (lv : Value) (x y : Vl) (w : World) (hv : Vls w lv [x, y]) (ho : n.op = 7) : Calls Try.prog 76 #[.agg #[.int .i64 n.op, n.inV, .int .i64 n.k, .int .i64 n.st, .int .i64 n.pad, .int .i64 n.out, .int .i64 n.mul, .int .i64 n.sh, .int .i64 n.zero, .int .i64 n.th, .int .i64 n.tw, .int .i64 n.tc, n.wV, n.bV], lv] w fun e w' => e = .returned (.agg #[.int .i64 (madeZ n x.s y.s).h, .int .i64 (madeZ n x.s y.s).w, .int .i64 (madeZ n x.s y.s).c]) ∧ Ext w w' := by
  obtain ⟨mz, hmz⟩ : ∃ mz, madeZ n x.s y.s = mz := ⟨_, rfl⟩
  rw [hmz]
  have HMZ := Lib.hid hmz
  clear hmz
  obtain ⟨A, c, rfl, hlc, hcm, hcc⟩ := hv.form
  unfold maxLen at hcm
  have BX := boxM w n x
  obtain ⟨b, off, rfl, bh, xc⟩ := hcc 0 x rfl
  have xc0 : w.cell? ⟨b, off, none⟩ = some (.int .i64 x.s.h) := by simpa using xc 0 _ rfl
  have xc1 : w.cell? ⟨b, off + 1, none⟩ = some (.int .i64 x.s.w) := by simpa using xc 1 _ rfl
  have xc2 : w.cell? ⟨b, off + 2, none⟩ = some (.int .i64 x.s.c) := by simpa using xc 2 _ rfl
  obtain ⟨b', off', eA', _, yc⟩ := hcc 1 y rfl
  cases eA'
  have yc0 : w.cell? ⟨b, off + 4, none⟩ = some (.int .i64 y.s.h) := by simpa using yc 0 _ rfl
  have yc1 : w.cell? ⟨b, off + 4 + 1, none⟩ = some (.int .i64 y.s.w) := by simpa using yc 1 _ rfl
  have yc2 : w.cell? ⟨b, off + 4 + 2, none⟩ = some (.int .i64 y.s.c) := by simpa using yc 2 _ rfl
  clear yc
  have hne : b < w.heap.size := bh
  clear xc hcc
  go_enter Try.func76, Try.ntmps76
  go_upto_region 15 with fail
  have HM1 : Hid (mz = if x.s = y.s then x.s else ⟨0, 0, 0⟩) := by show _ = _; rw [← HMZ.out]; simp only [madeZ, ho, reduceIte, Int.reduceEq]; rfl
  rw [ho] at BX
  clear ho
  generalize World.alloc (World.alloc (World.alloc w _) _) _ = w1 at *
  by_cases d1 : y.s.h = x.s.h
  · by_cases d2 : y.s.w = x.s.w
    · by_cases d3 : y.s.c = x.s.c
      · have HM2 : Hid (mz = ⟨x.s.h, x.s.w, x.s.c⟩) := by show _ = _; rw [HM1.out, if_pos]; cases x; cases y; rename_i a _ b _; cases a; cases b; simp_all
        clear HM1
        rw [d1] at yc0
        rw [d2] at yc1
        rw [d3] at yc2
        clear d1 d2 d3
        refine wp_region_X [0, 1, 2, 3, 4, 5] [] (by kernel_rfl) (by kernel_rfl) (fun _ _ d _ _ h => by cases d <;> exact h) (fun w2 hE => ?_)
        have y0' : ∀ W, Ext w2 W → W.cell? ⟨b, off + 4, none⟩ = some (.int .i64 x.s.h) := cell_ext (cell_ext yc0 _ (BX.he.trans hE))
        have y1' : ∀ W, Ext w2 W → W.cell? ⟨b, off + 4 + 1, none⟩ = some (.int .i64 x.s.w) := cell_ext (cell_ext yc1 _ (BX.he.trans hE))
        have y2' : ∀ W, Ext w2 W → W.cell? ⟨b, off + 4 + 2, none⟩ = some (.int .i64 x.s.c) := cell_ext (cell_ext yc2 _ (BX.he.trans hE))
        have b0' : ∀ W, Ext w2 W → W.cell? ⟨w.heap.size + 1 + 1, 0, none⟩ = some (.int .i64 x.s.h) := fun W h => ((BX.hx.ext hE).ext h).cell 0
        have b1' : ∀ W, Ext w2 W → W.cell? ⟨w.heap.size + 1 + 1, 1, none⟩ = some (.int .i64 x.s.w) := fun W h => ((BX.hx.ext hE).ext h).cell 1
        have b2' : ∀ W, Ext w2 W → W.cell? ⟨w.heap.size + 1 + 1, 2, none⟩ = some (.int .i64 x.s.c) := fun W h => ((BX.hx.ext hE).ext h).cell 2
        repeat (first | (refine wpP_pure rfl (by rfl) (fun W hW => by go_simp; with_reducible rfl) ?_; simp only [Act.put, List.setIfInBounds_toArray, List.set_cons_zero, List.set_cons_succ]) | (refine wpP_skip rfl (by rfl) ?_; simp only [Act.put, List.setIfInBounds_toArray, List.set_cons_zero, List.set_cons_succ]))
        refine ⟨trivial, fun W hR => ?_⟩
        simp only [rFin, envAt, TP.top, TP.mine, MP.top, MP.mine, MT.mine, MT.tied, MT.done, MT.is, List.map_cons, List.map_nil, true_implies, List.head?_cons, ME.is, MP.is, MP.done, ME.ints, ME.row, phi, dstAt, List.getElem?_cons_zero, List.getElem?_cons_succ, Option.bind_some, Act.put, List.setIfInBounds_toArray, List.set_cons_zero, List.set_cons_succ, and_true, forall_eq, reduceIte, Nat.reduceEqDiff, beq_iff_eq, Option.some.injEq, Bool.false_eq_true, reduceCtorEq, implies_true, true_and]
        have hr9 := BX.hr.ext (hE.trans hR)
        have hxb := BX.hx.ext (hE.trans hR)
        have BE := BX.he.trans (hE.trans hR)
        have hnb := BX.hn.ext (hE.trans hR)
        clear b0' b1' b2'
        clear y0' y1' y2'
        have x0' := hxb.cell 0
        have x1' := hxb.cell 1
        have x2' := hxb.cell 2
        have hx9 := ext_setRow BE #[.int .i64 x.s.h, .int .i64 x.s.w, .int .i64 x.s.c] (show w.heap.size ≤ w.heap.size + 1 by omega)
        go_wp2_with (refine wpList_store_row rfl 42 _ _ rfl (w.heap.size + 1) #[.int .i64 x.s.h, .int .i64 x.s.w, .int .i64 x.s.c] rfl rfl 42 _ hr9 (by kernel_rfl) rfl (by simp [Value.oneCell']) ?_)
        refine bodyPost_ret (v := .agg #[.int .i64 x.s.h, .int .i64 x.s.w, .int .i64 x.s.c]) (results_cell_row Try.results76 _ _ (w.heap.size + 1) 42 _ (0, 0) _ rfl (setRow_heap _ _ _ _ _ _ hr9) (by kernel_rfl : Try.prog.underlying 42 = some (.struct (Try.prog.fieldsOf 42))) rfl (by kernel_rfl)) rfl ?_
        exact ⟨by rw [HM2.out], hx9⟩
      · have HM2 : Hid (mz = ⟨0, 0, 0⟩) := by show _ = _; rw [HM1.out, if_neg]; intro h; exact d3 (by rw [h])
        clear HM1
        refine wp_region_X [0, 1, 2, 3, 4, 5] [] (by kernel_rfl) (by kernel_rfl) (fun _ _ d _ _ h => by cases d <;> exact h) (fun w2 hE => ?_)
        have y0' : ∀ W, Ext w2 W → W.cell? ⟨b, off + 4, none⟩ = some (.int .i64 y.s.h) := cell_ext (cell_ext yc0 _ (BX.he.trans hE))
        have y1' : ∀ W, Ext w2 W → W.cell? ⟨b, off + 4 + 1, none⟩ = some (.int .i64 y.s.w) := cell_ext (cell_ext yc1 _ (BX.he.trans hE))
        have y2' : ∀ W, Ext w2 W → W.cell? ⟨b, off + 4 + 2, none⟩ = some (.int .i64 y.s.c) := cell_ext (cell_ext yc2 _ (BX.he.trans hE))
        have b0' : ∀ W, Ext w2 W → W.cell? ⟨w.heap.size + 1 + 1, 0, none⟩ = some (.int .i64 x.s.h) := fun W h => ((BX.hx.ext hE).ext h).cell 0
        have b1' : ∀ W, Ext w2 W → W.cell? ⟨w.heap.size + 1 + 1, 1, none⟩ = some (.int .i64 x.s.w) := fun W h => ((BX.hx.ext hE).ext h).cell 1
        have b2' : ∀ W, Ext w2 W → W.cell? ⟨w.heap.size + 1 + 1, 2, none⟩ = some (.int .i64 x.s.c) := fun W h => ((BX.hx.ext hE).ext h).cell 2
        repeat (first | (refine wpP_pure rfl (by rfl) (fun W hW => by go_simp; with_reducible rfl) ?_; simp only [Act.put, List.setIfInBounds_toArray, List.set_cons_zero, List.set_cons_succ]) | (refine wpP_skip rfl (by rfl) ?_; simp only [Act.put, List.setIfInBounds_toArray, List.set_cons_zero, List.set_cons_succ]))
        refine ⟨trivial, fun W hR => ?_⟩
        simp only [rFin, envAt, TP.top, TP.mine, MP.top, MP.mine, MT.mine, MT.tied, MT.done, MT.is, List.map_cons, List.map_nil, true_implies, List.head?_cons, ME.is, MP.is, MP.done, ME.ints, ME.row, phi, dstAt, List.getElem?_cons_zero, List.getElem?_cons_succ, Option.bind_some, Act.put, List.setIfInBounds_toArray, List.set_cons_zero, List.set_cons_succ, and_true, forall_eq, reduceIte, Nat.reduceEqDiff, beq_iff_eq, Option.some.injEq, Bool.false_eq_true, reduceCtorEq, implies_true, true_and]
        have hr9 := BX.hr.ext (hE.trans hR)
        have hxb := BX.hx.ext (hE.trans hR)
        have BE := BX.he.trans (hE.trans hR)
        have hnb := BX.hn.ext (hE.trans hR)
        clear b0' b1' b2'
        clear y0' y1' y2'
        have hx9 := ext_setRow BE #[.int .i64 0, .int .i64 0, .int .i64 0] (show w.heap.size ≤ w.heap.size + 1 by omega)
        go_wp2_with (refine wpList_store_row rfl 42 _ _ rfl (w.heap.size + 1) #[.int .i64 0, .int .i64 0, .int .i64 0] rfl rfl 42 _ hr9 (by kernel_rfl) rfl (by simp [Value.oneCell']) ?_)
        refine bodyPost_ret (v := .agg #[.int .i64 0, .int .i64 0, .int .i64 0]) (results_cell_row Try.results76 _ _ (w.heap.size + 1) 42 _ (0, 0) _ rfl (setRow_heap _ _ _ _ _ _ hr9) (by kernel_rfl : Try.prog.underlying 42 = some (.struct (Try.prog.fieldsOf 42))) rfl (by kernel_rfl)) rfl ?_
        exact ⟨by rw [HM2.out], hx9⟩
    · have HM2 : Hid (mz = ⟨0, 0, 0⟩) := by show _ = _; rw [HM1.out, if_neg]; intro h; exact d2 (by rw [h])
      clear HM1
      refine wp_region_X [0, 1, 2, 3, 4, 5] [] (by kernel_rfl) (by kernel_rfl) (fun _ _ d _ _ h => by cases d <;> exact h) (fun w2 hE => ?_)
      have y0' : ∀ W, Ext w2 W → W.cell? ⟨b, off + 4, none⟩ = some (.int .i64 y.s.h) := cell_ext (cell_ext yc0 _ (BX.he.trans hE))
      have y1' : ∀ W, Ext w2 W → W.cell? ⟨b, off + 4 + 1, none⟩ = some (.int .i64 y.s.w) := cell_ext (cell_ext yc1 _ (BX.he.trans hE))
      have y2' : ∀ W, Ext w2 W → W.cell? ⟨b, off + 4 + 2, none⟩ = some (.int .i64 y.s.c) := cell_ext (cell_ext yc2 _ (BX.he.trans hE))
      have b0' : ∀ W, Ext w2 W → W.cell? ⟨w.heap.size + 1 + 1, 0, none⟩ = some (.int .i64 x.s.h) := fun W h => ((BX.hx.ext hE).ext h).cell 0
      have b1' : ∀ W, Ext w2 W → W.cell? ⟨w.heap.size + 1 + 1, 1, none⟩ = some (.int .i64 x.s.w) := fun W h => ((BX.hx.ext hE).ext h).cell 1
      have b2' : ∀ W, Ext w2 W → W.cell? ⟨w.heap.size + 1 + 1, 2, none⟩ = some (.int .i64 x.s.c) := fun W h => ((BX.hx.ext hE).ext h).cell 2
      repeat (first | (refine wpP_pure rfl (by rfl) (fun W hW => by go_simp; with_reducible rfl) ?_; simp only [Act.put, List.setIfInBounds_toArray, List.set_cons_zero, List.set_cons_succ]) | (refine wpP_skip rfl (by rfl) ?_; simp only [Act.put, List.setIfInBounds_toArray, List.set_cons_zero, List.set_cons_succ]))
      refine ⟨trivial, fun W hR => ?_⟩
      simp only [rFin, envAt, TP.top, TP.mine, MP.top, MP.mine, MT.mine, MT.tied, MT.done, MT.is, List.map_cons, List.map_nil, true_implies, List.head?_cons, ME.is, MP.is, MP.done, ME.ints, ME.row, phi, dstAt, List.getElem?_cons_zero, List.getElem?_cons_succ, Option.bind_some, Act.put, List.setIfInBounds_toArray, List.set_cons_zero, List.set_cons_succ, and_true, forall_eq, reduceIte, Nat.reduceEqDiff, beq_iff_eq, Option.some.injEq, Bool.false_eq_true, reduceCtorEq, implies_true, true_and]
      have hr9 := BX.hr.ext (hE.trans hR)
      have hxb := BX.hx.ext (hE.trans hR)
      have BE := BX.he.trans (hE.trans hR)
      have hnb := BX.hn.ext (hE.trans hR)
      clear b0' b1' b2'
      clear y0' y1' y2'
      have hx9 := ext_setRow BE #[.int .i64 0, .int .i64 0, .int .i64 0] (show w.heap.size ≤ w.heap.size + 1 by omega)
      go_wp2_with (refine wpList_store_row rfl 42 _ _ rfl (w.heap.size + 1) #[.int .i64 0, .int .i64 0, .int .i64 0] rfl rfl 42 _ hr9 (by kernel_rfl) rfl (by simp [Value.oneCell']) ?_)
      refine bodyPost_ret (v := .agg #[.int .i64 0, .int .i64 0, .int .i64 0]) (results_cell_row Try.results76 _ _ (w.heap.size + 1) 42 _ (0, 0) _ rfl (setRow_heap _ _ _ _ _ _ hr9) (by kernel_rfl : Try.prog.underlying 42 = some (.struct (Try.prog.fieldsOf 42))) rfl (by kernel_rfl)) rfl ?_
      exact ⟨by rw [HM2.out], hx9⟩
  · have HM2 : Hid (mz = ⟨0, 0, 0⟩) := by show _ = _; rw [HM1.out, if_neg]; intro h; exact d1 (by rw [h])
    clear HM1
    refine wp_region_X [0, 1, 2, 3, 4, 5] [] (by kernel_rfl) (by kernel_rfl) (fun _ _ d _ _ h => by cases d <;> exact h) (fun w2 hE => ?_)
    have y0' : ∀ W, Ext w2 W → W.cell? ⟨b, off + 4, none⟩ = some (.int .i64 y.s.h) := cell_ext (cell_ext yc0 _ (BX.he.trans hE))
    have y1' : ∀ W, Ext w2 W → W.cell? ⟨b, off + 4 + 1, none⟩ = some (.int .i64 y.s.w) := cell_ext (cell_ext yc1 _ (BX.he.trans hE))
    have y2' : ∀ W, Ext w2 W → W.cell? ⟨b, off + 4 + 2, none⟩ = some (.int .i64 y.s.c) := cell_ext (cell_ext yc2 _ (BX.he.trans hE))
    have b0' : ∀ W, Ext w2 W → W.cell? ⟨w.heap.size + 1 + 1, 0, none⟩ = some (.int .i64 x.s.h) := fun W h => ((BX.hx.ext hE).ext h).cell 0
    have b1' : ∀ W, Ext w2 W → W.cell? ⟨w.heap.size + 1 + 1, 1, none⟩ = some (.int .i64 x.s.w) := fun W h => ((BX.hx.ext hE).ext h).cell 1
    have b2' : ∀ W, Ext w2 W → W.cell? ⟨w.heap.size + 1 + 1, 2, none⟩ = some (.int .i64 x.s.c) := fun W h => ((BX.hx.ext hE).ext h).cell 2
    repeat (first | (refine wpP_pure rfl (by rfl) (fun W hW => by go_simp; with_reducible rfl) ?_; simp only [Act.put, List.setIfInBounds_toArray, List.set_cons_zero, List.set_cons_succ]) | (refine wpP_skip rfl (by rfl) ?_; simp only [Act.put, List.setIfInBounds_toArray, List.set_cons_zero, List.set_cons_succ]))
    refine ⟨trivial, fun W hR => ?_⟩
    simp only [rFin, envAt, TP.top, TP.mine, MP.top, MP.mine, MT.mine, MT.tied, MT.done, MT.is, List.map_cons, List.map_nil, true_implies, List.head?_cons, ME.is, MP.is, MP.done, ME.ints, ME.row, phi, dstAt, List.getElem?_cons_zero, List.getElem?_cons_succ, Option.bind_some, Act.put, List.setIfInBounds_toArray, List.set_cons_zero, List.set_cons_succ, and_true, forall_eq, reduceIte, Nat.reduceEqDiff, beq_iff_eq, Option.some.injEq, Bool.false_eq_true, reduceCtorEq, implies_true, true_and]
    have hr9 := BX.hr.ext (hE.trans hR)
    have hxb := BX.hx.ext (hE.trans hR)
    have BE := BX.he.trans (hE.trans hR)
    have hnb := BX.hn.ext (hE.trans hR)
    clear b0' b1' b2'
    clear y0' y1' y2'
    have hx9 := ext_setRow BE #[.int .i64 0, .int .i64 0, .int .i64 0] (show w.heap.size ≤ w.heap.size + 1 by omega)
    go_wp2_with (refine wpList_store_row rfl 42 _ _ rfl (w.heap.size + 1) #[.int .i64 0, .int .i64 0, .int .i64 0] rfl rfl 42 _ hr9 (by kernel_rfl) rfl (by simp [Value.oneCell']) ?_)
    refine bodyPost_ret (v := .agg #[.int .i64 0, .int .i64 0, .int .i64 0]) (results_cell_row Try.results76 _ _ (w.heap.size + 1) 42 _ (0, 0) _ rfl (setRow_heap _ _ _ _ _ _ hr9) (by kernel_rfl : Try.prog.underlying 42 = some (.struct (Try.prog.fieldsOf 42))) rfl (by kernel_rfl)) rfl ?_
    exact ⟨by rw [HM2.out], hx9⟩

end Go.Proofs.Ytmddlhfahfelpaa
