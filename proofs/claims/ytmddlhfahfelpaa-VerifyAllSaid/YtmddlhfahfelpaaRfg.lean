/- The reference of the shape that a node makes: OpConcat and OpReshape. -/
import Derived.Test.YtmddlhfahfelpaaRff
set_option linter.unusedSimpArgs false
set_option linter.unusedVariables false
set_option linter.unnecessarySimpa false
namespace Go.Proofs.Ytmddlhfahfelpaa
open Go.RowKit

set_option maxRecDepth 8000 in
set_option maxHeartbeats 1600000 in
theorem rmade10 (n : Nd) (lv : Value) (x y : Vl) (w : World) (hv : Vls w lv [x, y]) (hxo : x.s.ok = true) (hyo : y.s.ok = true) (ho : n.op = 10) : Calls Try.prog 76 #[.agg #[.int .i64 n.op, n.inV, .int .i64 n.k, .int .i64 n.st, .int .i64 n.pad, .int .i64 n.out, .int .i64 n.mul, .int .i64 n.sh, .int .i64 n.zero, .int .i64 n.th, .int .i64 n.tw, .int .i64 n.tc, n.wV, n.bV], lv] w fun e w' => e = .returned (.agg #[.int .i64 (madeZ n x.s y.s).h, .int .i64 (madeZ n x.s y.s).w, .int .i64 (madeZ n x.s y.s).c]) ∧ Ext w w' := by
  obtain ⟨mz, hmz⟩ : ∃ mz, madeZ n x.s y.s = mz := ⟨_, rfl⟩
  rw [hmz]
  have HMZ := Lib.hid hmz
  clear hmz
  obtain ⟨A, c, rfl, hlc, hcm, hcc⟩ := hv.form
  unfold maxLen at hcm
  have BX := boxM w n x
  obtain ⟨b, off, rfl, bh, xc⟩ := hcc 0 x rfl
  have xc0 : w.cell? ⟨b, off, none⟩ = some (.int .i64 x.s.h) := by simpa using xc 0 _ rfl
  have xc1 : w.cell? ⟨b, off + 1, none⟩ = some (.int .i64 x.s.w) := by simpa using xc 1 _ rfl
  have xc2 : w.cell? ⟨b, off + 2, none⟩ = some (.int .i64 x.s.c) := by simpa using xc 2 _ rfl
  obtain ⟨b', off', eA', _, yc⟩ := hcc 1 y rfl
  cases eA'
  have yc0 : w.cell? ⟨b, off + 4, none⟩ = some (.int .i64 y.s.h) := by simpa using yc 0 _ rfl
  have yc1 : w.cell? ⟨b, off + 4 + 1, none⟩ = some (.int .i64 y.s.w) := by simpa using yc 1 _ rfl
  have yc2 : w.cell? ⟨b, off + 4 + 2, none⟩ = some (.int .i64 y.s.c) := by simpa using yc 2 _ rfl
  clear yc
  have hne : b < w.heap.size := bh
  clear xc hcc
  obtain ⟨h1, h2, h3, h4, h5, h6⟩ := Sz.bounds hxo
  obtain ⟨k1, k2, k3, k4, k5, k6⟩ := Sz.bounds hyo
  clear hxo hyo
  go_enter Try.func76, Try.ntmps76
  go_upto_region 20 with fail
  have HM1 : Hid (mz = besideZ x.s y.s) := by show _ = _; rw [← HMZ.out]; simp only [madeZ, ho, reduceIte, Int.reduceEq]
  rw [ho] at BX
  clear ho
  generalize World.alloc (World.alloc (World.alloc w _) _) _ = w1 at *
  by_cases d1 : y.s.h = x.s.h
  · by_cases d2 : y.s.w = x.s.w
    · have HM2 : Hid (mz = ⟨x.s.h, x.s.w, x.s.c + y.s.c⟩) := by show _ = _; rw [HM1.out, besideZ, if_pos ⟨d1.symm, d2.symm⟩]
      clear HM1
      have t1 : (y.s.h != x.s.h) = false := by simp [d1]
      have t2 : (y.s.w != x.s.w) = false := by simp [d2]
      have D1 := Lib.hid d1
      have D2 := Lib.hid d2
      clear d1 d2
      refine wp_region_X [0, 1, 2, 3, 4, 5, 6, 7, 8, 9, 10, 11, 12, 13, 14, 15, 16, 17] [] (by kernel_rfl) (by kernel_rfl) (fun _ _ d _ _ h => by cases d <;> exact h) (fun w2 hE => ?_)
      have y0' : ∀ W, Ext w2 W → W.cell? ⟨b, off + 4, none⟩ = some (.int .i64 y.s.h) := cell_ext (cell_ext yc0 _ (BX.he.trans hE))
      have y1' : ∀ W, Ext w2 W → W.cell? ⟨b, off + 4 + 1, none⟩ = some (.int .i64 y.s.w) := cell_ext (cell_ext yc1 _ (BX.he.trans hE))
      have y2' : ∀ W, Ext w2 W → W.cell? ⟨b, off + 4 + 2, none⟩ = some (.int .i64 y.s.c) := cell_ext (cell_ext yc2 _ (BX.he.trans hE))
      have b0' : ∀ W, Ext w2 W → W.cell? ⟨w.heap.size + 1 + 1, 0, none⟩ = some (.int .i64 x.s.h) := fun W h => ((BX.hx.ext hE).ext h).cell 0
      have b1' : ∀ W, Ext w2 W → W.cell? ⟨w.heap.size + 1 + 1, 1, none⟩ = some (.int .i64 x.s.w) := fun W h => ((BX.hx.ext hE).ext h).cell 1
      have b2' : ∀ W, Ext w2 W → W.cell? ⟨w.heap.size + 1 + 1, 2, none⟩ = some (.int .i64 x.s.c) := fun W h => ((BX.hx.ext hE).ext h).cell 2
      repeat (first | (refine wpP_pure rfl (by rfl) (fun W hW => by go_simp; with_reducible rfl) ?_; simp only [Act.put, List.setIfInBounds_toArray, List.set_cons_zero, List.set_cons_succ]) | (refine wpP_skip rfl (by rfl) ?_; simp only [Act.put, List.setIfInBounds_toArray, List.set_cons_zero, List.set_cons_succ]))
      refine ⟨trivial, fun W hR => ?_⟩
      simp only [rFin, envAt, TP.top, TP.mine, MP.top, MP.mine, MT.mine, MT.tied, MT.done, MT.is, List.map_cons, List.map_nil, true_implies, List.head?_cons, ME.is, MP.is, MP.done, ME.ints, ME.row, phi, dstAt, List.getElem?_cons_zero, List.getElem?_cons_succ, Option.bind_some, Act.put, List.setIfInBounds_toArray, List.set_cons_zero, List.set_cons_succ, and_true, forall_eq, reduceIte, Nat.reduceEqDiff, beq_iff_eq, Option.some.injEq, Bool.false_eq_true, reduceCtorEq, implies_true, true_and]
      have HX := BX.hx.ext (hE.trans hR)
      have HRr := BX.hr.ext (hE.trans hR)
      have BE := BX.he.trans (hE.trans hR)
      have yc2' : W.cell? ⟨b, off + 4 + 2, none⟩ = some (.int .i64 y.s.c) := cell_ext yc2 _ BE
      have hbl : b < w.heap.size + 1 := by omega
      have hsum : IntKind.i64.wrap (x.s.c + y.s.c) = x.s.c + y.s.c := IntWalk.i64_in _ (by omega)
      clear b0' b1' b2' y0' y1' y2' t1 t2
      go_upto_region 22 with fail
      refine wp_region_B (w.heap.size + 1) 42 #[.int .i64 0, .int .i64 0, .int .i64 0] #[.int .i64 x.s.h, .int .i64 x.s.w, .int .i64 (x.s.c + y.s.c)] [0, 1, 2, 3, 4, 5, 6, 7, 8, 9, 10, 11, 12] [⟨13, [], MT.done⟩] (by kernel_rfl) (by kernel_rfl) (fun _ _ d _ _ h => by cases d <;> exact h) HRr (fun u2 hE2 hB => ?_)
      have q0 : ∀ u, RB (w.heap.size + 1) 42 #[.int .i64 0, .int .i64 0, .int .i64 0] #[.int .i64 x.s.h, .int .i64 x.s.w, .int .i64 (x.s.c + y.s.c)] u2 u → u.cell? ⟨w.heap.size + 1 + 1, 0, none⟩ = some (.int .i64 x.s.h) := fun u h => h.cell (cell_ext (HX.cell 0) _ hE2) (by omega)
      have q1 : ∀ u, RB (w.heap.size + 1) 42 #[.int .i64 0, .int .i64 0, .int .i64 0] #[.int .i64 x.s.h, .int .i64 x.s.w, .int .i64 (x.s.c + y.s.c)] u2 u → u.cell? ⟨w.heap.size + 1 + 1, 1, none⟩ = some (.int .i64 x.s.w) := fun u h => h.cell (cell_ext (HX.cell 1) _ hE2) (by omega)
      have q2 : ∀ u, RB (w.heap.size + 1) 42 #[.int .i64 0, .int .i64 0, .int .i64 0] #[.int .i64 x.s.h, .int .i64 x.s.w, .int .i64 (x.s.c + y.s.c)] u2 u → u.cell? ⟨w.heap.size + 1 + 1, 2, none⟩ = some (.int .i64 x.s.c) := fun u h => h.cell (cell_ext (HX.cell 2) _ hE2) (by omega)
      have q3 : ∀ u, RB (w.heap.size + 1) 42 #[.int .i64 0, .int .i64 0, .int .i64 0] #[.int .i64 x.s.h, .int .i64 x.s.w, .int .i64 (x.s.c + y.s.c)] u2 u → u.cell? ⟨b, off + 4 + 2, none⟩ = some (.int .i64 y.s.c) := fun u h => h.cell (cell_ext (yc2') _ hE2) (by omega)
      repeat (first | (refine wpP_pure rfl (by rfl) (fun W hW => by go_simp; with_reducible rfl) ?_; simp only [Act.put, List.setIfInBounds_toArray, List.set_cons_zero, List.set_cons_succ]) | (refine wpP_skip rfl (by rfl) ?_; simp only [Act.put, List.setIfInBounds_toArray, List.set_cons_zero, List.set_cons_succ]))
      refine ⟨?_, fun u hR2 => ?_⟩
      · simp only [rSteps, rNeed, rStep, both_top, tie, TP.top, TP.mine, MP.top, MP.mine, MT.mine, MT.tied, MT.done, MT.is, List.reverse_cons, List.reverse_nil, List.nil_append, List.cons_append, ME.is, MP.is, MP.done, ME.ints, ME.row, Region.wanted, yielded, List.getElem?_toArray, phi, dstAt, List.getElem?_cons_zero, List.getElem?_cons_succ, Option.bind_some, Act.put, List.setIfInBounds_toArray, List.set_cons_zero, List.set_cons_succ, and_true, forall_eq, reduceIte, Nat.reduceEqDiff, beq_iff_eq, Option.some.injEq, Bool.false_eq_true, reduceCtorEq, implies_true, true_and]
        intro u hR2
        exact wp_store_B _ _ _ rfl rfl rfl (hB u hR2) (by kernel_rfl) rfl (by simp [Value.oneCell']) ((hB u hR2).elim Blk.setRow Blk.setRow)
      · simp only [rFin, envAt, TP.top, TP.mine, MP.top, MP.mine, MT.mine, MT.tied, MT.done, MT.is, List.map_cons, List.map_nil, true_implies, List.head?_cons, ME.is, MP.is, MP.done, ME.ints, ME.row, phi, dstAt, List.getElem?_cons_zero, List.getElem?_cons_succ, Option.bind_some, Act.put, List.setIfInBounds_toArray, List.set_cons_zero, List.set_cons_succ, and_true, forall_eq, reduceIte, Nat.reduceEqDiff, beq_iff_eq, Option.some.injEq, Bool.false_eq_true, reduceCtorEq, implies_true, true_and]
        intro v hD
        go_wp2
        refine bodyPost_ret (v := .agg #[.int .i64 x.s.h, .int .i64 x.s.w, .int .i64 (x.s.c + y.s.c)]) (results_cell_row Try.results76 _ _ (w.heap.size + 1) 42 _ (0, 0) _ rfl hD (by kernel_rfl : Try.prog.underlying 42 = some (.struct (Try.prog.fieldsOf 42))) rfl (by kernel_rfl)) rfl ?_
        exact ⟨by rw [HM2.out], Below.grown (BE.trans hE2) hR2.gr (BE.trans hE2).size (fun k hk => by cases hk; omega)⟩
    · have HM2 : Hid (mz = ⟨0, 0, 0⟩) := by show _ = _; rw [HM1.out, besideZ, if_neg]; intro h; exact d2 h.2.symm
      clear HM1
      have t1 : (y.s.h != x.s.h) = false := by simp [d1]
      have t2 : (y.s.w != x.s.w) = true := by simp [d2]
      clear d1 d2
      refine wp_region_X [0, 1, 2, 3, 4, 5, 6, 7, 8, 9, 10, 11, 12, 13, 14, 15, 16, 17] [] (by kernel_rfl) (by kernel_rfl) (fun _ _ d _ _ h => by cases d <;> exact h) (fun w2 hE => ?_)
      have y0' : ∀ W, Ext w2 W → W.cell? ⟨b, off + 4, none⟩ = some (.int .i64 y.s.h) := cell_ext (cell_ext yc0 _ (BX.he.trans hE))
      have y1' : ∀ W, Ext w2 W → W.cell? ⟨b, off + 4 + 1, none⟩ = some (.int .i64 y.s.w) := cell_ext (cell_ext yc1 _ (BX.he.trans hE))
      have y2' : ∀ W, Ext w2 W → W.cell? ⟨b, off + 4 + 2, none⟩ = some (.int .i64 y.s.c) := cell_ext (cell_ext yc2 _ (BX.he.trans hE))
      have b0' : ∀ W, Ext w2 W → W.cell? ⟨w.heap.size + 1 + 1, 0, none⟩ = some (.int .i64 x.s.h) := fun W h => ((BX.hx.ext hE).ext h).cell 0
      have b1' : ∀ W, Ext w2 W → W.cell? ⟨w.heap.size + 1 + 1, 1, none⟩ = some (.int .i64 x.s.w) := fun W h => ((BX.hx.ext hE).ext h).cell 1
      have b2' : ∀ W, Ext w2 W → W.cell? ⟨w.heap.size + 1 + 1, 2, none⟩ = some (.int .i64 x.s.c) := fun W h => ((BX.hx.ext hE).ext h).cell 2
      repeat (first | (refine wpP_pure rfl (by rfl) (fun W hW => by go_simp; with_reducible rfl) ?_; simp only [Act.put, List.setIfInBounds_toArray, List.set_cons_zero, List.set_cons_succ]) | (refine wpP_skip rfl (by rfl) ?_; simp only [Act.put, List.setIfInBounds_toArray, List.set_cons_zero, List.set_cons_succ]))
      refine ⟨trivial, fun W hR => ?_⟩
      simp only [rFin, envAt, TP.top, TP.mine, MP.top, MP.mine, MT.mine, MT.tied, MT.done, MT.is, List.map_cons, List.map_nil, true_implies, List.head?_cons, ME.is, MP.is, MP.done, ME.ints, ME.row, phi, dstAt, List.getElem?_cons_zero, List.getElem?_cons_succ, Option.bind_some, Act.put, List.setIfInBounds_toArray, List.set_cons_zero, List.set_cons_succ, and_true, forall_eq, reduceIte, Nat.reduceEqDiff, beq_iff_eq, Option.some.injEq, Bool.false_eq_true, reduceCtorEq, implies_true, true_and]
      have hr9 := BX.hr.ext (hE.trans hR)
      have hxb := BX.hx.ext (hE.trans hR)
      have BE := BX.he.trans (hE.trans hR)
      have hnb := BX.hn.ext (hE.trans hR)
      clear b0' b1' b2'
      clear y0' y1' y2'
      have hx9 := ext_setRow BE #[.int .i64 0, .int .i64 0, .int .i64 0] (show w.heap.size ≤ w.heap.size + 1 by omega)
      go_wp2_with (refine wpList_store_row rfl 42 _ _ rfl (w.heap.size + 1) #[.int .i64 0, .int .i64 0, .int .i64 0] rfl rfl 42 _ hr9 (by kernel_rfl) rfl (by simp [Value.oneCell']) ?_)
      refine bodyPost_ret (v := .agg #[.int .i64 0, .int .i64 0, .int .i64 0]) (results_cell_row Try.results76 _ _ (w.heap.size + 1) 42 _ (0, 0) _ rfl (setRow_heap _ _ _ _ _ _ hr9) (by kernel_rfl : Try.prog.underlying 42 = some (.struct (Try.prog.fieldsOf 42))) rfl (by kernel_rfl)) rfl ?_
      exact ⟨by rw [HM2.out], hx9⟩
  · have HM2 : Hid (mz = ⟨0, 0, 0⟩) := by show _ = _; rw [HM1.out, besideZ, if_neg]; intro h; exact d1 h.1.symm
    clear HM1
    have t1 : (y.s.h != x.s.h) = true := by simp [d1]
    clear d1
    refine wp_region_X [0, 1, 2, 3, 4, 5, 6, 7, 8, 9, 10, 11, 12, 13, 14, 15, 16, 17] [] (by kernel_rfl) (by kernel_rfl) (fun _ _ d _ _ h => by cases d <;> exact h) (fun w2 hE => ?_)
    have y0' : ∀ W, Ext w2 W → W.cell? ⟨b, off + 4, none⟩ = some (.int .i64 y.s.h) := cell_ext (cell_ext yc0 _ (BX.he.trans hE))
    have y1' : ∀ W, Ext w2 W → W.cell? ⟨b, off + 4 + 1, none⟩ = some (.int .i64 y.s.w) := cell_ext (cell_ext yc1 _ (BX.he.trans hE))
    have y2' : ∀ W, Ext w2 W → W.cell? ⟨b, off + 4 + 2, none⟩ = some (.int .i64 y.s.c) := cell_ext (cell_ext yc2 _ (BX.he.trans hE))
    have b0' : ∀ W, Ext w2 W → W.cell? ⟨w.heap.size + 1 + 1, 0, none⟩ = some (.int .i64 x.s.h) := fun W h => ((BX.hx.ext hE).ext h).cell 0
    have b1' : ∀ W, Ext w2 W → W.cell? ⟨w.heap.size + 1 + 1, 1, none⟩ = some (.int .i64 x.s.w) := fun W h => ((BX.hx.ext hE).ext h).cell 1
    have b2' : ∀ W, Ext w2 W → W.cell? ⟨w.heap.size + 1 + 1, 2, none⟩ = some (.int .i64 x.s.c) := fun W h => ((BX.hx.ext hE).ext h).cell 2
    repeat (first | (refine wpP_pure rfl (by rfl) (fun W hW => by go_simp; with_reducible rfl) ?_; simp only [Act.put, List.setIfInBounds_toArray, List.set_cons_zero, List.set_cons_succ]) | (refine wpP_skip rfl (by rfl) ?_; simp only [Act.put, List.setIfInBounds_toArray, List.set_cons_zero, List.set_cons_succ]))
    refine ⟨trivial, fun W hR => ?_⟩
    simp only [rFin, envAt, TP.top, TP.mine, MP.top, MP.mine, MT.mine, MT.tied, MT.done, MT.is, List.map_cons, List.map_nil, true_implies, List.head?_cons, ME.is, MP.is, MP.done, ME.ints, ME.row, phi, dstAt, List.getElem?_cons_zero, List.getElem?_cons_succ, Option.bind_some, Act.put, List.setIfInBounds_toArray, List.set_cons_zero, List.set_cons_succ, and_true, forall_eq, reduceIte, Nat.reduceEqDiff, beq_iff_eq, Option.some.injEq, Bool.false_eq_true, reduceCtorEq, implies_true, true_and]
    have hr9 := BX.hr.ext (hE.trans hR)
    have hxb := BX.hx.ext (hE.trans hR)
    have BE := BX.he.trans (hE.trans hR)
    have hnb := BX.hn.ext (hE.trans hR)
    clear b0' b1' b2'
    clear y0' y1' y2'
    have hx9 := ext_setRow BE #[.int .i64 0, .int .i64 0, .int .i64 0] (show w.heap.size ≤ w.heap.size + 1 by omega)
    go_wp2_with (refine wpList_store_row rfl 42 _ _ rfl (w.heap.size + 1) #[.int .i64 0, .int .i64 0, .int .i64 0] rfl rfl 42 _ hr9 (by kernel_rfl) rfl (by simp [Value.oneCell']) ?_)
    refine bodyPost_ret (v := .agg #[.int .i64 0, .int .i64 0, .int .i64 0]) (results_cell_row Try.results76 _ _ (w.heap.size + 1) 42 _ (0, 0) _ rfl (setRow_heap _ _ _ _ _ _ hr9) (by kernel_rfl : Try.prog.underlying 42 = some (.struct (Try.prog.fieldsOf 42))) rfl (by kernel_rfl)) rfl ?_
    exact ⟨by rw [HM2.out], hx9⟩

set_option maxRecDepth 8000 in
set_option maxHeartbeats 1600000 in
theorem rmade11 (n : Nd) (lv : Value) (x y : Vl) (w : World) (hv : Vls w lv [x]) (ho : n.op = 11) : Calls Try.prog 76 #[.agg #[.int .i64 n.op, n.inV, .int .i64 n.k, .int .i64 n.st, .int .i64 n.pad, .int .i64 n.out, .int .i64 n.mul, .int .i64 n.sh, .int .i64 n.zero, .int .i64 n.th, .int .i64 n.tw, .int .i64 n.tc, n.wV, n.bV], lv] w fun e w' => e = .returned (.agg #[.int .i64 (madeZ n x.s y.s).h, .int .i64 (madeZ n x.s y.s).w, .int .i64 (madeZ n x.s y.s).c]) ∧ Ext w w' := by
  obtain ⟨mz, hmz⟩ : ∃ mz, madeZ n x.s y.s = mz := ⟨_, rfl⟩
  rw [hmz]
  have HMZ := Lib.hid hmz
  clear hmz
  obtain ⟨A, c, rfl, hlc, hcm, hcc⟩ := hv.form
  unfold maxLen at hcm
  have BX := boxM w n x
  obtain ⟨b, off, rfl, bh, xc⟩ := hcc 0 x rfl
  have xc0 : w.cell? ⟨b, off, none⟩ = some (.int .i64 x.s.h) := by simpa using xc 0 _ rfl
  have xc1 : w.cell? ⟨b, off + 1, none⟩ = some (.int .i64 x.s.w) := by simpa using xc 1 _ rfl
  have xc2 : w.cell? ⟨b, off + 2, none⟩ = some (.int .i64 x.s.c) := by simpa using xc 2 _ rfl
  have hne : b < w.heap.size := bh
  clear xc hcc
  have hn9 := fun W => rSize_calls ⟨n.th, n.tw, n.tc⟩ W
  have ha9 := fun W => rSize_calls x.s W
  simp only at hn9
  have HA : Hid (∀ p q, sizeZ ⟨n.th, n.tw, n.tc⟩ = p → sizeZ x.s = q → anewZ n x.s = if p = q then n.to else ⟨0, 0, 0⟩) := fun p q h1 h2 => by unfold anewZ; rw [show sizeZ n.to = p from h1, h2]
  obtain ⟨p, hp⟩ : ∃ p, sizeZ ⟨n.th, n.tw, n.tc⟩ = p := ⟨_, rfl⟩
  obtain ⟨q, hq⟩ : ∃ q, sizeZ x.s = q := ⟨_, rfl⟩
  rw [hp] at hn9
  rw [hq] at ha9
  have HA1 := Lib.hid (HA.out p q hp hq)
  clear HA hp hq
  go_enter Try.func76, Try.ntmps76
  go_upto_region 24 with fail
  have HM1 : Hid (mz = anewZ n x.s) := by show _ = _; rw [← HMZ.out]; simp only [madeZ, ho, reduceIte, Int.reduceEq]
  rw [ho] at BX
  clear ho
  generalize World.alloc (World.alloc (World.alloc w _) _) _ = w1 at *
  refine wp_region_X [0, 1, 3] [⟨2, [], ME.is (.int .i64 p)⟩, ⟨4, [], ME.is (.int .i64 q)⟩, ⟨5, [2, 4], ME.is (.bool (!decide (p = q)))⟩] (by kernel_rfl) (by kernel_rfl) (fun _ _ d _ _ h => by cases d <;> exact h) (fun w2 hE => ?_)
  have c9 : ∀ W, Ext w2 W → W.cell? ⟨w.heap.size, 9, none⟩ = some (.int .i64 n.th) := fun W h => ((BX.hn.ext hE).ext h).cell 9
  have c10 : ∀ W, Ext w2 W → W.cell? ⟨w.heap.size, 10, none⟩ = some (.int .i64 n.tw) := fun W h => ((BX.hn.ext hE).ext h).cell 10
  have c11 : ∀ W, Ext w2 W → W.cell? ⟨w.heap.size, 11, none⟩ = some (.int .i64 n.tc) := fun W h => ((BX.hn.ext hE).ext h).cell 11
  have b0' : ∀ W, Ext w2 W → W.cell? ⟨w.heap.size + 1 + 1, 0, none⟩ = some (.int .i64 x.s.h) := fun W h => ((BX.hx.ext hE).ext h).cell 0
  have b1' : ∀ W, Ext w2 W → W.cell? ⟨w.heap.size + 1 + 1, 1, none⟩ = some (.int .i64 x.s.w) := fun W h => ((BX.hx.ext hE).ext h).cell 1
  have b2' : ∀ W, Ext w2 W → W.cell? ⟨w.heap.size + 1 + 1, 2, none⟩ = some (.int .i64 x.s.c) := fun W h => ((BX.hx.ext hE).ext h).cell 2
  repeat (first | (refine wpP_pure rfl (by rfl) (fun W hW => by go_simp; with_reducible rfl) ?_; simp only [Act.put, List.setIfInBounds_toArray, List.set_cons_zero, List.set_cons_succ]) | (refine wpP_skip rfl (by rfl) ?_; simp only [Act.put, List.setIfInBounds_toArray, List.set_cons_zero, List.set_cons_succ]))
  refine ⟨?_, fun W hR => ?_⟩
  · clear c9 c10 c11 b0' b1' b2'
    simp only [rSteps, rNeed, rStep, both_top, tie, TP.top, TP.mine, MP.top, MP.mine, MT.mine, MT.tied, MT.done, MT.is, List.reverse_cons, List.reverse_nil, List.nil_append, List.cons_append, ME.is, MP.is, MP.done, ME.ints, ME.row, Region.wanted, yielded, List.getElem?_toArray, phi, dstAt, List.getElem?_cons_zero, List.getElem?_cons_succ, Option.bind_some, Act.put, List.setIfInBounds_toArray, List.set_cons_zero, List.set_cons_succ, and_true, forall_eq, reduceIte, Nat.reduceEqDiff, beq_iff_eq, Option.some.injEq, Bool.false_eq_true, reduceCtorEq, implies_true, true_and]
    refine ⟨fun W hR => ?_, fun W hR => ?_, fun W hR => ?_⟩
    · go_simp
      refine (hn9 W).mono ?_
      rintro e w' ⟨rfl, h1⟩
      exact ⟨_, rfl, h1, rfl⟩
    · go_simp
      refine (ha9 W).mono ?_
      rintro e w' ⟨rfl, h1⟩
      exact ⟨_, rfl, h1, rfl⟩
    · by_cases h : p = q
      · go_simp
        exact ⟨_, rfl, Ext.refl _, by simp [h]⟩
      · go_simp
        exact ⟨_, rfl, Ext.refl _, by simp [h]⟩
  · simp only [rFin, envAt, TP.top, TP.mine, MP.top, MP.mine, MT.mine, MT.tied, MT.done, MT.is, List.map_cons, List.map_nil, true_implies, List.head?_cons, ME.is, MP.is, MP.done, ME.ints, ME.row, phi, dstAt, List.getElem?_cons_zero, List.getElem?_cons_succ, Option.bind_some, Act.put, List.setIfInBounds_toArray, List.set_cons_zero, List.set_cons_succ, and_true, forall_eq, reduceIte, Nat.reduceEqDiff, beq_iff_eq, Option.some.injEq, Bool.false_eq_true, reduceCtorEq, implies_true, true_and]
    clear hn9 ha9 c9 c10 c11
    have hr9 := BX.hr.ext (hE.trans hR)
    have hxb := BX.hx.ext (hE.trans hR)
    have BE := BX.he.trans (hE.trans hR)
    have hnb := BX.hn.ext (hE.trans hR)
    clear b0' b1' b2'
    have c9 : W.cell? ⟨w.heap.size, 9, none⟩ = some (.int .i64 n.th) := hnb.cell 9
    have c10 : W.cell? ⟨w.heap.size, 10, none⟩ = some (.int .i64 n.tw) := hnb.cell 10
    have c11 : W.cell? ⟨w.heap.size, 11, none⟩ = some (.int .i64 n.tc) := hnb.cell 11
    by_cases h : p = q
    · have HM2 : Hid (mz = ⟨n.th, n.tw, n.tc⟩) := by show _ = _; rw [HM1.out, HA1.out, if_pos h] <;> rfl
      have hd : (!decide (p = q)) = false := by simp [h]
      clear h HA1
      rw [hd]
      clear hd
      have hx9 := ext_setRow BE #[.int .i64 n.th, .int .i64 n.tw, .int .i64 n.tc] (show w.heap.size ≤ w.heap.size + 1 by omega)
      go_wp2_with (refine wpList_store_row rfl 42 _ _ rfl (w.heap.size + 1) #[.int .i64 n.th, .int .i64 n.tw, .int .i64 n.tc] rfl rfl 42 _ hr9 (by kernel_rfl) rfl (by simp [Value.oneCell']) ?_)
      refine bodyPost_ret (v := .agg #[.int .i64 n.th, .int .i64 n.tw, .int .i64 n.tc]) (results_cell_row Try.results76 _ _ (w.heap.size + 1) 42 _ (0, 0) _ rfl (setRow_heap _ _ _ _ _ _ hr9) (by kernel_rfl : Try.prog.underlying 42 = some (.struct (Try.prog.fieldsOf 42))) rfl (by kernel_rfl)) rfl ?_
      exact ⟨by rw [HM2.out], hx9⟩
    · have HM2 : Hid (mz = ⟨0, 0, 0⟩) := by show _ = _; rw [HM1.out, HA1.out, if_neg h] <;> rfl
      have hd : (!decide (p = q)) = true := by simp [h]
      clear h HA1
      rw [hd]
      clear hd
      have hx9 := ext_setRow BE #[.int .i64 0, .int .i64 0, .int .i64 0] (show w.heap.size ≤ w.heap.size + 1 by omega)
      go_wp2_with (refine wpList_store_row rfl 42 _ _ rfl (w.heap.size + 1) #[.int .i64 0, .int .i64 0, .int .i64 0] rfl rfl 42 _ hr9 (by kernel_rfl) rfl (by simp [Value.oneCell']) ?_)
      refine bodyPost_ret (v := .agg #[.int .i64 0, .int .i64 0, .int .i64 0]) (results_cell_row Try.results76 _ _ (w.heap.size + 1) 42 _ (0, 0) _ rfl (setRow_heap _ _ _ _ _ _ hr9) (by kernel_rfl : Try.prog.underlying 42 = some (.struct (Try.prog.fieldsOf 42))) rfl (by kernel_rfl)) rfl ?_
      exact ⟨by rw [HM2.out], hx9⟩

end Go.Proofs.Ytmddlhfahfelpaa
