/- The walk of the law IsaFields, rows beyond their bounds. -/
import Derived.Test.YtgchdgnephbafaaIsaG0
namespace Go.Proofs.Ytgchdgnephbafaa
open Go.RowKit

set_option maxRecDepth 20000 in
set_option maxHeartbeats 6400000 in
theorem isaFields_a (rows row x0 x1 x2 x3 : Int) (w : World) (h1 : ¬ (1 ≤ rows ∧ rows ≤ 16)) : Calls Try.prog 3 #[.int .i64 rows, .int .i64 row, .agg #[.int .i64 x0, .int .i64 x1, .int .i64 x2, .int .i64 x3]] w fun e w' => e = .returned (.bool true) ∧ Below w.heap.size w w' := by
  have hE0 := below_alloc (Below.refl w.heap.size w) (Nat.le_refl _) (.cells #[.int .i64 x0, .int .i64 x1, .int .i64 x2, .int .i64 x3] 22)
  have Q : QBox (w.alloc (.cells #[.int .i64 x0, .int .i64 x1, .int .i64 x2, .int .i64 x3] 22)) w.heap.size x0 x1 x2 x3 := heap_alloc_new w _
  go_enter Try.func3, Try.ntmps3
  go_wp2_with fail
  generalize w.alloc _ = w0 at *
  refine (shown08_calls w0).mono ?_
  rintro e w1 ⟨rfl, hb1⟩
  have Q := Q.below hb1
  have hE := hE0.trans (hb1.mono hE0.size)
  clear hE0 hb1
  have HR : Hid (decide (1 ≤ rows ∧ rows ≤ 16) = false) := decide_eq_false h1
  obtain ⟨f1, hf1⟩ : ∃ f1, loadOk rows row x0 x1 = f1 := ⟨_, rfl⟩
  obtain ⟨sm, hsm⟩ : ∃ sm, decide (0 ≤ x3 ∧ x3 < 8) = sm := ⟨_, rfl⟩
  have HSM := Lib.hid hsm
  clear hsm
  have HF := Lib.hid hf1
  clear hf1
  obtain ⟨q0, q1, q2, q3⟩ := Q.cells
  go_upto_region 2 with fail
  go_cut [8] (fun s8 wx => s8 = .bool false ∧ w1 = wx)
  case first =>
    go_wp2_with fail
    all_goals
      go_meet
      exact ⟨congrArg Value.bool (by first | rfl | (rw [← HR.out, Bool.eq_iff_iff]; simp; omega) | (rw [← HR.out, Bool.eq_iff_iff]; simp; done) | (rw [← HR.out]; done)), rfl⟩
  obtain ⟨rfl, rfl⟩ := hcut
  go_upto_region 4 with fail
  have hal := below_alloc (Below.refl w1.heap.size w1) (Nat.le_refl _) (.cells #[.int .i64 1, .int .i64 0, .int .i64 0, .int .i64 0, .int .i64 rows, .int .i64 row, .int .i64 x0, .int .i64 x1, .int .i64 0, .int .i64 0, .int .i64 0, .int .i64 0, .int .i64 0, .int .i64 0] 26)
  have B9 := cbox_new w1 ⟨1, 0, 0, 0, rows, row, x0, x1, 0, 0, 0, 0, 0, 0⟩
  replace Q := Q.below hal
  replace hE := hE.trans (hal.mono hE.size)
  simp only at B9
  clear hal q0 q1 q2 q3
  generalize w1.alloc _ = w2 at *
  obtain ⟨q0, q1, q2, q3⟩ := Q.cells
  go_cut [10] (fun s10 wx => s10 = .bool f1 ∧ w2 = wx)
  case first =>
    go_wp2_with fail
    all_goals
      go_meet
      exact ⟨congrArg Value.bool (by have h1 := HR.out; rw [← HF.out, Bool.eq_iff_iff]; unfold loadOk; simp at h1 ⊢ <;> omega), rfl⟩
  obtain ⟨rfl, rfl⟩ := hcut
  obtain ⟨y0, y1, y2, y3, y4, y5, y6, y7, y8, y9, y10, y11, y12, y13⟩ := B9.all
  go_upto_region 7 with fail
  have hal := below_alloc (Below.refl w2.heap.size w2) (Nat.le_refl _) (.cells #[.int .i64 2, .int .i64 0, .int .i64 0, .int .i64 0, .int .i64 rows, .int .i64 row, .int .i64 x0, .int .i64 x1, .int .i64 0, .int .i64 0, .int .i64 0, .int .i64 0, .int .i64 0, .int .i64 0] 26)
  have B11 := cbox_new w2 ⟨2, 0, 0, 0, rows, row, x0, x1, 0, 0, 0, 0, 0, 0⟩
  replace B9 := B9.later hal
  replace Q := Q.below hal
  replace hE := hE.trans (hal.mono hE.size)
  simp only at B11
  clear hal q0 q1 q2 q3
  generalize w2.alloc _ = w3 at *
  obtain ⟨q0, q1, q2, q3⟩ := Q.cells
  clear y0 y1 y2 y3 y4 y5 y6 y7 y8 y9 y10 y11 y12 y13
  go_upto_region 8 with fail
  have hal := below_alloc (Below.refl w3.heap.size w3) (Nat.le_refl _) (.cells #[.int .i64 4, .int .i64 0, .int .i64 x2, .int .i64 0, .int .i64 rows, .int .i64 0, .int .i64 0, .int .i64 0, .int .i64 0, .int .i64 0, .int .i64 0, .int .i64 0, .int .i64 0, .int .i64 0] 26)
  have B12 := cbox_new w3 ⟨4, 0, x2, 0, rows, 0, 0, 0, 0, 0, 0, 0, 0, 0⟩
  replace B9 := B9.later hal
  replace B11 := B11.later hal
  replace Q := Q.below hal
  replace hE := hE.trans (hal.mono hE.size)
  simp only at B12
  clear hal q0 q1 q2 q3
  generalize w3.alloc _ = w4 at *
  obtain ⟨q0, q1, q2, q3⟩ := Q.cells
  go_upto_region 9 with fail
  have hal := below_alloc (Below.refl w4.heap.size w4) (Nat.le_refl _) (.cells #[.int .i64 5, .int .i64 x3, .int .i64 0, .int .i64 0, .int .i64 0, .int .i64 0, .int .i64 0, .int .i64 0, .int .i64 0, .int .i64 0, .int .i64 0, .int .i64 0, .int .i64 0, .int .i64 0] 26)
  have B13 := cbox_new w4 ⟨5, x3, 0, 0, 0, 0, 0, 0, 0, 0, 0, 0, 0, 0⟩
  replace B9 := B9.later hal
  replace B11 := B11.later hal
  replace B12 := B12.later hal
  replace Q := Q.below hal
  replace hE := hE.trans (hal.mono hE.size)
  simp only at B13
  clear hal q0 q1 q2 q3
  generalize w4.alloc _ = w5 at *
  obtain ⟨q0, q1, q2, q3⟩ := Q.cells
  go_upto_region 10 with fail
  have hal := below_alloc (Below.refl w5.heap.size w5) (Nat.le_refl _) (.cells #[.int .i64 6, .int .i64 x3, .int .i64 0, .int .i64 0, .int .i64 0, .int .i64 0, .int .i64 0, .int .i64 0, .int .i64 0, .int .i64 0, .int .i64 0, .int .i64 0, .int .i64 0, .int .i64 0] 26)
  have B14 := cbox_new w5 ⟨6, x3, 0, 0, 0, 0, 0, 0, 0, 0, 0, 0, 0, 0⟩
  replace B9 := B9.later hal
  replace B11 := B11.later hal
  replace B12 := B12.later hal
  replace B13 := B13.later hal
  replace Q := Q.below hal
  replace hE := hE.trans (hal.mono hE.size)
  simp only at B14
  clear hal q0 q1 q2 q3
  generalize w5.alloc _ = w6 at *
  obtain ⟨q0, q1, q2, q3⟩ := Q.cells
  go_cut [15] (fun s15 wx => s15 = .bool sm ∧ w6 = wx)
  case first =>
    go_wp2_with fail
    all_goals
      go_meet
      exact ⟨congrArg Value.bool (by rw [← HSM.out, Bool.eq_iff_iff]; simp <;> omega), rfl⟩
  obtain ⟨rfl, rfl⟩ := hcut
  obtain ⟨y0, y1, y2, y3, y4, y5, y6, y7, y8, y9, y10, y11, y12, y13⟩ := B13.all
  go_upto_region 13 with fail
  have hal := below_alloc (Below.refl w6.heap.size w6) (Nat.le_refl _) (.cells #[.int .i64 5, .int .i64 x3, .int .i64 0, .int .i64 0, .int .i64 rows, .int .i64 0, .int .i64 0, .int .i64 0, .int .i64 0, .int .i64 0, .int .i64 0, .int .i64 0, .int .i64 0, .int .i64 0] 26)
  have B16 := cbox_new w6 ⟨5, x3, 0, 0, rows, 0, 0, 0, 0, 0, 0, 0, 0, 0⟩
  replace B9 := B9.later hal
  replace B11 := B11.later hal
  replace B12 := B12.later hal
  replace B13 := B13.later hal
  replace B14 := B14.later hal
  replace Q := Q.below hal
  replace hE := hE.trans (hal.mono hE.size)
  simp only at B16
  clear hal q0 q1 q2 q3
  generalize w6.alloc _ = w7 at *
  obtain ⟨q0, q1, q2, q3⟩ := Q.cells
  clear y0 y1 y2 y3 y4 y5 y6 y7 y8 y9 y10 y11 y12 y13
  have E9 := mayE_eq (c := ⟨1, 0, 0, 0, rows, row, x0, x1, 0, 0, 0, 0, 0, 0⟩) (q := f1) (by rw [mayB_load (Or.inl rfl), ← HF.out]; unfold loadOk; rw [decide_eq_true_iff]; simp; omega)
  have E11 := mayE_eq (c := ⟨2, 0, 0, 0, rows, row, x0, x1, 0, 0, 0, 0, 0, 0⟩) (q := f1) (by rw [mayB_load (Or.inr rfl), ← HF.out]; unfold loadOk; rw [decide_eq_true_iff]; simp; omega)
  have E13 := mayE_eq (c := ⟨5, x3, 0, 0, 0, 0, 0, 0, 0, 0, 0, 0, 0, 0⟩) (q := sm) (by rw [mayB_sem (Or.inl rfl), ← HSM.out, decide_eq_true_iff]; simp; omega)
  have E14 := mayE_eq (c := ⟨6, x3, 0, 0, 0, 0, 0, 0, 0, 0, 0, 0, 0, 0⟩) (q := sm) (by rw [mayB_sem (Or.inr rfl), ← HSM.out, decide_eq_true_iff]; simp; omega)
  have E12 := Lib.hid (mayE_if (c := ⟨4, 0, x2, 0, rows, 0, 0, 0, 0, 0, 0, 0, 0, 0⟩) (q := false && decide (0 ≤ x2) && decide (x2 < 12)) (by rw [mayB_kernel rfl, ← HR.out]; simp; omega))
  have E16 := Lib.hid (mayE_if (c := ⟨5, x3, 0, 0, rows, 0, 0, 0, 0, 0, 0, 0, 0, 0⟩) (q := sm && decide (rows = 0)) (by rw [mayB_sem (Or.inl rfl), ← HSM.out]; simp; omega))
  have M9 := fun W => may_calls ⟨1, 0, 0, 0, rows, row, x0, x1, 0, 0, 0, 0, 0, 0⟩ W
  have M11 := fun W => may_calls ⟨2, 0, 0, 0, rows, row, x0, x1, 0, 0, 0, 0, 0, 0⟩ W
  have M12 := fun W => may_calls ⟨4, 0, x2, 0, rows, 0, 0, 0, 0, 0, 0, 0, 0, 0⟩ W
  have M13 := fun W => may_calls ⟨5, x3, 0, 0, 0, 0, 0, 0, 0, 0, 0, 0, 0, 0⟩ W
  have M14 := fun W => may_calls ⟨6, x3, 0, 0, 0, 0, 0, 0, 0, 0, 0, 0, 0, 0⟩ W
  have M16 := fun W => may_calls ⟨5, x3, 0, 0, rows, 0, 0, 0, 0, 0, 0, 0, 0, 0⟩ W
  simp only [Cm.v] at M9 M11 M12 M13 M14 M16
  generalize mayE ⟨1, 0, 0, 0, rows, row, x0, x1, 0, 0, 0, 0, 0, 0⟩ = e9 at *
  generalize mayE ⟨2, 0, 0, 0, rows, row, x0, x1, 0, 0, 0, 0, 0, 0⟩ = e11 at *
  generalize mayE ⟨4, 0, x2, 0, rows, 0, 0, 0, 0, 0, 0, 0, 0, 0⟩ = e12 at *
  generalize mayE ⟨5, x3, 0, 0, 0, 0, 0, 0, 0, 0, 0, 0, 0, 0⟩ = e13 at *
  generalize mayE ⟨6, x3, 0, 0, 0, 0, 0, 0, 0, 0, 0, 0, 0, 0⟩ = e14 at *
  generalize mayE ⟨5, x3, 0, 0, rows, 0, 0, 0, 0, 0, 0, 0, 0, 0⟩ = e16 at *
  clear q0 q1 q2 q3 HR HF HSM
  have E12 := E12.out
  have E16 := E16.out
  obtain ⟨y0, y1, y2, y3, y4, y5, y6, y7, y8, y9, y10, y11, y12, y13⟩ := B9.all
  simp only at y0 y1 y2 y3 y4 y5 y6 y7 y8 y9 y10 y11 y12 y13
  obtain ⟨q0, q1, q2, q3⟩ := Q.cells
  go_wp2_with fail
  refine (M9 w7).mono ?_
  rintro e w8 ⟨rfl, hb⟩
  replace B11 := B11.later hb
  replace B12 := B12.later hb
  replace B13 := B13.later hb
  replace B14 := B14.later hb
  replace B16 := B16.later hb
  replace Q := Q.below hb
  replace hE := hE.trans (hb.mono hE.size)
  clear hb y0 y1 y2 y3 y4 y5 y6 y7 y8 y9 y10 y11 y12 y13 q0 q1 q2 q3
  obtain ⟨y0, y1, y2, y3, y4, y5, y6, y7, y8, y9, y10, y11, y12, y13⟩ := B11.all
  simp only at y0 y1 y2 y3 y4 y5 y6 y7 y8 y9 y10 y11 y12 y13
  obtain ⟨q0, q1, q2, q3⟩ := Q.cells
  go_wp2_with fail
  refine (M11 w8).mono ?_
  rintro e w9 ⟨rfl, hb⟩
  replace B12 := B12.later hb
  replace B13 := B13.later hb
  replace B14 := B14.later hb
  replace B16 := B16.later hb
  replace Q := Q.below hb
  replace hE := hE.trans (hb.mono hE.size)
  clear hb y0 y1 y2 y3 y4 y5 y6 y7 y8 y9 y10 y11 y12 y13 q0 q1 q2 q3
  obtain ⟨y0, y1, y2, y3, y4, y5, y6, y7, y8, y9, y10, y11, y12, y13⟩ := B12.all
  simp only at y0 y1 y2 y3 y4 y5 y6 y7 y8 y9 y10 y11 y12 y13
  obtain ⟨q0, q1, q2, q3⟩ := Q.cells
  go_wp2_with fail
  refine (M12 w9).mono ?_
  rintro e w10 ⟨rfl, hb⟩
  replace B13 := B13.later hb
  replace B14 := B14.later hb
  replace B16 := B16.later hb
  replace Q := Q.below hb
  replace hE := hE.trans (hb.mono hE.size)
  clear hb y0 y1 y2 y3 y4 y5 y6 y7 y8 y9 y10 y11 y12 y13 q0 q1 q2 q3
  obtain ⟨y0, y1, y2, y3, y4, y5, y6, y7, y8, y9, y10, y11, y12, y13⟩ := B13.all
  simp only at y0 y1 y2 y3 y4 y5 y6 y7 y8 y9 y10 y11 y12 y13
  obtain ⟨q0, q1, q2, q3⟩ := Q.cells
  go_wp2_with fail
  all_goals
    refine (M13 w10).mono ?_
    rintro e w11 ⟨rfl, hb⟩
    replace B14 := B14.later hb
    replace B16 := B16.later hb
    replace Q := Q.below hb
    replace hE := hE.trans (hb.mono hE.size)
    clear hb y0 y1 y2 y3 y4 y5 y6 y7 y8 y9 y10 y11 y12 y13 q0 q1 q2 q3
    obtain ⟨y0, y1, y2, y3, y4, y5, y6, y7, y8, y9, y10, y11, y12, y13⟩ := B14.all
    simp only at y0 y1 y2 y3 y4 y5 y6 y7 y8 y9 y10 y11 y12 y13
    obtain ⟨q0, q1, q2, q3⟩ := Q.cells
    go_wp2_with fail
    refine (M14 w11).mono ?_
    rintro e w12 ⟨rfl, hb⟩
    replace B16 := B16.later hb
    replace Q := Q.below hb
    replace hE := hE.trans (hb.mono hE.size)
    clear hb y0 y1 y2 y3 y4 y5 y6 y7 y8 y9 y10 y11 y12 y13 q0 q1 q2 q3
    obtain ⟨y0, y1, y2, y3, y4, y5, y6, y7, y8, y9, y10, y11, y12, y13⟩ := B16.all
    simp only at y0 y1 y2 y3 y4 y5 y6 y7 y8 y9 y10 y11 y12 y13
    obtain ⟨q0, q1, q2, q3⟩ := Q.cells
    go_wp2_with fail
    refine (M16 w12).mono ?_
    rintro e w13 ⟨rfl, hb⟩
    replace Q := Q.below hb
    replace hE := hE.trans (hb.mono hE.size)
    clear hb y0 y1 y2 y3 y4 y5 y6 y7 y8 y9 y10 y11 y12 y13 q0 q1 q2 q3
    obtain ⟨q0, q1, q2, q3⟩ := Q.cells
    go_wp2_with fail
    all_goals
      go_ret
      first | exact ⟨rfl, hE⟩ | exact ⟨ret_bool (by rw [Bool.not_eq_true', beq_eq_false_iff_ne]; omega), hE⟩

end Go.Proofs.Ytgchdgnephbafaa
