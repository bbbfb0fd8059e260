/- The walks of region.May, of the reference's May and Clash, of few and the example. -/
import Derived.Test.YticfgkcdghbklaaRegW
import Derived.Test.YticfgkcdghbklaaDraw
import Derived.BigRegion
namespace Go.Proofs.Yticfgkcdghbklaa
open Go.RowKit

def memTop (m : Int) : Int := if m = 0 then 65536 else 1024
def mayE (s : Sp) : Int := if s.mem < 0 ∨ 2 ≤ s.mem then 1 else if s.frm < 0 ∨ s.to < s.frm ∨ memTop s.mem < s.to then 23 else 0

set_option maxHeartbeats 800000 in
theorem may_calls (s : Sp) (w : World) : Calls Try.prog 36 #[s.v] w fun e w' => e = .returned (.int .i64 (mayE s)) ∧ Below w.heap.size w w' := by
  have HM : Hid (mayE s = if s.mem < 0 ∨ 2 ≤ s.mem then 1 else if s.frm < 0 ∨ s.to < s.frm ∨ memTop s.mem < s.to then 23 else 0) := rfl
  have hb1 : ∀ o, Below w.heap.size w (w.alloc o) := fun o => below_alloc (Below.refl _ _) (Nat.le_refl _) _
  have hb2 : ∀ o o', Below w.heap.size w ((w.alloc o).alloc o') := fun o o' => below_alloc (hb1 o) (by simp) _
  obtain ⟨m, f, t, p⟩ := s
  simp only at HM
  generalize mayE ⟨m, f, t, p⟩ = r at *
  unfold Sp.v
  go_enter Try.func36, Try.ntmps36
  by_cases h1 : m < 0 ∨ 2 ≤ m
  · have HR : Hid (r = 1) := by show _ = _; rw [HM.out, if_pos h1]
    go_wp2
    all_goals
      go_ret
      exact ⟨ret_int HR.out.symm, hb2 _ _⟩
  · have hm : m = 0 ∨ m = 1 := by omega
    rcases hm with rfl | rfl
    · have HM := HM.out
      rw [if_neg h1] at HM
      clear h1
      have j0 := cell_ext (w := ((w.alloc (.cells #[.int .i64 0, .int .i64 f, .int .i64 t, .bool p] 31)).alloc (.cells #[.int .i64 65536, .int .i64 1024] 69))) (a := ⟨w.heap.size, 0, none⟩) (v := .int .i64 0) (by simp)
      have j1 := cell_ext (w := ((w.alloc (.cells #[.int .i64 0, .int .i64 f, .int .i64 t, .bool p] 31)).alloc (.cells #[.int .i64 65536, .int .i64 1024] 69))) (a := ⟨w.heap.size, 1, none⟩) (v := .int .i64 f) (by simp)
      have j2 := cell_ext (w := ((w.alloc (.cells #[.int .i64 0, .int .i64 f, .int .i64 t, .bool p] 31)).alloc (.cells #[.int .i64 65536, .int .i64 1024] 69))) (a := ⟨w.heap.size, 2, none⟩) (v := .int .i64 t) (by simp)
      have j3 := cell_ext (w := ((w.alloc (.cells #[.int .i64 0, .int .i64 f, .int .i64 t, .bool p] 31)).alloc (.cells #[.int .i64 65536, .int .i64 1024] 69))) (a := ⟨w.heap.size + 1, 0, none⟩) (v := .int .i64 65536) (by simp)
      have j4 := cell_ext (w := ((w.alloc (.cells #[.int .i64 0, .int .i64 f, .int .i64 t, .bool p] 31)).alloc (.cells #[.int .i64 65536, .int .i64 1024] 69))) (a := ⟨w.heap.size + 1, 1, none⟩) (v := .int .i64 1024) (by simp)
      have h2 : f < 0 ∨ (0 ≤ f ∧ t < f) ∨ (0 ≤ f ∧ f ≤ t ∧ 65536 < t) ∨ (0 ≤ f ∧ f ≤ t ∧ t ≤ 65536) := by omega
      rcases h2 with h2 | ⟨h2, h3⟩ | ⟨h2, h3, h4⟩ | ⟨h2, h3, h4⟩
      · have HR : Hid (r = 23) := by
          show _ = _
          rw [HM]
          exact if_pos (Or.inl h2)
        have d1 : decide (f < 0) = true := decide_eq_true (by omega)
        clear HM
        go_wp2_with fail
        refine wp_region_D [(0, true), (1, true), (2, true), (3, true), (4, true), (5, true), (6, true), (7, true), (8, true), (9, true), (10, true), (11, true), (12, true), (13, true), (14, true), (15, true), (16, true), (17, true), (18, true), (19, true)] (by kernel_rfl) (by kernel_rfl) (fun _ _ d _ _ h => by cases d <;> exact h) (fun w2 hE => ?_)
        simp only [pickE, List.getElem?_cons_zero, List.getElem?_cons_succ]
        repeat (first
          | (refine wpD_skip (by rfl) ?_; simp only [Act.put, List.setIfInBounds_toArray, List.set_cons_zero, List.set_cons_succ])
          | (refine wpD_pure (by rfl) (fun W hW => by (dsimp only [Exts] at hW; go_simp; with_reducible rfl)) ?_; simp only [Act.put, List.setIfInBounds_toArray, List.set_cons_zero, List.set_cons_succ]))
        refine wpD_nil ?_
        go_wp2
        go_ret
        exact ⟨ret_int HR.out.symm, (hb2 _ _).trans (hE.mono (hb2 _ _).size)⟩
      · have HR : Hid (r = 23) := by
          show _ = _
          rw [HM]
          exact if_pos (Or.inr (Or.inl h3))
        have d1 : decide (f < 0) = false := decide_eq_false (by omega)
        have d2 : decide (t < f) = true := decide_eq_true (by omega)
        clear HM
        go_wp2_with fail
        refine wp_region_D [(0, true), (1, true), (2, true), (3, true), (4, true), (5, true), (6, true), (7, true), (8, true), (9, true), (10, true), (11, true), (12, true), (13, true), (14, true), (15, true), (16, true), (17, true), (18, true), (19, true)] (by kernel_rfl) (by kernel_rfl) (fun _ _ d _ _ h => by cases d <;> exact h) (fun w2 hE => ?_)
        simp only [pickE, List.getElem?_cons_zero, List.getElem?_cons_succ]
        repeat (first
          | (refine wpD_skip (by rfl) ?_; simp only [Act.put, List.setIfInBounds_toArray, List.set_cons_zero, List.set_cons_succ])
          | (refine wpD_pure (by rfl) (fun W hW => by (dsimp only [Exts] at hW; go_simp; with_reducible rfl)) ?_; simp only [Act.put, List.setIfInBounds_toArray, List.set_cons_zero, List.set_cons_succ]))
        refine wpD_nil ?_
        go_wp2
        go_ret
        exact ⟨ret_int HR.out.symm, (hb2 _ _).trans (hE.mono (hb2 _ _).size)⟩
      · have HR : Hid (r = 23) := by
          show _ = _
          rw [HM]
          exact if_pos (Or.inr (Or.inr (by simpa [memTop] using h4)))
        have d1 : decide (f < 0) = false := decide_eq_false (by omega)
        have d2 : decide (t < f) = false := decide_eq_false (by omega)
        have d3 : decide (65536 < t) = true := decide_eq_true (by omega)
        clear HM
        go_wp2_with fail
        refine wp_region_D [(0, true), (1, true), (2, true), (3, true), (4, true), (5, true), (6, true), (7, true), (8, true), (9, true), (10, true), (11, true), (12, true), (13, true), (14, true), (15, true), (16, true), (17, true), (18, true), (19, true)] (by kernel_rfl) (by kernel_rfl) (fun _ _ d _ _ h => by cases d <;> exact h) (fun w2 hE => ?_)
        simp only [pickE, List.getElem?_cons_zero, List.getElem?_cons_succ]
        repeat (first
          | (refine wpD_skip (by rfl) ?_; simp only [Act.put, List.setIfInBounds_toArray, List.set_cons_zero, List.set_cons_succ])
          | (refine wpD_pure (by rfl) (fun W hW => by (dsimp only [Exts] at hW; go_simp; with_reducible rfl)) ?_; simp only [Act.put, List.setIfInBounds_toArray, List.set_cons_zero, List.set_cons_succ]))
        refine wpD_nil ?_
        go_wp2
        go_ret
        exact ⟨ret_int HR.out.symm, (hb2 _ _).trans (hE.mono (hb2 _ _).size)⟩
      · have HR : Hid (r = 0) := by
          show _ = _
          rw [HM]
          exact if_neg (by simp [memTop]; omega)
        have d1 : decide (f < 0) = false := decide_eq_false (by omega)
        have d2 : decide (t < f) = false := decide_eq_false (by omega)
        have d3 : decide (65536 < t) = false := decide_eq_false (by omega)
        clear HM
        go_wp2_with fail
        refine wp_region_D [(0, true), (1, true), (2, true), (3, true), (4, true), (5, true), (6, true), (7, true), (8, true), (9, true), (10, true), (11, true), (12, true), (13, true), (14, true), (15, true), (16, true), (17, true), (18, true), (19, true)] (by kernel_rfl) (by kernel_rfl) (fun _ _ d _ _ h => by cases d <;> exact h) (fun w2 hE => ?_)
        simp only [pickE, List.getElem?_cons_zero, List.getElem?_cons_succ]
        repeat (first
          | (refine wpD_skip (by rfl) ?_; simp only [Act.put, List.setIfInBounds_toArray, List.set_cons_zero, List.set_cons_succ])
          | (refine wpD_pure (by rfl) (fun W hW => by (dsimp only [Exts] at hW; go_simp; with_reducible rfl)) ?_; simp only [Act.put, List.setIfInBounds_toArray, List.set_cons_zero, List.set_cons_succ]))
        refine wpD_nil ?_
        go_wp2
        go_ret
        exact ⟨ret_int HR.out.symm, (hb2 _ _).trans (hE.mono (hb2 _ _).size)⟩
    · have HM := HM.out
      rw [if_neg h1] at HM
      clear h1
      have j0 := cell_ext (w := ((w.alloc (.cells #[.int .i64 1, .int .i64 f, .int .i64 t, .bool p] 31)).alloc (.cells #[.int .i64 65536, .int .i64 1024] 69))) (a := ⟨w.heap.size, 0, none⟩) (v := .int .i64 1) (by simp)
      have j1 := cell_ext (w := ((w.alloc (.cells #[.int .i64 1, .int .i64 f, .int .i64 t, .bool p] 31)).alloc (.cells #[.int .i64 65536, .int .i64 1024] 69))) (a := ⟨w.heap.size, 1, none⟩) (v := .int .i64 f) (by simp)
      have j2 := cell_ext (w := ((w.alloc (.cells #[.int .i64 1, .int .i64 f, .int .i64 t, .bool p] 31)).alloc (.cells #[.int .i64 65536, .int .i64 1024] 69))) (a := ⟨w.heap.size, 2, none⟩) (v := .int .i64 t) (by simp)
      have j3 := cell_ext (w := ((w.alloc (.cells #[.int .i64 1, .int .i64 f, .int .i64 t, .bool p] 31)).alloc (.cells #[.int .i64 65536, .int .i64 1024] 69))) (a := ⟨w.heap.size + 1, 0, none⟩) (v := .int .i64 65536) (by simp)
      have j4 := cell_ext (w := ((w.alloc (.cells #[.int .i64 1, .int .i64 f, .int .i64 t, .bool p] 31)).alloc (.cells #[.int .i64 65536, .int .i64 1024] 69))) (a := ⟨w.heap.size + 1, 1, none⟩) (v := .int .i64 1024) (by simp)
      have h2 : f < 0 ∨ (0 ≤ f ∧ t < f) ∨ (0 ≤ f ∧ f ≤ t ∧ 1024 < t) ∨ (0 ≤ f ∧ f ≤ t ∧ t ≤ 1024) := by omega
      rcases h2 with h2 | ⟨h2, h3⟩ | ⟨h2, h3, h4⟩ | ⟨h2, h3, h4⟩
      · have HR : Hid (r = 23) := by
          show _ = _
          rw [HM]
          exact if_pos (Or.inl h2)
        have d1 : decide (f < 0) = true := decide_eq_true (by omega)
        clear HM
        go_wp2_with fail
        refine wp_region_D [(0, true), (1, true), (2, true), (3, true), (4, true), (5, true), (6, true), (7, true), (8, true), (9, true), (10, true), (11, true), (12, true), (13, true), (14, true), (15, true), (16, true), (17, true), (18, true), (19, true)] (by kernel_rfl) (by kernel_rfl) (fun _ _ d _ _ h => by cases d <;> exact h) (fun w2 hE => ?_)
        simp only [pickE, List.getElem?_cons_zero, List.getElem?_cons_succ]
        repeat (first
          | (refine wpD_skip (by rfl) ?_; simp only [Act.put, List.setIfInBounds_toArray, List.set_cons_zero, List.set_cons_succ])
          | (refine wpD_pure (by rfl) (fun W hW => by (dsimp only [Exts] at hW; go_simp; with_reducible rfl)) ?_; simp only [Act.put, List.setIfInBounds_toArray, List.set_cons_zero, List.set_cons_succ]))
        refine wpD_nil ?_
        go_wp2
        go_ret
        exact ⟨ret_int HR.out.symm, (hb2 _ _).trans (hE.mono (hb2 _ _).size)⟩
      · have HR : Hid (r = 23) := by
          show _ = _
          rw [HM]
          exact if_pos (Or.inr (Or.inl h3))
        have d1 : decide (f < 0) = false := decide_eq_false (by omega)
        have d2 : decide (t < f) = true := decide_eq_true (by omega)
        clear HM
        go_wp2_with fail
        refine wp_region_D [(0, true), (1, true), (2, true), (3, true), (4, true), (5, true), (6, true), (7, true), (8, true), (9, true), (10, true), (11, true), (12, true), (13, true), (14, true), (15, true), (16, true), (17, true), (18, true), (19, true)] (by kernel_rfl) (by kernel_rfl) (fun _ _ d _ _ h => by cases d <;> exact h) (fun w2 hE => ?_)
        simp only [pickE, List.getElem?_cons_zero, List.getElem?_cons_succ]
        repeat (first
          | (refine wpD_skip (by rfl) ?_; simp only [Act.put, List.setIfInBounds_toArray, List.set_cons_zero, List.set_cons_succ])
          | (refine wpD_pure (by rfl) (fun W hW => by (dsimp only [Exts] at hW; go_simp; with_reducible rfl)) ?_; simp only [Act.put, List.setIfInBounds_toArray, List.set_cons_zero, List.set_cons_succ]))
        refine wpD_nil ?_
        go_wp2
        go_ret
        exact ⟨ret_int HR.out.symm, (hb2 _ _).trans (hE.mono (hb2 _ _).size)⟩
      · have HR : Hid (r = 23) := by
          show _ = _
          rw [HM]
          exact if_pos (Or.inr (Or.inr (by simpa [memTop] using h4)))
        have d1 : decide (f < 0) = false := decide_eq_false (by omega)
        have d2 : decide (t < f) = false := decide_eq_false (by omega)
        have d3 : decide (1024 < t) = true := decide_eq_true (by omega)
        clear HM
        go_wp2_with fail
        refine wp_region_D [(0, true), (1, true), (2, true), (3, true), (4, true), (5, true), (6, true), (7, true), (8, true), (9, true), (10, true), (11, true), (12, true), (13, true), (14, true), (15, true), (16, true), (17, true), (18, true), (19, true)] (by kernel_rfl) (by kernel_rfl) (fun _ _ d _ _ h => by cases d <;> exact h) (fun w2 hE => ?_)
        simp only [pickE, List.getElem?_cons_zero, List.getElem?_cons_succ]
        repeat (first
          | (refine wpD_skip (by rfl) ?_; simp only [Act.put, List.setIfInBounds_toArray, List.set_cons_zero, List.set_cons_succ])
          | (refine wpD_pure (by rfl) (fun W hW => by (dsimp only [Exts] at hW; go_simp; with_reducible rfl)) ?_; simp only [Act.put, List.setIfInBounds_toArray, List.set_cons_zero, List.set_cons_succ]))
        refine wpD_nil ?_
        go_wp2
        go_ret
        exact ⟨ret_int HR.out.symm, (hb2 _ _).trans (hE.mono (hb2 _ _).size)⟩
      · have HR : Hid (r = 0) := by
          show _ = _
          rw [HM]
          exact if_neg (by simp [memTop]; omega)
        have d1 : decide (f < 0) = false := decide_eq_false (by omega)
        have d2 : decide (t < f) = false := decide_eq_false (by omega)
        have d3 : decide (1024 < t) = false := decide_eq_false (by omega)
        clear HM
        go_wp2_with fail
        refine wp_region_D [(0, true), (1, true), (2, true), (3, true), (4, true), (5, true), (6, true), (7, true), (8, true), (9, true), (10, true), (11, true), (12, true), (13, true), (14, true), (15, true), (16, true), (17, true), (18, true), (19, true)] (by kernel_rfl) (by kernel_rfl) (fun _ _ d _ _ h => by cases d <;> exact h) (fun w2 hE => ?_)
        simp only [pickE, List.getElem?_cons_zero, List.getElem?_cons_succ]
        repeat (first
          | (refine wpD_skip (by rfl) ?_; simp only [Act.put, List.setIfInBounds_toArray, List.set_cons_zero, List.set_cons_succ])
          | (refine wpD_pure (by rfl) (fun W hW => by (dsimp only [Exts] at hW; go_simp; with_reducible rfl)) ?_; simp only [Act.put, List.setIfInBounds_toArray, List.set_cons_zero, List.set_cons_succ]))
        refine wpD_nil ?_
        go_wp2
        go_ret
        exact ⟨ret_int HR.out.symm, (hb2 _ _).trans (hE.mono (hb2 _ _).size)⟩

end Go.Proofs.Yticfgkcdghbklaa
