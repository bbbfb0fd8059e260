/- The walks of Steps of package isa and of the reference, and of the statements' head. -/
import Derived.Test.YtgchdgnephbafaaIsaP
namespace Go.Proofs.Ytgchdgnephbafaa
open Go.RowKit

def stepsZ (c : Cm) : Int := if 1 ≤ c.k ∧ c.k ≤ 4 then c.r else 1

set_option maxHeartbeats 800000 in
theorem steps_calls (c : Cm) (w : World) : Calls Try.prog 15 #[c.v] w fun e w' => e = .returned (.int .i64 (stepsZ c)) ∧ Below w.heap.size w w' := by
  have hb := below_alloc (Below.refl w.heap.size w) (Nat.le_refl _) (.cells #[.int .i64 c.k, .int .i64 c.s, .int .i64 c.n, .int .i64 c.f, .int .i64 c.r, .int .i64 c.o, .int .i64 c.d, .int .i64 c.p, .int .i64 c.i0, .int .i64 c.i1, .int .i64 c.b0, .int .i64 c.b1, .int .i64 c.h0, .int .i64 c.h1] 26)
  have HS : Hid (stepsZ c = if 1 ≤ c.k ∧ c.k ≤ 4 then c.r else 1) := rfl
  generalize stepsZ c = z at *
  unfold Cm.v
  by_cases h1 : 1 ≤ c.k
  · by_cases h2 : c.k ≤ 4
    · go_enter Try.func15, Try.ntmps15
      go_wp2_with fail
      go_ret
      exact ⟨ret_int (by rw [HS.out, if_pos ⟨h1, h2⟩]), hb⟩
    · go_enter Try.func15, Try.ntmps15
      go_wp2_with fail
      go_ret
      exact ⟨ret_int (by rw [HS.out, if_neg (by omega)]), hb⟩
  · go_enter Try.func15, Try.ntmps15
    go_wp2_with fail
    go_ret
    exact ⟨ret_int (by rw [HS.out, if_neg (by omega)]), hb⟩

set_option maxHeartbeats 800000 in
theorem refSteps_calls (c : Cm) (w : World) : Calls Try.prog 16 #[c.v] w fun e w' => e = .returned (.int .i64 (stepsZ c)) ∧ Below w.heap.size w w' := by
  have hb := below_alloc (Below.refl w.heap.size w) (Nat.le_refl _) (.cells #[.int .i64 c.k, .int .i64 c.s, .int .i64 c.n, .int .i64 c.f, .int .i64 c.r, .int .i64 c.o, .int .i64 c.d, .int .i64 c.p, .int .i64 c.i0, .int .i64 c.i1, .int .i64 c.b0, .int .i64 c.b1, .int .i64 c.h0, .int .i64 c.h1] 26)
  have HS : Hid (stepsZ c = if 1 ≤ c.k ∧ c.k ≤ 4 then c.r else 1) := rfl
  generalize stepsZ c = z at *
  unfold Cm.v
  by_cases h1 : 1 ≤ c.k
  · by_cases h2 : c.k ≤ 4
    · go_enter Try.func16, Try.ntmps16
      go_wp2_with fail
      go_ret
      exact ⟨ret_int (by rw [HS.out, if_pos ⟨h1, h2⟩]), hb⟩
    · go_enter Try.func16, Try.ntmps16
      go_wp2_with fail
      go_ret
      exact ⟨ret_int (by rw [HS.out, if_neg (by omega)]), hb⟩
  · go_enter Try.func16, Try.ntmps16
    go_wp2_with fail
    go_ret
    exact ⟨ret_int (by rw [HS.out, if_neg (by omega)]), hb⟩

theorem put_shown : putErr [⟨5, 3, 0, 0, 0, 0, 0, 0, 0, 0, 0, 0, 0, 0⟩, Cm.of 7] = 0 ∧ putB [⟨5, 3, 0, 0, 0, 0, 0, 0, 0, 0, 0, 0, 0, 0⟩, Cm.of 7] = [0, 2, 5, 3, 7] := by decide

set_option maxHeartbeats 800000 in
theorem shown08_calls (w : World) : Calls Try.prog 9 #[] w fun e w' => e = .returned (.bool true) ∧ Below w.heap.size w w' := by
  have hrow : Cmds (w.alloc (.cells ([⟨5, 3, 0, 0, 0, 0, 0, 0, 0, 0, 0, 0, 0, 0⟩, Cm.of 7].flatMap Cm.cs).toArray 26)) (.slice (some ⟨w.heap.size, 0, none⟩) 2 2) [⟨5, 3, 0, 0, 0, 0, 0, 0, 0, 0, 0, 0, 0, 0⟩, Cm.of 7] := row_lit w _ _ 2 14 _ rfl rfl (by unfold maxLen; omega)
  have hb0 := below_alloc (Below.refl w.heap.size w) (Nat.le_refl _) (.cells ([⟨5, 3, 0, 0, 0, 0, 0, 0, 0, 0, 0, 0, 0, 0⟩, Cm.of 7].flatMap Cm.cs).toArray 26)
  have hput := put_calls _ _ _ hrow
  go_enter Try.func9, Try.ntmps9
  go_wp2_with fail
  refine hput.mono ?_
  rintro e w1 ⟨v1, rfl, hown, hb1⟩
  rw [put_shown.1]
  rw [put_shown.2] at hown
  have hb1 := hb0.trans (hb1.mono hb0.size)
  clear hput hrow hb0
  have c1 := conv_bytes (P := Try.prog) (ints_of_own hown) (src := 32) (e := 5) (dst := 9) Try.underlying32 Try.underlying5 Try.underlying9
  have hlit : Ints .u8 (w1.alloc (.cells #[.int .u8 0, .int .u8 2, .int .u8 5, .int .u8 3, .int .u8 7] 5)) (.slice (some ⟨w1.heap.size, 0, none⟩) 5 5) [0, 2, 5, 3, 7] := row_lit w1 _ _ 5 1 _ rfl rfl (by unfold maxLen; omega)
  have c2 := conv_bytes (P := Try.prog) hlit (src := 32) (e := 5) (dst := 9) Try.underlying32 Try.underlying5 Try.underlying9
  have hb2 := below_alloc hb1 hb1.size (.cells #[.int .u8 0, .int .u8 2, .int .u8 5, .int .u8 3, .int .u8 7] 5)
  clear hlit hown
  go_wp2_with fail
  go_ret
  exact ⟨rfl, hb2⟩

end Go.Proofs.Ytgchdgnephbafaa
