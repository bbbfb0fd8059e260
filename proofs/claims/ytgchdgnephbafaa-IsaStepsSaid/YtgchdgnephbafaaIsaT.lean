/- The walk of the law IsaSteps. -/
import Derived.Test.YtgchdgnephbafaaIsaS
import Derived.Test.YtgchdgnephbafaaIsaB
namespace Go.Proofs.Ytgchdgnephbafaa
open Go.RowKit

set_option maxHeartbeats 1600000 in
theorem isaSteps_calls (c : Cm) (w : World) : Calls Try.prog 5 #[c.v] w fun e w' => e = .returned (.bool true) ∧ Below w.heap.size w w' := by
  have hb0 := below_alloc (Below.refl w.heap.size w) (Nat.le_refl _) (.cells #[.int .i64 c.k, .int .i64 c.s, .int .i64 c.n, .int .i64 c.f, .int .i64 c.r, .int .i64 c.o, .int .i64 c.d, .int .i64 c.p, .int .i64 c.i0, .int .i64 c.i1, .int .i64 c.b0, .int .i64 c.b1, .int .i64 c.h0, .int .i64 c.h1] 26)
  have hbox := cbox_new w c
  have hrows := fun h => mayB_rows (c := c) h
  have hm := fun W => may_calls c W
  have hs := fun W => steps_calls c W
  have HS : Hid (stepsZ c = if 1 ≤ c.k ∧ c.k ≤ 4 then c.r else 1) := rfl
  unfold Cm.v at hm hs ⊢
  go_enter Try.func5, Try.ntmps5
  go_wp2_with fail
  generalize w.alloc _ = w0 at *
  have hlt := hbox.lt
  refine (shown08_calls w0).mono ?_
  rintro e w1 ⟨rfl, hb1⟩
  have hbox1 := hbox.below hb1 hlt
  have hb1 := hb0.trans (hb1.mono hb0.size)
  have hlt := hbox1.lt
  clear hbox hb0
  obtain ⟨y0, y1, y2, y3, y4, y5, y6, y7, y8, y9, y10, y11, y12, y13⟩ := hbox1.all
  go_wp2_with fail
  refine (hm w1).mono ?_
  rintro e w2 ⟨rfl, hb2⟩
  have hbox2 := hbox1.below hb2 hlt
  have hb2 := hb1.trans (hb2.mono hb1.size)
  clear y0 y1 y2 y3 y4 y5 y6 y7 y8 y9 y10 y11 y12 y13 hbox1 hb1
  cases hq : mayB c with
  | false =>
    have hme : mayE c = 1 := by unfold mayE; rw [hq]; rfl
    rw [hme]
    clear hme hq hrows
    go_wp2_with fail
    go_ret
    exact ⟨rfl, hb2⟩
  | true =>
    have hme : mayE c = 0 := by unfold mayE; rw [hq]; rfl
    have hr := hrows hq
    rw [hme]
    clear hme hq hrows
    obtain ⟨y0, y1, y2, y3, y4, y5, y6, y7, y8, y9, y10, y11, y12, y13⟩ := hbox2.all
    have hlt := hbox2.lt
    go_wp2_with fail
    refine (hs w2).mono ?_
    rintro e w3 ⟨rfl, hb3⟩
    have hbox3 := hbox2.below hb3 hlt
    have hb3 := hb2.trans (hb3.mono hb2.size)
    clear y0 y1 y2 y3 y4 y5 y6 y7 y8 y9 y10 y11 y12 y13 hbox2 hb2
    obtain ⟨y0, y1, y2, y3, y4, y5, y6, y7, y8, y9, y10, y11, y12, y13⟩ := hbox3.all
    clear y1 y2 y3 y5 y6 y7 y8 y9 y10 y11 y12 y13
    rcases hr with ⟨k1, k2, r1, r2⟩ | ⟨k1, k2⟩
    · have hz : stepsZ c = c.r := by rw [HS.out, if_pos ⟨k1, k2⟩]
      have n5 : ¬ c.k = 5 := by omega
      have n6 : ¬ c.k = 6 := by omega
      have n7 : ¬ c.k = 7 := by omega
      rw [hz]
      clear hz HS
      go_wp2_with fail
      go_ret
      exact ⟨rfl, hb3⟩
    · have hz : stepsZ c = 1 := by rw [HS.out, if_neg (by omega)]
      rw [hz]
      clear hz HS
      have hk : c.k = 5 ∨ c.k = 6 ∨ c.k = 7 := by omega
      rcases hk with hk | hk | hk
      all_goals
        rw [hk] at y0 ⊢
        go_wp2_with fail
        go_ret
        exact ⟨rfl, hb3⟩

end Go.Proofs.Ytgchdgnephbafaa
