/- The walks of few and of the example of region. -/
import Derived.Test.YticfgkcdghbklaaRegW
namespace Go.Proofs.Yticfgkcdghbklaa
open Go.RowKit

set_option maxHeartbeats 400000 in
theorem few_calls (A : Option Addr) (n c : Nat) (w : World) (hn : n ≤ c) (hc : c ≤ maxLen) :
    Calls Try.prog 18 #[.slice A n c] w fun e w' => e = .returned (.slice A (min n 40) c) ∧ w = w' := by
  unfold maxLen at hc
  rcases Nat.lt_or_ge 40 n with h | h
  · have h1 : (40 : Int) < (n : Int) := by omega
    have h2 : (40 : Int) ≤ (c : Int) := by omega
    go_enter Try.func18, Try.ntmps18
    go_wp2
    go_ret
    first | exact ⟨rfl, rfl⟩ | exact ⟨by rw [show min n 40 = 40 by omega]; rfl, rfl⟩
  · have h1 : ¬ (40 : Int) < (n : Int) := by omega
    go_enter Try.func18, Try.ntmps18
    go_wp2
    go_ret
    first | exact ⟨rfl, rfl⟩ | exact ⟨by rw [show min n 40 = n by omega]; rfl, rfl⟩

theorem Spans.first {w : World} {A : Option Addr} {n c : Nat} {l : List Sp} (h : Spans w (.slice A n c) l) {m : Nat} (hm : m ≤ l.length) : Spans w (.slice A m c) (l.take m) := by
  obtain ⟨A', c', e, h1, h2, h3, h4⟩ := h
  cases e
  have hl : (l.take m).length = m := by rw [List.length_take]; omega
  have hk : ∀ (l : List Sp) (m : Nat), (l.take m).flatMap Sp.cs = (l.flatMap Sp.cs).take (m * 4) := by
    intro l
    induction l with
    | nil => intro m; simp
    | cons s l ih =>
      intro m
      cases m with
      | zero => simp
      | succ m =>
        rw [List.take_succ_cons, List.flatMap_cons, List.flatMap_cons, ih, List.take_append]
        rw [List.take_of_length_le (l := s.cs) (by simp [Sp.cs]; omega)]
        congr 2
        simp [Sp.cs]; omega
  refine ⟨A, c, by rw [hl], by omega, h2, ?_, ?_⟩
  · rw [hk, List.length_take, h3, hl]; omega
  · rw [hk]; exact h4.take _

/-- A row of one span that has just been laid. -/
theorem one_span (w : World) (s : Sp) : Spans (w.alloc (.cells #[.int .i64 s.mem, .int .i64 s.frm, .int .i64 s.to, .bool s.wr] 31)) (.slice (some ⟨w.heap.size, 0, none⟩) 1 1) [s] :=
  row_new w _ _ 1 4 rfl (by decide)

set_option maxHeartbeats 800000 in
theorem engine3_calls (w : World) : Calls Try.prog 39 #[.agg #[.int .i64 3, .int .i64 0, .int .i64 0, .int .i64 0, .int .i64 0, .int .i64 0, .int .i64 0, .int .i64 0, .int .i64 0, .int .i64 0, .int .i64 0, .int .i64 0, .int .i64 0, .int .i64 0]] w
    fun e w' => e = .returned (.int .i64 1) ∧ Below w.heap.size w w' := by
  have hb1 : ∀ o, Below w.heap.size w (w.alloc o) := fun o => below_alloc (Below.refl _ _) (Nat.le_refl _) _
  go_enter Try.func39, Try.ntmps39
  go_wp2
  go_ret
  exact ⟨rfl, hb1 _⟩

set_option maxHeartbeats 800000 in
theorem shown12_calls (w : World) : Calls Try.prog 17 #[] w fun e w' => e = .returned (.bool true) ∧ Below w.heap.size w w' := by
  have hb1 : ∀ o, Below w.heap.size w (w.alloc o) := fun o => below_alloc (Below.refl _ _) (Nat.le_refl _) _
  have s1 := one_span w ⟨0, 0, 4, false⟩
  have s2 := one_span (w.alloc (.cells #[.int .i64 0, .int .i64 0, .int .i64 4, .bool false] 31)) ⟨0, 3, 5, true⟩
  rw [show (w.alloc (.cells #[.int .i64 0, .int .i64 0, .int .i64 4, .bool false] 31)).heap.size = w.heap.size + 1 from by simp] at s2
  have s1 := s1.below (below_alloc (Below.refl _ _) (Nat.le_refl _) (.cells #[.int .i64 0, .int .i64 3, .int .i64 5, .bool true] 31))
  have hb2 := below_alloc (hb1 (.cells #[.int .i64 0, .int .i64 0, .int .i64 4, .bool false] 31)) (by simp) (.cells #[.int .i64 0, .int .i64 3, .int .i64 5, .bool true] 31)
  go_enter Try.func17, Try.ntmps17
  go_wp2_with fail
  refine (clash_calls _ _ _ _ _ s1 s2).mono ?_
  rintro e w1 ⟨rfl, hE1⟩
  have s1 := s1.below hE1
  have hE1 := hb2.trans (hE1.mono hb2.size)
  rw [show clashB [⟨0, 0, 4, false⟩] [⟨0, 3, 5, true⟩] = true from by decide]
  go_wp2_with fail
  refine (clash_calls _ _ _ _ _ s1 s1).mono ?_
  rintro e w2 ⟨rfl, hE2⟩
  have hE2 := hE1.trans (hE2.mono hE1.size)
  rw [show clashB [⟨0, 0, 4, false⟩] [⟨0, 0, 4, false⟩] = false from by decide]
  go_wp2_with fail
  refine (engine3_calls _).mono ?_
  rintro e w3 ⟨rfl, hE3⟩
  have hE3 := hE2.trans (hE3.mono hE2.size)
  go_wp2_with fail
  go_ret
  exact ⟨rfl, hE3⟩

end Go.Proofs.Yticfgkcdghbklaa
