/- The reference of shapes, and small functions of the reference of graphs. -/
import Derived.Test.YtdhdbmfipkppiaaGre
namespace Go.Proofs.Ytdhdbmfipkppiaa
set_option linter.unusedSimpArgs false
set_option linter.unusedVariables false
set_option linter.unnecessarySimpa false
open Go.RowKit

theorem rMay_calls (s : Sz) (w : World) : Calls Try.prog 44 #[.agg #[.int .i64 s.h, .int .i64 s.w, .int .i64 s.c]] w fun e w' => e = .returned (.int .i64 (if s.ok then 0 else 10)) ∧ Ext w w' := by
  have HO : Hid (s.ok = (decide (1 ≤ s.h) && decide (s.h ≤ 16) && (decide (1 ≤ s.w) && decide (s.w ≤ 16)) && (decide (1 ≤ s.c) && decide (s.c ≤ 8)))) := rfl
  obtain ⟨m, hm⟩ : ∃ m : Int, (if s.ok = true then (0 : Int) else 10) = m := ⟨_, rfl⟩
  rw [hm]
  have HM := Lib.hid hm
  clear hm
  by_cases q0 : s.h < 1
  · have HC : Hid (m = 10) := by show _ = _; rw [← HM.out, if_neg]; rw [HO.out]; simp; omega
    go_enter Try.func44, Try.ntmps44
    go_wp2
    go_ret
    exact ⟨ret_int HC.out.symm, ext_alloc _ _⟩
  · by_cases q1 : 16 < s.h
    · have HC : Hid (m = 10) := by show _ = _; rw [← HM.out, if_neg]; rw [HO.out]; simp; omega
      go_enter Try.func44, Try.ntmps44
      go_wp2
      go_ret
      exact ⟨ret_int HC.out.symm, ext_alloc _ _⟩
    · by_cases q2 : s.w < 1
      · have HC : Hid (m = 10) := by show _ = _; rw [← HM.out, if_neg]; rw [HO.out]; simp; omega
        go_enter Try.func44, Try.ntmps44
        go_wp2
        go_ret
        exact ⟨ret_int HC.out.symm, ext_alloc _ _⟩
      · by_cases q3 : 16 < s.w
        · have HC : Hid (m = 10) := by show _ = _; rw [← HM.out, if_neg]; rw [HO.out]; simp; omega
          go_enter Try.func44, Try.ntmps44
          go_wp2
          go_ret
          exact ⟨ret_int HC.out.symm, ext_alloc _ _⟩
        · by_cases q4 : s.c < 1
          · have HC : Hid (m = 10) := by show _ = _; rw [← HM.out, if_neg]; rw [HO.out]; simp; omega
            go_enter Try.func44, Try.ntmps44
            go_wp2
            go_ret
            exact ⟨ret_int HC.out.symm, ext_alloc _ _⟩
          · by_cases q5 : 8 < s.c
            · have HC : Hid (m = 10) := by show _ = _; rw [← HM.out, if_neg]; rw [HO.out]; simp; omega
              go_enter Try.func44, Try.ntmps44
              go_wp2
              go_ret
              exact ⟨ret_int HC.out.symm, ext_alloc _ _⟩
            · have HC : Hid (m = 0) := by show _ = _; rw [← HM.out, if_pos]; rw [HO.out]; simp; omega
              go_enter Try.func44, Try.ntmps44
              go_wp2
              go_ret
              exact ⟨ret_int HC.out.symm, ext_alloc _ _⟩

theorem rSize_calls (s : Sz) (w : World) : Calls Try.prog 31 #[.agg #[.int .i64 s.h, .int .i64 s.w, .int .i64 s.c]] w fun e w' => e = .returned (.int .i64 (sizeZ s)) ∧ Ext w w' := by
  have hc := rMay_calls s (w.alloc (.cells #[.int .i64 s.h, .int .i64 s.w, .int .i64 s.c] 36))
  have hb := @Sz.bounds s
  have HR : Hid (sizeZ s = if s.ok then s.h * s.w * s.c else 0) := rfl
  have hE := ext_alloc w (.cells #[.int .i64 s.h, .int .i64 s.w, .int .i64 s.c] 36)
  have hx := Blk.new w #[.int .i64 s.h, .int .i64 s.w, .int .i64 s.c] 36
  have r1 := @row_range s
  obtain ⟨q, hq⟩ : ∃ q, s.ok = q := ⟨_, rfl⟩
  rw [hq] at hc hb r1
  have HQ := Lib.hid hq
  clear hq
  go_enter Try.func31, Try.ntmps31
  go_wp2_with fail
  generalize w.alloc _ = w1 at *
  refine hc.mono ?_
  rintro e w' ⟨rfl, h1⟩
  have x0 : w'.cell? ⟨w.heap.size, 0, none⟩ = some (.int .i64 s.h) := (hx.ext h1).cell 0
  have x1 : w'.cell? ⟨w.heap.size, 1, none⟩ = some (.int .i64 s.w) := (hx.ext h1).cell 1
  have x2 : w'.cell? ⟨w.heap.size, 2, none⟩ = some (.int .i64 s.c) := (hx.ext h1).cell 2
  cases q with
  | false =>
    clear hb r1
    go_wp2
    go_ret
    exact ⟨ret_int (by rw [HR.out, HQ.out]; rfl), hE.trans h1⟩
  | true =>
    obtain ⟨b1, b2, b3, b4, b5, b6⟩ := hb rfl
    have r2 := r1 rfl
    have r3 := mul_range b1 b2 b3 b4
    have r4 := mul_range r3.1 r3.2 b5 b6
    have m1 : IntKind.i64.wrap (s.h * s.w) = s.h * s.w := IntWalk.i64_in _ (by omega)
    have m2 : IntKind.i64.wrap (s.h * s.w * s.c) = s.h * s.w * s.c := IntWalk.i64_in _ (by omega)
    have m3 : IntKind.i64.wrap (s.w * s.c) = s.w * s.c := IntWalk.i64_in _ (by omega)
    obtain ⟨x, hx⟩ : ∃ x, s.h * s.w = x := ⟨_, rfl⟩
    rw [hx] at m1 m2
    obtain ⟨y, hy⟩ : ∃ y, x * s.c = y := ⟨_, rfl⟩
    rw [hy] at m2
    obtain ⟨z, hz⟩ : ∃ z, s.w * s.c = z := ⟨_, rfl⟩
    rw [hz] at m3
    have m1' : IntKind.i64.wrap (s.h * s.w) = x := by rw [hx, m1]
    have m2' : IntKind.i64.wrap (x * s.c) = y := by rw [hy, m2]
    have m3' : IntKind.i64.wrap (s.w * s.c) = z := by rw [hz, m3]
    have HX := Lib.hid hx
    have HY := Lib.hid hy
    have HZ := Lib.hid hz
    clear m1 m2 m3 hx hy hz hb r1 r2 r3 r4 b1 b2 b3 b4 b5 b6
    go_wp2
    go_ret
    exact ⟨ret_int (by rw [HR.out, HQ.out, if_pos rfl]; first | rw [HX.out, HY.out] | rw [HZ.out]), hE.trans h1⟩

theorem rRow_calls (s : Sz) (w : World) : Calls Try.prog 32 #[.agg #[.int .i64 s.h, .int .i64 s.w, .int .i64 s.c]] w fun e w' => e = .returned (.int .i64 (rowZ s)) ∧ Ext w w' := by
  have hc := rMay_calls s (w.alloc (.cells #[.int .i64 s.h, .int .i64 s.w, .int .i64 s.c] 36))
  have hb := @Sz.bounds s
  have HR : Hid (rowZ s = if s.ok then s.w * s.c else 0) := rfl
  have hE := ext_alloc w (.cells #[.int .i64 s.h, .int .i64 s.w, .int .i64 s.c] 36)
  have hx := Blk.new w #[.int .i64 s.h, .int .i64 s.w, .int .i64 s.c] 36
  have r1 := @row_range s
  obtain ⟨q, hq⟩ : ∃ q, s.ok = q := ⟨_, rfl⟩
  rw [hq] at hc hb r1
  have HQ := Lib.hid hq
  clear hq
  go_enter Try.func32, Try.ntmps32
  go_wp2_with fail
  generalize w.alloc _ = w1 at *
  refine hc.mono ?_
  rintro e w' ⟨rfl, h1⟩
  have x0 : w'.cell? ⟨w.heap.size, 0, none⟩ = some (.int .i64 s.h) := (hx.ext h1).cell 0
  have x1 : w'.cell? ⟨w.heap.size, 1, none⟩ = some (.int .i64 s.w) := (hx.ext h1).cell 1
  have x2 : w'.cell? ⟨w.heap.size, 2, none⟩ = some (.int .i64 s.c) := (hx.ext h1).cell 2
  cases q with
  | false =>
    clear hb r1
    go_wp2
    go_ret
    exact ⟨ret_int (by rw [HR.out, HQ.out]; rfl), hE.trans h1⟩
  | true =>
    obtain ⟨b1, b2, b3, b4, b5, b6⟩ := hb rfl
    have r2 := r1 rfl
    have r3 := mul_range b1 b2 b3 b4
    have r4 := mul_range r3.1 r3.2 b5 b6
    have m1 : IntKind.i64.wrap (s.h * s.w) = s.h * s.w := IntWalk.i64_in _ (by omega)
    have m2 : IntKind.i64.wrap (s.h * s.w * s.c) = s.h * s.w * s.c := IntWalk.i64_in _ (by omega)
    have m3 : IntKind.i64.wrap (s.w * s.c) = s.w * s.c := IntWalk.i64_in _ (by omega)
    obtain ⟨x, hx⟩ : ∃ x, s.h * s.w = x := ⟨_, rfl⟩
    rw [hx] at m1 m2
    obtain ⟨y, hy⟩ : ∃ y, x * s.c = y := ⟨_, rfl⟩
    rw [hy] at m2
    obtain ⟨z, hz⟩ : ∃ z, s.w * s.c = z := ⟨_, rfl⟩
    rw [hz] at m3
    have m1' : IntKind.i64.wrap (s.h * s.w) = x := by rw [hx, m1]
    have m2' : IntKind.i64.wrap (x * s.c) = y := by rw [hy, m2]
    have m3' : IntKind.i64.wrap (s.w * s.c) = z := by rw [hz, m3]
    have HX := Lib.hid hx
    have HY := Lib.hid hy
    have HZ := Lib.hid hz
    clear m1 m2 m3 hx hy hz hb r1 r2 r3 r4 b1 b2 b3 b4 b5 b6
    go_wp2
    go_ret
    exact ⟨ret_int (by rw [HR.out, HQ.out, if_pos rfl]; first | rw [HX.out, HY.out] | rw [HZ.out]), hE.trans h1⟩

theorem rin_calls (x lo hi : Int) (w : World) : Calls Try.prog 45 #[.int .i64 x, .int .i64 lo, .int .i64 hi] w fun e w' => e = .returned (.bool (inB lo hi x)) ∧ w = w' := by
  by_cases h1 : lo ≤ x
  · by_cases h2 : x ≤ hi
    · have HI : Hid (inB lo hi x = true) := by show _ = _; simp [inB, h1, h2]
      go_enter Try.func45, Try.ntmps45
      go_wp2
      go_ret
      exact ⟨ret_bool (by rw [HI.out]), rfl⟩
    · have HI : Hid (inB lo hi x = false) := by show _ = _; simp [inB, h2]
      go_enter Try.func45, Try.ntmps45
      go_wp2
      go_ret
      exact ⟨ret_bool (by rw [HI.out]), rfl⟩
  · have HI : Hid (inB lo hi x = false) := by show _ = _; simp [inB, h1]
    go_enter Try.func45, Try.ntmps45
    go_wp2
    go_ret
    exact ⟨ret_bool (by rw [HI.out]), rfl⟩

def twoB (op : Int) : Bool := decide (op = 6) || decide (op = 7) || decide (op = 10)
def windowB (op : Int) : Bool := decide (1 ≤ op) && decide (op ≤ 5) && !decide (op = 3)
def keepsB (op : Int) : Bool := decide (op = 4) || decide (op = 5) || decide (op = 8) || decide (op = 9) || decide (op = 10) || decide (op = 11)

set_option maxHeartbeats 1600000 in
theorem rtwo_calls (op : Int) (w : World) : Calls Try.prog 119 #[.int .i64 op] w fun e w' => e = .returned (.bool (twoB op)) ∧ w = w' := by
  by_cases hop : 1 ≤ op ∧ op ≤ 12
  · rcases (by omega : op = 1 ∨ op = 2 ∨ op = 3 ∨ op = 4 ∨ op = 5 ∨ op = 6 ∨ op = 7 ∨ op = 8 ∨ op = 9 ∨ op = 10 ∨ op = 11 ∨ op = 12) with rfl | rfl | rfl | rfl | rfl | rfl | rfl | rfl | rfl | rfl | rfl | rfl
    all_goals
      clear hop
      go_enter Try.func119, Try.ntmps119
      go_wp2
      go_ret
      exact ⟨rfl, rfl⟩
  · have HI : Hid (twoB op = false) := by show _ = _; simp [twoB]; omega
    have t0 : op < 1 ∨ 12 < op := by omega
    have n1 : ∀ k : Int, 1 ≤ k → k ≤ 12 → (op == k) = false := fun k h1 h2 => by rw [beq_eq_false_iff_ne]; omega
    have e1 := n1 1 (by decide) (by decide)
    have e2 := n1 2 (by decide) (by decide)
    have e3 := n1 3 (by decide) (by decide)
    have e4 := n1 4 (by decide) (by decide)
    have e5 := n1 5 (by decide) (by decide)
    have e6 := n1 6 (by decide) (by decide)
    have e7 := n1 7 (by decide) (by decide)
    have e8 := n1 8 (by decide) (by decide)
    have e9 := n1 9 (by decide) (by decide)
    have e10 := n1 10 (by decide) (by decide)
    have e11 := n1 11 (by decide) (by decide)
    have e12 := n1 12 (by decide) (by decide)
    clear n1 hop
    rcases t0 with t0 | t0
    all_goals
      go_enter Try.func119, Try.ntmps119
      go_wp2
      go_ret
      exact ⟨ret_bool (by rw [HI.out]), rfl⟩

set_option maxHeartbeats 1600000 in
theorem rwindow_calls (op : Int) (w : World) : Calls Try.prog 120 #[.int .i64 op] w fun e w' => e = .returned (.bool (windowB op)) ∧ w = w' := by
  by_cases hop : 1 ≤ op ∧ op ≤ 12
  · rcases (by omega : op = 1 ∨ op = 2 ∨ op = 3 ∨ op = 4 ∨ op = 5 ∨ op = 6 ∨ op = 7 ∨ op = 8 ∨ op = 9 ∨ op = 10 ∨ op = 11 ∨ op = 12) with rfl | rfl | rfl | rfl | rfl | rfl | rfl | rfl | rfl | rfl | rfl | rfl
    all_goals
      clear hop
      go_enter Try.func120, Try.ntmps120
      go_wp2
      go_ret
      exact ⟨rfl, rfl⟩
  · have HI : Hid (windowB op = false) := by show _ = _; simp [windowB]; omega
    have t0 : op < 1 ∨ 12 < op := by omega
    have n1 : ∀ k : Int, 1 ≤ k → k ≤ 12 → (op == k) = false := fun k h1 h2 => by rw [beq_eq_false_iff_ne]; omega
    have e1 := n1 1 (by decide) (by decide)
    have e2 := n1 2 (by decide) (by decide)
    have e3 := n1 3 (by decide) (by decide)
    have e4 := n1 4 (by decide) (by decide)
    have e5 := n1 5 (by decide) (by decide)
    have e6 := n1 6 (by decide) (by decide)
    have e7 := n1 7 (by decide) (by decide)
    have e8 := n1 8 (by decide) (by decide)
    have e9 := n1 9 (by decide) (by decide)
    have e10 := n1 10 (by decide) (by decide)
    have e11 := n1 11 (by decide) (by decide)
    have e12 := n1 12 (by decide) (by decide)
    clear n1 hop
    rcases t0 with t0 | t0
    all_goals
      go_enter Try.func120, Try.ntmps120
      go_wp2
      go_ret
      exact ⟨ret_bool (by rw [HI.out]), rfl⟩

set_option maxHeartbeats 1600000 in
theorem rkeeps_calls (op : Int) (w : World) : Calls Try.prog 88 #[.int .i64 op] w fun e w' => e = .returned (.bool (keepsB op)) ∧ w = w' := by
  by_cases hop : 1 ≤ op ∧ op ≤ 12
  · rcases (by omega : op = 1 ∨ op = 2 ∨ op = 3 ∨ op = 4 ∨ op = 5 ∨ op = 6 ∨ op = 7 ∨ op = 8 ∨ op = 9 ∨ op = 10 ∨ op = 11 ∨ op = 12) with rfl | rfl | rfl | rfl | rfl | rfl | rfl | rfl | rfl | rfl | rfl | rfl
    all_goals
      clear hop
      go_enter Try.func88, Try.ntmps88
      go_wp2
      go_ret
      exact ⟨rfl, rfl⟩
  · have HI : Hid (keepsB op = false) := by show _ = _; simp [keepsB]; omega
    have t0 : op < 1 ∨ 12 < op := by omega
    have n1 : ∀ k : Int, 1 ≤ k → k ≤ 12 → (op == k) = false := fun k h1 h2 => by rw [beq_eq_false_iff_ne]; omega
    have e1 := n1 1 (by decide) (by decide)
    have e2 := n1 2 (by decide) (by decide)
    have e3 := n1 3 (by decide) (by decide)
    have e4 := n1 4 (by decide) (by decide)
    have e5 := n1 5 (by decide) (by decide)
    have e6 := n1 6 (by decide) (by decide)
    have e7 := n1 7 (by decide) (by decide)
    have e8 := n1 8 (by decide) (by decide)
    have e9 := n1 9 (by decide) (by decide)
    have e10 := n1 10 (by decide) (by decide)
    have e11 := n1 11 (by decide) (by decide)
    have e12 := n1 12 (by decide) (by decide)
    clear n1 hop
    rcases t0 with t0 | t0
    all_goals
      go_enter Try.func88, Try.ntmps88
      go_wp2
      go_ret
      exact ⟨ret_bool (by rw [HI.out]), rfl⟩

end Go.Proofs.Ytdhdbmfipkppiaa
