/- The reference of shapes, and small functions of the reference of graphs. -/
/- The reference of shape.Out: place by place. -/
/- The reference of whether a node may be. -/
import Derived.Test.YtmddlhfahfelpaaGre
import Derived.Test.YtmddlhfahfelpaaGrg
import Derived.Deep.Cut
import Derived.Deep.CutBlock
import Derived.Deep.DeepCutAuto
set_option linter.unusedSimpArgs false
set_option linter.unusedVariables false
set_option linter.unnecessarySimpa false
namespace Go.Proofs.Ytmddlhfahfelpaa
open Go.RowKit

theorem rMay_calls (s : Sz) (w : World) : Calls Try.prog 57 #[.agg #[.int .i64 s.h, .int .i64 s.w, .int .i64 s.c]] w fun e w' => e = .returned (.int .i64 (if s.ok then 0 else 10)) ∧ Ext w w' := by
  have HO : Hid (s.ok = (decide (1 ≤ s.h) && decide (s.h ≤ 16) && (decide (1 ≤ s.w) && decide (s.w ≤ 16)) && (decide (1 ≤ s.c) && decide (s.c ≤ 8)))) := rfl
  obtain ⟨m, hm⟩ : ∃ m : Int, (if s.ok = true then (0 : Int) else 10) = m := ⟨_, rfl⟩
  rw [hm]
  have HM := Lib.hid hm
  clear hm
  by_cases q0 : s.h < 1
  · have HC : Hid (m = 10) := by show _ = _; rw [← HM.out, if_neg]; rw [HO.out]; simp; omega
    go_enter Try.func57, Try.ntmps57
    go_wp2
    go_ret
    exact ⟨ret_int HC.out.symm, ext_alloc _ _⟩
  · by_cases q1 : 16 < s.h
    · have HC : Hid (m = 10) := by show _ = _; rw [← HM.out, if_neg]; rw [HO.out]; simp; omega
      go_enter Try.func57, Try.ntmps57
      go_wp2
      go_ret
      exact ⟨ret_int HC.out.symm, ext_alloc _ _⟩
    · by_cases q2 : s.w < 1
      · have HC : Hid (m = 10) := by show _ = _; rw [← HM.out, if_neg]; rw [HO.out]; simp; omega
        go_enter Try.func57, Try.ntmps57
        go_wp2
        go_ret
        exact ⟨ret_int HC.out.symm, ext_alloc _ _⟩
      · by_cases q3 : 16 < s.w
        · have HC : Hid (m = 10) := by show _ = _; rw [← HM.out, if_neg]; rw [HO.out]; simp; omega
          go_enter Try.func57, Try.ntmps57
          go_wp2
          go_ret
          exact ⟨ret_int HC.out.symm, ext_alloc _ _⟩
        · by_cases q4 : s.c < 1
          · have HC : Hid (m = 10) := by show _ = _; rw [← HM.out, if_neg]; rw [HO.out]; simp; omega
            go_enter Try.func57, Try.ntmps57
            go_wp2
            go_ret
            exact ⟨ret_int HC.out.symm, ext_alloc _ _⟩
          · by_cases q5 : 8 < s.c
            · have HC : Hid (m = 10) := by show _ = _; rw [← HM.out, if_neg]; rw [HO.out]; simp; omega
              go_enter Try.func57, Try.ntmps57
              go_wp2
              go_ret
              exact ⟨ret_int HC.out.symm, ext_alloc _ _⟩
            · have HC : Hid (m = 0) := by show _ = _; rw [← HM.out, if_pos]; rw [HO.out]; simp; omega
              go_enter Try.func57, Try.ntmps57
              go_wp2
              go_ret
              exact ⟨ret_int HC.out.symm, ext_alloc _ _⟩

theorem rSize_calls (s : Sz) (w : World) : Calls Try.prog 43 #[.agg #[.int .i64 s.h, .int .i64 s.w, .int .i64 s.c]] w fun e w' => e = .returned (.int .i64 (sizeZ s)) ∧ Ext w w' := by
  have hc := rMay_calls s (w.alloc (.cells #[.int .i64 s.h, .int .i64 s.w, .int .i64 s.c] 42))
  have hb := @Sz.bounds s
  have HR : Hid (sizeZ s = if s.ok then s.h * s.w * s.c else 0) := rfl
  have hE := ext_alloc w (.cells #[.int .i64 s.h, .int .i64 s.w, .int .i64 s.c] 42)
  have hx := Blk.new w #[.int .i64 s.h, .int .i64 s.w, .int .i64 s.c] 42
  have r1 := @row_range s
  obtain ⟨q, hq⟩ : ∃ q, s.ok = q := ⟨_, rfl⟩
  rw [hq] at hc hb r1
  have HQ := Lib.hid hq
  clear hq
  go_enter Try.func43, Try.ntmps43
  go_wp2_with fail
  generalize w.alloc _ = w1 at *
  refine hc.mono ?_
  rintro e w' ⟨rfl, h1⟩
  have x0 : w'.cell? ⟨w.heap.size, 0, none⟩ = some (.int .i64 s.h) := (hx.ext h1).cell 0
  have x1 : w'.cell? ⟨w.heap.size, 1, none⟩ = some (.int .i64 s.w) := (hx.ext h1).cell 1
  have x2 : w'.cell? ⟨w.heap.size, 2, none⟩ = some (.int .i64 s.c) := (hx.ext h1).cell 2
  cases q with
  | false =>
    clear hb r1
    go_wp2
    go_ret
    exact ⟨ret_int (by rw [HR.out, HQ.out]; rfl), hE.trans h1⟩
  | true =>
    obtain ⟨b1, b2, b3, b4, b5, b6⟩ := hb rfl
    have r2 := r1 rfl
    have r3 := mul_range b1 b2 b3 b4
    have r4 := mul_range r3.1 r3.2 b5 b6
    have m1 : IntKind.i64.wrap (s.h * s.w) = s.h * s.w := IntWalk.i64_in _ (by omega)
    have m2 : IntKind.i64.wrap (s.h * s.w * s.c) = s.h * s.w * s.c := IntWalk.i64_in _ (by omega)
    have m3 : IntKind.i64.wrap (s.w * s.c) = s.w * s.c := IntWalk.i64_in _ (by omega)
    obtain ⟨x, hx⟩ : ∃ x, s.h * s.w = x := ⟨_, rfl⟩
    rw [hx] at m1 m2
    obtain ⟨y, hy⟩ : ∃ y, x * s.c = y := ⟨_, rfl⟩
    rw [hy] at m2
    obtain ⟨z, hz⟩ : ∃ z, s.w * s.c = z := ⟨_, rfl⟩
    rw [hz] at m3
    have m1' : IntKind.i64.wrap (s.h * s.w) = x := by rw [hx, m1]
    have m2' : IntKind.i64.wrap (x * s.c) = y := by rw [hy, m2]
    have m3' : IntKind.i64.wrap (s.w * s.c) = z := by rw [hz, m3]
    have HX := Lib.hid hx
    have HY := Lib.hid hy
    have HZ := Lib.hid hz
    clear m1 m2 m3 hx hy hz hb r1 r2 r3 r4 b1 b2 b3 b4 b5 b6
    go_wp2
    go_ret
    exact ⟨ret_int (by rw [HR.out, HQ.out, if_pos rfl]; first | rw [HX.out, HY.out] | rw [HZ.out]), hE.trans h1⟩

theorem rRow_calls (s : Sz) (w : World) : Calls Try.prog 48 #[.agg #[.int .i64 s.h, .int .i64 s.w, .int .i64 s.c]] w fun e w' => e = .returned (.int .i64 (rowZ s)) ∧ Ext w w' := by
  have hc := rMay_calls s (w.alloc (.cells #[.int .i64 s.h, .int .i64 s.w, .int .i64 s.c] 42))
  have hb := @Sz.bounds s
  have HR : Hid (rowZ s = if s.ok then s.w * s.c else 0) := rfl
  have hE := ext_alloc w (.cells #[.int .i64 s.h, .int .i64 s.w, .int .i64 s.c] 42)
  have hx := Blk.new w #[.int .i64 s.h, .int .i64 s.w, .int .i64 s.c] 42
  have r1 := @row_range s
  obtain ⟨q, hq⟩ : ∃ q, s.ok = q := ⟨_, rfl⟩
  rw [hq] at hc hb r1
  have HQ := Lib.hid hq
  clear hq
  go_enter Try.func48, Try.ntmps48
  go_wp2_with fail
  generalize w.alloc _ = w1 at *
  refine hc.mono ?_
  rintro e w' ⟨rfl, h1⟩
  have x0 : w'.cell? ⟨w.heap.size, 0, none⟩ = some (.int .i64 s.h) := (hx.ext h1).cell 0
  have x1 : w'.cell? ⟨w.heap.size, 1, none⟩ = some (.int .i64 s.w) := (hx.ext h1).cell 1
  have x2 : w'.cell? ⟨w.heap.size, 2, none⟩ = some (.int .i64 s.c) := (hx.ext h1).cell 2
  cases q with
  | false =>
    clear hb r1
    go_wp2
    go_ret
    exact ⟨ret_int (by rw [HR.out, HQ.out]; rfl), hE.trans h1⟩
  | true =>
    obtain ⟨b1, b2, b3, b4, b5, b6⟩ := hb rfl
    have r2 := r1 rfl
    have r3 := mul_range b1 b2 b3 b4
    have r4 := mul_range r3.1 r3.2 b5 b6
    have m1 : IntKind.i64.wrap (s.h * s.w) = s.h * s.w := IntWalk.i64_in _ (by omega)
    have m2 : IntKind.i64.wrap (s.h * s.w * s.c) = s.h * s.w * s.c := IntWalk.i64_in _ (by omega)
    have m3 : IntKind.i64.wrap (s.w * s.c) = s.w * s.c := IntWalk.i64_in _ (by omega)
    obtain ⟨x, hx⟩ : ∃ x, s.h * s.w = x := ⟨_, rfl⟩
    rw [hx] at m1 m2
    obtain ⟨y, hy⟩ : ∃ y, x * s.c = y := ⟨_, rfl⟩
    rw [hy] at m2
    obtain ⟨z, hz⟩ : ∃ z, s.w * s.c = z := ⟨_, rfl⟩
    rw [hz] at m3
    have m1' : IntKind.i64.wrap (s.h * s.w) = x := by rw [hx, m1]
    have m2' : IntKind.i64.wrap (x * s.c) = y := by rw [hy, m2]
    have m3' : IntKind.i64.wrap (s.w * s.c) = z := by rw [hz, m3]
    have HX := Lib.hid hx
    have HY := Lib.hid hy
    have HZ := Lib.hid hz
    clear m1 m2 m3 hx hy hz hb r1 r2 r3 r4 b1 b2 b3 b4 b5 b6
    go_wp2
    go_ret
    exact ⟨ret_int (by rw [HR.out, HQ.out, if_pos rfl]; first | rw [HX.out, HY.out] | rw [HZ.out]), hE.trans h1⟩

theorem rin_calls (x lo hi : Int) (w : World) : Calls Try.prog 58 #[.int .i64 x, .int .i64 lo, .int .i64 hi] w fun e w' => e = .returned (.bool (inB lo hi x)) ∧ w = w' := by
  by_cases h1 : lo ≤ x
  · by_cases h2 : x ≤ hi
    · have HI : Hid (inB lo hi x = true) := by show _ = _; simp [inB, h1, h2]
      go_enter Try.func58, Try.ntmps58
      go_wp2
      go_ret
      exact ⟨ret_bool (by rw [HI.out]), rfl⟩
    · have HI : Hid (inB lo hi x = false) := by show _ = _; simp [inB, h2]
      go_enter Try.func58, Try.ntmps58
      go_wp2
      go_ret
      exact ⟨ret_bool (by rw [HI.out]), rfl⟩
  · have HI : Hid (inB lo hi x = false) := by show _ = _; simp [inB, h1]
    go_enter Try.func58, Try.ntmps58
    go_wp2
    go_ret
    exact ⟨ret_bool (by rw [HI.out]), rfl⟩

def twoB (op : Int) : Bool := decide (op = 6) || decide (op = 7) || decide (op = 10)
def windowB (op : Int) : Bool := decide (1 ≤ op) && decide (op ≤ 5) && !decide (op = 3)
def keepsB (op : Int) : Bool := decide (op = 4) || decide (op = 5) || decide (op = 8) || decide (op = 9) || decide (op = 10) || decide (op = 11)

set_option maxHeartbeats 1600000 in
theorem rtwo_calls (op : Int) (w : World) : Calls Try.prog 95 #[.int .i64 op] w fun e w' => e = .returned (.bool (twoB op)) ∧ w = w' := by
  by_cases hop : 1 ≤ op ∧ op ≤ 12
  · rcases (by omega : op = 1 ∨ op = 2 ∨ op = 3 ∨ op = 4 ∨ op = 5 ∨ op = 6 ∨ op = 7 ∨ op = 8 ∨ op = 9 ∨ op = 10 ∨ op = 11 ∨ op = 12) with rfl | rfl | rfl | rfl | rfl | rfl | rfl | rfl | rfl | rfl | rfl | rfl
    all_goals
      clear hop
      go_enter Try.func95, Try.ntmps95
      go_wp2
      go_ret
      exact ⟨rfl, rfl⟩
  · have HI : Hid (twoB op = false) := by show _ = _; simp [twoB]; omega
    have t0 : op < 1 ∨ 12 < op := by omega
    have n1 : ∀ k : Int, 1 ≤ k → k ≤ 12 → (op == k) = false := fun k h1 h2 => by rw [beq_eq_false_iff_ne]; omega
    have e1 := n1 1 (by decide) (by decide)
    have e2 := n1 2 (by decide) (by decide)
    have e3 := n1 3 (by decide) (by decide)
    have e4 := n1 4 (by decide) (by decide)
    have e5 := n1 5 (by decide) (by decide)
    have e6 := n1 6 (by decide) (by decide)
    have e7 := n1 7 (by decide) (by decide)
    have e8 := n1 8 (by decide) (by decide)
    have e9 := n1 9 (by decide) (by decide)
    have e10 := n1 10 (by decide) (by decide)
    have e11 := n1 11 (by decide) (by decide)
    have e12 := n1 12 (by decide) (by decide)
    clear n1 hop
    rcases t0 with t0 | t0
    all_goals
      go_enter Try.func95, Try.ntmps95
      go_wp2
      go_ret
      exact ⟨ret_bool (by rw [HI.out]), rfl⟩

set_option maxHeartbeats 1600000 in
theorem rwindow_calls (op : Int) (w : World) : Calls Try.prog 96 #[.int .i64 op] w fun e w' => e = .returned (.bool (windowB op)) ∧ w = w' := by
  by_cases hop : 1 ≤ op ∧ op ≤ 12
  · rcases (by omega : op = 1 ∨ op = 2 ∨ op = 3 ∨ op = 4 ∨ op = 5 ∨ op = 6 ∨ op = 7 ∨ op = 8 ∨ op = 9 ∨ op = 10 ∨ op = 11 ∨ op = 12) with rfl | rfl | rfl | rfl | rfl | rfl | rfl | rfl | rfl | rfl | rfl | rfl
    all_goals
      clear hop
      go_enter Try.func96, Try.ntmps96
      go_wp2
      go_ret
      exact ⟨rfl, rfl⟩
  · have HI : Hid (windowB op = false) := by show _ = _; simp [windowB]; omega
    have t0 : op < 1 ∨ 12 < op := by omega
    have n1 : ∀ k : Int, 1 ≤ k → k ≤ 12 → (op == k) = false := fun k h1 h2 => by rw [beq_eq_false_iff_ne]; omega
    have e1 := n1 1 (by decide) (by decide)
    have e2 := n1 2 (by decide) (by decide)
    have e3 := n1 3 (by decide) (by decide)
    have e4 := n1 4 (by decide) (by decide)
    have e5 := n1 5 (by decide) (by decide)
    have e6 := n1 6 (by decide) (by decide)
    have e7 := n1 7 (by decide) (by decide)
    have e8 := n1 8 (by decide) (by decide)
    have e9 := n1 9 (by decide) (by decide)
    have e10 := n1 10 (by decide) (by decide)
    have e11 := n1 11 (by decide) (by decide)
    have e12 := n1 12 (by decide) (by decide)
    clear n1 hop
    rcases t0 with t0 | t0
    all_goals
      go_enter Try.func96, Try.ntmps96
      go_wp2
      go_ret
      exact ⟨ret_bool (by rw [HI.out]), rfl⟩

set_option maxHeartbeats 1600000 in
theorem rkeeps_calls (op : Int) (w : World) : Calls Try.prog 75 #[.int .i64 op] w fun e w' => e = .returned (.bool (keepsB op)) ∧ w = w' := by
  by_cases hop : 1 ≤ op ∧ op ≤ 12
  · rcases (by omega : op = 1 ∨ op = 2 ∨ op = 3 ∨ op = 4 ∨ op = 5 ∨ op = 6 ∨ op = 7 ∨ op = 8 ∨ op = 9 ∨ op = 10 ∨ op = 11 ∨ op = 12) with rfl | rfl | rfl | rfl | rfl | rfl | rfl | rfl | rfl | rfl | rfl | rfl
    all_goals
      clear hop
      go_enter Try.func75, Try.ntmps75
      go_wp2
      go_ret
      exact ⟨rfl, rfl⟩
  · have HI : Hid (keepsB op = false) := by show _ = _; simp [keepsB]; omega
    have t0 : op < 1 ∨ 12 < op := by omega
    have n1 : ∀ k : Int, 1 ≤ k → k ≤ 12 → (op == k) = false := fun k h1 h2 => by rw [beq_eq_false_iff_ne]; omega
    have e1 := n1 1 (by decide) (by decide)
    have e2 := n1 2 (by decide) (by decide)
    have e3 := n1 3 (by decide) (by decide)
    have e4 := n1 4 (by decide) (by decide)
    have e5 := n1 5 (by decide) (by decide)
    have e6 := n1 6 (by decide) (by decide)
    have e7 := n1 7 (by decide) (by decide)
    have e8 := n1 8 (by decide) (by decide)
    have e9 := n1 9 (by decide) (by decide)
    have e10 := n1 10 (by decide) (by decide)
    have e11 := n1 11 (by decide) (by decide)
    have e12 := n1 12 (by decide) (by decide)
    clear n1 hop
    rcases t0 with t0 | t0
    all_goals
      go_enter Try.func75, Try.ntmps75
      go_wp2
      go_ret
      exact ⟨ret_bool (by rw [HI.out]), rfl⟩

end Go.Proofs.Ytmddlhfahfelpaa

namespace Go.Proofs.Ytmddlhfahfelpaa
open Go.RowKit

theorem out_count {D st : Int} {j : Nat} (hst : 1 ≤ st) (h : D < j * st) (hp : j = 0 ∨ ((j : Int) - 1) * st ≤ D) : (j : Int) = if 0 ≤ D then 1 + D / st else 0 := by
  rcases Nat.eq_zero_or_pos j with h0 | h0
  · subst h0
    simp only [Int.ofNat_zero, Int.zero_mul, Int.natCast_zero] at h ⊢
    rw [if_neg (by omega)]
  · have hp1 : ((j : Int) - 1) * st ≤ D := hp.resolve_left (by omega)
    have hD : 0 ≤ D := Int.le_trans (Int.mul_nonneg (by omega) (by omega)) hp1
    rw [if_pos hD]
    have e1 : (j : Int) - 1 ≤ D / st := (Int.le_ediv_iff_mul_le (by omega)).2 hp1
    have e2 : D / st < j := (Int.ediv_lt_iff_lt_mul (by omega)).2 h
    omega

set_option maxHeartbeats 1600000 in
theorem rOut_calls (size k st pad : Int) (w : World) (hpk : InK .i64 pad) : Calls Try.prog 97 #[.int .i64 size, .int .i64 k, .int .i64 st, .int .i64 pad] w fun e w' => e = .returned (.int .i64 (outZ size k st pad)) ∧ w = w' := by
  have HO : Hid (outZ size k st pad = if outOk size k st pad then 1 + (size + 2 * pad - k) / st else 0) := rfl
  have HB : Hid (outOk size k st pad = (inB 1 64 size && (inB 1 16 k && inB 1 16 st) && inB 0 16 pad && decide (k ≤ size + 2 * pad))) := rfl
  obtain ⟨hp1, hp2⟩ := hpk
  obtain ⟨oz, hoz⟩ : ∃ z, outZ size k st pad = z := ⟨_, rfl⟩
  rw [hoz]
  rw [hoz] at HO
  clear hoz
  by_cases q0 : size < 1
  · have HC : Hid (oz = 0) := by show _ = _; rw [HO.out, HB.out, if_neg]; simp [inB]; omega
    go_enter Try.func97, Try.ntmps97
    go_wp2
    go_ret
    exact ⟨ret_int HC.out.symm, rfl⟩
  · by_cases q1 : 64 < size
    · have HC : Hid (oz = 0) := by show _ = _; rw [HO.out, HB.out, if_neg]; simp [inB]; omega
      go_enter Try.func97, Try.ntmps97
      go_wp2
      go_ret
      exact ⟨ret_int HC.out.symm, rfl⟩
    · by_cases q2 : k < 1
      · have HC : Hid (oz = 0) := by show _ = _; rw [HO.out, HB.out, if_neg]; simp [inB]; omega
        go_enter Try.func97, Try.ntmps97
        go_wp2
        go_ret
        exact ⟨ret_int HC.out.symm, rfl⟩
      · by_cases q3 : 16 < k
        · have HC : Hid (oz = 0) := by show _ = _; rw [HO.out, HB.out, if_neg]; simp [inB]; omega
          go_enter Try.func97, Try.ntmps97
          go_wp2
          go_ret
          exact ⟨ret_int HC.out.symm, rfl⟩
        · by_cases q4 : st < 1
          · have HC : Hid (oz = 0) := by show _ = _; rw [HO.out, HB.out, if_neg]; simp [inB]; omega
            go_enter Try.func97, Try.ntmps97
            go_wp2
            go_ret
            exact ⟨ret_int HC.out.symm, rfl⟩
          · by_cases q5 : 16 < st
            · have HC : Hid (oz = 0) := by show _ = _; rw [HO.out, HB.out, if_neg]; simp [inB]; omega
              go_enter Try.func97, Try.ntmps97
              go_wp2
              go_ret
              exact ⟨ret_int HC.out.symm, rfl⟩
            · by_cases q6 : pad < 0
              · have HC : Hid (oz = 0) := by show _ = _; rw [HO.out, HB.out, if_neg]; simp [inB]; omega
                go_enter Try.func97, Try.ntmps97
                go_wp2
                go_ret
                exact ⟨ret_int HC.out.symm, rfl⟩
              · by_cases q7 : 16 < pad
                · have HC : Hid (oz = 0) := by show _ = _; rw [HO.out, HB.out, if_neg]; simp [inB]; omega
                  go_enter Try.func97, Try.ntmps97
                  go_wp2
                  go_ret
                  exact ⟨ret_int HC.out.symm, rfl⟩
                · have HC : Hid (∀ j : Nat, size + 2 * pad - k < j * st → (j = 0 ∨ ((j : Int) - 1) * st ≤ size + 2 * pad - k) → oz = j) := by
                    show ∀ j : Nat, _
                    intro j h1 h2
                    rw [out_count (by omega) h1 h2, HO.out, HB.out]
                    by_cases hd : 0 ≤ size + 2 * pad - k
                    · rw [if_pos hd, if_pos]
                      simp [inB]
                      omega
                    · rw [if_neg hd, if_neg]
                      simp [inB]
                      omega
                  clear HO HB
                  go_enter Try.func97, Try.ntmps97
                  go_wp2_with fail
                  go_loop [9, 10] (fun n i => ∃ (j : Nat) (m : Int), i = .int .i64 (m - pad) ∧ n = .int .i64 j ∧ Hid (m = j * st) ∧ 0 ≤ m ∧ m ≤ 200 ∧ j ≤ m ∧ (j = 0 ∨ m - st ≤ size + 2 * pad - k)) (fun _ i => (200 - intOf i).toNat)
                  case atStart => exact ⟨0, 0, by rw [Int.zero_sub], rfl, by show _ = _; simp, by omega, by omega, by omega, .inl rfl⟩
                  case round =>
                    obtain ⟨j, m, rfl, rfl, HM, hm0, hm1, hjm, hlast⟩ := hrel
                    by_cases hlt : m ≤ size + 2 * pad - k
                    · have hmm : Hid (m + st = ((j + 1 : Nat) : Int) * st) := by show _ = _; rw [HM.out]; simp [Int.add_mul]
                      go_wp2_with fail
                      go_round
                      case rel => exact ⟨j + 1, m + st, by rw [show m - pad + st = m + st - pad from by omega], by go_num, hmm, by omega, by omega, by omega, .inr (by omega)⟩
                      case measure => simp [intOf]; omega
                    · have hz : Hid (oz = j) := by
                        refine HC.out j (by rw [← HM.out]; omega) ?_
                        rcases hlast with h | h
                        · exact .inl h
                        · refine .inr ?_
                          rw [Int.sub_mul, ← HM.out]
                          omega
                      go_wp2_with fail
                      go_ret
                      exact ⟨ret_int hz.out.symm, rfl⟩

end Go.Proofs.Ytmddlhfahfelpaa

namespace Go.Proofs.Ytmddlhfahfelpaa
open Go.RowKit

def nodeB (n : Nd) (len : Nat) : Bool := match kindOf n.op with
  | none => false
  | some k => nodeOk k n len

def wantZ (op : Int) : Int := if twoB op then 2 else 1
def rk (n : Nd) : Bool := if windowB n.op then inB 1 3 n.k && inB 1 2 n.st else decide (n.k = 0) && decide (n.st = 0)
def rpad0 (n : Nd) : Bool := if n.op = 1 ∨ n.op = 2 then inB 0 1 n.pad && decide (n.pad < n.k) else decide (n.pad = 0)
def rpad (n : Nd) : Bool := if n.op = 9 then decide (n.pad = 1) else rpad0 n
def rout (n : Nd) : Bool := if n.op = 1 ∨ n.op = 3 then inB 1 8 n.out else decide (n.out = 0)
def rto (n : Nd) : Bool := decide (n.to = ⟨0, 0, 0⟩) || decide (n.op = 11)
def rscale (n : Nd) : Bool := inB 1 32767 n.mul && inB 0 31 n.sh && inB (-128) 127 n.zero
def rnode (n : Nd) (len : Nat) : Bool := inB 1 12 n.op && decide ((len : Int) = wantZ n.op) && rk n && rpad n && rout n && rto n && rscale n

theorem rnode_eq (n : Nd) (len : Nat) : rnode n len = nodeB n len := by
  by_cases hop : 1 ≤ n.op ∧ n.op ≤ 12
  · have hi : inB 1 12 n.op = true := by simp [inB, hop]
    unfold rnode nodeB
    rw [hi]
    rcases (by omega : n.op = 1 ∨ n.op = 2 ∨ n.op = 3 ∨ n.op = 4 ∨ n.op = 5 ∨ n.op = 6 ∨ n.op = 7 ∨ n.op = 8 ∨ n.op = 9 ∨ n.op = 10 ∨ n.op = 11 ∨ n.op = 12) with ho | ho | ho | ho | ho | ho | ho | ho | ho | ho | ho | ho
    all_goals
      simp only [kindOf, ho, reduceIte, Int.reduceEq, nodeOk, ok1, ok2, ok3, ok4, ok5, wantZ, rk, rpad, rpad0, rout, rto, rscale, twoB, windowB, decide_true, decide_false, Bool.or_false, Bool.false_or, Bool.or_true, Bool.true_or, Bool.and_true, Bool.true_and, Bool.not_false, Bool.not_true, Bool.and_false, Bool.false_and, Int.reduceLE, Bool.false_eq_true, or_true, or_false, false_or, true_or]
      rw [Bool.eq_iff_iff]
      by_cases hto : n.to = ⟨0, 0, 0⟩
      · simp [inB, hto]
        omega
      · simp [inB, hto]
        try omega
  · have hi : inB 1 12 n.op = false := by
      rw [Bool.eq_false_iff]
      intro h
      simp [inB] at h
      exact hop h
    unfold rnode nodeB kindOf
    rw [hi, if_neg (by omega), if_neg (by omega), if_neg (by omega), if_neg (by omega), if_neg (by omega), if_neg (by omega), if_neg (by omega), if_neg (by omega), if_neg (by omega), if_neg (by omega), if_neg (by omega), if_neg (by omega)]
    simp

end Go.Proofs.Ytmddlhfahfelpaa
