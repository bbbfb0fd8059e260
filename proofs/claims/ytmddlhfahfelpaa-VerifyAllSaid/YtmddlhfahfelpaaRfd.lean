/- The walk of the reference of whether a node may be. -/
import Derived.Test.YtmddlhfahfelpaaRfc
set_option linter.unusedSimpArgs false
set_option linter.unusedVariables false
set_option linter.unnecessarySimpa false
namespace Go.Proofs.Ytmddlhfahfelpaa
open Go.RowKit

set_option maxRecDepth 8000 in
set_option maxHeartbeats 3200000 in
theorem rnode_calls (n : Nd) (len : Nat) (w : World) :
    Calls Try.prog 74 #[.agg #[.int .i64 n.op, n.inV, .int .i64 n.k, .int .i64 n.st, .int .i64 n.pad, .int .i64 n.out, .int .i64 n.mul, .int .i64 n.sh, .int .i64 n.zero, .int .i64 n.th, .int .i64 n.tw, .int .i64 n.tc, n.wV, n.bV], .int .i64 len] w fun e w' => e = .returned (.bool (nodeB n len)) ∧ Ext w w' := by
  rw [← rnode_eq]
  have hE := ext_alloc w (.cells #[.int .i64 n.op, n.inV, .int .i64 n.k, .int .i64 n.st, .int .i64 n.pad, .int .i64 n.out, .int .i64 n.mul, .int .i64 n.sh, .int .i64 n.zero, .int .i64 n.th, .int .i64 n.tw, .int .i64 n.tc, n.wV, n.bV] 51)
  have hn := Blk.new w #[.int .i64 n.op, n.inV, .int .i64 n.k, .int .i64 n.st, .int .i64 n.pad, .int .i64 n.out, .int .i64 n.mul, .int .i64 n.sh, .int .i64 n.zero, .int .i64 n.th, .int .i64 n.tw, .int .i64 n.tc, n.wV, n.bV] 51
  go_enter Try.func74, Try.ntmps74
  go_upto_region 1 with fail
  generalize w.alloc _ = w1 at *
  have n0 : w1.cell? ⟨w.heap.size, 0, none⟩ = some (.int .i64 n.op) := hn.cell 0
  have n2 : w1.cell? ⟨w.heap.size, 2, none⟩ = some (.int .i64 n.k) := hn.cell 2
  have n3 : w1.cell? ⟨w.heap.size, 3, none⟩ = some (.int .i64 n.st) := hn.cell 3
  have n4 : w1.cell? ⟨w.heap.size, 4, none⟩ = some (.int .i64 n.pad) := hn.cell 4
  have n5 : w1.cell? ⟨w.heap.size, 5, none⟩ = some (.int .i64 n.out) := hn.cell 5
  have n6 : w1.cell? ⟨w.heap.size, 6, none⟩ = some (.int .i64 n.mul) := hn.cell 6
  have n7 : w1.cell? ⟨w.heap.size, 7, none⟩ = some (.int .i64 n.sh) := hn.cell 7
  have n8 : w1.cell? ⟨w.heap.size, 8, none⟩ = some (.int .i64 n.zero) := hn.cell 8
  have n9 : w1.cell? ⟨w.heap.size, 9, none⟩ = some (.int .i64 n.th) := hn.cell 9
  have n10 : w1.cell? ⟨w.heap.size, 10, none⟩ = some (.int .i64 n.tw) := hn.cell 10
  have n11 : w1.cell? ⟨w.heap.size, 11, none⟩ = some (.int .i64 n.tc) := hn.cell 11
  clear hn
  have eq1 : ∀ k : Int, n.op = k → (n.op == k) = true := fun k h => by simp [h]
  have ne1 : ∀ k : Int, ¬ n.op = k → (n.op == k) = false := fun k h => by rw [beq_eq_false_iff_ne]; exact h
  have EQ := Lib.hid eq1
  have NE := Lib.hid ne1
  clear eq1 ne1
  go_cut [0, 5] (fun _ s wx => s = .int .i64 1 ∧ w1 = wx)
  case first =>
    go_wp2_with fail
    go_meet
    exact ⟨rfl, rfl⟩
  obtain ⟨rfl, rfl⟩ := hcut
  have htw := rtwo_calls n.op w1
  have hwi := rwindow_calls n.op w1
  go_upto_if 13 with (go_at_call 95; refine htw.mono ?_; rintro e w' ⟨rfl, rfl⟩)
  go_cut [5] (fun s wx => s = .int .i64 (wantZ n.op) ∧ w1 = wx)
  case first =>
    have HW : Hid (wantZ n.op = if twoB n.op then 2 else 1) := rfl
    generalize wantZ n.op = z at *
    generalize twoB n.op = q at *
    cases q
    all_goals
      go_wp2_with fail
      go_meet
      exact ⟨by rw [HW.out]; rfl, rfl⟩
  obtain ⟨rfl, rfl⟩ := hcut
  clear htw
  go_upto_region 4 with fail
  go_cut [6] (fun s wx => s = .bool (decide (n.k = 0) && decide (n.st = 0)) ∧ w1 = wx)
  case first =>
    by_cases z1 : n.k = 0
    · have HC : Hid ((decide (n.k = 0) && decide (n.st = 0)) = decide (n.st = 0)) := by show _ = _; simp [z1]
      go_wp2_with fail
      go_meet
      exact ⟨by rw [HC.out]; simp [beq_dec], rfl⟩
    · have HC : Hid ((decide (n.k = 0) && decide (n.st = 0)) = false) := by show _ = _; simp [z1]
      go_wp2_with fail
      go_meet
      exact ⟨by rw [HC.out], rfl⟩
  obtain ⟨rfl, rfl⟩ := hcut
  go_upto_if 24 with (go_at_call 96; refine hwi.mono ?_; rintro e w' ⟨rfl, rfl⟩)
  go_cut [6] (fun s wx => s = .bool (rk n) ∧ w1 = wx)
  case first =>
    have HW : Hid (rk n = if windowB n.op then inB 1 3 n.k && inB 1 2 n.st else decide (n.k = 0) && decide (n.st = 0)) := rfl
    generalize rk n = z at *
    generalize windowB n.op = q at *
    cases q with
    | false =>
      go_wp2_with fail
      go_meet
      exact ⟨by rw [HW.out]; rfl, rfl⟩
    | true =>
      cases h2 : inB 1 3 n.k with
      | false =>
        have HC : Hid (z = false) := by show _ = _; rw [HW.out, h2]; rfl
        go_wp2_with (go_at_call 58; refine (rin_calls _ _ _ _).mono ?_; rintro e w' ⟨rfl, rfl⟩)
        go_meet
        exact ⟨by rw [HC.out], rfl⟩
      | true =>
        have HC : Hid (z = inB 1 2 n.st) := by show _ = _; rw [HW.out, h2]; rfl
        go_wp2_with (go_at_call 58; refine (rin_calls _ _ _ _).mono ?_; rintro e w' ⟨rfl, rfl⟩)
        go_meet
        exact ⟨by rw [HC.out], rfl⟩
  obtain ⟨rfl, rfl⟩ := hcut
  clear hwi
  go_upto_region 7 with fail
  go_cut [7] (fun s wx => s = .bool (decide (n.pad = 0)) ∧ w1 = wx)
  case first =>
    go_wp2_with fail
    go_meet
    exact ⟨by simp [beq_dec], rfl⟩
  obtain ⟨rfl, rfl⟩ := hcut
  go_upto_region 8 with fail
  go_cut [43] (fun s wx => s = .bool (decide (n.op = 1 ∨ n.op = 2)) ∧ w1 = wx)
  case first =>
    by_cases o1 : n.op = 1
    · have t1 := EQ.out 1 o1
      have HC : Hid (decide (n.op = 1 ∨ n.op = 2) = true) := by show _ = _; simp [o1]
      clear o1
      go_wp2_with fail
      go_meet
      exact ⟨by rw [HC.out], rfl⟩
    · have t1 := NE.out 1 o1
      have HC : Hid (decide (n.op = 1 ∨ n.op = 2) = (n.op == 2)) := by show _ = _; simp [o1, beq_dec]
      go_wp2_with fail
      go_meet
      exact ⟨by rw [HC.out], rfl⟩
  obtain ⟨rfl, rfl⟩ := hcut
  go_upto_if 43 with fail
  go_cut [7] (fun s wx => s = .bool (rpad0 n) ∧ w1 = wx)
  case first =>
    have HZ : Hid (rpad0 n = if n.op = 1 ∨ n.op = 2 then inB 0 1 n.pad && decide (n.pad < n.k) else decide (n.pad = 0)) := rfl
    generalize rpad0 n = z at *
    by_cases o : n.op = 1 ∨ n.op = 2
    · have HC : Hid (z = (inB 0 1 n.pad && decide (n.pad < n.k))) := by show _ = _; rw [HZ.out, if_pos o]
      rw [show decide (n.op = 1 ∨ n.op = 2) = true from by simp [o]]
      clear o HZ
      cases h2 : inB 0 1 n.pad with
      | false =>
        have HC2 : Hid (z = false) := by show _ = _; rw [HC.out, h2]; rfl
        go_wp2_with (go_at_call 58; refine (rin_calls _ _ _ _).mono ?_; rintro e w' ⟨rfl, rfl⟩)
        go_meet
        exact ⟨by rw [HC2.out], rfl⟩
      | true =>
        have HC2 : Hid (z = decide (n.pad < n.k)) := by show _ = _; rw [HC.out, h2]; rfl
        go_wp2_with (go_at_call 58; refine (rin_calls _ _ _ _).mono ?_; rintro e w' ⟨rfl, rfl⟩)
        go_meet
        exact ⟨by rw [HC2.out], rfl⟩
    · have HC : Hid (z = decide (n.pad = 0)) := by show _ = _; rw [HZ.out, if_neg o]
      rw [show decide (n.op = 1 ∨ n.op = 2) = false from by simp [o]]
      clear o HZ
      go_wp2_with fail
      go_meet
      exact ⟨by rw [HC.out], rfl⟩
  obtain ⟨rfl, rfl⟩ := hcut
  go_upto_region 10 with fail
  go_cut [56] (fun s wx => s = .bool (n.op == 9) ∧ w1 = wx)
  case first =>
    go_wp2_with fail
    go_meet
    exact ⟨rfl, rfl⟩
  obtain ⟨rfl, rfl⟩ := hcut
  go_upto_if 56 with fail
  go_cut [7] (fun s wx => s = .bool (rpad n) ∧ w1 = wx)
  case first =>
    have HW : Hid (rpad n = if n.op = 9 then decide (n.pad = 1) else rpad0 n) := rfl
    generalize rpad n = z at *
    generalize rpad0 n = y at *
    by_cases o : n.op = 9
    · have t1 := EQ.out 9 o
      have HC : Hid (z = decide (n.pad = 1)) := by show _ = _; rw [HW.out, if_pos o]
      clear o HW
      go_wp2_with fail
      go_meet
      exact ⟨by rw [HC.out]; simp [beq_dec], rfl⟩
    · have t1 := NE.out 9 o
      have HC : Hid (z = y) := by show _ = _; rw [HW.out, if_neg o]
      clear o HW
      go_wp2_with fail
      go_meet
      exact ⟨by rw [HC.out], rfl⟩
  obtain ⟨rfl, rfl⟩ := hcut
  go_upto_region 12 with fail
  go_cut [8] (fun s wx => s = .bool (decide (n.out = 0)) ∧ w1 = wx)
  case first =>
    go_wp2_with fail
    go_meet
    exact ⟨by simp [beq_dec], rfl⟩
  obtain ⟨rfl, rfl⟩ := hcut
  go_upto_region 13 with fail
  go_cut [70] (fun s wx => s = .bool (decide (n.op = 1 ∨ n.op = 3)) ∧ w1 = wx)
  case first =>
    by_cases o1 : n.op = 1
    · have t1 := EQ.out 1 o1
      have HC : Hid (decide (n.op = 1 ∨ n.op = 3) = true) := by show _ = _; simp [o1]
      clear o1
      go_wp2_with fail
      go_meet
      exact ⟨by rw [HC.out], rfl⟩
    · have t1 := NE.out 1 o1
      have HC : Hid (decide (n.op = 1 ∨ n.op = 3) = (n.op == 3)) := by show _ = _; simp [o1, beq_dec]
      go_wp2_with fail
      go_meet
      exact ⟨by rw [HC.out], rfl⟩
  obtain ⟨rfl, rfl⟩ := hcut
  go_upto_if 70 with fail
  go_cut [8] (fun s wx => s = .bool (rout n) ∧ w1 = wx)
  case first =>
    have HW : Hid (rout n = if n.op = 1 ∨ n.op = 3 then inB 1 8 n.out else decide (n.out = 0)) := rfl
    generalize rout n = z at *
    by_cases o : n.op = 1 ∨ n.op = 3
    · have HC : Hid (z = inB 1 8 n.out) := by show _ = _; rw [HW.out, if_pos o]
      rw [show decide (n.op = 1 ∨ n.op = 3) = true from by simp [o]]
      clear o HW
      go_wp2_with (go_at_call 58; refine (rin_calls _ _ _ _).mono ?_; rintro e w' ⟨rfl, rfl⟩)
      go_meet
      exact ⟨by rw [HC.out], rfl⟩
    · have HC : Hid (z = decide (n.out = 0)) := by show _ = _; rw [HW.out, if_neg o]
      rw [show decide (n.op = 1 ∨ n.op = 3) = false from by simp [o]]
      clear o HW
      go_wp2_with fail
      go_meet
      exact ⟨by rw [HC.out], rfl⟩
  obtain ⟨rfl, rfl⟩ := hcut
  go_upto_region 15 with fail
  go_cut [9] (fun s wx => s = .bool (rto n) ∧ w1 = wx)
  case first =>
    have HO : Hid (rto n = ((decide (n.th = 0) && (decide (n.tw = 0) && decide (n.tc = 0))) || decide (n.op = 11))) := by
      show _ = _
      simp only [rto, Nd.to, Sz.mk.injEq]
      rw [Bool.eq_iff_iff]
      simp
    generalize rto n = z at *
    by_cases z1 : n.th = 0
    · by_cases z2 : n.tw = 0
      · by_cases z3 : n.tc = 0
        · have HC : Hid (z = true) := by show _ = _; rw [HO.out]; simp [z1, z2, z3]
          clear HO
          go_wp2_with fail
          go_meet
          exact ⟨by rw [HC.out], rfl⟩
        · have HC : Hid (z = (n.op == 11)) := by show _ = _; rw [HO.out]; simp [z1, z2, z3, beq_dec]
          clear HO
          go_wp2_with fail
          go_meet
          exact ⟨by rw [HC.out], rfl⟩
      · have HC : Hid (z = (n.op == 11)) := by show _ = _; rw [HO.out]; simp [z1, z2, beq_dec]
        clear HO
        go_wp2_with fail
        go_meet
        exact ⟨by rw [HC.out], rfl⟩
    · have HC : Hid (z = (n.op == 11)) := by show _ = _; rw [HO.out]; simp [z1, beq_dec]
      clear HO
      go_wp2_with fail
      go_meet
      exact ⟨by rw [HC.out], rfl⟩
  obtain ⟨rfl, rfl⟩ := hcut
  go_upto_region 16 with fail
  go_cut [10] (fun s wx => s = .bool (rscale n) ∧ w1 = wx)
  case first =>
    have HO : Hid (rscale n = (inB 1 32767 n.mul && inB 0 31 n.sh && inB (-128) 127 n.zero)) := rfl
    generalize rscale n = z at *
    cases h2 : inB 1 32767 n.mul with
    | false =>
      have HC : Hid (z = false) := by show _ = _; rw [HO.out, h2]; rfl
      go_wp2_with (go_at_call 58; refine (rin_calls _ _ _ _).mono ?_; rintro e w' ⟨rfl, rfl⟩)
      go_meet
      exact ⟨by rw [HC.out], rfl⟩
    | true =>
      cases h3 : inB 0 31 n.sh with
      | false =>
        have HC : Hid (z = false) := by show _ = _; rw [HO.out, h2, h3]; rfl
        go_wp2_with (go_at_call 58; refine (rin_calls _ _ _ _).mono ?_; rintro e w' ⟨rfl, rfl⟩)
        go_meet
        exact ⟨by rw [HC.out], rfl⟩
      | true =>
        have HC : Hid (z = inB (-128) 127 n.zero) := by show _ = _; rw [HO.out, h2, h3]; rfl
        go_wp2_with (go_at_call 58; refine (rin_calls _ _ _ _).mono ?_; rintro e w' ⟨rfl, rfl⟩)
        go_meet
        exact ⟨by rw [HC.out], rfl⟩
  obtain ⟨rfl, rfl⟩ := hcut
  have HN : Hid (rnode n len = (inB 1 12 n.op && decide ((len : Int) = wantZ n.op) && rk n && rpad n && rout n && rto n && rscale n)) := rfl
  generalize rk n = b3 at *
  generalize rpad n = b4 at *
  generalize rout n = b5 at *
  generalize rto n = b6 at *
  generalize rscale n = b7 at *
  generalize wantZ n.op = wz at *
  have hin := rin_calls n.op 1 12 w1
  generalize inB 1 12 n.op = b1 at *
  clear n2 n3 n4 n5 n6 n7 n8 n9 n10 n11 EQ NE
  cases b1 with
  | false =>
    have HC : Hid (rnode n len = false) := by show _ = _; rw [HN.out]; simp
    clear HN
    go_wp2_with (go_at_call 58; refine hin.mono ?_; rintro e w' ⟨rfl, rfl⟩)
    go_ret
    exact ⟨ret_bool HC.out.symm, hE⟩
  | true =>
    by_cases hl : (len : Int) = wz
    · have t1 : ((len : Int) == wz) = true := by simp [hl]
      have HN2 : Hid (rnode n len = (b3 && b4 && b5 && b6 && b7)) := by show _ = _; rw [HN.out]; simp [hl]
      clear HN hl
      cases b3
      case false =>
        have HC : Hid (rnode n len = false) := by show _ = _; rw [HN2.out]; rfl
        clear HN2
        go_wp2_with (go_at_call 58; refine hin.mono ?_; rintro e w' ⟨rfl, rfl⟩)
        go_ret
        exact ⟨ret_bool HC.out.symm, hE⟩
      cases b4
      case false =>
        have HC : Hid (rnode n len = false) := by show _ = _; rw [HN2.out]; rfl
        clear HN2
        go_wp2_with (go_at_call 58; refine hin.mono ?_; rintro e w' ⟨rfl, rfl⟩)
        go_ret
        exact ⟨ret_bool HC.out.symm, hE⟩
      cases b5
      case false =>
        have HC : Hid (rnode n len = false) := by show _ = _; rw [HN2.out]; rfl
        clear HN2
        go_wp2_with (go_at_call 58; refine hin.mono ?_; rintro e w' ⟨rfl, rfl⟩)
        go_ret
        exact ⟨ret_bool HC.out.symm, hE⟩
      cases b6
      case false =>
        have HC : Hid (rnode n len = false) := by show _ = _; rw [HN2.out]; rfl
        clear HN2
        go_wp2_with (go_at_call 58; refine hin.mono ?_; rintro e w' ⟨rfl, rfl⟩)
        go_ret
        exact ⟨ret_bool HC.out.symm, hE⟩
      have HC : Hid (rnode n len = b7) := by show _ = _; rw [HN2.out]; rfl
      clear HN2
      cases b7
      all_goals
        go_wp2_with (go_at_call 58; refine hin.mono ?_; rintro e w' ⟨rfl, rfl⟩)
        go_ret
        exact ⟨ret_bool HC.out.symm, hE⟩
    · have t1 : ((len : Int) == wz) = false := by simp [hl]
      have HC : Hid (rnode n len = false) := by show _ = _; rw [HN.out]; simp [hl]
      clear HN hl
      go_wp2_with (go_at_call 58; refine hin.mono ?_; rintro e w' ⟨rfl, rfl⟩)
      go_ret
      exact ⟨ret_bool HC.out.symm, hE⟩

end Go.Proofs.Ytmddlhfahfelpaa
