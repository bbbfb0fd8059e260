/- The reference of shape.Out: place by place. -/
import Derived.Test.YtdhdbmfipkppiaaRfa
namespace Go.Proofs.Ytdhdbmfipkppiaa
set_option linter.unusedSimpArgs false
set_option linter.unusedVariables false
set_option linter.unnecessarySimpa false
open Go.RowKit

theorem out_count {D st : Int} {j : Nat} (hst : 1 ≤ st) (h : D < j * st) (hp : j = 0 ∨ ((j : Int) - 1) * st ≤ D) : (j : Int) = if 0 ≤ D then 1 + D / st else 0 := by
  rcases Nat.eq_zero_or_pos j with h0 | h0
  · subst h0
    simp only [Int.ofNat_zero, Int.zero_mul, Int.natCast_zero] at h ⊢
    rw [if_neg (by omega)]
  · have hp1 : ((j : Int) - 1) * st ≤ D := hp.resolve_left (by omega)
    have hD : 0 ≤ D := Int.le_trans (Int.mul_nonneg (by omega) (by omega)) hp1
    rw [if_pos hD]
    have e1 : (j : Int) - 1 ≤ D / st := (Int.le_ediv_iff_mul_le (by omega)).2 hp1
    have e2 : D / st < j := (Int.ediv_lt_iff_lt_mul (by omega)).2 h
    omega

set_option maxHeartbeats 1600000 in
theorem rOut_calls (size k st pad : Int) (w : World) (hpk : InK .i64 pad) : Calls Try.prog 121 #[.int .i64 size, .int .i64 k, .int .i64 st, .int .i64 pad] w fun e w' => e = .returned (.int .i64 (outZ size k st pad)) ∧ w = w' := by
  have HO : Hid (outZ size k st pad = if outOk size k st pad then 1 + (size + 2 * pad - k) / st else 0) := rfl
  have HB : Hid (outOk size k st pad = (inB 1 64 size && (inB 1 16 k && inB 1 16 st) && inB 0 16 pad && decide (k ≤ size + 2 * pad))) := rfl
  obtain ⟨hp1, hp2⟩ := hpk
  obtain ⟨oz, hoz⟩ : ∃ z, outZ size k st pad = z := ⟨_, rfl⟩
  rw [hoz]
  rw [hoz] at HO
  clear hoz
  by_cases q0 : size < 1
  · have HC : Hid (oz = 0) := by show _ = _; rw [HO.out, HB.out, if_neg]; simp [inB]; omega
    go_enter Try.func121, Try.ntmps121
    go_wp2
    go_ret
    exact ⟨ret_int HC.out.symm, rfl⟩
  · by_cases q1 : 64 < size
    · have HC : Hid (oz = 0) := by show _ = _; rw [HO.out, HB.out, if_neg]; simp [inB]; omega
      go_enter Try.func121, Try.ntmps121
      go_wp2
      go_ret
      exact ⟨ret_int HC.out.symm, rfl⟩
    · by_cases q2 : k < 1
      · have HC : Hid (oz = 0) := by show _ = _; rw [HO.out, HB.out, if_neg]; simp [inB]; omega
        go_enter Try.func121, Try.ntmps121
        go_wp2
        go_ret
        exact ⟨ret_int HC.out.symm, rfl⟩
      · by_cases q3 : 16 < k
        · have HC : Hid (oz = 0) := by show _ = _; rw [HO.out, HB.out, if_neg]; simp [inB]; omega
          go_enter Try.func121, Try.ntmps121
          go_wp2
          go_ret
          exact ⟨ret_int HC.out.symm, rfl⟩
        · by_cases q4 : st < 1
          · have HC : Hid (oz = 0) := by show _ = _; rw [HO.out, HB.out, if_neg]; simp [inB]; omega
            go_enter Try.func121, Try.ntmps121
            go_wp2
            go_ret
            exact ⟨ret_int HC.out.symm, rfl⟩
          · by_cases q5 : 16 < st
            · have HC : Hid (oz = 0) := by show _ = _; rw [HO.out, HB.out, if_neg]; simp [inB]; omega
              go_enter Try.func121, Try.ntmps121
              go_wp2
              go_ret
              exact ⟨ret_int HC.out.symm, rfl⟩
            · by_cases q6 : pad < 0
              · have HC : Hid (oz = 0) := by show _ = _; rw [HO.out, HB.out, if_neg]; simp [inB]; omega
                go_enter Try.func121, Try.ntmps121
                go_wp2
                go_ret
                exact ⟨ret_int HC.out.symm, rfl⟩
              · by_cases q7 : 16 < pad
                · have HC : Hid (oz = 0) := by show _ = _; rw [HO.out, HB.out, if_neg]; simp [inB]; omega
                  go_enter Try.func121, Try.ntmps121
                  go_wp2
                  go_ret
                  exact ⟨ret_int HC.out.symm, rfl⟩
                · have HC : Hid (∀ j : Nat, size + 2 * pad - k < j * st → (j = 0 ∨ ((j : Int) - 1) * st ≤ size + 2 * pad - k) → oz = j) := by
                    show ∀ j : Nat, _
                    intro j h1 h2
                    rw [out_count (by omega) h1 h2, HO.out, HB.out]
                    by_cases hd : 0 ≤ size + 2 * pad - k
                    · rw [if_pos hd, if_pos]
                      simp [inB]
                      omega
                    · rw [if_neg hd, if_neg]
                      simp [inB]
                      omega
                  clear HO HB
                  go_enter Try.func121, Try.ntmps121
                  go_wp2_with fail
                  go_loop [9, 10] (fun n i => ∃ (j : Nat) (m : Int), i = .int .i64 (m - pad) ∧ n = .int .i64 j ∧ Hid (m = j * st) ∧ 0 ≤ m ∧ m ≤ 200 ∧ j ≤ m ∧ (j = 0 ∨ m - st ≤ size + 2 * pad - k)) (fun _ i => (200 - intOf i).toNat)
                  case atStart => exact ⟨0, 0, by rw [Int.zero_sub], rfl, by show _ = _; simp, by omega, by omega, by omega, .inl rfl⟩
                  case round =>
                    obtain ⟨j, m, rfl, rfl, HM, hm0, hm1, hjm, hlast⟩ := hrel
                    by_cases hlt : m ≤ size + 2 * pad - k
                    · have hmm : Hid (m + st = ((j + 1 : Nat) : Int) * st) := by show _ = _; rw [HM.out]; simp [Int.add_mul]
                      go_wp2_with fail
                      go_round
                      case rel => exact ⟨j + 1, m + st, by rw [show m - pad + st = m + st - pad from by omega], by go_num, hmm, by omega, by omega, by omega, .inr (by omega)⟩
                      case measure => simp [intOf]; omega
                    · have hz : Hid (oz = j) := by
                        refine HC.out j (by rw [← HM.out]; omega) ?_
                        rcases hlast with h | h
                        · exact .inl h
                        · refine .inr ?_
                          rw [Int.sub_mul, ← HM.out]
                          omega
                      go_wp2_with fail
                      go_ret
                      exact ⟨ret_int hz.out.symm, rfl⟩

end Go.Proofs.Ytdhdbmfipkppiaa
