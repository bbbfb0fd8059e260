/- The walk of the law MemEdges. -/
import Derived.Test.YticfgkcdghbklaaMemB
namespace Go.Proofs.Yticfgkcdghbklaa
open Go.RowKit

theorem i64_and_le (x : Int) (m : Nat) (hm : m < 9223372036854775808) : 0 ≤ bits .and .i64 x m ∧ bits .and .i64 x m ≤ m := by
  show 0 ≤ IntKind.i64.wrap ((BitVec.ofInt 64 x &&& BitVec.ofInt 64 (m : Int)).toNat : Int) ∧ IntKind.i64.wrap ((BitVec.ofInt 64 x &&& BitVec.ofInt 64 (m : Int)).toNat : Int) ≤ m
  rw [BitVec.toNat_and, BitVec.ofInt_natCast, BitVec.toNat_ofNat, Nat.mod_eq_of_lt (by omega), IntKind.wrap_i64]
  have := Nat.and_le_right (n := (BitVec.ofInt 64 x).toNat) (m := m)
  omega

theorem memErr_no {n at_ k : Int} (h : ¬ Fits n at_ k) : memErr n at_ k = 23 := if_neg h

set_option maxHeartbeats 1600000 in
theorem memEdges_calls (x at_ n : Int) (w : World) (hx : InK .i64 x) (hat : InK .i64 at_) (hn : InK .i64 n) :
    Calls Try.prog 8 #[.int .i64 x, .int .i64 at_, .int .i64 n] w fun e w' => e = .returned (.bool true) ∧ Below w.heap.size w w' := by
  simp only [InK] at hx hat hn
  obtain ⟨k, hk, hkl⟩ : ∃ k : Nat, bits .and .i64 x 255 = k ∧ k ≤ 255 := by
    obtain ⟨h1, h2⟩ := i64_and_le x 255 (by omega)
    exact ⟨(bits .and .i64 x 255).toNat, (Int.toNat_of_nonneg h1).symm, by simp at h2; omega⟩
  go_enter Try.func8, Try.ntmps8
  go_wp2_with fail
  refine (shown11_calls w).mono ?_
  rintro e w1 ⟨rfl, hE1⟩
  go_wp2_with fail
  refine (new_calls k _ (by simp only [InK]; omega)).mono ?_
  rintro e w2 ⟨p, v, rfl, hm, hp1, hE2⟩
  rw [memSize_eq (m := k) rfl (by omega)] at hm
  have hE : Below w.heap.size w w2 := hE1.trans (hE2.mono hE1.size)
  have hsz : w.heap.size ≤ w1.heap.size := hE1.size
  have hZ : (List.replicate k 0 : List Int).length = k := List.length_replicate
  have hz : ∀ j, j < k → (List.replicate k 0 : List Int)[j]?.getD 0 = 0 := fun j hj => by simp [hj]
  generalize (List.replicate k 0 : List Int) = Z at *
  have HZ := Lib.hid hZ
  have hZ := HZ
  have e1 := Lib.hid (memErr_ok (n := Z.length) (at_ := 0) (k := k) (by have := HZ.out; exact ⟨by omega, by omega, by omega, by omega⟩))
  have e2 := Lib.hid (memErr_no (n := Z.length) (at_ := 0) (k := (k : Int) + 1) (by have := HZ.out; unfold Fits; omega))
  have e3 := Lib.hid (memErr_ok (n := Z.length) (at_ := k) (k := 0) (by have := HZ.out; exact ⟨by omega, by omega, by omega, by omega⟩))
  have r1 := Lib.hid (readAt_all Z k (by have := HZ.out; omega))
  have r3 : Hid (readAt Z k 0 = []) := by
    show _ = _
    apply List.eq_nil_of_length_eq_zero
    have := HZ.out
    rw [length_readAt ⟨by omega, by omega, by omega, by omega⟩]
    rfl
  clear hZ hE1 hE2
  go_wp2_with fail
  refine (read_calls _ p v Z 0 k _ hm (by simp only [InK]; omega) (by simp only [InK]; omega)).mono ?_
  intro e w3 h
  obtain ⟨u1, rfl, hi1, hE3⟩ := h.ints
  have hm3 := hm.below hE3 (Nat.le_refl _)
  have hE3 := hE.trans (hE3.mono hE.size)
  rw [r1.out] at hi1
  rw [e1.out]
  clear h hm hE
  go_wp2_with fail
  refine (read_calls _ p v Z 0 (k + 1) _ hm3 (by simp only [InK]; omega) (by simp only [InK]; omega)).mono ?_
  intro e w4 h
  obtain ⟨u2, rfl, hi2, hE4⟩ := h.ints
  have hm4 := hm3.below hE4 (Nat.le_refl _)
  have hi1 := hi1.below hE4
  have hE4 := hE3.trans (hE4.mono hE3.size)
  rw [e2.out]
  clear h hm3 hE3 hi2
  go_wp2_with fail
  refine (read_calls _ p v Z k 0 _ hm4 (by simp only [InK]; omega) (by simp only [InK]; omega)).mono ?_
  intro e w5 h
  obtain ⟨u3, rfl, hi3, hE5⟩ := h.ints
  have hm5 := hm4.below hE5 (Nat.le_refl _)
  have hi1 := hi1.below hE5
  have hE5 := hE4.trans (hE5.mono hE4.size)
  rw [e3.out]
  rw [r3.out] at hi3
  obtain ⟨A3, c3, rfl, _⟩ := hi3
  clear h hm4 hE4
  obtain ⟨A1, c1, rfl, h1, h2, hc⟩ := hi1.form
  unfold maxLen at h2
  rw [HZ.out] at hc h1 ⊢
  clear hi1
  go_wp2
  go_loop [16] (fun i => ∃ j : Nat, j ≤ k ∧ i = .int .i64 j) (fun i => k - (intOf i).toNat)
  case atStart => exact ⟨0, by omega, rfl⟩
  case round =>
    obtain ⟨j, hj, rfl⟩ := hrel
    by_cases hlt : j < k
    · obtain ⟨b, off, rfl, hcell⟩ := hc j hlt
      rw [hz j hlt] at hcell
      clear hc hz
      go_wp2
      go_round
      case rel => exact ⟨j + 1, by omega, by go_num⟩
      case measure => simp [intOf]; omega
    · clear hc hz
      obtain ⟨fl, hfl⟩ : ∃ fl : Bool, fl = decide (Fits Z.length at_ n) := ⟨_, rfl⟩
      go_wp2_with fail
      refine (read_calls _ p v Z at_ n _ hm5 hat hn).mono ?_
      intro e w6 h
      obtain ⟨u6, rfl, hi6, hE6⟩ := h.ints
      have hm6 := hm5.below hE6 (Nat.le_refl _)
      have hE6 := hE5.trans (hE6.mono hE5.size)
      obtain ⟨A6, c6, rfl, _⟩ := hi6
      clear h hm5 hE5
      have lw : (writeAt Z k []).length = k := by rw [length_writeAt]; exact HZ.out
      have e4 := Lib.hid (memErr_ok (n := Z.length) (at_ := k) (k := (0 : Nat)) (by have := HZ.out; exact ⟨by omega, by omega, by omega, by omega⟩))
      have e5 := Lib.hid (memErr_no (n := (writeAt Z k []).length) (at_ := k) (k := (1 : Nat)) (by rw [lw]; unfold Fits; omega))
      have lw2 : Hid ((writeAt (writeAt Z k []) k [1]).length = k) := by show _ = _; rw [length_writeAt]; exact lw
      clear lw
      have hcase : (Hid (memErr Z.length at_ n = 0) ∧ Hid (((readAt Z at_ n).length : Int) = n) ∧ 0 ≤ at_ ∧ 0 ≤ n ∧ at_ ≤ k ∧ n ≤ k - at_) ∨
          (Hid (memErr Z.length at_ n = 23) ∧ (at_ < 0 ∨ (0 ≤ at_ ∧ n < 0) ∨ (0 ≤ at_ ∧ 0 ≤ n ∧ k < at_) ∨ (0 ≤ at_ ∧ 0 ≤ n ∧ at_ ≤ k ∧ k - at_ < n))) := by
        have hZ := HZ.out
        by_cases hf : Fits Z.length at_ n
        · have hl := length_readAt hf
          refine Or.inl ⟨memErr_ok hf, (show _ = _ by rw [hl]; obtain ⟨f1, _⟩ := hf; omega), ?_⟩
          obtain ⟨f1, f2, f3, f4⟩ := hf
          omega
        · refine Or.inr ⟨memErr_no hf, ?_⟩
          unfold Fits at hf
          omega
      clear fl hfl
      generalize (readAt Z at_ n).length = lr at *
      generalize memErr Z.length at_ n = er at *
      rcases hcase with ⟨he, hl, g1, g2, g3, g4⟩ | ⟨he, g | ⟨g1, g2⟩ | ⟨g1, g2, g3⟩ | ⟨g1, g2, g3, g4⟩⟩
      all_goals
        rw [he.out]
        go_wp2_with fail
        refine (write_calls _ p v Z k _ [] _ hm6 (by simp only [InK]; omega) (row_nil _ _)).mono ?_
        rintro e w7 ⟨rfl, hm7, hg⟩
        have hE7 := hm6.wrote hE6 hsz hE6.size hg
        have e4' := e4.out
        simp only [List.length_nil] at e4' ⊢
        rw [e4']
        clear hg e4'
        go_wp2_with fail
        have hlit : Ints .i8 (w7.alloc (.cells #[.int .i8 1] 47)) (.slice (some ⟨w7.heap.size, 0, none⟩) 1 1) [1] := row_new w7 _ _ 1 1 rfl (by decide)
        have hm7' := hm7.below (below_alloc (Below.refl _ _) (Nat.le_refl _) (.cells #[.int .i8 1] 47)) (Nat.le_refl _)
        have hE7' := below_alloc hE7 hE7.size (.cells #[.int .i8 1] 47)
        refine (write_calls _ p v _ k _ [1] _ hm7' (by simp only [InK]; omega) hlit).mono ?_
        rintro e w8 ⟨rfl, hm8, hg⟩
        have hE8 := hm7'.wrote hE7' hsz hE7'.size hg
        have e5' := e5.out
        simp only [List.length_cons, List.length_nil, Nat.zero_add] at e5' ⊢
        rw [e5']
        clear hg e5' hm7 hm7' hE7 hE7' hlit
        go_wp2_with fail
        first
          | (refine (size_calls _ p v _ _ hm8).mono ?_
             rintro e w9 ⟨rfl, rfl⟩
             rw [lw2.out]
             go_wp2_with fail
             go_ret
             exact ⟨rfl, hE8⟩)

end Go.Proofs.Yticfgkcdghbklaa
