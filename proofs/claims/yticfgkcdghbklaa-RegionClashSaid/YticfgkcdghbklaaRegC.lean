/- The walk of the law RegionClash. -/
import Derived.Test.YticfgkcdghbklaaRegN
import Derived.Test.YticfgkcdghbklaaRegS
namespace Go.Proofs.Yticfgkcdghbklaa
open Go.RowKit

theorem meet_symm (x y : Sp) : meetB x y = meetB y x := by
  rw [Bool.eq_iff_iff]
  simp only [meetB, Bool.and_eq_true, Bool.or_eq_true, beq_iff_eq, decide_eq_true_eq]
  constructor
  · rintro ⟨⟨⟨⟨⟨h1, h2⟩, h3⟩, h4⟩, h5⟩, h6⟩; exact ⟨⟨⟨⟨⟨h1.symm, h2.symm⟩, h4⟩, h3⟩, h6⟩, h5⟩
  · rintro ⟨⟨⟨⟨⟨h1, h2⟩, h3⟩, h4⟩, h5⟩, h6⟩; exact ⟨⟨⟨⟨⟨h1.symm, h2.symm⟩, h4⟩, h3⟩, h6⟩, h5⟩

theorem clash_symm (a b : List Sp) : clashB a b = clashB b a := by
  rw [Bool.eq_iff_iff]
  unfold clashB
  simp only [List.any_eq_true]
  constructor
  · rintro ⟨x, hx, y, hy, h⟩; exact ⟨y, hy, x, hx, by rw [meet_symm]; exact h⟩
  · rintro ⟨x, hx, y, hy, h⟩; exact ⟨y, hy, x, hx, by rw [meet_symm]; exact h⟩

set_option maxHeartbeats 3200000 in
theorem regionClash_calls (va vb : Value) (a b : List Sp) (w : World) (ha : Spans w va a) (hb : Spans w vb b) :
    Calls Try.prog 13 #[va, vb] w fun e w' => e = .returned (.bool true) ∧ Below w.heap.size w w' := by
  obtain ⟨A, c, rfl, hac, ham, _⟩ := id ha.form
  obtain ⟨B, d, rfl, hbc, hbm, _⟩ := id hb.form
  have ha1 := ha.first (m := min a.length 40) (by omega)
  have hb1 := hb.first (m := min b.length 40) (by omega)
  have hla : (a.take (min a.length 40)).length = min a.length 40 := by rw [List.length_take]; omega
  have hlb : (b.take (min b.length 40)).length = min b.length 40 := by rw [List.length_take]; omega
  generalize a.take (min a.length 40) = a1 at *
  generalize b.take (min b.length 40) = b1 at *
  go_enter Try.func13, Try.ntmps13
  go_wp2_with fail
  refine (shown12_calls w).mono ?_
  rintro e w1 ⟨rfl, hE1⟩
  go_wp2_with fail
  refine (few_calls _ _ _ _ hac ham).mono ?_
  rintro e w' ⟨rfl, rfl⟩
  go_wp2_with fail
  refine (few_calls _ _ _ _ hbc hbm).mono ?_
  rintro e w' ⟨rfl, rfl⟩
  rw [← hla] at ha1 ⊢
  rw [← hlb] at hb1 ⊢
  have hA := ha1.below hE1
  have hB := hb1.below hE1
  have hl40 : a1.length ≤ 40 := by omega
  have hc40 : a1.length ≤ c := by omega
  clear ha hb ha1 hb1 hla hlb hac hbc
  go_wp2_with fail
  go_loopw [6, 20, 21, 22, 25, 26, 27] (fun i _ _ _ _ _ _ wr => ∃ k : Nat, k ≤ a1.length ∧ i = .int .i64 k ∧ Below w1.heap.size w1 wr) (fun i _ _ _ _ _ _ _ => a1.length - (intOf i).toNat)
  case atStart => exact ⟨0, by omega, rfl, Below.refl _ _⟩
  case round =>
    obtain ⟨k, hk, rfl, hbel⟩ := hrel
    by_cases hlt : k < a1.length
    · have hs : a1[k]? = some a1[k] := by simp [hlt]
      obtain ⟨_, _, e1, _, _, hc⟩ := (hA.below hbel).form
      cases e1
      obtain ⟨b1', o1, rfl, x0, x1, x2, x3⟩ := hc k _ hs
      clear hc hs
      generalize a1[k] = x at *
      obtain ⟨xm, xf, xt, xw⟩ := x
      have j0 := cell_ext x0
      have j1 := cell_ext x1
      have j2 := cell_ext x2
      have j3 := cell_ext x3
      go_wp2_with fail
      refine wp_region_D [(0, true), (1, true), (2, true), (3, true), (5, true), (6, true), (7, true), (8, true), (4, false), (9, false), (10, true)] (by kernel_rfl) (by kernel_rfl) (fun _ _ d _ _ h => by cases d <;> exact h) (fun w2 hE => ?_)
      simp only [pickE, List.getElem?_cons_zero, List.getElem?_cons_succ]
      repeat (first
        | (refine wpD_skip (by rfl) ?_; simp only [Act.put, List.setIfInBounds_toArray, List.set_cons_zero, List.set_cons_succ])
        | (refine wpD_pure (by rfl) (fun W hW => by (dsimp only [Exts] at hW; go_simp; with_reducible rfl)) ?_; simp only [Act.put, List.setIfInBounds_toArray, List.set_cons_zero, List.set_cons_succ]))
      refine wpD_step (by rfl) (fun K hK => ?_)
      go_simp
      have hm := may_calls ⟨xm, xf, xt, xw⟩ w2
      simp only [Sp.v] at hm
      with_reducible refine hm.mono ?_
      rintro e w3 ⟨rfl, hE3⟩
      have hE3 : Ext w2 w3 := hE3
      refine hK _ _ hE3 ?_
      clear hK K
      refine wpD_step (by rfl) (fun K hK => ?_)
      go_simp
      have hm := refMay_calls ⟨xm, xf, xt, xw⟩ w3
      simp only [Sp.v] at hm
      with_reducible refine hm.mono ?_
      rintro e w4 ⟨rfl, hE4⟩
      have hE4 : Ext w3 w4 := hE4
      refine hK _ _ hE4 ?_
      clear hK K
      generalize mayE ⟨xm, xf, xt, xw⟩ = r
      repeat (first
        | (refine wpD_skip (by rfl) ?_; simp only [Act.put, List.setIfInBounds_toArray, List.set_cons_zero, List.set_cons_succ])
        | (refine wpD_pure (by rfl) (fun W hW => by (dsimp only [Exts] at hW; go_simp; with_reducible rfl)) ?_; simp only [Act.put, List.setIfInBounds_toArray, List.set_cons_zero, List.set_cons_succ]))
      refine wpD_nil ?_
      have hbel4 := hbel.trans (Below.mono ((hE.trans hE3).trans hE4) hbel.size)
      go_wp2_with fail
      go_roundw
      case rel => exact ⟨k + 1, by omega, by go_num, hbel4⟩
      case measure => simp [intOf]; omega
    · have hkk : k = a1.length := by omega
      have HS : Hid (clashB a1 b1 = clashB b1 a1) := clash_symm _ _
      go_wp2_with fail
      refine (clash_calls _ _ _ _ _ (hA.below hbel) (hB.below hbel)).mono ?_
      rintro e w2 ⟨rfl, hE2⟩
      have hE2 := hbel.trans (hE2.mono hbel.size)
      go_wp2_with fail
      refine (refClash_calls _ _ _ _ _ (hA.below hE2) (hB.below hE2)).mono ?_
      rintro e w3 ⟨rfl, hE3⟩
      have hE3 := hE2.trans (hE3.mono hE2.size)
      go_wp2_with fail
      refine (clash_calls _ _ _ _ _ (hA.below hE3) (hB.below hE3)).mono ?_
      rintro e w4 ⟨rfl, hE4⟩
      have hE4 := hE3.trans (hE4.mono hE3.size)
      go_wp2_with fail
      refine (clash_calls _ _ _ _ _ (hB.below hE4) (hA.below hE4)).mono ?_
      rintro e w5 ⟨rfl, hE5⟩
      have hE5 := hE4.trans (hE5.mono hE4.size)
      rw [← HS.out]
      generalize clashB a1 b1 = q
      cases q
      all_goals
        go_wp2_with fail
        go_ret
        exact ⟨rfl, hE1.trans (hE5.mono hE1.size)⟩

end Go.Proofs.Yticfgkcdghbklaa
