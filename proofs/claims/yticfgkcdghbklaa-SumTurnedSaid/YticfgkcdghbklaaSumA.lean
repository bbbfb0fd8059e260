/- The walk of the law SumAll. -/
import Derived.Test.YticfgkcdghbklaaSumR
namespace Go.Proofs.Yticfgkcdghbklaa
open Go.RowKit

def openOut (zs : List Int) : List Int := if openOk zs then zs.take (zs.length - 4) else []
theorem openOut_bytes {zs : List Int} (h : Bytes zs) : Bytes (openOut zs) := by
  unfold openOut
  split
  · exact bytes_take h _
  · intro z hz; cases hz

def openErr (zs : List Int) : Int := if openOk zs then 0 else 2

theorem OpenPost.ints {zs : List Int} {w w' : World} {e : Ending} (h : OpenPost zs w e w') :
    ∃ v', e = .returned (.tuple #[v', .int .i64 (openErr zs)]) ∧ Below w.heap.size w w' ∧ Ints .u8 w' v' (openOut zs) := by
  obtain ⟨v', rfl, hb, h1, h2⟩ := h
  refine ⟨v', rfl, hb, ?_⟩
  unfold openOut
  by_cases hk : openOk zs
  · rw [if_pos hk]; exact ints_of_own (h1 hk)
  · rw [if_neg hk, h2 hk]; exact row_nil _ _

set_option maxHeartbeats 400000 in
theorem short_calls (A : Option Addr) (n c : Nat) (w : World) (hn : n ≤ c) (hc : c ≤ maxLen) :
    Calls Try.prog 30 #[.slice A n c] w fun e w' => e = .returned (.slice A (min n 2000) c) ∧ w = w' := by
  unfold maxLen at hc
  rcases Nat.lt_or_ge 2000 n with h | h
  · have h1 : (2000 : Int) < (n : Int) := by omega
    have h2 : (2000 : Int) ≤ (c : Int) := by omega
    go_enter Try.func30, Try.ntmps30
    go_wp2
    go_ret
    exact ⟨by rw [show min n 2000 = 2000 by omega]; rfl, rfl⟩
  · have h1 : ¬ (2000 : Int) < (n : Int) := by omega
    go_enter Try.func30, Try.ntmps30
    go_wp2
    go_ret
    exact ⟨rfl, rfl⟩

set_option maxHeartbeats 3200000 in
theorem sumAll_calls (v : Value) (zs : List Int) (w : World) (hv : Ints .u8 w v zs) (hz : Bytes zs) :
    Calls Try.prog 10 #[v] w fun e w' => e = .returned (.bool true) ∧ Below w.heap.size w w' := by
  have hv0 := hv
  obtain ⟨A, c, rfl, hlc, hcm, _, hA⟩ := hv
  clear hA
  have hp := hv0.first (m := min zs.length 2000) (by omega)
  have hpl : (zs.take (min zs.length 2000)).length ≤ 2000 := by rw [List.length_take]; omega
  have hpz : Bytes (zs.take (min zs.length 2000)) := bytes_take hz _
  generalize zs.take (min zs.length 2000) = p at *
  go_enter Try.func10, Try.ntmps10
  go_wp2_with fail
  refine (shown07_calls w).mono ?_
  rintro e w1 ⟨rfl, hb1⟩
  go_wp2_with fail
  refine (short_calls _ _ _ _ hlc hcm).mono ?_
  rintro e w' ⟨rfl, rfl⟩
  generalize min zs.length 2000 = m at *
  go_wp2_with (at_builtin; refine stopped ?_)
  have hown := World.ownsRow_made (base := w1.heap.size) (e := 5) (size := 1) w1 #[] 0 (Nat.le_refl _) (Nat.zero_le _) rfl
  have hrow := Row.below (hp.below hb1) (below_alloc (Below.refl _ _) (Nat.le_refl _) (.cells #[] 5))
  refine wpList_append_row rfl rfl elem_u8 hown rfl hrow rfl (one_ints _ _) (by omega) (by omega) (by simp) ?_
  intro v2 w2 hown2 hg2 _
  have hb2 := below_own (below_alloc hb1 hb1.size _) (by have := hb1.size; simp; omega) hown hb1.size hg2
  rw [List.nil_append] at hown2
  have hi2 := ints_of_own hown2
  clear hown hrow hg2 hown2
  go_wp2_with fail
  refine (open_calls _ p _ hi2 hpz (by omega)).mono ?_
  intro e w3 h
  obtain ⟨v3, rfl, hb3, hi3⟩ := h.ints
  clear h
  have hb3 := hb2.trans (hb3.mono hb2.size)
  go_wp2_with fail
  refine (refOpen_calls _ p _ (hp.below hb3) hpz (by omega)).mono ?_
  intro e w4 h
  obtain ⟨v4, rfl, hb4, hi4⟩ := h.ints
  clear h
  have hi3 := hi3.below hb4
  have hb4 := hb3.trans (hb4.mono hb3.size)
  have hp4 := hp.below hb4
  clear hi2 hp hb1 hb2 hb3 hv0
  go_wp2_with fail
  have k3 := conv_ext (P := Try.prog) hi3 Try.underlying22 Try.underlying5 Try.underlying9
  have k4 := conv_ext (P := Try.prog) hi4 Try.underlying22 Try.underlying5 Try.underlying9
  clear hi3 hi4
  generalize openErr p = er
  generalize openOut p = q at *
  refine wp_region_D [(0, true), (1, true), (2, true), (4, true), (3, false), (5, false), (6, true), (7, true), (8, true), (9, true), (12, true), (10, false), (11, true), (13, false), (14, true), (15, true), (16, true), (17, true), (18, true), (19, true), (20, true), (21, true), (22, true), (23, true), (24, true), (25, true), (26, true), (27, true), (28, true), (29, true)] (by kernel_rfl) (by kernel_rfl) (fun _ _ d _ _ h => by cases d <;> exact h) (fun w5 hE5 => ?_)
  simp only [pickE, List.getElem?_cons_zero, List.getElem?_cons_succ]
  repeat (first
    | (refine wpD_skip (by rfl) ?_; simp only [Act.put, List.setIfInBounds_toArray, List.set_cons_zero, List.set_cons_succ])
    | (refine wpD_pure (by rfl) (fun W hW => by (dsimp only [Exts] at hW; go_simp; with_reducible rfl)) ?_; simp only [Act.put, List.setIfInBounds_toArray, List.set_cons_zero, List.set_cons_succ]))
  refine wpD_step (by rfl) (fun K hK => ?_)
  go_simp
  with_reducible refine (sum_calls _ p _ (hp4.ext hE5) hpz).mono ?_
  rintro e w' ⟨rfl, rfl⟩
  refine hK _ _ (Ext.refl _) ?_
  clear hK K
  refine wpD_step (by rfl) (fun K hK => ?_)
  go_simp
  with_reducible refine (refSum_calls _ p _ (hp4.ext hE5) hpz).mono ?_
  rintro e w' ⟨rfl, rfl⟩
  refine hK _ _ (Ext.refl _) ?_
  clear hK K
  repeat (first
    | (refine wpD_skip (by rfl) ?_; simp only [Act.put, List.setIfInBounds_toArray, List.set_cons_zero, List.set_cons_succ])
    | (refine wpD_pure (by rfl) (fun W hW => by (dsimp only [Exts] at hW; go_simp; with_reducible rfl)) ?_; simp only [Act.put, List.setIfInBounds_toArray, List.set_cons_zero, List.set_cons_succ]))
  refine wpD_step (by rfl) (fun K hK => ?_)
  go_simp
  with_reducible refine (seal_calls _ p _ (hp4.ext hE5) hpz (by omega)).mono ?_
  rintro e w6 ⟨v6, rfl, hown6, hE6⟩
  have hE6 : Ext w5 w6 := hE6
  refine hK _ _ hE6 ?_
  clear hK K
  have k6 := conv_ext (P := Try.prog) (ints_of_own hown6) Try.underlying22 Try.underlying5 Try.underlying9
  repeat (first
    | (refine wpD_skip (by rfl) ?_; simp only [Act.put, List.setIfInBounds_toArray, List.set_cons_zero, List.set_cons_succ])
    | (refine wpD_pure (by rfl) (fun W hW => by (dsimp only [Exts] at hW; go_simp; with_reducible rfl)) ?_; simp only [Act.put, List.setIfInBounds_toArray, List.set_cons_zero, List.set_cons_succ]))
  refine wpD_step (by rfl) (fun K hK => ?_)
  go_simp
  with_reducible refine (refSeal_calls _ p _ (hp4.ext (Ext.trans hE5 hE6)) hpz (by omega)).mono ?_
  rintro e w7 ⟨v7, rfl, hown7, hE7⟩
  have hE7 : Ext w6 w7 := hE7
  refine hK _ _ hE7 ?_
  clear hK K
  have k7 := conv_ext (P := Try.prog) (ints_of_own hown7) Try.underlying22 Try.underlying5 Try.underlying9
  repeat (first
    | (refine wpD_skip (by rfl) ?_; simp only [Act.put, List.setIfInBounds_toArray, List.set_cons_zero, List.set_cons_succ])
    | (refine wpD_pure (by rfl) (fun W hW => by (dsimp only [Exts] at hW; go_simp; with_reducible rfl)) ?_; simp only [Act.put, List.setIfInBounds_toArray, List.set_cons_zero, List.set_cons_succ]))
  refine wpD_nil ?_
  go_wp2_with fail
  go_ret
  exact ⟨rfl, hb4.trans (Below.mono ((hE5.trans hE6).trans hE7) hb4.size)⟩

end Go.Proofs.Yticfgkcdghbklaa
