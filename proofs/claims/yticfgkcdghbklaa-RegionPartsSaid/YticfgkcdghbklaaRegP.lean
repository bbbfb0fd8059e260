/- The walk of the law RegionParts. -/
import Derived.Test.YticfgkcdghbklaaRegS
import Derived.Test.YticfgkcdghbklaaDraw2
namespace Go.Proofs.Yticfgkcdghbklaa
open Go.RowKit

theorem i64_and_le (x : Int) (m : Nat) (hm : m < 9223372036854775808) : 0 ≤ bits .and .i64 x m ∧ bits .and .i64 x m ≤ m := by
  show 0 ≤ IntKind.i64.wrap ((BitVec.ofInt 64 x &&& BitVec.ofInt 64 (m : Int)).toNat : Int) ∧ IntKind.i64.wrap ((BitVec.ofInt 64 x &&& BitVec.ofInt 64 (m : Int)).toNat : Int) ≤ m
  rw [BitVec.toNat_and, BitVec.ofInt_natCast, BitVec.toNat_ofNat, Nat.mod_eq_of_lt (by omega), IntKind.wrap_i64]
  have := Nat.and_le_right (n := (BitVec.ofInt 64 x).toNat) (m := m)
  omega

theorem spans_own {w : World} {base n : Nat} {e : TypeId} {v : Value} {l : List Sp} (h : w.ownsRow base e 4 v n (l.flatMap Sp.cs)) (hn : n = l.length) : Spans w v l := by
  subst hn
  exact row_of_own h

theorem elem_span : ElemT Try.prog 27 31 4 32 := elemT_of (z := .agg #[.int .i64 0, .int .i64 0, .int .i64 0, .bool false]) Try.underlying27 (by kernel_rfl) rfl (by omega)

theorem clash_snoc {a b : List Sp} {n : Nat} (h : n < a.length) : clashB (a.take (n + 1)) b = (clashB (a.take n) b || b.any (fun y => meetB a[n] y)) := by
  unfold clashB
  rw [List.take_succ_eq_append_getElem h, List.any_append]
  simp
theorem clash_one (x y : Sp) : clashB [x] [y] = meetB x y := by simp [clashB]
theorem any_snoc {b : List Sp} {p : Sp → Bool} {n : Nat} (h : n < b.length) : (b.take (n + 1)).any p = ((b.take n).any p || p b[n]) := by
  rw [List.take_succ_eq_append_getElem h, List.any_append]
  simp
def Sp.off (s : Sp) : Sp := ⟨s.mem, s.frm, s.to, false⟩
theorem clash_off (a : List Sp) : clashB (a.map Sp.off) (a.map Sp.off) = false := by
  unfold clashB
  rw [List.any_eq_false]
  intro x hx
  rw [Bool.not_eq_true, List.any_eq_false]
  intro y hy
  obtain ⟨x', _, rfl⟩ := List.mem_map.1 hx
  obtain ⟨y', _, rfl⟩ := List.mem_map.1 hy
  simp [meetB, Sp.off]

set_option maxHeartbeats 1600000 in
theorem regionParts_calls (va vb : Value) (a b : List Sp) (at_ : Int) (w : World) (ha : Spans w va a) (hb : Spans w vb b) :
    Calls Try.prog 4 #[va, vb, .int .i64 at_] w fun e w' => e = .returned (.bool true) ∧ Below w.heap.size w w' := by
  obtain ⟨A, c, rfl, hac, ham, _⟩ := id ha.form
  obtain ⟨B, d, rfl, hbc, hbm, _⟩ := id hb.form
  have ha1 := ha.first (m := min a.length 40) (by omega)
  have hb1 := hb.first (m := min b.length 40) (by omega)
  have hla : (a.take (min a.length 40)).length = min a.length 40 := by rw [List.length_take]; omega
  have hlb : (b.take (min b.length 40)).length = min b.length 40 := by rw [List.length_take]; omega
  generalize a.take (min a.length 40) = a1 at *
  generalize b.take (min b.length 40) = b1 at *
  go_enter Try.func4, Try.ntmps4
  go_wp2_with fail
  refine (shown12_calls w).mono ?_
  rintro e w1 ⟨rfl, hE1⟩
  go_wp2_with fail
  refine (few_calls _ _ _ _ hac ham).mono ?_
  rintro e w' ⟨rfl, rfl⟩
  go_wp2_with fail
  refine (few_calls _ _ _ _ hbc hbm).mono ?_
  rintro e w' ⟨rfl, rfl⟩
  rw [← hla] at ha1 ⊢
  rw [← hlb] at hb1 ⊢
  have hA := ha1.below hE1
  have hB := hb1.below hE1
  have hl40 : a1.length ≤ 40 := by omega
  have hl40' : b1.length ≤ 40 := by omega
  have hc40 : a1.length ≤ c := by omega
  have hd40 : b1.length ≤ d := by omega
  unfold maxLen at ham hbm
  clear ha hb ha1 hb1 hla hlb hac hbc
  go_wp2_with fail
  go_loopw [8, 9, 10] (fun m i _ wr => ∃ n : Nat, n ≤ a1.length ∧ i = .int .i64 n ∧ m = .bool (clashB (a1.take n) b1) ∧ Below w1.heap.size w1 wr) (fun _ i _ _ => a1.length - (intOf i).toNat)
  case atStart => exact ⟨0, by omega, rfl, rfl, Below.refl _ _⟩
  case round =>
    obtain ⟨n, hn, rfl, rfl, hbel⟩ := hrel
    by_cases hlt : n < a1.length
    · have hs : a1[n]? = some a1[n] := by simp [hlt]
      have HS := Lib.hid (clash_snoc (b := b1) hlt)
      generalize a1[n] = x at *
      generalize clashB (a1.take n) b1 = m0 at *
      go_wp2_with fail
      go_loopw [8, 10] (fun m k wr => ∃ q : Nat, q ≤ b1.length ∧ k = .int .i64 q ∧ m = .bool (m0 || (b1.take q).any (fun y => meetB x y)) ∧ Below w1.heap.size w1 wr) (fun _ k _ => b1.length - (intOf k).toNat)
      case atStart => exact ⟨0, by omega, rfl, by simp, hbel⟩
      case round =>
        obtain ⟨q, hq, rfl, rfl, hbel2⟩ := hrel
        by_cases hlt2 : q < b1.length
        · obtain ⟨_, _, e1, _, _, hc⟩ := (hA.below hbel2).form
          cases e1
          obtain ⟨_, _, e2, _, _, hd⟩ := (hB.below hbel2).form
          cases e2
          have hs2 : b1[q]? = some b1[q] := by simp [hlt2]
          have HS2 := Lib.hid (any_snoc (p := fun y => meetB x y) hlt2)
          obtain ⟨b1', o1, rfl, x0, x1, x2, x3⟩ := hc n _ hs
          obtain ⟨b2', o2, rfl, y0, y1, y2, y3⟩ := hd q _ hs2
          clear hc hd hs2
          generalize b1[q] = y at *
          have HM := Lib.hid (clash_one x y)
          obtain ⟨m1, hm1⟩ : ∃ m1 : Bool, m1 = (m0 || (b1.take q).any (fun y => meetB x y)) := ⟨_, rfl⟩
          have HM1 := Lib.hid hm1
          rw [← hm1]
          clear hm1
          obtain ⟨xm, xf, xt, xw⟩ := x
          obtain ⟨ym, yf, yt, yw⟩ := y
          have j0 := cell_ext x0
          have j1 := cell_ext x1
          have j2 := cell_ext x2
          have j3 := cell_ext x3
          have k0 := cell_ext y0
          have k1 := cell_ext y1
          have k2 := cell_ext y2
          have k3 := cell_ext y3
          cases m1 with
          | true =>
            go_wp2_with fail
            refine wp_region_T (.pure 0 <| .pure 1 <| .pure 2 <| .pure 3 <| .pure 4 <| .pure 5 <| .pure 7 <| .pure 8 <| .pure 9 <| .pure 10 <| .two 6 (.eff 11 <| .eff 12 <| .pure 13 <| .pure 14 .nil) 11 (.eff 6 <| .eff 12 <| .pure 13 <| .pure 14 .nil)) (by kernel_rfl) (by kernel_rfl) (fun _ _ d _ _ h => by cases d <;> exact h) (fun w2 hE => ?_)
            simp only [pickT, List.getElem?_cons_zero, List.getElem?_cons_succ]
            repeat (first
              | (refine wpT_skip (by rfl) ?_; simp only [Act.put, List.setIfInBounds_toArray, List.set_cons_zero, List.set_cons_succ])
              | (refine wpT_pure (by rfl) (fun W hW => by (dsimp only [Exts] at hW; go_simp; with_reducible rfl)) ?_; simp only [Act.put, List.setIfInBounds_toArray, List.set_cons_zero, List.set_cons_succ]))
            refine wpT_two ?_ ?_
            all_goals
              refine wpT_pass (by rfl) ?_
              simp only [Act.put, List.setIfInBounds_toArray, List.set_cons_zero, List.set_cons_succ]
              refine wpT_pass (by rfl) ?_
              simp only [Act.put, List.setIfInBounds_toArray, List.set_cons_zero, List.set_cons_succ]
              refine wpT_pass (by rfl) ?_
              simp only [Act.put, List.setIfInBounds_toArray, List.set_cons_zero, List.set_cons_succ]
              repeat (first
                | (refine wpT_skip (by rfl) ?_; simp only [Act.put, List.setIfInBounds_toArray, List.set_cons_zero, List.set_cons_succ])
                | (refine wpT_pure (by rfl) (fun W hW => by (dsimp only [Exts] at hW; go_simp; with_reducible rfl)) ?_; simp only [Act.put, List.setIfInBounds_toArray, List.set_cons_zero, List.set_cons_succ]))

              refine wpT_nil ?_
              have hbel3 := hbel2.trans (Below.mono hE hbel2.size)
              go_wp2_with fail
              go_roundw
              case rel => exact ⟨q + 1, by omega, by go_num, by rw [HS2.out, ← Bool.or_assoc, ← HM1.out] <;> rfl, hbel3⟩
              case measure => simp [intOf]; omega
          | false =>
            go_wp2_with fail
            refine wp_region_T (.pure 0 <| .pure 1 <| .pure 2 <| .pure 3 <| .pure 4 <| .pure 5 <| .pure 7 <| .pure 8 <| .pure 9 <| .pure 10 <| .two 6 (.eff 11 <| .eff 12 <| .pure 13 <| .pure 14 .nil) 11 (.eff 6 <| .eff 12 <| .pure 13 <| .pure 14 .nil)) (by kernel_rfl) (by kernel_rfl) (fun _ _ d _ _ h => by cases d <;> exact h) (fun w2 hE => ?_)
            simp only [pickT, List.getElem?_cons_zero, List.getElem?_cons_succ]
            repeat (first
              | (refine wpT_skip (by rfl) ?_; simp only [Act.put, List.setIfInBounds_toArray, List.set_cons_zero, List.set_cons_succ])
              | (refine wpT_pure (by rfl) (fun W hW => by (dsimp only [Exts] at hW; go_simp; with_reducible rfl)) ?_; simp only [Act.put, List.setIfInBounds_toArray, List.set_cons_zero, List.set_cons_succ]))
            refine wpT_two ?_ ?_
            · refine wpT_step (by rfl) (fun K hK => ?_)
              go_simp
              refine hK _ _ (below_alloc (Below.refl _ _) (Nat.le_refl _) _) ?_
              clear hK K
              refine wpT_step (by rfl) (fun K hK => ?_)
              go_simp
              refine hK _ _ (below_alloc (Below.refl _ _) (Nat.le_refl _) _) ?_
              clear hK K
              have s1 := one_span w2 ⟨xm, xf, xt, xw⟩
              have s2 := one_span (w2.alloc (.cells #[.int .i64 xm, .int .i64 xf, .int .i64 xt, .bool xw] 31)) ⟨ym, yf, yt, yw⟩
              rw [show (w2.alloc (.cells #[.int .i64 xm, .int .i64 xf, .int .i64 xt, .bool xw] 31)).heap.size = w2.heap.size + 1 from by simp] at s2
              have s1 := s1.below (below_alloc (Below.refl _ _) (Nat.le_refl _) (.cells #[.int .i64 ym, .int .i64 yf, .int .i64 yt, .bool yw] 31))
              have hE2 : Ext w2 ((w2.alloc (.cells #[.int .i64 xm, .int .i64 xf, .int .i64 xt, .bool xw] 31)).alloc (.cells #[.int .i64 ym, .int .i64 yf, .int .i64 yt, .bool yw] 31)) := below_alloc (below_alloc (Below.refl _ _) (Nat.le_refl _) _) (by simp) _
              refine wpT_step (by rfl) (fun K hK => ?_)
              go_simp
              with_reducible refine (clash_calls _ _ _ _ _ s1 s2).mono ?_
              rintro e w3 ⟨rfl, hE3⟩
              have hE3 : Ext _ w3 := hE3
              refine hK _ _ hE3 ?_
              clear hK K
              rw [HM.out]
              generalize meetB ⟨xm, xf, xt, xw⟩ ⟨ym, yf, yt, yw⟩ = mm at *
              repeat (first
                | (refine wpT_skip (by rfl) ?_; simp only [Act.put, List.setIfInBounds_toArray, List.set_cons_zero, List.set_cons_succ])
                | (refine wpT_pure (by rfl) (fun W hW => by (dsimp only [Exts] at hW; go_simp; with_reducible rfl)) ?_; simp only [Act.put, List.setIfInBounds_toArray, List.set_cons_zero, List.set_cons_succ]))

              refine wpT_nil ?_
              have hbel3 := hbel2.trans (Below.mono ((hE.trans hE2).trans hE3) hbel2.size)
              go_wp2_with fail
              go_roundw
              case rel => exact ⟨q + 1, by omega, by go_num, by rw [HS2.out, ← Bool.or_assoc, ← HM1.out] <;> simp, hbel3⟩
              case measure => simp [intOf]; omega
            · refine wpT_step (by rfl) (fun K hK => ?_)
              go_simp
              refine hK _ _ (below_alloc (Below.refl _ _) (Nat.le_refl _) _) ?_
              clear hK K
              refine wpT_step (by rfl) (fun K hK => ?_)
              go_simp
              refine hK _ _ (below_alloc (Below.refl _ _) (Nat.le_refl _) _) ?_
              clear hK K
              have s1 := one_span w2 ⟨ym, yf, yt, yw⟩
              have s2 := one_span (w2.alloc (.cells #[.int .i64 ym, .int .i64 yf, .int .i64 yt, .bool yw] 31)) ⟨xm, xf, xt, xw⟩
              rw [show (w2.alloc (.cells #[.int .i64 ym, .int .i64 yf, .int .i64 yt, .bool yw] 31)).heap.size = w2.heap.size + 1 from by simp] at s2
              have s1 := s1.below (below_alloc (Below.refl _ _) (Nat.le_refl _) (.cells #[.int .i64 xm, .int .i64 xf, .int .i64 xt, .bool xw] 31))
              have hE2 : Ext w2 ((w2.alloc (.cells #[.int .i64 ym, .int .i64 yf, .int .i64 yt, .bool yw] 31)).alloc (.cells #[.int .i64 xm, .int .i64 xf, .int .i64 xt, .bool xw] 31)) := below_alloc (below_alloc (Below.refl _ _) (Nat.le_refl _) _) (by simp) _
              refine wpT_step (by rfl) (fun K hK => ?_)
              go_simp
              with_reducible refine (clash_calls _ _ _ _ _ s2 s1).mono ?_
              rintro e w3 ⟨rfl, hE3⟩
              have hE3 : Ext _ w3 := hE3
              refine hK _ _ hE3 ?_
              clear hK K
              rw [HM.out]
              generalize meetB ⟨xm, xf, xt, xw⟩ ⟨ym, yf, yt, yw⟩ = mm at *
              repeat (first
                | (refine wpT_skip (by rfl) ?_; simp only [Act.put, List.setIfInBounds_toArray, List.set_cons_zero, List.set_cons_succ])
                | (refine wpT_pure (by rfl) (fun W hW => by (dsimp only [Exts] at hW; go_simp; with_reducible rfl)) ?_; simp only [Act.put, List.setIfInBounds_toArray, List.set_cons_zero, List.set_cons_succ]))

              refine wpT_nil ?_
              have hbel3 := hbel2.trans (Below.mono ((hE.trans hE2).trans hE3) hbel2.size)
              go_wp2_with fail
              go_roundw
              case rel => exact ⟨q + 1, by omega, by go_num, by rw [HS2.out, ← Bool.or_assoc, ← HM1.out] <;> simp, hbel3⟩
              case measure => simp [intOf]; omega
        · have hqq : q = b1.length := by omega
          rw [hqq, List.take_length]
          go_wp2_with fail
          go_roundw
          case rel => exact ⟨n + 1, by omega, by go_num, by rw [HS.out], hbel2⟩
          case measure => simp [intOf]; omega
    · have hnn : n = a1.length := by omega
      have HM : Hid (clashB a1 b1 = clashB (a1.take n) b1) := by show _ = _; rw [hnn, List.take_length]
      rw [← HM.out]
      clear HM hnn
      have hown0 := World.ownsRow_made (base := wr.heap.size) (e := 31) (size := 4) wr #[] 0 (Nat.le_refl _) (Nat.zero_le _) rfl
      have hb0 : Below wr.heap.size wr (wr.alloc (.cells #[] 31)) := below_alloc (Below.refl _ _) (Nat.le_refl _) _
      go_wp2_with fail
      go_loopw [11, 12, 13] (fun v i _ wr' => ∃ k : Nat, k ≤ a1.length ∧ i = .int .i64 k ∧ wr'.ownsRow wr.heap.size 31 4 v k (((a1.take k).map Sp.off).flatMap Sp.cs) ∧ Below wr.heap.size wr wr') (fun _ i _ _ => a1.length - (intOf i).toNat)
      case atStart => exact ⟨0, by omega, rfl, by simpa using hown0, hb0⟩
      case round =>
        obtain ⟨k, hk, rfl, hown, hbel2⟩ := hrel
        by_cases hlt2 : k < a1.length
        · obtain ⟨_, _, e1, _, _, hc⟩ := (hA.below (hbel.trans (hbel2.mono hbel.size))).form
          cases e1
          have hs : a1[k]? = some a1[k] := by simp [hlt2]
          have HS : Hid (((a1.take (k + 1)).map Sp.off).flatMap Sp.cs = ((a1.take k).map Sp.off).flatMap Sp.cs ++ (a1[k].off).cs) := by
            show _ = _
            rw [List.take_succ_eq_append_getElem hlt2, List.map_append, List.flatMap_append]
            simp
          obtain ⟨b1', o1, rfl, x0, x1, x2, x3⟩ := hc k _ hs
          have hl1 := World.block_lt_of_cell? _ _ x0
          have hl1 : b1' < wr.heap.size := hl1
          have hn1 : b1' ≠ wr.heap.size := by omega
          clear hc hs
          generalize a1[k] = x at *
          obtain ⟨xm, xf, xt, xw⟩ := x
          have hsz := hbel2.size
          have hrow := row_new (wr.alloc (.cells #[.int .i64 xm, .int .i64 xf, .int .i64 xt, .bool false] 31)) #[.int .i64 xm, .int .i64 xf, .int .i64 xt, .bool false] 31 1 4 rfl (by decide)
          rw [show (wr.alloc (.cells #[.int .i64 xm, .int .i64 xf, .int .i64 xt, .bool false] 31)).heap.size = wr.heap.size + 1 from by simp] at hrow
          go_wp2_with (at_builtin; refine stopped ?_)
          refine wpList_append_row rfl rfl elem_span ((hown.alloc _).alloc _) rfl hrow rfl (by intro u hu; simp at hu; rcases hu with rfl | rfl | rfl | rfl <;> rfl) (by omega) (by omega) (by simp; omega) ?_
          intro v3 w3 hown3 hg3 _
          have hbel3 := below_own (below_alloc (below_alloc hbel2 hsz _) (by simp; omega) _) (by simp; omega) ((hown.alloc _).alloc _) (Nat.le_refl _) hg3
          clear hrow hg3 hown
          go_wp2_with fail
          go_roundw
          case rel => exact ⟨k + 1, by omega, by go_num, by rw [HS.out]; exact hown3, hbel3⟩
          case measure => simp [intOf]; omega
        · have hkk : k = a1.length := by omega
          rw [hkk, List.take_length] at hown
          have hR := spans_own hown (by simp)
          have hbel3 := hbel.trans (hbel2.mono hbel.size)
          have hA := hA.below hbel3
          have hB := hB.below hbel3
          clear hown hkk hlt hbel hbel2
          obtain ⟨x, hx, hx1⟩ : ∃ x : Nat, bits .and .i64 at_ 1023 = x ∧ x ≤ 1023 := by
            obtain ⟨h1, h2⟩ := i64_and_le at_ 1023 (by omega)
            exact ⟨(bits .and .i64 at_ 1023).toNat, (Int.toNat_of_nonneg h1).symm, by simp at h2; omega⟩
          go_wp2_with fail
          have hF0 : Below wr.heap.size wr (((wr.alloc (.cells #[.int .i64 1, .int .i64 0, .int .i64 x, .bool true] 31)).alloc (.cells #[.int .i64 1, .int .i64 x, .int .i64 1024, .bool true] 31)).alloc (.cells #[.int .i64 0, .int .i64 0, .int .i64 1024, .bool true] 31)) := below_alloc (below_alloc (below_alloc (Below.refl _ _) (Nat.le_refl _) _) (by simp) _) (by simp; omega) _
          have o1 := one_span wr ⟨1, 0, x, true⟩
          have o2 := one_span (wr.alloc (.cells #[.int .i64 1, .int .i64 0, .int .i64 x, .bool true] 31)) ⟨1, x, 1024, true⟩
          have o3 := one_span ((wr.alloc (.cells #[.int .i64 1, .int .i64 0, .int .i64 x, .bool true] 31)).alloc (.cells #[.int .i64 1, .int .i64 x, .int .i64 1024, .bool true] 31)) ⟨0, 0, 1024, true⟩
          rw [show (wr.alloc (.cells #[.int .i64 1, .int .i64 0, .int .i64 x, .bool true] 31)).heap.size = wr.heap.size + 1 from by simp] at o2
          rw [show ((wr.alloc (.cells #[.int .i64 1, .int .i64 0, .int .i64 x, .bool true] 31)).alloc (.cells #[.int .i64 1, .int .i64 x, .int .i64 1024, .bool true] 31)).heap.size = wr.heap.size + 1 + 1 from by simp] at o3
          have o1 := (o1.below (below_alloc (Below.refl _ _) (Nat.le_refl _) (.cells #[.int .i64 1, .int .i64 x, .int .i64 1024, .bool true] 31))).below (below_alloc (Below.refl _ _) (Nat.le_refl _) (.cells #[.int .i64 0, .int .i64 0, .int .i64 1024, .bool true] 31))
          have o2 := o2.below (below_alloc (Below.refl _ _) (Nat.le_refl _) (.cells #[.int .i64 0, .int .i64 0, .int .i64 1024, .bool true] 31))
          simp only at o1 o2 o3
          have hA := hA.below hF0
          have hB := hB.below hF0
          have hR := hR.below hF0
          generalize ((wr.alloc (.cells #[.int .i64 1, .int .i64 0, .int .i64 x, .bool true] 31)).alloc (.cells #[.int .i64 1, .int .i64 x, .int .i64 1024, .bool true] 31)).alloc (.cells #[.int .i64 0, .int .i64 0, .int .i64 1024, .bool true] 31) = W at *
          refine (clash_calls _ _ _ _ _ hA hB).mono ?_
          rintro e W1 ⟨rfl, hG1⟩
          have hR := hR.below hG1
          have o1 := o1.below hG1
          have o2 := o2.below hG1
          have o3 := o3.below hG1
          have hF1 := hF0.trans (hG1.mono hF0.size)
          generalize clashB a1 b1 = q
          have hqq : (q == q) = true := by cases q <;> rfl
          go_wp2_with fail
          refine (clash_calls _ _ _ _ _ hR hR).mono ?_
          rintro e W2 ⟨rfl, hG2⟩
          have o1 := o1.below hG2
          have o2 := o2.below hG2
          have o3 := o3.below hG2
          have hF2 := hF1.trans (hG2.mono hF1.size)
          rw [clash_off]
          go_wp2_with fail
          refine (clash_calls _ _ _ _ _ o1 o2).mono ?_
          rintro e W3 ⟨rfl, hG3⟩
          have o1 := o1.below hG3
          have o2 := o2.below hG3
          have o3 := o3.below hG3
          have hF3 := hF2.trans (hG3.mono hF2.size)
          rw [show clashB [⟨1, 0, x, true⟩] [⟨1, x, 1024, true⟩] = false from by rw [clash_one]; simp [meetB]]
          go_wp2_with fail
          refine (clash_calls _ _ _ _ _ o1 o3).mono ?_
          rintro e W4 ⟨rfl, hG4⟩
          have o1 := o1.below hG4
          have o2 := o2.below hG4
          have hF4 := hF3.trans (hG4.mono hF3.size)
          rw [show clashB [⟨1, 0, x, true⟩] [⟨0, 0, 1024, true⟩] = false from by rw [clash_one]; simp [meetB]]
          go_wp2_with fail
          refine (clash_calls _ _ _ _ _ o2 o2).mono ?_
          rintro e W5 ⟨rfl, hG5⟩
          have o1 := o1.below hG5
          have hF5 := hF4.trans (hG5.mono hF4.size)
          rw [show clashB [⟨1, x, 1024, true⟩] [⟨1, x, 1024, true⟩] = true from by rw [clash_one]; simp [meetB]; omega]
          go_wp2_with fail
          refine (clash_calls _ _ _ _ _ o1 o1).mono ?_
          rintro e W6 ⟨rfl, hG6⟩
          have hF6 := hF5.trans (hG6.mono hF5.size)
          rw [show clashB [⟨1, 0, x, true⟩] [⟨1, 0, x, true⟩] = decide (0 < (x : Int)) from by rw [clash_one, Bool.eq_iff_iff]; simp [meetB]]
          have hF := hE1.trans ((hbel3.trans (hF6.mono hbel3.size)).mono hE1.size)
          cases hz : decide (0 < (x : Int))
          all_goals
            have h0 := hz
            simp at h0
            clear hz
            go_wp2_with fail
            go_ret
            exact ⟨rfl, hF⟩

end Go.Proofs.Yticfgkcdghbklaa
