/- The walk of the law SumLinear. -/
import Derived.Test.YticfgkcdghbklaaSumL
import Derived.Test.YticfgkcdghbklaaSumQ
import Derived.Deep.RegionHeld3
namespace Go.Proofs.Yticfgkcdghbklaa
open Go.RowKit

set_option maxHeartbeats 1600000 in
theorem sumLinear_calls (v1 v2 v3 : Value) (a b by_ : List Int) (w : World) (h1 : Ints .u8 w v1 a) (h2 : Ints .u8 w v2 b) (h3 : Ints .u8 w v3 by_) (z1 : Bytes a) (z2 : Bytes b) (z3 : Bytes by_) :
    Calls Try.prog 3 #[v1, v2, v3] w fun e w' => e = .returned (.bool true) ∧ Below w.heap.size w w' := by
  obtain ⟨A1, c1, rfl, hl1, hm1, hc1⟩ := h1.form
  obtain ⟨A2, c2, rfl, hl2, hm2, hc2⟩ := h2.form
  obtain ⟨A3, c3, rfl, hl3, hm3, hc3⟩ := h3.form
  unfold maxLen at hm1 hm2 hm3
  obtain ⟨n, hn⟩ : ∃ n : Nat, Hid (min (a.length : Int) (min (b.length : Int) (min (by_.length : Int) 300)) = (n : Int)) := ⟨(min (a.length : Int) (min (b.length : Int) (min (by_.length : Int) 300))).toNat, by show _ = _; omega⟩
  go_enter Try.func3, Try.ntmps3
  go_wp2_with fail
  refine (shown07_calls w).mono ?_
  rintro e w1 ⟨rfl, hb1⟩
  go_wp2_with fail
  rw [hn.out]
  have hna : n ≤ a.length := by have := hn.out; omega
  have hnb : n ≤ b.length := by have := hn.out; omega
  have hny : n ≤ by_.length := by have := hn.out; omega
  have hn300 : n ≤ 300 := by have := hn.out; omega
  have hown1 := World.ownsRow_made (base := w.heap.size) (e := 5) (size := 1) w1 #[] 0 hb1.size (Nat.zero_le _) rfl
  have hown2 := World.ownsRow_made (base := w.heap.size) (e := 5) (size := 1) (w1.alloc (.cells #[] 5)) #[] 0 (by have := hb1.size; simp; omega) (Nat.zero_le _) rfl
  have hb2 : Below w.heap.size w ((w1.alloc (.cells #[] 5)).alloc (.cells #[] 5)) := below_alloc (below_alloc hb1 hb1.size _) (by have := hb1.size; simp; omega) _
  go_loopw [9, 10, 11, 12] (fun x y m i wr => ∃ k : Nat, k ≤ n ∧ i = .int .i64 k ∧ m = .int .i64 (manyL (by_.take k) : Nat) ∧
      wr.ownsRow w.heap.size 5 1 x k ((xorL (a.take k) (by_.take k)).map (.int .u8)) ∧ wr.ownsRow w.heap.size 5 1 y k ((xorL (b.take k) (by_.take k)).map (.int .u8)) ∧ Sep x y ∧ Below w.heap.size w wr)
    (fun _ _ _ i _ => n - (intOf i).toNat)
  case atStart => exact ⟨0, by omega, rfl, rfl, hown1.alloc _, by simpa [xorL] using hown2, by intro k hk; simp [Value.ownBlock] at hk ⊢; omega, hb2⟩
  case round =>
    obtain ⟨k, hk, rfl, rfl, ho1, ho2, hsep, hbel⟩ := hrel
    clear hown1 hown2 hb2 hb1
    have hsz := hbel.size
    have hml : manyL (by_.take k) ≤ k := by unfold manyL; exact Nat.le_trans (List.length_filter_le _ _) (by simp; omega)
    by_cases hlt : k < n
    · obtain ⟨b1, o1, rfl, hy1⟩ := hc1 k (by omega)
      obtain ⟨b2, o2, rfl, hy2⟩ := hc2 k (by omega)
      obtain ⟨b3, o3, rfl, hy3⟩ := hc3 k (by omega)
      have lb1 := World.block_lt_of_cell? w _ hy1
      have lb2 := World.block_lt_of_cell? w _ hy2
      have lb3 := World.block_lt_of_cell? w _ hy3
      have hx1 := (hbel.cell lb1).trans hy1
      have hx3 := (hbel.cell lb3).trans hy3
      clear hc1 hc2 hc3
      have hn1 := own_ne ho1 lb1
      have hn3 := own_ne ho1 lb3
      have hk0 : (0 : Int) ≤ (k : Int) := Int.natCast_nonneg _
      have hka : (k : Int) < (a.length : Int) := by omega
      have hkb : (k : Int) < (b.length : Int) := by omega
      have hky : (k : Int) < (by_.length : Int) := by omega
      go_wp2_with fail
      go_region_held3 (fun W : World => W.cell? ⟨b1, o1 + k, none⟩ = some (.int .u8 (a[k]?.getD 0)) ∧ W.cell? ⟨b3, o3 + k, none⟩ = some (.int .u8 (by_[k]?.getD 0)))
        (first | go_keep | exact ⟨hg2.cell (by go_keep) hn1, hg2.cell (by go_keep) hn3⟩)
        ((refine step_append_row rfl (by rfl) elem_u8 (ownsRow_drew (ho1.alloc _)) (by rfl) (row_new wr _ 5 1 1 rfl (by decide)).drew (by rfl) (by intro u hu; simp at hu; subst hu; rfl) (by omega) (by omega) (by simp; omega) ?_; intro v2 w2 hown2 hg2 hnear2))
      have hbel2 := below_own (below_alloc hbel (by omega) _).drew (by simp; omega) (ownsRow_drew (ho1.alloc _)) (Nat.le_refl _) hg2
      have ho2' := (ownsRow_drew (ho2.alloc _)).kept hg2 hsep.or
      have hsep2 := hsep.near hnear2 (fun k hk => by have := (ho2.lt k hk).2; simp; omega)
      have hx2' := (hbel2.cell lb2).trans hy2
      have hx3' := (hbel2.cell lb3).trans hy3
      have hn2' := own_ne ho2' lb2
      have hn3' := own_ne ho2' lb3
      have hsz2 := hbel2.size
      clear hx1 hx3 hn1 hn3 hg2 hnear2 ho1 ho2 hsep hbel hsz
      rename_i hHeld
      clear hHeld
      go_wp2_with fail
      go_region_held3 (fun W : World => W.cell? ⟨b2, o2 + k, none⟩ = some (.int .u8 (b[k]?.getD 0)) ∧ W.cell? ⟨b3, o3 + k, none⟩ = some (.int .u8 (by_[k]?.getD 0)))
        (first | go_keep | exact ⟨hg3.cell (by go_keep) hn2', hg3.cell (by go_keep) hn3'⟩)
        ((refine step_append_row rfl (by rfl) elem_u8 (ownsRow_drew (ho2'.alloc _)) (by rfl) (row_new w2 _ 5 1 1 rfl (by decide)).drew (by rfl) (by intro u hu; simp at hu; subst hu; rfl) (by omega) (by omega) (by simp; omega) ?_; intro v3 w3 hown3 hg3 hnear3))
      have hbel3 := below_own (below_alloc hbel2 (by omega) _).drew (by simp; omega) (ownsRow_drew (ho2'.alloc _)) (Nat.le_refl _) hg3
      have ho1' := (ownsRow_drew (hown2.alloc _)).kept hg3 hsep2.symm.or
      have hsep3 := hsep2.symm.near hnear3 (fun k hk => by have := (hown2.lt k hk).2; simp; omega)
      have hx3 := (hbel3.cell lb3).trans hy3
      have HX1 := Lib.hid (xorL_snoc a by_ k (by omega) (by omega))
      have HX2 := Lib.hid (xorL_snoc b by_ k (by omega) (by omega))
      have HM := Lib.hid (manyL_snoc by_ k (by omega))
      have HB1 := Lib.hid (u8_xor (a[k]?.getD 0) (by_[k]?.getD 0) (bytes_at z1 (by omega)).1 (by have := bytes_at z1 (k := k) (by omega); omega) (bytes_at z3 (by omega)).1 (by have := bytes_at z3 (k := k) (by omega); omega))
      have HB2 := Lib.hid (u8_xor (b[k]?.getD 0) (by_[k]?.getD 0) (bytes_at z2 (by omega)).1 (by have := bytes_at z2 (k := k) (by omega); omega) (bytes_at z3 (by omega)).1 (by have := bytes_at z3 (k := k) (by omega); omega))
      rename_i hHeld
      clear hHeld hx2' hx3' hn2' hn3' hg3 hnear3 hsep2 hbel2 ho2' hy1 hy2 hy3 h1 h2 h3 hsz2
      by_cases hzero : by_[k]?.getD 0 = 0
      · have hq : (by_[k]?.getD 0 != 0) = false := by simp [hzero]
        have HZ := Lib.hid hzero
        clear hzero
        go_wp2_with fail
        go_roundw
        case measure => simp [intOf]; omega
        case rel =>
          refine ⟨k + 1, by omega, by go_num, ?_, ?_, ?_, hsep3.symm, hbel3⟩
          · rw [HM.out, if_pos HZ.out]; rfl
          · rw [HX1.out, List.map_append, ← HB1.out]; exact ho1'
          · rw [HX2.out, List.map_append, ← HB2.out]; exact hown3
      · have hq : (by_[k]?.getD 0 != 0) = true := by simp [hzero]
        have HZ := Lib.hid hzero
        clear hzero
        go_wp2_with fail
        go_roundw
        case measure => simp [intOf]; omega
        case rel =>
          refine ⟨k + 1, by omega, by go_num, ?_, ?_, ?_, hsep3.symm, hbel3⟩
          · rw [HM.out, if_neg HZ.out]; go_num
          · rw [HX1.out, List.map_append, ← HB1.out]; exact ho1'
          · rw [HX2.out, List.map_append, ← HB2.out]; exact hown3
    · obtain rfl : k = n := by omega
      have ha := (h1.first (m := k) hna).below (hbel.mono (Nat.le_refl _))
      have hb := (h2.first (m := k) hnb).below hbel
      have hx := ints_of_own ho1
      have hy := ints_of_own ho2
      have hd : Bytes (by_.take k) := bytes_take z3 k
      have hax := Lib.hid (crc_xor (a.take k) (by_.take k) (by simp; omega))
      have hbx := Lib.hid (crc_xor (b.take k) (by_.take k) (by simp; omega))
      have l1 := crc_lt (bytes_take z1 k)
      have l2 := crc_lt (bytes_take z2 k)
      have l3 := crc_lt (xorL_bytes (bytes_take z1 k) hd)
      have l4 := crc_lt (xorL_bytes (bytes_take z2 k) hd)
      have e1 := u32_xor_nat _ _ l1 l3
      have e2 := u32_xor_nat _ _ l2 l4
      rw [hax.out] at e1
      rw [hbx.out] at e2
      have lr := raw_lt (r := 0) (by omega) hd
      have p0 := Lib.hid (raw_none (d := by_.take k))
      have p1 := Lib.hid (raw_one hd)
      clear hc1 hc2 hc3
      generalize raw 0 (by_.take k) = o at *
      go_wp2_with fail
      with_reducible refine (sum_calls _ _ _ ha (bytes_take z1 k)).mono ?_
      rintro e w' ⟨rfl, rfl⟩
      go_wp2_with fail
      with_reducible refine (sum_calls _ _ _ hx (xorL_bytes (bytes_take z1 k) hd)).mono ?_
      rintro e w' ⟨rfl, rfl⟩
      go_wp2_with fail
      with_reducible refine (sum_calls _ _ _ hb (bytes_take z2 k)).mono ?_
      rintro e w' ⟨rfl, rfl⟩
      go_wp2_with fail
      with_reducible refine (sum_calls _ _ _ hy (xorL_bytes (bytes_take z2 k) hd)).mono ?_
      rintro e w' ⟨rfl, rfl⟩
      generalize manyL (by_.take k) = m at *
      rcases Nat.lt_trichotomy m 1 with hm | hm | hm
      · obtain rfl : m = 0 := by omega
        obtain rfl := p0.out rfl
        go_wp2_with fail
        go_ret
        exact ⟨rfl, hbel⟩
      · subst hm
        have hone := p1.out rfl
        have h1 : ((o : Int) != 0) = true := by simp; omega
        go_wp2_with fail
        go_ret
        exact ⟨rfl, hbel⟩
      · have h1 : ((m : Int) != 1) = true := by simp; omega
        have h2 : (0 : Int) < (m : Int) := by omega
        go_wp2_with fail
        go_ret
        exact ⟨rfl, hbel⟩
end Go.Proofs.Yticfgkcdghbklaa
