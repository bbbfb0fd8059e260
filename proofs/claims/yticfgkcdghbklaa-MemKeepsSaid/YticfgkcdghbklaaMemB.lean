/- The walk of the law MemParts. -/
import Derived.Test.YticfgkcdghbklaaMemA
namespace Go.Proofs.Yticfgkcdghbklaa
open Go.RowKit

theorem memSize_eq {n : Int} {m : Nat} (h : (m : Int) = n) (h2 : m ≤ 65536) : memSize n = m := by unfold memSize; omega

theorem Ints.drop {k : IntKind} {w : World} {A : Option Addr} {n c : Nat} {zs : List Int} (h : Ints k w (.slice A n c) zs) {m : Nat} (hm : m ≤ zs.length) : Ints k w (.slice (A.map fun a => a.add m) (n - m) (c - m)) (zs.drop m) := by
  obtain ⟨A', c', e, h1, h2, h3, h4⟩ := h
  cases e
  have hl : (zs.drop m).length = zs.length - m := by simp
  refine ⟨_, _, by rw [hl], by omega, by omega, by simp, fun j u hj => ?_⟩
  rw [List.map_drop, List.getElem?_drop] at hj
  obtain ⟨b, off, rfl, hc⟩ := h4 _ _ hj
  have e : (⟨b, off, none⟩ : Addr).add m = ⟨b, off + m, none⟩ := by unfold Addr.add; split <;> simp_all
  exact ⟨b, off + m, by simp [e], by rw [show off + m + j = off + (m + j) from by omega]; exact hc⟩

theorem Ints.keep {k : IntKind} {w w1 w2 : World} {u v : Value} {zs : List Int} {base n sz : Nat} {e : TypeId} {xs : List Value} (h : Ints k w u zs) (hb : w.heap.size ≤ base) (ho : w1.ownsRow base e sz v n xs) (h1 : Ints k w1 u zs) (hg : w1.grownBy w2 v.ownBlock) : Ints k w2 u zs := by
  by_cases h0 : zs = []
  · subst h0
    obtain ⟨A, c, e, k1, k2, k3, _⟩ := h1
    exact ⟨A, c, e, k1, k2, k3, fun j u hj => by simp at hj⟩
  · obtain ⟨b, hb', hlt⟩ := Row.lt h (by simpa using h0)
    exact Row.grown h1 hg (Or.inr fun e' => own_ne ho (b := b) (by omega) (by rw [← e', hb']))

theorem ints_none {k : IntKind} {w : World} {A : Option Addr} {zs : List Int} (h : zs = []) : Ints k w (.slice A 0 0) zs := by
  subst h
  exact ⟨A, 0, rfl, Nat.le_refl _, Nat.zero_le _, rfl, fun j u hj => by simp at hj⟩

theorem write_all {Z l : List Int} (h : Z.length = l.length) : writeAt Z 0 l = l := by
  apply List.ext_getElem?
  intro j
  have := write_get (zs := Z) (ys := l) (at_ := 0) (by omega) j
  rw [show ((0 : Nat) : Int) = 0 from rfl] at this
  rw [this]
  split
  · rfl
  · rw [List.getElem?_eq_none (by omega), List.getElem?_eq_none (by omega)]

theorem write_parts {Z l : List Int} {k : Nat} (h : Z.length = l.length) (hk : k ≤ l.length) : writeAt (writeAt Z k (l.drop k)) 0 (l.take k) = l := by
  apply List.ext_getElem?
  intro j
  have hl1 : (l.drop k).length = l.length - k := by simp
  have hl2 : (l.take k).length = k := by simp; omega
  have := write_get (zs := writeAt Z k (l.drop k)) (ys := l.take k) (at_ := 0) (by rw [length_writeAt]; omega) j
  rw [show ((0 : Nat) : Int) = 0 from rfl] at this
  rw [this, write_get (by omega), hl1, hl2]
  split
  · rw [List.getElem?_take_of_lt (by omega)]; rfl
  · split
    · rw [List.getElem?_drop]; congr 1; omega
    · rw [List.getElem?_eq_none (by omega), List.getElem?_eq_none (by omega)]

set_option maxHeartbeats 1600000 in
theorem memParts_calls (v : Value) (z : List Int) (x : Int) (w : World) (hv : Ints .i8 w v z) (hx : 0 ≤ x ∧ x ≤ 255) :
    Calls Try.prog 6 #[v, .int .u8 x] w fun e w' => e = .returned (.bool true) ∧ Below w.heap.size w w' := by
  obtain ⟨A, c, rfl, hzc, hcm, _⟩ := id hv
  have hl := hv.first (m := min z.length 200) (by omega)
  have hll : (z.take (min z.length 200)).length = min z.length 200 := by rw [List.length_take]; omega
  generalize z.take (min z.length 200) = l at *
  obtain ⟨k, hk⟩ : ∃ k : Nat, k = min x.toNat l.length := ⟨_, rfl⟩
  unfold maxLen at hcm
  clear hv
  go_enter Try.func6, Try.ntmps6
  go_wp2_with fail
  refine (shown11_calls w).mono ?_
  rintro e w1 ⟨rfl, hE1⟩
  have hcase : 200 < z.length ∨ (z.length ≤ 200 ∧ c = k) ∨ (z.length ≤ 200 ∧ c ≠ k) := by omega
  rcases hcase with hA | ⟨hA, hck⟩ | ⟨hA, hck⟩
  · have HN : Hid ((l.length : Int) = 200) := by show _ = _; omega
    have hkm : min x 200 = (k : Int) := by omega
    rw [show min z.length 200 = 200 from by omega] at hl
    have hkz : k ≤ z.length ∧ k ≤ 200 := by omega
    have HK := Lib.hid hk
    have hll2 : l.length ≤ 200 := by omega
    have hkl0 : k ≤ l.length := by omega
    clear hk
    go_wp2_with fail
    refine (new_calls _ _ (by simp only [InK]; omega)).mono ?_
    rintro e w2 ⟨p1, v1, rfl, hm, hp1, hE2⟩
    rw [memSize_eq HN.out (by omega)] at hm
    go_wp2_with fail
    refine (new_calls _ _ (by simp only [InK]; omega)).mono ?_
    rintro e w3 ⟨p2, v2, rfl, hn, hp2, hE3⟩
    rw [memSize_eq HN.out (by omega)] at hn
    have hE : Below w.heap.size w w3 := hE1.trans ((hE2.trans (hE3.mono hE2.size)).mono hE1.size)
    obtain ⟨⟨s1, s2⟩, s3, s4⟩ := mems_apart hm (Nat.le_refl _) hn hp2
    have hm := hm.below hE3 (Nat.le_refl _)
    have hsz : w.heap.size ≤ w1.heap.size := hE1.size
    have hsz2 : w.heap.size ≤ w2.heap.size := Nat.le_trans hsz hE2.size
    have hZ : (List.replicate l.length 0 : List Int).length = l.length := List.length_replicate
    generalize (List.replicate l.length 0 : List Int) = Z at *
    have hkl : k ≤ l.length := hkl0
    clear hkl0
    have er1 := Lib.hid (memErr_ok (n := Z.length) (at_ := 0) (k := l.length) ⟨by omega, by omega, by omega, by omega⟩)
    have er2 := Lib.hid (memErr_ok (n := Z.length) (at_ := k) (k := (l.drop k).length) (by rw [List.length_drop]; exact ⟨by omega, by omega, by omega, by omega⟩))
    have er3 := Lib.hid (memErr_ok (n := (writeAt Z k (l.drop k)).length) (at_ := 0) (k := (l.take k).length) (by rw [length_writeAt, List.length_take]; exact ⟨by omega, by omega, by omega, by omega⟩))
    have e1 := Lib.hid (write_all hZ)
    have e2 := Lib.hid (write_parts hZ hkl)
    have lr : l.length = k + (l.length - k) := by omega
    have q1 : Hid (readAt l 0 k = l.take k) := readAt_of_get (at_ := 0) (ys := l.take k) (by rw [List.length_take]; omega) (by rw [List.length_take]; omega) (fun j hj => by rw [Nat.zero_add, List.getElem?_take_of_lt (by rw [List.length_take] at hj; omega)])
    have q2 : Hid (readAt l k ((l.length : Int) - k) = l.drop k) := readAt_of_get (at_ := k) (ys := l.drop k) (by rw [List.length_drop]; omega) (by rw [List.length_drop]; omega) (fun j hj => by rw [List.getElem?_drop])
    have q3 : Hid (readAt l 0 l.length = l) := readAt_all l _ rfl
    have f1 : Hid (memErr l.length 0 k = 0) := memErr_ok ⟨by omega, by omega, by omega, by omega⟩
    have f2 : Hid (memErr l.length k ((l.length : Int) - k) = 0) := memErr_ok ⟨by omega, by omega, by omega, by omega⟩
    have f3 : Hid (memErr l.length 0 l.length = 0) := memErr_ok ⟨by omega, by omega, by omega, by omega⟩
    have c1 : (l.take k).length ≤ 200 := by rw [List.length_take]; omega
    have c2 : (l.drop k).length ≤ 200 := by rw [List.length_drop]; omega
    have c3 : (l.take k).length + (l.drop k).length ≤ 200 := by rw [List.length_take, List.length_drop]; omega
    have q4 : Hid (l.take k ++ l.drop k = l) := List.take_append_drop k l
    have n1 : 0 ≤ (200 : Int) - k ∧ (200 : Int) - k ≤ 200 := by have := HN.out; omega
    have n2 : Hid ((l.length : Int) - k = 200 - k) := by show _ = _; rw [HN.out]
    have hkl := Lib.hid hkl
    clear hE1 hE2 hE3 hZ lr
    go_wp2_with fail
    refine (write_calls _ p1 v1 Z 0 _ l _ hm (by simp only [InK]; omega) (hl.below hE)).mono ?_
    rintro e w4 ⟨rfl, hm4, hg⟩
    have hn4 := hn.grown hg s1 s2
    have hE4 := hm.wrote hE hsz hE.size hg
    clear hm hn hE hg
    rw [er1.out]
    rw [e1.out] at hm4
    go_wp2_with fail
    refine (write_calls _ p2 v2 Z k _ (l.drop k) _ hn4 (by simp only [InK]; omega) ((hl.below hE4).drop hkl.out)).mono ?_
    rintro e w5 ⟨rfl, hn5, hg⟩
    have hm5 := hm4.grown hg s3 s4
    have hE5 := hn4.wrote hE4 hsz2 hE4.size hg
    clear hm4 hn4 hE4 hg
    rw [er2.out]
    go_wp2_with fail
    refine (write_calls _ p2 v2 _ 0 _ (l.take k) _ hn5 (by simp only [InK]; omega) ((hl.below hE5).first hkl.out)).mono ?_
    rintro e w6 ⟨rfl, hn6, hg⟩
    have hm6 := hm5.grown hg s3 s4
    have hE6 := hn5.wrote hE5 hsz2 hE5.size hg
    rw [e2.out] at hn6
    rw [er3.out]
    clear hm5 hn5 hE5 hg
    go_wp2_with fail
    refine (read_calls _ p1 v1 l 0 k _ hm6 (by simp only [InK]; omega) (by simp only [InK]; omega)).mono ?_
    intro e w7 h
    obtain ⟨u1, rfl, hi1, hE7⟩ := h.ints
    have hm7 := hm6.below hE7 (Nat.le_refl _)
    have hn7 := hn6.below hE7 (Nat.le_refl _)
    have hE7 := hE6.trans (hE7.mono hE6.size)
    rw [q1.out] at hi1
    rw [f1.out]
    clear h hm6 hn6 hE6
    go_wp2_with fail
    skip
    refine (read_calls _ p1 v1 l k _ _ hm7 (by simp only [InK]; omega) (by simp only [InK]; omega)).mono ?_
    intro e w8 h
    obtain ⟨u2, rfl, hi2, hE8⟩ := h.ints
    have hn8 := hn7.below hE8 (Nat.le_refl _)
    have hi1 := hi1.below hE8
    have hE8 := hE7.trans (hE8.mono hE7.size)
    rw [← n2.out, q2.out] at hi2
    rw [← n2.out, f2.out]
    clear h hm7 hn7 hE7
    go_wp2_with fail
    refine (read_calls _ p2 v2 l 0 200 _ hn8 (by simp only [InK]; omega) (by simp only [InK]; omega)).mono ?_
    intro e w9 h
    obtain ⟨u3, rfl, hi3, hE9⟩ := h.ints
    have hi1 := hi1.below hE9
    have hi2 := hi2.below hE9
    have hE9 := hE8.trans (hE9.mono hE8.size)
    rw [← HN.out, q3.out] at hi3
    rw [← HN.out, f3.out]
    clear h hn8 hE8
    go_wp2_with (at_builtin; refine stopped ?_)
    refine wpList_append_fresh rfl rfl elem_i8 rfl hi1 rfl (one_ints _ _) (by omega) (by omega) ?_
    intro v10 w10 hown10 hE10
    have hi2 := hi2.below hE10
    have hi30 := hi3
    have hi3 := hi3.below hE10
    have hE10' := hE9.trans (hE10.mono hE9.size)
    go_wp2_with (at_builtin; refine stopped ?_)
    refine wpList_append_row rfl rfl elem_i8 hown10 rfl hi2 rfl (one_ints _ _) (by omega) (by omega) hE10.size ?_
    intro v11 w11 hown11 hg11 _
    have hi3 := hi30.keep (Nat.le_refl _) hown10 hi3 hg11
    have hE11 := below_own hE10' hE10'.size hown10 hE9.size hg11
    rw [← List.map_append, q4.out] at hown11
    have hi11 : Ints .i8 w11 v11 l := by
      have := hown11.1
      simp only [List.length_map, Nat.mul_one] at this
      rw [← this] at hown11
      exact ints_of_own hown11
    clear hown11 hown10 hg11 hE10 hE10' hE9 hi1 hi2
    go_wp2_with fail
    refine (same_calls _ _ _ _ _ hi11 (hl.below hE11)).mono ?_
    rintro e w12 ⟨rfl, hE12⟩
    have hi3 := Row.below hi3 hE12
    have hE12 := hE11.trans (hE12.mono hE11.size)
    rw [decide_eq_true (rfl : l = l)]
    clear hE11
    go_wp2_with fail
    refine (same_calls _ _ _ _ _ hi3 (hl.below hE12)).mono ?_
    rintro e w13 ⟨rfl, hE13⟩
    have hE13 := hE12.trans (hE13.mono hE12.size)
    rw [decide_eq_true (rfl : l = l)]
    go_wp2_with fail
    go_ret
    exact ⟨rfl, hE13⟩
  · have hzk : z.length = c := by omega
    rw [show min z.length 200 = c from by omega] at hl
    have hll : l.length = c := by omega
    rw [hzk] at hA ⊢
    obtain rfl := hck
    have HN : Hid ((l.length : Int) = (c : Int)) := by show _ = _; omega
    have hkm : min x (c : Int) = (c : Int) := by omega
    clear hzk hzc
    have HK := Lib.hid hk
    have hll2 : l.length ≤ 200 := by omega
    have hkl0 : c ≤ l.length := by omega
    clear hk
    go_wp2_with fail
    refine (new_calls _ _ (by simp only [InK]; omega)).mono ?_
    rintro e w2 ⟨p1, v1, rfl, hm, hp1, hE2⟩
    rw [memSize_eq HN.out (by omega)] at hm
    go_wp2_with fail
    refine (new_calls _ _ (by simp only [InK]; omega)).mono ?_
    rintro e w3 ⟨p2, v2, rfl, hn, hp2, hE3⟩
    rw [memSize_eq HN.out (by omega)] at hn
    have hE : Below w.heap.size w w3 := hE1.trans ((hE2.trans (hE3.mono hE2.size)).mono hE1.size)
    obtain ⟨⟨s1, s2⟩, s3, s4⟩ := mems_apart hm (Nat.le_refl _) hn hp2
    have hm := hm.below hE3 (Nat.le_refl _)
    have hsz : w.heap.size ≤ w1.heap.size := hE1.size
    have hsz2 : w.heap.size ≤ w2.heap.size := Nat.le_trans hsz hE2.size
    have hZ : (List.replicate l.length 0 : List Int).length = l.length := List.length_replicate
    generalize (List.replicate l.length 0 : List Int) = Z at *
    have hkl : c ≤ l.length := hkl0
    clear hkl0
    have er1 := Lib.hid (memErr_ok (n := Z.length) (at_ := 0) (k := l.length) ⟨by omega, by omega, by omega, by omega⟩)
    have er2 := Lib.hid (memErr_ok (n := Z.length) (at_ := c) (k := (l.drop c).length) (by rw [List.length_drop]; exact ⟨by omega, by omega, by omega, by omega⟩))
    have er3 := Lib.hid (memErr_ok (n := (writeAt Z c (l.drop c)).length) (at_ := 0) (k := (l.take c).length) (by rw [length_writeAt, List.length_take]; exact ⟨by omega, by omega, by omega, by omega⟩))
    have e1 := Lib.hid (write_all hZ)
    have e2 := Lib.hid (write_parts hZ hkl)
    have lr : l.length = c + (l.length - c) := by omega
    have q1 : Hid (readAt l 0 c = l.take c) := readAt_of_get (at_ := 0) (ys := l.take c) (by rw [List.length_take]; omega) (by rw [List.length_take]; omega) (fun j hj => by rw [Nat.zero_add, List.getElem?_take_of_lt (by rw [List.length_take] at hj; omega)])
    have q2 : Hid (readAt l c ((l.length : Int) - c) = l.drop c) := readAt_of_get (at_ := c) (ys := l.drop c) (by rw [List.length_drop]; omega) (by rw [List.length_drop]; omega) (fun j hj => by rw [List.getElem?_drop])
    have q3 : Hid (readAt l 0 l.length = l) := readAt_all l _ rfl
    have f1 : Hid (memErr l.length 0 c = 0) := memErr_ok ⟨by omega, by omega, by omega, by omega⟩
    have f2 : Hid (memErr l.length c ((l.length : Int) - c) = 0) := memErr_ok ⟨by omega, by omega, by omega, by omega⟩
    have f3 : Hid (memErr l.length 0 l.length = 0) := memErr_ok ⟨by omega, by omega, by omega, by omega⟩
    have c1 : (l.take c).length ≤ 200 := by rw [List.length_take]; omega
    have c2 : (l.drop c).length ≤ 200 := by rw [List.length_drop]; omega
    have c3 : (l.take c).length + (l.drop c).length ≤ 200 := by rw [List.length_take, List.length_drop]; omega
    have q4 : Hid (l.take c ++ l.drop c = l) := List.take_append_drop c l
    have n1 : 0 ≤ ((c : Int) : Int) - c ∧ ((c : Int) : Int) - c ≤ 200 := by have := HN.out; omega
    have n2 : Hid ((l.length : Int) - c = (c : Int) - c) := by show _ = _; rw [HN.out]
    have hkl := Lib.hid hkl
    clear hE1 hE2 hE3 hZ lr
    go_wp2_with fail
    refine (write_calls _ p1 v1 Z 0 _ l _ hm (by simp only [InK]; omega) (hl.below hE)).mono ?_
    rintro e w4 ⟨rfl, hm4, hg⟩
    have hn4 := hn.grown hg s1 s2
    have hE4 := hm.wrote hE hsz hE.size hg
    clear hm hn hE hg
    rw [er1.out]
    rw [e1.out] at hm4
    go_wp2_with fail
    refine (write_calls _ p2 v2 Z c _ (l.drop c) _ hn4 (by simp only [InK]; omega) (ints_none (List.drop_eq_nil_of_le (by have := HN.out; omega)))).mono ?_
    rintro e w5 ⟨rfl, hn5, hg⟩
    have hm5 := hm4.grown hg s3 s4
    have hE5 := hn4.wrote hE4 hsz2 hE4.size hg
    clear hm4 hn4 hE4 hg
    rw [er2.out]
    go_wp2_with fail
    refine (write_calls _ p2 v2 _ 0 _ (l.take c) _ hn5 (by simp only [InK]; omega) ((hl.below hE5).first hkl.out)).mono ?_
    rintro e w6 ⟨rfl, hn6, hg⟩
    have hm6 := hm5.grown hg s3 s4
    have hE6 := hn5.wrote hE5 hsz2 hE5.size hg
    rw [e2.out] at hn6
    rw [er3.out]
    clear hm5 hn5 hE5 hg
    go_wp2_with fail
    refine (read_calls _ p1 v1 l 0 c _ hm6 (by simp only [InK]; omega) (by simp only [InK]; omega)).mono ?_
    intro e w7 h
    obtain ⟨u1, rfl, hi1, hE7⟩ := h.ints
    have hm7 := hm6.below hE7 (Nat.le_refl _)
    have hn7 := hn6.below hE7 (Nat.le_refl _)
    have hE7 := hE6.trans (hE7.mono hE6.size)
    rw [q1.out] at hi1
    rw [f1.out]
    clear h hm6 hn6 hE6
    go_wp2_with fail
    skip
    refine (read_calls _ p1 v1 l c _ _ hm7 (by simp only [InK]; omega) (by simp only [InK]; omega)).mono ?_
    intro e w8 h
    obtain ⟨u2, rfl, hi2, hE8⟩ := h.ints
    have hn8 := hn7.below hE8 (Nat.le_refl _)
    have hi1 := hi1.below hE8
    have hE8 := hE7.trans (hE8.mono hE7.size)
    have q2' := q2.out
    have f2' := f2.out
    rw [show (l.length : Int) - c = 0 from by have := HN.out; omega] at q2' f2'
    rw [q2'] at hi2
    rw [f2']
    clear q2' f2' 
    clear h hm7 hn7 hE7
    go_wp2_with fail
    refine (read_calls _ p2 v2 l 0 (c : Int) _ hn8 (by simp only [InK]; omega) (by simp only [InK]; omega)).mono ?_
    intro e w9 h
    obtain ⟨u3, rfl, hi3, hE9⟩ := h.ints
    have hi1 := hi1.below hE9
    have hi2 := hi2.below hE9
    have hE9 := hE8.trans (hE9.mono hE8.size)
    rw [← HN.out, q3.out] at hi3
    rw [← HN.out, f3.out]
    clear h hn8 hE8
    go_wp2_with (at_builtin; refine stopped ?_)
    refine wpList_append_fresh rfl rfl elem_i8 rfl hi1 rfl (one_ints _ _) (by omega) (by omega) ?_
    intro v10 w10 hown10 hE10
    have hi2 := hi2.below hE10
    have hi30 := hi3
    have hi3 := hi3.below hE10
    have hE10' := hE9.trans (hE10.mono hE9.size)
    go_wp2_with (at_builtin; refine stopped ?_)
    refine wpList_append_row rfl rfl elem_i8 hown10 rfl hi2 rfl (one_ints _ _) (by omega) (by omega) hE10.size ?_
    intro v11 w11 hown11 hg11 _
    have hi3 := hi30.keep (Nat.le_refl _) hown10 hi3 hg11
    have hE11 := below_own hE10' hE10'.size hown10 hE9.size hg11
    rw [← List.map_append, q4.out] at hown11
    have hi11 : Ints .i8 w11 v11 l := by
      have := hown11.1
      simp only [List.length_map, Nat.mul_one] at this
      rw [← this] at hown11
      exact ints_of_own hown11
    clear hown11 hown10 hg11 hE10 hE10' hE9 hi1 hi2
    go_wp2_with fail
    refine (same_calls _ _ _ _ _ hi11 (hl.below hE11)).mono ?_
    rintro e w12 ⟨rfl, hE12⟩
    have hi3 := Row.below hi3 hE12
    have hE12 := hE11.trans (hE12.mono hE11.size)
    rw [decide_eq_true (rfl : l = l)]
    clear hE11
    go_wp2_with fail
    refine (same_calls _ _ _ _ _ hi3 (hl.below hE12)).mono ?_
    rintro e w13 ⟨rfl, hE13⟩
    have hE13 := hE12.trans (hE13.mono hE12.size)
    rw [decide_eq_true (rfl : l = l)]
    go_wp2_with fail
    go_ret
    exact ⟨rfl, hE13⟩
  · have HN : Hid ((l.length : Int) = (z.length : Int)) := by show _ = _; omega
    have hkm : min x (z.length : Int) = (k : Int) := by omega
    rw [show min z.length 200 = z.length from by omega] at hl
    have hkz : k ≤ z.length ∧ k ≤ 200 := by omega
    have HK := Lib.hid hk
    have hll2 : l.length ≤ 200 := by omega
    have hkl0 : k ≤ l.length := by omega
    clear hk
    go_wp2_with fail
    refine (new_calls _ _ (by simp only [InK]; omega)).mono ?_
    rintro e w2 ⟨p1, v1, rfl, hm, hp1, hE2⟩
    rw [memSize_eq HN.out (by omega)] at hm
    go_wp2_with fail
    refine (new_calls _ _ (by simp only [InK]; omega)).mono ?_
    rintro e w3 ⟨p2, v2, rfl, hn, hp2, hE3⟩
    rw [memSize_eq HN.out (by omega)] at hn
    have hE : Below w.heap.size w w3 := hE1.trans ((hE2.trans (hE3.mono hE2.size)).mono hE1.size)
    obtain ⟨⟨s1, s2⟩, s3, s4⟩ := mems_apart hm (Nat.le_refl _) hn hp2
    have hm := hm.below hE3 (Nat.le_refl _)
    have hsz : w.heap.size ≤ w1.heap.size := hE1.size
    have hsz2 : w.heap.size ≤ w2.heap.size := Nat.le_trans hsz hE2.size
    have hZ : (List.replicate l.length 0 : List Int).length = l.length := List.length_replicate
    generalize (List.replicate l.length 0 : List Int) = Z at *
    have hkl : k ≤ l.length := hkl0
    clear hkl0
    have er1 := Lib.hid (memErr_ok (n := Z.length) (at_ := 0) (k := l.length) ⟨by omega, by omega, by omega, by omega⟩)
    have er2 := Lib.hid (memErr_ok (n := Z.length) (at_ := k) (k := (l.drop k).length) (by rw [List.length_drop]; exact ⟨by omega, by omega, by omega, by omega⟩))
    have er3 := Lib.hid (memErr_ok (n := (writeAt Z k (l.drop k)).length) (at_ := 0) (k := (l.take k).length) (by rw [length_writeAt, List.length_take]; exact ⟨by omega, by omega, by omega, by omega⟩))
    have e1 := Lib.hid (write_all hZ)
    have e2 := Lib.hid (write_parts hZ hkl)
    have lr : l.length = k + (l.length - k) := by omega
    have q1 : Hid (readAt l 0 k = l.take k) := readAt_of_get (at_ := 0) (ys := l.take k) (by rw [List.length_take]; omega) (by rw [List.length_take]; omega) (fun j hj => by rw [Nat.zero_add, List.getElem?_take_of_lt (by rw [List.length_take] at hj; omega)])
    have q2 : Hid (readAt l k ((l.length : Int) - k) = l.drop k) := readAt_of_get (at_ := k) (ys := l.drop k) (by rw [List.length_drop]; omega) (by rw [List.length_drop]; omega) (fun j hj => by rw [List.getElem?_drop])
    have q3 : Hid (readAt l 0 l.length = l) := readAt_all l _ rfl
    have f1 : Hid (memErr l.length 0 k = 0) := memErr_ok ⟨by omega, by omega, by omega, by omega⟩
    have f2 : Hid (memErr l.length k ((l.length : Int) - k) = 0) := memErr_ok ⟨by omega, by omega, by omega, by omega⟩
    have f3 : Hid (memErr l.length 0 l.length = 0) := memErr_ok ⟨by omega, by omega, by omega, by omega⟩
    have c1 : (l.take k).length ≤ 200 := by rw [List.length_take]; omega
    have c2 : (l.drop k).length ≤ 200 := by rw [List.length_drop]; omega
    have c3 : (l.take k).length + (l.drop k).length ≤ 200 := by rw [List.length_take, List.length_drop]; omega
    have q4 : Hid (l.take k ++ l.drop k = l) := List.take_append_drop k l
    have n1 : 0 ≤ ((z.length : Int) : Int) - k ∧ ((z.length : Int) : Int) - k ≤ 200 := by have := HN.out; omega
    have n2 : Hid ((l.length : Int) - k = (z.length : Int) - k) := by show _ = _; rw [HN.out]
    have hkl := Lib.hid hkl
    clear hE1 hE2 hE3 hZ lr
    go_wp2_with fail
    refine (write_calls _ p1 v1 Z 0 _ l _ hm (by simp only [InK]; omega) (hl.below hE)).mono ?_
    rintro e w4 ⟨rfl, hm4, hg⟩
    have hn4 := hn.grown hg s1 s2
    have hE4 := hm.wrote hE hsz hE.size hg
    clear hm hn hE hg
    rw [er1.out]
    rw [e1.out] at hm4
    go_wp2_with fail
    refine (write_calls _ p2 v2 Z k _ (l.drop k) _ hn4 (by simp only [InK]; omega) ((hl.below hE4).drop hkl.out)).mono ?_
    rintro e w5 ⟨rfl, hn5, hg⟩
    have hm5 := hm4.grown hg s3 s4
    have hE5 := hn4.wrote hE4 hsz2 hE4.size hg
    clear hm4 hn4 hE4 hg
    rw [er2.out]
    go_wp2_with fail
    refine (write_calls _ p2 v2 _ 0 _ (l.take k) _ hn5 (by simp only [InK]; omega) ((hl.below hE5).first hkl.out)).mono ?_
    rintro e w6 ⟨rfl, hn6, hg⟩
    have hm6 := hm5.grown hg s3 s4
    have hE6 := hn5.wrote hE5 hsz2 hE5.size hg
    rw [e2.out] at hn6
    rw [er3.out]
    clear hm5 hn5 hE5 hg
    go_wp2_with fail
    refine (read_calls _ p1 v1 l 0 k _ hm6 (by simp only [InK]; omega) (by simp only [InK]; omega)).mono ?_
    intro e w7 h
    obtain ⟨u1, rfl, hi1, hE7⟩ := h.ints
    have hm7 := hm6.below hE7 (Nat.le_refl _)
    have hn7 := hn6.below hE7 (Nat.le_refl _)
    have hE7 := hE6.trans (hE7.mono hE6.size)
    rw [q1.out] at hi1
    rw [f1.out]
    clear h hm6 hn6 hE6
    go_wp2_with fail
    skip
    refine (read_calls _ p1 v1 l k _ _ hm7 (by simp only [InK]; omega) (by simp only [InK]; omega)).mono ?_
    intro e w8 h
    obtain ⟨u2, rfl, hi2, hE8⟩ := h.ints
    have hn8 := hn7.below hE8 (Nat.le_refl _)
    have hi1 := hi1.below hE8
    have hE8 := hE7.trans (hE8.mono hE7.size)
    rw [← n2.out, q2.out] at hi2
    rw [← n2.out, f2.out]
    clear h hm7 hn7 hE7
    go_wp2_with fail
    refine (read_calls _ p2 v2 l 0 (z.length : Int) _ hn8 (by simp only [InK]; omega) (by simp only [InK]; omega)).mono ?_
    intro e w9 h
    obtain ⟨u3, rfl, hi3, hE9⟩ := h.ints
    have hi1 := hi1.below hE9
    have hi2 := hi2.below hE9
    have hE9 := hE8.trans (hE9.mono hE8.size)
    rw [← HN.out, q3.out] at hi3
    rw [← HN.out, f3.out]
    clear h hn8 hE8
    go_wp2_with (at_builtin; refine stopped ?_)
    refine wpList_append_fresh rfl rfl elem_i8 rfl hi1 rfl (one_ints _ _) (by omega) (by omega) ?_
    intro v10 w10 hown10 hE10
    have hi2 := hi2.below hE10
    have hi30 := hi3
    have hi3 := hi3.below hE10
    have hE10' := hE9.trans (hE10.mono hE9.size)
    go_wp2_with (at_builtin; refine stopped ?_)
    refine wpList_append_row rfl rfl elem_i8 hown10 rfl hi2 rfl (one_ints _ _) (by omega) (by omega) hE10.size ?_
    intro v11 w11 hown11 hg11 _
    have hi3 := hi30.keep (Nat.le_refl _) hown10 hi3 hg11
    have hE11 := below_own hE10' hE10'.size hown10 hE9.size hg11
    rw [← List.map_append, q4.out] at hown11
    have hi11 : Ints .i8 w11 v11 l := by
      have := hown11.1
      simp only [List.length_map, Nat.mul_one] at this
      rw [← this] at hown11
      exact ints_of_own hown11
    clear hown11 hown10 hg11 hE10 hE10' hE9 hi1 hi2
    go_wp2_with fail
    refine (same_calls _ _ _ _ _ hi11 (hl.below hE11)).mono ?_
    rintro e w12 ⟨rfl, hE12⟩
    have hi3 := Row.below hi3 hE12
    have hE12 := hE11.trans (hE12.mono hE11.size)
    rw [decide_eq_true (rfl : l = l)]
    clear hE11
    go_wp2_with fail
    refine (same_calls _ _ _ _ _ hi3 (hl.below hE12)).mono ?_
    rintro e w13 ⟨rfl, hE13⟩
    have hE13 := hE12.trans (hE13.mono hE12.size)
    rw [decide_eq_true (rfl : l = l)]
    go_wp2_with fail
    go_ret
    exact ⟨rfl, hE13⟩

end Go.Proofs.Yticfgkcdghbklaa
