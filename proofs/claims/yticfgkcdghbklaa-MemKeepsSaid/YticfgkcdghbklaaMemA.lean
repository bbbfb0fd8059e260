/- The walks of the laws of package mem: the example; MemApart. -/
import Derived.Test.YticfgkcdghbklaaMem
import Derived.Test.YticfgkcdghbklaaRead
import Derived.Laws.BitsAllLaws
namespace Go.Proofs.Yticfgkcdghbklaa
open Go.RowKit

theorem MemAt.grown {w w' : World} {base p : Nat} {v : Value} {zs : List Int} {row : Option Nat} (h : MemAt w base p v zs) (hg : w.grownBy w' row) (hp : row ≠ some p) (hv : v.ownBlock = none ∨ v.ownBlock ≠ row) : MemAt w' base p v zs := by
  obtain ⟨h1, h2, h3, h4⟩ := h
  refine ⟨?_, h2.kept hg hv, h3, h4⟩
  rw [hg.block p (by have := (Array.getElem?_eq_some_iff.1 h1).1; omega) (fun e => hp e.symm)]
  exact h1

theorem MemAt.wrote {B : Nat} {w0 w w' : World} {base p : Nat} {v : Value} {zs : List Int} (h : MemAt w base p v zs) (hb : Below B w0 w) (hB : B ≤ base) (hB' : B ≤ w.heap.size) (hg : w.grownBy w' v.ownBlock) : Below B w0 w' :=
  below_own hb hB' h.2.1 hB hg

theorem MemAt.lt {w : World} {base p : Nat} {v : Value} {zs : List Int} (h : MemAt w base p v zs) : p < w.heap.size ∧ ∀ k, v.ownBlock = some k → k < w.heap.size :=
  ⟨(Array.getElem?_eq_some_iff.1 h.1).1, fun k hk => (h.2.1.lt k hk).2⟩

/-- Two memories, the second made behind the first. -/
theorem mems_apart {w w' : World} {L base p p' : Nat} {v v' : Value} {zs zs' : List Int} (h : MemAt w base p v zs) (hL : w.heap.size ≤ L) (h' : MemAt w' L p' v' zs') (hp' : L ≤ p') :
    (v.ownBlock ≠ some p' ∧ (v'.ownBlock = none ∨ v'.ownBlock ≠ v.ownBlock)) ∧ (v'.ownBlock ≠ some p ∧ (v.ownBlock = none ∨ v.ownBlock ≠ v'.ownBlock)) := by
  obtain ⟨h1, h2⟩ := h.lt
  have h3 := fun k hk => (h'.2.1.lt k hk).1
  cases hv : v.ownBlock with
  | none =>
    refine ⟨⟨by simp, ?_⟩, ?_, Or.inl rfl⟩
    · cases hv' : v'.ownBlock <;> simp
    · intro e; have := h3 p e; omega
  | some k =>
    have h4 := h2 k hv
    refine ⟨⟨fun e => by cases e; omega, ?_⟩, ?_, Or.inr ?_⟩
    · cases hv' : v'.ownBlock with
      | none => exact Or.inl rfl
      | some k' => exact Or.inr fun e => by cases e; have := h3 k hv'; omega
    · intro e; have := h3 p e; omega
    · intro e; have := h3 k e.symm; omega

theorem ReadPost.ints {zs : List Int} {at_ k : Int} {w w' : World} {e : Ending} (h : ReadPost zs at_ k w e w') :
    ∃ v', e = .returned (.tuple #[v', .int .i64 (memErr zs.length at_ k)]) ∧ Ints .i8 w' v' (readAt zs at_ k) ∧ Below w.heap.size w w' := by
  obtain ⟨v', rfl, h1, h2⟩ := h
  exact ⟨v', rfl, ints_of_own h1, h2⟩

set_option maxHeartbeats 1600000 in
theorem shown11_calls (w : World) : Calls Try.prog 20 #[] w fun e w' => e = .returned (.bool true) ∧ Below w.heap.size w w' := by
  go_enter Try.func20, Try.ntmps20
  go_wp2_with fail
  refine (new_calls 4 _ (by simp only [InK]; omega)).mono ?_
  rintro e w1 ⟨p, v, rfl, hm, hp, hb1⟩
  go_wp2_with fail
  have hlit : Ints .i8 (w1.alloc (.cells #[.int .i8 5, .int .i8 6] 47)) (.slice (some ⟨w1.heap.size, 0, none⟩) 2 2) [5, 6] := row_new w1 _ _ 2 1 rfl (by decide)
  have hm1 := hm.below (below_alloc (Below.refl _ _) (Nat.le_refl _) (.cells #[.int .i8 5, .int .i8 6] 47)) (Nat.le_refl _)
  have hb2 := below_alloc hb1 hb1.size (.cells #[.int .i8 5, .int .i8 6] 47)
  refine (write_calls _ p v _ 2 _ _ _ hm1 (by simp only [InK]; omega) hlit).mono ?_
  rintro e w2 ⟨rfl, hm2, hg2⟩
  have hb2 := hm1.wrote hb2 (Nat.le_refl _) (by have := hb1.size; simp; omega) hg2
  clear hm hlit hm1 hg2 hb1
  go_wp2_with fail
  refine (read_calls _ p v _ 1 3 _ hm2 (by simp only [InK]; omega) (by simp only [InK]; omega)).mono ?_
  intro e w3 h
  obtain ⟨v3, rfl, hi3, hb3⟩ := h.ints
  have hm3 := hm2.below hb3 (Nat.le_refl _)
  have hb3 := hb2.trans (hb3.mono hb2.size)
  clear h hm2 hb2
  go_wp2_with fail
  refine (read_calls _ p v _ 2 3 _ hm3 (by simp only [InK]; omega) (by simp only [InK]; omega)).mono ?_
  intro e w4 h
  obtain ⟨v4, rfl, _, hb4⟩ := h.ints
  have hi4 := hi3.below hb4
  have hb4 := hb3.trans (hb4.mono hb3.size)
  clear h hm3 hb3 hi3
  rw [show readAt (writeAt (List.replicate (memSize 4) 0) 2 [5, 6]) 1 3 = [0, 5, 6] from by decide] at hi4
  rw [show memErr (writeAt (List.replicate (memSize 4) 0) 2 [5, 6]).length 1 3 = 0 from by decide, show memErr (writeAt (List.replicate (memSize 4) 0) 2 [5, 6]).length 2 3 = 23 from by decide, show memErr ((memSize 4 : Nat) : Int) 2 2 = 0 from by decide]
  obtain ⟨A, c, rfl, _, _, hc⟩ := hi4.form
  obtain ⟨b, off, rfl, h0⟩ := hc 0 (by decide)
  obtain ⟨_, _, e1, h1⟩ := hc 1 (by decide)
  cases e1
  obtain ⟨_, _, e2, h2⟩ := hc 2 (by decide)
  cases e2
  clear hc
  replace h0 : w4.cell? ⟨b, off, none⟩ = some (.int .i8 0) := h0
  replace h1 : w4.cell? ⟨b, off + 1, none⟩ = some (.int .i8 5) := h1
  replace h2 : w4.cell? ⟨b, off + 2, none⟩ = some (.int .i8 6) := h2
  simp only [List.length_cons, List.length_nil, Nat.zero_add, Nat.reduceAdd]
  go_wp2
  go_ret
  exact ⟨rfl, hb4⟩

def u8x2 : Ty := .st (.pair (.int .u8) (.pair (.int .u8) .unit))

theorem read_u8x2 {w : World} {cs : Array Value} {d : D} (h : u8x2.reads w (Value.agg cs).cells.toList d) : ∃ b0 b1, cs = #[.int .u8 b0, .int .u8 b1] ∧ InK .u8 b0 ∧ InK .u8 b1 := by
  simp only [u8x2, Ty.reads, Value.cells] at h
  obtain ⟨_, _, _, _, e, _, ⟨b0, rfl, k0, _⟩, ⟨_, _, _, _, rfl, _, ⟨b1, rfl, k1, _⟩, ⟨rfl, _⟩, _⟩, _⟩ := h
  exact ⟨b0, b1, by apply Array.ext'; simpa using e, k0, k1⟩

theorem u8_and_le (x : Int) (m : Nat) (h : 0 ≤ x ∧ x ≤ 255) (hm : m < 256) : 0 ≤ bits .and .u8 x m ∧ bits .and .u8 x m ≤ m := by
  obtain ⟨n, rfl⟩ := Int.eq_ofNat_of_zero_le h.1
  rw [u8_and_nat n m (by omega) hm]
  have := Nat.and_le_right (n := n) (m := m)
  omega

theorem memErr_ok {n at_ k : Int} (h : Fits n at_ k) : memErr n at_ k = 0 := if_pos h
theorem readAt_all (zs : List Int) (n : Int) (h : zs.length = n) : readAt zs 0 n = zs := by
  unfold readAt
  rw [if_pos ⟨by omega, by omega, by omega, by omega⟩, Int.toNat_zero, List.drop_zero, List.take_of_length_le (by omega)]
theorem readAt_of_get {zs ys : List Int} {at_ : Nat} {k : Int} (hk : (ys.length : Int) = k) (h : at_ + ys.length ≤ zs.length) (hg : ∀ j, j < ys.length → zs[at_ + j]? = ys[j]?) : readAt zs at_ k = ys := by
  unfold readAt
  rw [if_pos ⟨by omega, by omega, by omega, by omega⟩]
  apply List.ext_getElem?
  intro j
  rw [List.getElem?_take, List.getElem?_drop, Int.toNat_natCast]
  split
  · exact hg j (by omega)
  · rw [List.getElem?_eq_none (by omega)]
theorem write_get {zs ys : List Int} {at_ : Nat} (h : at_ + ys.length ≤ zs.length) (j : Nat) : (writeAt zs at_ ys)[j]? = if at_ ≤ j ∧ j < at_ + ys.length then ys[j - at_]? else zs[j]? := by
  unfold writeAt
  rw [if_pos ⟨by omega, by omega, by omega, by omega⟩, Int.toNat_natCast, splice_get _ _ _ h]
theorem read_write {zs ys : List Int} {at_ : Nat} (h : at_ + ys.length ≤ zs.length) : readAt (writeAt zs at_ ys) at_ ys.length = ys := by
  refine readAt_of_get rfl (by rw [length_writeAt]; exact h) fun j hj => ?_
  rw [write_get h, if_pos ⟨by omega, by omega⟩, Nat.add_sub_cancel_left]
theorem write_comm {zs a b : List Int} {p q : Nat} (hp : p + a.length ≤ zs.length) (hq : q + b.length ≤ zs.length) (h : p + a.length ≤ q ∨ q + b.length ≤ p) : writeAt (writeAt zs p a) q b = writeAt (writeAt zs q b) p a := by
  apply List.ext_getElem?
  intro j
  rw [write_get (by rw [length_writeAt]; exact hq), write_get hp, write_get (by rw [length_writeAt]; exact hp), write_get hq]
  split <;> split <;> first | rfl | omega

set_option maxHeartbeats 6400000 in
theorem memApart_calls (va vb : Value) (a b : List Int) (x0 x1 : Int) (w : World) (ha : Ints .i8 w va a) (hb : Ints .i8 w vb b) (h0 : 0 ≤ x0 ∧ x0 ≤ 255) (h1 : 0 ≤ x1 ∧ x1 ≤ 255) :
    Calls Try.prog 5 #[va, vb, .agg #[.int .u8 x0, .int .u8 x1]] w fun e w' => e = .returned (.bool true) ∧ Below w.heap.size w w' := by
  obtain ⟨A, c, rfl, hac, ham, _⟩ := id ha
  obtain ⟨B, d, rfl, hbc, hbm, _⟩ := id hb
  have ha1 := ha.first (m := min a.length 50) (by omega)
  have hb1 := hb.first (m := min b.length 50) (by omega)
  have hla : (a.take (min a.length 50)).length = min a.length 50 := by rw [List.length_take]; omega
  have hlb : (b.take (min b.length 50)).length = min b.length 50 := by rw [List.length_take]; omega
  generalize a.take (min a.length 50) = a1 at *
  generalize b.take (min b.length 50) = b1 at *
  obtain ⟨p, hp, hp0, hp1⟩ : ∃ p : Nat, bits .and .u8 x0 63 = p ∧ p ≤ 63 ∧ True := by
    obtain ⟨h1, h2⟩ := u8_and_le x0 63 h0 (by omega)
    exact ⟨(bits .and .u8 x0 63).toNat, (Int.toNat_of_nonneg h1).symm, by simp at h2; omega, trivial⟩
  obtain ⟨q, hq, hq0, hq1⟩ : ∃ q : Nat, bits .and .u8 x1 63 = q ∧ q ≤ 63 ∧ True := by
    obtain ⟨h1, h2⟩ := u8_and_le x1 63 h1 (by omega)
    exact ⟨(bits .and .u8 x1 63).toNat, (Int.toNat_of_nonneg h1).symm, by simp at h2; omega, trivial⟩
  have hW : Below w.heap.size w (w.alloc (.cells #[.int .u8 x0, .int .u8 x1] 34)) := below_alloc (Below.refl _ _) (Nat.le_refl _) _
  have hc0 : (w.alloc (.cells #[.int .u8 x0, .int .u8 x1] 34)).cell? ⟨w.heap.size, 0, none⟩ = some (.int .u8 x0) := by
    rw [cell_of_row _ _ 0 _ _ _ (heap_alloc_new w _)]; rfl
  have hc1 : (w.alloc (.cells #[.int .u8 x0, .int .u8 x1] 34)).cell? ⟨w.heap.size, 1, none⟩ = some (.int .u8 x1) := by
    rw [cell_of_row _ _ 1 _ _ _ (heap_alloc_new w _)]; rfl
  have hwl : w.heap.size < (w.alloc (.cells #[.int .u8 x0, .int .u8 x1] 34)).heap.size := by simp
  unfold maxLen at ham hbm
  clear ha hb
  go_enter Try.func5, Try.ntmps5
  go_wp2_with fail
  generalize w.alloc (.cells #[.int .u8 x0, .int .u8 x1] 34) = w0 at *
  refine (shown11_calls w0).mono ?_
  rintro e w1 ⟨rfl, hE1⟩
  rcases Nat.lt_or_ge 50 a.length with hA | hA <;> rcases Nat.lt_or_ge 50 b.length with hB | hB
  all_goals
    have HLA := Lib.hid hla
    have HLB := Lib.hid hlb
    clear hla hlb
    first | rw [show min a.length 50 = 50 from by omega] at ha1 | rw [show min a.length 50 = a.length from by omega] at ha1
    first | rw [show min b.length 50 = 50 from by omega] at hb1 | rw [show min b.length 50 = b.length from by omega] at hb1
    go_wp2_with fail
    refine (new_calls 128 _ (by simp only [InK]; omega)).mono ?_
    rintro e w2 ⟨p1, v1, rfl, hm, hp1, hE2⟩
    go_wp2_with fail
    refine (new_calls 128 _ (by simp only [InK]; omega)).mono ?_
    rintro e w3 ⟨p2, v2, rfl, hn, hp2, hE3⟩
    have hE : Below w0.heap.size w0 w3 := hE1.trans ((hE2.trans (hE3.mono hE2.size)).mono hE1.size)
    have k0 := (hE.cell (p := ⟨w.heap.size, 0, none⟩) hwl).trans hc0
    have k1 := (hE.cell (p := ⟨w.heap.size, 1, none⟩) hwl).trans hc1
    have hE := hW.trans (hE.mono hW.size)
    obtain ⟨⟨s1, s2⟩, s3, s4⟩ := mems_apart hm (Nat.le_refl _) hn hp2
    have hm := hm.below hE3 (Nat.le_refl _)
    have hsz : w.heap.size ≤ w1.heap.size := Nat.le_trans hW.size hE1.size
    have hsz2 : w.heap.size ≤ w2.heap.size := Nat.le_trans hsz hE2.size
    have hZ : (List.replicate (memSize 128) 0 : List Int).length = 128 := by rw [List.length_replicate]; decide
    generalize (List.replicate (memSize 128) 0 : List Int) = Z at *
    have la := HLA.out
    have lb := HLB.out
    have er1 := Lib.hid (memErr_ok (n := Z.length) (at_ := p) (k := a1.length) ⟨by omega, by omega, by omega, by omega⟩)
    have er2 := Lib.hid (memErr_ok (n := (writeAt Z p a1).length) (at_ := q) (k := b1.length) (by rw [length_writeAt]; exact ⟨by omega, by omega, by omega, by omega⟩))
    have er3 := Lib.hid (memErr_ok (n := Z.length) (at_ := q) (k := b1.length) ⟨by omega, by omega, by omega, by omega⟩)
    have er4 := Lib.hid (memErr_ok (n := (writeAt Z q b1).length) (at_ := p) (k := a1.length) (by rw [length_writeAt]; exact ⟨by omega, by omega, by omega, by omega⟩))
    have F1 := Lib.hid (readAt_all (writeAt (writeAt Z p a1) q b1) 128 (by rw [length_writeAt, length_writeAt, hZ]; rfl))
    have F2 := Lib.hid (readAt_all (writeAt (writeAt Z q b1) p a1) 128 (by rw [length_writeAt, length_writeAt, hZ]; rfl))
    have F3 := Lib.hid (read_write (zs := writeAt Z p a1) (ys := b1) (at_ := q) (by rw [length_writeAt]; omega))
    have F4 := Lib.hid (read_write (zs := writeAt Z q b1) (ys := a1) (at_ := p) (by rw [length_writeAt]; omega))
    have F5 := Lib.hid (write_comm (zs := Z) (a := a1) (b := b1) (p := p) (q := q) (by omega) (by omega))
    have l1 : (writeAt (writeAt Z p a1) q b1).length ≤ 128 := by rw [length_writeAt, length_writeAt]; omega
    have l2 : (writeAt (writeAt Z q b1) p a1).length ≤ 128 := by rw [length_writeAt, length_writeAt]; omega
    clear hc0 hc1 hE1 hE2 hE3 hW hwl la lb hZ
    go_wp2_with fail
    refine (write_calls _ p1 v1 Z p _ a1 _ hm (by simp only [InK]; omega) (ha1.below hE)).mono ?_
    rintro e w4 ⟨rfl, hm4, hg⟩
    have hn4 := hn.grown hg s1 s2
    have hE4 := hm.wrote hE hsz hE.size hg
    clear hm hn hE hg
    rw [er1.out]
    go_wp2_with fail
    refine (write_calls _ p1 v1 _ q _ b1 _ hm4 (by simp only [InK]; omega) (hb1.below hE4)).mono ?_
    rintro e w5 ⟨rfl, hm5, hg⟩
    have hn5 := hn4.grown hg s1 s2
    have hE5 := hm4.wrote hE4 hsz hE4.size hg
    clear hm4 hn4 hE4 hg
    rw [er2.out]
    generalize writeAt (writeAt Z p a1) q b1 = W2 at *
    go_wp2_with fail
    refine (write_calls _ p2 v2 Z q _ b1 _ hn5 (by simp only [InK]; omega) (hb1.below hE5)).mono ?_
    rintro e w6 ⟨rfl, hn6, hg⟩
    have hm6 := hm5.grown hg s3 s4
    have hE6 := hn5.wrote hE5 hsz2 hE5.size hg
    clear hm5 hn5 hE5 hg
    rw [er3.out]
    go_wp2_with fail
    refine (write_calls _ p2 v2 _ p _ a1 _ hn6 (by simp only [InK]; omega) (ha1.below hE6)).mono ?_
    rintro e w7 ⟨rfl, hn7, hg⟩
    have hm7 := hm6.grown hg s3 s4
    have hE7 := hn6.wrote hE6 hsz2 hE6.size hg
    clear hm6 hn6 hE6 hg
    rw [er4.out]
    generalize writeAt (writeAt Z q b1) p a1 = V2 at *
    go_wp2_with fail
    refine (read_calls _ p1 v1 _ 0 128 _ hm7 (by simp only [InK]; omega) (by simp only [InK]; omega)).mono ?_
    intro e w8 h
    obtain ⟨u1, rfl, hi1, hE8⟩ := h.ints
    have hm8 := hm7.below hE8 (Nat.le_refl _)
    have hn8 := hn7.below hE8 (Nat.le_refl _)
    have hE8 := hE7.trans (hE8.mono hE7.size)
    clear h hm7 hn7 hE7
    rw [F1.out] at hi1
    generalize memErr (W2.length) 0 128 = t1
    go_wp2_with fail
    refine (read_calls _ p2 v2 _ 0 128 _ hn8 (by simp only [InK]; omega) (by simp only [InK]; omega)).mono ?_
    intro e w9 h
    obtain ⟨u2, rfl, hi2, hE9⟩ := h.ints
    have hi1 := hi1.below hE9
    have hm9 := hm8.below hE9 (Nat.le_refl _)
    have hn9 := hn8.below hE9 (Nat.le_refl _)
    have hE9 := hE8.trans (hE9.mono hE8.size)
    clear h hm8 hn8 hE8
    rw [F2.out] at hi2
    generalize memErr (V2.length) 0 128 = t2
    go_wp2_with fail
    refine (same_calls _ _ _ _ _ hi1 hi2).mono ?_
    rintro e w10 ⟨rfl, hE10⟩
    have hm10 := hm9.below hE10 (Nat.le_refl _)
    have hn10 := hn9.below hE10 (Nat.le_refl _)
    have hE10 := hE9.trans (hE10.mono hE9.size)
    clear hm9 hn9 hE9 hi1 hi2
    go_wp2_with fail
    refine (read_calls _ p1 v1 _ q _ _ hm10 (by simp only [InK]; omega) (by simp only [InK]; omega)).mono ?_
    intro e w11 h
    obtain ⟨u3, rfl, hi3, hE11⟩ := h.ints
    have hn11 := hn10.below hE11 (Nat.le_refl _)
    have hE11 := hE10.trans (hE11.mono hE10.size)
    clear h hm10 hn10 hE10
    have LA : Hid ((a1.length : Int) = 50) ∨ Hid ((a1.length : Int) = (a.length : Int)) := by
      have := HLA.out
      rcases Nat.lt_or_ge 50 a.length with h | h
      · exact Or.inl (show _ = _ by omega)
      · exact Or.inr (show _ = _ by omega)
    have LB : Hid ((b1.length : Int) = 50) ∨ Hid ((b1.length : Int) = (b.length : Int)) := by
      have := HLB.out
      rcases Nat.lt_or_ge 50 b.length with h | h
      · exact Or.inl (show _ = _ by omega)
      · exact Or.inr (show _ = _ by omega)
    have hi3 : Ints .i8 w11 u3 b1 := by
      have HL := HLB.out
      have e := F3.out
      first
        | (rw [show (b1.length : Int) = 50 from by omega] at e; rw [e] at hi3; exact hi3)
        | (rw [show (b1.length : Int) = (b.length : Int) from by omega] at e; rw [e] at hi3; exact hi3)
    generalize memErr (W2.length) q _ = t3
    clear LA LB F3
    go_wp2_with fail
    refine (read_calls _ p2 v2 _ p _ _ hn11 (by simp only [InK]; omega) (by simp only [InK]; omega)).mono ?_
    intro e w12 h
    obtain ⟨u4, rfl, hi4, hE12⟩ := h.ints
    have hi3 := hi3.below hE12
    have hE12 := hE11.trans (hE12.mono hE11.size)
    clear h hn11 hE11
    have hi4 : Ints .i8 w12 u4 a1 := by
      have HL := HLA.out
      have e := F4.out
      first
        | (rw [show (a1.length : Int) = 50 from by omega] at e; rw [e] at hi4; exact hi4)
        | (rw [show (a1.length : Int) = (a.length : Int) from by omega] at e; rw [e] at hi4; exact hi4)
    generalize memErr (V2.length) p _ = t4
    go_wp2_with fail
    refine (same_calls _ _ _ _ _ hi3 (hb1.below hE12)).mono ?_
    rintro e w13 ⟨rfl, hE13⟩
    have hi4 := hi4.below hE13
    have hE13 := hE12.trans (hE13.mono hE12.size)
    rw [decide_eq_true (rfl : b1 = b1)]
    clear hE12 hi3
    go_wp2_with fail
    refine (same_calls _ _ _ _ _ hi4 (ha1.below hE13)).mono ?_
    rintro e w14 ⟨rfl, hE14⟩
    have hE14 := hE13.trans (hE14.mono hE13.size)
    rw [decide_eq_true (rfl : a1 = a1)]
    clear hE13 hi4
    by_cases hs : W2 = V2
    · rw [decide_eq_true hs]
      clear F5 hs
      go_wp2
      all_goals
        go_ret
        exact ⟨rfl, hE14⟩
    · have F6 : ¬ (p + a1.length ≤ q ∨ q + b1.length ≤ p) := fun h => hs (F5.out h)
      rw [decide_eq_false hs]
      have la := HLA.out
      have lb := HLB.out
      clear F5 hs
      first | rw [show min a.length 50 = 50 from by omega] at la | rw [show min a.length 50 = a.length from by omega] at la
      first | rw [show min b.length 50 = 50 from by omega] at lb | rw [show min b.length 50 = b.length from by omega] at lb
      rw [la, lb] at F6
      clear la lb
      have f1 : ¬ ((p : Int) + 50 ≤ q) := fun h => F6 (Or.inl (by omega))
      have f2 : ¬ ((p : Int) + (a.length : Int) ≤ q) := fun h => F6 (Or.inl (by omega))
      have f3 : ¬ ((q : Int) + 50 ≤ p) := fun h => F6 (Or.inr (by omega))
      have f4 : ¬ ((q : Int) + (b.length : Int) ≤ p) := fun h => F6 (Or.inr (by omega))
      clear F6
      go_wp2
      go_ret
      exact ⟨rfl, hE14⟩

end Go.Proofs.Yticfgkcdghbklaa
