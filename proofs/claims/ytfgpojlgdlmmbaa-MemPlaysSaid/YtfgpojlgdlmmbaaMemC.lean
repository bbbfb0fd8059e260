/- The walks of the laws of package mem: the example, and what all stand on. -/
import Derived.Test.YtfgpojlgdlmmbaaMem
import Derived.Test.YtfgpojlgdlmmbaaRead
import Derived.Laws.BitsAllLaws
namespace Go.Proofs.Ytfgpojlgdlmmbaa
set_option linter.unusedSimpArgs false
set_option linter.unusedVariables false
set_option linter.unnecessarySimpa false
open Go.RowKit

theorem MemAt.grown {w w' : World} {base p : Nat} {v : Value} {zs : List Int} {row : Option Nat} (h : MemAt w base p v zs) (hg : w.grownBy w' row) (hp : row ≠ some p) (hv : v.ownBlock = none ∨ v.ownBlock ≠ row) : MemAt w' base p v zs := by
  obtain ⟨h1, h2, h3, h4⟩ := h
  refine ⟨?_, h2.kept hg hv, h3, h4⟩
  rw [hg.block p (by have := (Array.getElem?_eq_some_iff.1 h1).1; omega) (fun e => hp e.symm)]
  exact h1

theorem MemAt.wrote {B : Nat} {w0 w w' : World} {base p : Nat} {v : Value} {zs : List Int} (h : MemAt w base p v zs) (hb : Below B w0 w) (hB : B ≤ base) (hB' : B ≤ w.heap.size) (hg : w.grownBy w' v.ownBlock) : Below B w0 w' :=
  below_own hb hB' h.2.1 hB hg

theorem MemAt.lt {w : World} {base p : Nat} {v : Value} {zs : List Int} (h : MemAt w base p v zs) : p < w.heap.size ∧ ∀ k, v.ownBlock = some k → k < w.heap.size :=
  ⟨(Array.getElem?_eq_some_iff.1 h.1).1, fun k hk => (h.2.1.lt k hk).2⟩

/-- Two memories, the second made behind the first. -/
theorem mems_apart {w w' : World} {L base p p' : Nat} {v v' : Value} {zs zs' : List Int} (h : MemAt w base p v zs) (hL : w.heap.size ≤ L) (h' : MemAt w' L p' v' zs') (hp' : L ≤ p') :
    (v.ownBlock ≠ some p' ∧ (v'.ownBlock = none ∨ v'.ownBlock ≠ v.ownBlock)) ∧ (v'.ownBlock ≠ some p ∧ (v.ownBlock = none ∨ v.ownBlock ≠ v'.ownBlock)) := by
  obtain ⟨h1, h2⟩ := h.lt
  have h3 := fun k hk => (h'.2.1.lt k hk).1
  cases hv : v.ownBlock with
  | none =>
    refine ⟨⟨by simp, ?_⟩, ?_, Or.inl rfl⟩
    · cases hv' : v'.ownBlock <;> simp
    · intro e; have := h3 p e; omega
  | some k =>
    have h4 := h2 k hv
    refine ⟨⟨fun e => by cases e; omega, ?_⟩, ?_, Or.inr ?_⟩
    · cases hv' : v'.ownBlock with
      | none => exact Or.inl rfl
      | some k' => exact Or.inr fun e => by cases e; have := h3 k hv'; omega
    · intro e; have := h3 p e; omega
    · intro e; have := h3 k e.symm; omega

theorem ReadPost.ints {zs : List Int} {at_ k : Int} {w w' : World} {e : Ending} (h : ReadPost zs at_ k w e w') :
    ∃ v', e = .returned (.tuple #[v', .int .i64 (memErr zs.length at_ k)]) ∧ Ints .i8 w' v' (readAt zs at_ k) ∧ Below w.heap.size w w' := by
  obtain ⟨v', rfl, h1, h2⟩ := h
  exact ⟨v', rfl, ints_of_own h1, h2⟩

set_option maxHeartbeats 1600000 in
theorem shown11_calls (w : World) : Calls Try.prog 4 #[] w fun e w' => e = .returned (.bool true) ∧ Below w.heap.size w w' := by
  go_enter Try.func4, Try.ntmps4
  go_wp2_with fail
  refine (new_calls 4 _ (by simp only [InK]; omega)).mono ?_
  rintro e w1 ⟨p, v, rfl, hm, hp, hb1⟩
  go_wp2_with fail
  have hlit : Ints .i8 (w1.alloc (.cells #[.int .i8 5, .int .i8 6] 38)) (.slice (some ⟨w1.heap.size, 0, none⟩) 2 2) [5, 6] := row_new w1 _ _ 2 1 rfl (by decide)
  have hm1 := hm.below (below_alloc (Below.refl _ _) (Nat.le_refl _) (.cells #[.int .i8 5, .int .i8 6] 38)) (Nat.le_refl _)
  have hb2 := below_alloc hb1 hb1.size (.cells #[.int .i8 5, .int .i8 6] 38)
  refine (write_calls _ p v _ 2 _ _ _ hm1 (by simp only [InK]; omega) hlit).mono ?_
  rintro e w2 ⟨rfl, hm2, hg2⟩
  have hb2 := hm1.wrote hb2 (Nat.le_refl _) (by have := hb1.size; simp; omega) hg2
  clear hm hlit hm1 hg2 hb1
  go_wp2_with fail
  refine (read_calls _ p v _ 1 3 _ hm2 (by simp only [InK]; omega) (by simp only [InK]; omega)).mono ?_
  intro e w3 h
  obtain ⟨v3, rfl, hi3, hb3⟩ := h.ints
  have hm3 := hm2.below hb3 (Nat.le_refl _)
  have hb3 := hb2.trans (hb3.mono hb2.size)
  clear h hm2 hb2
  go_wp2_with fail
  refine (read_calls _ p v _ 2 3 _ hm3 (by simp only [InK]; omega) (by simp only [InK]; omega)).mono ?_
  intro e w4 h
  obtain ⟨v4, rfl, _, hb4⟩ := h.ints
  have hi4 := hi3.below hb4
  have hb4 := hb3.trans (hb4.mono hb3.size)
  clear h hm3 hb3 hi3
  rw [show readAt (writeAt (List.replicate (memSize 4) 0) 2 [5, 6]) 1 3 = [0, 5, 6] from by decide] at hi4
  rw [show memErr (writeAt (List.replicate (memSize 4) 0) 2 [5, 6]).length 1 3 = 0 from by decide, show memErr (writeAt (List.replicate (memSize 4) 0) 2 [5, 6]).length 2 3 = 23 from by decide, show memErr ((memSize 4 : Nat) : Int) 2 2 = 0 from by decide]
  obtain ⟨A, c, rfl, _, _, hc⟩ := hi4.form
  obtain ⟨b, off, rfl, h0⟩ := hc 0 (by decide)
  obtain ⟨_, _, e1, h1⟩ := hc 1 (by decide)
  cases e1
  obtain ⟨_, _, e2, h2⟩ := hc 2 (by decide)
  cases e2
  clear hc
  replace h0 : w4.cell? ⟨b, off, none⟩ = some (.int .i8 0) := h0
  replace h1 : w4.cell? ⟨b, off + 1, none⟩ = some (.int .i8 5) := h1
  replace h2 : w4.cell? ⟨b, off + 2, none⟩ = some (.int .i8 6) := h2
  simp only [List.length_cons, List.length_nil, Nat.zero_add, Nat.reduceAdd]
  go_wp2
  go_ret
  exact ⟨rfl, hb4⟩

def u8x2 : Ty := .st (.pair (.int .u8) (.pair (.int .u8) .unit))

theorem read_u8x2 {w : World} {cs : Array Value} {d : D} (h : u8x2.reads w (Value.agg cs).cells.toList d) : ∃ b0 b1, cs = #[.int .u8 b0, .int .u8 b1] ∧ InK .u8 b0 ∧ InK .u8 b1 := by
  simp only [u8x2, Ty.reads, Value.cells] at h
  obtain ⟨_, _, _, _, e, _, ⟨b0, rfl, k0, _⟩, ⟨_, _, _, _, rfl, _, ⟨b1, rfl, k1, _⟩, ⟨rfl, _⟩, _⟩, _⟩ := h
  exact ⟨b0, b1, by apply Array.ext'; simpa using e, k0, k1⟩

theorem u8_and_le (x : Int) (m : Nat) (h : 0 ≤ x ∧ x ≤ 255) (hm : m < 256) : 0 ≤ bits .and .u8 x m ∧ bits .and .u8 x m ≤ m := by
  obtain ⟨n, rfl⟩ := Int.eq_ofNat_of_zero_le h.1
  rw [u8_and_nat n m (by omega) hm]
  have := Nat.and_le_right (n := n) (m := m)
  omega

theorem memErr_ok {n at_ k : Int} (h : Fits n at_ k) : memErr n at_ k = 0 := if_pos h
theorem readAt_all (zs : List Int) (n : Int) (h : zs.length = n) : readAt zs 0 n = zs := by
  unfold readAt
  rw [if_pos ⟨by omega, by omega, by omega, by omega⟩, Int.toNat_zero, List.drop_zero, List.take_of_length_le (by omega)]
theorem readAt_of_get {zs ys : List Int} {at_ : Nat} {k : Int} (hk : (ys.length : Int) = k) (h : at_ + ys.length ≤ zs.length) (hg : ∀ j, j < ys.length → zs[at_ + j]? = ys[j]?) : readAt zs at_ k = ys := by
  unfold readAt
  rw [if_pos ⟨by omega, by omega, by omega, by omega⟩]
  apply List.ext_getElem?
  intro j
  rw [List.getElem?_take, List.getElem?_drop, Int.toNat_natCast]
  split
  · exact hg j (by omega)
  · rw [List.getElem?_eq_none (by omega)]
theorem write_get {zs ys : List Int} {at_ : Nat} (h : at_ + ys.length ≤ zs.length) (j : Nat) : (writeAt zs at_ ys)[j]? = if at_ ≤ j ∧ j < at_ + ys.length then ys[j - at_]? else zs[j]? := by
  unfold writeAt
  rw [if_pos ⟨by omega, by omega, by omega, by omega⟩, Int.toNat_natCast, splice_get _ _ _ h]
theorem read_write {zs ys : List Int} {at_ : Nat} (h : at_ + ys.length ≤ zs.length) : readAt (writeAt zs at_ ys) at_ ys.length = ys := by
  refine readAt_of_get rfl (by rw [length_writeAt]; exact h) fun j hj => ?_
  rw [write_get h, if_pos ⟨by omega, by omega⟩, Nat.add_sub_cancel_left]
theorem write_comm {zs a b : List Int} {p q : Nat} (hp : p + a.length ≤ zs.length) (hq : q + b.length ≤ zs.length) (h : p + a.length ≤ q ∨ q + b.length ≤ p) : writeAt (writeAt zs p a) q b = writeAt (writeAt zs q b) p a := by
  apply List.ext_getElem?
  intro j
  rw [write_get (by rw [length_writeAt]; exact hq), write_get hp, write_get (by rw [length_writeAt]; exact hp), write_get hq]
  split <;> split <;> first | rfl | omega

theorem memSize_eq {n : Int} {m : Nat} (h : (m : Int) = n) (h2 : m ≤ 65536) : memSize n = m := by unfold memSize; omega

theorem Ints.drop {k : IntKind} {w : World} {A : Option Addr} {n c : Nat} {zs : List Int} (h : Ints k w (.slice A n c) zs) {m : Nat} (hm : m ≤ zs.length) : Ints k w (.slice (A.map fun a => a.add m) (n - m) (c - m)) (zs.drop m) := by
  obtain ⟨A', c', e, h1, h2, h3, h4⟩ := h
  cases e
  have hl : (zs.drop m).length = zs.length - m := by simp
  refine ⟨_, _, by rw [hl], by omega, by omega, by simp, fun j u hj => ?_⟩
  rw [List.map_drop, List.getElem?_drop] at hj
  obtain ⟨b, off, rfl, hc⟩ := h4 _ _ hj
  have e : (⟨b, off, none⟩ : Addr).add m = ⟨b, off + m, none⟩ := by unfold Addr.add; split <;> simp_all
  exact ⟨b, off + m, by simp [e], by rw [show off + m + j = off + (m + j) from by omega]; exact hc⟩

theorem Ints.keep {k : IntKind} {w w1 w2 : World} {u v : Value} {zs : List Int} {base n sz : Nat} {e : TypeId} {xs : List Value} (h : Ints k w u zs) (hb : w.heap.size ≤ base) (ho : w1.ownsRow base e sz v n xs) (h1 : Ints k w1 u zs) (hg : w1.grownBy w2 v.ownBlock) : Ints k w2 u zs := by
  by_cases h0 : zs = []
  · subst h0
    obtain ⟨A, c, e, k1, k2, k3, _⟩ := h1
    exact ⟨A, c, e, k1, k2, k3, fun j u hj => by simp at hj⟩
  · obtain ⟨b, hb', hlt⟩ := Row.lt h (by simpa using h0)
    exact Row.grown h1 hg (Or.inr fun e' => own_ne ho (b := b) (by omega) (by rw [← e', hb']))

theorem ints_none {k : IntKind} {w : World} {A : Option Addr} {zs : List Int} (h : zs = []) : Ints k w (.slice A 0 0) zs := by
  subst h
  exact ⟨A, 0, rfl, Nat.le_refl _, Nat.zero_le _, rfl, fun j u hj => by simp at hj⟩

theorem write_all {Z l : List Int} (h : Z.length = l.length) : writeAt Z 0 l = l := by
  apply List.ext_getElem?
  intro j
  have := write_get (zs := Z) (ys := l) (at_ := 0) (by omega) j
  rw [show ((0 : Nat) : Int) = 0 from rfl] at this
  rw [this]
  split
  · rfl
  · rw [List.getElem?_eq_none (by omega), List.getElem?_eq_none (by omega)]

theorem write_parts {Z l : List Int} {k : Nat} (h : Z.length = l.length) (hk : k ≤ l.length) : writeAt (writeAt Z k (l.drop k)) 0 (l.take k) = l := by
  apply List.ext_getElem?
  intro j
  have hl1 : (l.drop k).length = l.length - k := by simp
  have hl2 : (l.take k).length = k := by simp; omega
  have := write_get (zs := writeAt Z k (l.drop k)) (ys := l.take k) (at_ := 0) (by rw [length_writeAt]; omega) j
  rw [show ((0 : Nat) : Int) = 0 from rfl] at this
  rw [this, write_get (by omega), hl1, hl2]
  split
  · rw [List.getElem?_take_of_lt (by omega)]; rfl
  · split
    · rw [List.getElem?_drop]; congr 1; omega
    · rw [List.getElem?_eq_none (by omega), List.getElem?_eq_none (by omega)]

theorem i64_and_le (x : Int) (m : Nat) (hm : m < 9223372036854775808) : 0 ≤ bits .and .i64 x m ∧ bits .and .i64 x m ≤ m := by
  show 0 ≤ IntKind.i64.wrap ((BitVec.ofInt 64 x &&& BitVec.ofInt 64 (m : Int)).toNat : Int) ∧ IntKind.i64.wrap ((BitVec.ofInt 64 x &&& BitVec.ofInt 64 (m : Int)).toNat : Int) ≤ m
  rw [BitVec.toNat_and, BitVec.ofInt_natCast, BitVec.toNat_ofNat, Nat.mod_eq_of_lt (by omega), IntKind.wrap_i64]
  have := Nat.and_le_right (n := (BitVec.ofInt 64 x).toNat) (m := m)
  omega

theorem memErr_no {n at_ k : Int} (h : ¬ Fits n at_ k) : memErr n at_ k = 23 := if_neg h

theorem grown_trans {a b c : World} {row : Option Nat} (h : a.grownBy b row) (k : b.grownBy c row) : a.grownBy c row :=
  ⟨k.os.trans h.os, k.tape.trans h.tape, k.output.trans h.output, Nat.le_trans h.size k.size, fun x hx hr => (k.block x (Nat.lt_of_lt_of_le hx h.size) hr).trans (h.block x hx hr)⟩
theorem grown_drew {a b : World} {row : Option Nat} (h : a.grownBy b row) : a.grownBy b.drew row := ⟨h.os, h.tape, h.output, h.size, h.block⟩

theorem own_len (B : Option Addr) (m m' cb : Nat) : (Value.slice B m cb).ownBlock = (Value.slice B m' cb).ownBlock := by cases B <;> rfl

/-- A write and a read of a memory. -/
structure OpW where
  at_ : Int
  frm : Int
  n : Int
  lv : Value
  zs : List Int

def OpW.cs (o : OpW) : List Value := [.int .i64 o.at_, .int .i64 o.frm, .int .i64 o.n, o.lv]
def Ops (w : World) (v : Value) (l : List OpW) : Prop := Row w v l.length 4 (l.flatMap OpW.cs) ∧ ∀ o ∈ l, Ints .i8 w o.lv o.zs ∧ InK .i64 o.at_ ∧ InK .i64 o.frm ∧ InK .i64 o.n

theorem ocs_get : ∀ (l : List OpW) (j i : Nat), i < 4 → (l.flatMap OpW.cs)[j * 4 + i]? = (l[j]?).bind fun s => s.cs[i]?
  | [], j, i, _ => by simp
  | s :: l, 0, i, hi => by
    rw [List.flatMap_cons, Nat.zero_mul, Nat.zero_add, List.getElem?_append_left (by simp [OpW.cs]; omega)]
    rfl
  | s :: l, j + 1, i, hi => by
    rw [List.flatMap_cons, List.getElem?_append_right (by simp [OpW.cs]; omega), show (j + 1) * 4 + i - s.cs.length = j * 4 + i from by simp [OpW.cs]; omega, ocs_get l j i hi]
    rfl

theorem Ops.form {w : World} {v : Value} {l : List OpW} (h : Ops w v l) : ∃ A c, v = .slice A l.length c ∧ l.length ≤ c ∧ c ≤ maxLen ∧
    (∀ j s, l[j]? = some s → ∃ b off, A = some ⟨b, off, none⟩ ∧ w.cell? ⟨b, off + j * 4, none⟩ = some (.int .i64 s.at_) ∧ w.cell? ⟨b, off + j * 4 + 1, none⟩ = some (.int .i64 s.frm) ∧
      w.cell? ⟨b, off + j * 4 + 2, none⟩ = some (.int .i64 s.n) ∧ w.cell? ⟨b, off + j * 4 + 3, none⟩ = some s.lv) := by
  obtain ⟨⟨A, c, e, h1, h2, h3, h4⟩, _⟩ := h
  refine ⟨A, c, e, h1, h2, fun j s hj => ?_⟩
  have g := fun i u (hi : i < 4) (hu : s.cs[i]? = some u) => h4 (j * 4 + i) u (by rw [ocs_get _ _ _ hi, hj]; exact hu)
  obtain ⟨b, off, rfl, k0⟩ := g 0 _ (by omega) rfl
  obtain ⟨_, _, e1, k1⟩ := g 1 _ (by omega) rfl
  obtain ⟨_, _, e2, k2⟩ := g 2 _ (by omega) rfl
  obtain ⟨_, _, e3, k3⟩ := g 3 _ (by omega) rfl
  cases e1; cases e2; cases e3
  exact ⟨b, off, rfl, by simpa using k0, by simpa [Nat.add_assoc] using k1, by simpa [Nat.add_assoc] using k2, by simpa [Nat.add_assoc] using k3⟩

theorem Ops.below {w w' : World} {v : Value} {l : List OpW} (h : Ops w v l) (hb : Below w.heap.size w w') : Ops w' v l := ⟨Row.below h.1 hb, fun o ho => ⟨(h.2 o ho).1.below hb, (h.2 o ho).2⟩⟩

theorem own_slice {w : World} {base : Nat} {e : TypeId} {v : Value} {n : Nat} {xs : List Value} (h : w.ownsRow base e 1 v n xs) : ∃ A c, v = .slice A n c ∧ n ≤ c ∧ c ≤ maxLen ∧ (0 < n → ∃ g, A = some ⟨g, 0, none⟩ ∧ base ≤ g) := by
  rcases h.2 with ⟨rfl, rfl⟩ | ⟨g, cap, cur, rfl, h1, h2, h3, h4, _⟩
  · exact ⟨none, 0, rfl, Nat.le_refl _, Nat.zero_le _, fun h => by omega⟩
  · exact ⟨_, cap, rfl, h3, h4, fun _ => ⟨g, rfl, h1⟩⟩

theorem splice_snoc {zs ys : List Int} {p k : Nat} (h : p + ys.length ≤ zs.length) (hk : k < ys.length) : (splice zs p (ys.take k)).set (p + k) (ys[k]?.getD 0) = splice zs p (ys.take (k + 1)) := by
  have l1 : (ys.take k).length = k := by rw [List.length_take]; omega
  have l2 : (ys.take (k + 1)).length = k + 1 := by rw [List.length_take]; omega
  apply List.ext_getElem?
  intro j
  rw [List.getElem?_set, splice_get _ _ _ (by omega), splice_get _ _ _ (by omega), l1, l2, length_splice _ _ _ (by omega)]
  by_cases hj : p + k = j
  · subst hj
    rw [if_pos rfl, if_pos (by omega), if_pos ⟨by omega, by omega⟩, Nat.add_sub_cancel_left, List.getElem?_take_of_lt (by omega)]
    simp [hk]
  · rw [if_neg hj]
    by_cases h1 : p ≤ j ∧ j < p + k
    · rw [if_pos h1, if_pos ⟨h1.1, by omega⟩, List.getElem?_take_of_lt (by omega), List.getElem?_take_of_lt (by omega)]
    · rw [if_neg h1, if_neg (by omega)]

end Go.Proofs.Ytfgpojlgdlmmbaa
