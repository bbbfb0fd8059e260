/- The walk of the law RegionMoves. -/
import Derived.Test.YticfgkcdghbklaaRegM
import Derived.Test.YticfgkcdghbklaaRegS
import Derived.Test.YticfgkcdghbklaaRegO
import Derived.Deep.Cut
namespace Go.Proofs.Yticfgkcdghbklaa
open Go.RowKit

theorem i64_and_nat (x : Int) (m : Nat) (hm : m < 9223372036854775808) : ∃ k : Nat, bits .and .i64 x m = k ∧ k ≤ m := by
  have h : 0 ≤ bits .and .i64 x m ∧ bits .and .i64 x m ≤ m := by
    show 0 ≤ IntKind.i64.wrap ((BitVec.ofInt 64 x &&& BitVec.ofInt 64 (m : Int)).toNat : Int) ∧ IntKind.i64.wrap ((BitVec.ofInt 64 x &&& BitVec.ofInt 64 (m : Int)).toNat : Int) ≤ m
    rw [BitVec.toNat_and, BitVec.ofInt_natCast, BitVec.toNat_ofNat, Nat.mod_eq_of_lt (by omega), IntKind.wrap_i64]
    have := Nat.and_le_right (n := (BitVec.ofInt 64 x).toNat) (m := m)
    omega
  exact ⟨(bits .and .i64 x m).toNat, (Int.toNat_of_nonneg h.1).symm, by omega⟩

/-- The cells of a span that stand in a block. -/
def Box (w : World) (b : Nat) (s : Sp) : Prop := w.heap[b]? = some (.cells #[.int .i64 s.mem, .int .i64 s.frm, .int .i64 s.to, .bool s.wr] 31 (0, 0))
theorem Box.lt {w : World} {b : Nat} {s : Sp} (h : Box w b s) : b < w.heap.size := (Array.getElem?_eq_some_iff.1 h).1
theorem Box.below {w w' : World} {b : Nat} {s : Sp} (h : Box w b s) (hb : Below w.heap.size w w') : Box w' b s := (hb.block b h.lt).trans h
theorem box_new (w : World) (s : Sp) : Box (w.alloc (.cells #[.int .i64 s.mem, .int .i64 s.frm, .int .i64 s.to, .bool s.wr] 31)) w.heap.size s := heap_alloc_new w _
theorem Box.cells {w : World} {b : Nat} {s : Sp} (h : Box w b s) :
    w.cell? ⟨b, 0, none⟩ = some (.int .i64 s.mem) ∧ w.cell? ⟨b, 1, none⟩ = some (.int .i64 s.frm) ∧ w.cell? ⟨b, 2, none⟩ = some (.int .i64 s.to) ∧ w.cell? ⟨b, 3, none⟩ = some (.bool s.wr) := by
  unfold Box at h
  refine ⟨?_, ?_, ?_, ?_⟩ <;> simp [World.cell?, h]
theorem Box.frozen {w : World} {b : Nat} {s : Sp} (h : Box w b s) (o : Nat) : w.frozen? ⟨b, o, none⟩ = false := by
  unfold Box at h
  simp [World.frozen?, h]
theorem Box.setMem {w : World} {b : Nat} {s : Sp} (h : Box w b s) (z : Int) : Box (w.setCell ⟨b, 0, none⟩ (.int .i64 z)) b { s with mem := z } := by
  have hl := h.lt
  unfold Box at h ⊢
  simp [World.setCell, Array.getElem?_modify, h]
theorem Box.other {w : World} {b b' : Nat} {s : Sp} (h : Box w b s) (hne : b' ≠ b) (o : Nat) (v : Value) : Box (w.setCell ⟨b', o, none⟩ v) b s := by
  unfold Box at h ⊢
  simp [World.setCell, Array.getElem?_modify, h, hne]

theorem clash_one1 (x y : Sp) : clashB [x] [y] = meetB x y := by simp [clashB]

theorem two_rows (W : World) (s t : Sp) (n : Nat) (hn : W.heap.size = n) : Spans ((W.alloc (.cells #[.int .i64 s.mem, .int .i64 s.frm, .int .i64 s.to, .bool s.wr] 31)).alloc (.cells #[.int .i64 t.mem, .int .i64 t.frm, .int .i64 t.to, .bool t.wr] 31)) (.slice (some ⟨n, 0, none⟩) 1 1) [s] ∧ Spans ((W.alloc (.cells #[.int .i64 s.mem, .int .i64 s.frm, .int .i64 s.to, .bool s.wr] 31)).alloc (.cells #[.int .i64 t.mem, .int .i64 t.frm, .int .i64 t.to, .bool t.wr] 31)) (.slice (some ⟨n + 1, 0, none⟩) 1 1) [t] ∧ Below W.heap.size W ((W.alloc (.cells #[.int .i64 s.mem, .int .i64 s.frm, .int .i64 s.to, .bool s.wr] 31)).alloc (.cells #[.int .i64 t.mem, .int .i64 t.frm, .int .i64 t.to, .bool t.wr] 31)) ∧
    Box ((W.alloc (.cells #[.int .i64 s.mem, .int .i64 s.frm, .int .i64 s.to, .bool s.wr] 31)).alloc (.cells #[.int .i64 t.mem, .int .i64 t.frm, .int .i64 t.to, .bool t.wr] 31)) n s ∧ Box ((W.alloc (.cells #[.int .i64 s.mem, .int .i64 s.frm, .int .i64 s.to, .bool s.wr] 31)).alloc (.cells #[.int .i64 t.mem, .int .i64 t.frm, .int .i64 t.to, .bool t.wr] 31)) (n + 1) t := by
  subst hn
  have b2 := below_alloc (Below.refl _ (W.alloc (.cells #[.int .i64 s.mem, .int .i64 s.frm, .int .i64 s.to, .bool s.wr] 31))) (Nat.le_refl _) (.cells #[.int .i64 t.mem, .int .i64 t.frm, .int .i64 t.to, .bool t.wr] 31)
  have e : (W.alloc (.cells #[.int .i64 s.mem, .int .i64 s.frm, .int .i64 s.to, .bool s.wr] 31)).heap.size = W.heap.size + 1 := by simp
  refine ⟨(one_span W s).below b2, ?_, below_alloc (below_alloc (Below.refl _ _) (Nat.le_refl _) _) (by simp) _, (box_new W s).below b2, ?_⟩
  · rw [← e]; exact one_span _ t
  · rw [← e]; exact box_new _ t

/-- Some number below k lies in both spans. -/
def numB (xf xd yf yd k : Nat) : Bool := (List.range k).any fun i => decide (xf ≤ i) && decide (i < xf + xd) && decide (yf ≤ i) && decide (i < yf + yd)

theorem numB_succ (xf xd yf yd k : Nat) : numB xf xd yf yd (k + 1) = (numB xf xd yf yd k || (decide (xf ≤ k) && decide (k < xf + xd) && decide (yf ≤ k) && decide (k < yf + yd))) := by
  unfold numB
  rw [List.range_succ, List.any_append]
  simp

theorem moves_meet (xm xf xd ym yf yd : Nat) (by_ : Int) (aw bw : Bool) : meetB ⟨xm, (xf : Int) + by_, (xf : Int) + xd + by_, aw⟩ ⟨ym, (yf : Int) + by_, (yf : Int) + yd + by_, bw⟩ = meetB ⟨xm, xf, (xf : Int) + xd, aw⟩ ⟨ym, yf, (yf : Int) + yd, bw⟩ := by
  unfold meetB
  congr 1
  congr 1
  congr 1
  congr 1
  all_goals rw [Bool.eq_iff_iff, decide_eq_true_iff, decide_eq_true_iff]; simp only; omega

theorem moves_other (xm xf xd yf yd : Nat) (by_ : Int) (aw bw : Bool) : meetB ⟨xm, (xf : Int) + by_, (xf : Int) + xd + by_, aw⟩ ⟨1 - (xm : Int), (yf : Int) + by_, (yf : Int) + yd + by_, bw⟩ = false := by
  unfold meetB
  have : ((xm : Int) == 1 - (xm : Int)) = false := by rw [beq_eq_false_iff_ne]; omega
  simp [this]

theorem moves_within (xm xf xd : Nat) (aw bw : Bool) : meetB ⟨xm, xf, (xf : Int) + xd, aw⟩ ⟨xm, xf, (xf : Int) + min 1 ((xf : Int) + xd - xf), bw⟩ = (decide (0 < xd) && (aw || bw)) := by
  rw [Bool.eq_iff_iff]
  simp only [meetB, Bool.and_eq_true, Bool.or_eq_true, beq_iff_eq, decide_eq_true_eq]
  constructor
  · rintro ⟨⟨⟨⟨⟨h1, h2⟩, h3⟩, h4⟩, h5⟩, h6⟩; exact ⟨by omega, h2⟩
  · rintro ⟨h1, h2⟩; exact ⟨⟨⟨⟨⟨trivial, h2⟩, by omega⟩, by omega⟩, by omega⟩, by omega⟩

theorem moves_numbers (xm xf xd ym yf yd : Nat) (aw bw : Bool) (h1 : xf ≤ 63) (h2 : yf ≤ 63) : meetB ⟨xm, xf, (xf : Int) + xd, aw⟩ ⟨ym, yf, (yf : Int) + yd, bw⟩ = ((xm == ym) && numB xf xd yf yd 128 && (aw || bw)) := by
  rw [Bool.eq_iff_iff]
  simp only [meetB, numB, Bool.and_eq_true, Bool.or_eq_true, beq_iff_eq, decide_eq_true_eq, List.any_eq_true, List.mem_range]
  constructor
  · rintro ⟨⟨⟨⟨⟨h1, h2⟩, h3⟩, h4⟩, h5⟩, h6⟩
    refine ⟨⟨by omega, max xf yf, by omega, ⟨⟨by omega, by omega⟩, by omega⟩, by omega⟩, h2⟩
  · rintro ⟨⟨h1, i, hi, ⟨⟨h3, h4⟩, h5⟩, h6⟩, h2⟩
    exact ⟨⟨⟨⟨⟨by omega, h2⟩, by omega⟩, by omega⟩, by omega⟩, by omega⟩

set_option maxRecDepth 20000 in
set_option maxHeartbeats 1600000 in
theorem regionMoves_calls (a b : Sp) (by_ : Int) (w : World) (hby : 0 ≤ by_ ∧ by_ ≤ 255) :
    Calls Try.prog 14 #[a.v, b.v, .int .u8 by_] w fun e w' => e = .returned (.bool true) ∧ Below w.heap.size w w' := by
  have A0 := box_new w a
  have B0 := box_new (w.alloc (.cells #[.int .i64 a.mem, .int .i64 a.frm, .int .i64 a.to, .bool a.wr] 31)) b
  have A0 := A0.below (below_alloc (Below.refl _ _) (Nat.le_refl _) (.cells #[.int .i64 b.mem, .int .i64 b.frm, .int .i64 b.to, .bool b.wr] 31))
  rw [show (w.alloc (.cells #[.int .i64 a.mem, .int .i64 a.frm, .int .i64 a.to, .bool a.wr] 31)).heap.size = w.heap.size + 1 from by simp] at B0
  have hE0 : Below w.heap.size w ((w.alloc (.cells #[.int .i64 a.mem, .int .i64 a.frm, .int .i64 a.to, .bool a.wr] 31)).alloc (.cells #[.int .i64 b.mem, .int .i64 b.frm, .int .i64 b.to, .bool b.wr] 31)) := below_alloc (below_alloc (Below.refl _ _) (Nat.le_refl _) _) (by simp) _
  obtain ⟨am, af, at_, aw⟩ := a
  obtain ⟨bm, bf, bt, bw⟩ := b
  obtain ⟨xm, hxm, lxm⟩ := i64_and_nat am 1 (by omega)
  obtain ⟨ym, hym, lym⟩ := i64_and_nat bm 1 (by omega)
  obtain ⟨xf, hxf, lxf⟩ := i64_and_nat af 63 (by omega)
  obtain ⟨yf, hyf, lyf⟩ := i64_and_nat bf 63 (by omega)
  obtain ⟨xd, hxd, lxd⟩ := i64_and_nat at_ 63 (by omega)
  obtain ⟨yd, hyd, lyd⟩ := i64_and_nat bt 63 (by omega)
  replace hxm : bits .and .i64 am 1 = xm := hxm
  replace hym : bits .and .i64 bm 1 = ym := hym
  replace hxf : bits .and .i64 af 63 = xf := hxf
  replace hyf : bits .and .i64 bf 63 = yf := hyf
  replace hxd : bits .and .i64 at_ 63 = xd := hxd
  replace hyd : bits .and .i64 bt 63 = yd := hyd
  unfold Sp.v
  simp only at A0 B0 hE0
  go_enter Try.func14, Try.ntmps14
  go_wp2_with fail
  generalize (w.alloc (.cells #[.int .i64 am, .int .i64 af, .int .i64 at_, .bool aw] 31)).alloc (.cells #[.int .i64 bm, .int .i64 bf, .int .i64 bt, .bool bw] 31) = w0 at *
  refine (shown12_calls w0).mono ?_
  rintro e w1 ⟨rfl, hE1⟩
  obtain ⟨a0, a1, a2, a3⟩ := (A0.below hE1).cells
  obtain ⟨b0, b1, b2, b3⟩ := (B0.below hE1).cells
  have la := (A0.below hE1).lt
  have lb := (B0.below hE1).lt
  have na : w.heap.size ≠ w1.heap.size := by omega
  have nb : w.heap.size + 1 ≠ w1.heap.size := by omega
  have na' : w.heap.size ≠ w1.heap.size + 1 := by omega
  have nb' : w.heap.size + 1 ≠ w1.heap.size + 1 := by omega
  simp only at a0 a1 a2 a3 b0 b1 b2 b3
  have hE1 := hE0.trans (hE1.mono hE0.size)
  clear A0 B0 hE0
  obtain ⟨X, hX⟩ : ∃ X : Sp, X = ⟨xm, xf, (xf : Int) + xd, aw⟩ := ⟨_, rfl⟩
  obtain ⟨Y, hY⟩ : ∃ Y : Sp, Y = ⟨ym, yf, (yf : Int) + yd, bw⟩ := ⟨_, rfl⟩
  obtain ⟨_, _, g1, BX, BY⟩ := two_rows w1 X Y _ rfl
  obtain ⟨SX, SY, g2, _, _⟩ := two_rows ((w1.alloc (.cells #[.int .i64 X.mem, .int .i64 X.frm, .int .i64 X.to, .bool X.wr] 31)).alloc (.cells #[.int .i64 Y.mem, .int .i64 Y.frm, .int .i64 Y.to, .bool Y.wr] 31)) X Y (w1.heap.size + 1 + 1) (by simp)
  have hE2 := (hE1.trans (g1.mono hE1.size)).trans (g2.mono (Nat.le_trans hE1.size g1.size))
  have BX := BX.below g2
  have BY := BY.below g2
  clear g1 g2
  go_wp2_with fail
  have hc := clash_calls _ _ _ _ _ SX SY
  have BX' := BX
  have BY' := BY
  subst hX
  subst hY
  simp only at hc hE2 BX' BY'
  refine hc.mono ?_
  rintro e w2 ⟨rfl, hE⟩
  have BX := BX.below hE
  have BY := BY.below hE
  have hE2 := hE2.trans (hE.mono hE2.size)
  clear hc SX SY BX' BY' hE
  rw [clash_one1]
  have hsz : w1.heap.size + 1 + 1 ≤ w2.heap.size := by have := BY.lt; omega
  obtain ⟨x0, x1, x2, x3⟩ := BX.cells
  obtain ⟨y0, y1, y2, y3⟩ := BY.cells
  simp only at x0 x1 x2 x3 y0 y1 y2 y3
  go_upto_region 8 with fail
  obtain ⟨y0', y1', y2', y3'⟩ := (BY.below (below_alloc (Below.refl _ _) (Nat.le_refl _) (.cells #[.int .i64 xm, .int .i64 xf, .int .i64 ((xf : Int) + xd), .bool aw] 31))).cells
  simp only at y0' y1' y2' y3'
  obtain ⟨p, hp⟩ : ∃ p : Sp, p = ⟨xm, (xf : Int) + by_, (xf : Int) + xd + by_, aw⟩ := ⟨_, rfl⟩
  obtain ⟨q, hq⟩ : ∃ q : Sp, q = ⟨ym, (yf : Int) + by_, (yf : Int) + yd + by_, bw⟩ := ⟨_, rfl⟩
  obtain ⟨_, _, g1, BP, BQ⟩ := two_rows w2 p q _ rfl
  obtain ⟨SP, SQ, g2, _, _⟩ := two_rows ((w2.alloc (.cells #[.int .i64 p.mem, .int .i64 p.frm, .int .i64 p.to, .bool p.wr] 31)).alloc (.cells #[.int .i64 q.mem, .int .i64 q.frm, .int .i64 q.to, .bool q.wr] 31)) p q (w2.heap.size + 1 + 1) (by simp)
  have hE3 := (hE2.trans (g1.mono hE2.size)).trans (g2.mono (Nat.le_trans hE2.size g1.size))
  have BX := (BX.below g1).below g2
  have BY := (BY.below g1).below g2
  have BP := BP.below g2
  have BQ := BQ.below g2
  clear g1 g2
  subst hp
  subst hq
  simp only at SP SQ hE3 BX BY BP BQ
  go_wp2_with fail
  refine (clash_calls _ _ _ _ _ SP SQ).mono ?_
  rintro e w3 ⟨rfl, hE⟩
  have BX := BX.below hE
  have BY := BY.below hE
  have BP := BP.below hE
  have BQ := BQ.below hE
  have hE3 := hE3.trans (hE.mono hE3.size)
  clear SP SQ hE x0 x1 x2 x3 y0 y1 y2 y3 y0' y1' y2' y3'
  rw [clash_one1]
  have hsz2 : w2.heap.size + 1 + 1 ≤ w3.heap.size := by have := BQ.lt; omega
  obtain ⟨p0, p1, p2, p3⟩ := BP.cells
  obtain ⟨q0, q1, q2, q3⟩ := BQ.cells
  have fq := BQ.frozen 0
  simp only at p0 p1 p2 p3 q0 q1 q2 q3
  go_upto_region 15 with fail
  have BX := BX.other (b' := w2.heap.size + 1) (by omega) 0 (.int .i64 (1 - (xm : Int)))
  have BY := BY.other (b' := w2.heap.size + 1) (by omega) 0 (.int .i64 (1 - (xm : Int)))
  have BP := BP.other (b' := w2.heap.size + 1) (by omega) 0 (.int .i64 (1 - (xm : Int)))
  have BQ := BQ.setMem (1 - (xm : Int))
  have hE4 : Below w.heap.size w (w3.setCell ⟨w2.heap.size + 1, 0, none⟩ (.int .i64 (1 - (xm : Int)))) := hE3.setCell (by have := hE2.size; simp only; omega) _
  have hs4 : w2.heap.size + 1 + 1 ≤ (w3.setCell ⟨w2.heap.size + 1, 0, none⟩ (.int .i64 (1 - (xm : Int)))).heap.size := by simpa using hsz2
  clear hE2 hE3 p0 p1 p2 p3 q0 q1 q2 q3 fq hsz2
  generalize w3.setCell ⟨w2.heap.size + 1, 0, none⟩ (.int .i64 (1 - (xm : Int))) = w4 at *
  obtain ⟨p0, p1, p2, p3⟩ := BP.cells
  obtain ⟨q0, q1, q2, q3⟩ := BQ.cells
  simp only at p0 p1 p2 p3 q0 q1 q2 q3
  obtain ⟨SP, SQ, g1, _, _⟩ := two_rows w4 ⟨xm, (xf : Int) + by_, (xf : Int) + xd + by_, aw⟩ ⟨1 - (xm : Int), (yf : Int) + by_, (yf : Int) + yd + by_, bw⟩ w4.heap.size rfl
  have hE4 := hE4.trans (g1.mono hE4.size)
  have BX := BX.below g1
  have BY := BY.below g1
  clear g1
  obtain ⟨q0', q1', q2', q3'⟩ := (BQ.below (below_alloc (Below.refl _ _) (Nat.le_refl _) (.cells #[.int .i64 xm, .int .i64 ((xf : Int) + by_), .int .i64 ((xf : Int) + xd + by_), .bool aw] 31))).cells
  simp only at q0' q1' q2' q3'
  simp only at SP SQ hE4 BX BY
  go_wp2_with fail
  refine (clash_calls _ _ _ _ _ SP SQ).mono ?_
  rintro e w5 ⟨rfl, hE⟩
  have BX := BX.below hE
  have BY := BY.below hE
  have hE4 := hE4.trans (hE.mono hE4.size)
  have hs5 : w2.heap.size + 1 + 1 ≤ w5.heap.size := by have := hE.size; simp at this; omega
  clear SP SQ hE p0 p1 p2 p3 q0 q1 q2 q3 q0' q1' q2' q3' BP BQ
  rw [clash_one1]
  obtain ⟨x0, x1, x2, x3⟩ := BX.cells
  obtain ⟨y0, y1, y2, y3⟩ := BY.cells
  simp only at x0 x1 x2 x3 y0 y1 y2 y3
  have m1 : w1.heap.size < w5.heap.size := by omega
  have m2 : w1.heap.size + 1 < w5.heap.size := by omega
  go_upto_region 20 with fail
  have hl6 := below_alloc (Below.refl w5.heap.size w5) (Nat.le_refl _) (.cells #[.int .i64 xm, .int .i64 xf, .int .i64 ((xf : Int) + min 1 ((xf : Int) + xd - xf)), .bool bw] 31)
  have BX := BX.below hl6
  have BY := BY.below hl6
  have BI := box_new w5 ⟨xm, xf, (xf : Int) + min 1 ((xf : Int) + xd - xf), bw⟩
  have hE5 := hE4.trans (hl6.mono hE4.size)
  clear hl6 hE4 m1 m2 x0 x1 x2 x3 y0 y1 y2 y3
  simp only at BI
  generalize w5.alloc (.cells #[.int .i64 xm, .int .i64 xf, .int .i64 ((xf : Int) + min 1 ((xf : Int) + xd - xf)), .bool bw] 31) = w6 at *
  obtain ⟨SX, SI, g1, _, _⟩ := two_rows w6 ⟨xm, xf, (xf : Int) + xd, aw⟩ ⟨xm, xf, (xf : Int) + min 1 ((xf : Int) + xd - xf), bw⟩ w6.heap.size rfl
  obtain ⟨x0, x1, x2, x3⟩ := BX.cells
  obtain ⟨i0, i1, i2, i3⟩ := BI.cells
  have m1 := BI.lt
  have hE5 := hE5.trans (g1.mono hE5.size)
  have BX := BX.below g1
  have BY := BY.below g1
  simp only at SX SI hE5 BX BY x0 x1 x2 x3 i0 i1 i2 i3
  clear g1
  go_wp2_with fail
  refine (clash_calls _ _ _ _ _ SX SI).mono ?_
  rintro e w7 ⟨rfl, hE⟩
  have BX := BX.below hE
  have BY := BY.below hE
  have hE7 := hE5.trans (hE.mono hE5.size)
  clear hE5
  clear SX SI hE x0 x1 x2 x3 i0 i1 i2 i3 m1 BI
  rw [clash_one1]
  obtain ⟨x0, x1, x2, x3⟩ := BX.cells
  obtain ⟨y0, y1, y2, y3⟩ := BY.cells
  simp only at x0 x1 x2 x3 y0 y1 y2 y3
  rw [moves_meet xm xf xd ym yf yd by_ aw bw, moves_other xm xf xd yf yd by_ aw bw, moves_within xm xf xd aw bw, moves_numbers xm xf xd ym yf yd aw bw lxf lyf]
  have HL : Hid (xm ≤ 1 ∧ ym ≤ 1 ∧ xf ≤ 63 ∧ yf ≤ 63 ∧ xd ≤ 63 ∧ yd ≤ 63) := ⟨lxm, lym, lxf, lyf, lxd, lyd⟩
  go_wp2_with fail
  go_loop [17, 18] (fun n i => ∃ k : Nat, k ≤ 128 ∧ i = .int .i64 k ∧ n = .bool (numB xf xd yf yd k)) (fun _ i => 128 - (intOf i).toNat)
  case atStart => exact ⟨0, by omega, rfl, rfl⟩
  case round =>
    obtain ⟨k, hk, rfl, rfl⟩ := hrel
    by_cases hlt : k < 128
    · have hsn := Lib.hid (numB_succ xf xd yf yd k)
      generalize numB xf xd yf yd k = nb0 at *
      cases nb0 with
      | true =>
        go_wp2_with fail
        go_round
        case rel => exact ⟨k + 1, by omega, by go_num, congrArg Value.bool (by rw [hsn.out]; rfl)⟩
        case measure => simp [intOf]; omega
      | false =>
        by_cases c1 : (xf : Int) ≤ k
        · by_cases c2 : (k : Int) < (xf : Int) + xd
          · by_cases c3 : (yf : Int) ≤ k
            · by_cases c4 : (k : Int) < (yf : Int) + yd
              all_goals
                go_wp2_with fail
                go_round
                case rel => exact ⟨k + 1, by omega, by go_num, congrArg Value.bool (by rw [hsn.out, Bool.eq_iff_iff]; simp; omega)⟩
                case measure => simp [intOf]; omega
            · go_wp2_with fail
              go_round
              case rel => exact ⟨k + 1, by omega, by go_num, congrArg Value.bool (by rw [hsn.out, Bool.eq_iff_iff]; simp; omega)⟩
              case measure => simp [intOf]; omega
          · go_wp2_with fail
            go_round
            case rel => exact ⟨k + 1, by omega, by go_num, congrArg Value.bool (by rw [hsn.out, Bool.eq_iff_iff]; simp; omega)⟩
            case measure => simp [intOf]; omega
        · go_wp2_with fail
          go_round
          case rel => exact ⟨k + 1, by omega, by go_num, congrArg Value.bool (by rw [hsn.out, Bool.eq_iff_iff]; simp; omega)⟩
          case measure => simp [intOf]; omega
    · have hk8 : k = 128 := by omega
      subst hk8
      clear hlt hk
      have HM : Hid (mayE ⟨xm, xf, (xf : Int) + xd, aw⟩ = 0) := by
        obtain ⟨l1, l2, l3, l4, l5, l6⟩ := HL.out
        show mayE _ = 0
        unfold mayE
        simp only
        rw [if_neg (by omega), if_neg (by have : xm = 0 ∨ xm = 1 := by omega
                                          rcases this with rfl | rfl <;> simp [memTop] <;> omega)]
      have HN : Hid (xd = 0 → numB xf xd yf yd 128 = false) := by
        show _ → _
        intro h
        subst h
        unfold numB
        rw [List.any_eq_false]
        intro i _
        simp
        omega
      generalize numB xf xd yf yd 128 = nb at *
      clear HL lxm lym lxf lyf lxd lyd hxm hym hxf hyf hxd hyd
      have hmay := may_calls ⟨xm, xf, (xf : Int) + xd, aw⟩ w7
      rw [HM.out] at hmay
      simp only [Sp.v] at hmay
      by_cases hd : 0 < xd
      · have hd1 : (xf : Int) < (xf : Int) + xd := by omega
        rw [show decide (0 < xd) = true from decide_eq_true hd]
        by_cases e : xm = ym
        · subst e
          rw [show (xm == xm) = true from beq_self_eq_true _]
          cases aw <;> cases bw <;> cases nb
          all_goals
            simp only [Bool.and_true, Bool.and_false, Bool.or_true, Bool.or_false]
            go_wp2_with fail
            refine hmay.mono ?_
            rintro e w8 ⟨rfl, hb⟩
            go_wp2_with fail
            go_ret
            exact ⟨rfl, hE7.trans (hb.mono hE7.size)⟩
        · have e' : ((xm : Int) == (ym : Int)) = false := by rw [beq_eq_false_iff_ne]; omega
          rw [show (xm == ym) = false from by rw [beq_eq_false_iff_ne]; exact e]
          simp only [Bool.false_and]
          cases aw <;> cases bw
          all_goals
            simp only [Bool.and_true, Bool.and_false, Bool.or_true, Bool.or_false]
            go_wp2_with fail
            refine hmay.mono ?_
            rintro e w8 ⟨rfl, hb⟩
            go_wp2_with fail
            go_ret
            exact ⟨rfl, hE7.trans (hb.mono hE7.size)⟩
      · obtain rfl : xd = 0 := by omega
        rw [HN.out rfl, show decide (0 < 0) = false from rfl]
        simp only [Bool.and_false, Bool.false_and]
        have hd1 : ¬ ((xf : Int) < (xf : Int) + ((0 : Nat) : Int)) := by omega
        by_cases e : xm = ym
        · subst e
          go_wp2_with fail
          all_goals
            refine hmay.mono ?_
            rintro e w8 ⟨rfl, hb⟩
            go_wp2_with fail
            go_ret
            exact ⟨rfl, hE7.trans (hb.mono hE7.size)⟩
        · have e' : ((xm : Int) == (ym : Int)) = false := by rw [beq_eq_false_iff_ne]; omega
          go_wp2_with fail
          all_goals
            refine hmay.mono ?_
            rintro e w8 ⟨rfl, hb⟩
            go_wp2_with fail
            go_ret
            exact ⟨rfl, hE7.trans (hb.mono hE7.size)⟩

theorem read_span_v {w : World} {cs : Array Value} {d : D} (h : spanTy.reads w (Value.agg cs).cells.toList d) : ∃ s : Sp, cs = #[.int .i64 s.mem, .int .i64 s.frm, .int .i64 s.to, .bool s.wr] := by
  obtain ⟨s, e, _⟩ := read_span h
  refine ⟨s, ?_⟩
  apply Array.ext'
  simpa [Value.cells, Sp.cs] using e

end Go.Proofs.Yticfgkcdghbklaa
