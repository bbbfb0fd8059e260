/- The walks of the reader of graphs: next, one, zero, two, four, shape. -/
/- The walks of the reader of graphs: four and many. -/
import Derived.Test.YtdhdbmfipkppiaaGreatModO
import Derived.Laws.MakeOwn
import Derived.Laws.OwnMore
import Derived.OwnWalk
set_option linter.unusedSimpArgs false
set_option linter.unusedVariables false
set_option linter.unnecessarySimpa false
namespace Go.Proofs.YtdhdbmfipkppiaaGreat
open Go.RowKit

/-- A reader, of bytes that lay there before. -/
structure Rr (w0 w : World) (B : Nat) (r : Rd) : Prop where
  box : ∃ lv, Blk w B #[lv, .bool r.bad] 60 ∧ Ints .u8 w0 lv r.l
  ext : Ext w0 w
  hB : w0.heap.size ≤ B
  bytes : BytesL r.l

theorem grown_any {w W : World} (h : Ext w W) (row : Option Nat) : w.grownBy W row := ⟨h.os, h.tape, h.output, h.size, fun k hk _ => h.block k hk⟩
theorem Rr.later {w0 w W : World} {B : Nat} {r : Rd} (h : Rr w0 w B r) (e : Ext w W) : Rr w0 W B r := by
  obtain ⟨⟨lv, h1, h2⟩, h3, h4, h5⟩ := h
  exact ⟨⟨lv, h1.ext e, h2⟩, h3.trans e, h4, h5⟩

theorem ints_off {w : World} {k : IntKind} (A : Option Addr) {c : Nat} (hc : c ≤ maxLen) : Ints k w (.slice A 0 c) [] := ⟨A, c, rfl, by simp, hc, by simp, fun j u h => by simp at h⟩

theorem Ints.drop' {k : IntKind} {w : World} {b off n c : Nat} {zs : List Int} (h : Ints k w (.slice (some ⟨b, off, none⟩) n c) zs) {m : Nat} (hm : m ≤ zs.length) : Ints k w (.slice (some ⟨b, off + m, none⟩) (n - m) (c - m)) (zs.drop m) := by
  obtain ⟨A', c', e, h1, h2, h3, h4⟩ := h
  cases e
  have hl : (zs.drop m).length = zs.length - m := by simp
  refine ⟨_, _, by rw [hl], by omega, by omega, by simp, ?_⟩
  rw [List.map_drop]
  exact h4.drop m

theorem Ints.head {k : IntKind} {w : World} {b off n c : Nat} {zs : List Int} (h : Ints k w (.slice (some ⟨b, off, none⟩) n c) zs) {m : Nat} (hm : m ≤ zs.length) : Ints k w (.slice (some ⟨b, off, none⟩) m m) (zs.take m) := by
  obtain ⟨A', c', e, h1, h2, h3, h4⟩ := h
  cases e
  have hl : (zs.take m).length = m := by rw [List.length_take]; omega
  refine ⟨_, m, by rw [hl], by omega, by omega, by simp, ?_⟩
  rw [List.map_take]
  exact h4.take m

theorem Ints.later {k : IntKind} {w W : World} {v : Value} {zs : List Int} {B : Nat} {w0 : World} (h : Ints k w0 v zs) (e : Ext w0 w) (hg : w.grownBy W (some B)) (hB : w0.heap.size ≤ B) : Ints k W v zs := by
  refine Row.below h ?_
  exact Below.grown e hg e.size (fun k hk => by cases hk; exact hB)

def NextPost (w0 : World) (B n : Nat) (r : Rd) (w : World) (e : Ending) (w' : World) : Prop :=
  ∃ v, e = .returned v ∧ Ints .u8 w' v (nxt n r).1 ∧ Rr w0 w' B (nxt n r).2 ∧ w.grownBy w' (some B)

/-- 'make([]T, n)'. -/
theorem wpList_mk {P : Program} {w : World} {ops : Array Oper} {rest : List Oper} {o : Oper} {a : Act} {Q : Exit → Act → World → Prop} (hgd : o.guard = Option.none) {l c : Operand} {t e : TypeId} {bytes : Nat}
    (ho : o.op = .makeSlice t l c) (HT : ElemT P t e 1 bytes) {z : Value} (hz : (P.info? e).map (·.zero) = some (some z)) (hz1 : z.cells = #[z]) {kl kc : IntKind} {L C : Int} (n : Nat) (hl : a.eval l = .int kl L) (hc : a.eval c = .int kc C) (hL : L = n) (hC : C = n)
    (b2 : bytes * n ≤ 281474976710656) (b3 : n ≤ maxLen)
    (h : ∀ w', w'.ownsRow w.heap.size e 1 (.slice (some ⟨w.heap.size, 0, Option.none⟩) n n) n (List.replicate n z) → Below w.heap.size w w' → wpList P ops Q rest (a.put o.dst (.slice (some ⟨w.heap.size, 0, Option.none⟩) n n)) w') : wpList P ops Q (o :: rest) a w := by
  obtain ⟨i, z', hi, hz', hs, hby, _⟩ := HT.info
  rw [hi] at hz
  simp only [Option.map_some, Option.some.injEq] at hz
  rw [hz'] at hz
  cases hz
  refine wpList_make_full w hgd l c t ho w.heap.size e i z 1 HT.slice hi hz' hs kl kc L C n hl hc hL hC (by rw [hby]; exact b2) b3 (Nat.le_refl _) fun w' h1 h2 => h w' ?_ ?_
  · rw [Nat.mul_one, hz1, toList_madeCells_one] at h1; exact h1
  · exact (Below.refl _ w).grown h2 (Nat.le_refl _) (fun k hk => by cases hk)

set_option maxRecDepth 8000 in
set_option maxHeartbeats 1600000 in
theorem next_calls (w0 w : World) (B n : Nat) (r : Rd) (h : Rr w0 w B r) (hn : n = 1 ∨ n = 2 ∨ n = 3 ∨ n = 4) :
    Calls Tryz.prog 63 #[.pointer (some ⟨B, 0, none⟩), .int .i64 n] w (NextPost w0 B n r w) := by
  have HP : Hid (∀ e w', (∃ v, e = .returned v ∧ Ints .u8 w' v (nxt n r).1 ∧ Rr w0 w' B (nxt n r).2 ∧ w.grownBy w' (some B)) → NextPost w0 B n r w e w') := fun e w' h => h
  generalize NextPost w0 B n r w = PP at *
  obtain ⟨⟨lv, hb, hl⟩, hE, hB, hby⟩ := h
  obtain ⟨A, c, rfl, hlc, hcm, hcell⟩ := id hl.form
  unfold maxLen at hcm
  have c0 : World.cell? w ⟨B, 0, none⟩ = some (.slice A r.l.length c) := hb.cell 0
  have c1 : World.cell? w ⟨B, 1, none⟩ = some (.bool r.bad) := hb.cell 1
  have hf0 := hb.frozen 0
  have hf1 := hb.frozen 1
  have hlt := hb.lt
  by_cases hs : r.l.length < n
  · have HN : Hid (nxt n r = (List.replicate n 0, ⟨r.l, true⟩)) := by show _ = _; unfold nxt; rw [if_pos hs]
    have hx : ∀ W, Ext (w.setCell ⟨B, 1, none⟩ (.bool true)) W → Rr w0 W B ⟨r.l, true⟩ ∧ w.grownBy W (some B) := fun W h => by
      refine ⟨⟨⟨_, ?_, hl⟩, (Below.setCell hE hB _).trans (Below.mono h (Below.setCell hE hB _).size), hB, hby⟩, World.grownBy.trans (setCell_grown w B 1 _) (grown_any h (some B))⟩
      refine Blk.ext ?_ h
      have := hb.set 1 (.bool true)
      simpa using this
    have HX := Lib.hid hx
    have hn4 : n ≤ 4 := by omega
    clear hx hb hl hcell hn
    go_enter Tryz.func63, Tryz.ntmps63
    go_wp2_with (refine wpList_mk rfl rfl elem_u8 (z := .int .u8 0) (by kernel_rfl) rfl n rfl rfl (by first | rfl | omega) (by first | rfl | omega) (by omega) (by unfold maxLen; omega) ?_; intro w1 hown hbel)
    obtain ⟨k1, k2⟩ := HX.out _ hbel
    have hI : Ints .u8 w1 (.slice (some ⟨w.heap.size, 0, none⟩) n n) (List.replicate n 0) := by
      have h9 : w1.ownsRow w.heap.size 5 1 (.slice (some ⟨w.heap.size, 0, none⟩) n n) n ((List.replicate n (0 : Int)).map (.int .u8)) := by
        rw [List.map_replicate]
        simpa using hown
      exact ints_of_own h9
    exact HP.out _ _ ⟨_, rfl, by rw [HN.out]; exact hI, by rw [HN.out]; exact k1, k2⟩
  · have HN : Hid (nxt n r = (r.l.take n, ⟨r.l.drop n, r.bad⟩)) := by show _ = _; unfold nxt; rw [if_neg hs]
    obtain ⟨b, off, rfl, _⟩ := hcell 0 (by omega)
    clear hcell hcm
    have hv := Ints.head hl (m := n) (by omega)
    have hx : ∀ lv', Ints .u8 w0 lv' (r.l.drop n) → Rr w0 (w.setCell ⟨B, 0, none⟩ lv') B ⟨r.l.drop n, r.bad⟩ := fun lv' hl' => by
      refine ⟨⟨_, ?_, hl'⟩, Below.setCell hE hB _, hB, fun z hz => hby z (List.mem_of_mem_drop hz)⟩
      have := hb.set 0 lv'
      simpa using this
    have hvl : ∀ lv', Ints .u8 (w.setCell ⟨B, 0, none⟩ lv') (.slice (some ⟨b, off, none⟩) n n) (r.l.take n) := fun lv' => hv.later hE (setCell_grown w B 0 lv') hB
    have HX := Lib.hid hx
    have HV := Lib.hid hvl
    have hn4 : n ≤ 4 := by omega
    have hn1 : 1 ≤ n := by omega
    have hcm' : c ≤ 2 ^ 63 - 1 := by obtain ⟨A', c', e', _, h2, _⟩ := id hl.form; cases e'; exact h2
    by_cases hc : c = n
    · subst hc
      have hd : Ints .u8 w0 (.slice (some ⟨b, off, none⟩) 0 0) (r.l.drop c) := by
        rw [List.drop_of_length_le (by omega)]
        exact ints_off _ (by omega)
      clear hl hv hx hvl hb hn
      go_enter Tryz.func63, Tryz.ntmps63
      go_wp2_with fail
      exact HP.out _ _ ⟨_, rfl, by rw [HN.out]; exact HV.out _, by rw [HN.out]; exact HX.out _ hd, setCell_grown _ _ _ _⟩
    · have hd := Ints.drop' hl (m := n) (by omega)
      clear hl hv hx hvl hb hn
      go_enter Tryz.func63, Tryz.ntmps63
      go_wp2_with fail
      exact HP.out _ _ ⟨_, rfl, by rw [HN.out]; exact HV.out _, by rw [HN.out]; exact HX.out _ hd, setCell_grown _ _ _ _⟩

theorem nxt_len (n : Nat) (r : Rd) : (nxt n r).1.length = n := by
  unfold nxt
  split
  · simp
  · rw [List.length_take]; omega
theorem nxt_bytes (n : Nat) {r : Rd} (h : BytesL r.l) : BytesL (nxt n r).1 := by
  unfold nxt
  split
  · intro z hz
    have := List.eq_of_mem_replicate hz
    omega
  · exact fun z hz => h z (List.mem_of_mem_take hz)

/-- What a reading answers, and what it leaves. -/
def PsPost {α : Type} (p : Ps α) (val : α → Value) (w0 : World) (B : Nat) (r : Rd) (w : World) (e : Ending) (w' : World) : Prop :=
  e = .returned (val (p r).1) ∧ Rr w0 w' B (p r).2 ∧ w.grownBy w' (some B)

theorem one_eq (r : Rd) : (pOne r).1 = (nxt 1 r).1[0]?.getD 0 ∧ (pOne r).2 = (nxt 1 r).2 := ⟨rfl, rfl⟩
theorem list1 {l : List Int} (h : l.length = 1) : ∃ a, l = [a] := by
  match l, h with
  | [a], _ => exact ⟨a, rfl⟩
theorem list2 {l : List Int} (h : l.length = 2) : ∃ a b, l = [a, b] := by
  match l, h with
  | [a, b], _ => exact ⟨a, b, rfl⟩
theorem list3 {l : List Int} (h : l.length = 3) : ∃ a b c, l = [a, b, c] := by
  match l, h with
  | [a, b, c], _ => exact ⟨a, b, c, rfl⟩
theorem list4 {l : List Int} (h : l.length = 4) : ∃ a b c d, l = [a, b, c, d] := by
  match l, h with
  | [a, b, c, d], _ => exact ⟨a, b, c, d, rfl⟩

theorem one_range {r : Rd} (h : BytesL r.l) : 0 ≤ (pOne r).1 ∧ (pOne r).1 ≤ 255 := by
  have h1 := nxt_bytes 1 h
  obtain ⟨a, ha⟩ := list1 (nxt_len 1 r)
  rw [(one_eq r).1]
  rw [ha] at h1 ⊢
  exact h1 a (by simp)
theorem two_range {r : Rd} (h : BytesL r.l) : 0 ≤ (pTwo r).1 ∧ (pTwo r).1 ≤ 65535 := by
  have h1 := nxt_bytes 2 h
  obtain ⟨a, b, ha⟩ := list2 (nxt_len 2 r)
  show 0 ≤ 256 * (nxt 2 r).1[0]?.getD 0 + (nxt 2 r).1[1]?.getD 0 ∧ 256 * (nxt 2 r).1[0]?.getD 0 + (nxt 2 r).1[1]?.getD 0 ≤ 65535
  rw [ha] at h1 ⊢
  have h2 := h1 a (by simp)
  have h3 := h1 b (by simp)
  simp
  omega

set_option maxHeartbeats 800000 in
theorem one_calls (w0 w : World) (B : Nat) (r : Rd) (h : Rr w0 w B r) :
    Calls Tryz.prog 26 #[.pointer (some ⟨B, 0, none⟩)] w (PsPost pOne (.int .i64) w0 B r w) := by
  have hn := next_calls w0 w B 1 r h (.inl rfl)
  obtain ⟨z, hz⟩ := list1 (nxt_len 1 r)
  have hb := nxt_bytes 1 h.bytes
  rw [hz] at hb
  have hb := hb z (by simp)
  have HP : Hid (∀ e w', (e = .returned (.int .i64 z) ∧ Rr w0 w' B (nxt 1 r).2 ∧ w.grownBy w' (some B)) → PsPost pOne (.int .i64) w0 B r w e w') := fun e w' h => by
    refine ⟨?_, h.2⟩
    rw [h.1, (one_eq r).1, hz]
    rfl
  generalize PsPost pOne (.int .i64) w0 B r w = PP at *
  go_enter Tryz.func26, Tryz.ntmps26
  go_wp2_with fail
  refine hn.mono ?_
  rintro e w1 ⟨v, rfl, hv, hr, hg⟩
  rw [hz] at hv
  obtain ⟨A, c, rfl, h1, h2, hcell⟩ := hv.form
  obtain ⟨b, off, rfl, x0⟩ := hcell 0 (by simp)
  simp only [List.getElem?_cons_zero, Option.getD_some, Nat.add_zero] at x0
  clear hcell hv hz hn h
  obtain ⟨hb1, hb2⟩ := hb
  go_wp2_with fail
  exact HP.out _ _ ⟨rfl, hr, hg⟩

set_option maxHeartbeats 800000 in
theorem zero_calls (w0 w : World) (B : Nat) (r : Rd) (h : Rr w0 w B r) :
    Calls Tryz.prog 29 #[.pointer (some ⟨B, 0, none⟩)] w (PsPost pZero (.int .i64) w0 B r w) := by
  have hn := one_calls w0 w B r h
  obtain ⟨hz1, hz2⟩ := one_range h.bytes
  have HP : Hid (∀ e w', (e = .returned (.int .i64 (s8 (pOne r).1)) ∧ Rr w0 w' B (pOne r).2 ∧ w.grownBy w' (some B)) → PsPost pZero (.int .i64) w0 B r w e w') := fun e w' h => h
  generalize PsPost pZero (.int .i64) w0 B r w = PP at *
  unfold PsPost at hn
  generalize (pOne r).1 = z at *
  have HS : Hid (s8 z = if z < 128 then z else z - 256) := rfl
  go_enter Tryz.func29, Tryz.ntmps29
  go_wp2_with fail
  refine hn.mono ?_
  rintro e w1 ⟨rfl, hr, hg⟩
  by_cases h8 : z < 128
  · have HS1 : Hid (s8 z = z) := by show _ = _; rw [HS.out, if_pos h8]
    go_wp2_with fail
    exact HP.out _ _ ⟨by rw [HS1.out]; rfl, hr, hg⟩
  · have HS1 : Hid (s8 z = z - 256) := by show _ = _; rw [HS.out, if_neg h8]
    have e8 : IntKind.i8.wrap z = z - 256 := by simp [IntKind.wrap, IntKind.signed, IntKind.bits]; split <;> omega
    go_wp2_with fail
    exact HP.out _ _ ⟨by rw [HS1.out]; rfl, hr, hg⟩

theorem i64_or_nat (a b : Nat) (ha : a < 2 ^ 62) (hb : b < 2 ^ 62) : bits .or .i64 (a : Int) (b : Int) = ((a ||| b : Nat) : Int) := by
  have h := Nat.or_lt_two_pow ha hb
  show IntKind.i64.wrap ((BitVec.ofInt 64 (a : Int) ||| BitVec.ofInt 64 (b : Int)).toNat : Int) = _
  rw [BitVec.toNat_or, BitVec.ofInt_natCast, BitVec.ofInt_natCast, BitVec.toNat_ofNat, BitVec.toNat_ofNat, Nat.mod_eq_of_lt (by omega), Nat.mod_eq_of_lt (by omega), IntKind.wrap_i64]
  omega

theorem nat_or8 (a b : Nat) (hb : b ≤ 255) : a * 256 ||| b = a * 256 + b := by
  have := Nat.shiftLeft_add_eq_or_of_lt (i := 8) (b := b) (by omega) a
  rw [Nat.shiftLeft_eq] at this
  exact this.symm

theorem or_byte (x c : Int) (h1 : 0 ≤ x) (h2 : x < 1099511627776) (h3 : 0 ≤ c) (h4 : c ≤ 255) : bits .or .i64 (x * 256) c = 256 * x + c := by
  obtain ⟨a, rfl⟩ := Int.eq_ofNat_of_zero_le h1
  obtain ⟨b, rfl⟩ := Int.eq_ofNat_of_zero_le h3
  have e := i64_or_nat (a * 256) b (by omega) (by omega)
  rw [show ((a : Int) * 256) = ((a * 256 : Nat) : Int) from by omega, e, nat_or8 a b (by omega)]
  omega

/-- The same in 32 bits. -/
theorem or_byte32 (x c : Int) (h1 : 0 ≤ x) (h2 : x < 16777216) (h3 : 0 ≤ c) (h4 : c ≤ 255) : bits .or .i32 (IntKind.i32.wrap (x * 256)) c = s32 (256 * x + c) := by
  obtain ⟨a, rfl⟩ := Int.eq_ofNat_of_zero_le h1
  obtain ⟨b, rfl⟩ := Int.eq_ofNat_of_zero_le h3
  show IntKind.i32.wrap ((BitVec.ofInt 32 (IntKind.i32.wrap ((a : Int) * 256)) ||| BitVec.ofInt 32 (b : Int)).toNat : Int) = _
  have e1 : BitVec.ofInt 32 (IntKind.i32.wrap ((a : Int) * 256)) = BitVec.ofNat 32 (a * 256) := by
    rw [← BitVec.ofInt_natCast]
    apply BitVec.eq_of_toInt_eq
    rw [BitVec.toInt_ofInt, BitVec.toInt_ofInt, IntKind.wrap_i32]
    simp only [Int.bmod]
    omega
  rw [e1, BitVec.toNat_or, BitVec.ofInt_natCast, BitVec.toNat_ofNat, BitVec.toNat_ofNat, Nat.mod_eq_of_lt (by omega), Nat.mod_eq_of_lt (by omega), nat_or8 a b (by omega), IntKind.wrap_i32]
  unfold s32
  split <;> omega

set_option maxHeartbeats 800000 in
theorem two_calls (w0 w : World) (B : Nat) (r : Rd) (h : Rr w0 w B r) :
    Calls Tryz.prog 65 #[.pointer (some ⟨B, 0, none⟩)] w (PsPost pTwo (.int .i64) w0 B r w) := by
  have hn := next_calls w0 w B 2 r h (.inr (.inl rfl))
  obtain ⟨x, y, hz⟩ := list2 (nxt_len 2 r)
  have hb := nxt_bytes 2 h.bytes
  rw [hz] at hb
  obtain ⟨hx1, hx2⟩ := hb x (by simp)
  obtain ⟨hy1, hy2⟩ := hb y (by simp)
  have HP : Hid (∀ e w', (e = .returned (.int .i64 (256 * x + y)) ∧ Rr w0 w' B (nxt 2 r).2 ∧ w.grownBy w' (some B)) → PsPost pTwo (.int .i64) w0 B r w e w') := fun e w' h => by
    refine ⟨?_, h.2⟩
    rw [h.1]
    show _ = Ending.returned (.int .i64 (256 * (nxt 2 r).1[0]?.getD 0 + (nxt 2 r).1[1]?.getD 0))
    rw [hz]
    rfl
  generalize PsPost pTwo (.int .i64) w0 B r w = PP at *
  go_enter Tryz.func65, Tryz.ntmps65
  go_wp2_with fail
  refine hn.mono ?_
  rintro e w1 ⟨v, rfl, hv, hr, hg⟩
  rw [hz] at hv
  obtain ⟨A, c, rfl, h1, h2, hcell⟩ := hv.form
  obtain ⟨b, off, rfl, x0⟩ := hcell 0 (by simp)
  obtain ⟨_, _, e1, x1⟩ := hcell 1 (by simp)
  cases e1
  simp only [List.getElem?_cons_zero, List.getElem?_cons_succ, Option.getD_some, Nat.add_zero] at x0 x1
  have ho := or_byte x y hx1 (by omega) hy1 hy2
  clear hcell hv hz hn h hb
  go_upto_region 2 with fail
  refine wp_region_X [0, 1, 2, 3, 4, 5, 6, 7, 8, 9, 10] [] (by kernel_rfl) (by kernel_rfl) (fun _ _ d _ _ h => by cases d <;> exact h) (fun w2 hE => ?_)
  have y0 : ∀ W, Ext w2 W → W.cell? ⟨b, off, none⟩ = some (.int .u8 x) := fun W h => cell_ext (cell_ext x0 _ hE) W h
  have y1 : ∀ W, Ext w2 W → W.cell? ⟨b, off + 1, none⟩ = some (.int .u8 y) := fun W h => cell_ext (cell_ext x1 _ hE) W h
  repeat (first | (refine wpP_pure rfl (by rfl) (fun W hW => by go_simp; with_reducible rfl) ?_; simp only [Act.put, List.setIfInBounds_toArray, List.set_cons_zero, List.set_cons_succ]) | (refine wpP_skip rfl (by rfl) ?_; simp only [Act.put, List.setIfInBounds_toArray, List.set_cons_zero, List.set_cons_succ]))
  refine ⟨trivial, fun W hR => ?_⟩
  simp only [rFin, envAt, TP.top, TP.mine, MP.top, MP.mine, MT.mine, MT.tied, MT.done, MT.is, List.map_cons, List.map_nil, true_implies, List.head?_cons, ME.is, MP.is, MP.done, ME.ints, ME.row, phi, dstAt, List.getElem?_cons_zero, List.getElem?_cons_succ, Option.bind_some, Act.put, List.setIfInBounds_toArray, List.set_cons_zero, List.set_cons_succ, and_true, forall_eq, reduceIte, Nat.reduceEqDiff, beq_iff_eq, Option.some.injEq, Bool.false_eq_true, reduceCtorEq, implies_true, true_and]
  have HV : Hid (bits .or .i64 (IntKind.i64.wrap (IntKind.i64.wrap x * 256)) (IntKind.i64.wrap y) = 256 * x + y) := by
    show _ = _
    rw [IntWalk.i64_in x (by omega), IntWalk.i64_in y (by omega), IntWalk.i64_in (x * 256) (by omega), ho]
  clear ho
  go_wp2
  exact HP.out _ _ ⟨congrArg (fun z => Ending.returned (.int .i64 z)) HV.out, hr.later (hE.trans hR), World.grownBy.trans hg (grown_any (hE.trans hR) _)⟩

theorem fw8 {z : Int} (h1 : 0 ≤ z) (h2 : z ≤ 255) : IntKind.i64.wrap z = z := IntWalk.i64_in z (by omega)

set_option maxRecDepth 8000 in
set_option maxHeartbeats 800000 in
theorem shape_calls (w0 w : World) (B : Nat) (r : Rd) (h : Rr w0 w B r) :
    Calls Tryz.prog 28 #[.pointer (some ⟨B, 0, none⟩)] w (PsPost pShape Sz.v w0 B r w) := by
  have hlt := h.box
  have hE1 := ext_alloc w (.cells #[.int .i64 0, .int .i64 0, .int .i64 0] 39)
  have hr0 := Blk.new w #[.int .i64 0, .int .i64 0, .int .i64 0] 39
  have hBw : B < w.heap.size := by obtain ⟨_, h1, _⟩ := h.box; exact h1.lt
  have hn := next_calls w0 _ B 3 r (h.later hE1) (.inr (.inr (.inl rfl)))
  obtain ⟨x, y, z, hz⟩ := list3 (nxt_len 3 r)
  have hb := nxt_bytes 3 h.bytes
  rw [hz] at hb
  obtain ⟨hx1, hx2⟩ := hb x (by simp)
  obtain ⟨hy1, hy2⟩ := hb y (by simp)
  obtain ⟨hz1, hz2⟩ := hb z (by simp)
  have HP : Hid (∀ e w', (e = .returned (.agg #[.int .i64 x, .int .i64 y, .int .i64 z]) ∧ Rr w0 w' B (nxt 3 r).2 ∧ w.grownBy w' (some B)) → PsPost pShape Sz.v w0 B r w e w') := fun e w' h => by
    refine ⟨?_, h.2⟩
    rw [h.1]
    show _ = Ending.returned (Sz.v ⟨(nxt 3 r).1[0]?.getD 0, (nxt 3 r).1[1]?.getD 0, (nxt 3 r).1[2]?.getD 0⟩)
    rw [hz]
    rfl
  generalize PsPost pShape Sz.v w0 B r w = PP at *
  go_enter Tryz.func28, Tryz.ntmps28
  go_wp2_with fail
  refine hn.mono ?_
  rintro e w1 ⟨v, rfl, hv, hr, hg⟩
  rw [hz] at hv
  obtain ⟨A, c, rfl, h1, h2, hcell⟩ := hv.form
  obtain ⟨b, off, rfl, x0⟩ := hcell 0 (by simp)
  obtain ⟨_, _, e1, x1⟩ := hcell 1 (by simp)
  cases e1
  obtain ⟨_, _, e1, x2⟩ := hcell 2 (by simp)
  cases e1
  simp only [List.getElem?_cons_zero, List.getElem?_cons_succ, Option.getD_some, Nat.add_zero] at x0 x1 x2
  have hr1 := hr0.grown hg (by simp; omega)
  have hgw := World.grownBy.trans (grown_any hE1 (some B)) hg
  have hbne : b ≠ w.heap.size := fun e => by
    subst e
    have c1 := hr1.cell 0
    rw [hr1.cell off] at x0
    match off, x0 with
    | 0, x0 => simp at x0
    | 1, x0 => simp at x0
    | 2, x0 => simp at x0
    | n + 3, x0 => simp at x0
  clear hcell hv hz hn h hb hlt
  have HX := Lib.hid (fw8 hx1 hx2)
  have HY := Lib.hid (fw8 hy1 hy2)
  have HZ := Lib.hid (fw8 hz1 hz2)
  go_upto_region 2 with fail
  refine wp_region_B w.heap.size 39 #[.int .i64 0, .int .i64 0, .int .i64 0] #[.int .i64 (IntKind.i64.wrap x), .int .i64 (IntKind.i64.wrap y), .int .i64 (IntKind.i64.wrap z)] [0, 1, 2, 3, 4, 5, 6, 7, 8, 9, 10, 11, 12] [⟨13, [], MT.done⟩] (by kernel_rfl) (by kernel_rfl) (fun _ _ d _ _ h => by cases d <;> exact h) hr1 (fun w2 hE hB => ?_)
  have y0 : ∀ W, RB w.heap.size 39 #[.int .i64 0, .int .i64 0, .int .i64 0] #[.int .i64 (IntKind.i64.wrap x), .int .i64 (IntKind.i64.wrap y), .int .i64 (IntKind.i64.wrap z)] w2 W → W.cell? ⟨b, off, none⟩ = some (.int .u8 x) := fun W h => h.cell (cell_ext x0 _ hE) hbne
  have y1 : ∀ W, RB w.heap.size 39 #[.int .i64 0, .int .i64 0, .int .i64 0] #[.int .i64 (IntKind.i64.wrap x), .int .i64 (IntKind.i64.wrap y), .int .i64 (IntKind.i64.wrap z)] w2 W → W.cell? ⟨b, off + 1, none⟩ = some (.int .u8 y) := fun W h => h.cell (cell_ext x1 _ hE) hbne
  have y2 : ∀ W, RB w.heap.size 39 #[.int .i64 0, .int .i64 0, .int .i64 0] #[.int .i64 (IntKind.i64.wrap x), .int .i64 (IntKind.i64.wrap y), .int .i64 (IntKind.i64.wrap z)] w2 W → W.cell? ⟨b, off + 2, none⟩ = some (.int .u8 z) := fun W h => h.cell (cell_ext x2 _ hE) hbne
  repeat (first | (refine wpP_pure rfl (by rfl) (fun W hW => by go_simp; with_reducible rfl) ?_; simp only [Act.put, List.setIfInBounds_toArray, List.set_cons_zero, List.set_cons_succ]) | (refine wpP_skip rfl (by rfl) ?_; simp only [Act.put, List.setIfInBounds_toArray, List.set_cons_zero, List.set_cons_succ]))
  refine ⟨?_, fun W hR => ?_⟩
  · simp only [rSteps, rNeed, rStep, both_top, tie, TP.top, TP.mine, MP.top, MP.mine, MT.mine, MT.tied, MT.done, MT.is, List.reverse_cons, List.reverse_nil, List.nil_append, List.cons_append, ME.is, MP.is, MP.done, ME.ints, ME.row, Region.wanted, yielded, List.getElem?_toArray, phi, dstAt, List.getElem?_cons_zero, List.getElem?_cons_succ, Option.bind_some, Act.put, List.setIfInBounds_toArray, List.set_cons_zero, List.set_cons_succ, and_true, forall_eq, reduceIte, Nat.reduceEqDiff, beq_iff_eq, Option.some.injEq, Bool.false_eq_true, reduceCtorEq, implies_true, true_and]
    intro W hR
    exact wp_store_B _ _ _ rfl rfl rfl (hB W hR) (by kernel_rfl) rfl (by simp [Value.oneCell']) ((hB W hR).elim Blk.setRow Blk.setRow)
  · simp only [rFin, envAt, TP.top, TP.mine, MP.top, MP.mine, MT.mine, MT.tied, MT.done, MT.is, List.map_cons, List.map_nil, true_implies, List.head?_cons, ME.is, MP.is, MP.done, ME.ints, ME.row, phi, dstAt, List.getElem?_cons_zero, List.getElem?_cons_succ, Option.bind_some, Act.put, List.setIfInBounds_toArray, List.set_cons_zero, List.set_cons_succ, and_true, forall_eq, reduceIte, Nat.reduceEqDiff, beq_iff_eq, Option.some.injEq, Bool.false_eq_true, reduceCtorEq, implies_true, true_and]
    intro v hD
    have hne2 : w.heap.size ≠ B := by omega
    have hrW : Rr w0 W B (nxt 3 r).2 := by
      obtain ⟨⟨lv, k1, k2⟩, k3, k4, k5⟩ := hr.later hE
      exact ⟨⟨lv, k1.grown hR.gr (by simp; omega), k2⟩, Below.grown k3 hR.gr k3.size (fun k hk => by cases hk; omega), k4, k5⟩
    have hgW : w.grownBy W (some B) := by
      have k := World.grownBy.trans hgw (grown_any hE (some B))
      exact ⟨hR.gr.os.trans k.os, hR.gr.tape.trans k.tape, hR.gr.output.trans k.output, Nat.le_trans k.size hR.gr.size, fun x hx hr => (hR.gr.block x (Nat.lt_of_lt_of_le hx k.size) (by simp; omega)).trans (k.block x hx hr)⟩
    have HR : Hid (Ending.returned (.agg #[.int .i64 (IntKind.i64.wrap x), .int .i64 (IntKind.i64.wrap y), .int .i64 (IntKind.i64.wrap z)]) = .returned (.agg #[.int .i64 x, .int .i64 y, .int .i64 z])) := by
      show _ = _
      rw [HX.out, HY.out, HZ.out]
    clear hE hB y0 y1 y2 x0 x1 x2 hr hg hgw hr0 hr1 hE1 hR
    go_wp2
    refine bodyPost_ret (v := .agg _) (results_cell_row Tryz.results28 _ _ w.heap.size 39 _ (0, 0) _ rfl hD (by kernel_rfl : Tryz.prog.underlying 39 = some (.struct (Tryz.prog.fieldsOf 39))) rfl (by kernel_rfl)) rfl ?_
    exact HP.out _ _ ⟨HR.out, hrW, hgW⟩

end Go.Proofs.YtdhdbmfipkppiaaGreat

namespace Go.Proofs.YtdhdbmfipkppiaaGreat
open Go.RowKit

/-- What stands when so many of four bytes are taken. -/
def acc4 (x y z u : Int) : Nat → Int
  | 0 => 0
  | 1 => x
  | 2 => 256 * x + y
  | 3 => 256 * (256 * x + y) + z
  | _ => s32 (256 * (256 * (256 * x + y) + z) + u)

theorem acc4_step {x y z u : Int} (hx : 0 ≤ x ∧ x ≤ 255) (hy : 0 ≤ y ∧ y ≤ 255) (hz : 0 ≤ z ∧ z ≤ 255) (hu : 0 ≤ u ∧ u ≤ 255) (k : Nat) (hk : k < 4) :
    bits .or .i32 (IntKind.i32.wrap (acc4 x y z u k * 256)) (IntKind.i32.wrap ([x, y, z, u][k]?.getD 0)) = acc4 x y z u (k + 1) ∧ 0 ≤ acc4 x y z u k ∧ acc4 x y z u k < 16777216 := by
  have hs : ∀ m : Int, 0 ≤ m → m < 2147483648 → s32 m = m := fun m h1 h2 => by unfold s32; rw [if_pos h2]
  rcases (by omega : k = 0 ∨ k = 1 ∨ k = 2 ∨ k = 3) with rfl | rfl | rfl | rfl
  · refine ⟨?_, by simp [acc4], by simp [acc4]⟩
    show bits .or .i32 (IntKind.i32.wrap (0 * 256)) (IntKind.i32.wrap x) = x
    rw [IntWalk.i32_in x (by omega), or_byte32 0 x (by omega) (by omega) hx.1 hx.2, hs _ (by omega) (by omega)]
    omega
  · refine ⟨?_, by simp only [acc4]; omega, by simp only [acc4]; omega⟩
    show bits .or .i32 (IntKind.i32.wrap (x * 256)) (IntKind.i32.wrap y) = 256 * x + y
    rw [IntWalk.i32_in y (by omega), or_byte32 x y (by omega) (by omega) hy.1 hy.2, hs _ (by omega) (by omega)]
  · refine ⟨?_, by simp only [acc4]; omega, by simp only [acc4]; omega⟩
    show bits .or .i32 (IntKind.i32.wrap ((256 * x + y) * 256)) (IntKind.i32.wrap z) = 256 * (256 * x + y) + z
    rw [IntWalk.i32_in z (by omega), or_byte32 (256 * x + y) z (by omega) (by omega) hz.1 hz.2, hs _ (by omega) (by omega)]
  · refine ⟨?_, by simp only [acc4]; omega, by simp only [acc4]; omega⟩
    show bits .or .i32 (IntKind.i32.wrap ((256 * (256 * x + y) + z) * 256)) (IntKind.i32.wrap u) = s32 (256 * (256 * (256 * x + y) + z) + u)
    rw [IntWalk.i32_in u (by omega), or_byte32 (256 * (256 * x + y) + z) u (by omega) (by omega) hu.1 hu.2]

set_option maxRecDepth 8000 in
set_option maxHeartbeats 1600000 in
theorem four_calls (w0 w : World) (B : Nat) (r : Rd) (h : Rr w0 w B r) :
    Calls Tryz.prog 68 #[.pointer (some ⟨B, 0, none⟩)] w (PsPost pFour (.int .i32) w0 B r w) := by
  have hn := next_calls w0 w B 4 r h (.inr (.inr (.inr rfl)))
  obtain ⟨x, y, z, u, hz⟩ := list4 (nxt_len 4 r)
  have hb := nxt_bytes 4 h.bytes
  rw [hz] at hb
  have hx := hb x (by simp)
  have hy := hb y (by simp)
  have hzz := hb z (by simp)
  have hu := hb u (by simp)
  have HP : Hid (∀ e w', (e = .returned (.int .i32 (acc4 x y z u 4)) ∧ Rr w0 w' B (nxt 4 r).2 ∧ w.grownBy w' (some B)) → PsPost pFour (.int .i32) w0 B r w e w') := fun e w' h => by
    refine ⟨?_, h.2⟩
    rw [h.1]
    show _ = Ending.returned (.int .i32 (s32 (16777216 * (nxt 4 r).1[0]?.getD 0 + 65536 * (nxt 4 r).1[1]?.getD 0 + 256 * (nxt 4 r).1[2]?.getD 0 + (nxt 4 r).1[3]?.getD 0)))
    rw [hz]
    simp only [List.getElem?_cons_zero, List.getElem?_cons_succ, Option.getD_some, acc4]
    rw [show 256 * (256 * (256 * x + y) + z) + u = 16777216 * x + 65536 * y + 256 * z + u from by omega]
  generalize PsPost pFour (.int .i32) w0 B r w = PP at *
  have HS := Lib.hid (acc4_step hx hy hzz hu)
  have hin : ∀ k, k < 4 → 0 ≤ [x, y, z, u][k]?.getD 0 ∧ [x, y, z, u][k]?.getD 0 ≤ 255 := fun k hk => by
    rcases (by omega : k = 0 ∨ k = 1 ∨ k = 2 ∨ k = 3) with rfl | rfl | rfl | rfl
    · exact hx
    · exact hy
    · exact hzz
    · exact hu
  have HI := Lib.hid hin
  have h0 : (0 : Int) = acc4 x y z u 0 := rfl
  have H0 := Lib.hid h0
  clear h0 hin
  generalize acc4 x y z u = ac at *
  go_enter Tryz.func68, Tryz.ntmps68
  go_wp2_with fail
  refine hn.mono ?_
  rintro e w1 ⟨v, rfl, hv, hr, hg⟩
  rw [hz] at hv
  have hlen : [x, y, z, u].length = 4 := rfl
  generalize [x, y, z, u] = l at *
  obtain ⟨A, c, rfl, h1, h2, hcell⟩ := id hv.form
  unfold maxLen at h2
  rw [hlen] at h1 hcell
  clear hz hn h hb hx hy hzz hu
  rw [hlen]
  go_wp2_with fail
  go_loopw [3, 9] (fun s i wr => ∃ k : Nat, k ≤ 4 ∧ i = .int .i64 k ∧ s = .int .i32 (ac k) ∧ w1 = wr) (fun _ i _ => 4 - (intOf i).toNat)
  case atStart => exact ⟨0, by omega, rfl, by rw [← H0.out], rfl⟩
  case round =>
    obtain ⟨k, hk, rfl, rfl, rfl⟩ := hrel
    by_cases hlt : k < 4
    · obtain ⟨b, off, rfl, x0⟩ := hcell k hlt
      obtain ⟨s1, s2, s3⟩ := HS.out k hlt
      obtain ⟨i1, i2⟩ := HI.out k hlt
      have HS1 := Lib.hid s1
      clear s1 hcell
      generalize l[k]?.getD 0 = t at *
      generalize ac k = m at *
      go_wp2_with fail

      go_roundw
      case rel => exact ⟨k + 1, by omega, by go_num, by rw [← HS1.out, IntWalk.i32_in t (by omega), IntWalk.i32_left], trivial⟩
      case measure => simp [intOf]; omega
    · obtain rfl : k = 4 := by omega
      go_wp2_with fail
      exact HP.out _ _ ⟨rfl, hr, hg⟩

/-- 'many': a closure, round by round, till it is bad. -/
theorem many_calls (J : Nat → Bool → World → Prop) (B n g : Nat) (lb : Array Value) (b0 : Bool) (w : World) (hn : n ≤ 70000) (h0 : J 0 b0 w) (eg : ∀ args w, (callFunc g args).run Tryz.prog w = .ok (.enter g args) w)
    (hc : ∀ k b W, J k b W → W.cell? ⟨B, 1, none⟩ = some (.bool b)) (hs : ∀ k W, k < n → J k false W → Calls Tryz.prog g lb W fun e w' => e = .returned (.tuple #[]) ∧ ∃ b, J (k + 1) b w') :
    Calls Tryz.prog 25 #[.pointer (some ⟨B, 0, none⟩), .int .i64 n, .func (.func g) #[] lb] w fun e w' => e = .returned (.tuple #[]) ∧ ∃ k b, k ≤ n ∧ J k b w' ∧ (k = n ∨ b = true) := by
  go_enter Tryz.func25, Tryz.ntmps25
  go_wp2_with fail
  go_loopw [7] (fun i wr => ∃ (k : Nat) (b : Bool), k ≤ n ∧ i = .int .i64 k ∧ J k b wr) (fun i _ => n - (intOf i).toNat)
  case atStart => exact ⟨0, b0, by omega, rfl, h0⟩
  case round =>
    obtain ⟨k, b, hk, rfl, hJ⟩ := hrel
    have c1 := hc k b wr hJ
    by_cases hlt : k < n
    · cases b with
      | true =>
        go_wp2_with fail
        refine bodyPost_ret (results_none rfl _ _ _) rfl ?_
        exact ⟨rfl, k, true, hk, hJ, .inr rfl⟩
      | false =>
        have hcall := hs k wr hlt hJ
        go_wp2_with (go_at_fn g; refine hcall.mono ?_; rintro e w' ⟨rfl, b', hb'⟩)
        go_roundw
        case rel => exact ⟨k + 1, b', by omega, by go_num, hb'⟩
        case measure => simp [intOf]; omega
    · have hkn : k = n := by omega
      go_wp2_with fail
      go_end0
      exact ⟨rfl, k, b, hk, hJ, .inl hkn⟩

end Go.Proofs.YtdhdbmfipkppiaaGreat
