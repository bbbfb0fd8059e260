/- The walks of package shape: within, May, Row, Size, Out. -/
import Derived.Test.YtmddlhfahfelpaaRegW
import Derived.Test.YtmddlhfahfelpaaRely
import Derived.Shelf.Abstract
set_option linter.unusedSimpArgs false
set_option linter.unusedVariables false
set_option linter.unnecessarySimpa false
namespace Go.Proofs.Ytmddlhfahfelpaa
open Go.RowKit

theorem cell_new {w : World} {cs : Array Value} {T : TypeId} {b i : Nat} (h : b = w.heap.size) : (w.alloc (.cells cs T)).cell? ⟨b, i, none⟩ = cs[i]? := by
  subst h
  exact cell_of_row _ _ i _ _ _ (heap_alloc_new w _)
theorem cell_old {w : World} {o : Obj} {b i : Nat} (h : b < w.heap.size) : (w.alloc o).cell? ⟨b, i, none⟩ = w.cell? ⟨b, i, none⟩ :=
  (below_alloc (Below.refl w.heap.size w) (Nat.le_refl _) o).cell (p := ⟨b, i, none⟩) h
theorem ext_alloc (w : World) (o : Obj) : Ext w (w.alloc o) := below_alloc (Below.refl _ _) (Nat.le_refl _) _

/-- What a call answers, and lays anew alone. -/
def Gives (p : World → Value → Prop) (w : World) (e : Ending) (w' : World) : Prop := ∃ v, e = .returned v ∧ p w' v ∧ Ext w w'

/-- A function value that tells whether numbers are within bounds. -/
def WithinF (lo hi : Int) (w : World) (v : Value) : Prop := ∃ B1 B2 : Nat, v = .func (.func 99) #[] #[.pointer (some ⟨B1, 0, none⟩), .pointer (some ⟨B2, 0, none⟩)] ∧ w.cell? ⟨B1, 0, none⟩ = some (.int .i64 lo) ∧ w.cell? ⟨B2, 0, none⟩ = some (.int .i64 hi)
def ME.within (lo hi : Int) : MP Ext := ⟨WithinF lo hi, fun _ _ _ e ⟨B1, B2, h, h1, h2⟩ => ⟨B1, B2, h, cell_ext h1 _ e, cell_ext h2 _ e⟩⟩

def inB (lo hi : Int) (z : Int) : Bool := decide (lo ≤ z) && decide (z ≤ hi)

theorem within_calls (lo hi : Int) (w : World) : Calls Try.prog 94 #[.int .i64 lo, .int .i64 hi] w (Gives (WithinF lo hi) w) := by
  go_enter Try.func94, Try.ntmps94
  go_wp2
  go_ret
  refine ⟨_, rfl, ⟨_, _, rfl, ?_, cell_new (by simp)⟩, (ext_alloc _ _).trans (ext_alloc _ _)⟩
  rw [cell_old (by simp), cell_new rfl]
  rfl

theorem within1_calls (lo hi : Int) (B1 B2 : Nat) (v : Value) (zs : List Int) (w : World) (hv : Ints .i64 w v zs) (c1 : w.cell? ⟨B1, 0, none⟩ = some (.int .i64 lo)) (c2 : w.cell? ⟨B2, 0, none⟩ = some (.int .i64 hi)) :
    Calls Try.prog 99 #[v, .pointer (some ⟨B1, 0, none⟩), .pointer (some ⟨B2, 0, none⟩)] w fun e w' => e = .returned (.bool (zs.all (inB lo hi))) ∧ w = w' := by
  obtain ⟨A, c, rfl, hlc, hcm, hcell⟩ := hv.form
  unfold maxLen at hcm
  go_enter Try.func99, Try.ntmps99
  go_wp2
  go_loop [6, 9] (fun _ i => ∃ k : Nat, k ≤ zs.length ∧ i = .int .i64 k ∧ Hid ((zs.take k).all (inB lo hi) = true)) (fun _ i => zs.length - (intOf i).toNat)
  case atStart => exact ⟨0, by omega, rfl, rfl⟩
  case round =>
    obtain ⟨k, hk, rfl, hn⟩ := hrel
    by_cases hlt : k < zs.length
    · obtain ⟨b, off, rfl, x0⟩ := hcell k hlt
      have hs : zs[k]?.getD 0 = zs[k] := by simp [hlt]
      rw [hs] at x0
      have HF : Hid (inB lo hi zs[k] = false → zs.all (inB lo hi) = false) := fun h => by
        rw [Bool.eq_false_iff]
        intro ha
        have := List.all_eq_true.1 ha _ (List.getElem_mem hlt)
        rw [h] at this; cases this
      have HT : Hid (inB lo hi zs[k] = true → (zs.take (k + 1)).all (inB lo hi) = true) := by
        show _ → _
        intro h
        rw [List.take_succ_eq_append_getElem hlt, List.all_append, hn.out]
        simp [h]
      clear hs hcell
      generalize zs[k] = z at *
      by_cases h1 : z < lo
      · have HF1 := Lib.hid (HF.out (by simp [inB]; omega))
        go_wp2
        go_ret
        exact ⟨ret_bool HF1.out.symm, rfl⟩
      · by_cases h2 : hi < z
        · have HF1 := Lib.hid (HF.out (by simp [inB]; omega))
          go_wp2
          go_ret
          exact ⟨ret_bool HF1.out.symm, rfl⟩
        · have HT1 := Lib.hid (HT.out (by simp [inB]; omega))
          go_wp2
          go_round
          case rel => exact ⟨k + 1, by omega, by go_num, HT1⟩
          case measure => simp [intOf]; omega
    · have hkk : k = zs.length := by omega
      have HE : Hid (zs.all (inB lo hi) = true) := by
        show _ = _
        have := hn.out
        rwa [hkk, List.take_length] at this
      go_wp2
      go_ret
      exact ⟨ret_bool HE.out.symm, rfl⟩

/-- A shape. -/
structure Sz where
  h : Int
  w : Int
  c : Int
deriving DecidableEq, Inhabited
def Sz.v (s : Sz) : Value := .agg #[.int .i64 s.h, .int .i64 s.w, .int .i64 s.c]
def Sz.ok (s : Sz) : Bool := inB 1 16 s.h && inB 1 16 s.w && inB 1 8 s.c

theorem ints_lit (w : World) (k : IntKind) (zs : List Int) (T : TypeId) (h : zs.length ≤ 1000) : Ints k (w.alloc (.cells (zs.map (Value.int k)).toArray T)) (.slice (some ⟨w.heap.size, 0, none⟩) zs.length zs.length) zs :=
  ⟨_, _, rfl, Nat.le_refl _, by unfold maxLen; omega, by simp, fun j u hj => ⟨_, _, rfl, by rw [Nat.zero_add, cell_new rfl]; simpa using hj⟩⟩

set_option maxRecDepth 4000 in
set_option maxHeartbeats 800000 in
theorem mayB_calls (s : Sz) (w : World) : Calls Try.prog 73 #[s.v] w fun e w' => e = .returned (.bool s.ok) ∧ Ext w w' := by
  obtain ⟨h, wd, c⟩ := s
  unfold Sz.v
  have eg := enters_of Try.func99 (by kernel_rfl) rfl
  have HO : Hid (Sz.ok ⟨h, wd, c⟩ = (([h, wd].all (inB 1 16)) && ([c].all (inB 1 8)))) := by show _ = _; simp [Sz.ok]
  have hw1 := ext_alloc w (.cells #[.int .i64 h, .int .i64 wd, .int .i64 c] 42)
  go_enter Try.func73, Try.ntmps73
  go_wp2_with fail
  have x0 : (w.alloc (.cells #[.int .i64 h, .int .i64 wd, .int .i64 c] 42)).cell? ⟨w.heap.size, 0, none⟩ = some (.int .i64 h) := cell_new rfl
  have x1 : (w.alloc (.cells #[.int .i64 h, .int .i64 wd, .int .i64 c] 42)).cell? ⟨w.heap.size, 1, none⟩ = some (.int .i64 wd) := cell_new rfl
  have x2 : (w.alloc (.cells #[.int .i64 h, .int .i64 wd, .int .i64 c] 42)).cell? ⟨w.heap.size, 2, none⟩ = some (.int .i64 c) := cell_new rfl
  generalize w.alloc _ = w1 at *
  obtain ⟨b1, hb⟩ : ∃ b1, [h, wd].all (inB 1 16) = b1 := ⟨_, rfl⟩
  have HB := Lib.hid hb
  clear hb
  cases b1 with
  | false =>
    refine wp_region_X [1, 2, 3, 4] [⟨0, [], ME.within 1 16⟩, ⟨5, [], ME.ints .i64 [h, wd]⟩, ⟨6, [0, 5], ME.is (.bool false)⟩, ⟨7, [6], ME.is (.bool false)⟩, ⟨8, [7], ME.is undef⟩, ⟨9, [7], ME.is undef⟩, ⟨10, [7, 9], ME.is undef⟩, ⟨11, [7, 10], ME.is undef⟩, ⟨12, [7, 8, 11], ME.is undef⟩, ⟨13, [7, 12], ME.is (.bool false)⟩, ⟨14, [13], ME.is (.bool false)⟩] (by kernel_rfl) (by kernel_rfl) (fun _ _ d _ _ h => by cases d <;> exact h) (fun w2 hE => ?_)
    have hy0 : ∀ W, Ext w2 W → W.cell? ⟨w.heap.size, 0, none⟩ = some (.int .i64 h) := cell_ext (cell_ext x0 _ hE)
    have hy1 : ∀ W, Ext w2 W → W.cell? ⟨w.heap.size, 1, none⟩ = some (.int .i64 wd) := cell_ext (cell_ext x1 _ hE)
    repeat (first | (refine wpP_pure rfl (by rfl) (fun W hW => by go_simp; with_reducible rfl) ?_; simp only [Act.put, List.setIfInBounds_toArray, List.set_cons_zero, List.set_cons_succ]) | (refine wpP_skip rfl (by rfl) ?_; simp only [Act.put, List.setIfInBounds_toArray, List.set_cons_zero, List.set_cons_succ]))
    refine ⟨?_, fun W hR => ?_⟩
    · simp only [rSteps, rNeed, rStep, both_top, tie, TP.top, TP.mine, MP.top, MP.mine, MT.mine, MT.tied, MT.done, MT.is, List.reverse_cons, List.reverse_nil, List.nil_append, List.cons_append, ME.is, MP.is, MP.done, ME.ints, ME.row, Region.wanted, yielded, List.getElem?_toArray, phi, dstAt, List.getElem?_cons_zero, List.getElem?_cons_succ, Option.bind_some, Act.put, List.setIfInBounds_toArray, List.set_cons_zero, List.set_cons_succ, and_true, forall_eq, reduceIte, Nat.reduceEqDiff, beq_iff_eq, Option.some.injEq, Bool.false_eq_true, reduceCtorEq, implies_true, true_and]
      refine ⟨fun W hR => ?_, fun W hR => ?_, fun W hR v0 h0 v5 h5 => ?_, fun W hR => ?_, fun W hR => ?_, fun W hR => ?_⟩
      · go_simp
        refine (within_calls 1 16 W).mono ?_
        rintro e w' ⟨v, rfl, h1, h2⟩
        exact ⟨v, rfl, h2, h1⟩
      · go_simp
        exact ⟨_, rfl, ext_alloc _ _, ints_lit _ _ [h, wd] _ (by simp)⟩
      · obtain ⟨B1, B2, rfl, c1, c2⟩ := h0
        go_simp
        refine (within1_calls 1 16 B1 B2 v5 _ W h5 c1 c2).mono ?_
        rintro e w' ⟨rfl, rfl⟩
        exact ⟨_, rfl, Ext.refl _, by rw [HB.out]⟩
      · (go_simp; exact ⟨_, rfl, Ext.refl _, rfl⟩)
      · (go_simp; exact ⟨_, rfl, Ext.refl _, rfl⟩)
      · (go_simp; exact ⟨_, rfl, Ext.refl _, rfl⟩)
    · simp only [rFin, envAt, TP.top, TP.mine, MP.top, MP.mine, MT.mine, MT.tied, MT.done, MT.is, List.map_cons, List.map_nil, true_implies, List.head?_cons, ME.is, MP.is, MP.done, ME.ints, ME.row, phi, dstAt, List.getElem?_cons_zero, List.getElem?_cons_succ, Option.bind_some, Act.put, List.setIfInBounds_toArray, List.set_cons_zero, List.set_cons_succ, and_true, forall_eq, reduceIte, Nat.reduceEqDiff, beq_iff_eq, Option.some.injEq, Bool.false_eq_true, reduceCtorEq, implies_true, true_and]
      intro v0 h0 v5 h5
      go_wp2
      go_ret
      exact ⟨ret_bool (by rw [HO.out, HB.out]; rfl), hw1.trans (hE.trans hR)⟩
  | true =>
    refine wp_region_X [1, 2, 3, 4] [⟨0, [], ME.within 1 16⟩, ⟨5, [], ME.ints .i64 [h, wd]⟩, ⟨6, [0, 5], ME.is (.bool true)⟩, ⟨7, [6], ME.is (.bool true)⟩, ⟨8, [7], ME.within 1 8⟩, ⟨9, [7], ME.is (.pointer (some ⟨w.heap.size, 2, none⟩))⟩, ⟨10, [7, 9], ME.is (.int .i64 c)⟩, ⟨11, [7, 10], ME.ints .i64 [c]⟩, ⟨12, [7, 8, 11], ME.is (.bool ([c].all (inB 1 8)))⟩, ⟨13, [7, 12], ME.is (.bool ([c].all (inB 1 8)))⟩, ⟨14, [13], ME.is (.bool ([c].all (inB 1 8)))⟩] (by kernel_rfl) (by kernel_rfl) (fun _ _ d _ _ h => by cases d <;> exact h) (fun w2 hE => ?_)
    have hy0 : ∀ W, Ext w2 W → W.cell? ⟨w.heap.size, 0, none⟩ = some (.int .i64 h) := cell_ext (cell_ext x0 _ hE)
    have hy1 : ∀ W, Ext w2 W → W.cell? ⟨w.heap.size, 1, none⟩ = some (.int .i64 wd) := cell_ext (cell_ext x1 _ hE)
    have hy2 : ∀ W, Ext w2 W → W.cell? ⟨w.heap.size, 2, none⟩ = some (.int .i64 c) := cell_ext (cell_ext x2 _ hE)
    obtain ⟨q, hq⟩ : ∃ q, [c].all (inB 1 8) = q := ⟨_, rfl⟩
    rw [hq]
    have HQ := Lib.hid hq
    clear hq
    repeat (first | (refine wpP_pure rfl (by rfl) (fun W hW => by go_simp; with_reducible rfl) ?_; simp only [Act.put, List.setIfInBounds_toArray, List.set_cons_zero, List.set_cons_succ]) | (refine wpP_skip rfl (by rfl) ?_; simp only [Act.put, List.setIfInBounds_toArray, List.set_cons_zero, List.set_cons_succ]))
    refine ⟨?_, fun W hR => ?_⟩
    · simp only [rSteps, rNeed, rStep, both_top, tie, TP.top, TP.mine, MP.top, MP.mine, MT.mine, MT.tied, MT.done, MT.is, List.reverse_cons, List.reverse_nil, List.nil_append, List.cons_append, ME.is, MP.is, MP.done, ME.ints, ME.row, Region.wanted, yielded, List.getElem?_toArray, phi, dstAt, List.getElem?_cons_zero, List.getElem?_cons_succ, Option.bind_some, Act.put, List.setIfInBounds_toArray, List.set_cons_zero, List.set_cons_succ, and_true, forall_eq, reduceIte, Nat.reduceEqDiff, beq_iff_eq, Option.some.injEq, Bool.false_eq_true, reduceCtorEq, implies_true, true_and]
      refine ⟨fun W hR => ?_, fun W hR => ?_, fun W hR v0 h0 v5 h5 => ?_, fun W hR => ?_, fun W hR => ?_, fun W hR => ?_, fun W hR => ?_, fun W hR => ?_, fun W hR v8 h8 v11 h11 => ?_, fun W hR => ?_, fun W hR => ?_⟩
      · go_simp
        refine (within_calls 1 16 W).mono ?_
        rintro e w' ⟨v, rfl, h1, h2⟩
        exact ⟨v, rfl, h2, h1⟩
      · go_simp
        exact ⟨_, rfl, ext_alloc _ _, ints_lit _ _ [h, wd] _ (by simp)⟩
      · obtain ⟨B1, B2, rfl, c1, c2⟩ := h0
        go_simp
        refine (within1_calls 1 16 B1 B2 v5 _ W h5 c1 c2).mono ?_
        rintro e w' ⟨rfl, rfl⟩
        exact ⟨_, rfl, Ext.refl _, by rw [HB.out]⟩
      · (go_simp; exact ⟨_, rfl, Ext.refl _, rfl⟩)
      · go_simp
        refine (within_calls 1 8 W).mono ?_
        rintro e w' ⟨v, rfl, h1, h2⟩
        exact ⟨v, rfl, h2, h1⟩
      · (go_simp; exact ⟨_, rfl, Ext.refl _, rfl⟩)
      · have := hy2 W hR
        (go_simp; exact ⟨_, rfl, Ext.refl _, rfl⟩)
      · go_simp
        exact ⟨_, rfl, ext_alloc _ _, ints_lit _ _ [c] _ (by simp)⟩
      · obtain ⟨B1, B2, rfl, c1, c2⟩ := h8
        go_simp
        refine (within1_calls 1 8 B1 B2 v11 _ W h11 c1 c2).mono ?_
        rintro e w' ⟨rfl, rfl⟩
        exact ⟨_, rfl, Ext.refl _, by rw [HQ.out]⟩
      · (go_simp; exact ⟨_, rfl, Ext.refl _, rfl⟩)
      · (go_simp; exact ⟨_, rfl, Ext.refl _, rfl⟩)
    · simp only [rFin, envAt, TP.top, TP.mine, MP.top, MP.mine, MT.mine, MT.tied, MT.done, MT.is, List.map_cons, List.map_nil, true_implies, List.head?_cons, ME.is, MP.is, MP.done, ME.ints, ME.row, phi, dstAt, List.getElem?_cons_zero, List.getElem?_cons_succ, Option.bind_some, Act.put, List.setIfInBounds_toArray, List.set_cons_zero, List.set_cons_succ, and_true, forall_eq, reduceIte, Nat.reduceEqDiff, beq_iff_eq, Option.some.injEq, Bool.false_eq_true, reduceCtorEq, implies_true, true_and]
      intro v0 h0 v5 h5 v8 h8 v11 h11
      go_wp2
      go_ret
      exact ⟨ret_bool (by rw [HO.out, HB.out, HQ.out]; rfl), hw1.trans (hE.trans hR)⟩

theorem shMay_calls (s : Sz) (w : World) : Calls Try.prog 63 #[.agg #[.int .i64 s.h, .int .i64 s.w, .int .i64 s.c]] w fun e w' => e = .returned (.int .i64 (if s.ok then 0 else 10)) ∧ Ext w w' := by
  have hc := mayB_calls s (w.alloc (.cells #[.int .i64 s.h, .int .i64 s.w, .int .i64 s.c] 42))
  unfold Sz.v at hc
  obtain ⟨h, wd, c⟩ := s
  generalize Sz.ok _ = q at *
  go_enter Try.func63, Try.ntmps63
  go_wp2_with fail
  refine hc.mono ?_
  rintro e w' ⟨rfl, hE⟩
  cases q
  all_goals
    go_wp2
    go_ret
    exact ⟨rfl, (ext_alloc _ _).trans hE⟩

def rowZ (s : Sz) : Int := if s.ok then s.w * s.c else 0
def sizeZ (s : Sz) : Int := if s.ok then s.h * s.w * s.c else 0

theorem Sz.bounds {s : Sz} (h : s.ok = true) : 1 ≤ s.h ∧ s.h ≤ 16 ∧ 1 ≤ s.w ∧ s.w ≤ 16 ∧ 1 ≤ s.c ∧ s.c ≤ 8 := by
  simp only [Sz.ok, inB, Bool.and_eq_true, decide_eq_true_eq] at h
  omega

theorem mul_range {a b A B : Int} (h0 : 1 ≤ a) (h1 : a ≤ A) (h2 : 1 ≤ b) (h3 : b ≤ B) : 1 ≤ a * b ∧ a * b ≤ A * B := by
  have h4 : 1 * 1 ≤ a * b := Int.mul_le_mul h0 h2 (by omega) (by omega)
  exact ⟨by omega, Int.mul_le_mul h1 h3 (by omega) (by omega)⟩

theorem row_range {s : Sz} (h : s.ok = true) : 1 ≤ s.w * s.c ∧ s.w * s.c ≤ 128 := by
  obtain ⟨_, _, h3, h4, h5, h6⟩ := Sz.bounds h
  exact mul_range h3 h4 h5 h6

theorem rowZ_range (s : Sz) : 0 ≤ rowZ s ∧ rowZ s ≤ 128 := by
  unfold rowZ
  split
  · rename_i h
    have := row_range h
    omega
  · omega

theorem sizeZ_eq (s : Sz) : rowZ s * s.h = sizeZ s := by
  unfold rowZ sizeZ
  split
  · rw [Int.mul_comm (s.w * s.c), Int.mul_assoc]
  · simp

theorem sizeZ_range (s : Sz) : 0 ≤ sizeZ s ∧ sizeZ s ≤ 2048 := by
  unfold sizeZ
  split
  · rename_i h
    obtain ⟨h1, h2, _⟩ := Sz.bounds h
    have h3 := row_range h
    have := mul_range h1 h2 h3.1 h3.2
    rw [← Int.mul_assoc] at this
    omega
  · omega

theorem row_calls (s : Sz) (w : World) : Calls Try.prog 54 #[.agg #[.int .i64 s.h, .int .i64 s.w, .int .i64 s.c]] w fun e w' => e = .returned (.int .i64 (rowZ s)) ∧ Ext w w' := by
  have hc := mayB_calls s (w.alloc (.cells #[.int .i64 s.h, .int .i64 s.w, .int .i64 s.c] 42))
  unfold Sz.v at hc
  have hr := @row_range s
  have HR : Hid (rowZ s = if s.ok then s.w * s.c else 0) := rfl
  obtain ⟨h, wd, c⟩ := s
  simp only at hr
  generalize Sz.ok _ = q at *
  go_enter Try.func54, Try.ntmps54
  go_wp2_with fail
  refine hc.mono ?_
  rintro e w' ⟨rfl, hE⟩
  have x1 := cell_ext (cell_new (w := w) (cs := #[.int .i64 h, .int .i64 wd, .int .i64 c]) (T := 42) (i := 1) rfl) _ hE
  have x2 := cell_ext (cell_new (w := w) (cs := #[.int .i64 h, .int .i64 wd, .int .i64 c]) (T := 42) (i := 2) rfl) _ hE
  cases q with
  | false =>
    go_wp2
    go_ret
    exact ⟨by rw [HR.out]; rfl, (ext_alloc _ _).trans hE⟩
  | true =>
    have hr1 := hr rfl
    have hm : IntKind.i64.wrap (wd * c) = wd * c := IntWalk.i64_in _ (by omega)
    have HM := Lib.hid hm
    clear hr hm
    go_wp2
    go_ret
    exact ⟨by rw [HR.out]; rfl, (ext_alloc _ _).trans hE⟩

theorem size_calls (s : Sz) (w : World) : Calls Try.prog 33 #[.agg #[.int .i64 s.h, .int .i64 s.w, .int .i64 s.c]] w fun e w' => e = .returned (.int .i64 (sizeZ s)) ∧ Ext w w' := by
  have hrr := rowZ_range s
  have hsr := sizeZ_range s
  have hse := sizeZ_eq s
  have hok : s.ok = true → 1 ≤ s.h ∧ s.h ≤ 16 := fun h => ⟨(Sz.bounds h).1, (Sz.bounds h).2.1⟩
  have hrow := row_calls s
  have hw1 := ext_alloc w (.cells #[.int .i64 s.h, .int .i64 s.w, .int .i64 s.c] 42)
  obtain ⟨h, wd, c⟩ := s
  go_enter Try.func33, Try.ntmps33
  go_wp2_with fail
  have x0 : (w.alloc (.cells #[.int .i64 h, .int .i64 wd, .int .i64 c] 42)).cell? ⟨w.heap.size, 0, none⟩ = some (.int .i64 h) := cell_new rfl
  have x1 : (w.alloc (.cells #[.int .i64 h, .int .i64 wd, .int .i64 c] 42)).cell? ⟨w.heap.size, 1, none⟩ = some (.int .i64 wd) := cell_new rfl
  have x2 : (w.alloc (.cells #[.int .i64 h, .int .i64 wd, .int .i64 c] 42)).cell? ⟨w.heap.size, 2, none⟩ = some (.int .i64 c) := cell_new rfl
  generalize w.alloc _ = w1 at *
  obtain ⟨sz, hsz⟩ : ∃ sz, sizeZ ⟨h, wd, c⟩ = sz := ⟨_, rfl⟩
  rw [hsz] at hse hsr
  have HSZ := Lib.hid hsz
  clear hsz
  generalize rowZ _ = rz at *
  have hm : IntKind.i64.wrap (rz * h) = sz := by rw [hse]; exact IntWalk.i64_in _ (by omega)
  have HM := Lib.hid hm
  clear hm hse
  refine wp_region_X [0, 2, 3] [⟨1, [], ME.is (.int .i64 rz)⟩, ⟨4, [1], ME.is (.int .i64 sz)⟩, ⟨5, [4], ME.is (.int .i64 sz)⟩] (by kernel_rfl) (by kernel_rfl) (fun _ _ d _ _ h => by cases d <;> exact h) (fun w2 hE => ?_)
  have hy0 : ∀ W, Ext w2 W → W.cell? ⟨w.heap.size, 0, none⟩ = some (.int .i64 h) := cell_ext (cell_ext x0 _ hE)
  have hy1 : ∀ W, Ext w2 W → W.cell? ⟨w.heap.size, 1, none⟩ = some (.int .i64 wd) := cell_ext (cell_ext x1 _ hE)
  have hy2 : ∀ W, Ext w2 W → W.cell? ⟨w.heap.size, 2, none⟩ = some (.int .i64 c) := cell_ext (cell_ext x2 _ hE)
  repeat (first | (refine wpP_pure rfl (by rfl) (fun W hW => by go_simp; with_reducible rfl) ?_; simp only [Act.put, List.setIfInBounds_toArray, List.set_cons_zero, List.set_cons_succ]) | (refine wpP_skip rfl (by rfl) ?_; simp only [Act.put, List.setIfInBounds_toArray, List.set_cons_zero, List.set_cons_succ]))
  refine ⟨?_, fun W hR => ?_⟩
  · simp only [rSteps, rNeed, rStep, both_top, tie, TP.top, TP.mine, MP.top, MP.mine, MT.mine, MT.tied, MT.done, MT.is, List.reverse_cons, List.reverse_nil, List.nil_append, List.cons_append, ME.is, MP.is, MP.done, ME.ints, ME.row, Region.wanted, yielded, List.getElem?_toArray, phi, dstAt, List.getElem?_cons_zero, List.getElem?_cons_succ, Option.bind_some, Act.put, List.setIfInBounds_toArray, List.set_cons_zero, List.set_cons_succ, and_true, forall_eq, reduceIte, Nat.reduceEqDiff, beq_iff_eq, Option.some.injEq, Bool.false_eq_true, reduceCtorEq, implies_true, true_and]
    refine ⟨fun W hR => ?_, fun W hR => ?_, fun W hR => ?_⟩
    · go_simp
      refine (hrow W).mono ?_
      rintro e w' ⟨rfl, h1⟩
      exact ⟨_, rfl, h1, rfl⟩
    · go_simp
      exact ⟨_, rfl, Ext.refl _, by rw [HM.out]⟩
    · (go_simp; exact ⟨_, rfl, Ext.refl _, rfl⟩)
  · simp only [rFin, envAt, TP.top, TP.mine, MP.top, MP.mine, MT.mine, MT.tied, MT.done, MT.is, List.map_cons, List.map_nil, true_implies, List.head?_cons, ME.is, MP.is, MP.done, ME.ints, ME.row, phi, dstAt, List.getElem?_cons_zero, List.getElem?_cons_succ, Option.bind_some, Act.put, List.setIfInBounds_toArray, List.set_cons_zero, List.set_cons_succ, and_true, forall_eq, reduceIte, Nat.reduceEqDiff, beq_iff_eq, Option.some.injEq, Bool.false_eq_true, reduceCtorEq, implies_true, true_and]
    go_wp2
    go_ret
    exact ⟨ret_int HSZ.out.symm, hw1.trans (hE.trans hR)⟩

/-- How many places a window has. -/
def outOk (size k stride pad : Int) : Bool := inB 1 64 size && (inB 1 16 k && inB 1 16 stride) && inB 0 16 pad && decide (k ≤ size + 2 * pad)
def outZ (size k stride pad : Int) : Int := if outOk size k stride pad then 1 + (size + 2 * pad - k) / stride else 0

theorem out_calls (size k stride pad : Int) (w : World) : Calls Try.prog 98 #[.int .i64 size, .int .i64 k, .int .i64 stride, .int .i64 pad] w fun e w' => e = .returned (.int .i64 (outZ size k stride pad)) ∧ Ext w w' := by
  have eg := enters_of Try.func99 (by kernel_rfl) rfl
  have HO : Hid (outZ size k stride pad = if outOk size k stride pad then 1 + (size + 2 * pad - k) / stride else 0) := rfl
  have HB : Hid (outOk size k stride pad = ([size].all (inB 1 64) && [k, stride].all (inB 1 16) && [pad].all (inB 0 16) && decide (k ≤ size + 2 * pad))) := by show _ = _; simp [outOk]
  go_enter Try.func98, Try.ntmps98
  go_wp2_with fail
  refine (within_calls 1 64 _).mono ?_
  rintro e w1 ⟨v, rfl, ⟨A1, B1, rfl, c1, c2⟩, k1⟩
  go_wp2_with fail
  have hi : Ints .i64 (w1.alloc (.cells #[.int .i64 size] 3)) (.slice (some ⟨w1.heap.size, 0, none⟩) 1 1) [size] := ints_lit w1 .i64 [size] _ (by simp)
  replace c1 := cell_ext c1 _ (ext_alloc w1 (.cells #[.int .i64 size] 3))
  replace c2 := cell_ext c2 _ (ext_alloc w1 (.cells #[.int .i64 size] 3))
  have g1 := k1
  replace g1 := g1.trans (ext_alloc w1 (.cells #[.int .i64 size] 3))
  generalize w1.alloc _ = u1 at *
  refine (within1_calls 1 64 A1 B1 _ [size] _ hi c1 c2).mono ?_
  rintro e w' ⟨rfl, rfl⟩
  clear hi c1 c2 k1
  obtain ⟨q, hq⟩ : ∃ q, [size].all (inB 1 64) = q := ⟨_, rfl⟩
  have HQ1 := Lib.hid hq
  rw [hq]
  clear hq
  cases q with
  | false =>
    have HZ : Hid (outZ size k stride pad = 0) := by show _ = _; rw [HO.out, HB.out, HQ1.out]; simp
    go_wp2
    go_ret
    exact ⟨ret_int HZ.out.symm, g1⟩
  | true =>
    go_wp2_with fail
    refine (within_calls 1 16 _).mono ?_
    rintro e w2 ⟨v, rfl, ⟨A2, B2, rfl, c1, c2⟩, k1⟩
    go_wp2_with fail
    have hi : Ints .i64 (w2.alloc (.cells #[.int .i64 k, .int .i64 stride] 3)) (.slice (some ⟨w2.heap.size, 0, none⟩) 2 2) [k, stride] := ints_lit w2 .i64 [k, stride] _ (by simp)
    replace c1 := cell_ext c1 _ (ext_alloc w2 (.cells #[.int .i64 k, .int .i64 stride] 3))
    replace c2 := cell_ext c2 _ (ext_alloc w2 (.cells #[.int .i64 k, .int .i64 stride] 3))
    have g2 := g1.trans k1
    replace g2 := g2.trans (ext_alloc w2 (.cells #[.int .i64 k, .int .i64 stride] 3))
    generalize w2.alloc _ = u2 at *
    refine (within1_calls 1 16 A2 B2 _ [k, stride] _ hi c1 c2).mono ?_
    rintro e w' ⟨rfl, rfl⟩
    clear hi c1 c2 k1
    obtain ⟨q, hq⟩ : ∃ q, [k, stride].all (inB 1 16) = q := ⟨_, rfl⟩
    have HQ2 := Lib.hid hq
    rw [hq]
    clear hq
    cases q with
    | false =>
      have HZ : Hid (outZ size k stride pad = 0) := by show _ = _; rw [HO.out, HB.out, HQ1.out, HQ2.out]; simp
      go_wp2
      go_ret
      exact ⟨ret_int HZ.out.symm, g2⟩
    | true =>
      go_wp2_with fail
      refine (within_calls 0 16 _).mono ?_
      rintro e w3 ⟨v, rfl, ⟨A3, B3, rfl, c1, c2⟩, k1⟩
      go_wp2_with fail
      have hi : Ints .i64 (w3.alloc (.cells #[.int .i64 pad] 3)) (.slice (some ⟨w3.heap.size, 0, none⟩) 1 1) [pad] := ints_lit w3 .i64 [pad] _ (by simp)
      replace c1 := cell_ext c1 _ (ext_alloc w3 (.cells #[.int .i64 pad] 3))
      replace c2 := cell_ext c2 _ (ext_alloc w3 (.cells #[.int .i64 pad] 3))
      have g3 := g2.trans k1
      replace g3 := g3.trans (ext_alloc w3 (.cells #[.int .i64 pad] 3))
      generalize w3.alloc _ = u3 at *
      refine (within1_calls 0 16 A3 B3 _ [pad] _ hi c1 c2).mono ?_
      rintro e w' ⟨rfl, rfl⟩
      clear hi c1 c2 k1
      obtain ⟨q, hq⟩ : ∃ q, [pad].all (inB 0 16) = q := ⟨_, rfl⟩
      have HQ3 := Lib.hid hq
      rw [hq]
      clear hq
      cases q with
      | false =>
        have HZ : Hid (outZ size k stride pad = 0) := by show _ = _; rw [HO.out, HB.out, HQ1.out, HQ2.out, HQ3.out]; simp
        go_wp2
        go_ret
        exact ⟨ret_int HZ.out.symm, g3⟩
      | true =>
        have b1 := HQ1.out
        have b2 := HQ2.out
        have b3 := HQ3.out
        simp [inB] at b1 b2 b3
        obtain ⟨⟨b4, b5⟩, b6, b7⟩ := b2
        obtain ⟨b1, b8⟩ := b1
        obtain ⟨b3, b9⟩ := b3
        by_cases hle : size + 2 * pad < k
        · have HZ : Hid (outZ size k stride pad = 0) := by show _ = _; rw [HO.out, HB.out, if_neg]; simp; omega
          go_wp2
          go_ret
          exact ⟨ret_int HZ.out.symm, g3⟩
        · have HZ : Hid (outZ size k stride pad = 1 + (size + 2 * pad - k) / stride) := by show _ = _; rw [HO.out, HB.out, HQ1.out, HQ2.out, HQ3.out, if_pos]; simp; omega
          have h0 : 0 ≤ (size + 2 * pad - k) / stride := Int.ediv_nonneg (by omega) (by omega)
          have h9 : (size + 2 * pad - k) / stride ≤ size + 2 * pad - k := Int.ediv_le_self _ (by omega)
          go_wp2
          go_ret
          exact ⟨ret_int HZ.out.symm, g3⟩

end Go.Proofs.Ytmddlhfahfelpaa
