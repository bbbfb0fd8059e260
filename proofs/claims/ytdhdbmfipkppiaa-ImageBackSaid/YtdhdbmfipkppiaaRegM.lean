/- The walks of package region: meet, Clash, and slices.IndexFunc and ContainsFunc at spans. -/
/- The walks of region.May, of the reference's May and Clash, of few and the example. -/
import Derived.Test.YtdhdbmfipkppiaaTypes
import Derived.Shelf.Abstract
import Derived.Test.YtdhdbmfipkppiaaDraw
import Derived.BigRegion
namespace Go.Proofs.Ytdhdbmfipkppiaa
set_option linter.unusedSimpArgs false
set_option linter.unusedVariables false
set_option linter.unnecessarySimpa false
open Go.RowKit

/-- A span. -/
structure Sp where
  mem : Int
  frm : Int
  to : Int
  wr : Bool
deriving DecidableEq, Inhabited

def Sp.cs (s : Sp) : List Value := [.int .i64 s.mem, .int .i64 s.frm, .int .i64 s.to, .bool s.wr]
def Sp.v (s : Sp) : Value := .agg #[.int .i64 s.mem, .int .i64 s.frm, .int .i64 s.to, .bool s.wr]
def meetB (a b : Sp) : Bool := (a.mem == b.mem) && (a.wr || b.wr) && decide (a.frm < b.to) && decide (b.frm < a.to) && decide (a.frm < a.to) && decide (b.frm < b.to)

def Spans (w : World) (v : Value) (l : List Sp) : Prop := Row w v l.length 4 (l.flatMap Sp.cs)

theorem cs_get : ∀ (l : List Sp) (j i : Nat), i < 4 → (l.flatMap Sp.cs)[j * 4 + i]? = (l[j]?).bind fun s => s.cs[i]?
  | [], j, i, _ => by simp
  | s :: l, 0, i, hi => by
    rw [List.flatMap_cons, Nat.zero_mul, Nat.zero_add, List.getElem?_append_left (by simp [Sp.cs]; omega)]
    rfl
  | s :: l, j + 1, i, hi => by
    rw [List.flatMap_cons, List.getElem?_append_right (by simp [Sp.cs]; omega), show (j + 1) * 4 + i - s.cs.length = j * 4 + i from by simp [Sp.cs]; omega, cs_get l j i hi]
    rfl

theorem Spans.form {w : World} {v : Value} {l : List Sp} (h : Spans w v l) : ∃ A c, v = .slice A l.length c ∧ l.length ≤ c ∧ c ≤ maxLen ∧
    (∀ j s, l[j]? = some s → ∃ b off, A = some ⟨b, off, none⟩ ∧ w.cell? ⟨b, off + j * 4, none⟩ = some (.int .i64 s.mem) ∧ w.cell? ⟨b, off + j * 4 + 1, none⟩ = some (.int .i64 s.frm) ∧
      w.cell? ⟨b, off + j * 4 + 2, none⟩ = some (.int .i64 s.to) ∧ w.cell? ⟨b, off + j * 4 + 3, none⟩ = some (.bool s.wr)) := by
  obtain ⟨A, c, e, h1, h2, h3, h4⟩ := h
  refine ⟨A, c, e, h1, h2, fun j s hj => ?_⟩
  have g := fun i u (hi : i < 4) (hu : s.cs[i]? = some u) => h4 (j * 4 + i) u (by rw [cs_get _ _ _ hi, hj]; exact hu)
  obtain ⟨b, off, rfl, k0⟩ := g 0 _ (by omega) rfl
  obtain ⟨_, _, e1, k1⟩ := g 1 _ (by omega) rfl
  obtain ⟨_, _, e2, k2⟩ := g 2 _ (by omega) rfl
  obtain ⟨_, _, e3, k3⟩ := g 3 _ (by omega) rfl
  cases e1; cases e2; cases e3
  exact ⟨b, off, rfl, by simpa using k0, by simpa [Nat.add_assoc] using k1, by simpa [Nat.add_assoc] using k2, by simpa [Nat.add_assoc] using k3⟩

theorem Spans.below {w w' : World} {v : Value} {l : List Sp} (h : Spans w v l) (hb : Below w.heap.size w w') : Spans w' v l := Row.below h hb

set_option maxHeartbeats 800000 in
theorem meet_calls (a b : Sp) (w : World) : Calls Try.prog 102 #[a.v, b.v] w fun e w' => e = .returned (.bool (meetB a b)) ∧ Below w.heap.size w w' := by
  have hb1 : ∀ o o', Below w.heap.size w ((w.alloc o).alloc o') := fun o o' => below_alloc (below_alloc (Below.refl _ _) (Nat.le_refl _) _) (by simp) _
  obtain ⟨m, f, t, p⟩ := a
  obtain ⟨m', f', t', p'⟩ := b
  unfold Sp.v
  go_enter Try.func102, Try.ntmps102
  cases p <;> cases p'
  all_goals
    go_wp2
  all_goals
    go_ret
    exact ⟨ret_bool (by rw [Bool.eq_iff_iff]; simp [meetB] <;> omega), hb1 _ _⟩

/-- A function value that tells of a span, and turns nothing that was there. -/
def Tells (g : Nat) (lb : Array Value) (p : Sp → Bool) (w : World) : Prop :=
  ∀ (W : World) (x : Sp), Below w.heap.size w W → Calls Try.prog g (#[x.v] ++ lb) W fun e w' => e = .returned (.bool (p x)) ∧ Below w.heap.size w w'

set_option maxHeartbeats 800000 in
theorem indexFunc_calls (g : Nat) (lb : Array Value) (p : Sp → Bool) (v : Value) (l : List Sp) (w : World) (hv : Spans w v l) (eg : ∀ args w, (callFunc g args).run Try.prog w = .ok (.enter g args) w) (hp : Tells g lb p w) :
    Calls Try.prog 123 #[v, .func (.func g) #[] lb] w fun e w' => (∃ i : Int, e = .returned (.int .i64 i) ∧ decide (0 ≤ i) = l.any p) ∧ Below w.heap.size w w' := by
  have hv0 := hv
  obtain ⟨A, c, rfl, hlc, hcm, _⟩ := hv.form
  unfold maxLen at hcm
  clear hv
  go_enter Try.func123, Try.ntmps123
  go_wp2
  go_loopw [5, 8] (fun _ i wr => ∃ k : Nat, k ≤ l.length ∧ i = .int .i64 k ∧ Hid ((l.take k).any p = false) ∧ Below w.heap.size w wr) (fun _ i _ => l.length - (intOf i).toNat)
  case atStart => exact ⟨0, by omega, rfl, rfl, Below.refl _ _⟩
  case round =>
    obtain ⟨k, hk, rfl, hn, hbel⟩ := hrel
    by_cases hlt : k < l.length
    · obtain ⟨_, _, e1, _, _, hc⟩ := (hv0.below hbel).form
      cases e1
      have hs : l[k]? = some l[k] := by simp [hlt]
      obtain ⟨b, off, rfl, c0, c1, c2, c3⟩ := hc k _ hs
      have hcall := hp wr l[k] hbel
      have HT : Hid (p l[k] = true → l.any p = true) := fun h => List.any_eq_true.2 ⟨_, List.getElem_mem hlt, h⟩
      have HF : Hid (p l[k] = false → (l.take (k + 1)).any p = false) := by
        show _ → _
        intro h
        rw [List.take_succ_eq_append_getElem hlt, List.any_append, hn.out]
        simp [h]
      clear hc hs hp
      generalize l[k] = y at *
      cases hq : p y with
      | true =>
        have HT1 := Lib.hid (HT.out hq)
        rw [hq] at hcall
        clear HF HT hq
        obtain ⟨m, f, t, wr'⟩ := y
        unfold Sp.v at hcall
        go_wp2_with (go_at_fn g; refine hcall.mono ?_; rintro e w' ⟨rfl, hb'⟩)
        go_ret
        exact ⟨⟨k, rfl, by rw [HT1.out]; simp⟩, hb'⟩
      | false =>
        have HF1 := Lib.hid (HF.out hq)
        rw [hq] at hcall
        clear HF HT hq
        obtain ⟨m, f, t, wr'⟩ := y
        unfold Sp.v at hcall
        go_wp2_with (go_at_fn g; refine hcall.mono ?_; rintro e w' ⟨rfl, hb'⟩)
        go_roundw
        case rel => exact ⟨k + 1, by omega, by go_num, HF1, hb'⟩
        case measure => simp [intOf]; omega
    · have hkk : k = l.length := by omega
      have HE : Hid (l.any p = false) := by
        show _ = _
        have := hn.out
        rwa [hkk, List.take_length] at this
      go_wp2
      go_ret
      exact ⟨⟨-1, rfl, by rw [HE.out]; rfl⟩, hbel⟩

set_option maxHeartbeats 400000 in
theorem containsFunc_calls (g : Nat) (lb : Array Value) (p : Sp → Bool) (v : Value) (l : List Sp) (w : World) (hv : Spans w v l) (eg : ∀ args w, (callFunc g args).run Try.prog w = .ok (.enter g args) w) (hp : Tells g lb p w) :
    Calls Try.prog 99 #[v, .func (.func g) #[] lb] w fun e w' => e = .returned (.bool (l.any p)) ∧ Below w.heap.size w w' := by
  go_enter Try.func99, Try.ntmps99
  go_wp2_with fail
  refine (indexFunc_calls g lb p v l w hv eg hp).mono ?_
  rintro e w1 ⟨⟨i, rfl, hi⟩, hb⟩
  have HI := Lib.hid hi
  clear hi
  go_wp2
  go_ret
  exact ⟨ret_bool HI.out, hb⟩

set_option maxHeartbeats 400000 in
/-- The inner function value: does the span meet that of the box? -/
theorem inner_tells (x : Sp) (B : Nat) (w : World) (hB : B < w.heap.size) (c0 : w.cell? ⟨B, 0, none⟩ = some (.int .i64 x.mem)) (c1 : w.cell? ⟨B, 1, none⟩ = some (.int .i64 x.frm)) (c2 : w.cell? ⟨B, 2, none⟩ = some (.int .i64 x.to)) (c3 : w.cell? ⟨B, 3, none⟩ = some (.bool x.wr)) :
    Tells 101 #[.pointer (some ⟨B, 0, none⟩)] (fun y => meetB x y) w := by
  intro W y hb
  have k0 := (hb.cell (p := ⟨B, 0, none⟩) hB).trans c0
  have k1 := (hb.cell (p := ⟨B, 1, none⟩) hB).trans c1
  have k2 := (hb.cell (p := ⟨B, 2, none⟩) hB).trans c2
  have k3 := (hb.cell (p := ⟨B, 3, none⟩) hB).trans c3
  have hBW : B < W.heap.size := Nat.lt_of_lt_of_le hB hb.size
  have hne : B ≠ W.heap.size := by omega
  clear c0 c1 c2 c3
  show Calls Try.prog 101 #[.agg #[.int .i64 y.mem, .int .i64 y.frm, .int .i64 y.to, .bool y.wr], .pointer (some ⟨B, 0, none⟩)] W _
  go_enter Try.func101, Try.ntmps101
  go_wp2_with fail
  refine (meet_calls x y _).mono ?_
  rintro e w' ⟨rfl, hb'⟩
  go_wp2_with fail
  go_ret
  refine ⟨rfl, ?_⟩
  exact (below_alloc hb hb.size _).trans (hb'.mono (by have := hb.size; simp; omega))

set_option maxHeartbeats 400000 in
theorem outer_tells (b : List Sp) (vb : Value) (B : Nat) (w : World) (hB : B < w.heap.size) (hc : w.cell? ⟨B, 0, none⟩ = some vb) (hv : Spans w vb b) :
    Tells 100 #[.pointer (some ⟨B, 0, none⟩)] (fun x => b.any fun y => meetB x y) w := by
  intro W x hb
  have k0 := (hb.cell (p := ⟨B, 0, none⟩) hB).trans hc
  have hBW : B < W.heap.size := Nat.lt_of_lt_of_le hB hb.size
  have hne : B ≠ W.heap.size := by omega
  have hv' := hv.below hb
  clear hc
  have hW : Below W.heap.size W (W.alloc (.cells #[.int .i64 x.mem, .int .i64 x.frm, .int .i64 x.to, .bool x.wr] 70)) := below_alloc (Below.refl _ _) (Nat.le_refl _) _
  have hin := inner_tells x W.heap.size (W.alloc (.cells #[.int .i64 x.mem, .int .i64 x.frm, .int .i64 x.to, .bool x.wr] 70)) (by simp)
    (by rw [cell_of_row _ _ 0 _ _ _ (heap_alloc_new W _)]; rfl) (by rw [cell_of_row _ _ 1 _ _ _ (heap_alloc_new W _)]; rfl) (by rw [cell_of_row _ _ 2 _ _ _ (heap_alloc_new W _)]; rfl) (by rw [cell_of_row _ _ 3 _ _ _ (heap_alloc_new W _)]; rfl)
  show Calls Try.prog 100 #[.agg #[.int .i64 x.mem, .int .i64 x.frm, .int .i64 x.to, .bool x.wr], .pointer (some ⟨B, 0, none⟩)] W _
  go_enter Try.func100, Try.ntmps100
  go_wp2_with fail
  refine (containsFunc_calls _ _ _ vb b _ (hv'.below hW) (enters_of Try.func101 (by kernel_rfl) rfl) hin).mono ?_
  rintro e w' ⟨rfl, hb'⟩
  go_wp2_with fail
  go_ret
  refine ⟨rfl, ?_⟩
  exact (below_alloc hb hb.size _).trans (hb'.mono (by have := hb.size; simp; omega))

def clashB (a b : List Sp) : Bool := a.any fun x => b.any fun y => meetB x y

set_option maxHeartbeats 400000 in
theorem clash_calls (va vb : Value) (a b : List Sp) (w : World) (ha : Spans w va a) (hb : Spans w vb b) :
    Calls Try.prog 65 #[va, vb] w fun e w' => e = .returned (.bool (clashB a b)) ∧ Below w.heap.size w w' := by
  have hW : Below w.heap.size w (w.alloc (.cells #[vb] 59)) := below_alloc (Below.refl _ _) (Nat.le_refl _) _
  have hin := outer_tells b vb w.heap.size (w.alloc (.cells #[vb] 59)) (by simp) (by rw [cell_of_row _ _ 0 _ _ _ (heap_alloc_new w _)]; rfl) (hb.below hW)
  have ha' := ha.below hW
  have hC : Hid (clashB a b = a.any fun x => b.any fun y => meetB x y) := rfl
  have hvb : ∃ A c, vb = .slice A b.length c := by obtain ⟨A, c, e, _⟩ := hb.form; exact ⟨A, c, e⟩
  obtain ⟨A, c, rfl⟩ := hvb
  go_enter Try.func65, Try.ntmps65
  go_wp2_with fail
  refine (containsFunc_calls _ _ _ va a _ ha' (enters_of Try.func100 (by kernel_rfl) rfl) hin).mono ?_
  rintro e w' ⟨rfl, hb'⟩
  go_wp2_with fail
  go_ret
  exact ⟨ret_bool hC.out.symm, hW.trans (hb'.mono hW.size)⟩

end Go.Proofs.Ytdhdbmfipkppiaa

namespace Go.Proofs.Ytdhdbmfipkppiaa
set_option linter.unusedSimpArgs false
set_option linter.unusedVariables false
set_option linter.unnecessarySimpa false
open Go.RowKit

def memTop (m : Int) : Int := if m = 0 then 65536 else 1024
def mayE (s : Sp) : Int := if s.mem < 0 ∨ 2 ≤ s.mem then 1 else if s.frm < 0 ∨ s.to < s.frm ∨ memTop s.mem < s.to then 23 else 0

set_option maxHeartbeats 800000 in
theorem may_calls (s : Sp) (w : World) : Calls Try.prog 70 #[s.v] w fun e w' => e = .returned (.int .i64 (mayE s)) ∧ Below w.heap.size w w' := by
  have HM : Hid (mayE s = if s.mem < 0 ∨ 2 ≤ s.mem then 1 else if s.frm < 0 ∨ s.to < s.frm ∨ memTop s.mem < s.to then 23 else 0) := rfl
  have hb1 : ∀ o, Below w.heap.size w (w.alloc o) := fun o => below_alloc (Below.refl _ _) (Nat.le_refl _) _
  have hb2 : ∀ o o', Below w.heap.size w ((w.alloc o).alloc o') := fun o o' => below_alloc (hb1 o) (by simp) _
  obtain ⟨m, f, t, p⟩ := s
  simp only at HM
  generalize mayE ⟨m, f, t, p⟩ = r at *
  unfold Sp.v
  go_enter Try.func70, Try.ntmps70
  by_cases h1 : m < 0 ∨ 2 ≤ m
  · have HR : Hid (r = 1) := by show _ = _; rw [HM.out, if_pos h1]
    go_wp2
    all_goals
      go_ret
      exact ⟨ret_int HR.out.symm, hb2 _ _⟩
  · have hm : m = 0 ∨ m = 1 := by omega
    rcases hm with rfl | rfl
    · have HM := HM.out
      rw [if_neg h1] at HM
      clear h1
      have j0 := cell_ext (w := ((w.alloc (.cells #[.int .i64 0, .int .i64 f, .int .i64 t, .bool p] 70)).alloc (.cells #[.int .i64 65536, .int .i64 1024] 55))) (a := ⟨w.heap.size, 0, none⟩) (v := .int .i64 0) (by simp)
      have j1 := cell_ext (w := ((w.alloc (.cells #[.int .i64 0, .int .i64 f, .int .i64 t, .bool p] 70)).alloc (.cells #[.int .i64 65536, .int .i64 1024] 55))) (a := ⟨w.heap.size, 1, none⟩) (v := .int .i64 f) (by simp)
      have j2 := cell_ext (w := ((w.alloc (.cells #[.int .i64 0, .int .i64 f, .int .i64 t, .bool p] 70)).alloc (.cells #[.int .i64 65536, .int .i64 1024] 55))) (a := ⟨w.heap.size, 2, none⟩) (v := .int .i64 t) (by simp)
      have j3 := cell_ext (w := ((w.alloc (.cells #[.int .i64 0, .int .i64 f, .int .i64 t, .bool p] 70)).alloc (.cells #[.int .i64 65536, .int .i64 1024] 55))) (a := ⟨w.heap.size + 1, 0, none⟩) (v := .int .i64 65536) (by simp)
      have j4 := cell_ext (w := ((w.alloc (.cells #[.int .i64 0, .int .i64 f, .int .i64 t, .bool p] 70)).alloc (.cells #[.int .i64 65536, .int .i64 1024] 55))) (a := ⟨w.heap.size + 1, 1, none⟩) (v := .int .i64 1024) (by simp)
      have h2 : f < 0 ∨ (0 ≤ f ∧ t < f) ∨ (0 ≤ f ∧ f ≤ t ∧ 65536 < t) ∨ (0 ≤ f ∧ f ≤ t ∧ t ≤ 65536) := by omega
      rcases h2 with h2 | ⟨h2, h3⟩ | ⟨h2, h3, h4⟩ | ⟨h2, h3, h4⟩
      · have HR : Hid (r = 23) := by
          show _ = _
          rw [HM]
          exact if_pos (Or.inl h2)
        have d1 : decide (f < 0) = true := decide_eq_true (by omega)
        clear HM
        go_wp2_with fail
        refine wp_region_D [(0, true), (1, true), (2, true), (3, true), (4, true), (5, true), (6, true), (7, true), (8, true), (9, true), (10, true), (11, true), (12, true), (13, true), (14, true), (15, true), (16, true), (17, true), (18, true), (19, true)] (by kernel_rfl) (by kernel_rfl) (fun _ _ d _ _ h => by cases d <;> exact h) (fun w2 hE => ?_)
        simp only [pickE, List.getElem?_cons_zero, List.getElem?_cons_succ]
        repeat (first
          | (refine wpD_skip (by rfl) ?_; simp only [Act.put, List.setIfInBounds_toArray, List.set_cons_zero, List.set_cons_succ])
          | (refine wpD_pure (by rfl) (fun W hW => by (dsimp only [Exts] at hW; go_simp; with_reducible rfl)) ?_; simp only [Act.put, List.setIfInBounds_toArray, List.set_cons_zero, List.set_cons_succ]))
        refine wpD_nil ?_
        go_wp2
        go_ret
        exact ⟨ret_int HR.out.symm, (hb2 _ _).trans (hE.mono (hb2 _ _).size)⟩
      · have HR : Hid (r = 23) := by
          show _ = _
          rw [HM]
          exact if_pos (Or.inr (Or.inl h3))
        have d1 : decide (f < 0) = false := decide_eq_false (by omega)
        have d2 : decide (t < f) = true := decide_eq_true (by omega)
        clear HM
        go_wp2_with fail
        refine wp_region_D [(0, true), (1, true), (2, true), (3, true), (4, true), (5, true), (6, true), (7, true), (8, true), (9, true), (10, true), (11, true), (12, true), (13, true), (14, true), (15, true), (16, true), (17, true), (18, true), (19, true)] (by kernel_rfl) (by kernel_rfl) (fun _ _ d _ _ h => by cases d <;> exact h) (fun w2 hE => ?_)
        simp only [pickE, List.getElem?_cons_zero, List.getElem?_cons_succ]
        repeat (first
          | (refine wpD_skip (by rfl) ?_; simp only [Act.put, List.setIfInBounds_toArray, List.set_cons_zero, List.set_cons_succ])
          | (refine wpD_pure (by rfl) (fun W hW => by (dsimp only [Exts] at hW; go_simp; with_reducible rfl)) ?_; simp only [Act.put, List.setIfInBounds_toArray, List.set_cons_zero, List.set_cons_succ]))
        refine wpD_nil ?_
        go_wp2
        go_ret
        exact ⟨ret_int HR.out.symm, (hb2 _ _).trans (hE.mono (hb2 _ _).size)⟩
      · have HR : Hid (r = 23) := by
          show _ = _
          rw [HM]
          exact if_pos (Or.inr (Or.inr (by simpa [memTop] using h4)))
        have d1 : decide (f < 0) = false := decide_eq_false (by omega)
        have d2 : decide (t < f) = false := decide_eq_false (by omega)
        have d3 : decide (65536 < t) = true := decide_eq_true (by omega)
        clear HM
        go_wp2_with fail
        refine wp_region_D [(0, true), (1, true), (2, true), (3, true), (4, true), (5, true), (6, true), (7, true), (8, true), (9, true), (10, true), (11, true), (12, true), (13, true), (14, true), (15, true), (16, true), (17, true), (18, true), (19, true)] (by kernel_rfl) (by kernel_rfl) (fun _ _ d _ _ h => by cases d <;> exact h) (fun w2 hE => ?_)
        simp only [pickE, List.getElem?_cons_zero, List.getElem?_cons_succ]
        repeat (first
          | (refine wpD_skip (by rfl) ?_; simp only [Act.put, List.setIfInBounds_toArray, List.set_cons_zero, List.set_cons_succ])
          | (refine wpD_pure (by rfl) (fun W hW => by (dsimp only [Exts] at hW; go_simp; with_reducible rfl)) ?_; simp only [Act.put, List.setIfInBounds_toArray, List.set_cons_zero, List.set_cons_succ]))
        refine wpD_nil ?_
        go_wp2
        go_ret
        exact ⟨ret_int HR.out.symm, (hb2 _ _).trans (hE.mono (hb2 _ _).size)⟩
      · have HR : Hid (r = 0) := by
          show _ = _
          rw [HM]
          exact if_neg (by simp [memTop]; omega)
        have d1 : decide (f < 0) = false := decide_eq_false (by omega)
        have d2 : decide (t < f) = false := decide_eq_false (by omega)
        have d3 : decide (65536 < t) = false := decide_eq_false (by omega)
        clear HM
        go_wp2_with fail
        refine wp_region_D [(0, true), (1, true), (2, true), (3, true), (4, true), (5, true), (6, true), (7, true), (8, true), (9, true), (10, true), (11, true), (12, true), (13, true), (14, true), (15, true), (16, true), (17, true), (18, true), (19, true)] (by kernel_rfl) (by kernel_rfl) (fun _ _ d _ _ h => by cases d <;> exact h) (fun w2 hE => ?_)
        simp only [pickE, List.getElem?_cons_zero, List.getElem?_cons_succ]
        repeat (first
          | (refine wpD_skip (by rfl) ?_; simp only [Act.put, List.setIfInBounds_toArray, List.set_cons_zero, List.set_cons_succ])
          | (refine wpD_pure (by rfl) (fun W hW => by (dsimp only [Exts] at hW; go_simp; with_reducible rfl)) ?_; simp only [Act.put, List.setIfInBounds_toArray, List.set_cons_zero, List.set_cons_succ]))
        refine wpD_nil ?_
        go_wp2
        go_ret
        exact ⟨ret_int HR.out.symm, (hb2 _ _).trans (hE.mono (hb2 _ _).size)⟩
    · have HM := HM.out
      rw [if_neg h1] at HM
      clear h1
      have j0 := cell_ext (w := ((w.alloc (.cells #[.int .i64 1, .int .i64 f, .int .i64 t, .bool p] 70)).alloc (.cells #[.int .i64 65536, .int .i64 1024] 55))) (a := ⟨w.heap.size, 0, none⟩) (v := .int .i64 1) (by simp)
      have j1 := cell_ext (w := ((w.alloc (.cells #[.int .i64 1, .int .i64 f, .int .i64 t, .bool p] 70)).alloc (.cells #[.int .i64 65536, .int .i64 1024] 55))) (a := ⟨w.heap.size, 1, none⟩) (v := .int .i64 f) (by simp)
      have j2 := cell_ext (w := ((w.alloc (.cells #[.int .i64 1, .int .i64 f, .int .i64 t, .bool p] 70)).alloc (.cells #[.int .i64 65536, .int .i64 1024] 55))) (a := ⟨w.heap.size, 2, none⟩) (v := .int .i64 t) (by simp)
      have j3 := cell_ext (w := ((w.alloc (.cells #[.int .i64 1, .int .i64 f, .int .i64 t, .bool p] 70)).alloc (.cells #[.int .i64 65536, .int .i64 1024] 55))) (a := ⟨w.heap.size + 1, 0, none⟩) (v := .int .i64 65536) (by simp)
      have j4 := cell_ext (w := ((w.alloc (.cells #[.int .i64 1, .int .i64 f, .int .i64 t, .bool p] 70)).alloc (.cells #[.int .i64 65536, .int .i64 1024] 55))) (a := ⟨w.heap.size + 1, 1, none⟩) (v := .int .i64 1024) (by simp)
      have h2 : f < 0 ∨ (0 ≤ f ∧ t < f) ∨ (0 ≤ f ∧ f ≤ t ∧ 1024 < t) ∨ (0 ≤ f ∧ f ≤ t ∧ t ≤ 1024) := by omega
      rcases h2 with h2 | ⟨h2, h3⟩ | ⟨h2, h3, h4⟩ | ⟨h2, h3, h4⟩
      · have HR : Hid (r = 23) := by
          show _ = _
          rw [HM]
          exact if_pos (Or.inl h2)
        have d1 : decide (f < 0) = true := decide_eq_true (by omega)
        clear HM
        go_wp2_with fail
        refine wp_region_D [(0, true), (1, true), (2, true), (3, true), (4, true), (5, true), (6, true), (7, true), (8, true), (9, true), (10, true), (11, true), (12, true), (13, true), (14, true), (15, true), (16, true), (17, true), (18, true), (19, true)] (by kernel_rfl) (by kernel_rfl) (fun _ _ d _ _ h => by cases d <;> exact h) (fun w2 hE => ?_)
        simp only [pickE, List.getElem?_cons_zero, List.getElem?_cons_succ]
        repeat (first
          | (refine wpD_skip (by rfl) ?_; simp only [Act.put, List.setIfInBounds_toArray, List.set_cons_zero, List.set_cons_succ])
          | (refine wpD_pure (by rfl) (fun W hW => by (dsimp only [Exts] at hW; go_simp; with_reducible rfl)) ?_; simp only [Act.put, List.setIfInBounds_toArray, List.set_cons_zero, List.set_cons_succ]))
        refine wpD_nil ?_
        go_wp2
        go_ret
        exact ⟨ret_int HR.out.symm, (hb2 _ _).trans (hE.mono (hb2 _ _).size)⟩
      · have HR : Hid (r = 23) := by
          show _ = _
          rw [HM]
          exact if_pos (Or.inr (Or.inl h3))
        have d1 : decide (f < 0) = false := decide_eq_false (by omega)
        have d2 : decide (t < f) = true := decide_eq_true (by omega)
        clear HM
        go_wp2_with fail
        refine wp_region_D [(0, true), (1, true), (2, true), (3, true), (4, true), (5, true), (6, true), (7, true), (8, true), (9, true), (10, true), (11, true), (12, true), (13, true), (14, true), (15, true), (16, true), (17, true), (18, true), (19, true)] (by kernel_rfl) (by kernel_rfl) (fun _ _ d _ _ h => by cases d <;> exact h) (fun w2 hE => ?_)
        simp only [pickE, List.getElem?_cons_zero, List.getElem?_cons_succ]
        repeat (first
          | (refine wpD_skip (by rfl) ?_; simp only [Act.put, List.setIfInBounds_toArray, List.set_cons_zero, List.set_cons_succ])
          | (refine wpD_pure (by rfl) (fun W hW => by (dsimp only [Exts] at hW; go_simp; with_reducible rfl)) ?_; simp only [Act.put, List.setIfInBounds_toArray, List.set_cons_zero, List.set_cons_succ]))
        refine wpD_nil ?_
        go_wp2
        go_ret
        exact ⟨ret_int HR.out.symm, (hb2 _ _).trans (hE.mono (hb2 _ _).size)⟩
      · have HR : Hid (r = 23) := by
          show _ = _
          rw [HM]
          exact if_pos (Or.inr (Or.inr (by simpa [memTop] using h4)))
        have d1 : decide (f < 0) = false := decide_eq_false (by omega)
        have d2 : decide (t < f) = false := decide_eq_false (by omega)
        have d3 : decide (1024 < t) = true := decide_eq_true (by omega)
        clear HM
        go_wp2_with fail
        refine wp_region_D [(0, true), (1, true), (2, true), (3, true), (4, true), (5, true), (6, true), (7, true), (8, true), (9, true), (10, true), (11, true), (12, true), (13, true), (14, true), (15, true), (16, true), (17, true), (18, true), (19, true)] (by kernel_rfl) (by kernel_rfl) (fun _ _ d _ _ h => by cases d <;> exact h) (fun w2 hE => ?_)
        simp only [pickE, List.getElem?_cons_zero, List.getElem?_cons_succ]
        repeat (first
          | (refine wpD_skip (by rfl) ?_; simp only [Act.put, List.setIfInBounds_toArray, List.set_cons_zero, List.set_cons_succ])
          | (refine wpD_pure (by rfl) (fun W hW => by (dsimp only [Exts] at hW; go_simp; with_reducible rfl)) ?_; simp only [Act.put, List.setIfInBounds_toArray, List.set_cons_zero, List.set_cons_succ]))
        refine wpD_nil ?_
        go_wp2
        go_ret
        exact ⟨ret_int HR.out.symm, (hb2 _ _).trans (hE.mono (hb2 _ _).size)⟩
      · have HR : Hid (r = 0) := by
          show _ = _
          rw [HM]
          exact if_neg (by simp [memTop]; omega)
        have d1 : decide (f < 0) = false := decide_eq_false (by omega)
        have d2 : decide (t < f) = false := decide_eq_false (by omega)
        have d3 : decide (1024 < t) = false := decide_eq_false (by omega)
        clear HM
        go_wp2_with fail
        refine wp_region_D [(0, true), (1, true), (2, true), (3, true), (4, true), (5, true), (6, true), (7, true), (8, true), (9, true), (10, true), (11, true), (12, true), (13, true), (14, true), (15, true), (16, true), (17, true), (18, true), (19, true)] (by kernel_rfl) (by kernel_rfl) (fun _ _ d _ _ h => by cases d <;> exact h) (fun w2 hE => ?_)
        simp only [pickE, List.getElem?_cons_zero, List.getElem?_cons_succ]
        repeat (first
          | (refine wpD_skip (by rfl) ?_; simp only [Act.put, List.setIfInBounds_toArray, List.set_cons_zero, List.set_cons_succ])
          | (refine wpD_pure (by rfl) (fun W hW => by (dsimp only [Exts] at hW; go_simp; with_reducible rfl)) ?_; simp only [Act.put, List.setIfInBounds_toArray, List.set_cons_zero, List.set_cons_succ]))
        refine wpD_nil ?_
        go_wp2
        go_ret
        exact ⟨ret_int HR.out.symm, (hb2 _ _).trans (hE.mono (hb2 _ _).size)⟩

end Go.Proofs.Ytdhdbmfipkppiaa
