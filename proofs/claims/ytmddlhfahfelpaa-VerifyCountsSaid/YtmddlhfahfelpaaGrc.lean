/- Package graph: the functions of the kinds of nodes: which shape is made, how many weights there are. -/
import Derived.Test.YtmddlhfahfelpaaGrb
set_option linter.unusedSimpArgs false
set_option linter.unusedVariables false
set_option linter.unnecessarySimpa false
namespace Go.Proofs.Ytmddlhfahfelpaa
open Go.RowKit

def Sz.zero : Sz := ⟨0, 0, 0⟩

/-- What is known ahead of a call of three: the boxes of a node and two shapes, and that of the result. -/
structure Box3 (w W : World) (n : Nd) (a b : Sz) : Prop where
  n : Blk W w.heap.size #[.int .i64 n.op, n.inV, .int .i64 n.k, .int .i64 n.st, .int .i64 n.pad, .int .i64 n.out, .int .i64 n.mul, .int .i64 n.sh, .int .i64 n.zero, .int .i64 n.th, .int .i64 n.tw, .int .i64 n.tc, n.wV, n.bV] 51
  a : Blk W (w.heap.size + 1) #[.int .i64 a.h, .int .i64 a.w, .int .i64 a.c] 42
  b : Blk W (w.heap.size + 1 + 1) #[.int .i64 b.h, .int .i64 b.w, .int .i64 b.c] 42
  r : Blk W (w.heap.size + 1 + 1 + 1) #[.int .i64 0, .int .i64 0, .int .i64 0] 42
  e : Ext w W

theorem box3 (w : World) (n : Nd) (a b : Sz) : Box3 w ((((w.alloc (.cells #[.int .i64 n.op, n.inV, .int .i64 n.k, .int .i64 n.st, .int .i64 n.pad, .int .i64 n.out, .int .i64 n.mul, .int .i64 n.sh, .int .i64 n.zero, .int .i64 n.th, .int .i64 n.tw, .int .i64 n.tc, n.wV, n.bV] 51)).alloc (.cells #[.int .i64 a.h, .int .i64 a.w, .int .i64 a.c] 42)).alloc (.cells #[.int .i64 b.h, .int .i64 b.w, .int .i64 b.c] 42)).alloc (.cells #[.int .i64 0, .int .i64 0, .int .i64 0] 42)) n a b := by
  have e1 := ext_alloc w (.cells #[.int .i64 n.op, n.inV, .int .i64 n.k, .int .i64 n.st, .int .i64 n.pad, .int .i64 n.out, .int .i64 n.mul, .int .i64 n.sh, .int .i64 n.zero, .int .i64 n.th, .int .i64 n.tw, .int .i64 n.tc, n.wV, n.bV] 51)
  have b1 := Blk.new w #[.int .i64 n.op, n.inV, .int .i64 n.k, .int .i64 n.st, .int .i64 n.pad, .int .i64 n.out, .int .i64 n.mul, .int .i64 n.sh, .int .i64 n.zero, .int .i64 n.th, .int .i64 n.tw, .int .i64 n.tc, n.wV, n.bV] 51
  have z1 : (w.alloc (.cells #[.int .i64 n.op, n.inV, .int .i64 n.k, .int .i64 n.st, .int .i64 n.pad, .int .i64 n.out, .int .i64 n.mul, .int .i64 n.sh, .int .i64 n.zero, .int .i64 n.th, .int .i64 n.tw, .int .i64 n.tc, n.wV, n.bV] 51)).heap.size = w.heap.size + 1 := by simp
  generalize w.alloc (.cells #[.int .i64 n.op, n.inV, .int .i64 n.k, .int .i64 n.st, .int .i64 n.pad, .int .i64 n.out, .int .i64 n.mul, .int .i64 n.sh, .int .i64 n.zero, .int .i64 n.th, .int .i64 n.tw, .int .i64 n.tc, n.wV, n.bV] 51) = w1 at *
  have e2 := ext_alloc w1 (.cells #[.int .i64 a.h, .int .i64 a.w, .int .i64 a.c] 42)
  have b2 := Blk.new w1 #[.int .i64 a.h, .int .i64 a.w, .int .i64 a.c] 42
  have z2 : (w1.alloc (.cells #[.int .i64 a.h, .int .i64 a.w, .int .i64 a.c] 42)).heap.size = w.heap.size + 1 + 1 := by simp [z1]
  rw [z1] at b2
  generalize w1.alloc (.cells #[.int .i64 a.h, .int .i64 a.w, .int .i64 a.c] 42) = w2 at *
  have e3 := ext_alloc w2 (.cells #[.int .i64 b.h, .int .i64 b.w, .int .i64 b.c] 42)
  have b3 := Blk.new w2 #[.int .i64 b.h, .int .i64 b.w, .int .i64 b.c] 42
  have z3 : (w2.alloc (.cells #[.int .i64 b.h, .int .i64 b.w, .int .i64 b.c] 42)).heap.size = w.heap.size + 1 + 1 + 1 := by simp [z2]
  rw [z2] at b3
  generalize w2.alloc (.cells #[.int .i64 b.h, .int .i64 b.w, .int .i64 b.c] 42) = w3 at *
  have e4 := ext_alloc w3 (.cells #[.int .i64 0, .int .i64 0, .int .i64 0] 42)
  have b4 := Blk.new w3 #[.int .i64 0, .int .i64 0, .int .i64 0] 42
  rw [z3] at b4
  exact ⟨((b1.ext e2).ext e3).ext e4, (b2.ext e3).ext e4, b3.ext e4, b4, ((e1.trans e2).trans e3).trans e4⟩

theorem ext_setRow {w W : World} {b : Nat} (h : Ext w W) (cs : Array Value) (hb : w.heap.size ≤ b) : Ext w (W.setRow b cs) := Below.grown h (setRow_grown W b cs) h.size (fun k hk => by cases hk; exact hb)

set_option maxRecDepth 4000 in
theorem conv_made (n : Nd) (a b : Sz) (w : World) : Calls Try.prog 80 #[.agg #[.int .i64 n.op, n.inV, .int .i64 n.k, .int .i64 n.st, .int .i64 n.pad, .int .i64 n.out, .int .i64 n.mul, .int .i64 n.sh, .int .i64 n.zero, .int .i64 n.th, .int .i64 n.tw, .int .i64 n.tc, n.wV, n.bV], .agg #[.int .i64 a.h, .int .i64 a.w, .int .i64 a.c], .agg #[.int .i64 b.h, .int .i64 b.w, .int .i64 b.c]] w fun e w' => e = .returned (.agg #[.int .i64 (outZ a.h n.k n.st n.pad), .int .i64 (outZ a.w n.k n.st n.pad), .int .i64 n.out]) ∧ Ext w w' := by
  have HB := box3 w n a b
  have hc := slid_calls n a n.out
  go_enter Try.func80, Try.ntmps80
  go_wp2_with fail
  generalize World.alloc (World.alloc (World.alloc (World.alloc w _) _) _) _ = w1 at *
  refine (hc w1).mono ?_
  rintro e w' ⟨rfl, h1⟩
  have hr := HB.r.ext h1
  have hx := ext_setRow (HB.e.trans h1) #[.int .i64 (outZ a.h n.k n.st n.pad), .int .i64 (outZ a.w n.k n.st n.pad), .int .i64 n.out] (show w.heap.size ≤ w.heap.size + 1 + 1 + 1 by omega)
  go_wp2_with (refine wpList_store_row rfl 42 _ _ rfl (w.heap.size + 1 + 1 + 1) #[.int .i64 (outZ a.h n.k n.st n.pad), .int .i64 (outZ a.w n.k n.st n.pad), .int .i64 n.out] rfl rfl 42 _ hr (by kernel_rfl) rfl (by simp [Value.oneCell']) ?_)
  refine bodyPost_ret (v := .agg _) (results_cell_row Try.results80 _ _ (w.heap.size + 1 + 1 + 1) 42 _ (0, 0) _ rfl (setRow_heap _ _ _ _ _ _ hr) (by kernel_rfl : Try.prog.underlying 42 = some (.struct (Try.prog.fieldsOf 42))) rfl (by kernel_rfl)) rfl ?_
  exact ⟨rfl, hx⟩

set_option maxRecDepth 4000 in
theorem pooled_made (n : Nd) (a b : Sz) (w : World) : Calls Try.prog 83 #[.agg #[.int .i64 n.op, n.inV, .int .i64 n.k, .int .i64 n.st, .int .i64 n.pad, .int .i64 n.out, .int .i64 n.mul, .int .i64 n.sh, .int .i64 n.zero, .int .i64 n.th, .int .i64 n.tw, .int .i64 n.tc, n.wV, n.bV], .agg #[.int .i64 a.h, .int .i64 a.w, .int .i64 a.c], .agg #[.int .i64 b.h, .int .i64 b.w, .int .i64 b.c]] w fun e w' => e = .returned (.agg #[.int .i64 (outZ a.h n.k n.st n.pad), .int .i64 (outZ a.w n.k n.st n.pad), .int .i64 a.c]) ∧ Ext w w' := by
  have HB := box3 w n a b
  have hc := slid_calls n a a.c
  go_enter Try.func83, Try.ntmps83
  go_wp2_with fail
  generalize World.alloc (World.alloc (World.alloc (World.alloc w _) _) _) _ = w1 at *
  refine (hc w1).mono ?_
  rintro e w' ⟨rfl, h1⟩
  have hr := HB.r.ext h1
  have hx := ext_setRow (HB.e.trans h1) #[.int .i64 (outZ a.h n.k n.st n.pad), .int .i64 (outZ a.w n.k n.st n.pad), .int .i64 a.c] (show w.heap.size ≤ w.heap.size + 1 + 1 + 1 by omega)
  go_wp2_with (refine wpList_store_row rfl 42 _ _ rfl (w.heap.size + 1 + 1 + 1) #[.int .i64 (outZ a.h n.k n.st n.pad), .int .i64 (outZ a.w n.k n.st n.pad), .int .i64 a.c] rfl rfl 42 _ hr (by kernel_rfl) rfl (by simp [Value.oneCell']) ?_)
  refine bodyPost_ret (v := .agg _) (results_cell_row Try.results83 _ _ (w.heap.size + 1 + 1 + 1) 42 _ (0, 0) _ rfl (setRow_heap _ _ _ _ _ _ hr) (by kernel_rfl : Try.prog.underlying 42 = some (.struct (Try.prog.fieldsOf 42))) rfl (by kernel_rfl)) rfl ?_
  exact ⟨rfl, hx⟩

theorem blk3 (w : World) (x y z : Obj) (cs : Array Value) (T : TypeId) : Blk ((((w.alloc x).alloc y).alloc z).alloc (.cells cs T)) (w.heap.size + 1 + 1 + 1) cs T ∧ Ext w ((((w.alloc x).alloc y).alloc z).alloc (.cells cs T)) := by
  refine ⟨?_, (((ext_alloc _ _).trans (ext_alloc _ _)).trans (ext_alloc _ _)).trans (ext_alloc _ _)⟩
  have := Blk.new (((w.alloc x).alloc y).alloc z) cs T
  rwa [show (((w.alloc x).alloc y).alloc z).heap.size = w.heap.size + 1 + 1 + 1 from by simp] at this

def zSz : Value := .agg #[.int .i64 0, .int .i64 0, .int .i64 0]

theorem full_made (n : Nd) (a b : Sz) (w : World) : Calls Try.prog 85 #[.agg #[.int .i64 n.op, n.inV, .int .i64 n.k, .int .i64 n.st, .int .i64 n.pad, .int .i64 n.out, .int .i64 n.mul, .int .i64 n.sh, .int .i64 n.zero, .int .i64 n.th, .int .i64 n.tw, .int .i64 n.tc, n.wV, n.bV], .agg #[.int .i64 a.h, .int .i64 a.w, .int .i64 a.c], .agg #[.int .i64 b.h, .int .i64 b.w, .int .i64 b.c]] w fun e w' => e = .returned (.agg #[.int .i64 1, .int .i64 1, .int .i64 n.out]) ∧ Ext w w' := by
  go_enter Try.func85, Try.ntmps85
  go_wp2
  refine bodyPost_ret (v := .agg _) (results_cell_row Try.results85 _ _ (w.heap.size + 1 + 1 + 1) 42 _ (0, 0) _ rfl (blk3 _ _ _ _ _ _).1 (by kernel_rfl : Try.prog.underlying 42 = some (.struct (Try.prog.fieldsOf 42))) rfl (by kernel_rfl)) rfl ?_
  exact ⟨rfl, (blk3 _ _ _ _ _ _).2⟩

theorem first_made (n : Nd) (a b : Sz) (w : World) : Calls Try.prog 78 #[.agg #[.int .i64 n.op, n.inV, .int .i64 n.k, .int .i64 n.st, .int .i64 n.pad, .int .i64 n.out, .int .i64 n.mul, .int .i64 n.sh, .int .i64 n.zero, .int .i64 n.th, .int .i64 n.tw, .int .i64 n.tc, n.wV, n.bV], .agg #[.int .i64 a.h, .int .i64 a.w, .int .i64 a.c], .agg #[.int .i64 b.h, .int .i64 b.w, .int .i64 b.c]] w fun e w' => e = .returned (.agg #[.int .i64 a.h, .int .i64 a.w, .int .i64 a.c]) ∧ Ext w w' := by
  go_enter Try.func78, Try.ntmps78
  go_wp2
  refine bodyPost_ret (v := .agg _) (results_cell_row Try.results78 _ _ (w.heap.size + 1 + 1 + 1) 42 _ (0, 0) _ rfl (blk3 _ _ _ _ _ _).1 (by kernel_rfl : Try.prog.underlying 42 = some (.struct (Try.prog.fieldsOf 42))) rfl (by kernel_rfl)) rfl ?_
  exact ⟨rfl, (blk3 _ _ _ _ _ _).2⟩

theorem pad_made (n : Nd) (a b : Sz) (w : World) (ha : a.ok = true) : Calls Try.prog 88 #[.agg #[.int .i64 n.op, n.inV, .int .i64 n.k, .int .i64 n.st, .int .i64 n.pad, .int .i64 n.out, .int .i64 n.mul, .int .i64 n.sh, .int .i64 n.zero, .int .i64 n.th, .int .i64 n.tw, .int .i64 n.tc, n.wV, n.bV], .agg #[.int .i64 a.h, .int .i64 a.w, .int .i64 a.c], .agg #[.int .i64 b.h, .int .i64 b.w, .int .i64 b.c]] w fun e w' => e = .returned (.agg #[.int .i64 (a.h + 2), .int .i64 (a.w + 2), .int .i64 a.c]) ∧ Ext w w' := by
  obtain ⟨h1, h2, h3, h4, h5, h6⟩ := Sz.bounds ha
  clear ha
  go_enter Try.func88, Try.ntmps88
  go_wp2
  refine bodyPost_ret (v := .agg _) (results_cell_row Try.results88 _ _ (w.heap.size + 1 + 1 + 1) 42 _ (0, 0) _ rfl (blk3 _ _ _ _ _ _).1 (by kernel_rfl : Try.prog.underlying 42 = some (.struct (Try.prog.fieldsOf 42))) rfl (by kernel_rfl)) rfl ?_
  exact ⟨rfl, (blk3 _ _ _ _ _ _).2⟩

def sameZ (a b : Sz) : Sz := if a = b then a else ⟨0, 0, 0⟩
set_option maxHeartbeats 800000 in
theorem same_made (n : Nd) (a b : Sz) (w : World) : Calls Try.prog 87 #[.agg #[.int .i64 n.op, n.inV, .int .i64 n.k, .int .i64 n.st, .int .i64 n.pad, .int .i64 n.out, .int .i64 n.mul, .int .i64 n.sh, .int .i64 n.zero, .int .i64 n.th, .int .i64 n.tw, .int .i64 n.tc, n.wV, n.bV], .agg #[.int .i64 a.h, .int .i64 a.w, .int .i64 a.c], .agg #[.int .i64 b.h, .int .i64 b.w, .int .i64 b.c]] w fun e w' => e = .returned (sameZ a b).v ∧ Ext w w' := by
  by_cases hab : a = b
  · subst hab
    have HS : Hid (sameZ a a = a) := by show _ = _; unfold sameZ; rw [if_pos rfl]
    go_enter Try.func87, Try.ntmps87
    go_wp2
    refine bodyPost_ret (v := .agg _) (results_cell_row Try.results87 _ _ (w.heap.size + 1 + 1 + 1) 42 _ (0, 0) _ rfl (blk3 _ _ _ _ _ _).1 (by kernel_rfl : Try.prog.underlying 42 = some (.struct (Try.prog.fieldsOf 42))) rfl (by kernel_rfl)) rfl ?_
    exact ⟨by rw [HS.out]; rfl, (blk3 _ _ _ _ _ _).2⟩
  · have HS : Hid (sameZ a b = ⟨0, 0, 0⟩) := by show _ = _; unfold sameZ; rw [if_neg hab]
    have hd : ¬ (a.h = b.h ∧ a.w = b.w ∧ a.c = b.c) := fun ⟨h1, h2, h3⟩ => hab (by cases a; cases b; simp_all)
    clear hab
    by_cases d1 : a.h = b.h
    · by_cases d2 : a.w = b.w
      · have d3 : ¬ a.c = b.c := fun h => hd ⟨d1, d2, h⟩
        clear hd
        go_enter Try.func87, Try.ntmps87
        go_wp2
        refine bodyPost_ret (v := .agg _) (results_cell_row Try.results87 _ _ (w.heap.size + 1 + 1 + 1) 42 _ (0, 0) _ rfl (blk3 _ _ _ _ _ _).1 (by kernel_rfl : Try.prog.underlying 42 = some (.struct (Try.prog.fieldsOf 42))) rfl (by kernel_rfl)) rfl ?_
        exact ⟨by rw [HS.out]; rfl, (blk3 _ _ _ _ _ _).2⟩
      · clear hd
        go_enter Try.func87, Try.ntmps87
        go_wp2
        refine bodyPost_ret (v := .agg _) (results_cell_row Try.results87 _ _ (w.heap.size + 1 + 1 + 1) 42 _ (0, 0) _ rfl (blk3 _ _ _ _ _ _).1 (by kernel_rfl : Try.prog.underlying 42 = some (.struct (Try.prog.fieldsOf 42))) rfl (by kernel_rfl)) rfl ?_
        exact ⟨by rw [HS.out]; rfl, (blk3 _ _ _ _ _ _).2⟩
    · clear hd
      go_enter Try.func87, Try.ntmps87
      go_wp2
      refine bodyPost_ret (v := .agg _) (results_cell_row Try.results87 _ _ (w.heap.size + 1 + 1 + 1) 42 _ (0, 0) _ rfl (blk3 _ _ _ _ _ _).1 (by kernel_rfl : Try.prog.underlying 42 = some (.struct (Try.prog.fieldsOf 42))) rfl (by kernel_rfl)) rfl ?_
      exact ⟨by rw [HS.out]; rfl, (blk3 _ _ _ _ _ _).2⟩

def besideZ (a b : Sz) : Sz := if a.h = b.h ∧ a.w = b.w then ⟨a.h, a.w, a.c + b.c⟩ else ⟨0, 0, 0⟩
set_option maxHeartbeats 800000 in
theorem beside_made (n : Nd) (a b : Sz) (w : World) (ha : a.ok = true) (hb : b.ok = true) : Calls Try.prog 89 #[.agg #[.int .i64 n.op, n.inV, .int .i64 n.k, .int .i64 n.st, .int .i64 n.pad, .int .i64 n.out, .int .i64 n.mul, .int .i64 n.sh, .int .i64 n.zero, .int .i64 n.th, .int .i64 n.tw, .int .i64 n.tc, n.wV, n.bV], .agg #[.int .i64 a.h, .int .i64 a.w, .int .i64 a.c], .agg #[.int .i64 b.h, .int .i64 b.w, .int .i64 b.c]] w fun e w' => e = .returned (besideZ a b).v ∧ Ext w w' := by
  obtain ⟨h1, h2, h3, h4, h5, h6⟩ := Sz.bounds ha
  obtain ⟨k1, k2, k3, k4, k5, k6⟩ := Sz.bounds hb
  clear ha hb
  by_cases d1 : a.h = b.h
  · by_cases d2 : a.w = b.w
    · have HS : Hid (besideZ a b = ⟨a.h, a.w, a.c + b.c⟩) := by show _ = _; unfold besideZ; rw [if_pos ⟨d1, d2⟩]
      go_enter Try.func89, Try.ntmps89
      go_wp2
      refine bodyPost_ret (v := .agg _) (results_cell_row Try.results89 _ _ (w.heap.size + 1 + 1 + 1) 42 _ (0, 0) _ rfl (blk3 _ _ _ _ _ _).1 (by kernel_rfl : Try.prog.underlying 42 = some (.struct (Try.prog.fieldsOf 42))) rfl (by kernel_rfl)) rfl ?_
      exact ⟨by rw [HS.out]; simp only [Sz.v, d1, d2], (blk3 _ _ _ _ _ _).2⟩
    · have HS : Hid (besideZ a b = ⟨0, 0, 0⟩) := by show _ = _; unfold besideZ; rw [if_neg (fun h => d2 h.2)]
      go_enter Try.func89, Try.ntmps89
      go_wp2
      refine bodyPost_ret (v := .agg _) (results_cell_row Try.results89 _ _ (w.heap.size + 1 + 1 + 1) 42 _ (0, 0) _ rfl (blk3 _ _ _ _ _ _).1 (by kernel_rfl : Try.prog.underlying 42 = some (.struct (Try.prog.fieldsOf 42))) rfl (by kernel_rfl)) rfl ?_
      exact ⟨by rw [HS.out]; rfl, (blk3 _ _ _ _ _ _).2⟩
  · have HS : Hid (besideZ a b = ⟨0, 0, 0⟩) := by show _ = _; unfold besideZ; rw [if_neg (fun h => d1 h.1)]
    go_enter Try.func89, Try.ntmps89
    go_wp2
    refine bodyPost_ret (v := .agg _) (results_cell_row Try.results89 _ _ (w.heap.size + 1 + 1 + 1) 42 _ (0, 0) _ rfl (blk3 _ _ _ _ _ _).1 (by kernel_rfl : Try.prog.underlying 42 = some (.struct (Try.prog.fieldsOf 42))) rfl (by kernel_rfl)) rfl ?_
    exact ⟨by rw [HS.out]; rfl, (blk3 _ _ _ _ _ _).2⟩

end Go.Proofs.Ytmddlhfahfelpaa
