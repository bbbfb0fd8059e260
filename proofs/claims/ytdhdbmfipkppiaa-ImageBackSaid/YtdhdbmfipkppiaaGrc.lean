/- Package graph: the functions of the kinds of nodes: which shape is made, how many weights there are. -/
import Derived.Test.YtdhdbmfipkppiaaGrb
namespace Go.Proofs.Ytdhdbmfipkppiaa
set_option linter.unusedSimpArgs false
set_option linter.unusedVariables false
set_option linter.unnecessarySimpa false
open Go.RowKit

def Sz.zero : Sz := ⟨0, 0, 0⟩

/-- What is known ahead of a call of three: the boxes of a node and two shapes, and that of the result. -/
structure Box3 (w W : World) (n : Nd) (a b : Sz) : Prop where
  n : Blk W w.heap.size #[.int .i64 n.op, n.inV, .int .i64 n.k, .int .i64 n.st, .int .i64 n.pad, .int .i64 n.out, .int .i64 n.mul, .int .i64 n.sh, .int .i64 n.zero, .int .i64 n.th, .int .i64 n.tw, .int .i64 n.tc, n.wV, n.bV] 40
  a : Blk W (w.heap.size + 1) #[.int .i64 a.h, .int .i64 a.w, .int .i64 a.c] 36
  b : Blk W (w.heap.size + 1 + 1) #[.int .i64 b.h, .int .i64 b.w, .int .i64 b.c] 36
  r : Blk W (w.heap.size + 1 + 1 + 1) #[.int .i64 0, .int .i64 0, .int .i64 0] 36
  e : Ext w W

theorem box3 (w : World) (n : Nd) (a b : Sz) : Box3 w ((((w.alloc (.cells #[.int .i64 n.op, n.inV, .int .i64 n.k, .int .i64 n.st, .int .i64 n.pad, .int .i64 n.out, .int .i64 n.mul, .int .i64 n.sh, .int .i64 n.zero, .int .i64 n.th, .int .i64 n.tw, .int .i64 n.tc, n.wV, n.bV] 40)).alloc (.cells #[.int .i64 a.h, .int .i64 a.w, .int .i64 a.c] 36)).alloc (.cells #[.int .i64 b.h, .int .i64 b.w, .int .i64 b.c] 36)).alloc (.cells #[.int .i64 0, .int .i64 0, .int .i64 0] 36)) n a b := by
  have e1 := ext_alloc w (.cells #[.int .i64 n.op, n.inV, .int .i64 n.k, .int .i64 n.st, .int .i64 n.pad, .int .i64 n.out, .int .i64 n.mul, .int .i64 n.sh, .int .i64 n.zero, .int .i64 n.th, .int .i64 n.tw, .int .i64 n.tc, n.wV, n.bV] 40)
  have b1 := Blk.new w #[.int .i64 n.op, n.inV, .int .i64 n.k, .int .i64 n.st, .int .i64 n.pad, .int .i64 n.out, .int .i64 n.mul, .int .i64 n.sh, .int .i64 n.zero, .int .i64 n.th, .int .i64 n.tw, .int .i64 n.tc, n.wV, n.bV] 40
  have z1 : (w.alloc (.cells #[.int .i64 n.op, n.inV, .int .i64 n.k, .int .i64 n.st, .int .i64 n.pad, .int .i64 n.out, .int .i64 n.mul, .int .i64 n.sh, .int .i64 n.zero, .int .i64 n.th, .int .i64 n.tw, .int .i64 n.tc, n.wV, n.bV] 40)).heap.size = w.heap.size + 1 := by simp
  generalize w.alloc (.cells #[.int .i64 n.op, n.inV, .int .i64 n.k, .int .i64 n.st, .int .i64 n.pad, .int .i64 n.out, .int .i64 n.mul, .int .i64 n.sh, .int .i64 n.zero, .int .i64 n.th, .int .i64 n.tw, .int .i64 n.tc, n.wV, n.bV] 40) = w1 at *
  have e2 := ext_alloc w1 (.cells #[.int .i64 a.h, .int .i64 a.w, .int .i64 a.c] 36)
  have b2 := Blk.new w1 #[.int .i64 a.h, .int .i64 a.w, .int .i64 a.c] 36
  have z2 : (w1.alloc (.cells #[.int .i64 a.h, .int .i64 a.w, .int .i64 a.c] 36)).heap.size = w.heap.size + 1 + 1 := by simp [z1]
  rw [z1] at b2
  generalize w1.alloc (.cells #[.int .i64 a.h, .int .i64 a.w, .int .i64 a.c] 36) = w2 at *
  have e3 := ext_alloc w2 (.cells #[.int .i64 b.h, .int .i64 b.w, .int .i64 b.c] 36)
  have b3 := Blk.new w2 #[.int .i64 b.h, .int .i64 b.w, .int .i64 b.c] 36
  have z3 : (w2.alloc (.cells #[.int .i64 b.h, .int .i64 b.w, .int .i64 b.c] 36)).heap.size = w.heap.size + 1 + 1 + 1 := by simp [z2]
  rw [z2] at b3
  generalize w2.alloc (.cells #[.int .i64 b.h, .int .i64 b.w, .int .i64 b.c] 36) = w3 at *
  have e4 := ext_alloc w3 (.cells #[.int .i64 0, .int .i64 0, .int .i64 0] 36)
  have b4 := Blk.new w3 #[.int .i64 0, .int .i64 0, .int .i64 0] 36
  rw [z3] at b4
  exact ⟨((b1.ext e2).ext e3).ext e4, (b2.ext e3).ext e4, b3.ext e4, b4, ((e1.trans e2).trans e3).trans e4⟩

theorem ext_setRow {w W : World} {b : Nat} (h : Ext w W) (cs : Array Value) (hb : w.heap.size ≤ b) : Ext w (W.setRow b cs) := Below.grown h (setRow_grown W b cs) h.size (fun k hk => by cases hk; exact hb)

set_option maxRecDepth 4000 in
theorem conv_made (n : Nd) (a b : Sz) (w : World) : Calls Try.prog 137 #[.agg #[.int .i64 n.op, n.inV, .int .i64 n.k, .int .i64 n.st, .int .i64 n.pad, .int .i64 n.out, .int .i64 n.mul, .int .i64 n.sh, .int .i64 n.zero, .int .i64 n.th, .int .i64 n.tw, .int .i64 n.tc, n.wV, n.bV], .agg #[.int .i64 a.h, .int .i64 a.w, .int .i64 a.c], .agg #[.int .i64 b.h, .int .i64 b.w, .int .i64 b.c]] w fun e w' => e = .returned (.agg #[.int .i64 (outZ a.h n.k n.st n.pad), .int .i64 (outZ a.w n.k n.st n.pad), .int .i64 n.out]) ∧ Ext w w' := by
  have HB := box3 w n a b
  have hc := slid_calls n a n.out
  go_enter Try.func137, Try.ntmps137
  go_wp2_with fail
  generalize World.alloc (World.alloc (World.alloc (World.alloc w _) _) _) _ = w1 at *
  refine (hc w1).mono ?_
  rintro e w' ⟨rfl, h1⟩
  have hr := HB.r.ext h1
  have hx := ext_setRow (HB.e.trans h1) #[.int .i64 (outZ a.h n.k n.st n.pad), .int .i64 (outZ a.w n.k n.st n.pad), .int .i64 n.out] (show w.heap.size ≤ w.heap.size + 1 + 1 + 1 by omega)
  go_wp2_with (refine wpList_store_row rfl 36 _ _ rfl (w.heap.size + 1 + 1 + 1) #[.int .i64 (outZ a.h n.k n.st n.pad), .int .i64 (outZ a.w n.k n.st n.pad), .int .i64 n.out] rfl rfl 36 _ hr (by kernel_rfl) rfl (by simp [Value.oneCell']) ?_)
  refine bodyPost_ret (v := .agg _) (results_cell_row Try.results137 _ _ (w.heap.size + 1 + 1 + 1) 36 _ (0, 0) _ rfl (setRow_heap _ _ _ _ _ _ hr) (by kernel_rfl : Try.prog.underlying 36 = some (.struct (Try.prog.fieldsOf 36))) rfl (by kernel_rfl)) rfl ?_
  exact ⟨rfl, hx⟩

set_option maxRecDepth 4000 in
theorem pooled_made (n : Nd) (a b : Sz) (w : World) : Calls Try.prog 140 #[.agg #[.int .i64 n.op, n.inV, .int .i64 n.k, .int .i64 n.st, .int .i64 n.pad, .int .i64 n.out, .int .i64 n.mul, .int .i64 n.sh, .int .i64 n.zero, .int .i64 n.th, .int .i64 n.tw, .int .i64 n.tc, n.wV, n.bV], .agg #[.int .i64 a.h, .int .i64 a.w, .int .i64 a.c], .agg #[.int .i64 b.h, .int .i64 b.w, .int .i64 b.c]] w fun e w' => e = .returned (.agg #[.int .i64 (outZ a.h n.k n.st n.pad), .int .i64 (outZ a.w n.k n.st n.pad), .int .i64 a.c]) ∧ Ext w w' := by
  have HB := box3 w n a b
  have hc := slid_calls n a a.c
  go_enter Try.func140, Try.ntmps140
  go_wp2_with fail
  generalize World.alloc (World.alloc (World.alloc (World.alloc w _) _) _) _ = w1 at *
  refine (hc w1).mono ?_
  rintro e w' ⟨rfl, h1⟩
  have hr := HB.r.ext h1
  have hx := ext_setRow (HB.e.trans h1) #[.int .i64 (outZ a.h n.k n.st n.pad), .int .i64 (outZ a.w n.k n.st n.pad), .int .i64 a.c] (show w.heap.size ≤ w.heap.size + 1 + 1 + 1 by omega)
  go_wp2_with (refine wpList_store_row rfl 36 _ _ rfl (w.heap.size + 1 + 1 + 1) #[.int .i64 (outZ a.h n.k n.st n.pad), .int .i64 (outZ a.w n.k n.st n.pad), .int .i64 a.c] rfl rfl 36 _ hr (by kernel_rfl) rfl (by simp [Value.oneCell']) ?_)
  refine bodyPost_ret (v := .agg _) (results_cell_row Try.results140 _ _ (w.heap.size + 1 + 1 + 1) 36 _ (0, 0) _ rfl (setRow_heap _ _ _ _ _ _ hr) (by kernel_rfl : Try.prog.underlying 36 = some (.struct (Try.prog.fieldsOf 36))) rfl (by kernel_rfl)) rfl ?_
  exact ⟨rfl, hx⟩

theorem blk3 (w : World) (x y z : Obj) (cs : Array Value) (T : TypeId) : Blk ((((w.alloc x).alloc y).alloc z).alloc (.cells cs T)) (w.heap.size + 1 + 1 + 1) cs T ∧ Ext w ((((w.alloc x).alloc y).alloc z).alloc (.cells cs T)) := by
  refine ⟨?_, (((ext_alloc _ _).trans (ext_alloc _ _)).trans (ext_alloc _ _)).trans (ext_alloc _ _)⟩
  have := Blk.new (((w.alloc x).alloc y).alloc z) cs T
  rwa [show (((w.alloc x).alloc y).alloc z).heap.size = w.heap.size + 1 + 1 + 1 from by simp] at this

def zSz : Value := .agg #[.int .i64 0, .int .i64 0, .int .i64 0]

theorem full_made (n : Nd) (a b : Sz) (w : World) : Calls Try.prog 142 #[.agg #[.int .i64 n.op, n.inV, .int .i64 n.k, .int .i64 n.st, .int .i64 n.pad, .int .i64 n.out, .int .i64 n.mul, .int .i64 n.sh, .int .i64 n.zero, .int .i64 n.th, .int .i64 n.tw, .int .i64 n.tc, n.wV, n.bV], .agg #[.int .i64 a.h, .int .i64 a.w, .int .i64 a.c], .agg #[.int .i64 b.h, .int .i64 b.w, .int .i64 b.c]] w fun e w' => e = .returned (.agg #[.int .i64 1, .int .i64 1, .int .i64 n.out]) ∧ Ext w w' := by
  go_enter Try.func142, Try.ntmps142
  go_wp2
  refine bodyPost_ret (v := .agg _) (results_cell_row Try.results142 _ _ (w.heap.size + 1 + 1 + 1) 36 _ (0, 0) _ rfl (blk3 _ _ _ _ _ _).1 (by kernel_rfl : Try.prog.underlying 36 = some (.struct (Try.prog.fieldsOf 36))) rfl (by kernel_rfl)) rfl ?_
  exact ⟨rfl, (blk3 _ _ _ _ _ _).2⟩

theorem first_made (n : Nd) (a b : Sz) (w : World) : Calls Try.prog 135 #[.agg #[.int .i64 n.op, n.inV, .int .i64 n.k, .int .i64 n.st, .int .i64 n.pad, .int .i64 n.out, .int .i64 n.mul, .int .i64 n.sh, .int .i64 n.zero, .int .i64 n.th, .int .i64 n.tw, .int .i64 n.tc, n.wV, n.bV], .agg #[.int .i64 a.h, .int .i64 a.w, .int .i64 a.c], .agg #[.int .i64 b.h, .int .i64 b.w, .int .i64 b.c]] w fun e w' => e = .returned (.agg #[.int .i64 a.h, .int .i64 a.w, .int .i64 a.c]) ∧ Ext w w' := by
  go_enter Try.func135, Try.ntmps135
  go_wp2
  refine bodyPost_ret (v := .agg _) (results_cell_row Try.results135 _ _ (w.heap.size + 1 + 1 + 1) 36 _ (0, 0) _ rfl (blk3 _ _ _ _ _ _).1 (by kernel_rfl : Try.prog.underlying 36 = some (.struct (Try.prog.fieldsOf 36))) rfl (by kernel_rfl)) rfl ?_
  exact ⟨rfl, (blk3 _ _ _ _ _ _).2⟩

theorem pad_made (n : Nd) (a b : Sz) (w : World) (ha : a.ok = true) : Calls Try.prog 145 #[.agg #[.int .i64 n.op, n.inV, .int .i64 n.k, .int .i64 n.st, .int .i64 n.pad, .int .i64 n.out, .int .i64 n.mul, .int .i64 n.sh, .int .i64 n.zero, .int .i64 n.th, .int .i64 n.tw, .int .i64 n.tc, n.wV, n.bV], .agg #[.int .i64 a.h, .int .i64 a.w, .int .i64 a.c], .agg #[.int .i64 b.h, .int .i64 b.w, .int .i64 b.c]] w fun e w' => e = .returned (.agg #[.int .i64 (a.h + 2), .int .i64 (a.w + 2), .int .i64 a.c]) ∧ Ext w w' := by
  obtain ⟨h1, h2, h3, h4, h5, h6⟩ := Sz.bounds ha
  clear ha
  go_enter Try.func145, Try.ntmps145
  go_wp2
  refine bodyPost_ret (v := .agg _) (results_cell_row Try.results145 _ _ (w.heap.size + 1 + 1 + 1) 36 _ (0, 0) _ rfl (blk3 _ _ _ _ _ _).1 (by kernel_rfl : Try.prog.underlying 36 = some (.struct (Try.prog.fieldsOf 36))) rfl (by kernel_rfl)) rfl ?_
  exact ⟨rfl, (blk3 _ _ _ _ _ _).2⟩

def sameZ (a b : Sz) : Sz := if a = b then a else ⟨0, 0, 0⟩
set_option maxHeartbeats 800000 in
theorem same_made (n : Nd) (a b : Sz) (w : World) : Calls Try.prog 144 #[.agg #[.int .i64 n.op, n.inV, .int .i64 n.k, .int .i64 n.st, .int .i64 n.pad, .int .i64 n.out, .int .i64 n.mul, .int .i64 n.sh, .int .i64 n.zero, .int .i64 n.th, .int .i64 n.tw, .int .i64 n.tc, n.wV, n.bV], .agg #[.int .i64 a.h, .int .i64 a.w, .int .i64 a.c], .agg #[.int .i64 b.h, .int .i64 b.w, .int .i64 b.c]] w fun e w' => e = .returned (sameZ a b).v ∧ Ext w w' := by
  by_cases hab : a = b
  · subst hab
    have HS : Hid (sameZ a a = a) := by show _ = _; unfold sameZ; rw [if_pos rfl]
    go_enter Try.func144, Try.ntmps144
    go_wp2
    refine bodyPost_ret (v := .agg _) (results_cell_row Try.results144 _ _ (w.heap.size + 1 + 1 + 1) 36 _ (0, 0) _ rfl (blk3 _ _ _ _ _ _).1 (by kernel_rfl : Try.prog.underlying 36 = some (.struct (Try.prog.fieldsOf 36))) rfl (by kernel_rfl)) rfl ?_
    exact ⟨by rw [HS.out]; rfl, (blk3 _ _ _ _ _ _).2⟩
  · have HS : Hid (sameZ a b = ⟨0, 0, 0⟩) := by show _ = _; unfold sameZ; rw [if_neg hab]
    have hd : ¬ (a.h = b.h ∧ a.w = b.w ∧ a.c = b.c) := fun ⟨h1, h2, h3⟩ => hab (by cases a; cases b; simp_all)
    clear hab
    by_cases d1 : a.h = b.h
    · by_cases d2 : a.w = b.w
      · have d3 : ¬ a.c = b.c := fun h => hd ⟨d1, d2, h⟩
        clear hd
        go_enter Try.func144, Try.ntmps144
        go_wp2
        refine bodyPost_ret (v := .agg _) (results_cell_row Try.results144 _ _ (w.heap.size + 1 + 1 + 1) 36 _ (0, 0) _ rfl (blk3 _ _ _ _ _ _).1 (by kernel_rfl : Try.prog.underlying 36 = some (.struct (Try.prog.fieldsOf 36))) rfl (by kernel_rfl)) rfl ?_
        exact ⟨by rw [HS.out]; rfl, (blk3 _ _ _ _ _ _).2⟩
      · clear hd
        go_enter Try.func144, Try.ntmps144
        go_wp2
        refine bodyPost_ret (v := .agg _) (results_cell_row Try.results144 _ _ (w.heap.size + 1 + 1 + 1) 36 _ (0, 0) _ rfl (blk3 _ _ _ _ _ _).1 (by kernel_rfl : Try.prog.underlying 36 = some (.struct (Try.prog.fieldsOf 36))) rfl (by kernel_rfl)) rfl ?_
        exact ⟨by rw [HS.out]; rfl, (blk3 _ _ _ _ _ _).2⟩
    · clear hd
      go_enter Try.func144, Try.ntmps144
      go_wp2
      refine bodyPost_ret (v := .agg _) (results_cell_row Try.results144 _ _ (w.heap.size + 1 + 1 + 1) 36 _ (0, 0) _ rfl (blk3 _ _ _ _ _ _).1 (by kernel_rfl : Try.prog.underlying 36 = some (.struct (Try.prog.fieldsOf 36))) rfl (by kernel_rfl)) rfl ?_
      exact ⟨by rw [HS.out]; rfl, (blk3 _ _ _ _ _ _).2⟩

def besideZ (a b : Sz) : Sz := if a.h = b.h ∧ a.w = b.w then ⟨a.h, a.w, a.c + b.c⟩ else ⟨0, 0, 0⟩
set_option maxHeartbeats 800000 in
theorem beside_made (n : Nd) (a b : Sz) (w : World) (ha : a.ok = true) (hb : b.ok = true) : Calls Try.prog 146 #[.agg #[.int .i64 n.op, n.inV, .int .i64 n.k, .int .i64 n.st, .int .i64 n.pad, .int .i64 n.out, .int .i64 n.mul, .int .i64 n.sh, .int .i64 n.zero, .int .i64 n.th, .int .i64 n.tw, .int .i64 n.tc, n.wV, n.bV], .agg #[.int .i64 a.h, .int .i64 a.w, .int .i64 a.c], .agg #[.int .i64 b.h, .int .i64 b.w, .int .i64 b.c]] w fun e w' => e = .returned (besideZ a b).v ∧ Ext w w' := by
  obtain ⟨h1, h2, h3, h4, h5, h6⟩ := Sz.bounds ha
  obtain ⟨k1, k2, k3, k4, k5, k6⟩ := Sz.bounds hb
  clear ha hb
  by_cases d1 : a.h = b.h
  · by_cases d2 : a.w = b.w
    · have HS : Hid (besideZ a b = ⟨a.h, a.w, a.c + b.c⟩) := by show _ = _; unfold besideZ; rw [if_pos ⟨d1, d2⟩]
      go_enter Try.func146, Try.ntmps146
      go_wp2
      refine bodyPost_ret (v := .agg _) (results_cell_row Try.results146 _ _ (w.heap.size + 1 + 1 + 1) 36 _ (0, 0) _ rfl (blk3 _ _ _ _ _ _).1 (by kernel_rfl : Try.prog.underlying 36 = some (.struct (Try.prog.fieldsOf 36))) rfl (by kernel_rfl)) rfl ?_
      exact ⟨by rw [HS.out]; simp only [Sz.v, d1, d2], (blk3 _ _ _ _ _ _).2⟩
    · have HS : Hid (besideZ a b = ⟨0, 0, 0⟩) := by show _ = _; unfold besideZ; rw [if_neg (fun h => d2 h.2)]
      go_enter Try.func146, Try.ntmps146
      go_wp2
      refine bodyPost_ret (v := .agg _) (results_cell_row Try.results146 _ _ (w.heap.size + 1 + 1 + 1) 36 _ (0, 0) _ rfl (blk3 _ _ _ _ _ _).1 (by kernel_rfl : Try.prog.underlying 36 = some (.struct (Try.prog.fieldsOf 36))) rfl (by kernel_rfl)) rfl ?_
      exact ⟨by rw [HS.out]; rfl, (blk3 _ _ _ _ _ _).2⟩
  · have HS : Hid (besideZ a b = ⟨0, 0, 0⟩) := by show _ = _; unfold besideZ; rw [if_neg (fun h => d1 h.1)]
    go_enter Try.func146, Try.ntmps146
    go_wp2
    refine bodyPost_ret (v := .agg _) (results_cell_row Try.results146 _ _ (w.heap.size + 1 + 1 + 1) 36 _ (0, 0) _ rfl (blk3 _ _ _ _ _ _).1 (by kernel_rfl : Try.prog.underlying 36 = some (.struct (Try.prog.fieldsOf 36))) rfl (by kernel_rfl)) rfl ?_
    exact ⟨by rw [HS.out]; rfl, (blk3 _ _ _ _ _ _).2⟩

end Go.Proofs.Ytdhdbmfipkppiaa
