/- Package graph: the shape of OpReshape; how many weights and biases a node has. -/
import Derived.Test.YtmddlhfahfelpaaGrc
set_option linter.unusedSimpArgs false
set_option linter.unusedVariables false
set_option linter.unnecessarySimpa false
namespace Go.Proofs.Ytmddlhfahfelpaa
open Go.RowKit

def Nd.to (n : Nd) : Sz := ⟨n.th, n.tw, n.tc⟩
def anewZ (n : Nd) (a : Sz) : Sz := if sizeZ n.to = sizeZ a then n.to else ⟨0, 0, 0⟩

set_option maxRecDepth 4000 in
set_option maxHeartbeats 800000 in
theorem anew_made (n : Nd) (a b : Sz) (w : World) : Calls Try.prog 90 #[.agg #[.int .i64 n.op, n.inV, .int .i64 n.k, .int .i64 n.st, .int .i64 n.pad, .int .i64 n.out, .int .i64 n.mul, .int .i64 n.sh, .int .i64 n.zero, .int .i64 n.th, .int .i64 n.tw, .int .i64 n.tc, n.wV, n.bV], .agg #[.int .i64 a.h, .int .i64 a.w, .int .i64 a.c], .agg #[.int .i64 b.h, .int .i64 b.w, .int .i64 b.c]] w fun e w' => e = .returned (anewZ n a).v ∧ Ext w w' := by
  have HB := box3 w n a b
  have hn := fun W => size_calls ⟨n.th, n.tw, n.tc⟩ W
  have ha := fun W => size_calls a W
  simp only at hn
  have HA : Hid (∀ x y, sizeZ ⟨n.th, n.tw, n.tc⟩ = x → sizeZ a = y → anewZ n a = if x = y then n.to else ⟨0, 0, 0⟩) := fun x y h1 h2 => by unfold anewZ; rw [show sizeZ n.to = x from h1, h2]
  obtain ⟨x, hx⟩ : ∃ x, sizeZ ⟨n.th, n.tw, n.tc⟩ = x := ⟨_, rfl⟩
  obtain ⟨y, hy⟩ : ∃ y, sizeZ a = y := ⟨_, rfl⟩
  rw [hx] at hn
  rw [hy] at ha
  have HA1 := Lib.hid (HA.out x y hx hy)
  clear HA hx hy
  go_enter Try.func90, Try.ntmps90
  go_wp2_with fail
  generalize World.alloc (World.alloc (World.alloc (World.alloc w _) _) _) _ = w1 at *
  refine wp_region_X [0, 1, 3] [⟨2, [], ME.is (.int .i64 x)⟩, ⟨4, [], ME.is (.int .i64 y)⟩, ⟨5, [2, 4], ME.is (.bool (!decide (x = y)))⟩] (by kernel_rfl) (by kernel_rfl) (fun _ _ d _ _ h => by cases d <;> exact h) (fun w2 hE => ?_)
  have c9 : ∀ W, Ext w2 W → W.cell? ⟨w.heap.size, 9, none⟩ = some (.int .i64 n.th) := fun W h => ((HB.n.ext hE).ext h).cell 9
  have c10 : ∀ W, Ext w2 W → W.cell? ⟨w.heap.size, 10, none⟩ = some (.int .i64 n.tw) := fun W h => ((HB.n.ext hE).ext h).cell 10
  have c11 : ∀ W, Ext w2 W → W.cell? ⟨w.heap.size, 11, none⟩ = some (.int .i64 n.tc) := fun W h => ((HB.n.ext hE).ext h).cell 11
  have d0 : ∀ W, Ext w2 W → W.cell? ⟨w.heap.size + 1, 0, none⟩ = some (.int .i64 a.h) := fun W h => ((HB.a.ext hE).ext h).cell 0
  have d1 : ∀ W, Ext w2 W → W.cell? ⟨w.heap.size + 1, 1, none⟩ = some (.int .i64 a.w) := fun W h => ((HB.a.ext hE).ext h).cell 1
  have d2 : ∀ W, Ext w2 W → W.cell? ⟨w.heap.size + 1, 2, none⟩ = some (.int .i64 a.c) := fun W h => ((HB.a.ext hE).ext h).cell 2
  repeat (first | (refine wpP_pure rfl (by rfl) (fun W hW => by go_simp; with_reducible rfl) ?_; simp only [Act.put, List.setIfInBounds_toArray, List.set_cons_zero, List.set_cons_succ]) | (refine wpP_skip rfl (by rfl) ?_; simp only [Act.put, List.setIfInBounds_toArray, List.set_cons_zero, List.set_cons_succ]))
  refine ⟨?_, fun W hR => ?_⟩
  · simp only [rSteps, rNeed, rStep, both_top, tie, TP.top, TP.mine, MP.top, MP.mine, MT.mine, MT.tied, MT.done, MT.is, List.reverse_cons, List.reverse_nil, List.nil_append, List.cons_append, ME.is, MP.is, MP.done, ME.ints, ME.row, Region.wanted, yielded, List.getElem?_toArray, phi, dstAt, List.getElem?_cons_zero, List.getElem?_cons_succ, Option.bind_some, Act.put, List.setIfInBounds_toArray, List.set_cons_zero, List.set_cons_succ, and_true, forall_eq, reduceIte, Nat.reduceEqDiff, beq_iff_eq, Option.some.injEq, Bool.false_eq_true, reduceCtorEq, implies_true, true_and]
    refine ⟨fun W hR => ?_, fun W hR => ?_, fun W hR => ?_⟩
    · go_simp
      refine (hn W).mono ?_
      rintro e w' ⟨rfl, h1⟩
      exact ⟨_, rfl, h1, rfl⟩
    · go_simp
      refine (ha W).mono ?_
      rintro e w' ⟨rfl, h1⟩
      exact ⟨_, rfl, h1, rfl⟩
    · by_cases h : x = y
      · go_simp
        exact ⟨_, rfl, Ext.refl _, by simp [h]⟩
      · go_simp
        exact ⟨_, rfl, Ext.refl _, by simp [h]⟩
  · simp only [rFin, envAt, TP.top, TP.mine, MP.top, MP.mine, MT.mine, MT.tied, MT.done, MT.is, List.map_cons, List.map_nil, true_implies, List.head?_cons, ME.is, MP.is, MP.done, ME.ints, ME.row, phi, dstAt, List.getElem?_cons_zero, List.getElem?_cons_succ, Option.bind_some, Act.put, List.setIfInBounds_toArray, List.set_cons_zero, List.set_cons_succ, and_true, forall_eq, reduceIte, Nat.reduceEqDiff, beq_iff_eq, Option.some.injEq, Bool.false_eq_true, reduceCtorEq, implies_true, true_and]
    have hr := HB.r.ext (hE.trans hR)
    have hnb := HB.n.ext (hE.trans hR)
    have hEE := HB.e.trans (hE.trans hR)
    clear c9 c10 c11 d0 d1 d2 hn ha
    clear HB hE hR
    have c9 := hnb.cell 9
    have c10 := hnb.cell 10
    have c11 := hnb.cell 11
    clear hnb
    by_cases h : x = y
    · have HZ : Hid (anewZ n a = n.to) := by show _ = _; rw [HA1.out, if_pos h]
      have hd : (!decide (x = y)) = false := by simp [h]
      have hx := ext_setRow hEE #[.int .i64 n.th, .int .i64 n.tw, .int .i64 n.tc] (show w.heap.size ≤ w.heap.size + 1 + 1 + 1 by omega)
      clear h HA1
      rw [hd]
      clear hd
      go_wp2_with (refine wpList_store_row rfl 42 _ _ rfl (w.heap.size + 1 + 1 + 1) #[.int .i64 n.th, .int .i64 n.tw, .int .i64 n.tc] rfl rfl 42 _ hr (by kernel_rfl) rfl (by simp [Value.oneCell']) ?_)
      refine bodyPost_ret (v := .agg _) (results_cell_row Try.results90 _ _ (w.heap.size + 1 + 1 + 1) 42 _ (0, 0) _ rfl (setRow_heap _ _ _ _ _ _ hr) (by kernel_rfl : Try.prog.underlying 42 = some (.struct (Try.prog.fieldsOf 42))) rfl (by kernel_rfl)) rfl ?_
      exact ⟨by rw [HZ.out]; rfl, hx⟩
    · have HZ : Hid (anewZ n a = ⟨0, 0, 0⟩) := by show _ = _; rw [HA1.out, if_neg h]
      have hd : (!decide (x = y)) = true := by simp [h]
      have hx := ext_setRow hEE #[.int .i64 0, .int .i64 0, .int .i64 0] (show w.heap.size ≤ w.heap.size + 1 + 1 + 1 by omega)
      clear h HA1
      rw [hd]
      clear hd
      go_wp2_with (refine wpList_store_row rfl 42 _ _ rfl (w.heap.size + 1 + 1 + 1) #[.int .i64 0, .int .i64 0, .int .i64 0] rfl rfl 42 _ hr (by kernel_rfl) rfl (by simp [Value.oneCell']) ?_)
      refine bodyPost_ret (v := .agg _) (results_cell_row Try.results90 _ _ (w.heap.size + 1 + 1 + 1) 42 _ (0, 0) _ rfl (setRow_heap _ _ _ _ _ _ hr) (by kernel_rfl : Try.prog.underlying 42 = some (.struct (Try.prog.fieldsOf 42))) rfl (by kernel_rfl)) rfl ?_
      exact ⟨by rw [HZ.out]; rfl, hx⟩

theorem bare_w (n : Nd) (a : Sz) (w : World) : Calls Try.prog 79 #[.agg #[.int .i64 n.op, n.inV, .int .i64 n.k, .int .i64 n.st, .int .i64 n.pad, .int .i64 n.out, .int .i64 n.mul, .int .i64 n.sh, .int .i64 n.zero, .int .i64 n.th, .int .i64 n.tw, .int .i64 n.tc, n.wV, n.bV], .agg #[.int .i64 a.h, .int .i64 a.w, .int .i64 a.c]] w fun e w' => e = .returned (.tuple #[.int .i64 0, .int .i64 0]) ∧ Ext w w' := by
  go_enter Try.func79, Try.ntmps79
  go_wp2
  go_ret2
  exact ⟨rfl, (ext_alloc _ _).trans (ext_alloc _ _)⟩

theorem table_w (n : Nd) (a : Sz) (w : World) : Calls Try.prog 91 #[.agg #[.int .i64 n.op, n.inV, .int .i64 n.k, .int .i64 n.st, .int .i64 n.pad, .int .i64 n.out, .int .i64 n.mul, .int .i64 n.sh, .int .i64 n.zero, .int .i64 n.th, .int .i64 n.tw, .int .i64 n.tc, n.wV, n.bV], .agg #[.int .i64 a.h, .int .i64 a.w, .int .i64 a.c]] w fun e w' => e = .returned (.tuple #[.int .i64 256, .int .i64 0]) ∧ Ext w w' := by
  go_enter Try.func91, Try.ntmps91
  go_wp2
  go_ret2
  exact ⟨rfl, (ext_alloc _ _).trans (ext_alloc _ _)⟩

/-- The boxes of a node and a shape. -/
structure Box2 (w W : World) (n : Nd) (a : Sz) : Prop where
  n : Blk W w.heap.size #[.int .i64 n.op, n.inV, .int .i64 n.k, .int .i64 n.st, .int .i64 n.pad, .int .i64 n.out, .int .i64 n.mul, .int .i64 n.sh, .int .i64 n.zero, .int .i64 n.th, .int .i64 n.tw, .int .i64 n.tc, n.wV, n.bV] 51
  a : Blk W (w.heap.size + 1) #[.int .i64 a.h, .int .i64 a.w, .int .i64 a.c] 42
  e : Ext w W
theorem box2 (w : World) (n : Nd) (a : Sz) : Box2 w ((w.alloc (.cells #[.int .i64 n.op, n.inV, .int .i64 n.k, .int .i64 n.st, .int .i64 n.pad, .int .i64 n.out, .int .i64 n.mul, .int .i64 n.sh, .int .i64 n.zero, .int .i64 n.th, .int .i64 n.tw, .int .i64 n.tc, n.wV, n.bV] 51)).alloc (.cells #[.int .i64 a.h, .int .i64 a.w, .int .i64 a.c] 42)) n a := by
  have b2 := Blk.new (w.alloc (.cells #[.int .i64 n.op, n.inV, .int .i64 n.k, .int .i64 n.st, .int .i64 n.pad, .int .i64 n.out, .int .i64 n.mul, .int .i64 n.sh, .int .i64 n.zero, .int .i64 n.th, .int .i64 n.tw, .int .i64 n.tc, n.wV, n.bV] 51)) #[.int .i64 a.h, .int .i64 a.w, .int .i64 a.c] 42
  rw [show (w.alloc (.cells #[.int .i64 n.op, n.inV, .int .i64 n.k, .int .i64 n.st, .int .i64 n.pad, .int .i64 n.out, .int .i64 n.mul, .int .i64 n.sh, .int .i64 n.zero, .int .i64 n.th, .int .i64 n.tw, .int .i64 n.tc, n.wV, n.bV] 51)).heap.size = w.heap.size + 1 from by simp] at b2
  exact ⟨(Blk.new _ _ _).ext (ext_alloc _ _), b2, (ext_alloc _ _).trans (ext_alloc _ _)⟩

theorem kk_range {n : Nd} {a : Sz} (ha : a.ok = true) (hk : 1 ≤ n.k ∧ n.k ≤ 3) : (1 ≤ n.k * n.k ∧ n.k * n.k ≤ 9) ∧ (1 ≤ n.k * n.k * a.c ∧ n.k * n.k * a.c ≤ 72) := by
  obtain ⟨h1, h2, h3, h4, h5, h6⟩ := Sz.bounds ha
  have h := mul_range hk.1 hk.2 hk.1 hk.2
  exact ⟨⟨h.1, by omega⟩, mul_range h.1 (by omega : n.k * n.k ≤ 9) h5 h6⟩

set_option maxRecDepth 4000 in
theorem conv_w (n : Nd) (a : Sz) (w : World) (ha : a.ok = true) (hk : 1 ≤ n.k ∧ n.k ≤ 3) (ho : 1 ≤ n.out ∧ n.out ≤ 8) : Calls Try.prog 82 #[.agg #[.int .i64 n.op, n.inV, .int .i64 n.k, .int .i64 n.st, .int .i64 n.pad, .int .i64 n.out, .int .i64 n.mul, .int .i64 n.sh, .int .i64 n.zero, .int .i64 n.th, .int .i64 n.tw, .int .i64 n.tc, n.wV, n.bV], .agg #[.int .i64 a.h, .int .i64 a.w, .int .i64 a.c]] w fun e w' => e = .returned (.tuple #[.int .i64 (n.k * n.k * a.c * n.out), .int .i64 n.out]) ∧ Ext w w' := by
  have HB := box2 w n a
  obtain ⟨r1, r2⟩ := kk_range ha hk
  have r3 := mul_range r2.1 r2.2 ho.1 ho.2
  have m1 : IntKind.i64.wrap (n.k * n.k) = n.k * n.k := IntWalk.i64_in _ (by omega)
  have m2 : IntKind.i64.wrap (n.k * n.k * a.c) = n.k * n.k * a.c := IntWalk.i64_in _ (by omega)
  have m3 : IntKind.i64.wrap (n.k * n.k * a.c * n.out) = n.k * n.k * a.c * n.out := IntWalk.i64_in _ (by omega)
  clear r1 r2 r3 ha
  obtain ⟨x1, h1⟩ : ∃ x, n.k * n.k = x := ⟨_, rfl⟩
  rw [h1] at m1 m2 m3
  obtain ⟨x2, h2⟩ : ∃ x, x1 * a.c = x := ⟨_, rfl⟩
  rw [h2] at m2 m3
  obtain ⟨x3, h3⟩ : ∃ x, x2 * n.out = x := ⟨_, rfl⟩
  rw [h3] at m3
  have m1' : IntKind.i64.wrap (n.k * n.k) = x1 := by rw [h1, m1]
  have m2' : IntKind.i64.wrap (x1 * a.c) = x2 := by rw [h2, m2]
  have m3' : IntKind.i64.wrap (x2 * n.out) = x3 := by rw [h3, m3]
  have HX : Hid (n.k * n.k * a.c * n.out = x3) := by show _ = _; rw [h1, h2, h3]
  clear m1 m2 m3 h1 h2 h3 hk ho
  go_enter Try.func82, Try.ntmps82
  go_wp2_with fail
  generalize World.alloc (World.alloc w _) _ = w1 at *
  refine wp_region_X [0, 1, 2, 3, 4, 5, 6, 7, 8, 9, 10, 11, 12, 13, 14] [] (by kernel_rfl) (by kernel_rfl) (fun _ _ d _ _ h => by cases d <;> exact h) (fun w2 hE => ?_)
  have c2 : ∀ W, Ext w2 W → W.cell? ⟨w.heap.size, 2, none⟩ = some (.int .i64 n.k) := fun W h => ((HB.n.ext hE).ext h).cell 2
  have c5 : ∀ W, Ext w2 W → W.cell? ⟨w.heap.size, 5, none⟩ = some (.int .i64 n.out) := fun W h => ((HB.n.ext hE).ext h).cell 5
  have d2 : ∀ W, Ext w2 W → W.cell? ⟨w.heap.size + 1, 2, none⟩ = some (.int .i64 a.c) := fun W h => ((HB.a.ext hE).ext h).cell 2
  repeat (first | (refine wpP_pure rfl (by rfl) (fun W hW => by go_simp; with_reducible rfl) ?_; simp only [Act.put, List.setIfInBounds_toArray, List.set_cons_zero, List.set_cons_succ]) | (refine wpP_skip rfl (by rfl) ?_; simp only [Act.put, List.setIfInBounds_toArray, List.set_cons_zero, List.set_cons_succ]))
  refine ⟨trivial, fun W hR => ?_⟩
  simp only [rFin, envAt, TP.top, TP.mine, MP.top, MP.mine, MT.mine, MT.tied, MT.done, MT.is, List.map_cons, List.map_nil, true_implies, List.head?_cons, ME.is, MP.is, MP.done, ME.ints, ME.row, phi, dstAt, List.getElem?_cons_zero, List.getElem?_cons_succ, Option.bind_some, Act.put, List.setIfInBounds_toArray, List.set_cons_zero, List.set_cons_succ, and_true, forall_eq, reduceIte, Nat.reduceEqDiff, beq_iff_eq, Option.some.injEq, Bool.false_eq_true, reduceCtorEq, implies_true, true_and]
  go_wp2
  go_ret2
  exact ⟨by rw [HX.out]; rfl, HB.e.trans (hE.trans hR)⟩

set_option maxRecDepth 4000 in
theorem depth_w (n : Nd) (a : Sz) (w : World) (ha : a.ok = true) (hk : 1 ≤ n.k ∧ n.k ≤ 3) : Calls Try.prog 84 #[.agg #[.int .i64 n.op, n.inV, .int .i64 n.k, .int .i64 n.st, .int .i64 n.pad, .int .i64 n.out, .int .i64 n.mul, .int .i64 n.sh, .int .i64 n.zero, .int .i64 n.th, .int .i64 n.tw, .int .i64 n.tc, n.wV, n.bV], .agg #[.int .i64 a.h, .int .i64 a.w, .int .i64 a.c]] w fun e w' => e = .returned (.tuple #[.int .i64 (n.k * n.k * a.c), .int .i64 a.c]) ∧ Ext w w' := by
  have HB := box2 w n a
  obtain ⟨r1, r2⟩ := kk_range ha hk
  have m1 : IntKind.i64.wrap (n.k * n.k) = n.k * n.k := IntWalk.i64_in _ (by omega)
  have m2 : IntKind.i64.wrap (n.k * n.k * a.c) = n.k * n.k * a.c := IntWalk.i64_in _ (by omega)
  clear r1 r2 ha
  obtain ⟨x1, h1⟩ : ∃ x, n.k * n.k = x := ⟨_, rfl⟩
  rw [h1] at m1 m2
  obtain ⟨x2, h2⟩ : ∃ x, x1 * a.c = x := ⟨_, rfl⟩
  rw [h2] at m2
  have m1' : IntKind.i64.wrap (n.k * n.k) = x1 := by rw [h1, m1]
  have m2' : IntKind.i64.wrap (x1 * a.c) = x2 := by rw [h2, m2]
  have HX : Hid (n.k * n.k * a.c = x2) := by show _ = _; rw [h1, h2]
  clear m1 m2 h1 h2 hk
  go_enter Try.func84, Try.ntmps84
  go_wp2_with fail
  generalize World.alloc (World.alloc w _) _ = w1 at *
  refine wp_region_X [0, 1, 2, 3, 4, 5, 6, 7, 8, 9, 10, 11] [] (by kernel_rfl) (by kernel_rfl) (fun _ _ d _ _ h => by cases d <;> exact h) (fun w2 hE => ?_)
  have c2 : ∀ W, Ext w2 W → W.cell? ⟨w.heap.size, 2, none⟩ = some (.int .i64 n.k) := fun W h => ((HB.n.ext hE).ext h).cell 2
  have d2 : ∀ W, Ext w2 W → W.cell? ⟨w.heap.size + 1, 2, none⟩ = some (.int .i64 a.c) := fun W h => ((HB.a.ext hE).ext h).cell 2
  repeat (first | (refine wpP_pure rfl (by rfl) (fun W hW => by go_simp; with_reducible rfl) ?_; simp only [Act.put, List.setIfInBounds_toArray, List.set_cons_zero, List.set_cons_succ]) | (refine wpP_skip rfl (by rfl) ?_; simp only [Act.put, List.setIfInBounds_toArray, List.set_cons_zero, List.set_cons_succ]))
  refine ⟨trivial, fun W hR => ?_⟩
  simp only [rFin, envAt, TP.top, TP.mine, MP.top, MP.mine, MT.mine, MT.tied, MT.done, MT.is, List.map_cons, List.map_nil, true_implies, List.head?_cons, ME.is, MP.is, MP.done, ME.ints, ME.row, phi, dstAt, List.getElem?_cons_zero, List.getElem?_cons_succ, Option.bind_some, Act.put, List.setIfInBounds_toArray, List.set_cons_zero, List.set_cons_succ, and_true, forall_eq, reduceIte, Nat.reduceEqDiff, beq_iff_eq, Option.some.injEq, Bool.false_eq_true, reduceCtorEq, implies_true, true_and]
  go_wp2
  go_ret2
  exact ⟨by rw [HX.out]; rfl, HB.e.trans (hE.trans hR)⟩

set_option maxRecDepth 4000 in
theorem full_w (n : Nd) (a : Sz) (w : World) (ho : 1 ≤ n.out ∧ n.out ≤ 8) : Calls Try.prog 86 #[.agg #[.int .i64 n.op, n.inV, .int .i64 n.k, .int .i64 n.st, .int .i64 n.pad, .int .i64 n.out, .int .i64 n.mul, .int .i64 n.sh, .int .i64 n.zero, .int .i64 n.th, .int .i64 n.tw, .int .i64 n.tc, n.wV, n.bV], .agg #[.int .i64 a.h, .int .i64 a.w, .int .i64 a.c]] w fun e w' => e = .returned (.tuple #[.int .i64 (sizeZ a * n.out), .int .i64 n.out]) ∧ Ext w w' := by
  have HB := box2 w n a
  have r1 := sizeZ_range a
  have hs := fun W => size_calls a W
  obtain ⟨sz, hsz⟩ : ∃ x, sizeZ a = x := ⟨_, rfl⟩
  rw [hsz] at r1 hs
  have r2 : 0 ≤ sz * n.out ∧ sz * n.out ≤ 2048 * 8 := ⟨Int.mul_nonneg r1.1 (by omega), Int.mul_le_mul r1.2 ho.2 (by omega) (by omega)⟩
  have m1 : IntKind.i64.wrap (sz * n.out) = sz * n.out := IntWalk.i64_in _ (by omega)
  obtain ⟨x1, h1⟩ : ∃ x, sz * n.out = x := ⟨_, rfl⟩
  have m1' : IntKind.i64.wrap (sz * n.out) = x1 := by rw [m1, h1]
  have HX : Hid (sizeZ a * n.out = x1) := by show _ = _; rw [hsz, h1]
  clear m1 h1 hsz r1 r2 ho
  go_enter Try.func86, Try.ntmps86
  go_wp2_with fail
  generalize World.alloc (World.alloc w _) _ = w1 at *
  refine wp_region_X [0, 2, 3, 5, 6] [⟨1, [], ME.is (.int .i64 sz)⟩, ⟨4, [1], ME.is (.int .i64 x1)⟩, ⟨7, [4], ME.is (.int .i64 x1)⟩, ⟨8, [], ME.is (.int .i64 n.out)⟩] (by kernel_rfl) (by kernel_rfl) (fun _ _ d _ _ h => by cases d <;> exact h) (fun w2 hE => ?_)
  have c5 : ∀ W, Ext w2 W → W.cell? ⟨w.heap.size, 5, none⟩ = some (.int .i64 n.out) := fun W h => ((HB.n.ext hE).ext h).cell 5
  have d0 : ∀ W, Ext w2 W → W.cell? ⟨w.heap.size + 1, 0, none⟩ = some (.int .i64 a.h) := fun W h => ((HB.a.ext hE).ext h).cell 0
  have d1 : ∀ W, Ext w2 W → W.cell? ⟨w.heap.size + 1, 1, none⟩ = some (.int .i64 a.w) := fun W h => ((HB.a.ext hE).ext h).cell 1
  have d2 : ∀ W, Ext w2 W → W.cell? ⟨w.heap.size + 1, 2, none⟩ = some (.int .i64 a.c) := fun W h => ((HB.a.ext hE).ext h).cell 2
  repeat (first | (refine wpP_pure rfl (by rfl) (fun W hW => by go_simp; with_reducible rfl) ?_; simp only [Act.put, List.setIfInBounds_toArray, List.set_cons_zero, List.set_cons_succ]) | (refine wpP_skip rfl (by rfl) ?_; simp only [Act.put, List.setIfInBounds_toArray, List.set_cons_zero, List.set_cons_succ]))
  refine ⟨?_, fun W hR => ?_⟩
  · simp only [rSteps, rNeed, rStep, both_top, tie, TP.top, TP.mine, MP.top, MP.mine, MT.mine, MT.tied, MT.done, MT.is, List.reverse_cons, List.reverse_nil, List.nil_append, List.cons_append, ME.is, MP.is, MP.done, ME.ints, ME.row, Region.wanted, yielded, List.getElem?_toArray, phi, dstAt, List.getElem?_cons_zero, List.getElem?_cons_succ, Option.bind_some, Act.put, List.setIfInBounds_toArray, List.set_cons_zero, List.set_cons_succ, and_true, forall_eq, reduceIte, Nat.reduceEqDiff, beq_iff_eq, Option.some.injEq, Bool.false_eq_true, reduceCtorEq, implies_true, true_and]
    refine ⟨fun W hR => ?_, fun W hR => ?_, fun W hR => ?_, fun W hR => ?_⟩
    · go_simp
      refine (hs W).mono ?_
      rintro e w' ⟨rfl, h1⟩
      exact ⟨_, rfl, h1, rfl⟩
    all_goals (go_simp; exact ⟨_, rfl, Ext.refl _, rfl⟩)
  · simp only [rFin, envAt, TP.top, TP.mine, MP.top, MP.mine, MT.mine, MT.tied, MT.done, MT.is, List.map_cons, List.map_nil, true_implies, List.head?_cons, ME.is, MP.is, MP.done, ME.ints, ME.row, phi, dstAt, List.getElem?_cons_zero, List.getElem?_cons_succ, Option.bind_some, Act.put, List.setIfInBounds_toArray, List.set_cons_zero, List.set_cons_succ, and_true, forall_eq, reduceIte, Nat.reduceEqDiff, beq_iff_eq, Option.some.injEq, Bool.false_eq_true, reduceCtorEq, implies_true, true_and]
    go_wp2
    go_ret2
    exact ⟨by rw [HX.out]; rfl, HB.e.trans (hE.trans hR)⟩

end Go.Proofs.Ytmddlhfahfelpaa
