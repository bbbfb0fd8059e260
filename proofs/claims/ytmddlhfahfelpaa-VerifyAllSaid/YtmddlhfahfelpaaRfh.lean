/- The reference of how many weights and biases a node has; made, put together. -/
import Derived.Test.YtmddlhfahfelpaaRfg
set_option linter.unusedSimpArgs false
set_option linter.unusedVariables false
set_option linter.unnecessarySimpa false
namespace Go.Proofs.Ytmddlhfahfelpaa
open Go.RowKit

set_option maxRecDepth 8000 in
set_option maxHeartbeats 1600000 in
theorem rmany1 (n : Nd) (a : Sz) (w : World) (ho : n.op = 1) (ha : a.ok = true) (hk : 1 ≤ n.k ∧ n.k ≤ 3) (hq : 1 ≤ n.out ∧ n.out ≤ 8) : Calls Try.prog 77 #[.agg #[.int .i64 n.op, n.inV, .int .i64 n.k, .int .i64 n.st, .int .i64 n.pad, .int .i64 n.out, .int .i64 n.mul, .int .i64 n.sh, .int .i64 n.zero, .int .i64 n.th, .int .i64 n.tw, .int .i64 n.tc, n.wV, n.bV], .agg #[.int .i64 a.h, .int .i64 a.w, .int .i64 a.c]] w fun e w' => e = .returned (.tuple #[.int .i64 (n.k * n.k * a.c * n.out), .int .i64 (n.out)]) ∧ Ext w w' := by
  have HB := box2 w n a
  obtain ⟨r1, r2⟩ := kk_range ha hk
  have r3 := mul_range r2.1 r2.2 hq.1 hq.2
  have m1 : IntKind.i64.wrap (n.k * n.k) = n.k * n.k := IntWalk.i64_in _ (by omega)
  have m2 : IntKind.i64.wrap (n.k * n.k * a.c) = n.k * n.k * a.c := IntWalk.i64_in _ (by omega)
  have m3 : IntKind.i64.wrap (n.k * n.k * a.c * n.out) = n.k * n.k * a.c * n.out := IntWalk.i64_in _ (by omega)
  obtain ⟨x1, h1⟩ : ∃ x, n.k * n.k = x := ⟨_, rfl⟩
  rw [h1] at m1 m2 m3
  obtain ⟨x2, h2⟩ : ∃ x, x1 * a.c = x := ⟨_, rfl⟩
  rw [h2] at m2 m3
  obtain ⟨x3, h3⟩ : ∃ x, x2 * n.out = x := ⟨_, rfl⟩
  rw [h3] at m3
  have m1' : IntKind.i64.wrap (n.k * n.k) = x1 := by rw [h1, m1]
  have m2' : IntKind.i64.wrap (x1 * a.c) = x2 := by rw [h2, m2]
  have m3' : IntKind.i64.wrap (x2 * n.out) = x3 := by rw [h3, m3]
  have HX : Hid (n.k * n.k * a.c * n.out = x3) := by show _ = _; rw [h1, h2, h3]
  clear m1 m2 m3 h3 h1 h2 hk r1 r2 r3 hq ha
  go_enter Try.func77, Try.ntmps77
  go_upto_region 3 with fail
  rw [ho] at HB
  clear ho
  generalize World.alloc (World.alloc w _) _ = w1 at *
  refine wp_region_X [0, 1, 2, 3, 4, 5, 6, 7, 8, 9, 10, 11, 12, 13, 14] [] (by kernel_rfl) (by kernel_rfl) (fun _ _ d _ _ h => by cases d <;> exact h) (fun w2 hE => ?_)
  have c2 : ∀ W, Ext w2 W → W.cell? ⟨w.heap.size, 2, none⟩ = some (.int .i64 n.k) := fun W h => ((HB.n.ext hE).ext h).cell 2
  have c5 : ∀ W, Ext w2 W → W.cell? ⟨w.heap.size, 5, none⟩ = some (.int .i64 n.out) := fun W h => ((HB.n.ext hE).ext h).cell 5
  have d2 : ∀ W, Ext w2 W → W.cell? ⟨w.heap.size + 1, 2, none⟩ = some (.int .i64 a.c) := fun W h => ((HB.a.ext hE).ext h).cell 2
  repeat (first | (refine wpP_pure rfl (by rfl) (fun W hW => by go_simp; with_reducible rfl) ?_; simp only [Act.put, List.setIfInBounds_toArray, List.set_cons_zero, List.set_cons_succ]) | (refine wpP_skip rfl (by rfl) ?_; simp only [Act.put, List.setIfInBounds_toArray, List.set_cons_zero, List.set_cons_succ]))
  refine ⟨trivial, fun W hR => ?_⟩
  simp only [rFin, envAt, TP.top, TP.mine, MP.top, MP.mine, MT.mine, MT.tied, MT.done, MT.is, List.map_cons, List.map_nil, true_implies, List.head?_cons, ME.is, MP.is, MP.done, ME.ints, ME.row, phi, dstAt, List.getElem?_cons_zero, List.getElem?_cons_succ, Option.bind_some, Act.put, List.setIfInBounds_toArray, List.set_cons_zero, List.set_cons_succ, and_true, forall_eq, reduceIte, Nat.reduceEqDiff, beq_iff_eq, Option.some.injEq, Bool.false_eq_true, reduceCtorEq, implies_true, true_and]
  go_wp2
  go_ret2
  exact ⟨by rw [HX.out]; rfl, HB.e.trans (hE.trans hR)⟩

set_option maxRecDepth 8000 in
set_option maxHeartbeats 1600000 in
theorem rmany2 (n : Nd) (a : Sz) (w : World) (ho : n.op = 2) (ha : a.ok = true) (hk : 1 ≤ n.k ∧ n.k ≤ 3) : Calls Try.prog 77 #[.agg #[.int .i64 n.op, n.inV, .int .i64 n.k, .int .i64 n.st, .int .i64 n.pad, .int .i64 n.out, .int .i64 n.mul, .int .i64 n.sh, .int .i64 n.zero, .int .i64 n.th, .int .i64 n.tw, .int .i64 n.tc, n.wV, n.bV], .agg #[.int .i64 a.h, .int .i64 a.w, .int .i64 a.c]] w fun e w' => e = .returned (.tuple #[.int .i64 (n.k * n.k * a.c), .int .i64 (a.c)]) ∧ Ext w w' := by
  have HB := box2 w n a
  obtain ⟨r1, r2⟩ := kk_range ha hk
  have m1 : IntKind.i64.wrap (n.k * n.k) = n.k * n.k := IntWalk.i64_in _ (by omega)
  have m2 : IntKind.i64.wrap (n.k * n.k * a.c) = n.k * n.k * a.c := IntWalk.i64_in _ (by omega)
  obtain ⟨x1, h1⟩ : ∃ x, n.k * n.k = x := ⟨_, rfl⟩
  rw [h1] at m1 m2
  obtain ⟨x2, h2⟩ : ∃ x, x1 * a.c = x := ⟨_, rfl⟩
  rw [h2] at m2
  have m1' : IntKind.i64.wrap (n.k * n.k) = x1 := by rw [h1, m1]
  have m2' : IntKind.i64.wrap (x1 * a.c) = x2 := by rw [h2, m2]
  have HX : Hid (n.k * n.k * a.c = x2) := by show _ = _; rw [h1, h2]
  clear m1 m2  h1 h2 hk r1 r2  ha
  go_enter Try.func77, Try.ntmps77
  go_upto_region 5 with fail
  rw [ho] at HB
  clear ho
  generalize World.alloc (World.alloc w _) _ = w1 at *
  refine wp_region_X [0, 1, 2, 3, 4, 5, 6, 7, 8, 9, 10, 11] [] (by kernel_rfl) (by kernel_rfl) (fun _ _ d _ _ h => by cases d <;> exact h) (fun w2 hE => ?_)
  have c2 : ∀ W, Ext w2 W → W.cell? ⟨w.heap.size, 2, none⟩ = some (.int .i64 n.k) := fun W h => ((HB.n.ext hE).ext h).cell 2
  have d2 : ∀ W, Ext w2 W → W.cell? ⟨w.heap.size + 1, 2, none⟩ = some (.int .i64 a.c) := fun W h => ((HB.a.ext hE).ext h).cell 2
  repeat (first | (refine wpP_pure rfl (by rfl) (fun W hW => by go_simp; with_reducible rfl) ?_; simp only [Act.put, List.setIfInBounds_toArray, List.set_cons_zero, List.set_cons_succ]) | (refine wpP_skip rfl (by rfl) ?_; simp only [Act.put, List.setIfInBounds_toArray, List.set_cons_zero, List.set_cons_succ]))
  refine ⟨trivial, fun W hR => ?_⟩
  simp only [rFin, envAt, TP.top, TP.mine, MP.top, MP.mine, MT.mine, MT.tied, MT.done, MT.is, List.map_cons, List.map_nil, true_implies, List.head?_cons, ME.is, MP.is, MP.done, ME.ints, ME.row, phi, dstAt, List.getElem?_cons_zero, List.getElem?_cons_succ, Option.bind_some, Act.put, List.setIfInBounds_toArray, List.set_cons_zero, List.set_cons_succ, and_true, forall_eq, reduceIte, Nat.reduceEqDiff, beq_iff_eq, Option.some.injEq, Bool.false_eq_true, reduceCtorEq, implies_true, true_and]
  go_wp2
  go_ret2
  exact ⟨by rw [HX.out]; rfl, HB.e.trans (hE.trans hR)⟩

set_option maxRecDepth 8000 in
set_option maxHeartbeats 1600000 in
theorem rmany3 (n : Nd) (a : Sz) (w : World) (ho : n.op = 3) (hq : 1 ≤ n.out ∧ n.out ≤ 8) : Calls Try.prog 77 #[.agg #[.int .i64 n.op, n.inV, .int .i64 n.k, .int .i64 n.st, .int .i64 n.pad, .int .i64 n.out, .int .i64 n.mul, .int .i64 n.sh, .int .i64 n.zero, .int .i64 n.th, .int .i64 n.tw, .int .i64 n.tc, n.wV, n.bV], .agg #[.int .i64 a.h, .int .i64 a.w, .int .i64 a.c]] w fun e w' => e = .returned (.tuple #[.int .i64 (sizeZ a * n.out), .int .i64 (n.out)]) ∧ Ext w w' := by
  have HB := box2 w n a
  have r1 := sizeZ_range a
  have hs := fun W => rSize_calls a W
  obtain ⟨sz, hsz⟩ : ∃ x, sizeZ a = x := ⟨_, rfl⟩
  rw [hsz] at r1 hs
  have r2 : 0 ≤ sz * n.out ∧ sz * n.out ≤ 2048 * 8 := ⟨Int.mul_nonneg r1.1 (by omega), Int.mul_le_mul r1.2 hq.2 (by omega) (by omega)⟩
  have m1 : IntKind.i64.wrap (sz * n.out) = sz * n.out := IntWalk.i64_in _ (by omega)
  obtain ⟨x1, h1⟩ : ∃ x, sz * n.out = x := ⟨_, rfl⟩
  have m1' : IntKind.i64.wrap (sz * n.out) = x1 := by rw [m1, h1]
  have HX : Hid (sizeZ a * n.out = x1) := by show _ = _; rw [hsz, h1]
  clear m1 h1 hsz r1 r2 hq
  go_enter Try.func77, Try.ntmps77
  go_upto_region 7 with fail
  rw [ho] at HB
  clear ho
  generalize World.alloc (World.alloc w _) _ = w1 at *
  refine wp_region_X [0, 2, 3, 5, 6] [⟨1, [], ME.is (.int .i64 sz)⟩, ⟨4, [1], ME.is (.int .i64 x1)⟩, ⟨7, [4], ME.is (.int .i64 x1)⟩, ⟨8, [], ME.is (.int .i64 n.out)⟩] (by kernel_rfl) (by kernel_rfl) (fun _ _ d _ _ h => by cases d <;> exact h) (fun w2 hE => ?_)
  have c5 : ∀ W, Ext w2 W → W.cell? ⟨w.heap.size, 5, none⟩ = some (.int .i64 n.out) := fun W h => ((HB.n.ext hE).ext h).cell 5
  have d0 : ∀ W, Ext w2 W → W.cell? ⟨w.heap.size + 1, 0, none⟩ = some (.int .i64 a.h) := fun W h => ((HB.a.ext hE).ext h).cell 0
  have d1 : ∀ W, Ext w2 W → W.cell? ⟨w.heap.size + 1, 1, none⟩ = some (.int .i64 a.w) := fun W h => ((HB.a.ext hE).ext h).cell 1
  have d2 : ∀ W, Ext w2 W → W.cell? ⟨w.heap.size + 1, 2, none⟩ = some (.int .i64 a.c) := fun W h => ((HB.a.ext hE).ext h).cell 2
  repeat (first | (refine wpP_pure rfl (by rfl) (fun W hW => by go_simp; with_reducible rfl) ?_; simp only [Act.put, List.setIfInBounds_toArray, List.set_cons_zero, List.set_cons_succ]) | (refine wpP_skip rfl (by rfl) ?_; simp only [Act.put, List.setIfInBounds_toArray, List.set_cons_zero, List.set_cons_succ]))
  refine ⟨?_, fun W hR => ?_⟩
  · simp only [rSteps, rNeed, rStep, both_top, tie, TP.top, TP.mine, MP.top, MP.mine, MT.mine, MT.tied, MT.done, MT.is, List.reverse_cons, List.reverse_nil, List.nil_append, List.cons_append, ME.is, MP.is, MP.done, ME.ints, ME.row, Region.wanted, yielded, List.getElem?_toArray, phi, dstAt, List.getElem?_cons_zero, List.getElem?_cons_succ, Option.bind_some, Act.put, List.setIfInBounds_toArray, List.set_cons_zero, List.set_cons_succ, and_true, forall_eq, reduceIte, Nat.reduceEqDiff, beq_iff_eq, Option.some.injEq, Bool.false_eq_true, reduceCtorEq, implies_true, true_and]
    refine ⟨fun W hR => ?_, fun W hR => ?_, fun W hR => ?_, fun W hR => ?_⟩
    · go_simp
      refine (hs W).mono ?_
      rintro e w' ⟨rfl, h1⟩
      exact ⟨_, rfl, h1, rfl⟩
    all_goals (go_simp; exact ⟨_, rfl, Ext.refl _, rfl⟩)
  · simp only [rFin, envAt, TP.top, TP.mine, MP.top, MP.mine, MT.mine, MT.tied, MT.done, MT.is, List.map_cons, List.map_nil, true_implies, List.head?_cons, ME.is, MP.is, MP.done, ME.ints, ME.row, phi, dstAt, List.getElem?_cons_zero, List.getElem?_cons_succ, Option.bind_some, Act.put, List.setIfInBounds_toArray, List.set_cons_zero, List.set_cons_succ, and_true, forall_eq, reduceIte, Nat.reduceEqDiff, beq_iff_eq, Option.some.injEq, Bool.false_eq_true, reduceCtorEq, implies_true, true_and]
    go_wp2
    go_ret2
    exact ⟨by rw [HX.out]; rfl, HB.e.trans (hE.trans hR)⟩

set_option maxRecDepth 8000 in
set_option maxHeartbeats 1600000 in
theorem rmany12 (n : Nd) (a : Sz) (w : World) (ho : n.op = 12) : Calls Try.prog 77 #[.agg #[.int .i64 n.op, n.inV, .int .i64 n.k, .int .i64 n.st, .int .i64 n.pad, .int .i64 n.out, .int .i64 n.mul, .int .i64 n.sh, .int .i64 n.zero, .int .i64 n.th, .int .i64 n.tw, .int .i64 n.tc, n.wV, n.bV], .agg #[.int .i64 a.h, .int .i64 a.w, .int .i64 a.c]] w fun e w' => e = .returned (.tuple #[.int .i64 (256), .int .i64 (0)]) ∧ Ext w w' := by
  have HB := box2 w n a
  go_enter Try.func77, Try.ntmps77
  go_wp2
  go_ret2
  exact ⟨rfl, (ext_alloc _ _).trans (ext_alloc _ _)⟩

set_option maxRecDepth 8000 in
set_option maxHeartbeats 1600000 in
theorem rmany0 (n : Nd) (a : Sz) (w : World) (ho : 4 ≤ n.op ∧ n.op ≤ 11) : Calls Try.prog 77 #[.agg #[.int .i64 n.op, n.inV, .int .i64 n.k, .int .i64 n.st, .int .i64 n.pad, .int .i64 n.out, .int .i64 n.mul, .int .i64 n.sh, .int .i64 n.zero, .int .i64 n.th, .int .i64 n.tw, .int .i64 n.tc, n.wV, n.bV], .agg #[.int .i64 a.h, .int .i64 a.w, .int .i64 a.c]] w fun e w' => e = .returned (.tuple #[.int .i64 (0), .int .i64 (0)]) ∧ Ext w w' := by
  have HB := box2 w n a
  have ne : ∀ k : Int, k = 1 ∨ k = 2 ∨ k = 3 ∨ k = 12 → (n.op == k) = false := fun k h => by rw [beq_eq_false_iff_ne]; omega
  have e1 := ne 1 (by simp)
  have e2 := ne 2 (by simp)
  have e3 := ne 3 (by simp)
  have e12 := ne 12 (by simp)
  clear ne ho
  go_enter Try.func77, Try.ntmps77
  go_wp2
  go_ret2
  exact ⟨rfl, (ext_alloc _ _).trans (ext_alloc _ _)⟩

/-- What is known of a node that may be. -/
theorem nodeB_facts {n : Nd} {len : Nat} (h : nodeB n len = true) : ∃ k, kindOf n.op = some k ∧ nodeOk k n len = true ∧ (k.window = true → 1 ≤ n.k ∧ n.k ≤ 3) ∧ (k.out = true → 1 ≤ n.out ∧ n.out ≤ 8) ∧ (len : Int) = k.many ∧ 0 ≤ n.pad ∧ n.pad ≤ 1 := by
  unfold nodeB at h
  cases hk : kindOf n.op with
  | none => rw [hk] at h; cases h
  | some k =>
    rw [hk] at h
    refine ⟨k, rfl, h, ?_⟩
    simp only [nodeOk, ok1, ok3, ok4, ok5, Bool.and_eq_true, decide_eq_true_eq] at h
    obtain ⟨⟨⟨⟨⟨⟨⟨h1, _⟩, _⟩, _⟩, _⟩, h3⟩, h4⟩, h5⟩ := h
    refine ⟨fun hw => ?_, fun ho => ?_, h1, ?_⟩
    · rw [if_pos hw] at h3
      simp only [inB, Bool.and_eq_true, decide_eq_true_eq] at h3
      exact h3.1
    · rw [if_pos ho] at h5
      simp only [inB, Bool.and_eq_true, decide_eq_true_eq] at h5
      exact h5
    · split at h4
      · simp only [inB, Bool.and_eq_true, decide_eq_true_eq] at h4
        omega
      · split at h4
        · simp at h4; omega
        · simp at h4; omega

theorem rmany_calls (n : Nd) (a : Sz) (w : World) (len : Nat) (h : nodeB n len = true) (ha : a.ok = true) : Calls Try.prog 77 #[.agg #[.int .i64 n.op, n.inV, .int .i64 n.k, .int .i64 n.st, .int .i64 n.pad, .int .i64 n.out, .int .i64 n.mul, .int .i64 n.sh, .int .i64 n.zero, .int .i64 n.th, .int .i64 n.tw, .int .i64 n.tc, n.wV, n.bV], .agg #[.int .i64 a.h, .int .i64 a.w, .int .i64 a.c]] w fun e w' => e = .returned (.tuple #[.int .i64 (wbZ n a).1, .int .i64 (wbZ n a).2]) ∧ Ext w w' := by
  obtain ⟨k, hk, _, hw, ho, _⟩ := nodeB_facts h
  have hr := kind_range hk
  rcases (by omega : n.op = 1 ∨ n.op = 2 ∨ n.op = 3 ∨ n.op = 12 ∨ (4 ≤ n.op ∧ n.op ≤ 11)) with e | e | e | e | e
  · rw [e] at hk
    simp only [kindOf, reduceIte, Int.reduceEq, Option.some.injEq] at hk
    subst hk
    rw [show wbZ n a = (n.k * n.k * a.c * n.out, n.out) from by simp only [wbZ, e, reduceIte]]
    exact rmany1 n a w e ha (hw rfl) (ho rfl)
  · rw [e] at hk
    simp only [kindOf, reduceIte, Int.reduceEq, Option.some.injEq] at hk
    subst hk
    rw [show wbZ n a = (n.k * n.k * a.c, a.c) from by simp only [wbZ, e, reduceIte, Int.reduceEq]]
    exact rmany2 n a w e ha (hw rfl)
  · rw [e] at hk
    simp only [kindOf, reduceIte, Int.reduceEq, Option.some.injEq] at hk
    subst hk
    rw [show wbZ n a = (sizeZ a * n.out, n.out) from by simp only [wbZ, e, reduceIte, Int.reduceEq]]
    exact rmany3 n a w e (ho rfl)
  · rw [show wbZ n a = (256, 0) from by simp only [wbZ, e, reduceIte, Int.reduceEq]]
    exact rmany12 n a w e
  · rw [show wbZ n a = (0, 0) from by simp only [wbZ]; rw [if_neg (by omega), if_neg (by omega), if_neg (by omega), if_neg (by omega)]]
    exact rmany0 n a w e

theorem rmade_calls (n : Nd) (lv : Value) (l : List Vl) (w : World) (hv : Vls w lv l) (h : nodeB n l.length = true) (hok : ∀ x ∈ l, x.s.ok = true) : Calls Try.prog 76 #[.agg #[.int .i64 n.op, n.inV, .int .i64 n.k, .int .i64 n.st, .int .i64 n.pad, .int .i64 n.out, .int .i64 n.mul, .int .i64 n.sh, .int .i64 n.zero, .int .i64 n.th, .int .i64 n.tw, .int .i64 n.tc, n.wV, n.bV], lv] w fun e w' => e = .returned (.agg #[.int .i64 (madeZ n (l[0]?.getD default).s (l[l.length - 1]?.getD default).s).h, .int .i64 (madeZ n (l[0]?.getD default).s (l[l.length - 1]?.getD default).s).w, .int .i64 (madeZ n (l[0]?.getD default).s (l[l.length - 1]?.getD default).s).c]) ∧ Ext w w' := by
  obtain ⟨k, hk, _, _, _, hm, hp0, hp1⟩ := nodeB_facts h
  have hpk : InK .i64 n.pad := by simp only [InK]; omega
  have hr := kind_range hk
  rcases (by omega : n.op = 1 ∨ n.op = 2 ∨ n.op = 3 ∨ n.op = 4 ∨ n.op = 5 ∨ n.op = 6 ∨ n.op = 7 ∨ n.op = 8 ∨ n.op = 9 ∨ n.op = 10 ∨ n.op = 11 ∨ n.op = 12) with e | e | e | e | e | e | e | e | e | e | e | e
  · rw [e] at hk
    simp only [kindOf, reduceIte, Int.reduceEq, Option.some.injEq] at hk
    subst hk
    simp only at hm
    obtain ⟨x, rfl⟩ := List.length_eq_one_iff.1 (show l.length = 1 by omega)
    exact rmade1 n lv x x w hv hpk e
  · rw [e] at hk
    simp only [kindOf, reduceIte, Int.reduceEq, Option.some.injEq] at hk
    subst hk
    simp only at hm
    obtain ⟨x, rfl⟩ := List.length_eq_one_iff.1 (show l.length = 1 by omega)
    exact rmade2 n lv x x w hv hpk e
  · rw [e] at hk
    simp only [kindOf, reduceIte, Int.reduceEq, Option.some.injEq] at hk
    subst hk
    simp only at hm
    obtain ⟨x, rfl⟩ := List.length_eq_one_iff.1 (show l.length = 1 by omega)
    exact rmade3 n lv x x w hv e
  · rw [e] at hk
    simp only [kindOf, reduceIte, Int.reduceEq, Option.some.injEq] at hk
    subst hk
    simp only at hm
    obtain ⟨x, rfl⟩ := List.length_eq_one_iff.1 (show l.length = 1 by omega)
    exact rmade4 n lv x x w hv hpk e
  · rw [e] at hk
    simp only [kindOf, reduceIte, Int.reduceEq, Option.some.injEq] at hk
    subst hk
    simp only at hm
    obtain ⟨x, rfl⟩ := List.length_eq_one_iff.1 (show l.length = 1 by omega)
    exact rmade5 n lv x x w hv hpk e
  · rw [e] at hk
    simp only [kindOf, reduceIte, Int.reduceEq, Option.some.injEq] at hk
    subst hk
    simp only at hm
    obtain ⟨x, y, rfl⟩ : ∃ x y, l = [x, y] := by
      have h3 : l.length = 2 := by omega
      match l, h3 with
      | [x, y], _ => exact ⟨x, y, rfl⟩
    exact rmade6 n lv x y w hv e
  · rw [e] at hk
    simp only [kindOf, reduceIte, Int.reduceEq, Option.some.injEq] at hk
    subst hk
    simp only at hm
    obtain ⟨x, y, rfl⟩ : ∃ x y, l = [x, y] := by
      have h3 : l.length = 2 := by omega
      match l, h3 with
      | [x, y], _ => exact ⟨x, y, rfl⟩
    exact rmade7 n lv x y w hv e
  · rw [e] at hk
    simp only [kindOf, reduceIte, Int.reduceEq, Option.some.injEq] at hk
    subst hk
    simp only at hm
    obtain ⟨x, rfl⟩ := List.length_eq_one_iff.1 (show l.length = 1 by omega)
    exact rmade8 n lv x x w hv e
  · rw [e] at hk
    simp only [kindOf, reduceIte, Int.reduceEq, Option.some.injEq] at hk
    subst hk
    simp only at hm
    obtain ⟨x, rfl⟩ := List.length_eq_one_iff.1 (show l.length = 1 by omega)
    exact rmade9 n lv x x w hv (hok x (by simp)) e
  · rw [e] at hk
    simp only [kindOf, reduceIte, Int.reduceEq, Option.some.injEq] at hk
    subst hk
    simp only at hm
    obtain ⟨x, y, rfl⟩ : ∃ x y, l = [x, y] := by
      have h3 : l.length = 2 := by omega
      match l, h3 with
      | [x, y], _ => exact ⟨x, y, rfl⟩
    exact rmade10 n lv x y w hv (hok x (by simp)) (hok y (by simp)) e
  · rw [e] at hk
    simp only [kindOf, reduceIte, Int.reduceEq, Option.some.injEq] at hk
    subst hk
    simp only at hm
    obtain ⟨x, rfl⟩ := List.length_eq_one_iff.1 (show l.length = 1 by omega)
    exact rmade11 n lv x x w hv e
  · rw [e] at hk
    simp only [kindOf, reduceIte, Int.reduceEq, Option.some.injEq] at hk
    subst hk
    simp only at hm
    obtain ⟨x, rfl⟩ := List.length_eq_one_iff.1 (show l.length = 1 by omega)
    exact rmade12 n lv x x w hv e

end Go.Proofs.Ytmddlhfahfelpaa
