/- The reference of the shape that a node makes. -/
import Derived.Test.YtmddlhfahfelpaaRfd
set_option linter.unusedSimpArgs false
set_option linter.unusedVariables false
set_option linter.unnecessarySimpa false
namespace Go.Proofs.Ytmddlhfahfelpaa
open Go.RowKit

theorem blk2 (w : World) (x z : Obj) (cs : Array Value) (T : TypeId) : Blk (((w.alloc x).alloc (.cells cs T)).alloc z) (w.heap.size + 1) cs T ∧ Ext w (((w.alloc x).alloc (.cells cs T)).alloc z) := by
  refine ⟨?_, ((ext_alloc _ _).trans (ext_alloc _ _)).trans (ext_alloc _ _)⟩
  have := Blk.new (w.alloc x) cs T
  rw [show (w.alloc x).heap.size = w.heap.size + 1 from by simp] at this
  exact this.ext (ext_alloc _ _)

/-- The boxes of a node, of the result and of the first shape. -/
structure BoxM (w W : World) (n : Nd) (x : Vl) : Prop where
  hn : Blk W w.heap.size #[.int .i64 n.op, n.inV, .int .i64 n.k, .int .i64 n.st, .int .i64 n.pad, .int .i64 n.out, .int .i64 n.mul, .int .i64 n.sh, .int .i64 n.zero, .int .i64 n.th, .int .i64 n.tw, .int .i64 n.tc, n.wV, n.bV] 51
  hr : Blk W (w.heap.size + 1) #[.int .i64 0, .int .i64 0, .int .i64 0] 42
  hx : Blk W (w.heap.size + 1 + 1) #[.int .i64 x.s.h, .int .i64 x.s.w, .int .i64 x.s.c] 42
  he : Ext w W

theorem boxM (w : World) (n : Nd) (x : Vl) : BoxM w (((w.alloc (.cells #[.int .i64 n.op, n.inV, .int .i64 n.k, .int .i64 n.st, .int .i64 n.pad, .int .i64 n.out, .int .i64 n.mul, .int .i64 n.sh, .int .i64 n.zero, .int .i64 n.th, .int .i64 n.tw, .int .i64 n.tc, n.wV, n.bV] 51)).alloc (.cells #[.int .i64 0, .int .i64 0, .int .i64 0] 42)).alloc (.cells #[.int .i64 x.s.h, .int .i64 x.s.w, .int .i64 x.s.c] 42)) n x := by
  have e1 := ext_alloc w (.cells #[.int .i64 n.op, n.inV, .int .i64 n.k, .int .i64 n.st, .int .i64 n.pad, .int .i64 n.out, .int .i64 n.mul, .int .i64 n.sh, .int .i64 n.zero, .int .i64 n.th, .int .i64 n.tw, .int .i64 n.tc, n.wV, n.bV] 51)
  have b1 := Blk.new w #[.int .i64 n.op, n.inV, .int .i64 n.k, .int .i64 n.st, .int .i64 n.pad, .int .i64 n.out, .int .i64 n.mul, .int .i64 n.sh, .int .i64 n.zero, .int .i64 n.th, .int .i64 n.tw, .int .i64 n.tc, n.wV, n.bV] 51
  have z1 : (w.alloc (.cells #[.int .i64 n.op, n.inV, .int .i64 n.k, .int .i64 n.st, .int .i64 n.pad, .int .i64 n.out, .int .i64 n.mul, .int .i64 n.sh, .int .i64 n.zero, .int .i64 n.th, .int .i64 n.tw, .int .i64 n.tc, n.wV, n.bV] 51)).heap.size = w.heap.size + 1 := by simp
  generalize w.alloc (.cells #[.int .i64 n.op, n.inV, .int .i64 n.k, .int .i64 n.st, .int .i64 n.pad, .int .i64 n.out, .int .i64 n.mul, .int .i64 n.sh, .int .i64 n.zero, .int .i64 n.th, .int .i64 n.tw, .int .i64 n.tc, n.wV, n.bV] 51) = w1 at *
  have e2 := ext_alloc w1 (.cells #[.int .i64 0, .int .i64 0, .int .i64 0] 42)
  have b2 := Blk.new w1 #[.int .i64 0, .int .i64 0, .int .i64 0] 42
  have z2 : (w1.alloc (.cells #[.int .i64 0, .int .i64 0, .int .i64 0] 42)).heap.size = w.heap.size + 1 + 1 := by simp [z1]
  rw [z1] at b2
  generalize w1.alloc (.cells #[.int .i64 0, .int .i64 0, .int .i64 0] 42) = w2 at *
  have e3 := ext_alloc w2 (.cells #[.int .i64 x.s.h, .int .i64 x.s.w, .int .i64 x.s.c] 42)
  have b3 := Blk.new w2 #[.int .i64 x.s.h, .int .i64 x.s.w, .int .i64 x.s.c] 42
  rw [z2] at b3
  exact ⟨(b1.ext e2).ext e3, b2.ext e3, b3, (e1.trans e2).trans e3⟩

set_option maxRecDepth 8000 in
set_option maxHeartbeats 1600000 in
theorem rmade1 (n : Nd) (lv : Value) (x y : Vl) (w : World) (hv : Vls w lv [x]) (hpk : InK .i64 n.pad) (ho : n.op = 1) : Calls Try.prog 76 #[.agg #[.int .i64 n.op, n.inV, .int .i64 n.k, .int .i64 n.st, .int .i64 n.pad, .int .i64 n.out, .int .i64 n.mul, .int .i64 n.sh, .int .i64 n.zero, .int .i64 n.th, .int .i64 n.tw, .int .i64 n.tc, n.wV, n.bV], lv] w fun e w' => e = .returned (.agg #[.int .i64 (madeZ n x.s y.s).h, .int .i64 (madeZ n x.s y.s).w, .int .i64 (madeZ n x.s y.s).c]) ∧ Ext w w' := by
  obtain ⟨mz, hmz⟩ : ∃ mz, madeZ n x.s y.s = mz := ⟨_, rfl⟩
  rw [hmz]
  have HMZ := Lib.hid hmz
  clear hmz
  obtain ⟨A, c, rfl, hlc, hcm, hcc⟩ := hv.form
  unfold maxLen at hcm
  have BX := boxM w n x
  obtain ⟨b, off, rfl, bh, xc⟩ := hcc 0 x rfl
  have xc0 : w.cell? ⟨b, off, none⟩ = some (.int .i64 x.s.h) := by simpa using xc 0 _ rfl
  have xc1 : w.cell? ⟨b, off + 1, none⟩ = some (.int .i64 x.s.w) := by simpa using xc 1 _ rfl
  have xc2 : w.cell? ⟨b, off + 2, none⟩ = some (.int .i64 x.s.c) := by simpa using xc 2 _ rfl
  have hne : b < w.heap.size := bh
  clear xc hcc
  go_enter Try.func76, Try.ntmps76
  go_upto_region 10 with fail
  have HM2 : Hid (mz = ⟨outZ x.s.h n.k n.st n.pad, outZ x.s.w n.k n.st n.pad, n.out⟩) := by show _ = _; rw [← HMZ.out]; simp only [madeZ, ho, reduceIte, Int.reduceEq]
  rw [ho] at BX
  clear ho
  have hoh := fun W => rOut_calls x.s.h n.k n.st n.pad W
  have how := fun W => rOut_calls x.s.w n.k n.st n.pad W
  generalize outZ x.s.h n.k n.st n.pad = oh at *
  generalize outZ x.s.w n.k n.st n.pad = ow at *
  generalize World.alloc (World.alloc (World.alloc w _) _) _ = w1 at *
  refine wp_region_B (w.heap.size + 1) 42 #[.int .i64 0, .int .i64 0, .int .i64 0] #[.int .i64 oh, .int .i64 ow, .int .i64 n.out] [0, 1, 2, 3, 4, 5, 6, 7, 9, 10, 11, 12, 13, 14, 15, 16, 18] [⟨8, [], MT.is (.int .i64 oh)⟩, ⟨17, [], MT.is (.int .i64 ow)⟩, ⟨19, [8, 17], MT.is (.agg #[.int .i64 oh, .int .i64 ow, .int .i64 n.out])⟩, ⟨20, [19], MT.done⟩] (by kernel_rfl) (by kernel_rfl) (fun _ _ d _ _ h => by cases d <;> exact h) BX.hr (fun w2 hE hB => ?_)
  have n2 : ∀ W, RB (w.heap.size + 1) 42 #[.int .i64 0, .int .i64 0, .int .i64 0] #[.int .i64 oh, .int .i64 ow, .int .i64 n.out] w2 W → W.cell? ⟨w.heap.size, 2, none⟩ = some (.int .i64 n.k) := fun W h => h.cell ((BX.hn.ext hE).cell 2) (by omega)
  have n3 : ∀ W, RB (w.heap.size + 1) 42 #[.int .i64 0, .int .i64 0, .int .i64 0] #[.int .i64 oh, .int .i64 ow, .int .i64 n.out] w2 W → W.cell? ⟨w.heap.size, 3, none⟩ = some (.int .i64 n.st) := fun W h => h.cell ((BX.hn.ext hE).cell 3) (by omega)
  have n4 : ∀ W, RB (w.heap.size + 1) 42 #[.int .i64 0, .int .i64 0, .int .i64 0] #[.int .i64 oh, .int .i64 ow, .int .i64 n.out] w2 W → W.cell? ⟨w.heap.size, 4, none⟩ = some (.int .i64 n.pad) := fun W h => h.cell ((BX.hn.ext hE).cell 4) (by omega)
  have s0 : ∀ W, RB (w.heap.size + 1) 42 #[.int .i64 0, .int .i64 0, .int .i64 0] #[.int .i64 oh, .int .i64 ow, .int .i64 n.out] w2 W → W.cell? ⟨w.heap.size + 1 + 1, 0, none⟩ = some (.int .i64 x.s.h) := fun W h => h.cell ((BX.hx.ext hE).cell 0) (by omega)
  have s1 : ∀ W, RB (w.heap.size + 1) 42 #[.int .i64 0, .int .i64 0, .int .i64 0] #[.int .i64 oh, .int .i64 ow, .int .i64 n.out] w2 W → W.cell? ⟨w.heap.size + 1 + 1, 1, none⟩ = some (.int .i64 x.s.w) := fun W h => h.cell ((BX.hx.ext hE).cell 1) (by omega)
  repeat (first | (refine wpP_pure rfl (by rfl) (fun W hW => by go_simp; with_reducible rfl) ?_; simp only [Act.put, List.setIfInBounds_toArray, List.set_cons_zero, List.set_cons_succ]) | (refine wpP_skip rfl (by rfl) ?_; simp only [Act.put, List.setIfInBounds_toArray, List.set_cons_zero, List.set_cons_succ]))
  refine ⟨?_, fun W hR => ?_⟩
  · simp only [rSteps, rNeed, rStep, both_top, tie, TP.top, TP.mine, MP.top, MP.mine, MT.mine, MT.tied, MT.done, MT.is, List.reverse_cons, List.reverse_nil, List.nil_append, List.cons_append, ME.is, MP.is, MP.done, ME.ints, ME.row, Region.wanted, yielded, List.getElem?_toArray, phi, dstAt, List.getElem?_cons_zero, List.getElem?_cons_succ, Option.bind_some, Act.put, List.setIfInBounds_toArray, List.set_cons_zero, List.set_cons_succ, and_true, forall_eq, reduceIte, Nat.reduceEqDiff, beq_iff_eq, Option.some.injEq, Bool.false_eq_true, reduceCtorEq, implies_true, true_and]
    refine ⟨fun W hR => ?_, fun W hR => ?_, fun W hR => ?_, fun W hR => ?_⟩
    · go_simp
      refine (hoh W hpk).mono ?_
      rintro e w' ⟨rfl, rfl⟩
      exact ⟨_, rfl, RB.refl _, rfl⟩
    · go_simp
      refine (how W hpk).mono ?_
      rintro e w' ⟨rfl, rfl⟩
      exact ⟨_, rfl, RB.refl _, rfl⟩
    · go_simp
      exact ⟨_, rfl, RB.refl _, rfl⟩
    · exact wp_store_B _ _ _ rfl rfl rfl (hB W hR) (by kernel_rfl) rfl (by simp [Value.oneCell']) ((hB W hR).elim Blk.setRow Blk.setRow)
  · simp only [rFin, envAt, TP.top, TP.mine, MP.top, MP.mine, MT.mine, MT.tied, MT.done, MT.is, List.map_cons, List.map_nil, true_implies, List.head?_cons, ME.is, MP.is, MP.done, ME.ints, ME.row, phi, dstAt, List.getElem?_cons_zero, List.getElem?_cons_succ, Option.bind_some, Act.put, List.setIfInBounds_toArray, List.set_cons_zero, List.set_cons_succ, and_true, forall_eq, reduceIte, Nat.reduceEqDiff, beq_iff_eq, Option.some.injEq, Bool.false_eq_true, reduceCtorEq, implies_true, true_and]
    intro v hD
    go_wp2
    refine bodyPost_ret (v := .agg #[.int .i64 oh, .int .i64 ow, .int .i64 n.out]) (results_cell_row Try.results76 _ _ (w.heap.size + 1) 42 _ (0, 0) _ rfl hD (by kernel_rfl : Try.prog.underlying 42 = some (.struct (Try.prog.fieldsOf 42))) rfl (by kernel_rfl)) rfl ?_
    exact ⟨by rw [HM2.out], Below.grown (BX.he.trans hE) hR.gr (BX.he.trans hE).size (fun k hk => by cases hk; omega)⟩
set_option maxRecDepth 8000 in
set_option maxHeartbeats 1600000 in
theorem rmade2 (n : Nd) (lv : Value) (x y : Vl) (w : World) (hv : Vls w lv [x]) (hpk : InK .i64 n.pad) (ho : n.op = 2) : Calls Try.prog 76 #[.agg #[.int .i64 n.op, n.inV, .int .i64 n.k, .int .i64 n.st, .int .i64 n.pad, .int .i64 n.out, .int .i64 n.mul, .int .i64 n.sh, .int .i64 n.zero, .int .i64 n.th, .int .i64 n.tw, .int .i64 n.tc, n.wV, n.bV], lv] w fun e w' => e = .returned (.agg #[.int .i64 (madeZ n x.s y.s).h, .int .i64 (madeZ n x.s y.s).w, .int .i64 (madeZ n x.s y.s).c]) ∧ Ext w w' := by
  obtain ⟨mz, hmz⟩ : ∃ mz, madeZ n x.s y.s = mz := ⟨_, rfl⟩
  rw [hmz]
  have HMZ := Lib.hid hmz
  clear hmz
  obtain ⟨A, c, rfl, hlc, hcm, hcc⟩ := hv.form
  unfold maxLen at hcm
  have BX := boxM w n x
  obtain ⟨b, off, rfl, bh, xc⟩ := hcc 0 x rfl
  have xc0 : w.cell? ⟨b, off, none⟩ = some (.int .i64 x.s.h) := by simpa using xc 0 _ rfl
  have xc1 : w.cell? ⟨b, off + 1, none⟩ = some (.int .i64 x.s.w) := by simpa using xc 1 _ rfl
  have xc2 : w.cell? ⟨b, off + 2, none⟩ = some (.int .i64 x.s.c) := by simpa using xc 2 _ rfl
  have hne : b < w.heap.size := bh
  clear xc hcc
  go_enter Try.func76, Try.ntmps76
  go_upto_region 10 with fail
  have HM2 : Hid (mz = ⟨outZ x.s.h n.k n.st n.pad, outZ x.s.w n.k n.st n.pad, x.s.c⟩) := by show _ = _; rw [← HMZ.out]; simp only [madeZ, ho, reduceIte, Int.reduceEq]
  rw [ho] at BX
  clear ho
  have hoh := fun W => rOut_calls x.s.h n.k n.st n.pad W
  have how := fun W => rOut_calls x.s.w n.k n.st n.pad W
  generalize outZ x.s.h n.k n.st n.pad = oh at *
  generalize outZ x.s.w n.k n.st n.pad = ow at *
  generalize World.alloc (World.alloc (World.alloc w _) _) _ = w1 at *
  refine wp_region_B (w.heap.size + 1) 42 #[.int .i64 0, .int .i64 0, .int .i64 0] #[.int .i64 oh, .int .i64 ow, .int .i64 x.s.c] [0, 1, 2, 3, 4, 5, 6, 7, 9, 10, 11, 12, 13, 14, 15, 16, 18] [⟨8, [], MT.is (.int .i64 oh)⟩, ⟨17, [], MT.is (.int .i64 ow)⟩, ⟨19, [8, 17], MT.is (.agg #[.int .i64 oh, .int .i64 ow, .int .i64 x.s.c])⟩, ⟨20, [19], MT.done⟩] (by kernel_rfl) (by kernel_rfl) (fun _ _ d _ _ h => by cases d <;> exact h) BX.hr (fun w2 hE hB => ?_)
  have n2 : ∀ W, RB (w.heap.size + 1) 42 #[.int .i64 0, .int .i64 0, .int .i64 0] #[.int .i64 oh, .int .i64 ow, .int .i64 x.s.c] w2 W → W.cell? ⟨w.heap.size, 2, none⟩ = some (.int .i64 n.k) := fun W h => h.cell ((BX.hn.ext hE).cell 2) (by omega)
  have n3 : ∀ W, RB (w.heap.size + 1) 42 #[.int .i64 0, .int .i64 0, .int .i64 0] #[.int .i64 oh, .int .i64 ow, .int .i64 x.s.c] w2 W → W.cell? ⟨w.heap.size, 3, none⟩ = some (.int .i64 n.st) := fun W h => h.cell ((BX.hn.ext hE).cell 3) (by omega)
  have n4 : ∀ W, RB (w.heap.size + 1) 42 #[.int .i64 0, .int .i64 0, .int .i64 0] #[.int .i64 oh, .int .i64 ow, .int .i64 x.s.c] w2 W → W.cell? ⟨w.heap.size, 4, none⟩ = some (.int .i64 n.pad) := fun W h => h.cell ((BX.hn.ext hE).cell 4) (by omega)
  have s0 : ∀ W, RB (w.heap.size + 1) 42 #[.int .i64 0, .int .i64 0, .int .i64 0] #[.int .i64 oh, .int .i64 ow, .int .i64 x.s.c] w2 W → W.cell? ⟨w.heap.size + 1 + 1, 0, none⟩ = some (.int .i64 x.s.h) := fun W h => h.cell ((BX.hx.ext hE).cell 0) (by omega)
  have s1 : ∀ W, RB (w.heap.size + 1) 42 #[.int .i64 0, .int .i64 0, .int .i64 0] #[.int .i64 oh, .int .i64 ow, .int .i64 x.s.c] w2 W → W.cell? ⟨w.heap.size + 1 + 1, 1, none⟩ = some (.int .i64 x.s.w) := fun W h => h.cell ((BX.hx.ext hE).cell 1) (by omega)
  repeat (first | (refine wpP_pure rfl (by rfl) (fun W hW => by go_simp; with_reducible rfl) ?_; simp only [Act.put, List.setIfInBounds_toArray, List.set_cons_zero, List.set_cons_succ]) | (refine wpP_skip rfl (by rfl) ?_; simp only [Act.put, List.setIfInBounds_toArray, List.set_cons_zero, List.set_cons_succ]))
  refine ⟨?_, fun W hR => ?_⟩
  · simp only [rSteps, rNeed, rStep, both_top, tie, TP.top, TP.mine, MP.top, MP.mine, MT.mine, MT.tied, MT.done, MT.is, List.reverse_cons, List.reverse_nil, List.nil_append, List.cons_append, ME.is, MP.is, MP.done, ME.ints, ME.row, Region.wanted, yielded, List.getElem?_toArray, phi, dstAt, List.getElem?_cons_zero, List.getElem?_cons_succ, Option.bind_some, Act.put, List.setIfInBounds_toArray, List.set_cons_zero, List.set_cons_succ, and_true, forall_eq, reduceIte, Nat.reduceEqDiff, beq_iff_eq, Option.some.injEq, Bool.false_eq_true, reduceCtorEq, implies_true, true_and]
    refine ⟨fun W hR => ?_, fun W hR => ?_, fun W hR => ?_, fun W hR => ?_⟩
    · go_simp
      refine (hoh W hpk).mono ?_
      rintro e w' ⟨rfl, rfl⟩
      exact ⟨_, rfl, RB.refl _, rfl⟩
    · go_simp
      refine (how W hpk).mono ?_
      rintro e w' ⟨rfl, rfl⟩
      exact ⟨_, rfl, RB.refl _, rfl⟩
    · go_simp
      exact ⟨_, rfl, RB.refl _, rfl⟩
    · exact wp_store_B _ _ _ rfl rfl rfl (hB W hR) (by kernel_rfl) rfl (by simp [Value.oneCell']) ((hB W hR).elim Blk.setRow Blk.setRow)
  · simp only [rFin, envAt, TP.top, TP.mine, MP.top, MP.mine, MT.mine, MT.tied, MT.done, MT.is, List.map_cons, List.map_nil, true_implies, List.head?_cons, ME.is, MP.is, MP.done, ME.ints, ME.row, phi, dstAt, List.getElem?_cons_zero, List.getElem?_cons_succ, Option.bind_some, Act.put, List.setIfInBounds_toArray, List.set_cons_zero, List.set_cons_succ, and_true, forall_eq, reduceIte, Nat.reduceEqDiff, beq_iff_eq, Option.some.injEq, Bool.false_eq_true, reduceCtorEq, implies_true, true_and]
    intro v hD
    go_wp2
    refine bodyPost_ret (v := .agg #[.int .i64 oh, .int .i64 ow, .int .i64 x.s.c]) (results_cell_row Try.results76 _ _ (w.heap.size + 1) 42 _ (0, 0) _ rfl hD (by kernel_rfl : Try.prog.underlying 42 = some (.struct (Try.prog.fieldsOf 42))) rfl (by kernel_rfl)) rfl ?_
    exact ⟨by rw [HM2.out], Below.grown (BX.he.trans hE) hR.gr (BX.he.trans hE).size (fun k hk => by cases hk; omega)⟩
set_option maxRecDepth 8000 in
set_option maxHeartbeats 1600000 in
theorem rmade4 (n : Nd) (lv : Value) (x y : Vl) (w : World) (hv : Vls w lv [x]) (hpk : InK .i64 n.pad) (ho : n.op = 4) : Calls Try.prog 76 #[.agg #[.int .i64 n.op, n.inV, .int .i64 n.k, .int .i64 n.st, .int .i64 n.pad, .int .i64 n.out, .int .i64 n.mul, .int .i64 n.sh, .int .i64 n.zero, .int .i64 n.th, .int .i64 n.tw, .int .i64 n.tc, n.wV, n.bV], lv] w fun e w' => e = .returned (.agg #[.int .i64 (madeZ n x.s y.s).h, .int .i64 (madeZ n x.s y.s).w, .int .i64 (madeZ n x.s y.s).c]) ∧ Ext w w' := by
  obtain ⟨mz, hmz⟩ : ∃ mz, madeZ n x.s y.s = mz := ⟨_, rfl⟩
  rw [hmz]
  have HMZ := Lib.hid hmz
  clear hmz
  obtain ⟨A, c, rfl, hlc, hcm, hcc⟩ := hv.form
  unfold maxLen at hcm
  have BX := boxM w n x
  obtain ⟨b, off, rfl, bh, xc⟩ := hcc 0 x rfl
  have xc0 : w.cell? ⟨b, off, none⟩ = some (.int .i64 x.s.h) := by simpa using xc 0 _ rfl
  have xc1 : w.cell? ⟨b, off + 1, none⟩ = some (.int .i64 x.s.w) := by simpa using xc 1 _ rfl
  have xc2 : w.cell? ⟨b, off + 2, none⟩ = some (.int .i64 x.s.c) := by simpa using xc 2 _ rfl
  have hne : b < w.heap.size := bh
  clear xc hcc
  go_enter Try.func76, Try.ntmps76
  go_upto_region 10 with fail
  have HM2 : Hid (mz = ⟨outZ x.s.h n.k n.st n.pad, outZ x.s.w n.k n.st n.pad, x.s.c⟩) := by show _ = _; rw [← HMZ.out]; simp only [madeZ, ho, reduceIte, Int.reduceEq]
  rw [ho] at BX
  clear ho
  have hoh := fun W => rOut_calls x.s.h n.k n.st n.pad W
  have how := fun W => rOut_calls x.s.w n.k n.st n.pad W
  generalize outZ x.s.h n.k n.st n.pad = oh at *
  generalize outZ x.s.w n.k n.st n.pad = ow at *
  generalize World.alloc (World.alloc (World.alloc w _) _) _ = w1 at *
  refine wp_region_B (w.heap.size + 1) 42 #[.int .i64 0, .int .i64 0, .int .i64 0] #[.int .i64 oh, .int .i64 ow, .int .i64 x.s.c] [0, 1, 2, 3, 4, 5, 6, 7, 9, 10, 11, 12, 13, 14, 15, 16, 18] [⟨8, [], MT.is (.int .i64 oh)⟩, ⟨17, [], MT.is (.int .i64 ow)⟩, ⟨19, [8, 17], MT.is (.agg #[.int .i64 oh, .int .i64 ow, .int .i64 x.s.c])⟩, ⟨20, [19], MT.done⟩] (by kernel_rfl) (by kernel_rfl) (fun _ _ d _ _ h => by cases d <;> exact h) BX.hr (fun w2 hE hB => ?_)
  have n2 : ∀ W, RB (w.heap.size + 1) 42 #[.int .i64 0, .int .i64 0, .int .i64 0] #[.int .i64 oh, .int .i64 ow, .int .i64 x.s.c] w2 W → W.cell? ⟨w.heap.size, 2, none⟩ = some (.int .i64 n.k) := fun W h => h.cell ((BX.hn.ext hE).cell 2) (by omega)
  have n3 : ∀ W, RB (w.heap.size + 1) 42 #[.int .i64 0, .int .i64 0, .int .i64 0] #[.int .i64 oh, .int .i64 ow, .int .i64 x.s.c] w2 W → W.cell? ⟨w.heap.size, 3, none⟩ = some (.int .i64 n.st) := fun W h => h.cell ((BX.hn.ext hE).cell 3) (by omega)
  have n4 : ∀ W, RB (w.heap.size + 1) 42 #[.int .i64 0, .int .i64 0, .int .i64 0] #[.int .i64 oh, .int .i64 ow, .int .i64 x.s.c] w2 W → W.cell? ⟨w.heap.size, 4, none⟩ = some (.int .i64 n.pad) := fun W h => h.cell ((BX.hn.ext hE).cell 4) (by omega)
  have s0 : ∀ W, RB (w.heap.size + 1) 42 #[.int .i64 0, .int .i64 0, .int .i64 0] #[.int .i64 oh, .int .i64 ow, .int .i64 x.s.c] w2 W → W.cell? ⟨w.heap.size + 1 + 1, 0, none⟩ = some (.int .i64 x.s.h) := fun W h => h.cell ((BX.hx.ext hE).cell 0) (by omega)
  have s1 : ∀ W, RB (w.heap.size + 1) 42 #[.int .i64 0, .int .i64 0, .int .i64 0] #[.int .i64 oh, .int .i64 ow, .int .i64 x.s.c] w2 W → W.cell? ⟨w.heap.size + 1 + 1, 1, none⟩ = some (.int .i64 x.s.w) := fun W h => h.cell ((BX.hx.ext hE).cell 1) (by omega)
  repeat (first | (refine wpP_pure rfl (by rfl) (fun W hW => by go_simp; with_reducible rfl) ?_; simp only [Act.put, List.setIfInBounds_toArray, List.set_cons_zero, List.set_cons_succ]) | (refine wpP_skip rfl (by rfl) ?_; simp only [Act.put, List.setIfInBounds_toArray, List.set_cons_zero, List.set_cons_succ]))
  refine ⟨?_, fun W hR => ?_⟩
  · simp only [rSteps, rNeed, rStep, both_top, tie, TP.top, TP.mine, MP.top, MP.mine, MT.mine, MT.tied, MT.done, MT.is, List.reverse_cons, List.reverse_nil, List.nil_append, List.cons_append, ME.is, MP.is, MP.done, ME.ints, ME.row, Region.wanted, yielded, List.getElem?_toArray, phi, dstAt, List.getElem?_cons_zero, List.getElem?_cons_succ, Option.bind_some, Act.put, List.setIfInBounds_toArray, List.set_cons_zero, List.set_cons_succ, and_true, forall_eq, reduceIte, Nat.reduceEqDiff, beq_iff_eq, Option.some.injEq, Bool.false_eq_true, reduceCtorEq, implies_true, true_and]
    refine ⟨fun W hR => ?_, fun W hR => ?_, fun W hR => ?_, fun W hR => ?_⟩
    · go_simp
      refine (hoh W hpk).mono ?_
      rintro e w' ⟨rfl, rfl⟩
      exact ⟨_, rfl, RB.refl _, rfl⟩
    · go_simp
      refine (how W hpk).mono ?_
      rintro e w' ⟨rfl, rfl⟩
      exact ⟨_, rfl, RB.refl _, rfl⟩
    · go_simp
      exact ⟨_, rfl, RB.refl _, rfl⟩
    · exact wp_store_B _ _ _ rfl rfl rfl (hB W hR) (by kernel_rfl) rfl (by simp [Value.oneCell']) ((hB W hR).elim Blk.setRow Blk.setRow)
  · simp only [rFin, envAt, TP.top, TP.mine, MP.top, MP.mine, MT.mine, MT.tied, MT.done, MT.is, List.map_cons, List.map_nil, true_implies, List.head?_cons, ME.is, MP.is, MP.done, ME.ints, ME.row, phi, dstAt, List.getElem?_cons_zero, List.getElem?_cons_succ, Option.bind_some, Act.put, List.setIfInBounds_toArray, List.set_cons_zero, List.set_cons_succ, and_true, forall_eq, reduceIte, Nat.reduceEqDiff, beq_iff_eq, Option.some.injEq, Bool.false_eq_true, reduceCtorEq, implies_true, true_and]
    intro v hD
    go_wp2
    refine bodyPost_ret (v := .agg #[.int .i64 oh, .int .i64 ow, .int .i64 x.s.c]) (results_cell_row Try.results76 _ _ (w.heap.size + 1) 42 _ (0, 0) _ rfl hD (by kernel_rfl : Try.prog.underlying 42 = some (.struct (Try.prog.fieldsOf 42))) rfl (by kernel_rfl)) rfl ?_
    exact ⟨by rw [HM2.out], Below.grown (BX.he.trans hE) hR.gr (BX.he.trans hE).size (fun k hk => by cases hk; omega)⟩
set_option maxRecDepth 8000 in
set_option maxHeartbeats 1600000 in
theorem rmade5 (n : Nd) (lv : Value) (x y : Vl) (w : World) (hv : Vls w lv [x]) (hpk : InK .i64 n.pad) (ho : n.op = 5) : Calls Try.prog 76 #[.agg #[.int .i64 n.op, n.inV, .int .i64 n.k, .int .i64 n.st, .int .i64 n.pad, .int .i64 n.out, .int .i64 n.mul, .int .i64 n.sh, .int .i64 n.zero, .int .i64 n.th, .int .i64 n.tw, .int .i64 n.tc, n.wV, n.bV], lv] w fun e w' => e = .returned (.agg #[.int .i64 (madeZ n x.s y.s).h, .int .i64 (madeZ n x.s y.s).w, .int .i64 (madeZ n x.s y.s).c]) ∧ Ext w w' := by
  obtain ⟨mz, hmz⟩ : ∃ mz, madeZ n x.s y.s = mz := ⟨_, rfl⟩
  rw [hmz]
  have HMZ := Lib.hid hmz
  clear hmz
  obtain ⟨A, c, rfl, hlc, hcm, hcc⟩ := hv.form
  unfold maxLen at hcm
  have BX := boxM w n x
  obtain ⟨b, off, rfl, bh, xc⟩ := hcc 0 x rfl
  have xc0 : w.cell? ⟨b, off, none⟩ = some (.int .i64 x.s.h) := by simpa using xc 0 _ rfl
  have xc1 : w.cell? ⟨b, off + 1, none⟩ = some (.int .i64 x.s.w) := by simpa using xc 1 _ rfl
  have xc2 : w.cell? ⟨b, off + 2, none⟩ = some (.int .i64 x.s.c) := by simpa using xc 2 _ rfl
  have hne : b < w.heap.size := bh
  clear xc hcc
  go_enter Try.func76, Try.ntmps76
  go_upto_region 10 with fail
  have HM2 : Hid (mz = ⟨outZ x.s.h n.k n.st n.pad, outZ x.s.w n.k n.st n.pad, x.s.c⟩) := by show _ = _; rw [← HMZ.out]; simp only [madeZ, ho, reduceIte, Int.reduceEq]
  rw [ho] at BX
  clear ho
  have hoh := fun W => rOut_calls x.s.h n.k n.st n.pad W
  have how := fun W => rOut_calls x.s.w n.k n.st n.pad W
  generalize outZ x.s.h n.k n.st n.pad = oh at *
  generalize outZ x.s.w n.k n.st n.pad = ow at *
  generalize World.alloc (World.alloc (World.alloc w _) _) _ = w1 at *
  refine wp_region_B (w.heap.size + 1) 42 #[.int .i64 0, .int .i64 0, .int .i64 0] #[.int .i64 oh, .int .i64 ow, .int .i64 x.s.c] [0, 1, 2, 3, 4, 5, 6, 7, 9, 10, 11, 12, 13, 14, 15, 16, 18] [⟨8, [], MT.is (.int .i64 oh)⟩, ⟨17, [], MT.is (.int .i64 ow)⟩, ⟨19, [8, 17], MT.is (.agg #[.int .i64 oh, .int .i64 ow, .int .i64 x.s.c])⟩, ⟨20, [19], MT.done⟩] (by kernel_rfl) (by kernel_rfl) (fun _ _ d _ _ h => by cases d <;> exact h) BX.hr (fun w2 hE hB => ?_)
  have n2 : ∀ W, RB (w.heap.size + 1) 42 #[.int .i64 0, .int .i64 0, .int .i64 0] #[.int .i64 oh, .int .i64 ow, .int .i64 x.s.c] w2 W → W.cell? ⟨w.heap.size, 2, none⟩ = some (.int .i64 n.k) := fun W h => h.cell ((BX.hn.ext hE).cell 2) (by omega)
  have n3 : ∀ W, RB (w.heap.size + 1) 42 #[.int .i64 0, .int .i64 0, .int .i64 0] #[.int .i64 oh, .int .i64 ow, .int .i64 x.s.c] w2 W → W.cell? ⟨w.heap.size, 3, none⟩ = some (.int .i64 n.st) := fun W h => h.cell ((BX.hn.ext hE).cell 3) (by omega)
  have n4 : ∀ W, RB (w.heap.size + 1) 42 #[.int .i64 0, .int .i64 0, .int .i64 0] #[.int .i64 oh, .int .i64 ow, .int .i64 x.s.c] w2 W → W.cell? ⟨w.heap.size, 4, none⟩ = some (.int .i64 n.pad) := fun W h => h.cell ((BX.hn.ext hE).cell 4) (by omega)
  have s0 : ∀ W, RB (w.heap.size + 1) 42 #[.int .i64 0, .int .i64 0, .int .i64 0] #[.int .i64 oh, .int .i64 ow, .int .i64 x.s.c] w2 W → W.cell? ⟨w.heap.size + 1 + 1, 0, none⟩ = some (.int .i64 x.s.h) := fun W h => h.cell ((BX.hx.ext hE).cell 0) (by omega)
  have s1 : ∀ W, RB (w.heap.size + 1) 42 #[.int .i64 0, .int .i64 0, .int .i64 0] #[.int .i64 oh, .int .i64 ow, .int .i64 x.s.c] w2 W → W.cell? ⟨w.heap.size + 1 + 1, 1, none⟩ = some (.int .i64 x.s.w) := fun W h => h.cell ((BX.hx.ext hE).cell 1) (by omega)
  repeat (first | (refine wpP_pure rfl (by rfl) (fun W hW => by go_simp; with_reducible rfl) ?_; simp only [Act.put, List.setIfInBounds_toArray, List.set_cons_zero, List.set_cons_succ]) | (refine wpP_skip rfl (by rfl) ?_; simp only [Act.put, List.setIfInBounds_toArray, List.set_cons_zero, List.set_cons_succ]))
  refine ⟨?_, fun W hR => ?_⟩
  · simp only [rSteps, rNeed, rStep, both_top, tie, TP.top, TP.mine, MP.top, MP.mine, MT.mine, MT.tied, MT.done, MT.is, List.reverse_cons, List.reverse_nil, List.nil_append, List.cons_append, ME.is, MP.is, MP.done, ME.ints, ME.row, Region.wanted, yielded, List.getElem?_toArray, phi, dstAt, List.getElem?_cons_zero, List.getElem?_cons_succ, Option.bind_some, Act.put, List.setIfInBounds_toArray, List.set_cons_zero, List.set_cons_succ, and_true, forall_eq, reduceIte, Nat.reduceEqDiff, beq_iff_eq, Option.some.injEq, Bool.false_eq_true, reduceCtorEq, implies_true, true_and]
    refine ⟨fun W hR => ?_, fun W hR => ?_, fun W hR => ?_, fun W hR => ?_⟩
    · go_simp
      refine (hoh W hpk).mono ?_
      rintro e w' ⟨rfl, rfl⟩
      exact ⟨_, rfl, RB.refl _, rfl⟩
    · go_simp
      refine (how W hpk).mono ?_
      rintro e w' ⟨rfl, rfl⟩
      exact ⟨_, rfl, RB.refl _, rfl⟩
    · go_simp
      exact ⟨_, rfl, RB.refl _, rfl⟩
    · exact wp_store_B _ _ _ rfl rfl rfl (hB W hR) (by kernel_rfl) rfl (by simp [Value.oneCell']) ((hB W hR).elim Blk.setRow Blk.setRow)
  · simp only [rFin, envAt, TP.top, TP.mine, MP.top, MP.mine, MT.mine, MT.tied, MT.done, MT.is, List.map_cons, List.map_nil, true_implies, List.head?_cons, ME.is, MP.is, MP.done, ME.ints, ME.row, phi, dstAt, List.getElem?_cons_zero, List.getElem?_cons_succ, Option.bind_some, Act.put, List.setIfInBounds_toArray, List.set_cons_zero, List.set_cons_succ, and_true, forall_eq, reduceIte, Nat.reduceEqDiff, beq_iff_eq, Option.some.injEq, Bool.false_eq_true, reduceCtorEq, implies_true, true_and]
    intro v hD
    go_wp2
    refine bodyPost_ret (v := .agg #[.int .i64 oh, .int .i64 ow, .int .i64 x.s.c]) (results_cell_row Try.results76 _ _ (w.heap.size + 1) 42 _ (0, 0) _ rfl hD (by kernel_rfl : Try.prog.underlying 42 = some (.struct (Try.prog.fieldsOf 42))) rfl (by kernel_rfl)) rfl ?_
    exact ⟨by rw [HM2.out], Below.grown (BX.he.trans hE) hR.gr (BX.he.trans hE).size (fun k hk => by cases hk; omega)⟩
set_option maxRecDepth 8000 in
set_option maxHeartbeats 1600000 in
theorem rmade3 (n : Nd) (lv : Value) (x y : Vl) (w : World) (hv : Vls w lv [x]) (ho : n.op = 3) : Calls Try.prog 76 #[.agg #[.int .i64 n.op, n.inV, .int .i64 n.k, .int .i64 n.st, .int .i64 n.pad, .int .i64 n.out, .int .i64 n.mul, .int .i64 n.sh, .int .i64 n.zero, .int .i64 n.th, .int .i64 n.tw, .int .i64 n.tc, n.wV, n.bV], lv] w fun e w' => e = .returned (.agg #[.int .i64 (madeZ n x.s y.s).h, .int .i64 (madeZ n x.s y.s).w, .int .i64 (madeZ n x.s y.s).c]) ∧ Ext w w' := by
  obtain ⟨mz, hmz⟩ : ∃ mz, madeZ n x.s y.s = mz := ⟨_, rfl⟩
  rw [hmz]
  have HMZ := Lib.hid hmz
  clear hmz
  obtain ⟨A, c, rfl, hlc, hcm, hcc⟩ := hv.form
  unfold maxLen at hcm
  have BX := boxM w n x
  obtain ⟨b, off, rfl, bh, xc⟩ := hcc 0 x rfl
  have xc0 : w.cell? ⟨b, off, none⟩ = some (.int .i64 x.s.h) := by simpa using xc 0 _ rfl
  have xc1 : w.cell? ⟨b, off + 1, none⟩ = some (.int .i64 x.s.w) := by simpa using xc 1 _ rfl
  have xc2 : w.cell? ⟨b, off + 2, none⟩ = some (.int .i64 x.s.c) := by simpa using xc 2 _ rfl
  have hne : b < w.heap.size := bh
  clear xc hcc
  go_enter Try.func76, Try.ntmps76
  have HM2 : Hid (mz = ⟨1, 1, n.out⟩) := by show _ = _; rw [← HMZ.out]; simp only [madeZ, ho, reduceIte, Int.reduceEq]
  go_wp2
  refine bodyPost_ret (v := .agg #[.int .i64 1, .int .i64 1, .int .i64 n.out]) (results_cell_row Try.results76 _ _ (w.heap.size + 1) 42 _ (0, 0) _ rfl ((blk2 _ _ _ _ _).1) (by kernel_rfl : Try.prog.underlying 42 = some (.struct (Try.prog.fieldsOf 42))) rfl (by kernel_rfl)) rfl ?_
  exact ⟨by rw [HM2.out], (blk2 _ _ _ _ _).2⟩
set_option maxRecDepth 8000 in
set_option maxHeartbeats 1600000 in
theorem rmade9 (n : Nd) (lv : Value) (x y : Vl) (w : World) (hv : Vls w lv [x]) (hxo : x.s.ok = true) (ho : n.op = 9) : Calls Try.prog 76 #[.agg #[.int .i64 n.op, n.inV, .int .i64 n.k, .int .i64 n.st, .int .i64 n.pad, .int .i64 n.out, .int .i64 n.mul, .int .i64 n.sh, .int .i64 n.zero, .int .i64 n.th, .int .i64 n.tw, .int .i64 n.tc, n.wV, n.bV], lv] w fun e w' => e = .returned (.agg #[.int .i64 (madeZ n x.s y.s).h, .int .i64 (madeZ n x.s y.s).w, .int .i64 (madeZ n x.s y.s).c]) ∧ Ext w w' := by
  obtain ⟨mz, hmz⟩ : ∃ mz, madeZ n x.s y.s = mz := ⟨_, rfl⟩
  rw [hmz]
  have HMZ := Lib.hid hmz
  clear hmz
  obtain ⟨A, c, rfl, hlc, hcm, hcc⟩ := hv.form
  unfold maxLen at hcm
  have BX := boxM w n x
  obtain ⟨b, off, rfl, bh, xc⟩ := hcc 0 x rfl
  have xc0 : w.cell? ⟨b, off, none⟩ = some (.int .i64 x.s.h) := by simpa using xc 0 _ rfl
  have xc1 : w.cell? ⟨b, off + 1, none⟩ = some (.int .i64 x.s.w) := by simpa using xc 1 _ rfl
  have xc2 : w.cell? ⟨b, off + 2, none⟩ = some (.int .i64 x.s.c) := by simpa using xc 2 _ rfl
  have hne : b < w.heap.size := bh
  clear xc hcc
  obtain ⟨h1, h2, h3, h4, h5, h6⟩ := Sz.bounds hxo
  clear hxo
  go_enter Try.func76, Try.ntmps76
  have HM2 : Hid (mz = ⟨x.s.h + 2, x.s.w + 2, x.s.c⟩) := by show _ = _; rw [← HMZ.out]; simp only [madeZ, ho, reduceIte, Int.reduceEq]
  go_wp2
  refine bodyPost_ret (v := .agg #[.int .i64 (x.s.h + 2), .int .i64 (x.s.w + 2), .int .i64 x.s.c]) (results_cell_row Try.results76 _ _ (w.heap.size + 1) 42 _ (0, 0) _ rfl ((blk2 _ _ _ _ _).1) (by kernel_rfl : Try.prog.underlying 42 = some (.struct (Try.prog.fieldsOf 42))) rfl (by kernel_rfl)) rfl ?_
  exact ⟨by rw [HM2.out], (blk2 _ _ _ _ _).2⟩
set_option maxRecDepth 8000 in
set_option maxHeartbeats 1600000 in
theorem rmade8 (n : Nd) (lv : Value) (x y : Vl) (w : World) (hv : Vls w lv [x]) (ho : n.op = 8) : Calls Try.prog 76 #[.agg #[.int .i64 n.op, n.inV, .int .i64 n.k, .int .i64 n.st, .int .i64 n.pad, .int .i64 n.out, .int .i64 n.mul, .int .i64 n.sh, .int .i64 n.zero, .int .i64 n.th, .int .i64 n.tw, .int .i64 n.tc, n.wV, n.bV], lv] w fun e w' => e = .returned (.agg #[.int .i64 (madeZ n x.s y.s).h, .int .i64 (madeZ n x.s y.s).w, .int .i64 (madeZ n x.s y.s).c]) ∧ Ext w w' := by
  obtain ⟨mz, hmz⟩ : ∃ mz, madeZ n x.s y.s = mz := ⟨_, rfl⟩
  rw [hmz]
  have HMZ := Lib.hid hmz
  clear hmz
  obtain ⟨A, c, rfl, hlc, hcm, hcc⟩ := hv.form
  unfold maxLen at hcm
  have BX := boxM w n x
  obtain ⟨b, off, rfl, bh, xc⟩ := hcc 0 x rfl
  have xc0 : w.cell? ⟨b, off, none⟩ = some (.int .i64 x.s.h) := by simpa using xc 0 _ rfl
  have xc1 : w.cell? ⟨b, off + 1, none⟩ = some (.int .i64 x.s.w) := by simpa using xc 1 _ rfl
  have xc2 : w.cell? ⟨b, off + 2, none⟩ = some (.int .i64 x.s.c) := by simpa using xc 2 _ rfl
  have hne : b < w.heap.size := bh
  clear xc hcc
  go_enter Try.func76, Try.ntmps76
  have HM2 : Hid (mz = ⟨x.s.h, x.s.w, x.s.c⟩) := by show _ = _; rw [← HMZ.out]; simp only [madeZ, ho, reduceIte, Int.reduceEq]
  go_wp2
  refine bodyPost_ret (v := .agg #[.int .i64 x.s.h, .int .i64 x.s.w, .int .i64 x.s.c]) (results_cell_row Try.results76 _ _ (w.heap.size + 1) 42 _ (0, 0) _ rfl ((blk2 _ _ _ _ _).1) (by kernel_rfl : Try.prog.underlying 42 = some (.struct (Try.prog.fieldsOf 42))) rfl (by kernel_rfl)) rfl ?_
  exact ⟨by rw [HM2.out], (blk2 _ _ _ _ _).2⟩
set_option maxRecDepth 8000 in
set_option maxHeartbeats 1600000 in
theorem rmade12 (n : Nd) (lv : Value) (x y : Vl) (w : World) (hv : Vls w lv [x]) (ho : n.op = 12) : Calls Try.prog 76 #[.agg #[.int .i64 n.op, n.inV, .int .i64 n.k, .int .i64 n.st, .int .i64 n.pad, .int .i64 n.out, .int .i64 n.mul, .int .i64 n.sh, .int .i64 n.zero, .int .i64 n.th, .int .i64 n.tw, .int .i64 n.tc, n.wV, n.bV], lv] w fun e w' => e = .returned (.agg #[.int .i64 (madeZ n x.s y.s).h, .int .i64 (madeZ n x.s y.s).w, .int .i64 (madeZ n x.s y.s).c]) ∧ Ext w w' := by
  obtain ⟨mz, hmz⟩ : ∃ mz, madeZ n x.s y.s = mz := ⟨_, rfl⟩
  rw [hmz]
  have HMZ := Lib.hid hmz
  clear hmz
  obtain ⟨A, c, rfl, hlc, hcm, hcc⟩ := hv.form
  unfold maxLen at hcm
  have BX := boxM w n x
  obtain ⟨b, off, rfl, bh, xc⟩ := hcc 0 x rfl
  have xc0 : w.cell? ⟨b, off, none⟩ = some (.int .i64 x.s.h) := by simpa using xc 0 _ rfl
  have xc1 : w.cell? ⟨b, off + 1, none⟩ = some (.int .i64 x.s.w) := by simpa using xc 1 _ rfl
  have xc2 : w.cell? ⟨b, off + 2, none⟩ = some (.int .i64 x.s.c) := by simpa using xc 2 _ rfl
  have hne : b < w.heap.size := bh
  clear xc hcc
  go_enter Try.func76, Try.ntmps76
  have HM2 : Hid (mz = ⟨x.s.h, x.s.w, x.s.c⟩) := by show _ = _; rw [← HMZ.out]; simp only [madeZ, ho, reduceIte, Int.reduceEq]
  go_wp2
  refine bodyPost_ret (v := .agg #[.int .i64 x.s.h, .int .i64 x.s.w, .int .i64 x.s.c]) (results_cell_row Try.results76 _ _ (w.heap.size + 1) 42 _ (0, 0) _ rfl ((blk2 _ _ _ _ _).1) (by kernel_rfl : Try.prog.underlying 42 = some (.struct (Try.prog.fieldsOf 42))) rfl (by kernel_rfl)) rfl ?_
  exact ⟨by rw [HM2.out], (blk2 _ _ _ _ _).2⟩

end Go.Proofs.Ytmddlhfahfelpaa
