/- The walk of the reference's Same. -/
import Derived.Test.YtdhdbmfipkppiaaModK
import Derived.Test.YtdhdbmfipkppiaaModH
namespace Go.Proofs.Ytdhdbmfipkppiaa
set_option linter.unusedSimpArgs false
set_option linter.unusedVariables false
set_option linter.unnecessarySimpa false
open Go.RowKit

theorem gc_eq_iff (g h : Gr) : g.c = h.c ↔ g.ins = h.ins ∧ g.outs = h.outs ∧ g.nodes.map Nd.c = h.nodes.map Nd.c := by
  constructor
  · intro e
    exact ⟨congrArg Gc.ins e, congrArg Gc.outs e, congrArg Gc.nodes e⟩
  · rintro ⟨h1, h2, h3⟩
    show (⟨g.ins, g.nodes.map Nd.c, g.outs⟩ : Gc) = ⟨h.ins, h.nodes.map Nd.c, h.outs⟩
    rw [h1, h2, h3]

set_option maxRecDepth 20000 in
set_option maxHeartbeats 6400000 in
theorem same_calls (g h : Gr) (w : World) (hg : GrAt w g) (hh : GrAt w h) :
    Calls Try.prog 20 #[.agg #[g.iV, g.nV, g.oV], .agg #[h.iV, h.nV, h.oV]] w fun e w' => e = .returned (.bool (decide (g.c = h.c))) ∧ Ext w w' := by
  have hE1 := (ext_alloc w (.cells #[g.iV, g.nV, g.oV] 26)).trans (ext_alloc _ (.cells #[h.iV, h.nV, h.oV] 26))
  have hb1 := (Blk.new w #[g.iV, g.nV, g.oV] 26).ext (ext_alloc _ (.cells #[h.iV, h.nV, h.oV] 26))
  have hb2 := Blk.new (w.alloc (.cells #[g.iV, g.nV, g.oV] 26)) #[h.iV, h.nV, h.oV] 26
  rw [show (w.alloc (.cells #[g.iV, g.nV, g.oV] 26)).heap.size = w.heap.size + 1 from by simp] at hb2
  have HNE : Hid (∀ (e : Ending) (w' : World), e = .returned (.bool false) → g.c ≠ h.c → Ext w w' → (e = .returned (.bool (decide (g.c = h.c))) ∧ Ext w w')) := fun (e : Ending) (w' : World) h1 h2 h3 => ⟨by rw [h1, decide_eq_false h2], h3⟩
  have hvs := fun W (e : Ext w W) => sameVls_calls g.iV h.iV _ _ W (hg.ins.ext e) (hh.ins.ext e)
  have hio := fun W (e : Ext w W) => sameInts_calls g.oV h.oV _ _ W (hg.outs.ext e) (hh.outs.ext e)
  obtain ⟨An, cn, en, hn1, hn2, _⟩ := id (SRow.form hg.nodes (fun _ => rfl) (by omega))
  obtain ⟨Bn, dn, fn, hm1, hm2, _⟩ := id (SRow.form hh.nodes (fun _ => rfl) (by omega))
  unfold maxLen at hn2 hm2
  have EN := Lib.hid en
  have FN := Lib.hid fn
  clear en fn
  go_enter Try.func20, Try.ntmps20
  go_upto_region 1 with fail
  generalize World.alloc (World.alloc w _) _ = w1 at *
  have a0 : World.cell? w1 ⟨w.heap.size, 0, none⟩ = some g.iV := hb1.cell 0
  have b0 : World.cell? w1 ⟨w.heap.size + 1, 0, none⟩ = some h.iV := hb2.cell 0
  go_upto_region 2 with (go_at_call 56; refine (hvs _ hE1).mono ?_; rintro e w2 ⟨rfl, h2⟩)
  clear a0 b0 hvs
  replace hb1 := hb1.ext h2
  replace hb2 := hb2.ext h2
  have hE2 := hE1.trans h2
  clear hE1 h2
  have a2 : World.cell? w2 ⟨w.heap.size, 2, none⟩ = some g.oV := hb1.cell 2
  have b2 : World.cell? w2 ⟨w.heap.size + 1, 2, none⟩ = some h.oV := hb2.cell 2
  go_upto_region 3 with (go_at_call 57; refine (hio _ hE2).mono ?_; rintro e w3 ⟨rfl, h3⟩)
  clear a2 b2 hio
  replace hb1 := hb1.ext h3
  replace hb2 := hb2.ext h3
  have hE3 := hE2.trans h3
  clear hE2 h3
  have a1 : World.cell? w3 ⟨w.heap.size, 1, none⟩ = some (.slice An g.nodes.length cn) := by rw [← EN.out]; exact hb1.cell 1
  have b1 : World.cell? w3 ⟨w.heap.size + 1, 1, none⟩ = some (.slice Bn h.nodes.length dn) := by rw [← FN.out]; exact hb2.cell 1
  by_cases hi : g.ins = h.ins
  case neg =>
    have hne := Lib.hid (show g.c ≠ h.c from fun e => hi ((gc_eq_iff g h).1 e).1)
    rw [decide_eq_false hi]
    clear hi
    go_wp2_with fail
    go_ret
    exact HNE.out _ _ rfl hne.out hE3
  by_cases ho : g.outs = h.outs
  case neg =>
    have hne := Lib.hid (show g.c ≠ h.c from fun e => ho ((gc_eq_iff g h).1 e).2.1)
    rw [decide_eq_false ho, decide_eq_true hi]
    clear hi ho
    go_wp2_with fail
    go_ret
    exact HNE.out _ _ rfl hne.out hE3
  by_cases hl : g.nodes.length = h.nodes.length
  case neg =>
    have hne := Lib.hid (show g.c ≠ h.c from fun e => hl (by have := congrArg List.length ((gc_eq_iff g h).1 e).2.2; simpa using this))
    have t1 : ((g.nodes.length : Int) != (h.nodes.length : Int)) = true := by rw [bne_iff_ne]; omega
    rw [decide_eq_true ho, decide_eq_true hi]
    clear hi ho hl
    go_wp2_with fail
    go_ret
    exact HNE.out _ _ rfl hne.out hE3
  rw [decide_eq_true ho, decide_eq_true hi]
  have t1 : ((g.nodes.length : Int) != (h.nodes.length : Int)) = false := by simp [hl]
  have HI := Lib.hid hi
  have HO := Lib.hid ho
  have HL := Lib.hid hl
  clear hi ho hl
  go_wp2_with fail
  clear a1 b1 t1
  go_loopw [7] (fun i wr => ∃ k : Nat, k ≤ g.nodes.length ∧ i = .int .i64 k ∧ Hid ((g.nodes.map Nd.c).take k = (h.nodes.map Nd.c).take k) ∧ Ext w3 wr) (fun i _ => g.nodes.length - (intOf i).toNat)
  case atStart => exact ⟨0, by omega, rfl, rfl, Ext.refl _⟩
  case round =>
    obtain ⟨k, hk, rfl, ht, hE⟩ := hrel
    have a1 : World.cell? wr ⟨w.heap.size, 1, none⟩ = some (.slice An g.nodes.length cn) := by rw [← EN.out]; exact (hb1.ext hE).cell 1
    by_cases hlt : k < g.nodes.length
    · have hlt2 : k < h.nodes.length := by have := HL.out; omega
      obtain ⟨_, _, e1, _, _, hc1⟩ := SRow.form (Row.below hg.nodes (hE3.trans hE)) (fun _ => rfl) (by omega)
      rw [EN.out] at e1
      cases e1
      obtain ⟨_, _, e2, _, _, hc2⟩ := SRow.form (Row.below hh.nodes (hE3.trans hE)) (fun _ => rfl) (by omega)
      rw [FN.out] at e2
      cases e2
      have hs1 : g.nodes[k]? = some g.nodes[k] := by simp [hlt]
      have hs2 : h.nodes[k]? = some h.nodes[k] := by simp [hlt2]
      obtain ⟨p, o, rfl, _, hx⟩ := hc1 k _ hs1
      obtain ⟨q, o2, rfl, _, hy⟩ := hc2 k _ hs2
      have hxn := hg.each _ (List.getElem_mem hlt)
      have hyn := hh.each _ (List.getElem_mem hlt2)
      have HX := Lib.hid (show (g.nodes.map Nd.c)[k]? = some (g.nodes[k]).c by simp [hlt])
      have HY := Lib.hid (show (h.nodes.map Nd.c)[k]? = some (h.nodes[k]).c by simp [hlt2])
      clear hc1 hc2 hs1 hs2
      generalize g.nodes[k] = x at *
      generalize h.nodes[k] = y at *
      have hsn := fun W (e : Ext w W) => sameNode_calls x y W (hxn.ext e) (hyn.ext e)
      obtain ⟨z, hz⟩ : ∃ z, decide (x.c = y.c) = z := ⟨_, rfl⟩
      rw [hz] at hsn
      go_upto_region 8 with fail
      clear a1
      have hE0 := hE3.trans hE
      have hbb1 := hb1.ext hE
      have hbb2 := hb2.ext hE
      refine wp_region_X [0, 1, 2, 3, 4, 5, 6, 7, 8, 9] [⟨10, [], ME.is (.bool z)⟩, ⟨11, [10], ME.is (.bool z)⟩] (by kernel_rfl) (by kernel_rfl) (fun _ _ d _ _ h => by cases d <;> exact h) (fun w4 hE4 => ?_)
      have c1 : ∀ W, Ext w4 W → W.cell? ⟨w.heap.size, 1, none⟩ = some (.slice (some ⟨p, o, none⟩) g.nodes.length cn) := fun W h => by rw [← EN.out]; exact ((hbb1.ext hE4).ext h).cell 1
      have c2 : ∀ W, Ext w4 W → W.cell? ⟨w.heap.size + 1, 1, none⟩ = some (.slice (some ⟨q, o2, none⟩) h.nodes.length dn) := fun W h' => by rw [← FN.out]; exact ((hbb2.ext hE4).ext h').cell 1
      have x0 : ∀ W, Ext w4 W → W.cell? ⟨p, o + k * 14, none⟩ = some (.int .i64 x.op) := cell_ext (cell_ext (hx 0 _ rfl) _ hE4)
      have x1 : ∀ W, Ext w4 W → W.cell? ⟨p, o + k * 14 + 1, none⟩ = some x.inV := cell_ext (cell_ext (hx 1 _ rfl) _ hE4)
      have x2 : ∀ W, Ext w4 W → W.cell? ⟨p, o + k * 14 + 2, none⟩ = some (.int .i64 x.k) := cell_ext (cell_ext (hx 2 _ rfl) _ hE4)
      have x3 : ∀ W, Ext w4 W → W.cell? ⟨p, o + k * 14 + 3, none⟩ = some (.int .i64 x.st) := cell_ext (cell_ext (hx 3 _ rfl) _ hE4)
      have x4 : ∀ W, Ext w4 W → W.cell? ⟨p, o + k * 14 + 4, none⟩ = some (.int .i64 x.pad) := cell_ext (cell_ext (hx 4 _ rfl) _ hE4)
      have x5 : ∀ W, Ext w4 W → W.cell? ⟨p, o + k * 14 + 5, none⟩ = some (.int .i64 x.out) := cell_ext (cell_ext (hx 5 _ rfl) _ hE4)
      have x6 : ∀ W, Ext w4 W → W.cell? ⟨p, o + k * 14 + 6, none⟩ = some (.int .i64 x.mul) := cell_ext (cell_ext (hx 6 _ rfl) _ hE4)
      have x7 : ∀ W, Ext w4 W → W.cell? ⟨p, o + k * 14 + 7, none⟩ = some (.int .i64 x.sh) := cell_ext (cell_ext (hx 7 _ rfl) _ hE4)
      have x8 : ∀ W, Ext w4 W → W.cell? ⟨p, o + k * 14 + 8, none⟩ = some (.int .i64 x.zero) := cell_ext (cell_ext (hx 8 _ rfl) _ hE4)
      have x9 : ∀ W, Ext w4 W → W.cell? ⟨p, o + k * 14 + 9, none⟩ = some (.int .i64 x.th) := cell_ext (cell_ext (hx 9 _ rfl) _ hE4)
      have x10 : ∀ W, Ext w4 W → W.cell? ⟨p, o + k * 14 + 10, none⟩ = some (.int .i64 x.tw) := cell_ext (cell_ext (hx 10 _ rfl) _ hE4)
      have x11 : ∀ W, Ext w4 W → W.cell? ⟨p, o + k * 14 + 11, none⟩ = some (.int .i64 x.tc) := cell_ext (cell_ext (hx 11 _ rfl) _ hE4)
      have x12 : ∀ W, Ext w4 W → W.cell? ⟨p, o + k * 14 + 12, none⟩ = some x.wV := cell_ext (cell_ext (hx 12 _ rfl) _ hE4)
      have x13 : ∀ W, Ext w4 W → W.cell? ⟨p, o + k * 14 + 13, none⟩ = some x.bV := cell_ext (cell_ext (hx 13 _ rfl) _ hE4)
      have y0 : ∀ W, Ext w4 W → W.cell? ⟨q, o2 + k * 14, none⟩ = some (.int .i64 y.op) := cell_ext (cell_ext (hy 0 _ rfl) _ hE4)
      have y1 : ∀ W, Ext w4 W → W.cell? ⟨q, o2 + k * 14 + 1, none⟩ = some y.inV := cell_ext (cell_ext (hy 1 _ rfl) _ hE4)
      have y2 : ∀ W, Ext w4 W → W.cell? ⟨q, o2 + k * 14 + 2, none⟩ = some (.int .i64 y.k) := cell_ext (cell_ext (hy 2 _ rfl) _ hE4)
      have y3 : ∀ W, Ext w4 W → W.cell? ⟨q, o2 + k * 14 + 3, none⟩ = some (.int .i64 y.st) := cell_ext (cell_ext (hy 3 _ rfl) _ hE4)
      have y4 : ∀ W, Ext w4 W → W.cell? ⟨q, o2 + k * 14 + 4, none⟩ = some (.int .i64 y.pad) := cell_ext (cell_ext (hy 4 _ rfl) _ hE4)
      have y5 : ∀ W, Ext w4 W → W.cell? ⟨q, o2 + k * 14 + 5, none⟩ = some (.int .i64 y.out) := cell_ext (cell_ext (hy 5 _ rfl) _ hE4)
      have y6 : ∀ W, Ext w4 W → W.cell? ⟨q, o2 + k * 14 + 6, none⟩ = some (.int .i64 y.mul) := cell_ext (cell_ext (hy 6 _ rfl) _ hE4)
      have y7 : ∀ W, Ext w4 W → W.cell? ⟨q, o2 + k * 14 + 7, none⟩ = some (.int .i64 y.sh) := cell_ext (cell_ext (hy 7 _ rfl) _ hE4)
      have y8 : ∀ W, Ext w4 W → W.cell? ⟨q, o2 + k * 14 + 8, none⟩ = some (.int .i64 y.zero) := cell_ext (cell_ext (hy 8 _ rfl) _ hE4)
      have y9 : ∀ W, Ext w4 W → W.cell? ⟨q, o2 + k * 14 + 9, none⟩ = some (.int .i64 y.th) := cell_ext (cell_ext (hy 9 _ rfl) _ hE4)
      have y10 : ∀ W, Ext w4 W → W.cell? ⟨q, o2 + k * 14 + 10, none⟩ = some (.int .i64 y.tw) := cell_ext (cell_ext (hy 10 _ rfl) _ hE4)
      have y11 : ∀ W, Ext w4 W → W.cell? ⟨q, o2 + k * 14 + 11, none⟩ = some (.int .i64 y.tc) := cell_ext (cell_ext (hy 11 _ rfl) _ hE4)
      have y12 : ∀ W, Ext w4 W → W.cell? ⟨q, o2 + k * 14 + 12, none⟩ = some y.wV := cell_ext (cell_ext (hy 12 _ rfl) _ hE4)
      have y13 : ∀ W, Ext w4 W → W.cell? ⟨q, o2 + k * 14 + 13, none⟩ = some y.bV := cell_ext (cell_ext (hy 13 _ rfl) _ hE4)
      repeat (first | (refine wpP_pure rfl (by rfl) (fun W hW => by go_simp; with_reducible rfl) ?_; simp only [Act.put, List.setIfInBounds_toArray, List.set_cons_zero, List.set_cons_succ]) | (refine wpP_skip rfl (by rfl) ?_; simp only [Act.put, List.setIfInBounds_toArray, List.set_cons_zero, List.set_cons_succ]))
      clear x0 y0 x1 y1 x2 y2 x3 y3 x4 y4 x5 y5 x6 y6 x7 y7 x8 y8 x9 y9 x10 y10 x11 y11 x12 y12 x13 y13 c1 c2 hx hy
      refine ⟨?_, fun W hR => ?_⟩
      · simp only [rSteps, rNeed, rStep, both_top, tie, TP.top, TP.mine, MP.top, MP.mine, MT.mine, MT.tied, MT.done, MT.is, List.reverse_cons, List.reverse_nil, List.nil_append, List.cons_append, ME.is, MP.is, MP.done, ME.ints, ME.row, Region.wanted, yielded, List.getElem?_toArray, phi, dstAt, List.getElem?_cons_zero, List.getElem?_cons_succ, Option.bind_some, Act.put, List.setIfInBounds_toArray, List.set_cons_zero, List.set_cons_succ, and_true, forall_eq, reduceIte, Nat.reduceEqDiff, beq_iff_eq, Option.some.injEq, Bool.false_eq_true, reduceCtorEq, implies_true, true_and]
        refine ⟨fun W hR => ?_, fun W hR => ?_⟩
        · go_simp
          refine (hsn W (hE0.trans (hE4.trans hR))).mono ?_
          rintro e w' ⟨rfl, h1⟩
          exact ⟨_, rfl, h1, rfl⟩
        · (go_simp; exact ⟨_, rfl, Ext.refl _, rfl⟩)
      · simp only [rFin, envAt, TP.top, TP.mine, MP.top, MP.mine, MT.mine, MT.tied, MT.done, MT.is, List.map_cons, List.map_nil, true_implies, List.head?_cons, ME.is, MP.is, MP.done, ME.ints, ME.row, phi, dstAt, List.getElem?_cons_zero, List.getElem?_cons_succ, Option.bind_some, Act.put, List.setIfInBounds_toArray, List.set_cons_zero, List.set_cons_succ, and_true, forall_eq, reduceIte, Nat.reduceEqDiff, beq_iff_eq, Option.some.injEq, Bool.false_eq_true, reduceCtorEq, implies_true, true_and]
        have hEW := hE.trans (hE4.trans hR)
        cases z with
        | true =>
          have HTK := Lib.hid (take_eq ht.out HX.out HY.out (of_decide_eq_true hz))
          clear hz hsn
          go_wp2_with fail
          go_roundw
          case rel => exact ⟨k + 1, by omega, by go_num, HTK, hEW⟩
          case measure => simp [intOf]; omega
        | false =>
          have HTK := Lib.hid (take_ne HX.out HY.out (of_decide_eq_false hz))
          clear hz hsn
          go_wp2_with fail
          go_ret
          exact HNE.out _ _ rfl (fun e => HTK.out ((gc_eq_iff g h).1 e).2.2) (hE3.trans hEW)
    · have hab : g.nodes.map Nd.c = h.nodes.map Nd.c := by
        have h1 := ht.out
        have h2 := HL.out
        rw [List.take_of_length_le (by rw [List.length_map]; omega), List.take_of_length_le (by rw [List.length_map]; omega)] at h1
        exact h1
      have HAB := Lib.hid hab
      clear hab
      go_wp2_with fail
      go_ret
      exact ⟨ret_bool (by rw [decide_eq_true]; exact (gc_eq_iff g h).2 ⟨HI.out, HO.out, HAB.out⟩), hE3.trans hE⟩

end Go.Proofs.Ytdhdbmfipkppiaa
