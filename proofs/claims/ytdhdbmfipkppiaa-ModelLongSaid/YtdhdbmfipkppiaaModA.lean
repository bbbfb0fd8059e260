/- The walk of the law ModelLong. -/
import Derived.Test.YtdhdbmfipkppiaaModL
import Derived.Test.YtdhdbmfipkppiaaRfj
namespace Go.Proofs.Ytdhdbmfipkppiaa
set_option linter.unusedSimpArgs false
set_option linter.unusedVariables false
set_option linter.unnecessarySimpa false
open Go.RowKit

theorem longs_sum : ∀ (l : List Nd), (l.map fun n => (16 + n.ins.length + n.ws.length + 4 * n.bs.length)).sum = ((l.map Nd.c).map longN).sum
  | [] => rfl
  | n :: l => by
    simp only [List.map_cons, List.sum_cons, longs_sum l]
    rfl

theorem encG_first (g : Gr) (h : GoodG g) : (encG g.c)[0]? = some (g.ins.length : Int) := by
  have := h.il
  have e : b8 (g.ins.length : Int) = g.ins.length := b8_id (by omega)
  show ([b8 (g.ins.length : Int)] ++ _ ++ _ ++ _ ++ _ ++ _ : List Int)[0]? = _
  simp [e]

set_option maxRecDepth 8000 in
set_option maxHeartbeats 3200000 in
theorem modelLong_calls (g : Gr) (w : World) (hg : GrIn w g) :
    Calls Try.prog 3 #[.agg #[g.iV, g.nV, g.oV]] w fun e w' => e = .returned (.bool true) ∧ Below w.heap.size w w' := by
  have hE1 := ext_alloc w (.cells #[g.iV, g.nV, g.oV] 26)
  have hb1 := Blk.new w #[g.iV, g.nV, g.oV] 26
  have hsh := fun W => shown04_calls W
  have hls := fun W (h : Ext w W) => less_calls g w W hg h
  go_enter Try.func3, Try.ntmps3
  go_upto_region 1 with fail
  generalize w.alloc _ = w1 at *
  go_upto_region 2 with (go_at_call 14; refine (hsh _).mono ?_; rintro e w2 ⟨rfl, h2⟩)
  replace hb1 := hb1.ext h2
  replace hE1 := hE1.trans h2
  clear hsh
  have d0 : World.cell? w2 ⟨w.heap.size, 0, none⟩ = some g.iV := hb1.cell 0
  have d1 : World.cell? w2 ⟨w.heap.size, 1, none⟩ = some g.nV := hb1.cell 1
  have d2 : World.cell? w2 ⟨w.heap.size, 2, none⟩ = some g.oV := hb1.cell 2
  have hlt2 := hb1.lt
  go_wp2_with fail
  refine (hls _ hE1).mono ?_
  rintro e w3 ⟨x, rfl, hL, h3⟩
  clear d0 d1 d2 hls
  replace hb1 := hb1.ext h3
  have hE3 := hE1.trans h3
  have hone : Array.all #[x.iV, x.nV, x.oV] (·.oneCell') = true := by
    obtain ⟨_, _, e1, _⟩ := hL.ins.form
    obtain ⟨_, _, e2, _⟩ := row_of_own hL.own
    obtain ⟨_, _, e3, _⟩ := hL.outs.form
    rw [e1, e2, e3]
    simp [Value.oneCell']
  have HO := Lib.hid hone
  have hL4 := hL.setRow (b := w.heap.size) (Nat.le_refl _) (by omega) #[x.iV, x.nV, x.oV]
  have hb4 : Blk (w3.setRow w.heap.size #[x.iV, x.nV, x.oV]) w.heap.size #[x.iV, x.nV, x.oV] 26 := setRow_heap _ _ _ _ _ _ hb1
  have hE4 : Ext w (w3.setRow w.heap.size #[x.iV, x.nV, x.oV]) := ext_setRow hE3 _ (Nat.le_refl _)
  clear hone hL hE1 hE3
  go_upto_region 3 with (refine wpList_store_row rfl 26 _ _ rfl w.heap.size #[x.iV, x.nV, x.oV] rfl rfl 26 _ hb1 (by kernel_rfl) rfl HO.out ?_)
  clear hb1 h2 h3 hlt2
  generalize World.setRow w3 _ _ = w4 at *
  have hg4 := hL4.at
  have hput := modelPut_calls x w4 hg4
  have hval := fun W (h : Ext w4 W) => rvalues_calls x W (hg4.ext h)
  have hgd : (valuesR x).2 = 0 → GoodG x := fun h => valid_ok h (fun n hn => (hg4.each n hn).isIn)
  have d0 : World.cell? w4 ⟨w.heap.size, 0, none⟩ = some x.iV := hb4.cell 0
  have d1 : World.cell? w4 ⟨w.heap.size, 1, none⟩ = some x.nV := hb4.cell 1
  have d2 : World.cell? w4 ⟨w.heap.size, 2, none⟩ = some x.oV := hb4.cell 2
  obtain ⟨⟨rl, z⟩, hr⟩ : ∃ r, valuesR x = r := ⟨_, rfl⟩
  unfold PutPost at hput
  unfold ValsPost at hval
  rw [hr] at hput hval hgd
  simp only at hput hval hgd
  clear hr
  go_wp2_with fail
  refine hput.mono ?_
  rintro e w5 ⟨hz, hnz, h5⟩
  replace hval := hval _ h5
  replace hb4 := hb4.ext h5
  have hE5 := hE4.trans h5
  clear d0 d1 d2 hput
  have d0 : World.cell? w5 ⟨w.heap.size, 0, none⟩ = some x.iV := hb4.cell 0
  have d1 : World.cell? w5 ⟨w.heap.size, 1, none⟩ = some x.nV := hb4.cell 1
  have d2 : World.cell? w5 ⟨w.heap.size, 2, none⟩ = some x.oV := hb4.cell 2
  by_cases hR : z = 0
  case neg =>
    have e1 := hnz hR
    subst e1
    have t5 : (z != 0) = true := by simp [hR]
    clear hz hnz hgd
    go_wp2_with fail
    refine hval.mono ?_
    rintro e w6 ⟨_, hnz, h6⟩
    have e1 := hnz hR
    subst e1
    clear hnz d0 d1 d2
    go_wp2_with fail
    go_ret
    exact ⟨rfl, hE5.trans h6⟩
  obtain ⟨v, rfl, hown⟩ := hz hR
  have hgood := hgd hR
  have HF := Lib.hid (encG_first x hgood)
  have hlen : Hid ((encG x.c).length = 3 + 4 * x.ins.length + (x.nodes.map fun n => (16 + n.ins.length + n.ws.length + 4 * n.bs.length)).sum + x.outs.length) := by
    show _ = _
    rw [encG_len, longs_sum]
    rfl
  obtain ⟨⟨gi1, gi2⟩, gnl, ⟨go1, go2⟩, _⟩ := hgood
  clear hz hnz hgd
  obtain ⟨Av, cv, ev, hv1, hv2, _⟩ := id hown.ints.form
  unfold maxLen at hv2
  generalize encG x.c = bs at *
  subst ev
  go_wp2_with fail
  refine hval.mono ?_
  rintro e w6 ⟨hz, _, h6⟩
  obtain ⟨v', rfl, _⟩ := hz hR
  clear hz hval d0 d1 d2 hR
  replace hb4 := hb4.ext h6
  have hown6 := hown.ext h6
  have hg6 := hg4.ext (h5.trans h6)
  have hE6 := hE5.trans h6
  clear hown hg4 hE5 hL4 h6 h5 hE4
  have HG := Lib.hid hg6
  obtain ⟨hi, hn, ho, hea, hil, hnl, hol⟩ := hg6
  obtain ⟨An, cn, en, hn1, hn2, _⟩ := id (SRow.form hn (fun _ => rfl) (by omega))
  obtain ⟨Ao, co, eo, ho1, ho2, _⟩ := id ho.form
  obtain ⟨Ai, ci, ei, hi1, hi2, _⟩ := id hi.form
  unfold maxLen at hi2 hn2 ho2
  have EN := Lib.hid en
  have EO := Lib.hid eo
  have EI := Lib.hid ei
  clear en eo ei
  have d0 : World.cell? w6 ⟨w.heap.size, 0, none⟩ = some (.slice Ai x.ins.length ci) := by rw [← EI.out]; exact hb4.cell 0
  have d1 : World.cell? w6 ⟨w.heap.size, 1, none⟩ = some (.slice An x.nodes.length cn) := by rw [← EN.out]; exact hb4.cell 1
  have d2 : World.cell? w6 ⟨w.heap.size, 2, none⟩ = some (.slice Ao x.outs.length co) := by rw [← EO.out]; exact hb4.cell 2
  go_wp2_with fail
  clear d0 d1 d2
  go_loopw [8, 9] (fun t i wr => ∃ (s k : Nat), k ≤ x.nodes.length ∧ t = .int .i64 s ∧ i = .int .i64 k ∧ s ≤ 2000 + 80000 * k ∧ Hid (s = 3 + 4 * x.ins.length + x.outs.length + ((x.nodes.take k).map fun n => (16 + n.ins.length + n.ws.length + 4 * n.bs.length)).sum) ∧ Ext w6 wr) (fun _ i _ => x.nodes.length - (intOf i).toNat)
  case atStart => exact ⟨3 + 4 * x.ins.length + x.outs.length, 0, by omega, by go_num, rfl, by omega, by show _ = _; simp, Ext.refl _⟩
  case round =>
    obtain ⟨s, k, hk, rfl, rfl, hs2, hsum, hE⟩ := hrel
    by_cases hlt : k < x.nodes.length
    · have g1 : World.cell? wr ⟨w.heap.size, 1, none⟩ = some (.slice An x.nodes.length cn) := by rw [← EN.out]; exact (hb4.ext hE).cell 1
      obtain ⟨A', c', e', _, _, hcc⟩ := SRow.form (Row.below hn hE) (fun _ => rfl) (by omega)
      rw [EN.out] at e'
      cases e'
      have hs : x.nodes[k]? = some x.nodes[k] := by simp [hlt]
      obtain ⟨b, off, rfl, hbl, hc⟩ := hcc k _ hs
      have hnode := hea _ (List.getElem_mem hlt)
      have HT : Hid (x.nodes.take (k + 1) = x.nodes.take k ++ [x.nodes[k]]) := List.take_succ_eq_append_getElem hlt
      generalize x.nodes[k] = n at *
      have nc0 : World.cell? wr ⟨b, off + k * 14, none⟩ = some (.int .i64 n.op) := hc 0 _ rfl
      have nc1 : World.cell? wr ⟨b, off + k * 14 + 1, none⟩ = some n.inV := hc 1 _ rfl
      have nc2 : World.cell? wr ⟨b, off + k * 14 + 2, none⟩ = some (.int .i64 n.k) := hc 2 _ rfl
      have nc3 : World.cell? wr ⟨b, off + k * 14 + 3, none⟩ = some (.int .i64 n.st) := hc 3 _ rfl
      have nc4 : World.cell? wr ⟨b, off + k * 14 + 4, none⟩ = some (.int .i64 n.pad) := hc 4 _ rfl
      have nc5 : World.cell? wr ⟨b, off + k * 14 + 5, none⟩ = some (.int .i64 n.out) := hc 5 _ rfl
      have nc6 : World.cell? wr ⟨b, off + k * 14 + 6, none⟩ = some (.int .i64 n.mul) := hc 6 _ rfl
      have nc7 : World.cell? wr ⟨b, off + k * 14 + 7, none⟩ = some (.int .i64 n.sh) := hc 7 _ rfl
      have nc8 : World.cell? wr ⟨b, off + k * 14 + 8, none⟩ = some (.int .i64 n.zero) := hc 8 _ rfl
      have nc9 : World.cell? wr ⟨b, off + k * 14 + 9, none⟩ = some (.int .i64 n.th) := hc 9 _ rfl
      have nc10 : World.cell? wr ⟨b, off + k * 14 + 10, none⟩ = some (.int .i64 n.tw) := hc 10 _ rfl
      have nc11 : World.cell? wr ⟨b, off + k * 14 + 11, none⟩ = some (.int .i64 n.tc) := hc 11 _ rfl
      have nc12 : World.cell? wr ⟨b, off + k * 14 + 12, none⟩ = some n.wV := hc 12 _ rfl
      have nc13 : World.cell? wr ⟨b, off + k * 14 + 13, none⟩ = some n.bV := hc 13 _ rfl
      clear hc hcc hs hi hn ho hea
      have hz := Blk.new wr #[.int .i64 0, .slice none 0 0, .int .i64 0, .int .i64 0, .int .i64 0, .int .i64 0, .int .i64 0, .int .i64 0, .int .i64 0, .int .i64 0, .int .i64 0, .int .i64 0, .slice none 0 0, .slice none 0 0] 40
      have hE7 : Ext wr ((wr.alloc (.cells #[.int .i64 0, .slice none 0 0, .int .i64 0, .int .i64 0, .int .i64 0, .int .i64 0, .int .i64 0, .int .i64 0, .int .i64 0, .int .i64 0, .int .i64 0, .int .i64 0, .slice none 0 0, .slice none 0 0] 40)).setRow wr.heap.size #[.int .i64 n.op, n.inV, .int .i64 n.k, .int .i64 n.st, .int .i64 n.pad, .int .i64 n.out, .int .i64 n.mul, .int .i64 n.sh, .int .i64 n.zero, .int .i64 n.th, .int .i64 n.tw, .int .i64 n.tc, n.wV, n.bV]) := ext_setRow (ext_alloc _ _) _ (Nat.le_refl _)
      have hnb : Blk ((wr.alloc (.cells #[.int .i64 0, .slice none 0 0, .int .i64 0, .int .i64 0, .int .i64 0, .int .i64 0, .int .i64 0, .int .i64 0, .int .i64 0, .int .i64 0, .int .i64 0, .int .i64 0, .slice none 0 0, .slice none 0 0] 40)).setRow wr.heap.size #[.int .i64 n.op, n.inV, .int .i64 n.k, .int .i64 n.st, .int .i64 n.pad, .int .i64 n.out, .int .i64 n.mul, .int .i64 n.sh, .int .i64 n.zero, .int .i64 n.th, .int .i64 n.tw, .int .i64 n.tc, n.wV, n.bV]) wr.heap.size #[.int .i64 n.op, n.inV, .int .i64 n.k, .int .i64 n.st, .int .i64 n.pad, .int .i64 n.out, .int .i64 n.mul, .int .i64 n.sh, .int .i64 n.zero, .int .i64 n.th, .int .i64 n.tw, .int .i64 n.tc, n.wV, n.bV] 40 := setRow_heap _ _ _ _ _ _ hz
      obtain ⟨A1, c1, e1, q1, q2, _⟩ := hnode.1.form
      obtain ⟨A2, c2, e2, q3, q4, _⟩ := hnode.2.1.form
      obtain ⟨A3, c3, e3, q5, q6, _⟩ := hnode.2.2.1.form
      unfold maxLen at q2 q4 q6
      have hone : Array.all #[.int .i64 n.op, n.inV, .int .i64 n.k, .int .i64 n.st, .int .i64 n.pad, .int .i64 n.out, .int .i64 n.mul, .int .i64 n.sh, .int .i64 n.zero, .int .i64 n.th, .int .i64 n.tw, .int .i64 n.tc, n.wV, n.bV] (·.oneCell') = true := by
        rw [e1, e2, e3]
        simp [Value.oneCell']
      have HO2 := Lib.hid hone
      have E1 := Lib.hid e1
      have E2 := Lib.hid e2
      have E3 := Lib.hid e3
      obtain ⟨_, _, _, _, _, q7, q8, q9⟩ := hnode
      clear hone e1 e2 e3
      go_upto_region 12 with (refine wpList_store_row rfl 40 _ _ rfl wr.heap.size #[.int .i64 n.op, n.inV, .int .i64 n.k, .int .i64 n.st, .int .i64 n.pad, .int .i64 n.out, .int .i64 n.mul, .int .i64 n.sh, .int .i64 n.zero, .int .i64 n.th, .int .i64 n.tw, .int .i64 n.tc, n.wV, n.bV] rfl rfl 40 _ hz (by kernel_rfl) rfl HO2.out ?_)
      clear nc0 nc1 nc2 nc3 nc4 nc5 nc6 nc7 nc8 nc9 nc10 nc11 nc12 nc13 hbl hz g1 HO2
      have hE8 := hE.trans hE7
      generalize World.setRow (wr.alloc _) _ _ = wk at *
      generalize wr.heap.size = yb at *
      have nd1 : World.cell? wk ⟨yb, 1, none⟩ = some (.slice A1 n.ins.length c1) := by rw [← E1.out]; exact hnb.cell 1
      have nd12 : World.cell? wk ⟨yb, 12, none⟩ = some (.slice A2 n.ws.length c2) := by rw [← E2.out]; exact hnb.cell 12
      have nd13 : World.cell? wk ⟨yb, 13, none⟩ = some (.slice A3 n.bs.length c3) := by rw [← E3.out]; exact hnb.cell 13
      have hkk : s + 16 + n.ins.length + n.ws.length + 4 * n.bs.length ≤ 2000 + 80000 * (k + 1) := by omega
      have hse : Hid (s + 16 + n.ins.length + n.ws.length + 4 * n.bs.length = 3 + 4 * x.ins.length + x.outs.length + ((x.nodes.take (k + 1)).map fun n => (16 + n.ins.length + n.ws.length + 4 * n.bs.length)).sum) := by
        show _ = _
        rw [HT.out, List.map_append, List.sum_append, hsum.out]
        simp
        omega
      clear hnb hE7 hE
      go_wp2_with fail
      go_roundw
      case rel => exact ⟨s + 16 + n.ins.length + n.ws.length + 4 * n.bs.length, k + 1, by omega, by go_num, by go_num, hkk, hse, hE8⟩
      case measure => simp [intOf]; omega
    · have hkx : k = x.nodes.length := by omega
      have hsn : s = bs.length := by
        have := hsum.out
        rw [hkx, List.take_length] at this
        have := hlen.out
        omega
      subst hsn
      have hpos : 0 < bs.length := by have := hlen.out; omega
      obtain ⟨_, _, e', _, _, hcell⟩ := (hown6.ext hE).ints.form
      cases e'
      obtain ⟨b, off, rfl, x0⟩ := hcell 0 hpos
      rw [HF.out] at x0
      simp only [Option.getD_some, Nat.add_zero] at x0
      have g1 : World.cell? wr ⟨w.heap.size, 1, none⟩ = some (.slice An x.nodes.length cn) := by rw [← EN.out]; exact (hb4.ext hE).cell 1
      have hb5 := hb4.ext hE
      clear hcell hkx hsum hi hn ho hea
      go_upto_region 13 with fail
      refine wp_region_X [0, 1, 2, 3, 4, 5, 6, 7, 8, 9, 10, 11, 12, 13, 14, 15, 16, 17, 18, 19, 20, 21] [] (by kernel_rfl) (by kernel_rfl) (fun _ _ d _ _ h => by cases d <;> exact h) (fun w7 hE7 => ?_)
      have y0 : ∀ W, Ext w7 W → W.cell? ⟨b, off, none⟩ = some (.int .u8 x.ins.length) := fun W h => cell_ext (cell_ext x0 _ hE7) W h
      have y1 : ∀ W, Ext w7 W → W.cell? ⟨w.heap.size, 0, none⟩ = some (.slice Ai x.ins.length ci) := fun W h => by rw [← EI.out]; exact ((hb5.ext hE7).ext h).cell 0
      repeat (first | (refine wpP_pure rfl (by rfl) (fun W hW => by go_simp; with_reducible rfl) ?_; simp only [Act.put, List.setIfInBounds_toArray, List.set_cons_zero, List.set_cons_succ]) | (refine wpP_skip rfl (by rfl) ?_; simp only [Act.put, List.setIfInBounds_toArray, List.set_cons_zero, List.set_cons_succ]))
      refine ⟨trivial, fun W hR => ?_⟩
      simp only [rFin, envAt, TP.top, TP.mine, MP.top, MP.mine, MT.mine, MT.tied, MT.done, MT.is, List.map_cons, List.map_nil, true_implies, List.head?_cons, ME.is, MP.is, MP.done, ME.ints, ME.row, phi, dstAt, List.getElem?_cons_zero, List.getElem?_cons_succ, Option.bind_some, Act.put, List.setIfInBounds_toArray, List.set_cons_zero, List.set_cons_succ, and_true, forall_eq, reduceIte, Nat.reduceEqDiff, beq_iff_eq, Option.some.injEq, Bool.false_eq_true, reduceCtorEq, implies_true, true_and]
      go_wp2
      go_ret
      exact ⟨ret_bool (by rw [IntWalk.i64_in _ (by omega)]; simp), (hE6.trans hE).trans (hE7.trans hR)⟩

end Go.Proofs.Ytdhdbmfipkppiaa
