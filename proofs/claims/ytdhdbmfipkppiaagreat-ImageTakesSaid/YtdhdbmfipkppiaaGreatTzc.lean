/- The walk of Take of the images' reference. -/
import Derived.Test.YtdhdbmfipkppiaaGreatTkb
import Derived.Test.YtdhdbmfipkppiaaGreatModY
import Derived.Test.YtdhdbmfipkppiaaGreatMtg
import Derived.Test.YtdhdbmfipkppiaaGreatNsaZ
import Derived.Test.YtdhdbmfipkppiaaGreatNsaD
set_option linter.unusedSimpArgs false
set_option linter.unusedVariables false
set_option linter.unnecessarySimpa false
namespace Go.Proofs.YtdhdbmfipkppiaaGreat
set_option maxRecDepth 10000
open Go.RowKit

theorem add3 (x y z : Int) (h1 : 0 ≤ x) (h2 : x ≤ 255) (h3 : 0 ≤ y) (h4 : y ≤ 255) (h5 : 0 ≤ z) (h6 : z ≤ 255) :
    IntKind.i64.wrap (IntKind.i64.wrap (IntKind.i64.wrap (IntKind.i64.wrap (IntKind.i64.wrap x * 256) + IntKind.i64.wrap y) * 256) + IntKind.i64.wrap z) = 65536 * x + 256 * y + z := by
  rw [IntWalk.i64_in x (by omega), IntWalk.i64_in y (by omega), IntWalk.i64_in z (by omega), IntWalk.i64_in (x * 256) (by omega), IntWalk.i64_in (x * 256 + y) (by omega), IntWalk.i64_in ((x * 256 + y) * 256) (by omega), IntWalk.i64_in _ (by omega)]
  omega

set_option maxRecDepth 20000 in
set_option maxHeartbeats 12800000 in
theorem ritake_calls (v : Value) (zs : List Int) (w : World) (hv : Ints .u8 w v zs) (hz : ∀ z ∈ zs, 0 ≤ z ∧ z ≤ 255) (hl : zs.length ≤ 100000) :
    Calls Tryz.prog 6 #[v] w (TakeIPost zs w) := by
  have HP : Hid (∀ e w', ((takeI zs = none → e = .returned (.tuple #[.agg #[.slice none 0 0, .slice none 0 0, .slice none 0 0, .slice none 0 0, .slice none 0 0, .slice none 0 0, .slice none 0 0], .int .i64 2])) ∧
    (∀ c pl Ls, takeI zs = some (c, pl, Ls) → ∃ (g : Gr) (pV s0 s1 s2 : Value), g.c = c ∧ e = .returned (.tuple #[.agg #[g.iV, g.nV, g.oV, pV, s0, s1, s2], .int .i64 0]) ∧ GrAt w' g ∧ Ints .i64 w' pV pl ∧
    Isa.Cmds w' s0 (Ls[0]?.getD []) ∧ Isa.Cmds w' s1 (Ls[1]?.getD []) ∧ Isa.Cmds w' s2 (Ls[2]?.getD [])) ∧ Ext w w') → TakeIPost zs w e w') := fun e w' h => h
  generalize TakeIPost zs w = PP at *
  have HN : Hid (takeI zs = none → ∀ w', Ext w w' → PP (.returned (.tuple #[.agg #[.slice none 0 0, .slice none 0 0, .slice none 0 0, .slice none 0 0, .slice none 0 0, .slice none 0 0, .slice none 0 0], .int .i64 2])) w') := fun h w' hE => HP.out _ _ ⟨fun _ => rfl, fun c pl Ls e => (by rw [h] at e; cases e), hE⟩
  have hb2 := Blk.new w #[.slice none 0 0, .slice none 0 0, .slice none 0 0, .slice none 0 0, .slice none 0 0, .slice none 0 0, .slice none 0 0] 32
  have hE1 := ext_alloc w (.cells #[.slice none 0 0, .slice none 0 0, .slice none 0 0, .slice none 0 0, .slice none 0 0, .slice none 0 0, .slice none 0 0] 32)
  have hop := refOpen_calls v zs _ (hv.ext hE1) hz hl
  unfold OpenPost at hop
  have HTI : Hid (takeI zs = if openOk zs then takeB (zs.take (zs.length - 4)) else none) := rfl
  have HBZ : Hid (BytesL (zs.take (zs.length - 4))) := fun z h => hz z (List.mem_of_mem_take h)
  have HLZ : Hid ((zs.take (zs.length - 4)).length = zs.length - 4) := by show _ = _; rw [List.length_take]; omega
  generalize zs.take (zs.length - 4) = bs at *
  generalize takeI zs = ti at *
  clear hv hz
  go_enter Tryz.func6, Tryz.ntmps6
  go_upto_region 1 with fail
  generalize World.alloc w _ = w1 at *
  go_wp2_with fail
  refine hop.mono ?_
  rintro e w2 ⟨v', rfl, hE2, hown, hnil⟩
  have hE2 : Ext w1 w2 := hE2
  have hEw := hE1.trans hE2
  replace hb2 := hb2.ext hE2
  clear hop hE1
  by_cases hok : openOk zs
  case neg =>
    rw [if_neg hok]
    rw [if_neg hok] at HTI
    obtain rfl := hnil hok
    have hX := HN.out HTI.out
    have HX := Lib.hid (hX _ (ext_setRow hEw #[.slice none 0 0, .slice none 0 0, .slice none 0 0, .slice none 0 0, .slice none 0 0, .slice none 0 0, .slice none 0 0] (Nat.le_refl _)))
    clear hX hE2 hown hnil hok hEw
    go_wp2_with (first | (refine wpList_store_row rfl 32 _ _ rfl w.heap.size #[.slice none 0 0, .slice none 0 0, .slice none 0 0, .slice none 0 0, .slice none 0 0, .slice none 0 0, .slice none 0 0] rfl rfl 32 _ hb2 (by kernel_rfl) rfl (by simp [Value.oneCell']) ?_))
    refine bodyPost_ret (v := .tuple #[.agg _, .int .i64 2]) (results_cell_tmp1 Tryz.results6 _ _ w.heap.size 32 _ (0, 0) _ rfl (setRow_heap _ _ _ _ _ _ hb2) (by kernel_rfl : Tryz.prog.underlying 32 = some (.struct (Tryz.prog.fieldsOf 32))) rfl (by kernel_rfl)) rfl ?_
    exact HX.out
  rw [if_pos hok]
  have hown := hown hok
  rw [if_pos hok] at HTI
  have hvb : Ints .u8 w2 v' bs := by
    have := row_of_own hown
    show Row _ _ _ _ _
    rw [HLZ.out]
    exact this
  have hvw : ∃ c, bs ≠ [] → ∃ gB, v' = .slice (some ⟨gB, 0, none⟩) bs.length c := by
    rcases hown.2 with ⟨rfl, h0⟩ | ⟨gB, cap, cur, rfl, _⟩
    · exact ⟨0, fun h => absurd (List.eq_nil_of_length_eq_zero (by rw [HLZ.out]; exact h0)) h⟩
    · exact ⟨cap, fun _ => ⟨gB, by rw [HLZ.out]⟩⟩
  have HLB : Hid (bs.length ≤ 100000) := by show _ ≤ _; rw [HLZ.out]; omega
  have HVW := Lib.hid hvw
  have HVB := Lib.hid hvb
  clear hown hnil hok hE2 hvb HLZ hl hvw
  have HB2 := Lib.hid hb2
  clear hb2
  have htk := take4_calls v' bs w2 HVB.out HBZ.out HLB.out
  unfold TakePost at htk
  go_wp2_with fail
  refine htk.mono ?_
  rintro e w4 ⟨hno, hyes, hE4⟩
  clear htk
  cases htb : taken bs with
  | none =>
    obtain rfl := hno htb
    have hX := HN.out (by rw [HTI.out]; unfold takeB; rw [htb])
    have hz6 := Blk.new w4 #[.slice none 0 0, .slice none 0 0, .slice none 0 0] 28
    have hQ : Ext w4 ((w4.alloc (.cells #[.slice none 0 0, .slice none 0 0, .slice none 0 0] 28)).setRow w4.heap.size #[.slice none 0 0, .slice none 0 0, .slice none 0 0]) := ext_setRow (ext_alloc _ _) _ (Nat.le_refl _)
    clear hno hyes
    go_upto_region 6 with (refine wpList_store_row rfl 28 _ _ rfl w4.heap.size #[.slice none 0 0, .slice none 0 0, .slice none 0 0] rfl rfl 28 _ hz6 (by kernel_rfl) rfl (by simp [Value.oneCell']) ?_)
    clear hz6
    have hb2 := (HB2.out.ext hE4).ext hQ
    have HX := Lib.hid (hX _ (ext_setRow ((hEw.trans hE4).trans hQ) #[.slice none 0 0, .slice none 0 0, .slice none 0 0, .slice none 0 0, .slice none 0 0, .slice none 0 0, .slice none 0 0] (Nat.le_refl _)))
    generalize World.setRow (World.alloc w4 _) _ _ = w5 at *
    clear hX hQ hEw hE4
    go_wp2_with (first | (refine wpList_store_row rfl 32 _ _ rfl w.heap.size #[.slice none 0 0, .slice none 0 0, .slice none 0 0, .slice none 0 0, .slice none 0 0, .slice none 0 0, .slice none 0 0] rfl rfl 32 _ hb2 (by kernel_rfl) rfl (by simp [Value.oneCell']) ?_))
    refine bodyPost_ret (v := .tuple #[.agg _, .int .i64 2]) (results_cell_tmp1 Tryz.results6 _ _ w.heap.size 32 _ (0, 0) _ rfl (setRow_heap _ _ _ _ _ _ hb2) (by kernel_rfl : Tryz.prog.underlying 32 = some (.struct (Tryz.prog.fieldsOf 32))) rfl (by kernel_rfl)) rfl ?_
    exact HX.out
  | some cn =>
    obtain ⟨c, n⟩ := cn
    obtain ⟨g, hgc, rfl, hog⟩ := hyes c n htb
    have hz6 := Blk.new w4 #[.slice none 0 0, .slice none 0 0, .slice none 0 0] 28
    have hb6 : Blk ((w4.alloc (.cells #[.slice none 0 0, .slice none 0 0, .slice none 0 0] 28)).setRow w4.heap.size #[g.iV, g.nV, g.oV]) w4.heap.size #[g.iV, g.nV, g.oV] 28 := setRow_heap _ _ _ _ _ _ hz6
    have hQ : Ext w4 ((w4.alloc (.cells #[.slice none 0 0, .slice none 0 0, .slice none 0 0] 28)).setRow w4.heap.size #[g.iV, g.nV, g.oV]) := ext_setRow (ext_alloc _ _) _ (Nat.le_refl _)
    have HOG := Lib.hid hog.one
    clear hno hyes
    go_upto_region 7 with (refine wpList_store_row rfl 28 _ _ rfl w4.heap.size #[g.iV, g.nV, g.oV] rfl rfl 28 _ hz6 (by kernel_rfl) rfl HOG.out ?_)
    clear hz6
    replace hog := hog.ext hQ
    have hE5 : Ext w2 ((w4.alloc (.cells #[.slice none 0 0, .slice none 0 0, .slice none 0 0] 28)).setRow w4.heap.size #[g.iV, g.nV, g.oV]) := hE4.trans hQ
    generalize World.setRow (World.alloc w4 _) _ _ = w5 at *
    generalize w4.heap.size = b6 at *
    have HVB5 := Lib.hid (HVB.out.ext hE5)
    have HB5 := Lib.hid (HB2.out.ext hE5)
    have hEw5 := hEw.trans hE5
    have hlt2 : w.heap.size < w2.heap.size := HB2.out.lt
    have HLT := Lib.hid hlt2
    have q0 : World.cell? w5 ⟨b6, 0, none⟩ = some g.iV := hb6.cell 0
    have q1 : World.cell? w5 ⟨b6, 1, none⟩ = some g.nV := hb6.cell 1
    have q2 : World.cell? w5 ⟨b6, 2, none⟩ = some g.oV := hb6.cell 2
    have hz7 := Blk.new w5 #[.slice none 0 0, .slice none 0 0, .slice none 0 0, .slice none 0 0, .slice none 0 0, .slice none 0 0, .slice none 0 0] 32
    have hb7 : Blk ((w5.alloc (.cells #[.slice none 0 0, .slice none 0 0, .slice none 0 0, .slice none 0 0, .slice none 0 0, .slice none 0 0, .slice none 0 0] 32)).setRow w5.heap.size #[g.iV, g.nV, g.oV, .slice none 0 0, .slice none 0 0, .slice none 0 0, .slice none 0 0]) w5.heap.size #[g.iV, g.nV, g.oV, .slice none 0 0, .slice none 0 0, .slice none 0 0, .slice none 0 0] 32 := setRow_heap _ _ _ _ _ _ hz7
    have hE7 : Ext w5 ((w5.alloc (.cells #[.slice none 0 0, .slice none 0 0, .slice none 0 0, .slice none 0 0, .slice none 0 0, .slice none 0 0, .slice none 0 0] 32)).setRow w5.heap.size #[g.iV, g.nV, g.oV, .slice none 0 0, .slice none 0 0, .slice none 0 0, .slice none 0 0]) := ext_setRow (ext_alloc _ _) _ (Nat.le_refl _)
    have hone : Array.all #[g.iV, g.nV, g.oV, .slice none 0 0, .slice none 0 0, .slice none 0 0, .slice none 0 0] (·.oneCell') = true := by
      obtain ⟨_, _, e1, _⟩ := hog.at.ins
      obtain ⟨_, _, e2, _⟩ := hog.at.nodes
      obtain ⟨_, _, e3, _⟩ := hog.at.outs
      rw [e1, e2, e3]
      simp [Value.oneCell']
    clear hE4 hQ hE5 hEw hlt2 HB2 HVB
    go_upto_region 8 with (refine wpList_store_row rfl 32 _ _ rfl w5.heap.size #[g.iV, g.nV, g.oV, .slice none 0 0, .slice none 0 0, .slice none 0 0, .slice none 0 0] rfl rfl 32 _ hz7 (by kernel_rfl) rfl hone ?_)
    clear hz7 hone q0 q1 q2
    have hT : TkI w5 ((w5.alloc (.cells #[.slice none 0 0, .slice none 0 0, .slice none 0 0, .slice none 0 0, .slice none 0 0, .slice none 0 0, .slice none 0 0] 32)).setRow w5.heap.size #[g.iV, g.nV, g.oV, .slice none 0 0, .slice none 0 0, .slice none 0 0, .slice none 0 0]) ((w5.alloc (.cells #[.slice none 0 0, .slice none 0 0, .slice none 0 0, .slice none 0 0, .slice none 0 0, .slice none 0 0, .slice none 0 0] 32)).setRow w5.heap.size #[g.iV, g.nV, g.oV, .slice none 0 0, .slice none 0 0, .slice none 0 0, .slice none 0 0]) g (.slice none 0 0) (.slice none 0 0) (.slice none 0 0) (.slice none 0 0) [] [] [] [] :=
      ⟨hb7, World.grownBy.refl _ _, World.ownsRow_nil _ _ _ _, World.ownsRow_nil _ _ _ _, World.ownsRow_nil _ _ _ _, World.ownsRow_nil _ _ _ _, hb7.lt, hE7⟩
    generalize World.setRow (World.alloc w5 _) _ _ = w7 at *
    have HT := Lib.hid hT
    clear hT hb7 hE7
    obtain ⟨hn, hbn⟩ := taken_le htb
    obtain ⟨cB, hvB⟩ := HVW.out
    obtain ⟨gB, evB⟩ := hvB hbn
    rw [evB] at HVB5
    have hform := HVB5.out.form
    obtain ⟨_, _, e9, hcB1, hcB2, _⟩ := hform
    cases e9
    unfold maxLen at hcB2
    have HEW := Lib.hid hEw5
    have HTB : Hid (ti = match plc3 (c.ins.length + c.nodes.length) (bs.drop n) with
      | none => none
      | some (pl, r) => match stT 3 r with
        | none => none
        | some (Ls, r') => if r' = [] ∧ mayI c.gr pl (Ls[0]?.getD []) (Ls[1]?.getD []) (Ls[2]?.getD []) = 0 then some (c, pl, Ls) else none) := by
      show _ = _
      rw [HTI.out]
      unfold takeB
      rw [htb]
      try rfl
    have hgB : gB < w5.heap.size := by
      obtain ⟨b, h1, h2⟩ := Row.lt HVB5.out (by simpa using hbn)
      have h3 : some gB = some b := h1
      have := Option.some.inj h3
      omega
    subst evB
    clear hEw5 HVW htb hbn hvB HTI
    have hll := HLB.out
    have hga := hog.at
    have HOGN := Lib.hid hog
    obtain ⟨Ai, ci, ei, hi1, hi2, _⟩ := id hga.ins.form
    obtain ⟨An, cn, en, hn1, hn2, _⟩ := id (SRow.form hga.nodes (fun _ => rfl) (by omega))
    unfold maxLen at hi2 hn2
    have HG6 := Lib.hid hb6
    have hil := hog.il
    have hnl := hog.nl
    have HCN : Hid (c.ins.length + c.nodes.length = g.ins.length + g.nodes.length) := by show _ = _; rw [← hgc]; simp [Gr.c]
    rw [HCN.out] at HTB
    have HGC := Lib.hid hgc
    have HEI := Lib.hid ei
    have HEN := Lib.hid en
    clear hga hog hgc hb6 HCN ei en
    obtain ⟨N, hN⟩ : ∃ N, g.ins.length + g.nodes.length = N := ⟨_, rfl⟩
    rw [hN] at HTB
    have HNN := Lib.hid hN
    have hN510 : N ≤ 510 := by omega
    clear hN
    obtain ⟨r0, hr0⟩ : ∃ r, bs.drop n = r := ⟨_, rfl⟩
    rw [hr0] at HTB
    have HR0 := Lib.hid hr0
    clear hr0
    go_wp2_with fail
    have HP0 : Hid (plc3 N r0 = (plc3 (N - 0) r0).map fun q => (([] : List Int) ++ q.1, q.2)) := by show _ = _; simp
    have HQ0 : Hid (([] : List Int).length = 0 ∧ ∀ z ∈ ([] : List Int), 0 ≤ z ∧ z ≤ 16777215) := ⟨rfl, fun z hz => by cases hz⟩
    go_loopw [6, 8] (fun v i wr => ∃ (k j : Nat) (ps r : List Int) (pv : Value), v = .int .i64 j ∧ j ≤ bs.length ∧ k ≤ N ∧ i = .int .i64 k ∧ Hid (bs.drop j = r) ∧ Hid (plc3 N r0 = (plc3 (N - k) r).map fun q => (ps ++ q.1, q.2)) ∧
      Hid (ps.length = k ∧ ∀ z ∈ ps, 0 ≤ z ∧ z ≤ 16777215) ∧ Hid (TkI w5 w7 wr g pv (.slice none 0 0) (.slice none 0 0) (.slice none 0 0) ps [] [] [])) (fun _ i _ => N - (intOf i).toNat)
    case atStart => exact ⟨0, n, [], r0, _, rfl, hn, by omega, rfl, HR0, HP0, HQ0, HT⟩
    case round =>
      clear HP0 HQ0 HT HR0 hn
      obtain ⟨k, j, ps, r, pv, rfl, hj, hk, rfl, HRJ, HPK, HQK, HTK⟩ := hrel
      have hb6r := HG6.out.ext HTK.out.extO
      have q0 : World.cell? wr ⟨b6, 0, none⟩ = some (.slice Ai g.ins.length ci) := by rw [← HEI.out]; exact hb6r.cell 0
      have q1 : World.cell? wr ⟨b6, 1, none⟩ = some (.slice An g.nodes.length cn) := by rw [← HEN.out]; exact hb6r.cell 1
      clear hb6r
      by_cases hlt : k < N
      · have hltN : (k : Int) < (g.ins.length : Int) + (g.nodes.length : Int) := by have := HNN.out; omega
        have hlr : r.length = bs.length - j := by rw [← HRJ.out]; exact List.length_drop
        by_cases hr3 : r.length < 3
        · have HNX := HN.out (by rw [HTB.out, plc3_stop HPK.out hlt hr3])
          have HX := Lib.hid (HNX _ (ext_setRow (HEW.out.trans HTK.out.extO) #[.slice none 0 0, .slice none 0 0, .slice none 0 0, .slice none 0 0, .slice none 0 0, .slice none 0 0, .slice none 0 0] (Nat.le_refl _)))
          have hb2 := HB5.out.ext HTK.out.extO
          have g0 : (bs.length : Int) < (j : Int) + 3 := by omega
          clear HNX
          go_wp2_with (first | (refine wpList_store_row rfl 32 _ _ rfl w.heap.size #[.slice none 0 0, .slice none 0 0, .slice none 0 0, .slice none 0 0, .slice none 0 0, .slice none 0 0, .slice none 0 0] rfl rfl 32 _ hb2 (by kernel_rfl) rfl (by simp [Value.oneCell']) ?_))
          refine bodyPost_ret (v := .tuple #[.agg _, .int .i64 2]) (results_cell_tmp1 Tryz.results6 _ _ w.heap.size 32 _ (0, 0) _ rfl (setRow_heap _ _ _ _ _ _ hb2) (by kernel_rfl : Tryz.prog.underlying 32 = some (.struct (Tryz.prog.fieldsOf 32))) rfl (by kernel_rfl)) rfl ?_
          exact HX.out
        · have g0 : ¬ (bs.length : Int) < (j : Int) + 3 := by omega
          have HPS := Lib.hid (plc3_step HPK.out hlt (by omega))
          have hby0 := HBZ.out _ (mem_getD (l := bs) (i := j) (by omega))
          have hby1 := HBZ.out _ (mem_getD (l := bs) (i := j + 1) (by omega))
          have hby2 := HBZ.out _ (mem_getD (l := bs) (i := j + 2) (by omega))
          have hx := (HVB5.out.ext HTK.out.extO).form
          obtain ⟨_, _, e9, _, _, hcl⟩ := hx
          cases e9
          obtain ⟨_, _, e0, x0⟩ := hcl j (by omega)
          cases e0
          obtain ⟨_, _, e0, x1⟩ := hcl (j + 1) (by omega)
          cases e0
          obtain ⟨_, _, e0, x2⟩ := hcl (j + 2) (by omega)
          cases e0
          rw [Nat.zero_add] at x0 x1 x2
          go_upto_region 13 with fail
          have K0 : Keeps [w5.heap.size, gB] wr wr.drew := Keeps.drew _ _
          have hr0 : r[0]?.getD 0 = bs[j]?.getD 0 := by rw [← HRJ.out, List.getElem?_drop]; rfl
          have hr1 : r[1]?.getD 0 = bs[j + 1]?.getD 0 := by rw [← HRJ.out, List.getElem?_drop]
          have hr2 : r[2]?.getD 0 = bs[j + 2]?.getD 0 := by rw [← HRJ.out, List.getElem?_drop]
          rw [hr0, hr1, hr2] at HPS
          have HR3 : Hid (bs.drop (j + 3) = r.drop 3) := by show _ = _; rw [← HRJ.out, List.drop_drop]
          clear hr0 hr1 hr2
          have hdb := HTK.out.box.cell 3
          have cb : ∀ W, Keeps [w5.heap.size, gB] wr W → World.cell? W ⟨w5.heap.size, 3, none⟩ = some pv := fun W hW => (hW.cell (by simp)).trans hdb
          have c0 : ∀ W, Keeps [w5.heap.size, gB] wr W → World.cell? W ⟨gB, j, none⟩ = some (.int .u8 (bs[j]?.getD 0)) := fun W hW => (hW.cell (by simp)).trans x0
          have c1 : ∀ W, Keeps [w5.heap.size, gB] wr W → World.cell? W ⟨gB, j + 1, none⟩ = some (.int .u8 (bs[j + 1]?.getD 0)) := fun W hW => (hW.cell (by simp)).trans x1
          have c2 : ∀ W, Keeps [w5.heap.size, gB] wr W → World.cell? W ⟨gB, j + 2, none⟩ = some (.int .u8 (bs[j + 2]?.getD 0)) := fun W hW => (hW.cell (by simp)).trans x2
          clear hcl x0 x1 x2 hdb q0 q1 HPK HRJ
          generalize bs[j]?.getD 0 = x at *
          generalize bs[j + 1]?.getD 0 = y at *
          generalize bs[j + 2]?.getD 0 = z at *
          have g1 : (j : Int) < (bs.length : Int) := by omega
          have g2 : (j : Int) + 1 < (bs.length : Int) := by omega
          have g3 : (j : Int) + 2 < (bs.length : Int) := by omega
          have g4 : 0 ≤ (j : Int) + 1 := by omega
          have g5 : 0 ≤ (j : Int) + 2 := by omega
          have m1 : IntKind.i64.wrap ((j : Int) + 1) = (j : Int) + 1 := IntWalk.i64_in _ (by omega)
          have m2 : IntKind.i64.wrap ((j : Int) + 2) = (j : Int) + 2 := IntWalk.i64_in _ (by omega)
          have n1 : ((j : Int) + 1).toNat = j + 1 := by omega
          have n2 : ((j : Int) + 2).toNat = j + 2 := by omega
          refine wp_region_Z (Keeps [w5.heap.size, gB] wr) 26 [(0, true), (1, true), (2, true), (3, true), (4, true), (5, true), (6, true), (7, true), (8, true), (9, true), (10, true), (11, true), (12, true), (13, true), (14, true), (15, true), (16, true), (17, true), (18, true), (19, true), (20, true), (21, true), (22, true), (23, false), (24, false), (25, true), (26, false)] (by kernel_rfl) (by kernel_rfl) (fun _ _ d _ _ h => by cases d <;> exact h) K0 ?_
          simp only [pickE, List.getElem?_cons_zero, List.getElem?_cons_succ]
          repeat (refine wpZ_pure (by rfl) (fun W hW => by go_simp; with_reducible rfl) ?_; simp only [Act.put, List.setIfInBounds_toArray, List.set_cons_zero, List.set_cons_succ])
          have HV := add3 x y z hby0.1 hby0.2 hby1.1 hby1.2 hby2.1 hby2.2
          rw [HV]
          have hpr : 0 ≤ 65536 * x + 256 * y + z ∧ 65536 * x + 256 * y + z ≤ 16777215 := by omega
          generalize 65536 * x + 256 * y + z = pz at *
          have HQ3 : Hid ((ps ++ [pz]).length = k + 1 ∧ ∀ z ∈ ps ++ [pz], 0 ≤ z ∧ z ≤ 16777215) := by
            obtain ⟨a1, a4⟩ := HQK.out
            refine ⟨by simp [a1], fun z hz => ?_⟩
            rcases List.mem_append.1 hz with h | h
            · exact a4 z h
            · obtain rfl := List.mem_singleton.1 h
              exact hpr
          have HTD := Lib.hid (HTK.out.later (Ext.drew wr))
          have hpl : k = ps.length := HQK.out.1.symm
          have HPL := Lib.hid hpl
          have hj3 : j + 3 ≤ bs.length := by omega
          have HJ3 := Lib.hid hj3
          generalize r.drop 3 = r3 at *
          clear HV hby0 hby1 hby2 hpr c0 c1 c2 cb g1 g2 g3 g4 g5 m1 m2 n1 n2 hpl HTK hj3
          generalize wr.drew = wd at *
          have hdl := HTD.out.box.lt
          have hEa := ext_alloc wd (.cells #[Value.int .i64 pz] 3)
          have hnew := row_new wd #[Value.int .i64 pz] 3 1 1 rfl (by decide)
          have hTA := HTD.out.later hEa
          have hownA := hTA.pl
          rw [← HPL.out] at hownA
          have hbase := hTA.gb.size
          have hk1 : k + 1 ≤ 140737488355328 := by omega
          have hk2 : (k + 1) * 8 ≤ 140737488355328 := by omega
          have h1 : ∀ u ∈ (#[Value.int .i64 pz] : Array Value).toList, u.oneCell' = true := by intro u hu; simp at hu; subst hu; rfl
          have K1 := K0.trans (Keeps.grown (bs := [w5.heap.size, gB]) (grown_of_ext hEa) (fun k hk => ⟨by simp at hk; rcases hk with rfl | rfl <;> omega, by simp⟩))
          have HPUT : Hid (∀ (v' : Value) (w' : World), w'.ownsRow w7.heap.size 3 1 v' (k + 1) (ps.map (.int .i64) ++ (#[Value.int .i64 pz] : Array Value).toList) → (wd.alloc (.cells #[Value.int .i64 pz] 3)).grownBy w' pv.ownBlock → ∃ A2 n2 c2, v' = .slice A2 n2 c2 ∧
              Hid (TkI w5 w7 (w'.setCell ⟨w5.heap.size, 3, none⟩ v') g v' (.slice none 0 0) (.slice none 0 0) (.slice none 0 0) (ps ++ [pz]) [] [] []) ∧ Keeps [w5.heap.size, gB] (wd.alloc (.cells #[Value.int .i64 pz] 3)) w' ∧ w5.heap.size < w'.heap.size ∧ w'.frozen? ⟨w5.heap.size, 3, none⟩ = false ∧ World.cell? w' ⟨w5.heap.size, 3, none⟩ = some pv) := by
            intro v' w' ho hgr
            have hb' : Blk w' w5.heap.size #[g.iV, g.nV, g.oV, pv, .slice none 0 0, .slice none 0 0, .slice none 0 0] 32 := hTA.box.grown hgr (fun e => by have := (hTA.pl.lt _ e.symm).1; have := hTA.lt; omega)
            obtain ⟨A2, c2, e2, _⟩ := row_of_own ho
            have hp := hTA.place HPL.out ho hgr
            have hkp : Keeps [w5.heap.size, gB] (wd.alloc (.cells #[Value.int .i64 pz] 3)) w' := Keeps.grown hgr (fun q hq => by
              have hq5 : q ≤ w5.heap.size := by simp at hq; rcases hq with rfl | rfl <;> omega
              have := hTA.box.lt
              refine ⟨by omega, fun e => ?_⟩
              have := (hTA.pl.lt _ e.symm).1
              have := hTA.lt
              omega)
            exact ⟨A2, _, c2, e2, hp, hkp, hb'.lt, hb'.frozen 3, hb'.cell 3⟩
          clear hTA HTD
          refine wpZ_step (by rfl) (fun K hK => ?_)
          go_simp
          refine hK _ _ K1 ?_
          clear hK K hEa hdl
          try simp only [Act.put, List.setIfInBounds_toArray, List.set_cons_zero, List.set_cons_succ]
          repeat (refine wpZ_pure (by rfl) (fun W hW => by go_simp; with_reducible rfl) ?_; simp only [Act.put, List.setIfInBounds_toArray, List.set_cons_zero, List.set_cons_succ])
          refine wpZ_step (by rfl) (fun K hK => ?_)
          refine wp_append_row rfl elem_i64 hownA rfl hnew rfl h1 hk1 hk2 hbase ?_
          intro v' w' ho hgr hnr
          obtain ⟨A2, n2, c2, rfl, hpw, hkw, hlw, hfw, hcw⟩ := HPUT.out v' w' ho hgr
          refine hK _ _ (K1.trans hkw) ?_
          clear hK K ho hgr hnr hownA hnew h1 hbase HPUT K1 K0 hkw
          try simp only [Act.put, List.setIfInBounds_toArray, List.set_cons_zero, List.set_cons_succ]
          repeat (refine wpZ_pure (by rfl) (fun W hW => by go_simp; with_reducible rfl) ?_; simp only [Act.put, List.setIfInBounds_toArray, List.set_cons_zero, List.set_cons_succ])
          refine wpZ_last (by rfl) (fun K hK => ?_)
          go_simp
          refine hK _ _ ?_
          clear hK K hcw hfw hlw
          try simp only [Act.put, List.setIfInBounds_toArray, List.set_cons_zero, List.set_cons_succ]
          go_wp2_with fail
          go_roundw
          case rel => exact ⟨k + 1, j + 3, ps ++ [pz], r3, _, by go_num, HJ3.out, by omega, by go_num, HR3, HPS, HQ3, hpw⟩
          case measure => simp [intOf]; omega
      · have hkN : k = N := by omega
        have hPE := plc3_end HPK.out hkN
        have HTS : Hid (ti = match stT 3 r with
          | none => none
          | some (Ls, r') => if r' = [] ∧ mayI c.gr ps (Ls[0]?.getD []) (Ls[1]?.getD []) (Ls[2]?.getD []) = 0 then some (c, ps, Ls) else none) := by
          show _ = _
          rw [HTB.out, hPE]
        have HB : Hid (∀ z ∈ ps, InK .i64 z) := fun z hz => by
          have := HQK.out.2 z hz
          simp only [InK]
          omega
        have hltN : ¬ (k : Int) < (g.ins.length : Int) + (g.nodes.length : Int) := by have := HNN.out; omega
        have HS0 : Hid (stT 3 r = (stT (3 - 0) r).map fun q => (([] : List (List Isa.Cm)) ++ q.1, q.2)) := by show _ = _; simp
        have HQ0 : Hid (([] : List (List Isa.Cm)).length = 0) := rfl
        clear hPE HPK HQK HTB hkN
        go_wp2_with fail
        clear q0 q1 hltN
        go_loopw [6, 9] (fun v i wr => ∃ (k j : Nat) (ls : List (List Isa.Cm)) (q : List Int) (s0 s1 s2 : Value), v = .int .i64 j ∧ j ≤ bs.length ∧ k ≤ 3 ∧ i = .int .i64 k ∧ Hid (bs.drop j = q) ∧ Hid (stT 3 r = (stT (3 - k) q).map fun p => (ls ++ p.1, p.2)) ∧
          Hid (ls.length = k) ∧ Hid (TkI w5 w7 wr g pv s0 s1 s2 ps (ls[0]?.getD []) (ls[1]?.getD []) (ls[2]?.getD []))) (fun _ i _ => 3 - (intOf i).toNat)
        case atStart => exact ⟨0, j, [], r, _, _, _, rfl, hj, by omega, rfl, HRJ, HS0, HQ0, HTK⟩
        case round =>
          clear HS0 HQ0 HTK HRJ hj
          obtain ⟨k, j, ls, q, s0, s1, s2, rfl, hj, hk, rfl, HRJ, HSK, HQK, HTK⟩ := hrel
          have HBQ : Hid (BytesL q) := by
            show BytesL q
            rw [← HRJ.out]
            exact fun z h => HBZ.out z (List.mem_of_mem_drop h)
          have hlr : q.length = bs.length - j := by rw [← HRJ.out]; exact List.length_drop
          obtain ⟨o3, c3, ho3, hI3⟩ : ∃ o3 c3, (if cB = j then (some ⟨gB, 0, none⟩ : Option Addr) else some ⟨gB, j, none⟩) = some ⟨gB, o3, none⟩ ∧ c3 = cB - j ∧ Ints .u8 w5 (.slice (some ⟨gB, o3, none⟩) (bs.length - j) (cB - j)) q := by
            rw [← HRJ.out]
            by_cases hc3 : cB = j
            · refine ⟨0, _, by rw [if_pos hc3], rfl, ?_⟩
              have h0 : bs.drop j = [] := List.eq_nil_of_length_eq_zero (by rw [List.length_drop]; omega)
              rw [h0, show bs.length - j = 0 by omega]
              exact ⟨_, _, rfl, Nat.zero_le _, by unfold maxLen; omega, rfl, fun j u hj => by simp at hj⟩
            · refine ⟨j, _, by rw [if_neg hc3], rfl, ?_⟩
              have h := ints_dropT HVB5.out (m := j) hj
              simpa [add_lit] using h
          have HI3 := Lib.hid hI3.2
          have hjc : j ≤ cB := by omega
          clear hI3
          rcases (by omega : k = 0 ∨ k = 1 ∨ k = 2 ∨ k = 3) with rfl | rfl | rfl | rfl
          · have htk := Isa.refTake_calls (.slice (some ⟨gB, o3, none⟩) (bs.length - j) (cB - j)) q wr (HI3.out.ext HTK.out.extO) HBQ.out (by omega)
            unfold Isa.TakePost at htk
            cases htl : Isa.takeL q with
            | none =>
              have HNX := HN.out (by rw [HTS.out, stT_stop HSK.out (by omega) htl])
              rw [htl] at htk
              clear htl
              go_wp2_with fail
              refine htk.mono ?_
              rintro e w6 ⟨h0, _, hE6⟩
              have hE6 : Ext wr w6 := hE6
              obtain rfl := h0 trivial
              have hx2 := HTK.out.extO.trans hE6
              have HX := Lib.hid (HNX _ (ext_setRow (HEW.out.trans hx2) #[.slice none 0 0, .slice none 0 0, .slice none 0 0, .slice none 0 0, .slice none 0 0, .slice none 0 0, .slice none 0 0] (Nat.le_refl _)))
              have hb2 := HB5.out.ext hx2
              clear HNX htk h0 hE6 hx2
              go_wp2_with (first | (refine wpList_store_row rfl 32 _ _ rfl w.heap.size #[.slice none 0 0, .slice none 0 0, .slice none 0 0, .slice none 0 0, .slice none 0 0, .slice none 0 0, .slice none 0 0] rfl rfl 32 _ hb2 (by kernel_rfl) rfl (by simp [Value.oneCell']) ?_))
              refine bodyPost_ret (v := .tuple #[.agg _, .int .i64 2]) (results_cell_tmp1 Tryz.results6 _ _ w.heap.size 32 _ (0, 0) _ rfl (setRow_heap _ _ _ _ _ _ hb2) (by kernel_rfl : Tryz.prog.underlying 32 = some (.struct (Tryz.prog.fieldsOf 32))) rfl (by kernel_rfl)) rfl ?_
              exact HX.out
            | some Lm =>
              obtain ⟨L, m⟩ := Lm
              have hmq := takeL_le htl
              have HSN := Lib.hid (stT_step HSK.out (by omega) htl)
              rw [htl] at htk
              clear htl HSK
              go_wp2_with fail
              refine htk.mono ?_
              rintro e w6 ⟨_, h0, hE6⟩
              have hE6 : Ext wr w6 := hE6
              obtain ⟨sv, rfl, hso⟩ := h0 L m rfl
              clear htk h0
              have HT6 := HTK.out.later hE6
              have hso5 := Isa.ownsRow_base hso (base' := w7.heap.size) HTK.out.gb.size
              have HTN : Hid (TkI w5 w7 (w6.setCell ⟨w5.heap.size, 4, none⟩ sv) g pv sv s1 s2 ps ((ls ++ [L])[0]?.getD []) ((ls ++ [L])[1]?.getD []) ((ls ++ [L])[2]?.getD [])) := by
                have h := HT6.stream0 (s := sv) (L := L) hso5
                have hl : ls.length = 0 := HQK.out
                rw [show (ls ++ [L])[0]?.getD [] = L from by rw [List.getElem?_append_right (by omega)]; simp [hl]]
                rw [show (ls ++ [L])[1]?.getD [] = ls[1]?.getD [] from by rw [List.getElem?_eq_none (by simp [hl]), List.getElem?_eq_none (by omega)]]
                rw [show (ls ++ [L])[2]?.getD [] = ls[2]?.getD [] from by rw [List.getElem?_eq_none (by simp [hl]), List.getElem?_eq_none (by omega)]]
                exact h
              obtain ⟨A8, c8, e8, _⟩ := row_of_own hso
              subst e8
              have hbx := HT6.box
              have yk : World.cell? w6 ⟨w5.heap.size, 4, none⟩ = some s0 := hbx.cell 4
              have hf : w6.frozen? ⟨w5.heap.size, 4, none⟩ = false := hbx.frozen 4
              have hlb := hbx.lt
              have HQN : Hid ((ls ++ [L]).length = 0 + 1) := by
                have hl : ls.length = 0 := HQK.out
                show _ = _
                simp [hl]
              have HRM : Hid (bs.drop (j + m) = q.drop m) := by show _ = _; rw [← HRJ.out, List.drop_drop]
              have hjm : j + m ≤ bs.length := by omega
              have mw : IntKind.i64.wrap ((j : Int) + (m : Int)) = (j : Int) + (m : Int) := IntWalk.i64_in _ (by omega)
              clear hso hso5 HT6 hbx HTK hE6 ho3 hmq hlr HI3 HRJ HBQ
              go_wp2_with fail
              clear yk hf hlb
              go_roundw
              case rel => exact ⟨1, j + m, ls ++ [L], _, _, _, _, by go_num, hjm, by omega, by go_num, HRM, HSN, HQN, HTN⟩
              case measure => simp [intOf]
          · have htk := Isa.refTake_calls (.slice (some ⟨gB, o3, none⟩) (bs.length - j) (cB - j)) q wr (HI3.out.ext HTK.out.extO) HBQ.out (by omega)
            unfold Isa.TakePost at htk
            cases htl : Isa.takeL q with
            | none =>
              have HNX := HN.out (by rw [HTS.out, stT_stop HSK.out (by omega) htl])
              rw [htl] at htk
              clear htl
              go_wp2_with fail
              refine htk.mono ?_
              rintro e w6 ⟨h0, _, hE6⟩
              have hE6 : Ext wr w6 := hE6
              obtain rfl := h0 trivial
              have hx2 := HTK.out.extO.trans hE6
              have HX := Lib.hid (HNX _ (ext_setRow (HEW.out.trans hx2) #[.slice none 0 0, .slice none 0 0, .slice none 0 0, .slice none 0 0, .slice none 0 0, .slice none 0 0, .slice none 0 0] (Nat.le_refl _)))
              have hb2 := HB5.out.ext hx2
              clear HNX htk h0 hE6 hx2
              go_wp2_with (first | (refine wpList_store_row rfl 32 _ _ rfl w.heap.size #[.slice none 0 0, .slice none 0 0, .slice none 0 0, .slice none 0 0, .slice none 0 0, .slice none 0 0, .slice none 0 0] rfl rfl 32 _ hb2 (by kernel_rfl) rfl (by simp [Value.oneCell']) ?_))
              refine bodyPost_ret (v := .tuple #[.agg _, .int .i64 2]) (results_cell_tmp1 Tryz.results6 _ _ w.heap.size 32 _ (0, 0) _ rfl (setRow_heap _ _ _ _ _ _ hb2) (by kernel_rfl : Tryz.prog.underlying 32 = some (.struct (Tryz.prog.fieldsOf 32))) rfl (by kernel_rfl)) rfl ?_
              exact HX.out
            | some Lm =>
              obtain ⟨L, m⟩ := Lm
              have hmq := takeL_le htl
              have HSN := Lib.hid (stT_step HSK.out (by omega) htl)
              rw [htl] at htk
              clear htl HSK
              go_wp2_with fail
              refine htk.mono ?_
              rintro e w6 ⟨_, h0, hE6⟩
              have hE6 : Ext wr w6 := hE6
              obtain ⟨sv, rfl, hso⟩ := h0 L m rfl
              clear htk h0
              have HT6 := HTK.out.later hE6
              have hso5 := Isa.ownsRow_base hso (base' := w7.heap.size) HTK.out.gb.size
              have HTN : Hid (TkI w5 w7 (w6.setCell ⟨w5.heap.size, 5, none⟩ sv) g pv s0 sv s2 ps ((ls ++ [L])[0]?.getD []) ((ls ++ [L])[1]?.getD []) ((ls ++ [L])[2]?.getD [])) := by
                have h := HT6.stream1 (s := sv) (L := L) hso5
                have hl : ls.length = 1 := HQK.out
                rw [show (ls ++ [L])[0]?.getD [] = ls[0]?.getD [] from by rw [List.getElem?_append_left (by omega)]]
                rw [show (ls ++ [L])[1]?.getD [] = L from by rw [List.getElem?_append_right (by omega)]; simp [hl]]
                rw [show (ls ++ [L])[2]?.getD [] = ls[2]?.getD [] from by rw [List.getElem?_eq_none (by simp [hl]), List.getElem?_eq_none (by omega)]]
                exact h
              obtain ⟨A8, c8, e8, _⟩ := row_of_own hso
              subst e8
              have hbx := HT6.box
              have yk : World.cell? w6 ⟨w5.heap.size, 5, none⟩ = some s1 := hbx.cell 5
              have hf : w6.frozen? ⟨w5.heap.size, 5, none⟩ = false := hbx.frozen 5
              have hlb := hbx.lt
              have HQN : Hid ((ls ++ [L]).length = 1 + 1) := by
                have hl : ls.length = 1 := HQK.out
                show _ = _
                simp [hl]
              have HRM : Hid (bs.drop (j + m) = q.drop m) := by show _ = _; rw [← HRJ.out, List.drop_drop]
              have hjm : j + m ≤ bs.length := by omega
              have mw : IntKind.i64.wrap ((j : Int) + (m : Int)) = (j : Int) + (m : Int) := IntWalk.i64_in _ (by omega)
              clear hso hso5 HT6 hbx HTK hE6 ho3 hmq hlr HI3 HRJ HBQ
              go_wp2_with fail
              clear yk hf hlb
              go_roundw
              case rel => exact ⟨2, j + m, ls ++ [L], _, _, _, _, by go_num, hjm, by omega, by go_num, HRM, HSN, HQN, HTN⟩
              case measure => simp [intOf]
          · have htk := Isa.refTake_calls (.slice (some ⟨gB, o3, none⟩) (bs.length - j) (cB - j)) q wr (HI3.out.ext HTK.out.extO) HBQ.out (by omega)
            unfold Isa.TakePost at htk
            cases htl : Isa.takeL q with
            | none =>
              have HNX := HN.out (by rw [HTS.out, stT_stop HSK.out (by omega) htl])
              rw [htl] at htk
              clear htl
              go_wp2_with fail
              refine htk.mono ?_
              rintro e w6 ⟨h0, _, hE6⟩
              have hE6 : Ext wr w6 := hE6
              obtain rfl := h0 trivial
              have hx2 := HTK.out.extO.trans hE6
              have HX := Lib.hid (HNX _ (ext_setRow (HEW.out.trans hx2) #[.slice none 0 0, .slice none 0 0, .slice none 0 0, .slice none 0 0, .slice none 0 0, .slice none 0 0, .slice none 0 0] (Nat.le_refl _)))
              have hb2 := HB5.out.ext hx2
              clear HNX htk h0 hE6 hx2
              go_wp2_with (first | (refine wpList_store_row rfl 32 _ _ rfl w.heap.size #[.slice none 0 0, .slice none 0 0, .slice none 0 0, .slice none 0 0, .slice none 0 0, .slice none 0 0, .slice none 0 0] rfl rfl 32 _ hb2 (by kernel_rfl) rfl (by simp [Value.oneCell']) ?_))
              refine bodyPost_ret (v := .tuple #[.agg _, .int .i64 2]) (results_cell_tmp1 Tryz.results6 _ _ w.heap.size 32 _ (0, 0) _ rfl (setRow_heap _ _ _ _ _ _ hb2) (by kernel_rfl : Tryz.prog.underlying 32 = some (.struct (Tryz.prog.fieldsOf 32))) rfl (by kernel_rfl)) rfl ?_
              exact HX.out
            | some Lm =>
              obtain ⟨L, m⟩ := Lm
              have hmq := takeL_le htl
              have HSN := Lib.hid (stT_step HSK.out (by omega) htl)
              rw [htl] at htk
              clear htl HSK
              go_wp2_with fail
              refine htk.mono ?_
              rintro e w6 ⟨_, h0, hE6⟩
              have hE6 : Ext wr w6 := hE6
              obtain ⟨sv, rfl, hso⟩ := h0 L m rfl
              clear htk h0
              have HT6 := HTK.out.later hE6
              have hso5 := Isa.ownsRow_base hso (base' := w7.heap.size) HTK.out.gb.size
              have HTN : Hid (TkI w5 w7 (w6.setCell ⟨w5.heap.size, 6, none⟩ sv) g pv s0 s1 sv ps ((ls ++ [L])[0]?.getD []) ((ls ++ [L])[1]?.getD []) ((ls ++ [L])[2]?.getD [])) := by
                have h := HT6.stream2 (s := sv) (L := L) hso5
                have hl : ls.length = 2 := HQK.out
                rw [show (ls ++ [L])[0]?.getD [] = ls[0]?.getD [] from by rw [List.getElem?_append_left (by omega)]]
                rw [show (ls ++ [L])[1]?.getD [] = ls[1]?.getD [] from by rw [List.getElem?_append_left (by omega)]]
                rw [show (ls ++ [L])[2]?.getD [] = L from by rw [List.getElem?_append_right (by omega)]; simp [hl]]
                exact h
              obtain ⟨A8, c8, e8, _⟩ := row_of_own hso
              subst e8
              have hbx := HT6.box
              have yk : World.cell? w6 ⟨w5.heap.size, 6, none⟩ = some s2 := hbx.cell 6
              have hf : w6.frozen? ⟨w5.heap.size, 6, none⟩ = false := hbx.frozen 6
              have hlb := hbx.lt
              have HQN : Hid ((ls ++ [L]).length = 2 + 1) := by
                have hl : ls.length = 2 := HQK.out
                show _ = _
                simp [hl]
              have HRM : Hid (bs.drop (j + m) = q.drop m) := by show _ = _; rw [← HRJ.out, List.drop_drop]
              have hjm : j + m ≤ bs.length := by omega
              have mw : IntKind.i64.wrap ((j : Int) + (m : Int)) = (j : Int) + (m : Int) := IntWalk.i64_in _ (by omega)
              clear hso hso5 HT6 hbx HTK hE6 ho3 hmq hlr HI3 HRJ HBQ
              go_wp2_with fail
              clear yk hf hlb
              go_roundw
              case rel => exact ⟨3, j + m, ls ++ [L], _, _, _, _, by go_num, hjm, by omega, by go_num, HRM, HSN, HQN, HTN⟩
              case measure => simp [intOf]
          · have hSE := stT_end HSK.out rfl
            have HTE : Hid (ti = if q = [] ∧ mayI c.gr ps (ls[0]?.getD []) (ls[1]?.getD []) (ls[2]?.getD []) = 0 then some (c, ps, ls) else none) := by
              show _ = _
              rw [HTS.out, hSE]
            clear hSE HSK HTS ho3 HI3
            have hx2 := HTK.out.extO
            by_cases hq0 : j < bs.length
            · have HNX := HN.out (by rw [HTE.out, if_neg]; rintro ⟨e, _⟩; rw [e] at hlr; simp at hlr; omega)
              have HX := Lib.hid (HNX _ (ext_setRow (HEW.out.trans hx2) #[.slice none 0 0, .slice none 0 0, .slice none 0 0, .slice none 0 0, .slice none 0 0, .slice none 0 0, .slice none 0 0] (Nat.le_refl _)))
              have hb2 := HB5.out.ext hx2
              have g0 : ((j : Int) != (bs.length : Int)) = true := by simp; omega
              have g0' : ¬ (j : Int) = (bs.length : Int) := by omega
              have g0'' : ¬ j = bs.length := by omega
              clear HNX hx2
              go_wp2_with (first | (refine wpList_store_row rfl 32 _ _ rfl w.heap.size #[.slice none 0 0, .slice none 0 0, .slice none 0 0, .slice none 0 0, .slice none 0 0, .slice none 0 0, .slice none 0 0] rfl rfl 32 _ hb2 (by kernel_rfl) rfl (by simp [Value.oneCell']) ?_))
              refine bodyPost_ret (v := .tuple #[.agg _, .int .i64 2]) (results_cell_tmp1 Tryz.results6 _ _ w.heap.size 32 _ (0, 0) _ rfl (setRow_heap _ _ _ _ _ _ hb2) (by kernel_rfl : Tryz.prog.underlying 32 = some (.struct (Tryz.prog.fieldsOf 32))) rfl (by kernel_rfl)) rfl ?_
              exact HX.out
            · have hqn : q = [] := List.eq_nil_of_length_eq_zero (by omega)
              have hjn : j = bs.length := by omega
              have hog : OwnG w2.heap.size wr g := HOGN.out.ext hx2
              have hmay := rimay_calls g pv s0 s1 s2 ps (ls[0]?.getD []) (ls[1]?.getD []) (ls[2]?.getD []) wr hog.at (ints_of_own HTK.out.pl) HB.out (row_of_own HTK.out.st0) (row_of_own HTK.out.st1) (row_of_own HTK.out.st2)
              unfold MayP at hmay
              rw [mayI_gr HGC.out] at hmay
              have HOGW := Lib.hid hog
              obtain ⟨z, hz⟩ : ∃ z, mayI c.gr ps (ls[0]?.getD []) (ls[1]?.getD []) (ls[2]?.getD []) = z := ⟨_, rfl⟩
              rw [hz] at hmay HTE
              have hbx := HTK.out.box
              have y0 : World.cell? wr ⟨w5.heap.size, 0, none⟩ = some g.iV := hbx.cell 0
              have y1 : World.cell? wr ⟨w5.heap.size, 1, none⟩ = some g.nV := hbx.cell 1
              have y2 : World.cell? wr ⟨w5.heap.size, 2, none⟩ = some g.oV := hbx.cell 2
              have y3 : World.cell? wr ⟨w5.heap.size, 3, none⟩ = some pv := hbx.cell 3
              have y4 : World.cell? wr ⟨w5.heap.size, 4, none⟩ = some s0 := hbx.cell 4
              have y5 : World.cell? wr ⟨w5.heap.size, 5, none⟩ = some s1 := hbx.cell 5
              have y6 : World.cell? wr ⟨w5.heap.size, 6, none⟩ = some s2 := hbx.cell 6
              clear hog hz hq0 HRJ hlr
              subst hjn
              go_wp2_with fail
              refine hmay.mono ?_
              rintro e w6 ⟨rfl, hE6⟩
              clear y0 y1 y2 y3 y4 y5 y6 hmay
              have hx3 := hx2.trans hE6
              have hb2 := HB5.out.ext hx3
              replace hbx := hbx.ext hE6
              by_cases hz0 : z = 0
              · have hT6 := HTK.out.later hE6
                have hone : Array.all #[g.iV, g.nV, g.oV, pv, s0, s1, s2] (·.oneCell') = true := by
                  obtain ⟨_, _, e1, _⟩ := HOGW.out.at.ins
                  obtain ⟨_, _, e2, _⟩ := HOGW.out.at.nodes
                  obtain ⟨_, _, e3, _⟩ := HOGW.out.at.outs
                  obtain ⟨_, _, e4, _⟩ := row_of_own hT6.pl
                  obtain ⟨_, _, e5, _⟩ := row_of_own hT6.st0
                  obtain ⟨_, _, e6, _⟩ := row_of_own hT6.st1
                  obtain ⟨_, _, e7, _⟩ := row_of_own hT6.st2
                  rw [e1, e2, e3, e4, e5, e6, e7]
                  simp [Value.oneCell']
                have HO := Lib.hid hone
                have hb57 : w.heap.size < w7.heap.size := by have := HB5.out.lt; have := hT6.lt; omega
                have hsep : ∀ {e : TypeId} {sz : Nat} {u : Value} {n : Nat} {xs : List Value}, w6.ownsRow w7.heap.size e sz u n xs → (w6.setRow w.heap.size #[g.iV, g.nV, g.oV, pv, s0, s1, s2]).ownsRow w7.heap.size e sz u n xs := fun h =>
                  World.ownsRow.kept h (setRow_grown w6 w.heap.size _) (or_neT fun b hb e2 => by have := (h.lt b hb).1; have := Option.some.inj e2; omega)
                have HFIN : Hid (PP (.returned (.tuple #[.agg #[g.iV, g.nV, g.oV, pv, s0, s1, s2], .int .i64 0])) (w6.setRow w.heap.size #[g.iV, g.nV, g.oV, pv, s0, s1, s2])) := by
                  have hti : ti = some (c, ps, ls) := by rw [HTE.out, if_pos ⟨hqn, hz0⟩]
                  refine HP.out _ _ ⟨fun e => (by rw [hti] at e; cases e), fun c1 pl1 Ls1 e => ?_, ext_setRow (HEW.out.trans hx3) _ (Nat.le_refl _)⟩
                  rw [hti] at e
                  simp only [Option.some.injEq, Prod.mk.injEq] at e
                  obtain ⟨rfl, rfl, rfl⟩ := e
                  exact ⟨g, pv, s0, s1, s2, HGC.out, rfl, ((HOGW.out.ext hE6).setRow HLT.out _).at, ints_of_own (hsep hT6.pl), row_of_own (hsep hT6.st0), row_of_own (hsep hT6.st1), row_of_own (hsep hT6.st2)⟩
                have y0 : World.cell? w6 ⟨w5.heap.size, 0, none⟩ = some g.iV := hbx.cell 0
                have y1 : World.cell? w6 ⟨w5.heap.size, 1, none⟩ = some g.nV := hbx.cell 1
                have y2 : World.cell? w6 ⟨w5.heap.size, 2, none⟩ = some g.oV := hbx.cell 2
                have y3 : World.cell? w6 ⟨w5.heap.size, 3, none⟩ = some pv := hbx.cell 3
                have y4 : World.cell? w6 ⟨w5.heap.size, 4, none⟩ = some s0 := hbx.cell 4
                have y5 : World.cell? w6 ⟨w5.heap.size, 5, none⟩ = some s1 := hbx.cell 5
                have y6 : World.cell? w6 ⟨w5.heap.size, 6, none⟩ = some s2 := hbx.cell 6
                have g9 : (z != 0) = false := by rw [hz0]; rfl
                clear hT6 hone hx3 hE6 hx2 hsep
                go_wp2_with (first | (refine wpList_store_row rfl 32 _ _ rfl w.heap.size #[g.iV, g.nV, g.oV, pv, s0, s1, s2] rfl rfl 32 _ hb2 (by kernel_rfl) rfl HO.out ?_))
                refine bodyPost_ret (v := .tuple #[.agg _, .int .i64 0]) (results_cell_tmp1 Tryz.results6 _ _ w.heap.size 32 _ (0, 0) _ rfl (setRow_heap _ _ _ _ _ _ hb2) (by kernel_rfl : Tryz.prog.underlying 32 = some (.struct (Tryz.prog.fieldsOf 32))) rfl (by kernel_rfl)) rfl ?_
                exact HFIN.out
              · have HNX := HN.out (by rw [HTE.out, if_neg]; rintro ⟨_, e⟩; exact hz0 e)
                have HX := Lib.hid (HNX _ (ext_setRow (HEW.out.trans hx3) #[.slice none 0 0, .slice none 0 0, .slice none 0 0, .slice none 0 0, .slice none 0 0, .slice none 0 0, .slice none 0 0] (Nat.le_refl _)))
                have g9 : (z != 0) = true := by simpa using hz0
                clear HNX hx3 hE6 hbx hx2
                go_wp2_with (first | (refine wpList_store_row rfl 32 _ _ rfl w.heap.size #[.slice none 0 0, .slice none 0 0, .slice none 0 0, .slice none 0 0, .slice none 0 0, .slice none 0 0, .slice none 0 0] rfl rfl 32 _ hb2 (by kernel_rfl) rfl (by simp [Value.oneCell']) ?_))
                refine bodyPost_ret (v := .tuple #[.agg _, .int .i64 2]) (results_cell_tmp1 Tryz.results6 _ _ w.heap.size 32 _ (0, 0) _ rfl (setRow_heap _ _ _ _ _ _ hb2) (by kernel_rfl : Tryz.prog.underlying 32 = some (.struct (Tryz.prog.fieldsOf 32))) rfl (by kernel_rfl)) rfl ?_
                exact HX.out

end Go.Proofs.YtdhdbmfipkppiaaGreat
