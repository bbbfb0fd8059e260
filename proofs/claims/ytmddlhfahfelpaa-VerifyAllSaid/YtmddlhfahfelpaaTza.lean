/- The walk of Put of the reference of commands, and of the law IsaPuts. -/
/- The walk of May of the images' reference. -/
import Derived.Test.YtmddlhfahfelpaaNsaJ
import Derived.Test.YtmddlhfahfelpaaNsaH
import Derived.Test.YtmddlhfahfelpaaVfa
import Derived.Test.YtmddlhfahfelpaaRfj
set_option linter.unusedSimpArgs false
set_option linter.unusedVariables false
set_option linter.unnecessarySimpa false
namespace Go.Proofs.Ytmddlhfahfelpaa.Isa
set_option maxRecDepth 10000
open Go.RowKit

set_option maxRecDepth 20000 in
set_option maxHeartbeats 3200000 in
theorem refPut_calls (v : Value) (l : List Cm) (w : World) (hl : Cmds w v l) :
    Calls Try.prog 44 #[v] w (PutPost l w) := by
  obtain ⟨A, c, rfl, hlc, hcm, _⟩ := id hl.form
  unfold maxLen at hcm
  by_cases hbig : 4096 < l.length
  · have h1 := Lib.hid (show putErr l = 3 from if_pos hbig)
    have h2 := Lib.hid (show putB l = [] from if_pos hbig)
    go_enter Try.func44, Try.ntmps44
    go_wp2
    go_ret2
    refine ⟨.slice none 0 0, by rw [h1.out]; rfl, ?_, Below.refl _ _⟩
    rw [h2.out]
    exact World.ownsRow_nil _ _ _ _
  · have h1 := Lib.hid (show putErr l = if l.all mayB then 0 else 1 from if_neg hbig)
    have h2 := Lib.hid (show putB l = if l.all mayB then encs l else [] from if_neg hbig)
    have hown0 : (w.alloc (.cells #[] 5)).ownsRow w.heap.size 5 1 (.slice (some ⟨w.heap.size, 0, none⟩) 0 0) ([] : List Int).length (([] : List Int).map (Value.int .u8)) := World.ownsRow_made (base := w.heap.size) (e := 5) (size := 1) w #[] 0 (Nat.le_refl _) (Nat.zero_le _) (by simp)
    have hb0 := below_alloc (Below.refl w.heap.size w) (Nat.le_refl _) (.cells #[] 5)
    have hn := refNumber_calls w.heap.size _ [] l.length 2 _ hown0 hb0.size (by omega) (by simp)
    go_enter Try.func44, Try.ntmps44
    go_wp2_with fail
    refine hn.mono ?_
    rintro e w1 ⟨v1, rfl, hg⟩
    have hown := hg.own
    have hb1 := hb0.trans (hg.base hb0.size (fun k hk => by cases hk; exact Nat.le_refl _))
    rw [List.nil_append] at hown
    clear hg hn hown0 hb0
    go_wp2_with fail
    go_loopw [4, 5] (fun b i wr => ∃ (k : Nat) (bk : List Int), k ≤ l.length ∧ i = .int .i64 k ∧ Hid ((l.take k).all mayB = true) ∧ Hid (bk = be l.length 2 ++ (l.take k).flatMap enc) ∧ Hid (bk.length ≤ 2 + k * 14) ∧ wr.ownsRow w.heap.size 5 1 b bk.length (bk.map (.int .u8)) ∧ Below w.heap.size w wr) (fun _ i _ => l.length - (intOf i).toNat)
    case atStart => exact ⟨0, _, by omega, rfl, rfl, by show _ = _; simp, by show _ ≤ _; rw [be_len]; omega, hown, hb1⟩
    case round =>
      clear hown hb1
      obtain ⟨k, bk, hk, rfl, hall, hbk, hbl, hown, hbel⟩ := hrel
      by_cases hlt : k < l.length
      · have hs : l[k]? = some l[k] := by simp [hlt]
        obtain ⟨_, _, e1, _, _, hcells⟩ := (hl.below hbel (Nat.le_refl _)).form
        cases e1
        obtain ⟨g, off, rfl, hg, x0, x1, x2, x3, x4, x5, x6, x7, x8, x9, x10, x11, x12, x13⟩ := hcells k _ hs
        have HT := Lib.hid (show l.take (k + 1) = l.take k ++ [l[k]] from List.take_succ_eq_append_getElem hlt)
        have HM := Lib.hid (show mayB l[k] = false → l.all mayB = false from fun h => by
          rw [Bool.eq_false_iff]; intro h'; rw [List.all_eq_true.1 h' _ (List.getElem_mem hlt)] at h; cases h)
        clear hcells hs
        generalize l[k] = x at *
        have hm := refMay_calls x wr
        unfold Cm.v at hm
        go_wp2_with fail
        refine hm.mono ?_
        rintro e w2 ⟨rfl, hb2⟩
        have hown2 := hown.kept (row := none) (grown_of_ext hb2) (by cases u4.ownBlock <;> simp)
        have hbel2 := hbel.trans (hb2.mono hbel.size)
        have y0 := (hb2.cell (p := ⟨g, off + k * 14, none⟩) hg).trans x0
        have y1 := (hb2.cell (p := ⟨g, off + k * 14 + 1, none⟩) hg).trans x1
        have y2 := (hb2.cell (p := ⟨g, off + k * 14 + 2, none⟩) hg).trans x2
        have y3 := (hb2.cell (p := ⟨g, off + k * 14 + 3, none⟩) hg).trans x3
        have y4 := (hb2.cell (p := ⟨g, off + k * 14 + 4, none⟩) hg).trans x4
        have y5 := (hb2.cell (p := ⟨g, off + k * 14 + 5, none⟩) hg).trans x5
        have y6 := (hb2.cell (p := ⟨g, off + k * 14 + 6, none⟩) hg).trans x6
        have y7 := (hb2.cell (p := ⟨g, off + k * 14 + 7, none⟩) hg).trans x7
        have y8 := (hb2.cell (p := ⟨g, off + k * 14 + 8, none⟩) hg).trans x8
        have y9 := (hb2.cell (p := ⟨g, off + k * 14 + 9, none⟩) hg).trans x9
        have y10 := (hb2.cell (p := ⟨g, off + k * 14 + 10, none⟩) hg).trans x10
        have y11 := (hb2.cell (p := ⟨g, off + k * 14 + 11, none⟩) hg).trans x11
        have y12 := (hb2.cell (p := ⟨g, off + k * 14 + 12, none⟩) hg).trans x12
        have y13 := (hb2.cell (p := ⟨g, off + k * 14 + 13, none⟩) hg).trans x13
        clear hm x0 x1 x2 x3 x4 x5 x6 x7 x8 x9 x10 x11 x12 x13 hown hbel hb2
        have hbl1 := hbl.out
        cases hq : mayB x with
        | false =>
          have hme : mayE x = 1 := by unfold mayE; rw [hq]; rfl
          have HA := Lib.hid (HM.out hq)
          rw [hme]
          clear hme hq HM
          go_wp2_with fail
          go_ret2
          refine ⟨.slice none 0 0, by rw [h1.out, HA.out]; rfl, ?_, hbel2⟩
          rw [h2.out, HA.out]
          exact World.ownsRow_nil _ _ _ _
        | true =>
          have hme : mayE x = 0 := by unfold mayE; rw [hq]; rfl
          have HA : Hid ((l.take (k + 1)).all mayB = true) := by
            show _ = _
            rw [HT.out, List.all_append, hall.out]
            simp [hq]
          rw [hme]
          clear hme hq HM hall
          have hp := refPut1_calls x w.heap.size u4 bk w2 hown2 hbel2.size (by omega)
          unfold Cm.v at hp
          go_wp2_with fail
          refine hp.mono ?_
          rintro e w3 ⟨v3, rfl, hg3⟩
          unfold GrewB at hg3
          have hbk2 : Hid (bk ++ enc x = be l.length 2 ++ (l.take (k + 1)).flatMap enc) := by
            show _ = _
            rw [HT.out, List.flatMap_append, hbk.out]
            simp
          have hbl2 : Hid ((bk ++ enc x).length ≤ 2 + (k + 1) * 14) := by
            show _ ≤ _
            have := enc_len x
            rw [List.length_append]
            omega
          have hownF := hg3.own
          have hbelF := hbel2.trans (hg3.base hbel2.size (fun k hk => (hown2.lt k hk).1))
          clear hg3 hp hown2 hbel2 hbk hbl hbl1 HT y0 y1 y2 y3 y4 y5 y6 y7 y8 y9 y10 y11 y12 y13
          go_wp2_with fail
          go_roundw
          case rel => exact ⟨k + 1, bk ++ enc x, by omega, by go_num, HA, hbk2, hbl2, hownF, hbelF⟩
          case measure => simp [intOf]; omega
      · have hkk : k = l.length := by omega
        have hA : Hid (l.all mayB = true) := by
          have := hall.out
          rwa [hkk, List.take_length] at this
        have hB : Hid (bk = encs l) := by
          show _ = _
          rw [hbk.out, hkk, List.take_length]
          rfl
        clear hall hbk hbl
        go_wp2_with fail
        go_ret2
        refine ⟨_, by rw [h1.out, hA.out]; rfl, ?_, hbel⟩
        rw [h2.out, hA.out, if_pos rfl, ← hB.out]
        exact hown

end Go.Proofs.Ytmddlhfahfelpaa.Isa

namespace Go.Proofs.Ytmddlhfahfelpaa
set_option maxRecDepth 10000
open Go.RowKit

theorem fitsB_all {vs : List Vl} {pl : List Int} (hl : vs.length = pl.length) (h : ∀ j, j < vs.length → fitB (vs[j]?.getD default) (pl[j]?.getD 0) = true) : fitsB vs pl = true := by
  unfold fitsB
  rw [decide_eq_true hl, Bool.true_and, List.all_eq_true]
  intro j hj
  exact h j (by simpa using hj)
theorem fitsB_not {vs : List Vl} {pl : List Int} {j : Nat} (hj : j < vs.length) (h : fitB (vs[j]?.getD default) (pl[j]?.getD 0) = false) : fitsB vs pl = false := by
  unfold fitsB
  rw [Bool.and_eq_false_iff]
  refine Or.inr ?_
  rw [Bool.eq_false_iff]
  intro ha
  have := List.all_eq_true.1 ha j (by simpa using hj)
  rw [h] at this
  cases this
theorem fitsB_len {vs : List Vl} {pl : List Int} (h : vs.length ≠ pl.length) : fitsB vs pl = false := by
  unfold fitsB
  rw [decide_eq_false h, Bool.false_and]

set_option maxRecDepth 20000 in
set_option maxHeartbeats 6400000 in
theorem rimay_calls (g : Gr) (pV s0 s1 s2 : Value) (pl : List Int) (L0 L1 L2 : List Isa.Cm) (w : World) (hg : GrAt w g) (hp : Ints .i64 w pV pl) (hpk : ∀ z ∈ pl, InK .i64 z)
    (h0 : Isa.Cmds w s0 L0) (h1 : Isa.Cmds w s1 L1) (h2 : Isa.Cmds w s2 L2) :
    Calls Try.prog 25 #[.agg #[g.iV, g.nV, g.oV, pV, s0, s1, s2]] w (MayP (mayI g pl L0 L1 L2) w) := by
  have HM : Hid (mayI g pl L0 L1 L2 = if (valuesR g).2 ≠ 0 then (valuesR g).2 else if fitsB (valuesR g).1 pl = false then 1 else if Isa.putErr L0 ≠ 0 then Isa.putErr L0 else if Isa.putErr L1 ≠ 0 then Isa.putErr L1 else Isa.putErr L2) := rfl
  have HP : Hid (∀ (z : Int) w', z = mayI g pl L0 L1 L2 → Ext w w' → MayP (mayI g pl L0 L1 L2) w (.returned (.int .i64 z)) w') := fun z w' h1 h2 => ⟨by rw [h1], h2⟩
  generalize MayP (mayI g pl L0 L1 L2) w = PP at *
  generalize mayI g pl L0 L1 L2 = mz at *
  have hb1 := Blk.new w #[g.iV, g.nV, g.oV, pV, s0, s1, s2] 30
  have hE1 := ext_alloc w (.cells #[g.iV, g.nV, g.oV, pV, s0, s1, s2] 30)
  have HCS := Lib.hid (And.intro h0 (And.intro h1 h2))
  obtain ⟨Ap, cp, ep, hp1, hp2, hpc⟩ := id hp.form
  unfold maxLen at hp2
  have HPC := Lib.hid hpc
  have HPK := Lib.hid hpk
  have hval := fun W (e : Ext w W) => rvalues_calls g W (hg.ext e)
  unfold ValsPost at hval
  clear h0 h1 h2 hp hpc hpk
  subst ep
  go_enter Try.func25, Try.ntmps25
  go_upto_region 1 with fail
  generalize World.alloc w _ = w1 at *
  have q0 : World.cell? w1 ⟨w.heap.size, 0, none⟩ = some g.iV := hb1.cell 0
  have q1 : World.cell? w1 ⟨w.heap.size, 1, none⟩ = some g.nV := hb1.cell 1
  have q2 : World.cell? w1 ⟨w.heap.size, 2, none⟩ = some g.oV := hb1.cell 2
  have hc := hval w1 hE1
  clear hval
  go_wp2_with fail
  refine hc.mono ?_
  rintro e w2 ⟨hA0, hA1, hE2⟩
  have hE2 : Ext w1 w2 := hE2
  clear q0 q1 q2 hc
  replace hb1 := hb1.ext hE2
  have HE := Lib.hid (hE1.trans hE2)
  by_cases hv0 : (valuesR g).2 = 0
  case neg =>
    obtain rfl := hA1 hv0
    have hnz : ((valuesR g).2 != 0) = true := by simpa using hv0
    have HZ := Lib.hid (show (valuesR g).2 = mz by rw [HM.out, if_pos hv0])
    generalize (valuesR g).2 = z at *
    clear hA0 hA1 hE1 hE2 hb1 hv0
    go_wp2_with fail
    exact HP.out _ _ HZ.out HE.out
  obtain ⟨vV, rfl, hvo⟩ := hA0 hv0
  rw [if_neg (by rw [hv0]; simp)] at HM
  clear hA0 hA1 hv0
  generalize (valuesR g).1 = vs at *
  have hvls : Vls w2 vV vs := row_of_own hvo
  obtain ⟨Av, cv, rfl, hv1, hv2, hvc⟩ := id hvls.form
  unfold maxLen at hv2
  have HVC := Lib.hid hvc
  have q3 : World.cell? w2 ⟨w.heap.size, 3, none⟩ = some (.slice Ap pl.length cp) := hb1.cell 3
  have HB1 := Lib.hid hb1
  clear hvo hvls hvc hb1 hE1 hE2
  by_cases hl : vs.length = pl.length
  case neg =>
    have hnl : ((pl.length : Int) != (vs.length : Int)) = true := by rw [bne_iff_ne]; intro e; exact hl (by exact_mod_cast e.symm)
    have HZ := Lib.hid (show (1 : Int) = mz by rw [HM.out, if_pos (fitsB_len hl)])
    clear hl
    go_wp2_with fail
    exact HP.out _ _ HZ.out HE.out
  have hnl : ((pl.length : Int) != (vs.length : Int)) = false := by rw [bne_eq_false_iff_eq]; exact_mod_cast hl.symm
  have HL := Lib.hid hl
  clear hl
  go_wp2_with fail
  clear q3 hnl
  go_loopw [5] (fun i wr => ∃ k : Nat, k ≤ vs.length ∧ i = .int .i64 k ∧ Hid (∀ j, j < k → fitB (vs[j]?.getD default) (pl[j]?.getD 0) = true) ∧ Hid (Ext w2 wr)) (fun i _ => vs.length - (intOf i).toNat)
  case atStart => exact ⟨0, by omega, rfl, (fun j hj => by omega), Ext.refl _⟩
  case round =>
    obtain ⟨k, hk, rfl, HA, HX⟩ := hrel
    by_cases hlt : k < vs.length
    · have hlp : k < pl.length := by have := HL.out; omega
      have hvs : vs[k]? = some vs[k] := by simp [hlt]
      have hps : pl[k]? = some pl[k] := by simp [hlp]
      obtain ⟨bv, offv, rfl, hbv, hx⟩ := HVC.out k _ hvs
      obtain ⟨bp, offp, rfl, d0⟩ := HPC.out k hlp
      rw [hps] at d0
      simp only [Option.getD_some] at d0
      have HNF := Lib.hid (fun h => fitsB_not (vs := vs) (pl := pl) hlt h)
      have HK1 : Hid (fitB (vs[k]?.getD default) (pl[k]?.getD 0) = true → ∀ j, j < k + 1 → fitB (vs[j]?.getD default) (pl[j]?.getD 0) = true) := by
        show _ → _
        intro h j hj
        rcases Nat.lt_or_ge j k with h1 | h1
        · exact HA.out j h1
        · obtain rfl : j = k := by omega
          exact h
      rw [hvs, hps] at HNF HK1
      simp only [Option.getD_some] at HNF HK1
      generalize vs[k] = x at *
      generalize pl[k] = p at *
      have HFB : Hid (fitB x p = (decide (0 ≤ p) && decide (p ≤ 65536 - sizeZ x.s))) := rfl
      have hszr := sizeZ_range x.s
      have HSZ := Lib.hid (fun W => rSize_calls x.s W)
      generalize sizeZ x.s = sz at *
      have mw : IntKind.i64.wrap (65536 - sz) = 65536 - sz := IntWalk.i64_in _ (by omega)
      have c3 : ∀ W, Ext w2 W → World.cell? W ⟨w.heap.size, 3, none⟩ = some (.slice (some ⟨bp, offp, none⟩) pl.length cp) := fun W e => (HB1.out.ext e).cell 3
      have cp0 : ∀ W, Ext w2 W → World.cell? W ⟨bp, offp + k, none⟩ = some (.int .i64 p) := fun W e => cell_ext d0 _ (HE.out.trans e)
      have cv0 : ∀ W, Ext w2 W → World.cell? W ⟨bv, offv + k * 4, none⟩ = some (.int .i64 x.s.h) := fun W e => cell_ext (hx 0 _ rfl) _ e
      have cv1 : ∀ W, Ext w2 W → World.cell? W ⟨bv, offv + k * 4 + 1, none⟩ = some (.int .i64 x.s.w) := fun W e => cell_ext (hx 1 _ rfl) _ e
      have cv2 : ∀ W, Ext w2 W → World.cell? W ⟨bv, offv + k * 4 + 2, none⟩ = some (.int .i64 x.s.c) := fun W e => cell_ext (hx 2 _ rfl) _ e
      have hXd := HX.out.trans (Ext.drew wr)
      have g1 : (k : Int) < (pl.length : Int) := by omega
      have g2 : (k : Int) < (vs.length : Int) := by omega
      clear hvs hps d0 hx HA hbv
      by_cases hneg : p < 0
      · have d1 : decide (p < 0) = true := decide_eq_true hneg
        have HZ := Lib.hid (show (1 : Int) = mz by rw [HM.out, if_pos (HNF.out (by rw [HFB.out, decide_eq_false (by omega)]; rfl))])
        clear HNF HK1 HFB HSZ
        go_wp2_with fail
        refine wp_region_S (fun W => Ext w2 W) [(0, true), (1, true), (2, true), (3, true), (4, true), (5, true), (6, true), (7, true), (8, true), (9, true), (10, true), (11, true), (12, true), (13, true), (14, true), (15, true), (16, true), (17, false), (18, true), (19, true), (20, true)] (by kernel_rfl) (by kernel_rfl) (fun _ _ d _ _ h => by cases d <;> exact h) hXd ?_
        simp only [pickE, List.getElem?_cons_zero, List.getElem?_cons_succ]
        generalize wr.drew = v0 at *
        repeat (first | (refine wpF_pure (by rfl) (fun W hW => by go_simp; with_reducible rfl) ?_; simp only [Act.put, List.setIfInBounds_toArray, List.set_cons_zero, List.set_cons_succ]) | (refine wpF_skip (by rfl) ?_; simp only [Act.put, List.setIfInBounds_toArray, List.set_cons_zero, List.set_cons_succ]))
        refine wpF_nil ?_
        have HXX := Lib.hid (HE.out.trans hXd)
        clear c3 cp0 cv0 cv1 cv2 hXd
        go_wp2_with fail
        exact HP.out _ _ HZ.out HXX.out
      · have d1 : decide (p < 0) = false := decide_eq_false hneg
        obtain ⟨b, hb⟩ : ∃ b, decide (65536 - sz < p) = b := ⟨_, rfl⟩
        have HB := Lib.hid hb
        go_wp2_with fail
        refine wp_region_S (fun W => Ext w2 W) [(0, true), (1, true), (2, true), (3, true), (4, true), (5, true), (6, true), (7, true), (8, true), (9, true), (10, true), (11, true), (12, true), (13, true), (14, true), (15, true), (16, true), (17, false), (18, true), (19, true), (20, true)] (by kernel_rfl) (by kernel_rfl) (fun _ _ d _ _ h => by cases d <;> exact h) hXd ?_
        simp only [pickE, List.getElem?_cons_zero, List.getElem?_cons_succ]
        generalize wr.drew = v0 at *
        repeat (first | (refine wpF_pure (by rfl) (fun W hW => by go_simp; with_reducible rfl) ?_; simp only [Act.put, List.setIfInBounds_toArray, List.set_cons_zero, List.set_cons_succ]) | (refine wpF_skip (by rfl) ?_; simp only [Act.put, List.setIfInBounds_toArray, List.set_cons_zero, List.set_cons_succ]))
        refine wpF_step (by rfl) (fun K hK => ?_)
        go_simp
        refine (HSZ.out v0).mono ?_
        rintro e v1 ⟨rfl, hE3⟩
        have hX3 := hXd.trans hE3
        refine hK _ _ hX3 ?_
        clear hK K
        try simp only [Act.put, List.setIfInBounds_toArray, List.set_cons_zero, List.set_cons_succ]
        repeat (first | (refine wpF_pure (by rfl) (fun W hW => by go_simp; with_reducible rfl) ?_; simp only [Act.put, List.setIfInBounds_toArray, List.set_cons_zero, List.set_cons_succ]) | (refine wpF_skip (by rfl) ?_; simp only [Act.put, List.setIfInBounds_toArray, List.set_cons_zero, List.set_cons_succ]))
        refine wpF_nil ?_
        have HX3 := Lib.hid hX3
        clear c3 cp0 cv0 cv1 cv2 hXd hE3 hX3
        try rw [hb]
        cases b with
        | true =>
          have HZ := Lib.hid (show (1 : Int) = mz by rw [HM.out, if_pos (HNF.out (by rw [HFB.out, decide_eq_false (show ¬ (p ≤ 65536 - sz) by have := of_decide_eq_true HB.out; omega), Bool.and_false]))])
          clear HNF HK1 HFB HSZ
          go_wp2_with fail
          exact HP.out _ _ HZ.out (HE.out.trans HX3.out)
        | false =>
          have HT1 := Lib.hid (HK1.out (by rw [HFB.out, decide_eq_true (by omega), decide_eq_true (by have := of_decide_eq_false HB.out; omega)]; rfl))
          clear HNF HK1 HFB HSZ hb
          go_wp2_with fail
          go_roundw
          case rel => exact ⟨k + 1, by omega, by go_num, HT1, HX3⟩
          case measure => simp [intOf]; omega
    · have hkk : k = vs.length := by omega
      subst hkk
      have hfit := fitsB_all HL.out HA.out
      rw [if_neg (by rw [hfit]; simp)] at HM
      clear hfit HA HVC HPC HPK HL
      go_wp2_with fail
      go_loopw [6] (fun i wr => ∃ k : Nat, k ≤ 3 ∧ i = .int .i64 k ∧ Hid ((1 ≤ k → Isa.putErr L0 = 0) ∧ (2 ≤ k → Isa.putErr L1 = 0) ∧ (3 ≤ k → Isa.putErr L2 = 0)) ∧ Hid (Ext w2 wr)) (fun i _ => 3 - (intOf i).toNat)
      case atStart => exact ⟨0, by omega, rfl, ⟨fun h => by omega, fun h => by omega, fun h => by omega⟩, HX⟩
      case round =>
        clear HX
        obtain ⟨k, hk, rfl, HA, HX⟩ := hrel
        rcases (by omega : k = 0 ∨ k = 1 ∨ k = 2 ∨ k = 3) with rfl | rfl | rfl | rfl
        · have y4 : World.cell? wr ⟨w.heap.size, 4, none⟩ = some s0 := (HB1.out.ext HX.out).cell 4
          have hpt := Isa.refPut_calls s0 L0 wr (HCS.out.1.below (HE.out.trans HX.out) (Nat.le_refl _))
          unfold Isa.PutPost at hpt
          go_wp2_with fail
          refine hpt.mono ?_
          rintro e w6 ⟨vb, rfl, _, hE6⟩
          have hE6 : Ext wr w6 := hE6
          have HX6 := Lib.hid (HX.out.trans hE6)
          clear y4 hpt hE6 HX
          by_cases hz : Isa.putErr L0 = 0
          · have HZ0 := Lib.hid hz
            have HA2 : Hid ((1 ≤ 1 → Isa.putErr L0 = 0) ∧ (2 ≤ 1 → Isa.putErr L1 = 0) ∧ (3 ≤ 1 → Isa.putErr L2 = 0)) := ⟨fun _ => HZ0.out, fun h => by omega, fun h => by omega⟩
            rw [hz]
            clear hz HA
            go_wp2_with fail
            go_roundw
            case rel => exact ⟨1, by omega, by go_num, HA2, HX6⟩
            case measure => simp [intOf]
          · have hnz : (Isa.putErr L0 != 0) = true := by simpa using hz
            have HZ := Lib.hid (show Isa.putErr L0 = mz by rw [HM.out, if_pos hz])
            generalize Isa.putErr L0 = z at *
            clear hz HA
            go_wp2_with fail
            exact HP.out _ _ HZ.out (HE.out.trans HX6.out)
        · have y5 : World.cell? wr ⟨w.heap.size, 5, none⟩ = some s1 := (HB1.out.ext HX.out).cell 5
          have hpt := Isa.refPut_calls s1 L1 wr (HCS.out.2.1.below (HE.out.trans HX.out) (Nat.le_refl _))
          unfold Isa.PutPost at hpt
          go_wp2_with fail
          refine hpt.mono ?_
          rintro e w6 ⟨vb, rfl, _, hE6⟩
          have hE6 : Ext wr w6 := hE6
          have HX6 := Lib.hid (HX.out.trans hE6)
          clear y5 hpt hE6 HX
          by_cases hz : Isa.putErr L1 = 0
          · have HZ0 := Lib.hid hz
            have HA2 : Hid ((1 ≤ 2 → Isa.putErr L0 = 0) ∧ (2 ≤ 2 → Isa.putErr L1 = 0) ∧ (3 ≤ 2 → Isa.putErr L2 = 0)) := ⟨fun _ => HA.out.1 (by omega), fun _ => HZ0.out, fun h => by omega⟩
            rw [hz]
            clear hz HA
            go_wp2_with fail
            go_roundw
            case rel => exact ⟨2, by omega, by go_num, HA2, HX6⟩
            case measure => simp [intOf]
          · have hnz : (Isa.putErr L1 != 0) = true := by simpa using hz
            have HZ := Lib.hid (show Isa.putErr L1 = mz by rw [HM.out, if_neg (by rw [HA.out.1 (by omega)]; simp), if_pos hz])
            generalize Isa.putErr L1 = z at *
            clear hz HA
            go_wp2_with fail
            exact HP.out _ _ HZ.out (HE.out.trans HX6.out)
        · have y6 : World.cell? wr ⟨w.heap.size, 6, none⟩ = some s2 := (HB1.out.ext HX.out).cell 6
          have hpt := Isa.refPut_calls s2 L2 wr (HCS.out.2.2.below (HE.out.trans HX.out) (Nat.le_refl _))
          unfold Isa.PutPost at hpt
          go_wp2_with fail
          refine hpt.mono ?_
          rintro e w6 ⟨vb, rfl, _, hE6⟩
          have hE6 : Ext wr w6 := hE6
          have HX6 := Lib.hid (HX.out.trans hE6)
          clear y6 hpt hE6 HX
          by_cases hz : Isa.putErr L2 = 0
          · have HZ0 := Lib.hid hz
            have HA2 : Hid ((1 ≤ 3 → Isa.putErr L0 = 0) ∧ (2 ≤ 3 → Isa.putErr L1 = 0) ∧ (3 ≤ 3 → Isa.putErr L2 = 0)) := ⟨fun _ => HA.out.1 (by omega), fun _ => HA.out.2.1 (by omega), fun _ => HZ0.out⟩
            rw [hz]
            clear hz HA
            go_wp2_with fail
            go_roundw
            case rel => exact ⟨3, by omega, by go_num, HA2, HX6⟩
            case measure => simp [intOf]
          · have hnz : (Isa.putErr L2 != 0) = true := by simpa using hz
            have HZ := Lib.hid (show Isa.putErr L2 = mz by rw [HM.out, if_neg (by rw [HA.out.1 (by omega)]; simp), if_neg (by rw [HA.out.2.1 (by omega)]; simp)])
            generalize Isa.putErr L2 = z at *
            clear hz HA
            go_wp2_with fail
            exact HP.out _ _ HZ.out (HE.out.trans HX6.out)
        · have HZ := Lib.hid (show (0 : Int) = mz by rw [HM.out, if_neg (by rw [HA.out.1 (by omega)]; simp), if_neg (by rw [HA.out.2.1 (by omega)]; simp), HA.out.2.2 (by omega)])
          clear HA
          go_wp2_with fail
          exact HP.out _ _ HZ.out (HE.out.trans HX.out)

end Go.Proofs.Ytmddlhfahfelpaa
