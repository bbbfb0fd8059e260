/- The walk of May of the images' reference. -/
/- The walks of some and number of the reference of graphs as bytes. -/
import Derived.Test.YtdhdbmfipkppiaaGreatImb
import Derived.Test.YtdhdbmfipkppiaaGreatRfj
import Derived.Test.YtdhdbmfipkppiaaGreatNsaA
import Derived.Test.YtdhdbmfipkppiaaGreatModO
set_option linter.unusedSimpArgs false
set_option linter.unusedVariables false
set_option linter.unnecessarySimpa false
namespace Go.Proofs.YtdhdbmfipkppiaaGreat
set_option maxRecDepth 10000
open Go.RowKit

theorem fitsB_all {vs : List Vl} {pl : List Int} (hl : vs.length = pl.length) (h : ∀ j, j < vs.length → fitB (vs[j]?.getD default) (pl[j]?.getD 0) = true) : fitsB vs pl = true := by
  unfold fitsB
  rw [decide_eq_true hl, Bool.true_and, List.all_eq_true]
  intro j hj
  exact h j (by simpa using hj)
theorem fitsB_not {vs : List Vl} {pl : List Int} {j : Nat} (hj : j < vs.length) (h : fitB (vs[j]?.getD default) (pl[j]?.getD 0) = false) : fitsB vs pl = false := by
  unfold fitsB
  rw [Bool.and_eq_false_iff]
  refine Or.inr ?_
  rw [Bool.eq_false_iff]
  intro ha
  have := List.all_eq_true.1 ha j (by simpa using hj)
  rw [h] at this
  cases this
theorem fitsB_len {vs : List Vl} {pl : List Int} (h : vs.length ≠ pl.length) : fitsB vs pl = false := by
  unfold fitsB
  rw [decide_eq_false h, Bool.false_and]

set_option maxRecDepth 20000 in
set_option maxHeartbeats 6400000 in
theorem rimay_calls (g : Gr) (pV s0 s1 s2 : Value) (pl : List Int) (L0 L1 L2 : List Isa.Cm) (w : World) (hg : GrAt w g) (hp : Ints .i64 w pV pl) (hpk : ∀ z ∈ pl, InK .i64 z)
    (h0 : Isa.Cmds w s0 L0) (h1 : Isa.Cmds w s1 L1) (h2 : Isa.Cmds w s2 L2) :
    Calls Tryz.prog 16 #[.agg #[g.iV, g.nV, g.oV, pV, s0, s1, s2]] w (MayP (mayI g pl L0 L1 L2) w) := by
  have HM : Hid (mayI g pl L0 L1 L2 = if (valuesR g).2 ≠ 0 then (valuesR g).2 else if fitsB (valuesR g).1 pl = false then 1 else if Isa.putErr L0 ≠ 0 then Isa.putErr L0 else if Isa.putErr L1 ≠ 0 then Isa.putErr L1 else Isa.putErr L2) := rfl
  have HP : Hid (∀ (z : Int) w', z = mayI g pl L0 L1 L2 → Ext w w' → MayP (mayI g pl L0 L1 L2) w (.returned (.int .i64 z)) w') := fun z w' h1 h2 => ⟨by rw [h1], h2⟩
  generalize MayP (mayI g pl L0 L1 L2) w = PP at *
  generalize mayI g pl L0 L1 L2 = mz at *
  have hb1 := Blk.new w #[g.iV, g.nV, g.oV, pV, s0, s1, s2] 32
  have hE1 := ext_alloc w (.cells #[g.iV, g.nV, g.oV, pV, s0, s1, s2] 32)
  have HCS := Lib.hid (And.intro h0 (And.intro h1 h2))
  obtain ⟨Ap, cp, ep, hp1, hp2, hpc⟩ := id hp.form
  unfold maxLen at hp2
  have HPC := Lib.hid hpc
  have HPK := Lib.hid hpk
  have hval := fun W (e : Ext w W) => rvalues_calls g W (hg.ext e)
  unfold ValsPost at hval
  clear h0 h1 h2 hp hpc hpk
  subst ep
  go_enter Tryz.func16, Tryz.ntmps16
  go_upto_region 1 with fail
  generalize World.alloc w _ = w1 at *
  have q0 : World.cell? w1 ⟨w.heap.size, 0, none⟩ = some g.iV := hb1.cell 0
  have q1 : World.cell? w1 ⟨w.heap.size, 1, none⟩ = some g.nV := hb1.cell 1
  have q2 : World.cell? w1 ⟨w.heap.size, 2, none⟩ = some g.oV := hb1.cell 2
  have hc := hval w1 hE1
  clear hval
  go_wp2_with fail
  refine hc.mono ?_
  rintro e w2 ⟨hA0, hA1, hE2⟩
  have hE2 : Ext w1 w2 := hE2
  clear q0 q1 q2 hc
  replace hb1 := hb1.ext hE2
  have HE := Lib.hid (hE1.trans hE2)
  by_cases hv0 : (valuesR g).2 = 0
  case neg =>
    obtain rfl := hA1 hv0
    have hnz : ((valuesR g).2 != 0) = true := by simpa using hv0
    have HZ := Lib.hid (show (valuesR g).2 = mz by rw [HM.out, if_pos hv0])
    generalize (valuesR g).2 = z at *
    clear hA0 hA1 hE1 hE2 hb1 hv0
    go_wp2_with fail
    exact HP.out _ _ HZ.out HE.out
  obtain ⟨vV, rfl, hvo⟩ := hA0 hv0
  rw [if_neg (by rw [hv0]; simp)] at HM
  clear hA0 hA1 hv0
  generalize (valuesR g).1 = vs at *
  have hvls : Vls w2 vV vs := row_of_own hvo
  obtain ⟨Av, cv, rfl, hv1, hv2, hvc⟩ := id hvls.form
  unfold maxLen at hv2
  have HVC := Lib.hid hvc
  have q3 : World.cell? w2 ⟨w.heap.size, 3, none⟩ = some (.slice Ap pl.length cp) := hb1.cell 3
  have HB1 := Lib.hid hb1
  clear hvo hvls hvc hb1 hE1 hE2
  by_cases hl : vs.length = pl.length
  case neg =>
    have hnl : ((pl.length : Int) != (vs.length : Int)) = true := by rw [bne_iff_ne]; intro e; exact hl (by exact_mod_cast e.symm)
    have HZ := Lib.hid (show (1 : Int) = mz by rw [HM.out, if_pos (fitsB_len hl)])
    clear hl
    go_wp2_with fail
    exact HP.out _ _ HZ.out HE.out
  have hnl : ((pl.length : Int) != (vs.length : Int)) = false := by rw [bne_eq_false_iff_eq]; exact_mod_cast hl.symm
  have HL := Lib.hid hl
  clear hl
  go_wp2_with fail
  clear q3 hnl
  go_loopw [5] (fun i wr => ∃ k : Nat, k ≤ vs.length ∧ i = .int .i64 k ∧ Hid (∀ j, j < k → fitB (vs[j]?.getD default) (pl[j]?.getD 0) = true) ∧ Hid (Ext w2 wr)) (fun i _ => vs.length - (intOf i).toNat)
  case atStart => exact ⟨0, by omega, rfl, (fun j hj => by omega), Ext.refl _⟩
  case round =>
    obtain ⟨k, hk, rfl, HA, HX⟩ := hrel
    by_cases hlt : k < vs.length
    · have hlp : k < pl.length := by have := HL.out; omega
      have hvs : vs[k]? = some vs[k] := by simp [hlt]
      have hps : pl[k]? = some pl[k] := by simp [hlp]
      obtain ⟨bv, offv, rfl, hbv, hx⟩ := HVC.out k _ hvs
      obtain ⟨bp, offp, rfl, d0⟩ := HPC.out k hlp
      rw [hps] at d0
      simp only [Option.getD_some] at d0
      have HNF := Lib.hid (fun h => fitsB_not (vs := vs) (pl := pl) hlt h)
      have HK1 : Hid (fitB (vs[k]?.getD default) (pl[k]?.getD 0) = true → ∀ j, j < k + 1 → fitB (vs[j]?.getD default) (pl[j]?.getD 0) = true) := by
        show _ → _
        intro h j hj
        rcases Nat.lt_or_ge j k with h1 | h1
        · exact HA.out j h1
        · obtain rfl : j = k := by omega
          exact h
      rw [hvs, hps] at HNF HK1
      simp only [Option.getD_some] at HNF HK1
      generalize vs[k] = x at *
      generalize pl[k] = p at *
      have HFB : Hid (fitB x p = (decide (0 ≤ p) && decide (p ≤ 65536 - sizeZ x.s))) := rfl
      have hszr := sizeZ_range x.s
      have HSZ := Lib.hid (fun W => rSize_calls x.s W)
      generalize sizeZ x.s = sz at *
      have mw : IntKind.i64.wrap (65536 - sz) = 65536 - sz := IntWalk.i64_in _ (by omega)
      have c3 : ∀ W, Ext w2 W → World.cell? W ⟨w.heap.size, 3, none⟩ = some (.slice (some ⟨bp, offp, none⟩) pl.length cp) := fun W e => (HB1.out.ext e).cell 3
      have cp0 : ∀ W, Ext w2 W → World.cell? W ⟨bp, offp + k, none⟩ = some (.int .i64 p) := fun W e => cell_ext d0 _ (HE.out.trans e)
      have cv0 : ∀ W, Ext w2 W → World.cell? W ⟨bv, offv + k * 4, none⟩ = some (.int .i64 x.s.h) := fun W e => cell_ext (hx 0 _ rfl) _ e
      have cv1 : ∀ W, Ext w2 W → World.cell? W ⟨bv, offv + k * 4 + 1, none⟩ = some (.int .i64 x.s.w) := fun W e => cell_ext (hx 1 _ rfl) _ e
      have cv2 : ∀ W, Ext w2 W → World.cell? W ⟨bv, offv + k * 4 + 2, none⟩ = some (.int .i64 x.s.c) := fun W e => cell_ext (hx 2 _ rfl) _ e
      have hXd := HX.out.trans (Ext.drew wr)
      have g1 : (k : Int) < (pl.length : Int) := by omega
      have g2 : (k : Int) < (vs.length : Int) := by omega
      clear hvs hps d0 hx HA hbv
      by_cases hneg : p < 0
      · have d1 : decide (p < 0) = true := decide_eq_true hneg
        have HZ := Lib.hid (show (1 : Int) = mz by rw [HM.out, if_pos (HNF.out (by rw [HFB.out, decide_eq_false (by omega)]; rfl))])
        clear HNF HK1 HFB HSZ
        go_wp2_with fail
        refine wp_region_S (fun W => Ext w2 W) [(0, true), (1, true), (2, true), (3, true), (4, true), (5, true), (6, true), (7, true), (8, true), (9, true), (10, true), (11, true), (12, true), (13, true), (14, true), (15, true), (16, true), (17, false), (18, true), (19, true), (20, true)] (by kernel_rfl) (by kernel_rfl) (fun _ _ d _ _ h => by cases d <;> exact h) hXd ?_
        simp only [pickE, List.getElem?_cons_zero, List.getElem?_cons_succ]
        generalize wr.drew = v0 at *
        repeat (first | (refine wpF_pure (by rfl) (fun W hW => by go_simp; with_reducible rfl) ?_; simp only [Act.put, List.setIfInBounds_toArray, List.set_cons_zero, List.set_cons_succ]) | (refine wpF_skip (by rfl) ?_; simp only [Act.put, List.setIfInBounds_toArray, List.set_cons_zero, List.set_cons_succ]))
        refine wpF_nil ?_
        have HXX := Lib.hid (HE.out.trans hXd)
        clear c3 cp0 cv0 cv1 cv2 hXd
        go_wp2_with fail
        exact HP.out _ _ HZ.out HXX.out
      · have d1 : decide (p < 0) = false := decide_eq_false hneg
        obtain ⟨b, hb⟩ : ∃ b, decide (65536 - sz < p) = b := ⟨_, rfl⟩
        have HB := Lib.hid hb
        go_wp2_with fail
        refine wp_region_S (fun W => Ext w2 W) [(0, true), (1, true), (2, true), (3, true), (4, true), (5, true), (6, true), (7, true), (8, true), (9, true), (10, true), (11, true), (12, true), (13, true), (14, true), (15, true), (16, true), (17, false), (18, true), (19, true), (20, true)] (by kernel_rfl) (by kernel_rfl) (fun _ _ d _ _ h => by cases d <;> exact h) hXd ?_
        simp only [pickE, List.getElem?_cons_zero, List.getElem?_cons_succ]
        generalize wr.drew = v0 at *
        repeat (first | (refine wpF_pure (by rfl) (fun W hW => by go_simp; with_reducible rfl) ?_; simp only [Act.put, List.setIfInBounds_toArray, List.set_cons_zero, List.set_cons_succ]) | (refine wpF_skip (by rfl) ?_; simp only [Act.put, List.setIfInBounds_toArray, List.set_cons_zero, List.set_cons_succ]))
        refine wpF_step (by rfl) (fun K hK => ?_)
        go_simp
        refine (HSZ.out v0).mono ?_
        rintro e v1 ⟨rfl, hE3⟩
        have hX3 := hXd.trans hE3
        refine hK _ _ hX3 ?_
        clear hK K
        try simp only [Act.put, List.setIfInBounds_toArray, List.set_cons_zero, List.set_cons_succ]
        repeat (first | (refine wpF_pure (by rfl) (fun W hW => by go_simp; with_reducible rfl) ?_; simp only [Act.put, List.setIfInBounds_toArray, List.set_cons_zero, List.set_cons_succ]) | (refine wpF_skip (by rfl) ?_; simp only [Act.put, List.setIfInBounds_toArray, List.set_cons_zero, List.set_cons_succ]))
        refine wpF_nil ?_
        have HX3 := Lib.hid hX3
        clear c3 cp0 cv0 cv1 cv2 hXd hE3 hX3
        try rw [hb]
        cases b with
        | true =>
          have HZ := Lib.hid (show (1 : Int) = mz by rw [HM.out, if_pos (HNF.out (by rw [HFB.out, decide_eq_false (show ¬ (p ≤ 65536 - sz) by have := of_decide_eq_true HB.out; omega), Bool.and_false]))])
          clear HNF HK1 HFB HSZ
          go_wp2_with fail
          exact HP.out _ _ HZ.out (HE.out.trans HX3.out)
        | false =>
          have HT1 := Lib.hid (HK1.out (by rw [HFB.out, decide_eq_true (by omega), decide_eq_true (by have := of_decide_eq_false HB.out; omega)]; rfl))
          clear HNF HK1 HFB HSZ hb
          go_wp2_with fail
          go_roundw
          case rel => exact ⟨k + 1, by omega, by go_num, HT1, HX3⟩
          case measure => simp [intOf]; omega
    · have hkk : k = vs.length := by omega
      subst hkk
      have hfit := fitsB_all HL.out HA.out
      rw [if_neg (by rw [hfit]; simp)] at HM
      clear hfit HA HVC HPC HPK HL
      go_wp2_with fail
      go_loopw [6] (fun i wr => ∃ k : Nat, k ≤ 3 ∧ i = .int .i64 k ∧ Hid ((1 ≤ k → Isa.putErr L0 = 0) ∧ (2 ≤ k → Isa.putErr L1 = 0) ∧ (3 ≤ k → Isa.putErr L2 = 0)) ∧ Hid (Ext w2 wr)) (fun i _ => 3 - (intOf i).toNat)
      case atStart => exact ⟨0, by omega, rfl, ⟨fun h => by omega, fun h => by omega, fun h => by omega⟩, HX⟩
      case round =>
        clear HX
        obtain ⟨k, hk, rfl, HA, HX⟩ := hrel
        rcases (by omega : k = 0 ∨ k = 1 ∨ k = 2 ∨ k = 3) with rfl | rfl | rfl | rfl
        · have y4 : World.cell? wr ⟨w.heap.size, 4, none⟩ = some s0 := (HB1.out.ext HX.out).cell 4
          have hpt := Isa.refPut_calls s0 L0 wr (HCS.out.1.below (HE.out.trans HX.out) (Nat.le_refl _))
          unfold Isa.PutPost at hpt
          go_wp2_with fail
          refine hpt.mono ?_
          rintro e w6 ⟨vb, rfl, _, hE6⟩
          have hE6 : Ext wr w6 := hE6
          have HX6 := Lib.hid (HX.out.trans hE6)
          clear y4 hpt hE6 HX
          by_cases hz : Isa.putErr L0 = 0
          · have HZ0 := Lib.hid hz
            have HA2 : Hid ((1 ≤ 1 → Isa.putErr L0 = 0) ∧ (2 ≤ 1 → Isa.putErr L1 = 0) ∧ (3 ≤ 1 → Isa.putErr L2 = 0)) := ⟨fun _ => HZ0.out, fun h => by omega, fun h => by omega⟩
            rw [hz]
            clear hz HA
            go_wp2_with fail
            go_roundw
            case rel => exact ⟨1, by omega, by go_num, HA2, HX6⟩
            case measure => simp [intOf]
          · have hnz : (Isa.putErr L0 != 0) = true := by simpa using hz
            have HZ := Lib.hid (show Isa.putErr L0 = mz by rw [HM.out, if_pos hz])
            generalize Isa.putErr L0 = z at *
            clear hz HA
            go_wp2_with fail
            exact HP.out _ _ HZ.out (HE.out.trans HX6.out)
        · have y5 : World.cell? wr ⟨w.heap.size, 5, none⟩ = some s1 := (HB1.out.ext HX.out).cell 5
          have hpt := Isa.refPut_calls s1 L1 wr (HCS.out.2.1.below (HE.out.trans HX.out) (Nat.le_refl _))
          unfold Isa.PutPost at hpt
          go_wp2_with fail
          refine hpt.mono ?_
          rintro e w6 ⟨vb, rfl, _, hE6⟩
          have hE6 : Ext wr w6 := hE6
          have HX6 := Lib.hid (HX.out.trans hE6)
          clear y5 hpt hE6 HX
          by_cases hz : Isa.putErr L1 = 0
          · have HZ0 := Lib.hid hz
            have HA2 : Hid ((1 ≤ 2 → Isa.putErr L0 = 0) ∧ (2 ≤ 2 → Isa.putErr L1 = 0) ∧ (3 ≤ 2 → Isa.putErr L2 = 0)) := ⟨fun _ => HA.out.1 (by omega), fun _ => HZ0.out, fun h => by omega⟩
            rw [hz]
            clear hz HA
            go_wp2_with fail
            go_roundw
            case rel => exact ⟨2, by omega, by go_num, HA2, HX6⟩
            case measure => simp [intOf]
          · have hnz : (Isa.putErr L1 != 0) = true := by simpa using hz
            have HZ := Lib.hid (show Isa.putErr L1 = mz by rw [HM.out, if_neg (by rw [HA.out.1 (by omega)]; simp), if_pos hz])
            generalize Isa.putErr L1 = z at *
            clear hz HA
            go_wp2_with fail
            exact HP.out _ _ HZ.out (HE.out.trans HX6.out)
        · have y6 : World.cell? wr ⟨w.heap.size, 6, none⟩ = some s2 := (HB1.out.ext HX.out).cell 6
          have hpt := Isa.refPut_calls s2 L2 wr (HCS.out.2.2.below (HE.out.trans HX.out) (Nat.le_refl _))
          unfold Isa.PutPost at hpt
          go_wp2_with fail
          refine hpt.mono ?_
          rintro e w6 ⟨vb, rfl, _, hE6⟩
          have hE6 : Ext wr w6 := hE6
          have HX6 := Lib.hid (HX.out.trans hE6)
          clear y6 hpt hE6 HX
          by_cases hz : Isa.putErr L2 = 0
          · have HZ0 := Lib.hid hz
            have HA2 : Hid ((1 ≤ 3 → Isa.putErr L0 = 0) ∧ (2 ≤ 3 → Isa.putErr L1 = 0) ∧ (3 ≤ 3 → Isa.putErr L2 = 0)) := ⟨fun _ => HA.out.1 (by omega), fun _ => HA.out.2.1 (by omega), fun _ => HZ0.out⟩
            rw [hz]
            clear hz HA
            go_wp2_with fail
            go_roundw
            case rel => exact ⟨3, by omega, by go_num, HA2, HX6⟩
            case measure => simp [intOf]
          · have hnz : (Isa.putErr L2 != 0) = true := by simpa using hz
            have HZ := Lib.hid (show Isa.putErr L2 = mz by rw [HM.out, if_neg (by rw [HA.out.1 (by omega)]; simp), if_neg (by rw [HA.out.2.1 (by omega)]; simp)])
            generalize Isa.putErr L2 = z at *
            clear hz HA
            go_wp2_with fail
            exact HP.out _ _ HZ.out (HE.out.trans HX6.out)
        · have HZ := Lib.hid (show (0 : Int) = mz by rw [HM.out, if_neg (by rw [HA.out.1 (by omega)]; simp), if_neg (by rw [HA.out.2.1 (by omega)]; simp), HA.out.2.2 (by omega)])
          clear HA
          go_wp2_with fail
          exact HP.out _ _ HZ.out (HE.out.trans HX.out)

end Go.Proofs.YtdhdbmfipkppiaaGreat

namespace Go.Proofs.YtdhdbmfipkppiaaGreat
open Go.RowKit

def GrewPost (w : World) (base : Nat) (e : TypeId) (sz : Nat) (v : Value) (n : Nat) (xs : List Value) (ed : Ending) (w' : World) : Prop := ∃ v', ed = .returned v' ∧ Grew w base e sz v n xs w' v'

theorem shift_i64 {wide i : Nat} (h : i < wide) : (8 * ((wide : Int) - 1 - (i : Int))).toNat = 8 * (wide - 1 - i) := by omega

/-- The first bytes of a number are laid down. -/
def GrewBe (w : World) (base : Nat) (v : Value) (bs : List Int) (x : Int) (wide j : Nat) (w' : World) (v' : Value) : Prop := Grew w base 5 1 v (bs ++ (be x wide).take j).length ((bs ++ (be x wide).take j).map (.int .u8)) w' v'
/-- Which byte is next. -/
def Idx (wide j : Nat) (i : Value) : Prop := i = .int .i64 ((wide : Int) - 1 - (j : Int))

set_option maxHeartbeats 1600000 in
theorem number04_calls (base : Nat) (v : Value) (bs : List Int) (x : Int) (wide : Nat) (w : World)
    (hown : w.ownsRow base 5 1 v bs.length (bs.map (.int .u8))) (hbase : base ≤ w.heap.size) (hw8 : wide ≤ 8) (hn : bs.length + wide ≤ 1099511627776) :
    Calls Tryz.prog 93 #[v, .int .i64 x, .int .i64 wide] w (GrewPost w base 5 1 v (bs ++ be x wide).length ((bs ++ be x wide).map (.int .u8))) := by
  have hg0 : GrewBe w base v bs x wide 0 w v := by unfold GrewBe; simpa using Grew.refl hown
  obtain ⟨F, hF⟩ : ∃ F, bs ++ be x wide = F := ⟨_, rfl⟩
  rw [hF]
  have HF := Lib.hid hF
  clear hF
  go_enter Tryz.func93, Tryz.ntmps93
  go_wp2_with fail
  go_loopw [0, 7] (fun b i wr => ∃ (j : Nat), j ≤ wide ∧ Idx wide j i ∧ GrewBe w base v bs x wide j wr b) (fun _ i _ => (intOf i + 1).toNat)
  case atStart => exact ⟨0, by omega, by unfold Idx; exact congrArg (Value.int .i64) (by omega), hg0⟩
  case round =>
    clear hg0
    obtain ⟨j, hj, hix, hg⟩ := hrel
    unfold Idx at hix
    subst hix
    unfold GrewBe at hg
    by_cases hjlt : j < wide
    · have hs := shift_i64 hjlt
      have hs0 : (0 : Int) ≤ 8 * ((wide : Int) - 1 - (j : Int)) := by omega
      have hs1 : 8 * ((wide : Int) - 1 - (j : Int)) ≤ 64 := by omega
      have hc : (0 : Int) ≤ (wide : Int) - 1 - (j : Int) := by omega
      have HT := Lib.hid (be_take_succ x hjlt)
      have hlen : (bs ++ (be x wide).take j).length = bs.length + j := by rw [List.length_append, List.length_take, be_len]; omega
      have hlen := Lib.hid hlen
      go_wp2_with (at_builtin; refine stopped ?_)
      have hnew := row_new wr #[.int .u8 (x / 2 ^ (8 * (wide - 1 - j)) % 256)] 5 1 1 rfl (by decide)
      have hg1 := hg.alloc (.cells #[.int .u8 (x / 2 ^ (8 * (wide - 1 - j)) % 256)] 5)
      have hl1 := hlen.out
      refine wpList_append_row rfl rfl elem_u8 hg1.own rfl hnew rfl (by intro u hu; simp at hu; subst hu; rfl) (by omega) (by omega) (Nat.le_trans hbase hg1.grown.size) ?_
      intro v' w' ho hgr hn
      have hg2 : GrewBe w base v bs x wide (j + 1) w' v' := by
        unfold GrewBe
        refine hg1.append ?_ hgr hn
        rw [HT.out, ← List.append_assoc, List.length_append, List.map_append]
        exact ho
      clear hg hg1 ho hgr hn hnew hl1
      go_wp2_with fail
      go_roundw
      case rel => exact ⟨j + 1, by omega, by unfold Idx; exact congrArg (Value.int .i64) (by omega), hg2⟩
      case measure => simp [intOf]; omega
    · obtain rfl : j = wide := by omega
      have hc : ¬ (0 : Int) ≤ (j : Int) - 1 - (j : Int) := by omega
      have hg2 : Grew w base 5 1 v F.length (F.map (.int .u8)) wr u0 := by
        have e : (be x j).take j = be x j := List.take_of_length_le (by rw [be_len]; omega)
        rw [e, HF.out] at hg
        exact hg
      clear hg
      go_wp2_with fail
      go_ret
      exact ⟨_, rfl, hg2⟩

/-- A row that lies where another does not. -/
def Off2 (l : List Int) (lv v : Value) : Prop := l ≠ [] → ∀ k, lv.ownBlock = some k → v.ownBlock ≠ some k

theorem ints_grown {w W : World} {k : IntKind} {lv : Value} {l : List Int} {row : Option Nat} (h : Ints k w lv l) (hg : w.grownBy W row) (hoff : l ≠ [] → ∀ b, lv.ownBlock = some b → row ≠ some b) : Ints k W lv l := by
  by_cases hl0 : l = []
  · subst hl0
    obtain ⟨A, c, e, h1, h2, h3, h4⟩ := h
    exact ⟨A, c, e, h1, h2, h3, At.nil _ _⟩
  · exact Row.grown h hg (by
      cases hq : lv.ownBlock with
      | none => exact .inl rfl
      | some k => exact .inr (fun e => hoff hl0 k hq e.symm))

set_option maxHeartbeats 1600000 in
theorem some_calls (base : Nat) (v lv : Value) (bs l : List Int) (w : World) (hown : w.ownsRow base 5 1 v bs.length (bs.map (.int .u8))) (hbase : base ≤ w.heap.size) (hl : Ints .i64 w lv l) (hoff : Off2 l lv v) (hlen : bs.length + l.length ≤ 100000000) :
    Calls Tryz.prog 74 #[v, lv] w (GrewPost w base 5 1 v (bs ++ l.map b8).length ((bs ++ l.map b8).map (.int .u8))) := by
  have hg0 : Grew w base 5 1 v (bs ++ (l.take 0).map b8).length ((bs ++ (l.take 0).map b8).map (.int .u8)) w v := by simpa using Grew.refl hown
  obtain ⟨A, c, rfl, hlc, hcm, _⟩ := id hl.form
  unfold maxLen at hcm
  have hlt0 : l ≠ [] → ∀ k, (Value.slice A l.length c).ownBlock = some k → k < w.heap.size := fun h0 k hk => by
    obtain ⟨b, e, hb⟩ := Row.lt hl (by simpa using h0)
    rw [hk] at e
    cases e
    exact hb
  have HLT := Lib.hid hlt0
  clear hlt0
  go_enter Tryz.func74, Tryz.ntmps74
  go_wp2_with fail
  go_loopw [0, 5] (fun u0 i wr => ∃ (u : Value) (k : Nat), u = u0 ∧ k ≤ l.length ∧ i = .int .i64 k ∧ Grew w base 5 1 v (bs ++ (l.take k).map b8).length ((bs ++ (l.take k).map b8).map (.int .u8)) wr u) (fun _ i _ => l.length - (intOf i).toNat)
  case atStart => exact ⟨_, 0, rfl, by omega, rfl, hg0⟩
  case round =>
    clear hg0
    obtain ⟨u, k, rfl, hk, rfl, hg⟩ := hrel
    by_cases hlt : k < l.length
    · have hI := ints_grown hl hg.grown (fun h0 b hb => hoff h0 b hb)
      obtain ⟨A', c', e', _, _, hcell⟩ := hI.form
      cases e'
      obtain ⟨b, off, rfl, x0⟩ := hcell k hlt
      rw [show l[k]?.getD 0 = l[k] by simp [hlt]] at x0
      have HT : Hid (l.take (k + 1) = l.take k ++ [l[k]]) := List.take_succ_eq_append_getElem hlt
      clear hcell hI
      generalize l[k] = z at *
      have hlk : (bs ++ (l.take k).map b8).length ≤ bs.length + k := by simp; omega
      have hnew := row_new wr #[.int .u8 (z % 256)] 5 1 1 rfl (by decide)
      have hg1 := hg.alloc (.cells #[.int .u8 (z % 256)] 5)
      have hone : ∀ u ∈ #[Value.int .u8 (z % 256)].toList, u.oneCell' = true := by intro u hu; simp at hu; subst hu; rfl
      have hbs2 := Nat.le_trans hbase hg1.grown.size
      have hk1 : (bs ++ (l.take k).map b8).length + 1 ≤ 140737488355328 := by omega
      have hk2 : ((bs ++ (l.take k).map b8).length + 1) * 1 ≤ 140737488355328 := by omega
      clear hg
      go_wp2_with (at_builtin; refine wpList_append_row rfl rfl elem_u8 hg1.own rfl hnew rfl hone hk1 hk2 hbs2 ?_; intro v' w' ho hgr hn)
      have hg2 : Grew w base 5 1 v (bs ++ (l.take (k + 1)).map b8).length ((bs ++ (l.take (k + 1)).map b8).map (.int .u8)) w' v' := by
        refine hg1.append ?_ hgr hn
        rw [HT.out]
        have e1 : (bs ++ (l.take k ++ [z]).map b8).length = (bs ++ (l.take k).map b8).length + 1 := by simp; omega
        have e2 : (bs ++ (l.take k ++ [z]).map b8).map (Value.int .u8) = (bs ++ (l.take k).map b8).map (.int .u8) ++ #[Value.int .u8 (z % 256)].toList := by simp [b8]
        rw [e1, e2]
        exact ho
      go_roundw
      case rel => exact ⟨_, k + 1, rfl, by omega, by go_num, hg2⟩
      case measure => simp [intOf]; omega
    · have e : l.take k = l := List.take_of_length_le (by omega)
      rw [e] at hg
      go_wp2_with fail
      go_ret
      exact ⟨_, rfl, hg⟩

end Go.Proofs.YtdhdbmfipkppiaaGreat
