/- The walk of the reference's Check of layer 20. -/
import Derived.Test.YtmddlhfahfelpaaVfm
set_option linter.unusedSimpArgs false
set_option linter.unusedVariables false
set_option linter.unnecessarySimpa false
namespace Go.Proofs.Ytmddlhfahfelpaa
set_option maxRecDepth 10000
open Go.RowKit

set_option maxRecDepth 20000 in
set_option maxHeartbeats 6400000 in
theorem rcheck_calls (g : Gr) (pV s0 s1 s2 : Value) (pl : List Int) (L0 L1 L2 : List Isa.Cm) (w : World) (hg : GrAt w g) (hp : Ints .i64 w pV pl) (hpk : ∀ z ∈ pl, InK .i64 z)
    (h0 : Isa.Cmds w s0 L0) (h1 : Isa.Cmds w s1 L1) (h2 : Isa.Cmds w s2 L2) :
    Calls Try.prog 15 #[.agg #[g.iV, g.nV, g.oV, pV, s0, s1, s2]] w (MayP (checkZ g pl L0 L1 L2) w) := by
  have HZ : Hid (checkZ g pl L0 L1 L2 = if streamsZ g pl L0 L1 L2 ≠ 0 then streamsZ g pl L0 L1 L2 else if (balZ L0 L1 L2).any (· != 0) then 27 else (turnsZ g pl L0 L1 L2).2) := rfl
  generalize checkZ g pl L0 L1 L2 = mz at *
  have HP : Hid (∀ (z : Int) w', z = mz → Ext w w' → MayP mz w (.returned (.int .i64 z)) w') := fun z w' h1 h2 => ⟨by rw [h1], h2⟩
  generalize MayP mz w = PP at *
  have hb1 := Blk.new w #[g.iV, g.nV, g.oV, pV, s0, s1, s2] 30
  have hE1 := ext_alloc w (.cells #[g.iV, g.nV, g.oV, pV, s0, s1, s2] 30)
  have hst := fun W e => rstreams_calls g pV s0 s1 s2 pl L0 L1 L2 W (hg.ext e) (hp.ext e) hpk (h0.below e (Nat.le_refl _)) (h1.below e (Nat.le_refl _)) (h2.below e (Nat.le_refl _))
  have htu := Lib.hid (fun W e => rturns_calls g pV s0 s1 s2 pl L0 L1 L2 W (hg.ext e) (hp.ext e) hpk (h0.below e (Nat.le_refl _)) (h1.below e (Nat.le_refl _)) (h2.below e (Nat.le_refl _)))
  have hba := Lib.hid (fun W e => rbalance_calls g pV s0 s1 s2 L0 L1 L2 W (h0.below e (Nat.le_refl _)) (h1.below e (Nat.le_refl _)) (h2.below e (Nat.le_refl _)))
  have HMay := Lib.hid (fun h => mayI_len (streamsZ_may (g := g) (pl := pl) (A := L0) (B := L1) (C := L2) h))
  clear hg hp hpk h0 h1 h2
  go_enter Try.func15, Try.ntmps15
  go_upto_region 1 with fail
  generalize World.alloc w _ = w1 at *
  obtain ⟨B, hBe⟩ : ∃ B, w.heap.size = B := ⟨_, rfl⟩
  rw [hBe] at hb1 ⊢
  clear hBe
  have y0 : World.cell? w1 ⟨B, 0, none⟩ = some (g.iV) := hb1.cell 0
  have y1 : World.cell? w1 ⟨B, 1, none⟩ = some (g.nV) := hb1.cell 1
  have y2 : World.cell? w1 ⟨B, 2, none⟩ = some (g.oV) := hb1.cell 2
  have y3 : World.cell? w1 ⟨B, 3, none⟩ = some (pV) := hb1.cell 3
  have y4 : World.cell? w1 ⟨B, 4, none⟩ = some (s0) := hb1.cell 4
  have y5 : World.cell? w1 ⟨B, 5, none⟩ = some (s1) := hb1.cell 5
  have y6 : World.cell? w1 ⟨B, 6, none⟩ = some (s2) := hb1.cell 6
  replace hst := hst w1 hE1
  unfold MayP at hst
  go_wp2_with fail
  refine hst.mono ?_
  rintro e w2 ⟨rfl, hE2⟩
  have hE2 : Ext w1 w2 := hE2
  replace hb1 := hb1.ext hE2
  replace hE1 := hE1.trans hE2
  clear y0 y1 y2 y3 y4 y5 y6
  clear hst hE2
  generalize streamsZ g pl L0 L1 L2 = sz at *
  by_cases hz : sz = 0
  case neg =>
    have hnz : (sz != 0) = true := by simpa using hz
    have HZ1 := Lib.hid (show sz = mz by rw [HZ.out, if_pos hz])
    have HE := Lib.hid hE1
    clear hz hE1 hb1 HZ
    go_wp2_with fail
    exact HP.out _ _ HZ1.out HE.out
  rw [if_neg (by rw [hz]; decide)] at HZ
  have hlen := HMay.out hz
  have hbc := hba.out w2 hE1 (by omega) (by omega) (by omega)
  unfold BalP at hbc
  rw [hz]
  clear hz HMay hlen hba
  have HBL := Lib.hid (balZ_len L0 L1 L2)
  generalize balZ L0 L1 L2 = bz at *
  have y0 : World.cell? w2 ⟨B, 0, none⟩ = some (g.iV) := hb1.cell 0
  have y1 : World.cell? w2 ⟨B, 1, none⟩ = some (g.nV) := hb1.cell 1
  have y2 : World.cell? w2 ⟨B, 2, none⟩ = some (g.oV) := hb1.cell 2
  have y3 : World.cell? w2 ⟨B, 3, none⟩ = some (pV) := hb1.cell 3
  have y4 : World.cell? w2 ⟨B, 4, none⟩ = some (s0) := hb1.cell 4
  have y5 : World.cell? w2 ⟨B, 5, none⟩ = some (s1) := hb1.cell 5
  have y6 : World.cell? w2 ⟨B, 6, none⟩ = some (s2) := hb1.cell 6
  go_wp2_with fail
  refine hbc.mono ?_
  rintro e w3 ⟨v, rfl, hv, hE3⟩
  have hE3 : Ext w2 w3 := hE3
  replace hb1 := hb1.ext hE3
  replace hE1 := hE1.trans hE3
  clear y0 y1 y2 y3 y4 y5 y6
  have HV := Lib.hid hv
  obtain ⟨A, c, rfl, hlc, hcm, _⟩ := hv.form
  unfold maxLen at hcm
  generalize turnsZ g pl L0 L1 L2 = tz at *
  have HE1 := Lib.hid hE1
  have HB1 := Lib.hid hb1
  have HZ0 : Hid (mz = if (bz.drop 0).any (· != 0) then 27 else tz.2) := HZ.out
  clear hbc hE3 hv hE1 hb1 HZ
  go_wp2_with fail
  go_loopw [5] (fun i wr => ∃ j : Nat, j ≤ bz.length ∧ i = .int .i64 j ∧ Hid (mz = if (bz.drop j).any (· != 0) then 27 else tz.2) ∧ Ext w3 wr) (fun i _ => bz.length - (intOf i).toNat)
  case atStart => exact ⟨0, by omega, rfl, HZ0, Ext.refl _⟩
  case round =>
    clear HZ0
    obtain ⟨j, hj, rfl, HZ, hE⟩ := hrel
    by_cases hlt : j < bz.length
    · obtain ⟨_, _, e9, _, _, hcf⟩ := (HV.out.ext hE).form
      cases e9
      obtain ⟨b, off, rfl, c0⟩ := hcf j hlt
      have hbj : bz[j]?.getD 0 = bz[j] := by simp [hlt]
      rw [hbj] at c0
      have hdr : bz.drop j = bz[j] :: bz.drop (j + 1) := List.drop_eq_getElem_cons hlt
      rw [hdr] at HZ
      clear hbj hcf hdr
      generalize bz[j] = x at *
      by_cases hx : x = 0
      · have hnz : (x != 0) = false := by rw [bne_eq_false_iff_eq]; exact hx
        have HN : Hid (mz = if (bz.drop (j + 1)).any (· != 0) then 27 else tz.2) := by
          show _ = _
          rw [HZ.out, List.any_cons, hnz, Bool.false_or]
        clear hx HZ
        go_wp2_with fail
        go_roundw
        case rel => exact ⟨j + 1, by omega, by go_num, HN, hE⟩
        case measure => simp [intOf]; omega
      · have hnz : (x != 0) = true := by simpa using hx
        have HN : Hid (27 = mz) := by
          show _ = _
          rw [HZ.out, List.any_cons, hnz, Bool.true_or, if_pos rfl]
        have HE := Lib.hid (HE1.out.trans hE)
        clear hx HZ
        go_wp2_with fail
        exact HP.out _ _ HN.out HE.out
    · have hjl : j = bz.length := by omega
      have HN : Hid (tz.2 = mz) := by
        show _ = _
        rw [HZ.out, hjl, List.drop_length]
        rfl
      have htc := htu.out wr (HE1.out.trans hE)
      unfold TurnP at htc
      have hbr := HB1.out.ext hE
      have HE := Lib.hid (HE1.out.trans hE)
      have y0 : World.cell? wr ⟨B, 0, none⟩ = some (g.iV) := hbr.cell 0
      have y1 : World.cell? wr ⟨B, 1, none⟩ = some (g.nV) := hbr.cell 1
      have y2 : World.cell? wr ⟨B, 2, none⟩ = some (g.oV) := hbr.cell 2
      have y3 : World.cell? wr ⟨B, 3, none⟩ = some (pV) := hbr.cell 3
      have y4 : World.cell? wr ⟨B, 4, none⟩ = some (s0) := hbr.cell 4
      have y5 : World.cell? wr ⟨B, 5, none⟩ = some (s1) := hbr.cell 5
      have y6 : World.cell? wr ⟨B, 6, none⟩ = some (s2) := hbr.cell 6
      clear hjl HZ hbr hE
      obtain ⟨t1, t2⟩ := tz
      dsimp only at HN htc ⊢
      go_wp2_with fail
      refine htc.mono ?_
      rintro e w5 ⟨rfl, hE5⟩
      have HE5 := Lib.hid (HE.out.trans hE5)
      clear y0 y1 y2 y3 y4 y5 y6
      clear htc hE5
      go_wp2_with fail
      exact HP.out _ _ HN.out HE5.out

end Go.Proofs.Ytmddlhfahfelpaa
