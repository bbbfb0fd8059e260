/- The walk of Put of the reference of commands, and of the law IsaPuts. -/
import Derived.Test.YtgchdgnephbafaaIsaJ
import Derived.Test.YtgchdgnephbafaaIsaH
import Derived.Test.YtgchdgnephbafaaIsaS
import Derived.Test.YtgchdgnephbafaaIsaE
namespace Go.Proofs.Ytgchdgnephbafaa
open Go.RowKit

set_option maxRecDepth 20000 in
set_option maxHeartbeats 3200000 in
theorem refPut_calls (v : Value) (l : List Cm) (w : World) (hl : Cmds w v l) :
    Calls Try.prog 13 #[v] w (PutPost l w) := by
  obtain ⟨A, c, rfl, hlc, hcm, _⟩ := id hl.form
  unfold maxLen at hcm
  by_cases hbig : 4096 < l.length
  · have h1 := Lib.hid (show putErr l = 3 from if_pos hbig)
    have h2 := Lib.hid (show putB l = [] from if_pos hbig)
    go_enter Try.func13, Try.ntmps13
    go_wp2
    go_ret2
    refine ⟨.slice none 0 0, by rw [h1.out]; rfl, ?_, Below.refl _ _⟩
    rw [h2.out]
    exact World.ownsRow_nil _ _ _ _
  · have h1 := Lib.hid (show putErr l = if l.all mayB then 0 else 1 from if_neg hbig)
    have h2 := Lib.hid (show putB l = if l.all mayB then encs l else [] from if_neg hbig)
    have hown0 : (w.alloc (.cells #[] 5)).ownsRow w.heap.size 5 1 (.slice (some ⟨w.heap.size, 0, none⟩) 0 0) ([] : List Int).length (([] : List Int).map (Value.int .u8)) := World.ownsRow_made (base := w.heap.size) (e := 5) (size := 1) w #[] 0 (Nat.le_refl _) (Nat.zero_le _) (by simp)
    have hb0 := below_alloc (Below.refl w.heap.size w) (Nat.le_refl _) (.cells #[] 5)
    have hn := refNumber_calls w.heap.size _ [] l.length 2 _ hown0 hb0.size (by omega) (by simp)
    go_enter Try.func13, Try.ntmps13
    go_wp2_with fail
    refine hn.mono ?_
    rintro e w1 ⟨v1, rfl, hg⟩
    have hown := hg.own
    have hb1 := hb0.trans (hg.base hb0.size (fun k hk => by cases hk; exact Nat.le_refl _))
    rw [List.nil_append] at hown
    clear hg hn hown0 hb0
    go_wp2_with fail
    go_loopw [4, 5] (fun b i wr => ∃ (k : Nat) (bk : List Int), k ≤ l.length ∧ i = .int .i64 k ∧ Hid ((l.take k).all mayB = true) ∧ Hid (bk = be l.length 2 ++ (l.take k).flatMap enc) ∧ Hid (bk.length ≤ 2 + k * 14) ∧ wr.ownsRow w.heap.size 5 1 b bk.length (bk.map (.int .u8)) ∧ Below w.heap.size w wr) (fun _ i _ => l.length - (intOf i).toNat)
    case atStart => exact ⟨0, _, by omega, rfl, rfl, by show _ = _; simp, by show _ ≤ _; rw [be_len]; omega, hown, hb1⟩
    case round =>
      clear hown hb1
      obtain ⟨k, bk, hk, rfl, hall, hbk, hbl, hown, hbel⟩ := hrel
      by_cases hlt : k < l.length
      · have hs : l[k]? = some l[k] := by simp [hlt]
        obtain ⟨_, _, e1, _, _, hcells⟩ := (hl.below hbel (Nat.le_refl _)).form
        cases e1
        obtain ⟨g, off, rfl, hg, x0, x1, x2, x3, x4, x5, x6, x7, x8, x9, x10, x11, x12, x13⟩ := hcells k _ hs
        have HT := Lib.hid (show l.take (k + 1) = l.take k ++ [l[k]] from List.take_succ_eq_append_getElem hlt)
        have HM := Lib.hid (show mayB l[k] = false → l.all mayB = false from fun h => by
          rw [Bool.eq_false_iff]; intro h'; rw [List.all_eq_true.1 h' _ (List.getElem_mem hlt)] at h; cases h)
        clear hcells hs
        generalize l[k] = x at *
        have hm := refMay_calls x wr
        unfold Cm.v at hm
        go_wp2_with fail
        refine hm.mono ?_
        rintro e w2 ⟨rfl, hb2⟩
        have hown2 := hown.kept (row := none) (grown_of_ext hb2) (by cases u4.ownBlock <;> simp)
        have hbel2 := hbel.trans (hb2.mono hbel.size)
        have y0 := (hb2.cell (p := ⟨g, off + k * 14, none⟩) hg).trans x0
        have y1 := (hb2.cell (p := ⟨g, off + k * 14 + 1, none⟩) hg).trans x1
        have y2 := (hb2.cell (p := ⟨g, off + k * 14 + 2, none⟩) hg).trans x2
        have y3 := (hb2.cell (p := ⟨g, off + k * 14 + 3, none⟩) hg).trans x3
        have y4 := (hb2.cell (p := ⟨g, off + k * 14 + 4, none⟩) hg).trans x4
        have y5 := (hb2.cell (p := ⟨g, off + k * 14 + 5, none⟩) hg).trans x5
        have y6 := (hb2.cell (p := ⟨g, off + k * 14 + 6, none⟩) hg).trans x6
        have y7 := (hb2.cell (p := ⟨g, off + k * 14 + 7, none⟩) hg).trans x7
        have y8 := (hb2.cell (p := ⟨g, off + k * 14 + 8, none⟩) hg).trans x8
        have y9 := (hb2.cell (p := ⟨g, off + k * 14 + 9, none⟩) hg).trans x9
        have y10 := (hb2.cell (p := ⟨g, off + k * 14 + 10, none⟩) hg).trans x10
        have y11 := (hb2.cell (p := ⟨g, off + k * 14 + 11, none⟩) hg).trans x11
        have y12 := (hb2.cell (p := ⟨g, off + k * 14 + 12, none⟩) hg).trans x12
        have y13 := (hb2.cell (p := ⟨g, off + k * 14 + 13, none⟩) hg).trans x13
        clear hm x0 x1 x2 x3 x4 x5 x6 x7 x8 x9 x10 x11 x12 x13 hown hbel hb2
        have hbl1 := hbl.out
        cases hq : mayB x with
        | false =>
          have hme : mayE x = 1 := by unfold mayE; rw [hq]; rfl
          have HA := Lib.hid (HM.out hq)
          rw [hme]
          clear hme hq HM
          go_wp2_with fail
          go_ret2
          refine ⟨.slice none 0 0, by rw [h1.out, HA.out]; rfl, ?_, hbel2⟩
          rw [h2.out, HA.out]
          exact World.ownsRow_nil _ _ _ _
        | true =>
          have hme : mayE x = 0 := by unfold mayE; rw [hq]; rfl
          have HA : Hid ((l.take (k + 1)).all mayB = true) := by
            show _ = _
            rw [HT.out, List.all_append, hall.out]
            simp [hq]
          rw [hme]
          clear hme hq HM hall
          have hp := refPut1_calls x w.heap.size u4 bk w2 hown2 hbel2.size (by omega)
          unfold Cm.v at hp
          go_wp2_with fail
          refine hp.mono ?_
          rintro e w3 ⟨v3, rfl, hg3⟩
          unfold GrewB at hg3
          have hbk2 : Hid (bk ++ enc x = be l.length 2 ++ (l.take (k + 1)).flatMap enc) := by
            show _ = _
            rw [HT.out, List.flatMap_append, hbk.out]
            simp
          have hbl2 : Hid ((bk ++ enc x).length ≤ 2 + (k + 1) * 14) := by
            show _ ≤ _
            have := enc_len x
            rw [List.length_append]
            omega
          have hownF := hg3.own
          have hbelF := hbel2.trans (hg3.base hbel2.size (fun k hk => (hown2.lt k hk).1))
          clear hg3 hp hown2 hbel2 hbk hbl hbl1 HT y0 y1 y2 y3 y4 y5 y6 y7 y8 y9 y10 y11 y12 y13
          go_wp2_with fail
          go_roundw
          case rel => exact ⟨k + 1, bk ++ enc x, by omega, by go_num, HA, hbk2, hbl2, hownF, hbelF⟩
          case measure => simp [intOf]; omega
      · have hkk : k = l.length := by omega
        have hA : Hid (l.all mayB = true) := by
          have := hall.out
          rwa [hkk, List.take_length] at this
        have hB : Hid (bk = encs l) := by
          show _ = _
          rw [hbk.out, hkk, List.take_length]
          rfl
        clear hall hbk hbl
        go_wp2_with fail
        go_ret2
        refine ⟨_, by rw [h1.out, hA.out]; rfl, ?_, hbel⟩
        rw [h2.out, hA.out, if_pos rfl, ← hB.out]
        exact hown

set_option maxRecDepth 20000 in
set_option maxHeartbeats 6400000 in
theorem isaPuts_calls (va : Value) (l0 : List Cm) (w : World) (ha : Cmds w va l0) :
    Calls Try.prog 4 #[va] w fun e w' => e = .returned (.bool true) ∧ Below w.heap.size w w' := by
  obtain ⟨A, c, rfl, hlc, hcm, _⟩ := id ha.form
  have hl1 := ha.first (m := min l0.length 4100) (by omega)
  have hll : (l0.take (min l0.length 4100)).length = min l0.length 4100 := by rw [List.length_take]; omega
  go_enter Try.func4, Try.ntmps4
  go_wp2_with fail
  refine (shown08_calls w).mono ?_
  rintro e w1 ⟨rfl, hE1⟩
  go_wp2_with fail
  refine (few_calls _ _ _ _ hlc hcm).mono ?_
  rintro e w' ⟨rfl, rfl⟩
  have hlc2 : min l0.length 4100 ≤ c := by omega
  generalize l0.take (min l0.length 4100) = l at *
  rw [← hll] at hl1 hlc2 ⊢
  clear ha hlc hll
  unfold maxLen at hcm
  have c1 := hl1.below hE1 (Nat.le_refl _)
  have hp1 := put_calls _ l w1 c1
  go_wp2_with fail
  refine hp1.mono ?_
  rintro e w2 ⟨v4, rfl, hown4, hb2⟩
  have c2 := c1.below hb2 (Nat.le_refl _)
  have hE2 := hE1.trans (hb2.mono hE1.size)
  have hp2 := refPut_calls _ l w2 c2
  have i4 : Ints .u8 w2 v4 (putB l) := ints_of_own hown4
  clear hb2 hE1 c1 hown4 hp1 hl1
  go_wp2_with fail
  refine hp2.mono ?_
  rintro e w3 ⟨v6, rfl, hown6, hb3⟩
  have c3 := c2.below hb3 (Nat.le_refl _)
  have hE3 := hE2.trans (hb3.mono hE2.size)
  have i4 := i4.exts hb3 (Nat.le_refl _)
  have i6 : Ints .u8 w3 v6 (putB l) := ints_of_own hown6
  clear hb3 hE2 c2 hown6 hp2
  generalize putErr l = pe at *
  generalize putB l = pb at *
  go_wp2_with fail
  go_loopw [8] (fun i wr => ∃ k : Nat, k ≤ l.length ∧ k ≤ 50 ∧ i = .int .i64 k ∧ Below w3.heap.size w3 wr) (fun i _ => 50 - (intOf i).toNat)
  case atStart => exact ⟨0, by omega, by omega, rfl, Below.refl _ _⟩
  case round =>
    obtain ⟨k, hk, hk5, rfl, hbel⟩ := hrel
    by_cases hlt12 : k < l.length ∧ k < 50
    · obtain ⟨hlt, hlt2⟩ := hlt12
      obtain ⟨_, _, e1, _, _, hc1⟩ := (c3.below hbel (Nat.le_refl _)).form
      cases e1
      obtain ⟨g, off, rfl, hg, x0, x1, x2, x3, x4, x5, x6, x7, x8, x9, x10, x11, x12, x13⟩ := hc1 k l[k] (by simp [hlt])
      clear hc1
      generalize l[k] = x at *
      have kc : ∀ (o : Nat) (u : Value), wr.cell? ⟨g, o, none⟩ = some u → ∀ W, Below wr.heap.size wr W → W.cell? ⟨g, o, none⟩ = some u := fun o u h W hW => (hW.cell (p := ⟨g, o, none⟩) hg).trans h
      have k0 := kc _ _ x0
      have k1 := kc _ _ x1
      have k2 := kc _ _ x2
      have k3 := kc _ _ x3
      have k4 := kc _ _ x4
      have k5 := kc _ _ x5
      have k6 := kc _ _ x6
      have k7 := kc _ _ x7
      have k8 := kc _ _ x8
      have k9 := kc _ _ x9
      have k10 := kc _ _ x10
      have k11 := kc _ _ x11
      have k12 := kc _ _ x12
      have k13 := kc _ _ x13
      clear kc
      have hm1 := fun W => may_calls x W
      have hm2 := fun W => refMay_calls x W
      have hs1 := fun W => steps_calls x W
      have hs2 := fun W => refSteps_calls x W
      unfold Cm.v at hm1 hm2 hs1 hs2
      generalize mayE x = me at *
      generalize stepsZ x = st at *
      clear x0 x1 x2 x3 x4 x5 x6 x7 x8 x9 x10 x11 x12 x13
      go_wp2_with fail
      refine wp_region_S (Below wr.heap.size wr) [(0, true), (1, true), (2, true), (3, true), (5, true), (6, true), (7, true), (8, true), (4, false), (9, false), (10, true), (11, true), (12, true), (13, true), (14, true), (15, true), (17, true), (18, true), (19, true), (20, true), (16, false), (21, false), (22, true), (23, true)] (by kernel_rfl) (by kernel_rfl) (fun _ _ d _ _ h => by cases d <;> exact h) (Below.refl _ _).drew ?_
      simp only [pickE, List.getElem?_cons_zero, List.getElem?_cons_succ]
      have hS0 := (Below.refl wr.heap.size wr).drew
      generalize wr.drew = w5 at *
      repeat (refine wpF_pure (by rfl) (fun W hW => by go_simp; with_reducible rfl) ?_; simp only [Act.put, List.setIfInBounds_toArray, List.set_cons_zero, List.set_cons_succ])
      refine wpF_step (by rfl) (fun K hK => ?_)
      go_simp
      refine (hm1 _).mono ?_
      rintro e w6 ⟨rfl, h6⟩
      have hS1 := hS0.trans (h6.mono hS0.size)
      refine hK _ _ hS1 ?_
      clear hK K
      repeat (refine wpF_pure (by rfl) (fun W hW => by go_simp; with_reducible rfl) ?_; simp only [Act.put, List.setIfInBounds_toArray, List.set_cons_zero, List.set_cons_succ])
      refine wpF_step (by rfl) (fun K hK => ?_)
      go_simp
      refine (hm2 _).mono ?_
      rintro e w7 ⟨rfl, h7⟩
      have hS2 := hS1.trans (h7.mono hS1.size)
      refine hK _ _ hS2 ?_
      clear hK K
      repeat (refine wpF_pure (by rfl) (fun W hW => by go_simp; with_reducible rfl) ?_; simp only [Act.put, List.setIfInBounds_toArray, List.set_cons_zero, List.set_cons_succ])
      refine wpF_step (by rfl) (fun K hK => ?_)
      go_simp
      refine (hs1 _).mono ?_
      rintro e w8 ⟨rfl, h8⟩
      have hS3 := hS2.trans (h8.mono hS2.size)
      refine hK _ _ hS3 ?_
      clear hK K
      refine wpF_step (by rfl) (fun K hK => ?_)
      go_simp
      refine (hs2 _).mono ?_
      rintro e w9 ⟨rfl, h9⟩
      have hS4 := hS3.trans (h9.mono hS3.size)
      refine hK _ _ hS4 ?_
      clear hK K
      repeat (refine wpF_pure (by rfl) (fun W hW => by go_simp; with_reducible rfl) ?_; simp only [Act.put, List.setIfInBounds_toArray, List.set_cons_zero, List.set_cons_succ])
      refine wpF_nil ?_
      have hF := hbel.trans (hS4.mono hbel.size)
      clear k0 k1 k2 k3 k4 k5 k6 k7 k8 k9 k10 k11 k12 k13 hS0 hS1 hS2 hS3 hS4 h6 h7 h8 h9 hm1 hm2 hs1 hs2 hbel
      go_wp2_with fail
      go_roundw
      case rel => exact ⟨k + 1, by omega, by omega, by go_num, hF⟩
      case measure => simp [intOf]; omega
    · have hEx : ¬ k < l.length ∨ k = 50 := by omega
      have i4 := i4.exts hbel (Nat.le_refl _)
      have i6 := i6.exts hbel (Nat.le_refl _)
      have s4 := conv_bytes (P := Try.prog) i4 (src := 32) (e := 5) (dst := 9) Try.underlying32 Try.underlying5 Try.underlying9
      have s6 := conv_bytes (P := Try.prog) i6 (src := 32) (e := 5) (dst := 9) Try.underlying32 Try.underlying5 Try.underlying9
      have hE9 := hE3.trans (hbel.mono hE3.size)
      generalize strOfNums pb = sp at *
      clear i4 i6 hE3 hbel c3
      rcases hEx with hEx | rfl
      all_goals
        go_wp2_with fail
        all_goals
          go_ret
          exact ⟨rfl, hE9⟩

end Go.Proofs.Ytgchdgnephbafaa
