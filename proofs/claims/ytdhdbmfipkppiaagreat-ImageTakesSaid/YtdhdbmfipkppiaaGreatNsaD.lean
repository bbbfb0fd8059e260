/- The walk of Take of the reference of commands. -/
import Derived.Test.YtdhdbmfipkppiaaGreatNsaY
import Derived.Test.YtdhdbmfipkppiaaGreatNsaA
import Derived.Test.YtdhdbmfipkppiaaGreatIma
set_option linter.unusedSimpArgs false
set_option linter.unusedVariables false
set_option linter.unnecessarySimpa false
namespace Go.Proofs.YtdhdbmfipkppiaaGreat.Isa
set_option maxRecDepth 10000
open Go.RowKit

theorem row_part {w : World} {g off n c : Nat} {zs : List Int} (h : Ints .u8 w (.slice (some ⟨g, off, none⟩) n c) zs) {q m : Nat} (hm : q + m ≤ zs.length) : Ints .u8 w (.slice (some ⟨g, off + q, none⟩) m (c - q)) ((zs.drop q).take m) := by
  obtain ⟨A', c', e, h1, h2, h3, h4⟩ := h
  injection e with e1 e2 e3
  subst e1 e2 e3
  have hl : ((zs.drop q).take m).length = m := by rw [List.length_take, List.length_drop]; omega
  refine ⟨some ⟨g, off + q, none⟩, c - q, by rw [hl], by omega, by omega, by simp, ?_⟩
  rw [List.map_take, List.map_drop]
  exact (h4.drop q).take m

theorem atZ_zero (zs : List Int) (n : Nat) : atZ zs 0 n = numOf (zs.take n) := by unfold atZ; rw [List.drop_zero]

set_option maxRecDepth 20000 in
set_option maxHeartbeats 6400000 in
theorem refTake_calls (v : Value) (zs : List Int) (w : World) (hv : Ints .u8 w v zs) (hz : Bytes zs) (hzl : zs.length ≤ 1000000) :
    Calls Tryz.prog 15 #[v] w (TakePost (takeL zs) w) := by
  have hP : ∀ e w', ((takeL zs = none → e = .returned (.tuple #[.slice none 0 0, .int .i64 0, .int .i64 2])) ∧ (∀ l n, takeL zs = some (l, n) → ∃ v', e = .returned (.tuple #[v', .int .i64 n, .int .i64 0]) ∧ w'.ownsRow w.heap.size 75 14 v' l.length (l.flatMap Cm.cs)) ∧ Below w.heap.size w w') → TakePost (takeL zs) w e w' := fun e w' h => h
  have HP := Lib.hid hP
  clear hP
  have HT : Hid (takeL zs = if zs.length < 2 ∨ 4096 < numOf (zs.take 2) then none else (goTake (numOf (zs.take 2)).toNat (zs.drop 2)).map fun p => (p.1, zs.length - p.2.length)) := rfl
  generalize TakePost (takeL zs) w = R at *
  generalize takeL zs = tk at *
  obtain ⟨A, c, rfl, hlc, hcm, _⟩ := id hv.form
  unfold maxLen at hcm
  by_cases h2 : zs.length < 2
  · have HN : Hid (tk = none) := by show _ = _; rw [HT.out, if_pos (Or.inl h2)]
    clear HT
    go_enter Tryz.func15, Tryz.ntmps15
    go_wp2_with fail
    go_ret3
    exact HP.out _ _ ⟨fun _ => rfl, (fun l n h => by rw [HN.out] at h; cases h), Below.refl _ _⟩
  · have hrg := numOf_range 2 (zs.take 2) (by rw [List.length_take]; omega) (fun z hm => hz z (List.mem_of_mem_take hm))
    obtain ⟨N, hN⟩ := Int.eq_ofNat_of_zero_le hrg.1
    have hat := fun (W : World) (hW : Ints .u8 W (.slice A zs.length c) zs) => at_calls _ zs 0 2 W hW hz (by omega) (by omega)
    rw [hN] at HT
    rw [atZ_zero, hN] at hat
    clear hrg hN
    have hat0 := hat w hv
    go_enter Tryz.func15, Tryz.ntmps15
    go_wp2_with fail
    refine hat0.mono ?_
    rintro e w' ⟨rfl, rfl⟩
    clear hat0
    by_cases h3 : 4096 < (N : Int)
    · have HN : Hid (tk = none) := by show _ = _; rw [HT.out, if_pos (Or.inr h3)]
      clear HT
      go_wp2_with fail
      go_ret3
      exact HP.out _ _ ⟨fun _ => rfl, (fun l n h => by rw [HN.out] at h; cases h), Below.refl _ _⟩
    · have HT2 : Hid (tk = (goTake N (zs.drop 2)).map fun p => (p.1, zs.length - p.2.length)) := by
        show _ = _
        rw [HT.out, if_neg (by omega), Int.toNat_natCast]
      have hown0 := World.ownsRow_made (base := w.heap.size) (e := 75) (size := 14) w #[] 0 (Nat.le_refl _) (Nat.zero_le _) (by simp)
      have hb0 := below_alloc (Below.refl w.heap.size w) (Nat.le_refl _) (.cells #[] 75)
      clear HT
      go_wp2_with fail
      generalize w.alloc _ = w0 at *
      go_loopw [5, 6, 7] (fun b p i wr => ∃ (k q : Nat) (lk : List Cm), k ≤ N ∧ i = .int .i64 k ∧ p = .int .i64 q ∧ q ≤ zs.length ∧ Hid (goTake N (zs.drop 2) = (goTake (N - k) (zs.drop q)).map fun p => (lk ++ p.1, p.2)) ∧ Hid (lk.length = k) ∧ wr.ownsRow w.heap.size 75 14 b lk.length (lk.flatMap Cm.cs) ∧ Below w.heap.size w wr) (fun _ _ i _ => N - (intOf i).toNat)
      case atStart => exact ⟨0, 2, [], by omega, rfl, rfl, by omega, by show _ = _; simp, rfl, hown0, hb0⟩
      case round =>
        clear hown0 hb0
        obtain ⟨k, q, lk, hk, rfl, rfl, hq, hgo, hlk, hown, hbel⟩ := hrel
        have hvr := hv.exts hbel (Nat.le_refl _)
        have hat1 := hat wr hvr
        by_cases hlt : k < N
        · obtain ⟨M, hM⟩ : ∃ M, N - k = M + 1 := ⟨N - k - 1, by omega⟩
          have hM' : N - (k + 1) = M := by omega
          have HG : Hid (goTake N (zs.drop 2) = (if stepOk (cmdStep (zs.drop q) false) then (goTake M (cmdStep (zs.drop q) false).1).map fun p => (toCm (cmdStep (zs.drop q) false).2.2.1 :: p.1, p.2) else none).map fun p => (lk ++ p.1, p.2)) := by
            show _ = _
            rw [hgo.out, hM, goTake]
          have HM := Lib.hid hM'
          clear hM hM' hgo
          go_wp2_with fail
          refine hat1.mono ?_
          rintro e w' ⟨rfl, rfl⟩
          clear hat1
          by_cases hql : q < zs.length
          · have hdl : (zs.drop q).length = zs.length - q := List.length_drop
            have hd0 : (zs.drop q)[0]?.getD 0 = zs[q]?.getD 0 := by simp
            obtain ⟨_, _, e1, _, _, hcell⟩ := hvr.form
            cases e1
            obtain ⟨g, off, rfl, x0⟩ := hcell q hql
            have hK0 : 0 ≤ zs[q]?.getD 0 ∧ zs[q]?.getD 0 ≤ 255 := by
              have : zs[q]?.getD 0 = zs[q] := by simp [hql]
              rw [this]
              exact hz _ (List.getElem_mem hql)
            obtain ⟨K, hK⟩ : ∃ K, zs[q]?.getD 0 = K := ⟨_, rfl⟩
            rw [hK] at x0 hK0 hd0
            have hwd := wide_calls K wr hK0
            clear hcell hK
            have HD0 := Lib.hid hd0
            have HDL := Lib.hid hdl
            clear hd0 hdl
            by_cases hk7 : 1 ≤ K ∧ K ≤ 7
            · have hwp := wideZ_pos hk7.1 hk7.2
              by_cases hfit : q + wideZ K ≤ zs.length
              · have HST := Lib.hid (step_some (zs := zs.drop q) (by rw [HDL.out]; omega) (by rw [HD0.out]; exact hk7) (by rw [HD0.out, HDL.out]; omega))
                have hit := row_part hvr hfit
                have hkk0 : ¬ wideZ K = 0 := by omega
                have hl0 : ((zs.drop q).take (wideZ K)).length = wideZ K := by rw [List.length_take, HDL.out]; omega
                have htk := refTake1_calls _ ((zs.drop q).take (wideZ K)) wr hit ((hz.drop q).take _) (by rw [hl0]; omega) (by rw [hl0, List.getElem?_take_of_lt (by omega), HD0.out]; exact Nat.le_refl _)
                have HG2 : Hid (goTake N (zs.drop 2) = (if mayB (refCm ((zs.drop q).take (wideZ K))) then (goTake M (zs.drop (q + wideZ K))).map fun p => (refCm ((zs.drop q).take (wideZ K)) :: p.1, p.2) else none).map fun p => (lk ++ p.1, p.2)) := by
                  have hok : okK K = true := by unfold okK; rw [decide_eq_true_iff]; exact hk7
                  have hso : stepOk (cmdStep (zs.drop q) false) = mayB (refCm ((zs.drop q).take (wideZ K))) := by
                    rw [HST.out, HD0.out]
                    unfold stepOk
                    simp only [hok]
                    rfl
                  show _ = _
                  rw [HG.out, hso, HST.out, HD0.out]
                  simp only [List.drop_drop]
                  rfl
                have hqc : q < c := by omega
                have hqc2 : ¬ c = q := by omega
                have hqc3 : ¬ q = c := by omega
                have hqm : q + wideZ K ≤ c := by omega
                have hm0 : ((wideZ K : Int) == 0) = false := by rw [beq_eq_false_iff_ne]; omega
                have hfi : (q : Int) + (wideZ K : Int) ≤ (zs.length : Int) := by omega
                have hqz : decide (zs.length ≤ q) = false := decide_eq_false (by omega)
                clear HG HST HD0 HDL hit hl0 hkk0
                generalize refCm ((zs.drop q).take (wideZ K)) = x at *
                generalize wideZ K = m at *
                go_wp2_with fail
                refine hwd.mono ?_
                rintro e w' ⟨rfl, rfl⟩
                go_wp2_with fail
                refine hwd.mono ?_
                rintro e w' ⟨rfl, rfl⟩
                go_wp2_with fail
                refine hwd.mono ?_
                rintro e w' ⟨rfl, rfl⟩
                go_wp2_with fail
                have hm := fun W => refMay_calls x W
                unfold Cm.v at htk hm
                refine htk.mono ?_
                rintro e w2 ⟨rfl, hb2⟩
                have hown2 := hown.kept (row := none) (grown_of_ext hb2) (by cases u5.ownBlock <;> simp)
                have hb2' := hbel.trans (hb2.mono hbel.size)
                have hbox := cbox_new w2 x
                have hb3 := below_alloc hb2' hb2'.size (.cells #[.int .i64 x.k, .int .i64 x.s, .int .i64 x.n, .int .i64 x.f, .int .i64 x.r, .int .i64 x.o, .int .i64 x.d, .int .i64 x.p, .int .i64 x.i0, .int .i64 x.i1, .int .i64 x.b0, .int .i64 x.b1, .int .i64 x.h0, .int .i64 x.h1] 75)
                have hown3 := hown2.alloc (.cells #[.int .i64 x.k, .int .i64 x.s, .int .i64 x.n, .int .i64 x.f, .int .i64 x.r, .int .i64 x.o, .int .i64 x.d, .int .i64 x.p, .int .i64 x.i0, .int .i64 x.i1, .int .i64 x.b0, .int .i64 x.b1, .int .i64 x.h0, .int .i64 x.h1] 75 (0, 0))
                clear htk hb2 hown hbel hown2 hb2'
                go_wp2_with fail
                generalize w2.alloc _ = w3 at *
                have hxl := hbox.lt
                refine (hm w3).mono ?_
                rintro e w4 ⟨rfl, hb4⟩
                have hbox4 := hbox.below hb4 hxl
                have hown4 := hown3.kept (row := none) (grown_of_ext hb4) (by cases u5.ownBlock <;> simp)
                have hb4' := hb3.trans (hb4.mono hb3.size)
                clear hm hb4 hown3 hb3 hbox
                cases hq5 : mayB x with
                | false =>
                  have hme : mayE x = 1 := by unfold mayE; rw [hq5]; rfl
                  have HN : Hid (tk = none) := by show _ = _; rw [HT2.out, HG2.out, hq5]; rfl
                  rw [hme]
                  clear hme hq5 HG2 HT2
                  go_wp2_with fail
                  go_ret3
                  exact HP.out _ _ ⟨fun _ => rfl, (fun l n h => by rw [HN.out] at h; cases h), hb4'⟩
                | true =>
                  have hme : mayE x = 0 := by unfold mayE; rw [hq5]; rfl
                  have HG5 : Hid (goTake N (zs.drop 2) = (goTake (N - (k + 1)) (zs.drop (q + m))).map fun p => ((lk ++ [x]) ++ p.1, p.2)) := by
                    show _ = _
                    rw [HG2.out, hq5, if_pos rfl, HM.out]
                    simp [Option.map_map, Function.comp_def]
                  rw [hme]
                  clear hme hq5 HG2
                  have hlk1 := hlk.out
                  obtain ⟨y0, y1, y2, y3, y4, y5, y6, y7, y8, y9, y10, y11, y12, y13⟩ := hbox4.all
                  have hnew : Row (w4.alloc (.cells #[.int .i64 x.k, .int .i64 x.s, .int .i64 x.n, .int .i64 x.f, .int .i64 x.r, .int .i64 x.o, .int .i64 x.d, .int .i64 x.p, .int .i64 x.i0, .int .i64 x.i1, .int .i64 x.b0, .int .i64 x.b1, .int .i64 x.h0, .int .i64 x.h1] 75)) (.slice (some ⟨w4.heap.size, 0, none⟩) 1 1) 1 14 x.cs := row_lit w4 #[.int .i64 x.k, .int .i64 x.s, .int .i64 x.n, .int .i64 x.f, .int .i64 x.r, .int .i64 x.o, .int .i64 x.d, .int .i64 x.p, .int .i64 x.i0, .int .i64 x.i1, .int .i64 x.b0, .int .i64 x.b1, .int .i64 x.h0, .int .i64 x.h1] 75 1 14 w4.heap.size rfl rfl (by unfold maxLen; omega)
                  have hown5 := hown4.alloc (.cells #[.int .i64 x.k, .int .i64 x.s, .int .i64 x.n, .int .i64 x.f, .int .i64 x.r, .int .i64 x.o, .int .i64 x.d, .int .i64 x.p, .int .i64 x.i0, .int .i64 x.i1, .int .i64 x.b0, .int .i64 x.b1, .int .i64 x.h0, .int .i64 x.h1] 75 (0, 0))
                  have hb5 := below_alloc hb4' hb4'.size (.cells #[.int .i64 x.k, .int .i64 x.s, .int .i64 x.n, .int .i64 x.f, .int .i64 x.r, .int .i64 x.o, .int .i64 x.d, .int .i64 x.p, .int .i64 x.i0, .int .i64 x.i1, .int .i64 x.b0, .int .i64 x.b1, .int .i64 x.h0, .int .i64 x.h1] 75)
                  go_wp2_with (at_builtin; refine stopped ?_)
                  refine wpList_append_row rfl rfl elem_cmd hown5 rfl hnew rfl (one_ints _ _) (by omega) (by omega) hb5.size ?_
                  intro v6 w6 ho hgr hnr
                  have hb6 := below_own hb5 hb5.size hown5 (Nat.le_refl _) hgr
                  have ho6 : w6.ownsRow w.heap.size 75 14 v6 (lk ++ [x]).length ((lk ++ [x]).flatMap Cm.cs) := by
                    rw [List.length_append, List.flatMap_append]
                    simpa using ho
                  have hlk5 : Hid ((lk ++ [x]).length = k + 1) := by show _ = _; rw [List.length_append, hlk1]; rfl
                  clear ho hgr hnr hnew hown4 hown5 hb4' hb5 y0 y1 y2 y3 y4 y5 y6 y7 y8 y9 y10 y11 y12 y13 hlk hlk1 hbox4 HM
                  go_wp2_with fail
                  go_roundw
                  case rel => exact ⟨k + 1, q + m, lk ++ [x], by omega, by go_num, by go_num, hfit, HG5, hlk5, ho6, hb6⟩
                  case measure => simp [intOf]; omega
              · have HS := Lib.hid (step_none (zs := zs.drop q) (Or.inr (Or.inr (by rw [HD0.out, HDL.out]; omega))))
                have HN : Hid (tk = none) := by show _ = _; rw [HT2.out, HG.out, HS.out]; rfl
                have hm0 : ((wideZ K : Int) == 0) = false := by rw [beq_eq_false_iff_ne]; omega
                have hfi : (zs.length : Int) < (q : Int) + (wideZ K : Int) := by omega
                have hm14 : wideZ K ≤ 14 := hwp.2
                have hq6 : q ≤ 1000000 := by omega
                have hqz : decide (zs.length ≤ q) = false := decide_eq_false (by omega)
                clear HG HT2 HS HD0 HDL
                generalize wideZ K = m at *
                go_wp2_with fail
                refine hwd.mono ?_
                rintro e w' ⟨rfl, rfl⟩
                go_wp2_with fail
                refine hwd.mono ?_
                rintro e w' ⟨rfl, rfl⟩
                go_wp2_with fail
                all_goals
                  go_ret3
                  exact HP.out _ _ ⟨fun _ => rfl, (fun l n h => by rw [HN.out] at h; cases h), hbel⟩
            · have HW0 := Lib.hid (wideZ_none hk7)
              have HS := Lib.hid (step_none (zs := zs.drop q) (Or.inr (Or.inl (by rw [HD0.out]; exact HW0.out))))
              rw [HW0.out] at hwd
              have HN : Hid (tk = none) := by show _ = _; rw [HT2.out, HG.out, HS.out]; rfl
              clear HG HT2
              go_wp2_with fail
              refine hwd.mono ?_
              rintro e w' ⟨rfl, rfl⟩
              go_wp2_with fail
              go_ret3
              exact HP.out _ _ ⟨fun _ => rfl, (fun l n h => by rw [HN.out] at h; cases h), hbel⟩
          · have HS := Lib.hid (step_none (zs := zs.drop q) (Or.inl (by rw [List.length_drop]; omega)))
            have HN : Hid (tk = none) := by show _ = _; rw [HT2.out, HG.out, HS.out]; rfl
            clear HG HT2
            go_wp2_with fail
            go_ret3
            exact HP.out _ _ ⟨fun _ => rfl, (fun l n h => by rw [HN.out] at h; cases h), hbel⟩
        · have hkN : N - k = 0 := by omega
          have HF : Hid (tk = some (lk, q)) := by
            show _ = _
            rw [HT2.out, hgo.out, hkN, goTake]
            simp
            omega
          clear hkN hgo
          go_wp2_with fail
          refine hat1.mono ?_
          rintro e w' ⟨rfl, rfl⟩
          go_wp2_with fail
          go_ret3
          refine HP.out _ _ ⟨(fun h => by rw [HF.out] at h; cases h), (fun l n h => ?_), hbel⟩
          rw [HF.out] at h
          cases h
          exact ⟨_, rfl, hown⟩

end Go.Proofs.YtdhdbmfipkppiaaGreat.Isa
