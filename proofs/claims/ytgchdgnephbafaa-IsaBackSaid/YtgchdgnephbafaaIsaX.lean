/- The walk of the law IsaBack. -/
import Derived.Test.YtgchdgnephbafaaIsaW
import Derived.Deep.DeepCutAuto
import Derived.Deep.CutBlock
namespace Go.Proofs.Ytgchdgnephbafaa
open Go.RowKit

set_option maxRecDepth 20000 in
set_option maxHeartbeats 6400000 in
theorem isaBack_calls (va vb : Value) (l0 : List Cm) (zs : List Int) (at_ : Int) (w : World) (ha : Cmds w va l0) (hb : Ints .u8 w vb zs) (hz : Bytes zs) :
    Calls Try.prog 7 #[va, vb, .int .i64 at_] w fun e w' => e = .returned (.bool true) ∧ Below w.heap.size w w' := by
  obtain ⟨A, c, rfl, hlc, hcm, _⟩ := id ha.form
  obtain ⟨B, d, rfl, hld, hdm, _⟩ := id hb.form
  unfold maxLen at hcm hdm
  go_enter Try.func7, Try.ntmps7
  go_wp2_with fail
  refine (shown08_calls w).mono ?_
  rintro e w1 ⟨rfl, hE1⟩
  have hv1 := ha.below hE1 (Nat.le_refl _)
  have hO : Hid (ownL l0 = (l0.take 200).filter mayB) := rfl
  have hAl : Hid ((ownL l0).all mayB = true ∧ (ownL l0).length ≤ 200) := ⟨ownL_all l0, ownL_len l0⟩
  generalize ownL l0 = ol at *
  have hb0 := below_alloc (Below.refl w1.heap.size w1) (Nat.le_refl _) (.cells #[] 26)
  have hown0 := World.ownsRow_made (base := w1.heap.size) (e := 26) (size := 14) w1 #[] 0 (Nat.le_refl _) (Nat.zero_le _) (by simp)
  clear ha
  generalize hl0 : l0 = l at *
  clear hl0
  go_upto_block 0 with fail
  generalize w1.alloc _ = w0 at *
  go_cut [8] (fun s8 wx => Cmds wx s8 ol ∧ Below w1.heap.size w1 wx)
  case first =>
    go_wp2_with fail
    go_loopw [8, 9] (fun b i wr => ∃ (k : Nat) (lk : List Cm), k ≤ l.length ∧ k ≤ 200 ∧ i = .int .i64 k ∧ Hid (lk = (l.take k).filter mayB) ∧ Hid (lk.length ≤ k) ∧ wr.ownsRow w1.heap.size 26 14 b lk.length (lk.flatMap Cm.cs) ∧ Below w1.heap.size w1 wr) (fun _ i _ => 200 - (intOf i).toNat)
    case atStart => exact ⟨0, [], by omega, by omega, rfl, rfl, Nat.le_refl _, hown0, hb0⟩
    case round =>
      clear hb0 hown0
      obtain ⟨k, lk, hk, hk2, rfl, hlk, hll, hown, hbel⟩ := hrel
      by_cases hlt12 : k < l.length ∧ k < 200
      · obtain ⟨hlt, hlt2⟩ := hlt12
        · obtain ⟨_, _, e1, _, _, hc1⟩ := (hv1.below hbel (Nat.le_refl _)).form
          injection e1 with e3 e4 e5
          subst e3 e5
          clear e4
          obtain ⟨g, off, rfl, hg, x0, x1, x2, x3, x4, x5, x6, x7, x8, x9, x10, x11, x12, x13⟩ := hc1 k l[k] (by simp [hlt])
          have HF : Hid ((l.take (k + 1)).filter mayB = lk ++ (if mayB l[k] then [l[k]] else [])) := by
            show _ = _
            rw [List.take_succ_eq_append_getElem hlt, List.filter_append, hlk.out]
            congr 1
            by_cases h : mayB l[k] = true
            · simp [h]
            · simp [h]
          clear hc1
          generalize l[k] = x at *
          have hm := may_calls x wr
          unfold Cm.v at hm
          go_wp2_with fail
          refine hm.mono ?_
          rintro e w2 ⟨rfl, hb2⟩
          have hown2 := hown.kept (row := none) (grown_of_ext hb2) (by cases u8.ownBlock <;> simp)
          have hbel2 := hbel.trans (hb2.mono hbel.size)
          have y0 := (hb2.cell (p := ⟨g, off + k * 14, none⟩) hg).trans x0
          have y1 := (hb2.cell (p := ⟨g, off + k * 14 + 1, none⟩) hg).trans x1
          have y2 := (hb2.cell (p := ⟨g, off + k * 14 + 2, none⟩) hg).trans x2
          have y3 := (hb2.cell (p := ⟨g, off + k * 14 + 3, none⟩) hg).trans x3
          have y4 := (hb2.cell (p := ⟨g, off + k * 14 + 4, none⟩) hg).trans x4
          have y5 := (hb2.cell (p := ⟨g, off + k * 14 + 5, none⟩) hg).trans x5
          have y6 := (hb2.cell (p := ⟨g, off + k * 14 + 6, none⟩) hg).trans x6
          have y7 := (hb2.cell (p := ⟨g, off + k * 14 + 7, none⟩) hg).trans x7
          have y8 := (hb2.cell (p := ⟨g, off + k * 14 + 8, none⟩) hg).trans x8
          have y9 := (hb2.cell (p := ⟨g, off + k * 14 + 9, none⟩) hg).trans x9
          have y10 := (hb2.cell (p := ⟨g, off + k * 14 + 10, none⟩) hg).trans x10
          have y11 := (hb2.cell (p := ⟨g, off + k * 14 + 11, none⟩) hg).trans x11
          have y12 := (hb2.cell (p := ⟨g, off + k * 14 + 12, none⟩) hg).trans x12
          have y13 := (hb2.cell (p := ⟨g, off + k * 14 + 13, none⟩) hg).trans x13
          clear hm x0 x1 x2 x3 x4 x5 x6 x7 x8 x9 x10 x11 x12 x13 hown hbel hb2 hlk
          have hll1 := hll.out
          cases hq : mayB x with
          | false =>
            have hme : mayE x = 1 := by unfold mayE; rw [hq]; rfl
            rw [hme]
            have HF2 : Hid (lk = (l.take (k + 1)).filter mayB) := by
              show _ = _
              rw [HF.out, hq]
              simp
            clear hme hq HF
            go_wp2_with fail
            go_roundw
            case rel => exact ⟨k + 1, lk, by omega, by omega, by go_num, HF2, Nat.le_succ_of_le hll.out, hown2, hbel2⟩
            case measure => simp [intOf]; omega
          | true =>
            have hme : mayE x = 0 := by unfold mayE; rw [hq]; rfl
            rw [hme]
            have HF2 : Hid (lk ++ [x] = (l.take (k + 1)).filter mayB) := by
              show _ = _
              rw [HF.out, hq]
              simp
            clear hme hq HF
            have hnew : Row (w2.alloc (.cells #[.int .i64 x.k, .int .i64 x.s, .int .i64 x.n, .int .i64 x.f, .int .i64 x.r, .int .i64 x.o, .int .i64 x.d, .int .i64 x.p, .int .i64 x.i0, .int .i64 x.i1, .int .i64 x.b0, .int .i64 x.b1, .int .i64 x.h0, .int .i64 x.h1] 26)) (.slice (some ⟨w2.heap.size, 0, none⟩) 1 1) 1 14 x.cs := row_lit w2 #[.int .i64 x.k, .int .i64 x.s, .int .i64 x.n, .int .i64 x.f, .int .i64 x.r, .int .i64 x.o, .int .i64 x.d, .int .i64 x.p, .int .i64 x.i0, .int .i64 x.i1, .int .i64 x.b0, .int .i64 x.b1, .int .i64 x.h0, .int .i64 x.h1] 26 1 14 w2.heap.size rfl rfl (by unfold maxLen; omega)
            have hown3 := hown2.alloc (.cells #[.int .i64 x.k, .int .i64 x.s, .int .i64 x.n, .int .i64 x.f, .int .i64 x.r, .int .i64 x.o, .int .i64 x.d, .int .i64 x.p, .int .i64 x.i0, .int .i64 x.i1, .int .i64 x.b0, .int .i64 x.b1, .int .i64 x.h0, .int .i64 x.h1] 26 (0, 0))
            have hbel3 := below_alloc hbel2 hbel2.size (.cells #[.int .i64 x.k, .int .i64 x.s, .int .i64 x.n, .int .i64 x.f, .int .i64 x.r, .int .i64 x.o, .int .i64 x.d, .int .i64 x.p, .int .i64 x.i0, .int .i64 x.i1, .int .i64 x.b0, .int .i64 x.b1, .int .i64 x.h0, .int .i64 x.h1] 26)
            go_wp2_with (at_builtin; refine stopped ?_)
            refine wpList_append_row rfl rfl elem_cmd hown3 rfl hnew rfl (one_ints _ _) (by omega) (by omega) hbel3.size ?_
            intro v5 w5 ho hgr hn
            have hb5 := below_own hbel3 hbel3.size hown3 (Nat.le_refl _) hgr
            have ho5 : w5.ownsRow w1.heap.size 26 14 v5 (lk ++ [x]).length ((lk ++ [x]).flatMap Cm.cs) := by
              rw [List.length_append, List.flatMap_append]
              simpa using ho
            have hl5 : Hid ((lk ++ [x]).length ≤ k + 1) := by show _ ≤ _; rw [List.length_append]; simp; omega
            clear ho hgr hn hnew hown2 hown3 hbel2 hbel3 y0 y1 y2 y3 y4 y5 y6 y7 y8 y9 y10 y11 y12 y13 hll hll1
            go_wp2_with fail
            go_roundw
            case rel => exact ⟨k + 1, lk ++ [x], by omega, by omega, by go_num, HF2, hl5, ho5, hb5⟩
            case measure => simp [intOf]; omega
      · have HE : Hid (lk = ol) := by
          show _ = _
          rw [hO.out, hlk.out]
          by_cases h : k < l.length
          · rw [show k = 200 from by omega]
          · rw [show k = l.length from by omega, List.take_length, List.take_of_length_le (by omega)]
        have hEx : ¬ k < l.length ∨ k = 200 := by omega
        have c8 : Cmds wr u8 lk := row_of_own hown
        rw [HE.out] at c8
        clear hown hlk hll hv1 HE hO
        rcases hEx with hEx | rfl
        all_goals
          go_wp2_with fail
          all_goals
            go_meet
            exact ⟨c8, hbel⟩
  obtain ⟨c8, hbel⟩ := hcut
  have hE2 := hE1.trans (hbel.mono hE1.size)
  clear hb0 hown0 hv1 hO hbel hE1
  have pl := put_ok hAl.out.1 (by have := hAl.out.2; omega)
  obtain ⟨A8, k8, rfl, hk8, hm8, _⟩ := id c8.form
  unfold maxLen at hm8
  have hput := put_calls _ ol wc c8
  go_wp2_with fail
  refine hput.mono ?_
  rintro e w3 ⟨v10, rfl, hown10, hb3⟩
  rw [pl.1]
  rw [pl.2] at hown10
  have c8 := c8.below hb3 (Nat.le_refl _)
  have i10 : Ints .u8 w3 v10 (encs ol) := ints_of_own hown10
  have hE3 := hE2.trans (hb3.mono hE2.size)
  clear hb3 hown10 hE2 pl hput
  obtain ⟨A10, k10, rfl, hk10, hm10, _⟩ := id i10.form
  have LL := Lib.hid (encs_len_lt hAl.out.2)
  obtain ⟨nl, hnl⟩ : ∃ nl, (encs ol).length = nl := ⟨_, rfl⟩
  rw [hnl] at hk10 LL i10 ⊢
  have HNL := Lib.hid hnl
  clear hnl
  unfold maxLen at hm10
  have hnl2 : (encs ol).length ≤ 2802 := by rw [HNL.out]; exact LL.out.1
  go_wp2_with (at_builtin; refine stopped ?_)
  refine wpList_append_fresh rfl rfl elem_u8 rfl i10 rfl (one_ints _ _) (by omega) (by omega) ?_
  intro v57 w4 hown57 hb4
  have hlit := row_lit w4 #[.int .u8 7, .int .u8 7] 5 2 1 w4.heap.size rfl rfl (by unfold maxLen; omega)
  have hown58 := hown57.alloc (.cells #[.int .u8 7, .int .u8 7] 5 (0, 0))
  have hb5 := below_alloc hb4 hb4.size (.cells #[.int .u8 7, .int .u8 7] 5)
  go_wp2_with (at_builtin; refine stopped ?_)
  refine wpList_append_row rfl rfl elem_u8 hown58 rfl hlit rfl (one_ints .u8 [7, 7]) (by omega) (by omega) hb5.size ?_
  intro v59 w6 hown59 hgr hnr
  have hb6 := below_own hb5 hb5.size hown58 (Nat.le_refl _) hgr
  have hE6 := hE3.trans (hb6.mono hE3.size)
  have c8 := c8.below hb6 (Nat.le_refl _)
  have i10 := i10.exts hb6 (Nat.le_refl _)
  have i59 : Ints .u8 w6 v59 (encs ol ++ [7, 7]) := ints_of_own (by rw [List.map_append]; exact hown59)
  have T1 := takeL_encs ol [7, 7] hAl.out.1 (by have := hAl.out.2; omega)
  rw [HNL.out] at T1
  have hz59 : Bytes (encs ol ++ [7, 7]) := fun z hz => (List.mem_append.1 hz).elim (bytes_encs ol z) (fun h => by simp at h; subst h; omega)
  clear hb4 hb5 hb6 hgr hnr hown57 hown58 hown59 hE3 hlit hnl2
  have ht := take_calls _ _ w6 i59 hz59
  go_wp2_with fail
  refine ht.mono ?_
  rintro e w7 ⟨_, hok, hb7⟩
  obtain ⟨v12, rfl, hown12⟩ := hok _ _ T1
  have hE7 := hE6.trans (hb7.mono hE6.size)
  have c8 := c8.below hb7 (Nat.le_refl _)
  have c12 : Cmds w7 v12 ol := row_of_own hown12
  have i10 := i10.exts hb7 (Nat.le_refl _)
  clear hok hown12 hb7 hE6 T1 hz59 i59 ht
  go_wp2_with fail
  refine (same_calls _ _ ol ol w7 c12 c8).mono ?_
  rintro e w8 ⟨rfl, hb8⟩
  rw [show decide (ol = ol) = true from decide_eq_true rfl]
  have hE8 := hE7.trans (hb8.mono hE7.size)
  have i10 := i10.exts hb8 (Nat.le_refl _)
  clear hb8 hE7 c8 c12
  go_upto_region 13 with fail
  go_cut [90] (fun s90 wx => s90 = .bool (decide (0 ≤ at_ ∧ at_ < nl)) ∧ w8 = wx)
  case first =>
    go_wp2_with fail
    all_goals
      go_meet
      exact ⟨congrArg Value.bool (by rw [Bool.eq_iff_iff]; simp <;> omega), rfl⟩
  obtain ⟨rfl, rfl⟩ := hcut
  go_upto_if 90 with fail
  obtain ⟨q, hq⟩ : ∃ q, decide (0 ≤ at_ ∧ at_ < nl) = q := ⟨_, rfl⟩
  rw [hq]
  have HQ := Lib.hid hq
  clear hq
  go_cut [7] (fun s7 wx => s7 = .bool true ∧ Below w8.heap.size w8 wx)
  case first =>
    cases q with
    | true =>
      have hat := of_decide_eq_true HQ.out
      obtain ⟨n, rfl⟩ := Int.eq_ofNat_of_zero_le hat.1
      have hn : n < nl := by omega
      have i16 := Ints.first i10 (m := n) (by rw [HNL.out]; omega)
      have T2 := takeL_cut hAl.out.1 (by have := hAl.out.2; omega) (k := n) (by rw [HNL.out]; exact hn)
      have ht := take_calls _ _ w8 i16 (Bytes.take (bytes_encs ol) n)
      have hnk : n ≤ k10 := by omega
      clear HQ
      go_wp2_with fail
      refine ht.mono ?_
      rintro e w9 ⟨hno, _, hb9⟩
      rw [hno T2]
      clear hno ht T2 i16
      go_wp2_with fail
      go_meet
      exact ⟨rfl, hb9⟩
    | false =>
      go_wp2_with fail
      go_meet
      exact ⟨rfl, Below.refl _ _⟩
  obtain ⟨rfl, hb9⟩ := hcut
  have hE9 := hE8.trans (hb9.mono hE8.size)
  have i1 := hb.exts hE9 (Nat.le_refl _)
  clear hb9 hE8 i10 HQ hAl LL HNL
  go_upto_if 107 with fail
  go_cut [1] (fun s1 wx => s1 = .slice B (min zs.length 5000) d ∧ wc = wx)
  case first =>
    by_cases h5 : 5000 < zs.length
    · have HM := Lib.hid (show min zs.length 5000 = 5000 from by omega)
      go_wp2_with fail
      go_meet
      exact ⟨by rw [HM.out], rfl⟩
    · have HM := Lib.hid (show min zs.length 5000 = zs.length from by omega)
      go_wp2_with fail
      go_meet
      exact ⟨by rw [HM.out], rfl⟩
  obtain ⟨rfl, rfl⟩ := hcut
  have i2 := Ints.first i1 (m := min zs.length 5000) (by omega)
  have hz2 := hz.take (min zs.length 5000)
  have hl2 : (zs.take (min zs.length 5000)).length = min zs.length 5000 := by rw [List.length_take]; omega
  generalize zs.take (min zs.length 5000) = ys at *
  have hy5 : ys.length ≤ 5000 := by omega
  have hyd : ys.length ≤ d := by omega
  rw [← hl2] at i2 ⊢
  clear hl2 i1 hz hld hb
  go_wp2_with (at_builtin; refine stopped ?_)
  refine wpList_append_fresh rfl rfl elem_u8 rfl i2 rfl (one_ints _ _) (by omega) (by omega) ?_
  intro v113 w4 hown113 hb4
  have hE4 := hE9.trans (hb4.mono hE9.size)
  have i2 := i2.exts hb4 (Nat.le_refl _)
  have ht := take_calls v113 ys w4 (ints_of_own hown113) hz2
  clear hb4 hE9 hown113
  go_wp2_with fail
  cases hT : takeL ys with
  | none =>
    rw [hT] at ht
    refine ht.mono ?_
    rintro e w5 ⟨hno, _, hb5⟩
    rw [hno rfl]
    clear hno ht hT i2
    go_wp2_with fail
    go_ret
    exact ⟨rfl, hE4.trans (hb5.mono hE4.size)⟩
  | some p =>
    obtain ⟨lz, n⟩ := p
    rw [hT] at ht
    obtain ⟨q1, q2, q3, q4⟩ := takeL_ok hz2 hT
    refine ht.mono ?_
    rintro e w5 ⟨_, hok, hb5⟩
    obtain ⟨v19, rfl, hown19⟩ := hok _ _ rfl
    have hE5 := hE4.trans (hb5.mono hE4.size)
    have i2 := i2.exts hb5 (Nat.le_refl _)
    have hput := put_calls v19 lz w5 (row_of_own hown19)
    obtain ⟨p1, p2⟩ := put_ok q2 q1
    clear hok ht hb5 hE4 hT hown19
    go_wp2_with fail
    refine hput.mono ?_
    rintro e w6 ⟨v22, rfl, hown22, hb6⟩
    rw [p1]
    rw [p2, q4] at hown22
    have hE6 := hE5.trans (hb6.mono hE5.size)
    have i2 := i2.exts hb6 (Nat.le_refl _)
    have i3 := Ints.first i2 (m := n) q3
    have i22 := ints_of_own hown22
    obtain ⟨sx, hsx⟩ : ∃ sx, strOfNums (ys.take n) = sx := ⟨_, rfl⟩
    clear hb6 hE5 p1 p2 q4 hown22 hput i2
    have hnd : n ≤ d := by omega
    have HSX := Lib.hid hsx
    clear hsx
    go_wp2_with fail
    have hsx := HSX.out
    have s22 : ∀ W, W = w6.drew → (convert 32 9 v22).run Try.prog W = .ok (.string sx) W := fun W h => by
      subst h
      exact conv_bytes (Ints.ext i22 (Ext.drew w6)) Try.underlying32 Try.underlying5 Try.underlying9 |>.trans (by rw [hsx])
    have s3 : ∀ W, W = w6.drew → (convert 32 9 (.slice B n d)).run Try.prog W = .ok (.string sx) W := fun W h => by
      subst h
      exact conv_bytes (Ints.ext i3 (Ext.drew w6)) Try.underlying32 Try.underlying5 Try.underlying9 |>.trans (by rw [hsx])
    clear i22 i3 hsx HSX
    refine wp_region_R [(0, true), (1, true), (2, true), (3, true), (4, true), (5, true), (6, true), (7, true), (8, true), (9, true), (10, true), (11, true), (12, true), (13, true), (14, true), (15, true), (16, true), (17, true), (18, true), (19, true), (20, true)] (by kernel_rfl) (by kernel_rfl) (fun _ _ d _ _ h => by cases d <;> exact h) ?_
    simp only [pickE, List.getElem?_cons_zero, List.getElem?_cons_succ]
    repeat (refine wpF_pure (by rfl) (fun W hW => by go_simp; with_reducible rfl) ?_; simp only [Act.put, List.setIfInBounds_toArray, List.set_cons_zero, List.set_cons_succ])
    refine wpF_nil ?_
    go_wp2_with fail
    go_ret
    exact ⟨rfl, hE6.drew⟩

end Go.Proofs.Ytgchdgnephbafaa
