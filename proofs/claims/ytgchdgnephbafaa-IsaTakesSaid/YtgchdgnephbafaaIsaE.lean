/- The walks of Same of the reference, and of few and own of the statements. -/
import Derived.Test.YtgchdgnephbafaaIsaK
namespace Go.Proofs.Ytgchdgnephbafaa
open Go.RowKit

theorem neqGuard : Try.prog.eqGuardType Try.prog.depth 26 = false := by kernel_rfl

set_option maxHeartbeats 1600000 in
theorem same_calls (v u : Value) (l m : List Cm) (w : World) (hv : Cmds w v l) (hu : Cmds w u m) :
    Calls Try.prog 19 #[v, u] w fun e w' => e = .returned (.bool (decide (l = m))) ∧ Below w.heap.size w w' := by
  obtain ⟨A, c, rfl, hlc, hcm, _⟩ := hv.form
  obtain ⟨B, d, rfl, hld, hdm, _⟩ := hu.form
  unfold maxLen at hcm hdm
  by_cases hl : l.length = m.length
  · have HL := Lib.hid hl
    rw [hl] at hlc ⊢
    clear hl
    go_enter Try.func19, Try.ntmps19
    go_wp2
    go_loopw [5] (fun i wr => ∃ k : Nat, k ≤ m.length ∧ i = .int .i64 k ∧ Hid (l.take k = m.take k) ∧ Below w.heap.size w wr) (fun i _ => m.length - (intOf i).toNat)
    case atStart => exact ⟨0, by omega, rfl, rfl, Below.refl _ _⟩
    case round =>
      obtain ⟨k, hk, rfl, heq, hbel⟩ := hrel
      by_cases hlt : k < m.length
      · have hlz : k < l.length := by rw [HL.out]; exact hlt
        obtain ⟨_, _, e1, _, _, hc1⟩ := (hv.below hbel (Nat.le_refl _)).form
        obtain ⟨_, _, e2, _, _, hc2⟩ := (hu.below hbel (Nat.le_refl _)).form
        injection e1 with e3 e4 e5
        injection e2 with e6 e7 e8
        subst e3 e5 e6 e8
        clear e4 e7
        obtain ⟨g, off, rfl, hg, x0, x1, x2, x3, x4, x5, x6, x7, x8, x9, x10, x11, x12, x13⟩ := hc1 k l[k] (by simp [hlz])
        obtain ⟨g2, off2, rfl, hg2, y0, y1, y2, y3, y4, y5, y6, y7, y8, y9, y10, y11, y12, y13⟩ := hc2 k m[k] (by simp [hlt])
        have HS : Hid (l[k] = m[k] → l.take (k + 1) = m.take (k + 1)) := by
          show _ → _
          intro e
          rw [List.take_succ_eq_append_getElem hlz, List.take_succ_eq_append_getElem hlt, heq.out, e]
        have HN : Hid (l[k] ≠ m[k] → decide (l = m) = false) := by
          show _ → _
          intro e
          refine decide_eq_false (fun h => e ?_)
          subst h
          rfl
        clear hc1 hc2
        generalize l[k] = x at *
        generalize m[k] = y at *
        have hq := fun w => cmd_neq x y w
        unfold Cm.v at hq
        have hgd := neqGuard
        go_wp2_with fail
        refine wp_region_R [(0, true), (1, true), (2, true), (3, true), (4, true), (5, true), (6, true), (7, true), (8, true)] (by kernel_rfl) (by kernel_rfl) (fun _ _ d _ _ h => by cases d <;> exact h) ?_
        simp only [pickE, List.getElem?_cons_zero, List.getElem?_cons_succ]
        repeat (refine wpF_pure (by rfl) (fun W hW => by subst hW; go_simp; with_reducible rfl) ?_; simp only [Act.put, List.setIfInBounds_toArray, List.set_cons_zero, List.set_cons_succ])
        refine wpF_nil ?_
        by_cases hxy : x = y
        · have HS1 := Lib.hid (HS.out hxy)
          rw [decide_eq_true hxy]
          clear HS HN hq hxy x0 x1 x2 x3 x4 x5 x6 x7 x8 x9 x10 x11 x12 x13 y0 y1 y2 y3 y4 y5 y6 y7 y8 y9 y10 y11 y12 y13
          go_wp2_with fail
          go_roundw
          case rel => exact ⟨k + 1, by omega, by go_num, HS1, hbel.drew⟩
          case measure => simp [intOf]; omega
        · have HN1 := Lib.hid (HN.out hxy)
          rw [decide_eq_false hxy]
          clear HS HN hq hxy x0 x1 x2 x3 x4 x5 x6 x7 x8 x9 x10 x11 x12 x13 y0 y1 y2 y3 y4 y5 y6 y7 y8 y9 y10 y11 y12 y13
          go_wp2_with fail
          go_ret
          exact ⟨by rw [HN1.out]; rfl, hbel.drew⟩
      · have hkk : k = m.length := by omega
        have HE : Hid (decide (l = m) = true) := by
          show _ = _
          have h1 := heq.out
          rw [hkk, List.take_length, ← HL.out, List.take_length] at h1
          exact decide_eq_true h1
        go_wp2
        go_ret
        exact ⟨by rw [HE.out]; rfl, hbel⟩
  · have HN : Hid (decide (l = m) = false) := decide_eq_false (fun h => hl (by rw [h]))
    go_enter Try.func19, Try.ntmps19
    go_wp2
    go_ret
    exact ⟨by rw [HN.out]; rfl, Below.refl _ _⟩

theorem few_calls (A : Option Addr) (n c : Nat) (w : World) (hnc : n ≤ c) (hc : c ≤ maxLen) :
    Calls Try.prog 11 #[.slice A n c] w fun e w' => e = .returned (.slice A (min n 4100) c) ∧ w = w' := by
  unfold maxLen at hc
  by_cases h : 4100 < n
  · have e : min n 4100 = 4100 := by omega
    have HE := Lib.hid e
    clear e
    go_enter Try.func11, Try.ntmps11
    go_wp2
    go_ret
    exact ⟨by rw [HE.out]; rfl, rfl⟩
  · have e : min n 4100 = n := by omega
    have HE := Lib.hid e
    clear e
    go_enter Try.func11, Try.ntmps11
    go_wp2
    go_ret
    exact ⟨by rw [HE.out]; rfl, rfl⟩

def ownL (l : List Cm) : List Cm := (l.take 200).filter mayB

theorem ownL_all (l : List Cm) : (ownL l).all mayB = true := by
  rw [List.all_eq_true]
  intro x hx
  exact (List.mem_filter.1 hx).2
theorem ownL_len (l : List Cm) : (ownL l).length ≤ 200 := by
  unfold ownL
  have h1 := List.length_filter_le mayB (l.take 200)
  have h2 : (l.take 200).length ≤ 200 := by rw [List.length_take]; omega
  omega

set_option maxRecDepth 20000 in
set_option maxHeartbeats 3200000 in
theorem own_calls (v : Value) (l : List Cm) (w : World) (hv : Cmds w v l) :
    Calls Try.prog 20 #[v] w (Made 26 14 (ownL l).length ((ownL l).flatMap Cm.cs) w) := by
  obtain ⟨A, c, rfl, hlc, hcm, _⟩ := hv.form
  unfold maxLen at hcm
  have hO : Hid (ownL l = (l.take 200).filter mayB) := rfl
  generalize ownL l = ol at *
  have hb0 := below_alloc (Below.refl w.heap.size w) (Nat.le_refl _) (.cells #[] 26)
  have hown0 := World.ownsRow_made (base := w.heap.size) (e := 26) (size := 14) w #[] 0 (Nat.le_refl _) (Nat.zero_le _) (by simp)
  go_enter Try.func20, Try.ntmps20
  go_wp2_with fail
  generalize w.alloc _ = w0 at *
  go_loopw [3, 4] (fun b i wr => ∃ (k : Nat) (lk : List Cm), k ≤ l.length ∧ k ≤ 200 ∧ i = .int .i64 k ∧ Hid (lk = (l.take k).filter mayB) ∧ Hid (lk.length ≤ k) ∧ wr.ownsRow w.heap.size 26 14 b lk.length (lk.flatMap Cm.cs) ∧ Below w.heap.size w wr) (fun _ i _ => 200 - (intOf i).toNat)
  case atStart => exact ⟨0, [], by omega, by omega, rfl, rfl, Nat.le_refl _, hown0, hb0⟩
  case round =>
    clear hb0 hown0
    obtain ⟨k, lk, hk, hk2, rfl, hlk, hll, hown, hbel⟩ := hrel
    by_cases hlt : k < l.length
    · by_cases hlt2 : k < 200
      · obtain ⟨_, _, e1, _, _, hc1⟩ := (hv.below hbel (Nat.le_refl _)).form
        injection e1 with e3 e4 e5
        subst e3 e5
        clear e4
        obtain ⟨g, off, rfl, hg, x0, x1, x2, x3, x4, x5, x6, x7, x8, x9, x10, x11, x12, x13⟩ := hc1 k l[k] (by simp [hlt])
        have HF : Hid ((l.take (k + 1)).filter mayB = lk ++ (if mayB l[k] then [l[k]] else [])) := by
          show _ = _
          rw [List.take_succ_eq_append_getElem hlt, List.filter_append, hlk.out]
          congr 1
          by_cases h : mayB l[k] = true
          · simp [h]
          · simp [h]
        clear hc1
        generalize l[k] = x at *
        have hm := may_calls x wr
        unfold Cm.v at hm
        go_wp2_with fail
        refine hm.mono ?_
        rintro e w2 ⟨rfl, hb2⟩
        have hown2 := hown.kept (row := none) (grown_of_ext hb2) (by cases u3.ownBlock <;> simp)
        have hbel2 := hbel.trans (hb2.mono hbel.size)
        have y0 := (hb2.cell (p := ⟨g, off + k * 14, none⟩) hg).trans x0
        have y1 := (hb2.cell (p := ⟨g, off + k * 14 + 1, none⟩) hg).trans x1
        have y2 := (hb2.cell (p := ⟨g, off + k * 14 + 2, none⟩) hg).trans x2
        have y3 := (hb2.cell (p := ⟨g, off + k * 14 + 3, none⟩) hg).trans x3
        have y4 := (hb2.cell (p := ⟨g, off + k * 14 + 4, none⟩) hg).trans x4
        have y5 := (hb2.cell (p := ⟨g, off + k * 14 + 5, none⟩) hg).trans x5
        have y6 := (hb2.cell (p := ⟨g, off + k * 14 + 6, none⟩) hg).trans x6
        have y7 := (hb2.cell (p := ⟨g, off + k * 14 + 7, none⟩) hg).trans x7
        have y8 := (hb2.cell (p := ⟨g, off + k * 14 + 8, none⟩) hg).trans x8
        have y9 := (hb2.cell (p := ⟨g, off + k * 14 + 9, none⟩) hg).trans x9
        have y10 := (hb2.cell (p := ⟨g, off + k * 14 + 10, none⟩) hg).trans x10
        have y11 := (hb2.cell (p := ⟨g, off + k * 14 + 11, none⟩) hg).trans x11
        have y12 := (hb2.cell (p := ⟨g, off + k * 14 + 12, none⟩) hg).trans x12
        have y13 := (hb2.cell (p := ⟨g, off + k * 14 + 13, none⟩) hg).trans x13
        clear hm x0 x1 x2 x3 x4 x5 x6 x7 x8 x9 x10 x11 x12 x13 hown hbel hb2 hlk
        have hll1 := hll.out
        cases hq : mayB x with
        | false =>
          have hme : mayE x = 1 := by unfold mayE; rw [hq]; rfl
          rw [hme]
          have HF2 : Hid (lk = (l.take (k + 1)).filter mayB) := by
            show _ = _
            rw [HF.out, hq]
            simp
          clear hme hq HF
          go_wp2_with fail
          go_roundw
          case rel => exact ⟨k + 1, lk, by omega, by omega, by go_num, HF2, Nat.le_succ_of_le hll.out, hown2, hbel2⟩
          case measure => simp [intOf]; omega
        | true =>
          have hme : mayE x = 0 := by unfold mayE; rw [hq]; rfl
          rw [hme]
          have HF2 : Hid (lk ++ [x] = (l.take (k + 1)).filter mayB) := by
            show _ = _
            rw [HF.out, hq]
            simp
          clear hme hq HF
          have hnew : Row (w2.alloc (.cells #[.int .i64 x.k, .int .i64 x.s, .int .i64 x.n, .int .i64 x.f, .int .i64 x.r, .int .i64 x.o, .int .i64 x.d, .int .i64 x.p, .int .i64 x.i0, .int .i64 x.i1, .int .i64 x.b0, .int .i64 x.b1, .int .i64 x.h0, .int .i64 x.h1] 26)) (.slice (some ⟨w2.heap.size, 0, none⟩) 1 1) 1 14 x.cs := row_lit w2 #[.int .i64 x.k, .int .i64 x.s, .int .i64 x.n, .int .i64 x.f, .int .i64 x.r, .int .i64 x.o, .int .i64 x.d, .int .i64 x.p, .int .i64 x.i0, .int .i64 x.i1, .int .i64 x.b0, .int .i64 x.b1, .int .i64 x.h0, .int .i64 x.h1] 26 1 14 w2.heap.size rfl rfl (by unfold maxLen; omega)
          have hown3 := hown2.alloc (.cells #[.int .i64 x.k, .int .i64 x.s, .int .i64 x.n, .int .i64 x.f, .int .i64 x.r, .int .i64 x.o, .int .i64 x.d, .int .i64 x.p, .int .i64 x.i0, .int .i64 x.i1, .int .i64 x.b0, .int .i64 x.b1, .int .i64 x.h0, .int .i64 x.h1] 26 (0, 0))
          have hbel3 := below_alloc hbel2 hbel2.size (.cells #[.int .i64 x.k, .int .i64 x.s, .int .i64 x.n, .int .i64 x.f, .int .i64 x.r, .int .i64 x.o, .int .i64 x.d, .int .i64 x.p, .int .i64 x.i0, .int .i64 x.i1, .int .i64 x.b0, .int .i64 x.b1, .int .i64 x.h0, .int .i64 x.h1] 26)
          go_wp2_with (at_builtin; refine stopped ?_)
          refine wpList_append_row rfl rfl elem_cmd hown3 rfl hnew rfl (one_ints _ _) (by omega) (by omega) hbel3.size ?_
          intro v5 w5 ho hgr hn
          have hb5 := below_own hbel3 hbel3.size hown3 (Nat.le_refl _) hgr
          have ho5 : w5.ownsRow w.heap.size 26 14 v5 (lk ++ [x]).length ((lk ++ [x]).flatMap Cm.cs) := by
            rw [List.length_append, List.flatMap_append]
            simpa using ho
          have hl5 : Hid ((lk ++ [x]).length ≤ k + 1) := by show _ ≤ _; rw [List.length_append]; simp; omega
          clear ho hgr hn hnew hown2 hown3 hbel2 hbel3 y0 y1 y2 y3 y4 y5 y6 y7 y8 y9 y10 y11 y12 y13 hll hll1
          go_wp2_with fail
          go_roundw
          case rel => exact ⟨k + 1, lk ++ [x], by omega, by omega, by go_num, HF2, hl5, ho5, hb5⟩
          case measure => simp [intOf]; omega
      · obtain rfl : k = 200 := by omega
        have HE : Hid (lk = ol) := by
          show _ = _
          rw [hO.out, hlk.out]
        go_wp2_with fail
        go_ret
        refine ⟨_, rfl, ?_, hbel⟩
        rw [← HE.out]
        exact hown
    · have HE : Hid (lk = ol) := by
        show _ = _
        rw [hO.out, hlk.out, show k = l.length from by omega, List.take_length, List.take_of_length_le (by omega)]
      go_wp2_with fail
      go_ret
      refine ⟨_, rfl, ?_, hbel⟩
      rw [← HE.out]
      exact hown

end Go.Proofs.Ytgchdgnephbafaa
