/- slices.Equal over numbers, over values, over commands. -/
import Derived.Test.YtdhdbmfipkppiaaNsaP
import Derived.Test.YtdhdbmfipkppiaaGrf
import Derived.Test.YtdhdbmfipkppiaaDraw3
namespace Go.Proofs.Ytdhdbmfipkppiaa
set_option linter.unusedSimpArgs false
set_option linter.unusedVariables false
set_option linter.unnecessarySimpa false
set_option maxRecDepth 10000
open Go.RowKit

set_option maxHeartbeats 1600000 in
theorem eqs_i64 (v u : Value) (l m : List Int) (w : World) (hv : Ints .i64 w v l) (hu : Ints .i64 w u m) :
    Calls Try.prog 84 #[v, u] w fun e w' => e = .returned (.bool (decide (l = m))) ∧ Ext w w' := by
  obtain ⟨A, c, rfl, hlc, hcm, _⟩ := hv.form
  obtain ⟨B, d, rfl, hld, hdm, _⟩ := hu.form
  unfold maxLen at hcm hdm
  by_cases hl : l.length = m.length
  · have HL := Lib.hid hl
    rw [hl] at hlc ⊢
    clear hl
    go_enter Try.func84, Try.ntmps84
    go_wp2_with fail
    go_loopw [13] (fun i wr => ∃ k : Nat, k ≤ m.length ∧ i = .int .i64 k ∧ Hid (l.take k = m.take k) ∧ Ext w wr) (fun i _ => m.length - (intOf i).toNat)
    case atStart => exact ⟨0, by omega, rfl, rfl, Ext.refl _⟩
    case round =>
      obtain ⟨k, hk, rfl, heq, hbel⟩ := hrel
      by_cases hlt : k < m.length
      · have hlz : k < l.length := by rw [HL.out]; exact hlt
        obtain ⟨_, _, e1, _, _, hc1⟩ := (hv.ext hbel).form
        obtain ⟨_, _, e2, _, _, hc2⟩ := (hu.ext hbel).form
        injection e1 with e3 e4 e5
        injection e2 with e6 e7 e8
        subst e3 e5 e6 e8
        clear e4 e7
        obtain ⟨g, off, rfl, x0⟩ := hc1 k hlz
        obtain ⟨g2, off2, rfl, y0⟩ := hc2 k hlt
        rw [show l[k]?.getD 0 = l[k] by simp [hlz]] at x0
        rw [show m[k]?.getD 0 = m[k] by simp [hlt]] at y0
        have HS : Hid (l[k] = m[k] → l.take (k + 1) = m.take (k + 1)) := by
          show _ → _
          intro e
          rw [List.take_succ_eq_append_getElem hlz, List.take_succ_eq_append_getElem hlt, heq.out, e]
        have HN : Hid (l[k] ≠ m[k] → decide (l = m) = false) := by
          show _ → _
          intro e
          refine decide_eq_false (fun h => e ?_)
          subst h
          rfl
        clear hc1 hc2
        generalize l[k] = x at *
        generalize m[k] = y at *
        go_wp2_with fail
        refine wp_region_R [(0, true), (1, true), (2, true), (3, true), (4, true), (5, true), (6, true), (7, true), (8, true)] (by kernel_rfl) (by kernel_rfl) (fun _ _ d _ _ h => by cases d <;> exact h) ?_
        simp only [pickE, List.getElem?_cons_zero, List.getElem?_cons_succ]
        repeat (refine wpF_pure (by rfl) (fun W hW => by subst hW; go_simp; with_reducible rfl) ?_; simp only [Act.put, List.setIfInBounds_toArray, List.set_cons_zero, List.set_cons_succ])
        refine wpF_nil ?_
        by_cases hxy : x = y
        · have HS1 := Lib.hid (HS.out hxy)
          have hq : (x != y) = false := by simpa using hxy
          rw [hq]
          clear HS HN hxy x0 y0
          go_wp2_with fail
          go_roundw
          case rel => exact ⟨k + 1, by omega, by go_num, HS1, hbel.trans (Ext.drew _)⟩
          case measure => simp [intOf]; omega
        · have HN1 := Lib.hid (HN.out hxy)
          have hq : (x != y) = true := by simpa using hxy
          rw [hq]
          clear HS HN hxy x0 y0
          go_wp2_with fail
          go_ret
          exact ⟨by rw [HN1.out]; rfl, hbel.trans (Ext.drew _)⟩
      · have hkk : k = m.length := by omega
        have HE : Hid (decide (l = m) = true) := by
          show _ = _
          have h1 := heq.out
          rw [hkk, List.take_length, ← HL.out, List.take_length] at h1
          exact decide_eq_true h1
        go_wp2
        go_ret
        exact ⟨by rw [HE.out]; rfl, hbel⟩
  · have HN : Hid (decide (l = m) = false) := decide_eq_false (fun h => hl (by rw [h]))
    go_enter Try.func84, Try.ntmps84
    go_wp2
    go_ret
    exact ⟨by rw [HN.out]; rfl, Ext.refl _⟩

set_option maxHeartbeats 1600000 in
theorem eqs_i8 (v u : Value) (l m : List Int) (w : World) (hv : Ints .i8 w v l) (hu : Ints .i8 w u m) :
    Calls Try.prog 114 #[v, u] w fun e w' => e = .returned (.bool (decide (l = m))) ∧ Ext w w' := by
  obtain ⟨A, c, rfl, hlc, hcm, _⟩ := hv.form
  obtain ⟨B, d, rfl, hld, hdm, _⟩ := hu.form
  unfold maxLen at hcm hdm
  by_cases hl : l.length = m.length
  · have HL := Lib.hid hl
    rw [hl] at hlc ⊢
    clear hl
    go_enter Try.func114, Try.ntmps114
    go_wp2_with fail
    go_loopw [13] (fun i wr => ∃ k : Nat, k ≤ m.length ∧ i = .int .i64 k ∧ Hid (l.take k = m.take k) ∧ Ext w wr) (fun i _ => m.length - (intOf i).toNat)
    case atStart => exact ⟨0, by omega, rfl, rfl, Ext.refl _⟩
    case round =>
      obtain ⟨k, hk, rfl, heq, hbel⟩ := hrel
      by_cases hlt : k < m.length
      · have hlz : k < l.length := by rw [HL.out]; exact hlt
        obtain ⟨_, _, e1, _, _, hc1⟩ := (hv.ext hbel).form
        obtain ⟨_, _, e2, _, _, hc2⟩ := (hu.ext hbel).form
        injection e1 with e3 e4 e5
        injection e2 with e6 e7 e8
        subst e3 e5 e6 e8
        clear e4 e7
        obtain ⟨g, off, rfl, x0⟩ := hc1 k hlz
        obtain ⟨g2, off2, rfl, y0⟩ := hc2 k hlt
        rw [show l[k]?.getD 0 = l[k] by simp [hlz]] at x0
        rw [show m[k]?.getD 0 = m[k] by simp [hlt]] at y0
        have HS : Hid (l[k] = m[k] → l.take (k + 1) = m.take (k + 1)) := by
          show _ → _
          intro e
          rw [List.take_succ_eq_append_getElem hlz, List.take_succ_eq_append_getElem hlt, heq.out, e]
        have HN : Hid (l[k] ≠ m[k] → decide (l = m) = false) := by
          show _ → _
          intro e
          refine decide_eq_false (fun h => e ?_)
          subst h
          rfl
        clear hc1 hc2
        generalize l[k] = x at *
        generalize m[k] = y at *
        go_wp2_with fail
        refine wp_region_R [(0, true), (1, true), (2, true), (3, true), (4, true), (5, true), (6, true), (7, true), (8, true)] (by kernel_rfl) (by kernel_rfl) (fun _ _ d _ _ h => by cases d <;> exact h) ?_
        simp only [pickE, List.getElem?_cons_zero, List.getElem?_cons_succ]
        repeat (refine wpF_pure (by rfl) (fun W hW => by subst hW; go_simp; with_reducible rfl) ?_; simp only [Act.put, List.setIfInBounds_toArray, List.set_cons_zero, List.set_cons_succ])
        refine wpF_nil ?_
        by_cases hxy : x = y
        · have HS1 := Lib.hid (HS.out hxy)
          have hq : (x != y) = false := by simpa using hxy
          rw [hq]
          clear HS HN hxy x0 y0
          go_wp2_with fail
          go_roundw
          case rel => exact ⟨k + 1, by omega, by go_num, HS1, hbel.trans (Ext.drew _)⟩
          case measure => simp [intOf]; omega
        · have HN1 := Lib.hid (HN.out hxy)
          have hq : (x != y) = true := by simpa using hxy
          rw [hq]
          clear HS HN hxy x0 y0
          go_wp2_with fail
          go_ret
          exact ⟨by rw [HN1.out]; rfl, hbel.trans (Ext.drew _)⟩
      · have hkk : k = m.length := by omega
        have HE : Hid (decide (l = m) = true) := by
          show _ = _
          have h1 := heq.out
          rw [hkk, List.take_length, ← HL.out, List.take_length] at h1
          exact decide_eq_true h1
        go_wp2
        go_ret
        exact ⟨by rw [HE.out]; rfl, hbel⟩
  · have HN : Hid (decide (l = m) = false) := decide_eq_false (fun h => hl (by rw [h]))
    go_enter Try.func114, Try.ntmps114
    go_wp2
    go_ret
    exact ⟨by rw [HN.out]; rfl, Ext.refl _⟩

set_option maxHeartbeats 1600000 in
theorem eqs_i32 (v u : Value) (l m : List Int) (w : World) (hv : Ints .i32 w v l) (hu : Ints .i32 w u m) :
    Calls Try.prog 115 #[v, u] w fun e w' => e = .returned (.bool (decide (l = m))) ∧ Ext w w' := by
  obtain ⟨A, c, rfl, hlc, hcm, _⟩ := hv.form
  obtain ⟨B, d, rfl, hld, hdm, _⟩ := hu.form
  unfold maxLen at hcm hdm
  by_cases hl : l.length = m.length
  · have HL := Lib.hid hl
    rw [hl] at hlc ⊢
    clear hl
    go_enter Try.func115, Try.ntmps115
    go_wp2_with fail
    go_loopw [13] (fun i wr => ∃ k : Nat, k ≤ m.length ∧ i = .int .i64 k ∧ Hid (l.take k = m.take k) ∧ Ext w wr) (fun i _ => m.length - (intOf i).toNat)
    case atStart => exact ⟨0, by omega, rfl, rfl, Ext.refl _⟩
    case round =>
      obtain ⟨k, hk, rfl, heq, hbel⟩ := hrel
      by_cases hlt : k < m.length
      · have hlz : k < l.length := by rw [HL.out]; exact hlt
        obtain ⟨_, _, e1, _, _, hc1⟩ := (hv.ext hbel).form
        obtain ⟨_, _, e2, _, _, hc2⟩ := (hu.ext hbel).form
        injection e1 with e3 e4 e5
        injection e2 with e6 e7 e8
        subst e3 e5 e6 e8
        clear e4 e7
        obtain ⟨g, off, rfl, x0⟩ := hc1 k hlz
        obtain ⟨g2, off2, rfl, y0⟩ := hc2 k hlt
        rw [show l[k]?.getD 0 = l[k] by simp [hlz]] at x0
        rw [show m[k]?.getD 0 = m[k] by simp [hlt]] at y0
        have HS : Hid (l[k] = m[k] → l.take (k + 1) = m.take (k + 1)) := by
          show _ → _
          intro e
          rw [List.take_succ_eq_append_getElem hlz, List.take_succ_eq_append_getElem hlt, heq.out, e]
        have HN : Hid (l[k] ≠ m[k] → decide (l = m) = false) := by
          show _ → _
          intro e
          refine decide_eq_false (fun h => e ?_)
          subst h
          rfl
        clear hc1 hc2
        generalize l[k] = x at *
        generalize m[k] = y at *
        go_wp2_with fail
        refine wp_region_R [(0, true), (1, true), (2, true), (3, true), (4, true), (5, true), (6, true), (7, true), (8, true)] (by kernel_rfl) (by kernel_rfl) (fun _ _ d _ _ h => by cases d <;> exact h) ?_
        simp only [pickE, List.getElem?_cons_zero, List.getElem?_cons_succ]
        repeat (refine wpF_pure (by rfl) (fun W hW => by subst hW; go_simp; with_reducible rfl) ?_; simp only [Act.put, List.setIfInBounds_toArray, List.set_cons_zero, List.set_cons_succ])
        refine wpF_nil ?_
        by_cases hxy : x = y
        · have HS1 := Lib.hid (HS.out hxy)
          have hq : (x != y) = false := by simpa using hxy
          rw [hq]
          clear HS HN hxy x0 y0
          go_wp2_with fail
          go_roundw
          case rel => exact ⟨k + 1, by omega, by go_num, HS1, hbel.trans (Ext.drew _)⟩
          case measure => simp [intOf]; omega
        · have HN1 := Lib.hid (HN.out hxy)
          have hq : (x != y) = true := by simpa using hxy
          rw [hq]
          clear HS HN hxy x0 y0
          go_wp2_with fail
          go_ret
          exact ⟨by rw [HN1.out]; rfl, hbel.trans (Ext.drew _)⟩
      · have hkk : k = m.length := by omega
        have HE : Hid (decide (l = m) = true) := by
          show _ = _
          have h1 := heq.out
          rw [hkk, List.take_length, ← HL.out, List.take_length] at h1
          exact decide_eq_true h1
        go_wp2
        go_ret
        exact ⟨by rw [HE.out]; rfl, hbel⟩
  · have HN : Hid (decide (l = m) = false) := decide_eq_false (fun h => hl (by rw [h]))
    go_enter Try.func115, Try.ntmps115
    go_wp2
    go_ret
    exact ⟨by rw [HN.out]; rfl, Ext.refl _⟩

theorem eq_sz (d : Nat) (w : World) (a b : Sz) : (Op.equalIn (d + 2) 36 (.agg #[.int .i64 a.h, .int .i64 a.w, .int .i64 a.c]) (.agg #[.int .i64 b.h, .int .i64 b.w, .int .i64 b.c])).run Try.prog w = .ok ((a.h == b.h) && ((a.w == b.w) && ((a.c == b.c) && true))) w := by
  rw [run_equalIn_agg w (d + 1) _ _ _ (by kernel_rfl) (by kernel_rfl)]
  refine Isa.eqFields_step (by decide) (by kernel_rfl) (by kernel_rfl) (Isa.eq_i64 d _ _ _) ?_
  refine Isa.eqFields_step (by decide) (by kernel_rfl) (by kernel_rfl) (Isa.eq_i64 d _ _ _) ?_
  refine Isa.eqFields_step (by decide) (by kernel_rfl) (by kernel_rfl) (Isa.eq_i64 d _ _ _) ?_
  simp [Op.eqFields]

theorem vl_equal (a b : Vl) (w : World) : (Op.equalIn 10000 67 (.agg #[.int .i64 a.s.h, .int .i64 a.s.w, .int .i64 a.s.c, .int .i64 a.z]) (.agg #[.int .i64 b.s.h, .int .i64 b.s.w, .int .i64 b.s.c, .int .i64 b.z])).run Try.prog w = .ok (decide (a = b)) w := by
  have h : (Op.equalIn (9999 + 1) 67 (.agg #[.int .i64 a.s.h, .int .i64 a.s.w, .int .i64 a.s.c, .int .i64 a.z]) (.agg #[.int .i64 b.s.h, .int .i64 b.s.w, .int .i64 b.s.c, .int .i64 b.z])).run Try.prog w = .ok (((a.s.h == b.s.h) && ((a.s.w == b.s.w) && ((a.s.c == b.s.c) && true))) && ((a.z == b.z) && true)) w := by
    rw [run_equalIn_agg w 9999 _ _ _ (by kernel_rfl) (by kernel_rfl)]
    refine Isa.eqFields_step (by decide) (by kernel_rfl) (by kernel_rfl) (eq_sz 9997 _ _ _) ?_
    refine Isa.eqFields_step (by decide) (by kernel_rfl) (by kernel_rfl) (Isa.eq_i64 9998 _ _ _) ?_
    simp [Op.eqFields]
  rw [show (10000 : Nat) = 9999 + 1 from rfl, h]
  congr 1
  rw [Bool.eq_iff_iff, decide_eq_true_iff]
  simp only [Bool.and_eq_true, beq_iff_eq, and_true]
  obtain ⟨⟨a1, a2, a3⟩, a4⟩ := a
  obtain ⟨⟨b1, b2, b3⟩, b4⟩ := b
  simp [and_assoc]

theorem vl_neq (a b : Vl) (w : World) : (binOp .neq 67 (.agg #[.int .i64 a.s.h, .int .i64 a.s.w, .int .i64 a.s.c, .int .i64 a.z]) (.agg #[.int .i64 b.s.h, .int .i64 b.s.w, .int .i64 b.s.c, .int .i64 b.z])).run Try.prog w = .ok (.bool (!decide (a = b))) w := by
  have := vl_equal a b w
  rw [run_neq_struct, this]
  rfl

theorem vlGuard : Try.prog.eqGuardType Try.prog.depth 67 = false := by kernel_rfl
theorem cmGuard : Try.prog.eqGuardType Try.prog.depth 57 = false := by kernel_rfl

set_option maxHeartbeats 1600000 in
theorem eqs_vl (v u : Value) (l m : List Vl) (w : World) (hv : Vls w v l) (hu : Vls w u m) :
    Calls Try.prog 116 #[v, u] w fun e w' => e = .returned (.bool (decide (l = m))) ∧ Ext w w' := by
  obtain ⟨A, c, rfl, hlc, hcm, _⟩ := hv.form
  obtain ⟨B, d, rfl, hld, hdm, _⟩ := hu.form
  unfold maxLen at hcm hdm
  by_cases hl : l.length = m.length
  · have HL := Lib.hid hl
    rw [hl] at hlc ⊢
    clear hl
    go_enter Try.func116, Try.ntmps116
    go_wp2_with fail
    go_loopw [13] (fun i wr => ∃ k : Nat, k ≤ m.length ∧ i = .int .i64 k ∧ Hid (l.take k = m.take k) ∧ Ext w wr) (fun i _ => m.length - (intOf i).toNat)
    case atStart => exact ⟨0, by omega, rfl, rfl, Ext.refl _⟩
    case round =>
      obtain ⟨k, hk, rfl, heq, hbel⟩ := hrel
      by_cases hlt : k < m.length
      · have hlz : k < l.length := by rw [HL.out]; exact hlt
        obtain ⟨_, _, e1, _, _, hc1⟩ := (hv.ext hbel).form
        obtain ⟨_, _, e2, _, _, hc2⟩ := (hu.ext hbel).form
        injection e1 with e3 e4 e5
        injection e2 with e6 e7 e8
        subst e3 e5 e6 e8
        clear e4 e7
        obtain ⟨g, off, rfl, hg, hx⟩ := hc1 k l[k] (by simp [hlz])
        obtain ⟨g2, off2, rfl, hg2, hy⟩ := hc2 k m[k] (by simp [hlt])
        have HS : Hid (l[k] = m[k] → l.take (k + 1) = m.take (k + 1)) := by
          show _ → _
          intro e
          rw [List.take_succ_eq_append_getElem hlz, List.take_succ_eq_append_getElem hlt, heq.out, e]
        have HN : Hid (l[k] ≠ m[k] → decide (l = m) = false) := by
          show _ → _
          intro e
          refine decide_eq_false (fun h => e ?_)
          subst h
          rfl
        clear hc1 hc2
        generalize l[k] = x at *
        generalize m[k] = y at *
        have hq := fun w => vl_neq x y w
        have hgd := vlGuard
        have x0 : World.cell? wr ⟨g, off + k * 4, none⟩ = some (.int .i64 x.s.h) := hx 0 _ rfl
        have x1 : World.cell? wr ⟨g, off + k * 4 + 1, none⟩ = some (.int .i64 x.s.w) := hx 1 _ rfl
        have x2 : World.cell? wr ⟨g, off + k * 4 + 2, none⟩ = some (.int .i64 x.s.c) := hx 2 _ rfl
        have x3 : World.cell? wr ⟨g, off + k * 4 + 3, none⟩ = some (.int .i64 x.z) := hx 3 _ rfl
        have y0 : World.cell? wr ⟨g2, off2 + k * 4, none⟩ = some (.int .i64 y.s.h) := hy 0 _ rfl
        have y1 : World.cell? wr ⟨g2, off2 + k * 4 + 1, none⟩ = some (.int .i64 y.s.w) := hy 1 _ rfl
        have y2 : World.cell? wr ⟨g2, off2 + k * 4 + 2, none⟩ = some (.int .i64 y.s.c) := hy 2 _ rfl
        have y3 : World.cell? wr ⟨g2, off2 + k * 4 + 3, none⟩ = some (.int .i64 y.z) := hy 3 _ rfl
        clear hx hy
        go_wp2_with fail
        refine wp_region_R [(0, true), (1, true), (2, true), (3, true), (4, true), (5, true), (6, true), (7, true), (8, true)] (by kernel_rfl) (by kernel_rfl) (fun _ _ d _ _ h => by cases d <;> exact h) ?_
        simp only [pickE, List.getElem?_cons_zero, List.getElem?_cons_succ]
        repeat (refine wpF_pure (by rfl) (fun W hW => by subst hW; go_simp; with_reducible rfl) ?_; simp only [Act.put, List.setIfInBounds_toArray, List.set_cons_zero, List.set_cons_succ])
        refine wpF_nil ?_
        by_cases hxy : x = y
        · have HS1 := Lib.hid (HS.out hxy)
          rw [decide_eq_true hxy]
          clear HS HN hxy hq hgd x0 x1 x2 x3 y0 y1 y2 y3
          go_wp2_with fail
          go_roundw
          case rel => exact ⟨k + 1, by omega, by go_num, HS1, hbel.trans (Ext.drew _)⟩
          case measure => simp [intOf]; omega
        · have HN1 := Lib.hid (HN.out hxy)
          rw [decide_eq_false hxy]
          clear HS HN hxy hq hgd x0 x1 x2 x3 y0 y1 y2 y3
          go_wp2_with fail
          go_ret
          exact ⟨by rw [HN1.out]; rfl, hbel.trans (Ext.drew _)⟩
      · have hkk : k = m.length := by omega
        have HE : Hid (decide (l = m) = true) := by
          show _ = _
          have h1 := heq.out
          rw [hkk, List.take_length, ← HL.out, List.take_length] at h1
          exact decide_eq_true h1
        go_wp2
        go_ret
        exact ⟨by rw [HE.out]; rfl, hbel⟩
  · have HN : Hid (decide (l = m) = false) := decide_eq_false (fun h => hl (by rw [h]))
    go_enter Try.func116, Try.ntmps116
    go_wp2
    go_ret
    exact ⟨by rw [HN.out]; rfl, Ext.refl _⟩

set_option maxHeartbeats 1600000 in
theorem eqs_cm (v u : Value) (l m : List Isa.Cm) (w : World) (hv : Isa.Cmds w v l) (hu : Isa.Cmds w u m) :
    Calls Try.prog 82 #[v, u] w fun e w' => e = .returned (.bool (decide (l = m))) ∧ Ext w w' := by
  obtain ⟨A, c, rfl, hlc, hcm, _⟩ := hv.form
  obtain ⟨B, d, rfl, hld, hdm, _⟩ := hu.form
  unfold maxLen at hcm hdm
  by_cases hl : l.length = m.length
  · have HL := Lib.hid hl
    rw [hl] at hlc ⊢
    clear hl
    go_enter Try.func82, Try.ntmps82
    go_wp2_with fail
    go_loopw [13] (fun i wr => ∃ k : Nat, k ≤ m.length ∧ i = .int .i64 k ∧ Hid (l.take k = m.take k) ∧ Ext w wr) (fun i _ => m.length - (intOf i).toNat)
    case atStart => exact ⟨0, by omega, rfl, rfl, Ext.refl _⟩
    case round =>
      obtain ⟨k, hk, rfl, heq, hbel⟩ := hrel
      by_cases hlt : k < m.length
      · have hlz : k < l.length := by rw [HL.out]; exact hlt
        obtain ⟨_, _, e1, _, _, hc1⟩ := (hv.below hbel (Nat.le_refl _)).form
        obtain ⟨_, _, e2, _, _, hc2⟩ := (hu.below hbel (Nat.le_refl _)).form
        injection e1 with e3 e4 e5
        injection e2 with e6 e7 e8
        subst e3 e5 e6 e8
        clear e4 e7
        obtain ⟨g, off, rfl, hg, x0, x1, x2, x3, x4, x5, x6, x7, x8, x9, x10, x11, x12, x13⟩ := hc1 k l[k] (by simp [hlz])
        obtain ⟨g2, off2, rfl, hg2, y0, y1, y2, y3, y4, y5, y6, y7, y8, y9, y10, y11, y12, y13⟩ := hc2 k m[k] (by simp [hlt])
        have HS : Hid (l[k] = m[k] → l.take (k + 1) = m.take (k + 1)) := by
          show _ → _
          intro e
          rw [List.take_succ_eq_append_getElem hlz, List.take_succ_eq_append_getElem hlt, heq.out, e]
        have HN : Hid (l[k] ≠ m[k] → decide (l = m) = false) := by
          show _ → _
          intro e
          refine decide_eq_false (fun h => e ?_)
          subst h
          rfl
        clear hc1 hc2
        generalize l[k] = x at *
        generalize m[k] = y at *
        have hq := fun w => Isa.cmd_neq x y w
        unfold Isa.Cm.v at hq
        have hgd := cmGuard
        go_wp2_with fail
        refine wp_region_R [(0, true), (1, true), (2, true), (3, true), (4, true), (5, true), (6, true), (7, true), (8, true)] (by kernel_rfl) (by kernel_rfl) (fun _ _ d _ _ h => by cases d <;> exact h) ?_
        simp only [pickE, List.getElem?_cons_zero, List.getElem?_cons_succ]
        repeat (refine wpF_pure (by rfl) (fun W hW => by subst hW; go_simp; with_reducible rfl) ?_; simp only [Act.put, List.setIfInBounds_toArray, List.set_cons_zero, List.set_cons_succ])
        refine wpF_nil ?_
        by_cases hxy : x = y
        · have HS1 := Lib.hid (HS.out hxy)
          rw [decide_eq_true hxy]
          clear HS HN hxy hq hgd x0 x1 x2 x3 x4 x5 x6 x7 x8 x9 x10 x11 x12 x13 y0 y1 y2 y3 y4 y5 y6 y7 y8 y9 y10 y11 y12 y13
          go_wp2_with fail
          go_roundw
          case rel => exact ⟨k + 1, by omega, by go_num, HS1, hbel.trans (Ext.drew _)⟩
          case measure => simp [intOf]; omega
        · have HN1 := Lib.hid (HN.out hxy)
          rw [decide_eq_false hxy]
          clear HS HN hxy hq hgd x0 x1 x2 x3 x4 x5 x6 x7 x8 x9 x10 x11 x12 x13 y0 y1 y2 y3 y4 y5 y6 y7 y8 y9 y10 y11 y12 y13
          go_wp2_with fail
          go_ret
          exact ⟨by rw [HN1.out]; rfl, hbel.trans (Ext.drew _)⟩
      · have hkk : k = m.length := by omega
        have HE : Hid (decide (l = m) = true) := by
          show _ = _
          have h1 := heq.out
          rw [hkk, List.take_length, ← HL.out, List.take_length] at h1
          exact decide_eq_true h1
        go_wp2
        go_ret
        exact ⟨by rw [HE.out]; rfl, hbel⟩
  · have HN : Hid (decide (l = m) = false) := decide_eq_false (fun h => hl (by rw [h]))
    go_enter Try.func82, Try.ntmps82
    go_wp2
    go_ret
    exact ⟨by rw [HN.out]; rfl, Ext.refl _⟩

end Go.Proofs.Ytdhdbmfipkppiaa
