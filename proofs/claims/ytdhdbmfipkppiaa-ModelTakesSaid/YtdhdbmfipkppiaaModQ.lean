/- The walks of the reference's Same: rows of values, of numbers. -/
import Derived.Test.YtdhdbmfipkppiaaModP
import Derived.DeepKeys
import Derived.Deep.CutBlock
import Derived.Deep.DeepCutAuto
namespace Go.Proofs.Ytdhdbmfipkppiaa
set_option linter.unusedSimpArgs false
set_option linter.unusedVariables false
set_option linter.unnecessarySimpa false
open Go.RowKit

section
variable {P : Program} {d : Nat} {xs ys : Array Value} {a b : Value} {r s : Bool} {w : World}

theorem eqFields_step {f : Field} {fs : List Field} (hn : f.name ≠ "_") (ha : (part f.type xs f.offset).run P w = .ok a w) (hb : (part f.type ys f.offset).run P w = .ok b w) (he : (Op.equalIn d f.type a b).run P w = .ok r w)
    (hr : (Op.eqFields d xs ys fs).run P w = .ok s w) : (Op.eqFields d xs ys (f :: fs)).run P w = .ok (r && s) w := by
  rw [Op.eqFields]
  simp only [if_pos hn, Sem.run_bind, ha, hb, he, Result.andThen_ok]
  cases r
  · simp
  · simpa using hr
end

theorem eq_i64 (d : Nat) (w : World) (x y : Int) : (Op.equalIn (d + 1) 3 (.int .i64 x) (.int .i64 y)).run Try.prog w = .ok (x == y) w := run_equalIn_int w d _ _ _ _ _ Try.underlying3

set_option maxRecDepth 40000 in
theorem eq_sz (d : Nat) (w : World) (x0 x1 x2 y0 y1 y2 : Int) : (Op.equalIn (d + 2) 36 (.agg #[.int .i64 x0, .int .i64 x1, .int .i64 x2]) (.agg #[.int .i64 y0, .int .i64 y1, .int .i64 y2])).run Try.prog w = .ok ((x0 == y0) && ((x1 == y1) && ((x2 == y2) && true))) w := by
  rw [run_equalIn_agg w (d + 1) _ _ _ (by kernel_rfl) (by kernel_rfl)]
  refine eqFields_step (by decide) (by kernel_rfl) (by kernel_rfl) (eq_i64 _ _ _ _) ?_
  refine eqFields_step (by decide) (by kernel_rfl) (by kernel_rfl) (eq_i64 _ _ _ _) ?_
  refine eqFields_step (by decide) (by kernel_rfl) (by kernel_rfl) (eq_i64 _ _ _ _) ?_
  simp [Op.eqFields]

set_option maxRecDepth 40000 in
theorem vl_neq (x y : Vl) (w : World) : (binOp .neq 67 (.agg #[.int .i64 x.s.h, .int .i64 x.s.w, .int .i64 x.s.c, .int .i64 x.z]) (.agg #[.int .i64 y.s.h, .int .i64 y.s.w, .int .i64 y.s.c, .int .i64 y.z])).run Try.prog w = .ok (.bool (!decide (x = y))) w := by
  have h : (Op.equalIn (9999 + 1) 67 (.agg #[.int .i64 x.s.h, .int .i64 x.s.w, .int .i64 x.s.c, .int .i64 x.z]) (.agg #[.int .i64 y.s.h, .int .i64 y.s.w, .int .i64 y.s.c, .int .i64 y.z])).run Try.prog w = .ok (((x.s.h == y.s.h) && ((x.s.w == y.s.w) && ((x.s.c == y.s.c) && true))) && ((x.z == y.z) && true)) w := by
    rw [run_equalIn_agg w 9999 _ _ _ (by kernel_rfl) (by kernel_rfl)]
    refine eqFields_step (by decide) (by kernel_rfl) (by kernel_rfl) (eq_sz 9997 _ _ _ _ _ _ _) ?_
    refine eqFields_step (by decide) (by kernel_rfl) (by kernel_rfl) (eq_i64 9998 _ _ _) ?_
    simp [Op.eqFields]
  rw [run_neq_struct, show (10000 : Nat) = 9999 + 1 from rfl, h]
  simp only [Result.andThen_ok, Sem.run_pure]
  congr 2
  rw [Bool.eq_iff_iff]
  obtain ⟨⟨a, b, c⟩, z⟩ := x
  obtain ⟨⟨a', b', c'⟩, z'⟩ := y
  simp [and_assoc, or_assoc]
set_option maxRecDepth 40000 in
theorem sz_neq (x y : Sz) (w : World) : (binOp .neq 36 (.agg #[.int .i64 x.h, .int .i64 x.w, .int .i64 x.c]) (.agg #[.int .i64 y.h, .int .i64 y.w, .int .i64 y.c])).run Try.prog w = .ok (.bool (!decide (x = y))) w := by
  have h := eq_sz 9998 w x.h x.w x.c y.h y.w y.c
  rw [run_neq_struct, show (10000 : Nat) = 9998 + 2 from rfl, h]
  simp only [Result.andThen_ok, Sem.run_pure]
  congr 2
  rw [Bool.eq_iff_iff]
  obtain ⟨a, b, c⟩ := x
  obtain ⟨a', b', c'⟩ := y
  simp

theorem take_ne {α : Type} {a b : List α} {k : Nat} {x y : α} (hx : a[k]? = some x) (hy : b[k]? = some y) (h : x ≠ y) : a ≠ b := fun e => by
  subst e
  rw [hx] at hy
  exact h (Option.some.inj hy)
theorem take_eq {α : Type} {a b : List α} {k : Nat} {x y : α} (ht : a.take k = b.take k) (hx : a[k]? = some x) (hy : b[k]? = some y) (h : x = y) : a.take (k + 1) = b.take (k + 1) := by
  rw [List.take_add_one, List.take_add_one, ht, hx, hy, h]

set_option maxHeartbeats 1600000 in
theorem sameInts_calls (u v : Value) (a b : List Int) (w : World) (hu : Ints .i64 w u a) (hv : Ints .i64 w v b) :
    Calls Try.prog 57 #[u, v] w fun e w' => e = .returned (.bool (decide (a = b))) ∧ Ext w w' := by
  obtain ⟨A, c, rfl, hlc, hcm, _⟩ := id hu.form
  obtain ⟨B, d, rfl, hld, hdm, _⟩ := id hv.form
  unfold maxLen at hcm hdm
  by_cases hl : a.length = b.length
  · have t1 : ((a.length : Int) != (b.length : Int)) = false := by simp [hl]
    have HL := Lib.hid hl
    clear hl
    go_enter Try.func57, Try.ntmps57
    go_wp2_with fail
    go_loopw [5] (fun i wr => ∃ k : Nat, k ≤ a.length ∧ i = .int .i64 k ∧ Hid (a.take k = b.take k) ∧ Ext w wr) (fun i _ => a.length - (intOf i).toNat)
    case atStart => exact ⟨0, by omega, rfl, rfl, Ext.refl _⟩
    case round =>
      obtain ⟨k, hk, rfl, ht, hE⟩ := hrel
      by_cases hlt : k < a.length
      · have hlt2 : k < b.length := by have := HL.out; omega
        obtain ⟨_, _, e1, _, _, hc1⟩ := (hu.ext hE).form
        cases e1
        obtain ⟨_, _, e2, _, _, hc2⟩ := (hv.ext hE).form
        cases e2
        obtain ⟨p, o, rfl, x0⟩ := hc1 k hlt
        obtain ⟨q, o2, rfl, y0⟩ := hc2 k hlt2
        rw [show a[k]?.getD 0 = a[k] by simp [hlt]] at x0
        rw [show b[k]?.getD 0 = b[k] by simp [hlt2]] at y0
        have HX := Lib.hid (show a[k]? = some a[k] by simp [hlt])
        have HY := Lib.hid (show b[k]? = some b[k] by simp [hlt2])
        clear hc1 hc2
        generalize a[k] = x at *
        generalize b[k] = y at *
        go_upto_region 6 with fail
        refine wp_region_X [0, 1, 2, 3, 4, 5, 6, 7, 8] [] (by kernel_rfl) (by kernel_rfl) (fun _ _ d _ _ h => by cases d <;> exact h) (fun w2 hE2 => ?_)
        have x1 : ∀ W, Ext w2 W → W.cell? ⟨p, o + k, none⟩ = some (.int .i64 x) := cell_ext (cell_ext x0 _ hE2)
        have y1 : ∀ W, Ext w2 W → W.cell? ⟨q, o2 + k, none⟩ = some (.int .i64 y) := cell_ext (cell_ext y0 _ hE2)
        clear x0 y0
        repeat (first | (refine wpP_pure rfl (by rfl) (fun W hW => by go_simp; with_reducible rfl) ?_; simp only [Act.put, List.setIfInBounds_toArray, List.set_cons_zero, List.set_cons_succ]) | (refine wpP_skip rfl (by rfl) ?_; simp only [Act.put, List.setIfInBounds_toArray, List.set_cons_zero, List.set_cons_succ]))
        refine ⟨trivial, fun W hR => ?_⟩
        simp only [rFin, envAt, TP.top, TP.mine, MP.top, MP.mine, MT.mine, MT.tied, MT.done, MT.is, List.map_cons, List.map_nil, true_implies, List.head?_cons, ME.is, MP.is, MP.done, ME.ints, ME.row, phi, dstAt, List.getElem?_cons_zero, List.getElem?_cons_succ, Option.bind_some, Act.put, List.setIfInBounds_toArray, List.set_cons_zero, List.set_cons_succ, and_true, forall_eq, reduceIte, Nat.reduceEqDiff, beq_iff_eq, Option.some.injEq, Bool.false_eq_true, reduceCtorEq, implies_true, true_and]
        have hEW := hE.trans (hE2.trans hR)
        clear x1 y1
        by_cases hxy : x = y
        · have t2 : (x != y) = false := by simp [hxy]
          have HT := Lib.hid (take_eq ht.out HX.out HY.out hxy)
          clear hxy
          go_wp2_with fail
          go_roundw
          case rel => exact ⟨k + 1, by omega, by go_num, HT, hEW⟩
          case measure => simp [intOf]; omega
        · have t2 : (x != y) = true := by simp [hxy]
          have HT := Lib.hid (take_ne HX.out HY.out hxy)
          clear hxy
          go_wp2_with fail
          go_ret
          exact ⟨ret_bool (by rw [decide_eq_false HT.out]), hEW⟩
      · have hab : a = b := by
          have h1 := ht.out
          have h2 := HL.out
          rw [List.take_of_length_le (by omega), List.take_of_length_le (by omega)] at h1
          exact h1
        have HAB := Lib.hid hab
        clear hab
        go_wp2_with fail
        go_ret
        exact ⟨ret_bool (by rw [decide_eq_true HAB.out]), hE⟩
  · have t1 : ((a.length : Int) != (b.length : Int)) = true := by rw [bne_iff_ne]; omega
    have hab : a ≠ b := fun e => hl (by rw [e])
    have HAB := Lib.hid hab
    clear hab hl
    go_enter Try.func57, Try.ntmps57
    go_wp2_with fail
    go_ret
    exact ⟨ret_bool (by rw [decide_eq_false HAB.out]), Ext.refl _⟩

set_option maxHeartbeats 1600000 in
theorem sameVls_calls (u v : Value) (a b : List Vl) (w : World) (hu : Vls w u a) (hv : Vls w v b) :
    Calls Try.prog 56 #[u, v] w fun e w' => e = .returned (.bool (decide (a = b))) ∧ Ext w w' := by
  obtain ⟨A, c, rfl, hlc, hcm, _⟩ := id hu.form
  obtain ⟨B, d, rfl, hld, hdm, _⟩ := id hv.form
  unfold maxLen at hcm hdm
  by_cases hl : a.length = b.length
  · have t1 : ((a.length : Int) != (b.length : Int)) = false := by simp [hl]
    have HL := Lib.hid hl
    clear hl
    go_enter Try.func56, Try.ntmps56
    go_wp2_with fail
    go_loopw [5] (fun i wr => ∃ k : Nat, k ≤ a.length ∧ i = .int .i64 k ∧ Hid (a.take k = b.take k) ∧ Ext w wr) (fun i _ => a.length - (intOf i).toNat)
    case atStart => exact ⟨0, by omega, rfl, rfl, Ext.refl _⟩
    case round =>
      obtain ⟨k, hk, rfl, ht, hE⟩ := hrel
      by_cases hlt : k < a.length
      · have hlt2 : k < b.length := by have := HL.out; omega
        obtain ⟨_, _, e1, _, _, hc1⟩ := (hu.ext hE).form
        cases e1
        obtain ⟨_, _, e2, _, _, hc2⟩ := (hv.ext hE).form
        cases e2
        have HX := Lib.hid (show a[k]? = some a[k] by simp [hlt])
        have HY := Lib.hid (show b[k]? = some b[k] by simp [hlt2])
        obtain ⟨p, o, rfl, _, x0⟩ := hc1 k _ HX.out
        obtain ⟨q, o2, rfl, _, y0⟩ := hc2 k _ HY.out
        clear hc1 hc2
        generalize a[k] = x at *
        generalize b[k] = y at *
        have hq := fun W => vl_neq x y W
        go_upto_region 6 with fail
        refine wp_region_X [0, 1, 2, 3, 4, 5, 6, 7, 8] [] (by kernel_rfl) (by kernel_rfl) (fun _ _ d _ _ h => by cases d <;> exact h) (fun w2 hE2 => ?_)
        have xa : ∀ W, Ext w2 W → W.cell? ⟨p, o + k * 4, none⟩ = some (.int .i64 x.s.h) := cell_ext (cell_ext (x0 0 _ rfl) _ hE2)
        have xb : ∀ W, Ext w2 W → W.cell? ⟨p, o + k * 4 + 1, none⟩ = some (.int .i64 x.s.w) := cell_ext (cell_ext (x0 1 _ rfl) _ hE2)
        have xc : ∀ W, Ext w2 W → W.cell? ⟨p, o + k * 4 + 2, none⟩ = some (.int .i64 x.s.c) := cell_ext (cell_ext (x0 2 _ rfl) _ hE2)
        have xd : ∀ W, Ext w2 W → W.cell? ⟨p, o + k * 4 + 3, none⟩ = some (.int .i64 x.z) := cell_ext (cell_ext (x0 3 _ rfl) _ hE2)
        have ya : ∀ W, Ext w2 W → W.cell? ⟨q, o2 + k * 4, none⟩ = some (.int .i64 y.s.h) := cell_ext (cell_ext (y0 0 _ rfl) _ hE2)
        have yb : ∀ W, Ext w2 W → W.cell? ⟨q, o2 + k * 4 + 1, none⟩ = some (.int .i64 y.s.w) := cell_ext (cell_ext (y0 1 _ rfl) _ hE2)
        have yc : ∀ W, Ext w2 W → W.cell? ⟨q, o2 + k * 4 + 2, none⟩ = some (.int .i64 y.s.c) := cell_ext (cell_ext (y0 2 _ rfl) _ hE2)
        have yd : ∀ W, Ext w2 W → W.cell? ⟨q, o2 + k * 4 + 3, none⟩ = some (.int .i64 y.z) := cell_ext (cell_ext (y0 3 _ rfl) _ hE2)
        clear x0 y0
        repeat (first | (refine wpP_pure rfl (by rfl) (fun W hW => by go_simp; with_reducible rfl) ?_; simp only [Act.put, List.setIfInBounds_toArray, List.set_cons_zero, List.set_cons_succ]) | (refine wpP_skip rfl (by rfl) ?_; simp only [Act.put, List.setIfInBounds_toArray, List.set_cons_zero, List.set_cons_succ]))
        refine ⟨trivial, fun W hR => ?_⟩
        simp only [rFin, envAt, TP.top, TP.mine, MP.top, MP.mine, MT.mine, MT.tied, MT.done, MT.is, List.map_cons, List.map_nil, true_implies, List.head?_cons, ME.is, MP.is, MP.done, ME.ints, ME.row, phi, dstAt, List.getElem?_cons_zero, List.getElem?_cons_succ, Option.bind_some, Act.put, List.setIfInBounds_toArray, List.set_cons_zero, List.set_cons_succ, and_true, forall_eq, reduceIte, Nat.reduceEqDiff, beq_iff_eq, Option.some.injEq, Bool.false_eq_true, reduceCtorEq, implies_true, true_and]
        have hEW := hE.trans (hE2.trans hR)
        clear xa xb xc xd ya yb yc yd hq
        by_cases hxy : x = y
        · have t2 : decide (x = y) = true := by simp [hxy]
          have HT := Lib.hid (take_eq ht.out HX.out HY.out hxy)
          rw [t2]
          clear hxy t2
          go_wp2_with fail
          go_roundw
          case rel => exact ⟨k + 1, by omega, by go_num, HT, hEW⟩
          case measure => simp [intOf]; omega
        · have t2 : decide (x = y) = false := by simp [hxy]
          have HT := Lib.hid (take_ne HX.out HY.out hxy)
          rw [t2]
          clear hxy t2
          go_wp2_with fail
          go_ret
          exact ⟨ret_bool (by rw [decide_eq_false HT.out]), hEW⟩
      · have hab : a = b := by
          have h1 := ht.out
          have h2 := HL.out
          rw [List.take_of_length_le (by omega), List.take_of_length_le (by omega)] at h1
          exact h1
        have HAB := Lib.hid hab
        clear hab
        go_wp2_with fail
        go_ret
        exact ⟨ret_bool (by rw [decide_eq_true HAB.out]), hE⟩
  · have t1 : ((a.length : Int) != (b.length : Int)) = true := by rw [bne_iff_ne]; omega
    have hab : a ≠ b := fun e => hl (by rw [e])
    have HAB := Lib.hid hab
    clear hab hl
    go_enter Try.func56, Try.ntmps56
    go_wp2_with fail
    go_ret
    exact ⟨ret_bool (by rw [decide_eq_false HAB.out]), Ext.refl _⟩

end Go.Proofs.Ytdhdbmfipkppiaa
