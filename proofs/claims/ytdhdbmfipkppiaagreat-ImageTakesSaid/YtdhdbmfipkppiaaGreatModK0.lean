/- The walks of the reference's Same: rows of values, of numbers. -/
/- A graph that may be has numbers of bytes. -/
/- The walk of the reference's SameNode: two boxes of nodes. -/
import Derived.Test.YtdhdbmfipkppiaaGreatModP
import Derived.DeepKeys
import Derived.Deep.CutBlock
import Derived.Deep.DeepCutAuto
set_option linter.unusedSimpArgs false
set_option linter.unusedVariables false
set_option linter.unnecessarySimpa false
namespace Go.Proofs.YtdhdbmfipkppiaaGreat
open Go.RowKit

section
variable {P : Program} {d : Nat} {xs ys : Array Value} {a b : Value} {r s : Bool} {w : World}

theorem eqFields_step {f : Field} {fs : List Field} (hn : f.name ≠ "_") (ha : (part f.type xs f.offset).run P w = .ok a w) (hb : (part f.type ys f.offset).run P w = .ok b w) (he : (Op.equalIn d f.type a b).run P w = .ok r w)
    (hr : (Op.eqFields d xs ys fs).run P w = .ok s w) : (Op.eqFields d xs ys (f :: fs)).run P w = .ok (r && s) w := by
  rw [Op.eqFields]
  simp only [if_pos hn, Sem.run_bind, ha, hb, he, Result.andThen_ok]
  cases r
  · simp
  · simpa using hr
end

theorem eq_i64 (d : Nat) (w : World) (x y : Int) : (Op.equalIn (d + 1) 3 (.int .i64 x) (.int .i64 y)).run Tryz.prog w = .ok (x == y) w := run_equalIn_int w d _ _ _ _ _ Tryz.underlying3

set_option maxRecDepth 40000 in
theorem eq_sz (d : Nat) (w : World) (x0 x1 x2 y0 y1 y2 : Int) : (Op.equalIn (d + 2) 39 (.agg #[.int .i64 x0, .int .i64 x1, .int .i64 x2]) (.agg #[.int .i64 y0, .int .i64 y1, .int .i64 y2])).run Tryz.prog w = .ok ((x0 == y0) && ((x1 == y1) && ((x2 == y2) && true))) w := by
  rw [run_equalIn_agg w (d + 1) _ _ _ (by kernel_rfl) (by kernel_rfl)]
  refine eqFields_step (by decide) (by kernel_rfl) (by kernel_rfl) (eq_i64 _ _ _ _) ?_
  refine eqFields_step (by decide) (by kernel_rfl) (by kernel_rfl) (eq_i64 _ _ _ _) ?_
  refine eqFields_step (by decide) (by kernel_rfl) (by kernel_rfl) (eq_i64 _ _ _ _) ?_
  simp [Op.eqFields]

set_option maxRecDepth 40000 in
theorem vl_neq (x y : Vl) (w : World) : (binOp .neq 41 (.agg #[.int .i64 x.s.h, .int .i64 x.s.w, .int .i64 x.s.c, .int .i64 x.z]) (.agg #[.int .i64 y.s.h, .int .i64 y.s.w, .int .i64 y.s.c, .int .i64 y.z])).run Tryz.prog w = .ok (.bool (!decide (x = y))) w := by
  have h : (Op.equalIn (9999 + 1) 41 (.agg #[.int .i64 x.s.h, .int .i64 x.s.w, .int .i64 x.s.c, .int .i64 x.z]) (.agg #[.int .i64 y.s.h, .int .i64 y.s.w, .int .i64 y.s.c, .int .i64 y.z])).run Tryz.prog w = .ok (((x.s.h == y.s.h) && ((x.s.w == y.s.w) && ((x.s.c == y.s.c) && true))) && ((x.z == y.z) && true)) w := by
    rw [run_equalIn_agg w 9999 _ _ _ (by kernel_rfl) (by kernel_rfl)]
    refine eqFields_step (by decide) (by kernel_rfl) (by kernel_rfl) (eq_sz 9997 _ _ _ _ _ _ _) ?_
    refine eqFields_step (by decide) (by kernel_rfl) (by kernel_rfl) (eq_i64 9998 _ _ _) ?_
    simp [Op.eqFields]
  rw [run_neq_struct, show (10000 : Nat) = 9999 + 1 from rfl, h]
  simp only [Result.andThen_ok, Sem.run_pure]
  congr 2
  rw [Bool.eq_iff_iff]
  obtain ⟨⟨a, b, c⟩, z⟩ := x
  obtain ⟨⟨a', b', c'⟩, z'⟩ := y
  simp [and_assoc, or_assoc]
set_option maxRecDepth 40000 in
theorem sz_neq (x y : Sz) (w : World) : (binOp .neq 39 (.agg #[.int .i64 x.h, .int .i64 x.w, .int .i64 x.c]) (.agg #[.int .i64 y.h, .int .i64 y.w, .int .i64 y.c])).run Tryz.prog w = .ok (.bool (!decide (x = y))) w := by
  have h := eq_sz 9998 w x.h x.w x.c y.h y.w y.c
  rw [run_neq_struct, show (10000 : Nat) = 9998 + 2 from rfl, h]
  simp only [Result.andThen_ok, Sem.run_pure]
  congr 2
  rw [Bool.eq_iff_iff]
  obtain ⟨a, b, c⟩ := x
  obtain ⟨a', b', c'⟩ := y
  simp

theorem take_ne {α : Type} {a b : List α} {k : Nat} {x y : α} (hx : a[k]? = some x) (hy : b[k]? = some y) (h : x ≠ y) : a ≠ b := fun e => by
  subst e
  rw [hx] at hy
  exact h (Option.some.inj hy)
theorem take_eq {α : Type} {a b : List α} {k : Nat} {x y : α} (ht : a.take k = b.take k) (hx : a[k]? = some x) (hy : b[k]? = some y) (h : x = y) : a.take (k + 1) = b.take (k + 1) := by
  rw [List.take_add_one, List.take_add_one, ht, hx, hy, h]

set_option maxHeartbeats 1600000 in
theorem sameInts_calls (u v : Value) (a b : List Int) (w : World) (hu : Ints .i64 w u a) (hv : Ints .i64 w v b) :
    Calls Tryz.prog 54 #[u, v] w fun e w' => e = .returned (.bool (decide (a = b))) ∧ Ext w w' := by
  obtain ⟨A, c, rfl, hlc, hcm, _⟩ := id hu.form
  obtain ⟨B, d, rfl, hld, hdm, _⟩ := id hv.form
  unfold maxLen at hcm hdm
  by_cases hl : a.length = b.length
  · have t1 : ((a.length : Int) != (b.length : Int)) = false := by simp [hl]
    have HL := Lib.hid hl
    clear hl
    go_enter Tryz.func54, Tryz.ntmps54
    go_wp2_with fail
    go_loopw [5] (fun i wr => ∃ k : Nat, k ≤ a.length ∧ i = .int .i64 k ∧ Hid (a.take k = b.take k) ∧ Ext w wr) (fun i _ => a.length - (intOf i).toNat)
    case atStart => exact ⟨0, by omega, rfl, rfl, Ext.refl _⟩
    case round =>
      obtain ⟨k, hk, rfl, ht, hE⟩ := hrel
      by_cases hlt : k < a.length
      · have hlt2 : k < b.length := by have := HL.out; omega
        obtain ⟨_, _, e1, _, _, hc1⟩ := (hu.ext hE).form
        cases e1
        obtain ⟨_, _, e2, _, _, hc2⟩ := (hv.ext hE).form
        cases e2
        obtain ⟨p, o, rfl, x0⟩ := hc1 k hlt
        obtain ⟨q, o2, rfl, y0⟩ := hc2 k hlt2
        rw [show a[k]?.getD 0 = a[k] by simp [hlt]] at x0
        rw [show b[k]?.getD 0 = b[k] by simp [hlt2]] at y0
        have HX := Lib.hid (show a[k]? = some a[k] by simp [hlt])
        have HY := Lib.hid (show b[k]? = some b[k] by simp [hlt2])
        clear hc1 hc2
        generalize a[k] = x at *
        generalize b[k] = y at *
        go_upto_region 6 with fail
        refine wp_region_X [0, 1, 2, 3, 4, 5, 6, 7, 8] [] (by kernel_rfl) (by kernel_rfl) (fun _ _ d _ _ h => by cases d <;> exact h) (fun w2 hE2 => ?_)
        have x1 : ∀ W, Ext w2 W → W.cell? ⟨p, o + k, none⟩ = some (.int .i64 x) := cell_ext (cell_ext x0 _ hE2)
        have y1 : ∀ W, Ext w2 W → W.cell? ⟨q, o2 + k, none⟩ = some (.int .i64 y) := cell_ext (cell_ext y0 _ hE2)
        clear x0 y0
        repeat (first | (refine wpP_pure rfl (by rfl) (fun W hW => by go_simp; with_reducible rfl) ?_; simp only [Act.put, List.setIfInBounds_toArray, List.set_cons_zero, List.set_cons_succ]) | (refine wpP_skip rfl (by rfl) ?_; simp only [Act.put, List.setIfInBounds_toArray, List.set_cons_zero, List.set_cons_succ]))
        refine ⟨trivial, fun W hR => ?_⟩
        simp only [rFin, envAt, TP.top, TP.mine, MP.top, MP.mine, MT.mine, MT.tied, MT.done, MT.is, List.map_cons, List.map_nil, true_implies, List.head?_cons, ME.is, MP.is, MP.done, ME.ints, ME.row, phi, dstAt, List.getElem?_cons_zero, List.getElem?_cons_succ, Option.bind_some, Act.put, List.setIfInBounds_toArray, List.set_cons_zero, List.set_cons_succ, and_true, forall_eq, reduceIte, Nat.reduceEqDiff, beq_iff_eq, Option.some.injEq, Bool.false_eq_true, reduceCtorEq, implies_true, true_and]
        have hEW := hE.trans (hE2.trans hR)
        clear x1 y1
        by_cases hxy : x = y
        · have t2 : (x != y) = false := by simp [hxy]
          have HT := Lib.hid (take_eq ht.out HX.out HY.out hxy)
          clear hxy
          go_wp2_with fail
          go_roundw
          case rel => exact ⟨k + 1, by omega, by go_num, HT, hEW⟩
          case measure => simp [intOf]; omega
        · have t2 : (x != y) = true := by simp [hxy]
          have HT := Lib.hid (take_ne HX.out HY.out hxy)
          clear hxy
          go_wp2_with fail
          go_ret
          exact ⟨ret_bool (by rw [decide_eq_false HT.out]), hEW⟩
      · have hab : a = b := by
          have h1 := ht.out
          have h2 := HL.out
          rw [List.take_of_length_le (by omega), List.take_of_length_le (by omega)] at h1
          exact h1
        have HAB := Lib.hid hab
        clear hab
        go_wp2_with fail
        go_ret
        exact ⟨ret_bool (by rw [decide_eq_true HAB.out]), hE⟩
  · have t1 : ((a.length : Int) != (b.length : Int)) = true := by rw [bne_iff_ne]; omega
    have hab : a ≠ b := fun e => hl (by rw [e])
    have HAB := Lib.hid hab
    clear hab hl
    go_enter Tryz.func54, Tryz.ntmps54
    go_wp2_with fail
    go_ret
    exact ⟨ret_bool (by rw [decide_eq_false HAB.out]), Ext.refl _⟩

set_option maxHeartbeats 1600000 in
theorem sameVls_calls (u v : Value) (a b : List Vl) (w : World) (hu : Vls w u a) (hv : Vls w v b) :
    Calls Tryz.prog 53 #[u, v] w fun e w' => e = .returned (.bool (decide (a = b))) ∧ Ext w w' := by
  obtain ⟨A, c, rfl, hlc, hcm, _⟩ := id hu.form
  obtain ⟨B, d, rfl, hld, hdm, _⟩ := id hv.form
  unfold maxLen at hcm hdm
  by_cases hl : a.length = b.length
  · have t1 : ((a.length : Int) != (b.length : Int)) = false := by simp [hl]
    have HL := Lib.hid hl
    clear hl
    go_enter Tryz.func53, Tryz.ntmps53
    go_wp2_with fail
    go_loopw [5] (fun i wr => ∃ k : Nat, k ≤ a.length ∧ i = .int .i64 k ∧ Hid (a.take k = b.take k) ∧ Ext w wr) (fun i _ => a.length - (intOf i).toNat)
    case atStart => exact ⟨0, by omega, rfl, rfl, Ext.refl _⟩
    case round =>
      obtain ⟨k, hk, rfl, ht, hE⟩ := hrel
      by_cases hlt : k < a.length
      · have hlt2 : k < b.length := by have := HL.out; omega
        obtain ⟨_, _, e1, _, _, hc1⟩ := (hu.ext hE).form
        cases e1
        obtain ⟨_, _, e2, _, _, hc2⟩ := (hv.ext hE).form
        cases e2
        have HX := Lib.hid (show a[k]? = some a[k] by simp [hlt])
        have HY := Lib.hid (show b[k]? = some b[k] by simp [hlt2])
        obtain ⟨p, o, rfl, _, x0⟩ := hc1 k _ HX.out
        obtain ⟨q, o2, rfl, _, y0⟩ := hc2 k _ HY.out
        clear hc1 hc2
        generalize a[k] = x at *
        generalize b[k] = y at *
        have hq := fun W => vl_neq x y W
        go_upto_region 6 with fail
        refine wp_region_X [0, 1, 2, 3, 4, 5, 6, 7, 8] [] (by kernel_rfl) (by kernel_rfl) (fun _ _ d _ _ h => by cases d <;> exact h) (fun w2 hE2 => ?_)
        have xa : ∀ W, Ext w2 W → W.cell? ⟨p, o + k * 4, none⟩ = some (.int .i64 x.s.h) := cell_ext (cell_ext (x0 0 _ rfl) _ hE2)
        have xb : ∀ W, Ext w2 W → W.cell? ⟨p, o + k * 4 + 1, none⟩ = some (.int .i64 x.s.w) := cell_ext (cell_ext (x0 1 _ rfl) _ hE2)
        have xc : ∀ W, Ext w2 W → W.cell? ⟨p, o + k * 4 + 2, none⟩ = some (.int .i64 x.s.c) := cell_ext (cell_ext (x0 2 _ rfl) _ hE2)
        have xd : ∀ W, Ext w2 W → W.cell? ⟨p, o + k * 4 + 3, none⟩ = some (.int .i64 x.z) := cell_ext (cell_ext (x0 3 _ rfl) _ hE2)
        have ya : ∀ W, Ext w2 W → W.cell? ⟨q, o2 + k * 4, none⟩ = some (.int .i64 y.s.h) := cell_ext (cell_ext (y0 0 _ rfl) _ hE2)
        have yb : ∀ W, Ext w2 W → W.cell? ⟨q, o2 + k * 4 + 1, none⟩ = some (.int .i64 y.s.w) := cell_ext (cell_ext (y0 1 _ rfl) _ hE2)
        have yc : ∀ W, Ext w2 W → W.cell? ⟨q, o2 + k * 4 + 2, none⟩ = some (.int .i64 y.s.c) := cell_ext (cell_ext (y0 2 _ rfl) _ hE2)
        have yd : ∀ W, Ext w2 W → W.cell? ⟨q, o2 + k * 4 + 3, none⟩ = some (.int .i64 y.z) := cell_ext (cell_ext (y0 3 _ rfl) _ hE2)
        clear x0 y0
        repeat (first | (refine wpP_pure rfl (by rfl) (fun W hW => by go_simp; with_reducible rfl) ?_; simp only [Act.put, List.setIfInBounds_toArray, List.set_cons_zero, List.set_cons_succ]) | (refine wpP_skip rfl (by rfl) ?_; simp only [Act.put, List.setIfInBounds_toArray, List.set_cons_zero, List.set_cons_succ]))
        refine ⟨trivial, fun W hR => ?_⟩
        simp only [rFin, envAt, TP.top, TP.mine, MP.top, MP.mine, MT.mine, MT.tied, MT.done, MT.is, List.map_cons, List.map_nil, true_implies, List.head?_cons, ME.is, MP.is, MP.done, ME.ints, ME.row, phi, dstAt, List.getElem?_cons_zero, List.getElem?_cons_succ, Option.bind_some, Act.put, List.setIfInBounds_toArray, List.set_cons_zero, List.set_cons_succ, and_true, forall_eq, reduceIte, Nat.reduceEqDiff, beq_iff_eq, Option.some.injEq, Bool.false_eq_true, reduceCtorEq, implies_true, true_and]
        have hEW := hE.trans (hE2.trans hR)
        clear xa xb xc xd ya yb yc yd hq
        by_cases hxy : x = y
        · have t2 : decide (x = y) = true := by simp [hxy]
          have HT := Lib.hid (take_eq ht.out HX.out HY.out hxy)
          rw [t2]
          clear hxy t2
          go_wp2_with fail
          go_roundw
          case rel => exact ⟨k + 1, by omega, by go_num, HT, hEW⟩
          case measure => simp [intOf]; omega
        · have t2 : decide (x = y) = false := by simp [hxy]
          have HT := Lib.hid (take_ne HX.out HY.out hxy)
          rw [t2]
          clear hxy t2
          go_wp2_with fail
          go_ret
          exact ⟨ret_bool (by rw [decide_eq_false HT.out]), hEW⟩
      · have hab : a = b := by
          have h1 := ht.out
          have h2 := HL.out
          rw [List.take_of_length_le (by omega), List.take_of_length_le (by omega)] at h1
          exact h1
        have HAB := Lib.hid hab
        clear hab
        go_wp2_with fail
        go_ret
        exact ⟨ret_bool (by rw [decide_eq_true HAB.out]), hE⟩
  · have t1 : ((a.length : Int) != (b.length : Int)) = true := by rw [bne_iff_ne]; omega
    have hab : a ≠ b := fun e => hl (by rw [e])
    have HAB := Lib.hid hab
    clear hab hl
    go_enter Tryz.func53, Tryz.ntmps53
    go_wp2_with fail
    go_ret
    exact ⟨ret_bool (by rw [decide_eq_false HAB.out]), Ext.refl _⟩

end Go.Proofs.YtdhdbmfipkppiaaGreat

namespace Go.Proofs.YtdhdbmfipkppiaaGreat
open Go.RowKit

theorem kindOf_op {op : Int} {k : Kn} (h : kindOf op = some k) : 1 ≤ op ∧ op ≤ 12 := by
  by_cases ho : 1 ≤ op ∧ op ≤ 12
  · exact ho
  · exfalso
    unfold kindOf at h
    rw [if_neg (by omega), if_neg (by omega), if_neg (by omega), if_neg (by omega), if_neg (by omega), if_neg (by omega), if_neg (by omega), if_neg (by omega), if_neg (by omega), if_neg (by omega), if_neg (by omega), if_neg (by omega)] at h
    cases h

theorem inB_iff {a b z : Int} : inB a b z = true ↔ a ≤ z ∧ z ≤ b := by simp [inB]

theorem node_ok {n : Nd} {l : List Vl} (h : (valueR n l).2 = 0) (hil : n.ins.length ≤ 255) (hwl : n.ws.length ≤ 65535) (hbl : n.bs.length ≤ 255) (hin : ∀ z ∈ n.ins, 0 ≤ z ∧ z ≤ 255) (hw : ∀ z ∈ n.ws, InK .i8 z) (hb : ∀ z ∈ n.bs, InK .i32 z) : NcOk n.c := by
  unfold valueR at h
  cases hk : kindOf n.op with
  | none => rw [hk] at h; simp at h
  | some k =>
    rw [hk] at h
    simp only at h
    by_cases h1 : nodeOk k n l.length = false
    · rw [if_pos h1] at h; simp at h
    rw [if_neg h1] at h
    by_cases h2 : (k.keeps && l.any fun x => !decide (x.z = n.zero)) = true
    · rw [if_pos h2] at h; simp at h
    rw [if_neg h2] at h
    by_cases h3 : (l.any fun x => !x.s.ok) = true
    · rw [if_pos h3] at h; simp at h
    rw [if_neg h3] at h
    by_cases h4 : (madeZ n (l[0]?.getD default).s (l[l.length - 1]?.getD default).s).ok = false
    · rw [if_pos h4] at h; simp at h
    have hop := kindOf_op hk
    have h1' : nodeOk k n l.length = true := by simpa using h1
    clear h h1 h2 h3
    simp only [nodeOk, Bool.and_eq_true] at h1'
    obtain ⟨⟨⟨⟨o1, o2⟩, o3⟩, o4⟩, o5⟩ := h1'
    simp only [ok1, Bool.and_eq_true, inB_iff] at o1
    obtain ⟨⟨⟨_, hmul⟩, hsh⟩, hzero⟩ := o1
    have hkk : 0 ≤ n.k ∧ n.k ≤ 3 ∧ 0 ≤ n.st ∧ n.st ≤ 2 := by
      unfold ok3 at o3
      split at o3
      · simp only [Bool.and_eq_true, inB_iff] at o3; omega
      · simp only [Bool.and_eq_true, decide_eq_true_eq] at o3; omega
    have hpad : 0 ≤ n.pad ∧ n.pad ≤ 255 := by
      unfold ok4 at o4
      split at o4
      · simp only [inB_iff] at o4; omega
      · split at o4
        · simp only [decide_eq_true_eq] at o4; omega
        · simp only [decide_eq_true_eq] at o4; omega
    have hout : 0 ≤ n.out ∧ n.out ≤ 255 := by
      unfold ok5 at o5
      split at o5
      · simp only [inB_iff] at o5; omega
      · simp only [decide_eq_true_eq] at o5; omega
    have hto : (0 ≤ n.th ∧ n.th ≤ 255) ∧ (0 ≤ n.tw ∧ n.tw ≤ 255) ∧ 0 ≤ n.tc ∧ n.tc ≤ 255 := by
      simp only [ok2, Bool.or_eq_true, decide_eq_true_eq] at o2
      rcases o2 with o2 | o2
      · have h4' : (madeZ n (l[0]?.getD default).s (l[l.length - 1]?.getD default).s).ok = true := by simpa using h4
        unfold madeZ at h4'
        rw [if_neg (by omega), if_neg (by omega), if_neg (by omega), if_neg (by omega), if_neg (by omega), if_neg (by omega), if_neg (by omega), if_neg (by omega), if_neg (by omega), if_neg (by omega), if_pos o2] at h4'
        unfold anewZ at h4'
        split at h4'
        · have := sz_range h4'
          simp [Nd.to] at this <;> omega
        · have := sz_range h4'
          simp [Nd.to] at this <;> omega
      · have e1 := congrArg Sz.h o2
        have e2 := congrArg Sz.w o2
        have e3 := congrArg Sz.c o2
        simp only [Nd.to] at e1 e2 e3
        omega
    exact ⟨by show 0 ≤ n.op ∧ n.op ≤ 255; omega, by show 0 ≤ n.k ∧ n.k ≤ 255; omega, by show 0 ≤ n.st ∧ n.st ≤ 255; omega, hpad, hout, by show 0 ≤ n.mul ∧ n.mul ≤ 65535; omega, by show 0 ≤ n.sh ∧ n.sh ≤ 255; omega, hzero,
      hto.1, hto.2.1, hto.2.2, hil, hwl, hbl, hin, hw, hb⟩

/-- What is known of a graph's nodes that may be. -/
theorem goNodes_ok : ∀ (ns : List Nd) (vals : List Vl) (t : Nat), (goNodes ns vals t).2 = 0 → (goNodes ns vals t).1.1.length = vals.length + ns.length ∧ t ≤ (goNodes ns vals t).1.2 ∧
    ∀ n ∈ ns, n.ws.length ≤ (goNodes ns vals t).1.2 ∧ (∃ l, (valueR n l).2 = 0) ∧ ∀ z ∈ n.ins, 0 ≤ z ∧ z < vals.length + ns.length
  | [], vals, t, _ => ⟨by simp [goNodes], by simp [goNodes], fun n hn => by cases hn⟩
  | n :: ns, vals, t, h => by
    unfold goNodes at h ⊢
    by_cases h1 : n.ins.all (okI vals) = false
    · rw [if_pos h1] at h; simp at h
    rw [if_neg h1] at h ⊢
    by_cases h2 : (valueR n (n.ins.map (getV vals))).2 ≠ 0
    · rw [if_pos h2] at h; exact absurd h h2
    rw [if_neg h2] at h ⊢
    obtain ⟨k1, k2, k3⟩ := goNodes_ok ns _ _ h
    refine ⟨by rw [k1]; simp; omega, by omega, fun m hm => ?_⟩
    rcases List.mem_cons.1 hm with rfl | hm
    · refine ⟨by omega, ⟨_, by simpa using h2⟩, fun z hz => ?_⟩
      have h1' : m.ins.all (okI vals) = true := by simpa using h1
      have := List.all_eq_true.1 h1' z hz
      simp only [okI, inB_iff] at this
      simp only [List.length_cons]
      omega
    · obtain ⟨j1, j2, j3⟩ := k3 m hm
      refine ⟨j1, j2, fun z hz => ?_⟩
      have := j3 z hz
      simp only [List.length_append, List.length_cons, List.length_nil] at this ⊢
      omega

theorem insR_ok : ∀ (l : List Vl), goesInR.insR l = 0 → ∀ v ∈ l, v.s.ok = true ∧ -128 ≤ v.z ∧ v.z ≤ 127
  | [], _, v, hv => by cases hv
  | a :: l, h, v, hv => by
    unfold goesInR.insR at h
    by_cases h1 : a.s.ok = false
    · rw [if_pos h1] at h; cases h
    rw [if_neg h1] at h
    by_cases h2 : inB (-128) 127 a.z = false
    · rw [if_pos h2] at h; cases h
    rw [if_neg h2] at h
    rcases List.mem_cons.1 hv with rfl | hv
    · exact ⟨by simpa using h1, inB_iff.1 (by simpa using h2)⟩
    · exact insR_ok l h v hv

/-- The node's own numbers are within their kinds. -/
structure NdIn (n : Nd) : Prop where
  il : n.ins.length ≤ 255
  bl : n.bs.length ≤ 255
  ws : ∀ z ∈ n.ws, InK .i8 z
  bs : ∀ z ∈ n.bs, InK .i32 z
theorem nodeAt.isIn {w : World} {n : Nd} (h : nodeAt w n) : NdIn n := ⟨h.2.2.2.2.2.1, h.2.2.2.2.2.2.2, h.2.2.2.2.1, h.2.2.2.1⟩

structure GoodG (g : Gr) : Prop where
  il : 1 ≤ g.ins.length ∧ g.ins.length ≤ 4
  nl : g.nodes.length ≤ 12
  ol : 1 ≤ g.outs.length ∧ g.outs.length ≤ 4
  ok : GcOk g.c

theorem valid_ok {g : Gr} (h : (valuesR g).2 = 0) (hn : ∀ n ∈ g.nodes, NdIn n) : GoodG g := by
  unfold valuesR at h
  by_cases h1 : goesInR g ≠ 0
  · rw [if_pos h1] at h; exact absurd h h1
  rw [if_neg h1] at h
  by_cases h2 : (goNodes g.nodes g.ins 0).2 ≠ 0
  · rw [if_pos h2] at h; exact absurd h h2
  rw [if_neg h2] at h
  by_cases h3 : 4096 < (goNodes g.nodes g.ins 0).1.2
  · rw [if_pos h3] at h; simp at h
  rw [if_neg h3] at h
  by_cases h4 : g.outs.all (okI (goNodes g.nodes g.ins 0).1.1) = false
  · rw [if_pos h4] at h; simp at h
  have h1' : goesInR g = 0 := by simpa using h1
  have h2' : (goNodes g.nodes g.ins 0).2 = 0 := by simpa using h2
  have h4' : g.outs.all (okI (goNodes g.nodes g.ins 0).1.1) = true := by simpa using h4
  clear h h1 h2 h4
  unfold goesInR at h1'
  split at h1'
  · cases h1'
  rename_i hb
  split at h1'
  · cases h1'
  rename_i he
  obtain ⟨k1, k2, k3⟩ := goNodes_ok _ _ _ h2'
  refine ⟨by omega, by omega, by omega, ?_, by show g.ins.length ≤ 255; omega, by show (g.nodes.map Nd.c).length ≤ 255; rw [List.length_map]; omega, by show g.outs.length ≤ 255; omega, ?_, ?_⟩
  · exact insR_ok _ h1'
  · intro c hc
    obtain ⟨n, hn', rfl⟩ := List.mem_map.1 hc
    obtain ⟨j1, ⟨l, j2⟩, j3⟩ := k3 n hn'
    obtain ⟨i1, i2, i3, i4⟩ := hn n hn'
    exact node_ok j2 i1 (by omega) i2 (fun z hz => by have := j3 z hz; omega) i3 i4
  · intro z hz
    have := List.all_eq_true.1 h4' z hz
    simp only [okI, inB_iff] at this
    omega

end Go.Proofs.YtdhdbmfipkppiaaGreat

namespace Go.Proofs.YtdhdbmfipkppiaaGreat
open Go.RowKit

/-- Two boxes of nodes. -/
structure Two (w W : World) (n m : Nd) : Prop where
  hn : Blk W w.heap.size #[.int .i64 n.op, n.inV, .int .i64 n.k, .int .i64 n.st, .int .i64 n.pad, .int .i64 n.out, .int .i64 n.mul, .int .i64 n.sh, .int .i64 n.zero, .int .i64 n.th, .int .i64 n.tw, .int .i64 n.tc, n.wV, n.bV] 67
  hm : Blk W (w.heap.size + 1) #[.int .i64 m.op, m.inV, .int .i64 m.k, .int .i64 m.st, .int .i64 m.pad, .int .i64 m.out, .int .i64 m.mul, .int .i64 m.sh, .int .i64 m.zero, .int .i64 m.th, .int .i64 m.tw, .int .i64 m.tc, m.wV, m.bV] 67
  ext : Ext w W
theorem Two.later {w W W' : World} {n m : Nd} (h : Two w W n m) (e : Ext W W') : Two w W' n m := ⟨h.hn.ext e, h.hm.ext e, h.ext.trans e⟩
theorem two_new (w : World) (n m : Nd) : Two w ((w.alloc (.cells #[.int .i64 n.op, n.inV, .int .i64 n.k, .int .i64 n.st, .int .i64 n.pad, .int .i64 n.out, .int .i64 n.mul, .int .i64 n.sh, .int .i64 n.zero, .int .i64 n.th, .int .i64 n.tw, .int .i64 n.tc, n.wV, n.bV] 67)).alloc (.cells #[.int .i64 m.op, m.inV, .int .i64 m.k, .int .i64 m.st, .int .i64 m.pad, .int .i64 m.out, .int .i64 m.mul, .int .i64 m.sh, .int .i64 m.zero, .int .i64 m.th, .int .i64 m.tw, .int .i64 m.tc, m.wV, m.bV] 67)) n m := by
  have h1 := Blk.new (w.alloc (.cells #[.int .i64 n.op, n.inV, .int .i64 n.k, .int .i64 n.st, .int .i64 n.pad, .int .i64 n.out, .int .i64 n.mul, .int .i64 n.sh, .int .i64 n.zero, .int .i64 n.th, .int .i64 n.tw, .int .i64 n.tc, n.wV, n.bV] 67)) #[.int .i64 m.op, m.inV, .int .i64 m.k, .int .i64 m.st, .int .i64 m.pad, .int .i64 m.out, .int .i64 m.mul, .int .i64 m.sh, .int .i64 m.zero, .int .i64 m.th, .int .i64 m.tw, .int .i64 m.tc, m.wV, m.bV] 67
  rw [show (w.alloc (.cells #[.int .i64 n.op, n.inV, .int .i64 n.k, .int .i64 n.st, .int .i64 n.pad, .int .i64 n.out, .int .i64 n.mul, .int .i64 n.sh, .int .i64 n.zero, .int .i64 n.th, .int .i64 n.tw, .int .i64 n.tc, n.wV, n.bV] 67)).heap.size = w.heap.size + 1 from by simp] at h1
  exact ⟨(Blk.new w _ _).ext (ext_alloc _ _), h1, (ext_alloc w _).trans (ext_alloc _ _)⟩

theorem nc_ext {a b : Nc} (h : a.op = b.op) (h1 : a.k = b.k) (h2 : a.st = b.st) (h3 : a.pad = b.pad) (h4 : a.out = b.out) (h5 : a.mul = b.mul) (h6 : a.sh = b.sh) (h7 : a.zero = b.zero) (h8 : a.th = b.th) (h9 : a.tw = b.tw) (h10 : a.tc = b.tc)
    (h11 : a.ins = b.ins) (h12 : a.ws = b.ws) (h13 : a.bs = b.bs) : a = b := by
  cases a; cases b; simp_all

end Go.Proofs.YtdhdbmfipkppiaaGreat
