/- The walk of the reference of graph.Value. -/
import Derived.Test.YtmddlhfahfelpaaRfh
import Derived.Test.YtmddlhfahfelpaaGrh
set_option linter.unusedSimpArgs false
set_option linter.unusedVariables false
set_option linter.unnecessarySimpa false
namespace Go.Proofs.Ytmddlhfahfelpaa
open Go.RowKit

theorem keepsB_eq {op : Int} {k : Kn} (h : kindOf op = some k) : keepsB op = k.keeps := by
  have hr := kind_range h
  rcases (by omega : op = 1 ∨ op = 2 ∨ op = 3 ∨ op = 4 ∨ op = 5 ∨ op = 6 ∨ op = 7 ∨ op = 8 ∨ op = 9 ∨ op = 10 ∨ op = 11 ∨ op = 12) with e | e | e | e | e | e | e | e | e | e | e | e
  all_goals
    subst e
    simp only [kindOf, reduceIte, Int.reduceEq, Option.some.injEq] at h
    subst h
    rfl

set_option maxRecDepth 8000 in
set_option maxHeartbeats 6400000 in
theorem rvalue_calls (n : Nd) (lv : Value) (l : List Vl) (w : World) (hv : Vls w lv l) (hb : Ints .i32 w n.bV n.bs) (hbk : ∀ z ∈ n.bs, InK .i32 z) (hw : ∃ A c, n.wV = .slice A n.ws.length c ∧ n.ws.length ≤ c ∧ c ≤ maxLen) :
    Calls Try.prog 59 #[.agg #[.int .i64 n.op, n.inV, .int .i64 n.k, .int .i64 n.st, .int .i64 n.pad, .int .i64 n.out, .int .i64 n.mul, .int .i64 n.sh, .int .i64 n.zero, .int .i64 n.th, .int .i64 n.tw, .int .i64 n.tc, n.wV, n.bV], lv] w (ValuePost (valueR n l) w) := by
  have I0 := vi_begin hv hb
  obtain ⟨R, hR⟩ : ∃ R, valueR n l = R := ⟨_, rfl⟩
  have HR : Hid (valueR n l = R) := hR
  rw [hR]
  clear hR
  obtain ⟨AW, cW, hwe, hwl, hwc⟩ := hw
  unfold maxLen at hwc
  have HWE := Lib.hid hwe
  clear hwe
  have HP : Hid (∀ e w', (e = .returned (.tuple #[.agg #[.int .i64 R.1.s.h, .int .i64 R.1.s.w, .int .i64 R.1.s.c, .int .i64 R.1.z], .int .i64 R.2]) ∧ Ext w w') → ValuePost R w e w') := fun e w' h => h
  generalize ValuePost R w = PP at *
  obtain ⟨A, c, rfl, hlc, hcm, _⟩ := id hv.form
  unfold maxLen at hcm
  have HR1 : Hid (R = if nodeB n l.length = false then (⟨⟨0, 0, 0⟩, 0⟩, 11) else
      if (keepsB n.op && l.any fun x => !decide (x.z = n.zero)) = true then (⟨⟨0, 0, 0⟩, 0⟩, 11) else
      if (l.any fun x => !x.s.ok) = true then (⟨⟨0, 0, 0⟩, 0⟩, 10) else
      if (madeZ n (l[0]?.getD default).s (l[l.length - 1]?.getD default).s).ok = false then (⟨⟨0, 0, 0⟩, 0⟩, 10) else
      if ((n.ws.length : Int) ≠ (wbZ n (l[0]?.getD default).s).1 ∨ (n.bs.length : Int) ≠ (wbZ n (l[0]?.getD default).s).2) ∨ (n.bs.any fun x => !inB (-16777216) 16777216 x) = true then (⟨⟨0, 0, 0⟩, 0⟩, 12) else
      (⟨madeZ n (l[0]?.getD default).s (l[l.length - 1]?.getD default).s, n.zero⟩, 0)) := by
    show _ = _
    rw [← HR.out]
    unfold valueR nodeB
    cases hk : kindOf n.op with
    | none => rfl
    | some k => rw [keepsB_eq hk]
  have HV0 := Lib.hid HR1.out
  clear HR HR1
  go_enter Try.func59, Try.ntmps59
  go_wp2_with fail
  generalize World.alloc (World.alloc w _) _ = w1 at *
  refine (rnode_calls n l.length w1).mono ?_
  rintro e w2 ⟨rfl, h2⟩
  replace I0 := I0.ext h2
  clear h2
  obtain ⟨q, hq⟩ : ∃ q, nodeB n l.length = q := ⟨_, rfl⟩
  rw [hq]
  have HQ := Lib.hid hq
  clear hq
  cases q with
  | false =>
    have HV : Hid (R = (⟨⟨0, 0, 0⟩, 0⟩, 11)) := by show _ = _; rw [HV0.out, HQ.out] <;> simp only [reduceIte, Bool.false_eq_true, Bool.true_eq_false]
    have hx := ext_setRow I0.he #[.int .i64 0, .int .i64 0, .int .i64 0, .int .i64 0] (show w.heap.size ≤ w.heap.size + 1 by omega)
    have hr := I0.hr
    go_wp2_with (refine wpList_store_row rfl 44 _ _ rfl (w.heap.size + 1) #[.int .i64 0, .int .i64 0, .int .i64 0, .int .i64 0] rfl rfl 44 _ hr (by kernel_rfl) rfl (by simp [Value.oneCell']) ?_)
    refine bodyPost_ret (v := .tuple #[.agg _, .int .i64 11]) (results_cell_tmp Try.results59 _ _ (w.heap.size + 1) 44 _ (0, 0) _ rfl (setRow_heap _ _ _ _ _ _ hr) (by kernel_rfl : Try.prog.underlying 44 = some (.struct (Try.prog.fieldsOf 44))) rfl (by kernel_rfl)) rfl ?_
    exact HP.out _ _ ⟨by rw [HV.out], hx⟩
  | true =>
    go_wp2_with fail
    go_loopw [6] (fun i wr => ∃ k : Nat, k ≤ l.length ∧ i = .int .i64 k ∧ Hid (keepsB n.op = true → (l.take k).any (fun x => !decide (x.z = n.zero)) = false) ∧ VI w n (.slice A l.length c) l wr) (fun i _ => l.length - (intOf i).toNat)
    case atStart => exact ⟨0, by omega, rfl, (fun _ => rfl), I0⟩
    case round =>
      clear I0
      obtain ⟨k, hk, rfl, hpre, I1⟩ := hrel
      by_cases hlt : k < l.length
      · obtain ⟨_, _, eA, _, _, hcc⟩ := I1.hv.form
        cases eA
        have hs : l[k]? = some l[k] := by simp [hlt]
        obtain ⟨b, off, rfl, hbl, hc⟩ := hcc k _ hs
        have HT : Hid (keepsB n.op = true → (!decide (l[k].z = n.zero)) = true → (l.any fun x => !decide (x.z = n.zero)) = true) := fun _ h => List.any_eq_true.2 ⟨_, List.getElem_mem hlt, h⟩
        have HF : Hid (keepsB n.op = true → (!decide (l[k].z = n.zero)) = false → (l.take (k + 1)).any (fun x => !decide (x.z = n.zero)) = false) := by
          show _ → _ → _
          intro h0 h
          rw [List.take_succ_eq_append_getElem hlt, List.any_append, hpre.out h0]
          simp [h]
        generalize l[k] = y at *
        have y3 : wr.cell? ⟨b, off + k * 4 + 3, none⟩ = some (.int .i64 y.z) := hc 3 _ rfl
        clear hc hcc hs hpre
        go_upto_region 6 with fail
        have hke := fun W => rkeeps_calls n.op W
        obtain ⟨kq, hkq⟩ : ∃ q, keepsB n.op = q := ⟨_, rfl⟩
        rw [hkq] at hke
        have HKQ := Lib.hid hkq
        clear hkq
        cases kq with
        | false =>
          refine wp_region_X [0, 1] [⟨2, [], ME.is (.bool false)⟩, ⟨3, [2], ME.is (.bool false)⟩, ⟨4, [3], ME.is undef⟩, ⟨5, [3], ME.is undef⟩, ⟨6, [3, 4, 5], ME.is undef⟩, ⟨7, [3, 6], ME.is undef⟩, ⟨8, [3, 7], ME.is undef⟩, ⟨9, [3], ME.is undef⟩, ⟨10, [3, 9], ME.is undef⟩, ⟨11, [3, 8, 10], ME.is undef⟩, ⟨12, [3, 11], ME.is (.bool false)⟩] (by kernel_rfl) (by kernel_rfl) (fun _ _ d _ _ h => by cases d <;> exact h) (fun w2 hE => ?_)
          have n0 : ∀ W, Ext w2 W → W.cell? ⟨w.heap.size, 0, none⟩ = some (.int .i64 n.op) := fun W h => ((I1.hn.ext hE).ext h).cell 0
          repeat (first | (refine wpP_pure rfl (by rfl) (fun W hW => by go_simp; with_reducible rfl) ?_; simp only [Act.put, List.setIfInBounds_toArray, List.set_cons_zero, List.set_cons_succ]) | (refine wpP_skip rfl (by rfl) ?_; simp only [Act.put, List.setIfInBounds_toArray, List.set_cons_zero, List.set_cons_succ]))
          refine ⟨?_, fun W hR => ?_⟩
          · clear n0
            simp only [rSteps, rNeed, rStep, both_top, tie, TP.top, TP.mine, MP.top, MP.mine, MT.mine, MT.tied, MT.done, MT.is, List.reverse_cons, List.reverse_nil, List.nil_append, List.cons_append, ME.is, MP.is, MP.done, ME.ints, ME.row, Region.wanted, yielded, List.getElem?_toArray, phi, dstAt, List.getElem?_cons_zero, List.getElem?_cons_succ, Option.bind_some, Act.put, List.setIfInBounds_toArray, List.set_cons_zero, List.set_cons_succ, and_true, forall_eq, reduceIte, Nat.reduceEqDiff, beq_iff_eq, Option.some.injEq, Bool.false_eq_true, reduceCtorEq, implies_true, true_and]
            refine ⟨fun W hR => ?_, fun W hR => ?_, fun W hR => ?_⟩
            · go_simp
              refine (hke W).mono ?_
              rintro e w' ⟨rfl, rfl⟩
              exact ⟨_, rfl, Ext.refl _, rfl⟩
            all_goals (go_simp; exact ⟨_, rfl, Ext.refl _, rfl⟩)
          · simp only [rFin, envAt, TP.top, TP.mine, MP.top, MP.mine, MT.mine, MT.tied, MT.done, MT.is, List.map_cons, List.map_nil, true_implies, List.head?_cons, ME.is, MP.is, MP.done, ME.ints, ME.row, phi, dstAt, List.getElem?_cons_zero, List.getElem?_cons_succ, Option.bind_some, Act.put, List.setIfInBounds_toArray, List.set_cons_zero, List.set_cons_succ, and_true, forall_eq, reduceIte, Nat.reduceEqDiff, beq_iff_eq, Option.some.injEq, Bool.false_eq_true, reduceCtorEq, implies_true, true_and]
            have I2 := I1.ext (hE.trans hR)
            have HF1 : Hid (keepsB n.op = true → (l.take (k + 1)).any (fun x => !decide (x.z = n.zero)) = false) := fun h => by rw [HKQ.out] at h; cases h
            clear n0 hke
            go_wp2_with fail
            go_roundw
            case rel => exact ⟨k + 1, by omega, by go_num, HF1, I2⟩
            case measure => simp [intOf]; omega
        | true =>
          obtain ⟨yb, hyb⟩ : ∃ q, (!decide (y.z = n.zero)) = q := ⟨_, rfl⟩
          have hyn : (y.z != n.zero) = yb := by rw [← hyb]; rw [Bool.eq_iff_iff]; simp
          refine wp_region_X [0, 1] [⟨2, [], ME.is (.bool true)⟩, ⟨3, [2], ME.is (.bool true)⟩, ⟨4, [3], ME.is (.slice (some ⟨b, off, none⟩) l.length c)⟩, ⟨5, [3], ME.is (.int .i64 k)⟩, ⟨6, [3, 4, 5], ME.is (.pointer (some ⟨b, off + k * 4, none⟩))⟩, ⟨7, [3, 6], ME.is (.pointer (some ⟨b, off + k * 4 + 3, none⟩))⟩, ⟨8, [3, 7], ME.is (.int .i64 y.z)⟩, ⟨9, [3], ME.is (.pointer (some ⟨w.heap.size, 8, none⟩))⟩, ⟨10, [3, 9], ME.is (.int .i64 n.zero)⟩, ⟨11, [3, 8, 10], ME.is (.bool yb)⟩, ⟨12, [3, 11], ME.is (.bool yb)⟩] (by kernel_rfl) (by kernel_rfl) (fun _ _ d _ _ h => by cases d <;> exact h) (fun w2 hE => ?_)
          have n0 : ∀ W, Ext w2 W → W.cell? ⟨w.heap.size, 0, none⟩ = some (.int .i64 n.op) := fun W h => ((I1.hn.ext hE).ext h).cell 0
          have n8 : ∀ W, Ext w2 W → W.cell? ⟨w.heap.size, 8, none⟩ = some (.int .i64 n.zero) := fun W h => ((I1.hn.ext hE).ext h).cell 8
          have y3' : ∀ W, Ext w2 W → W.cell? ⟨b, off + k * 4 + 3, none⟩ = some (.int .i64 y.z) := cell_ext (cell_ext y3 _ hE)
          have HYB := Lib.hid hyb
          clear hyb
          repeat (first | (refine wpP_pure rfl (by rfl) (fun W hW => by go_simp; with_reducible rfl) ?_; simp only [Act.put, List.setIfInBounds_toArray, List.set_cons_zero, List.set_cons_succ]) | (refine wpP_skip rfl (by rfl) ?_; simp only [Act.put, List.setIfInBounds_toArray, List.set_cons_zero, List.set_cons_succ]))
          refine ⟨?_, fun W hR => ?_⟩
          · clear n0
            simp only [rSteps, rNeed, rStep, both_top, tie, TP.top, TP.mine, MP.top, MP.mine, MT.mine, MT.tied, MT.done, MT.is, List.reverse_cons, List.reverse_nil, List.nil_append, List.cons_append, ME.is, MP.is, MP.done, ME.ints, ME.row, Region.wanted, yielded, List.getElem?_toArray, phi, dstAt, List.getElem?_cons_zero, List.getElem?_cons_succ, Option.bind_some, Act.put, List.setIfInBounds_toArray, List.set_cons_zero, List.set_cons_succ, and_true, forall_eq, reduceIte, Nat.reduceEqDiff, beq_iff_eq, Option.some.injEq, Bool.false_eq_true, reduceCtorEq, implies_true, true_and]
            refine ⟨fun W hR => ?_, fun W hR => ?_, fun W hR => ?_, fun W hR => ?_, fun W hR => ?_, fun W hR => ?_, fun W hR => ?_, fun W hR => ?_, fun W hR => ?_, fun W hR => ?_, fun W hR => ?_⟩
            · go_simp
              refine (hke W).mono ?_
              rintro e w' ⟨rfl, rfl⟩
              exact ⟨_, rfl, Ext.refl _, rfl⟩
            · (go_simp; exact ⟨_, rfl, Ext.refl _, rfl⟩)
            · (go_simp; exact ⟨_, rfl, Ext.refl _, rfl⟩)
            · (go_simp; exact ⟨_, rfl, Ext.refl _, rfl⟩)
            · (go_simp; exact ⟨_, rfl, Ext.refl _, rfl⟩)
            · (go_simp; exact ⟨_, rfl, Ext.refl _, rfl⟩)
            · have := y3' W hR
              (go_simp; exact ⟨_, rfl, Ext.refl _, rfl⟩)
            · (go_simp; exact ⟨_, rfl, Ext.refl _, rfl⟩)
            · have := n8 W hR
              (go_simp; exact ⟨_, rfl, Ext.refl _, rfl⟩)
            · (go_simp; exact ⟨_, rfl, Ext.refl _, rfl⟩)
            · (go_simp; exact ⟨_, rfl, Ext.refl _, rfl⟩)
          · simp only [rFin, envAt, TP.top, TP.mine, MP.top, MP.mine, MT.mine, MT.tied, MT.done, MT.is, List.map_cons, List.map_nil, true_implies, List.head?_cons, ME.is, MP.is, MP.done, ME.ints, ME.row, phi, dstAt, List.getElem?_cons_zero, List.getElem?_cons_succ, Option.bind_some, Act.put, List.setIfInBounds_toArray, List.set_cons_zero, List.set_cons_succ, and_true, forall_eq, reduceIte, Nat.reduceEqDiff, beq_iff_eq, Option.some.injEq, Bool.false_eq_true, reduceCtorEq, implies_true, true_and]
            have I2 := I1.ext (hE.trans hR)
            clear n0 n8 y3' hke hyn
            cases yb with
            | true =>
              have HT1 := Lib.hid (HT.out HKQ.out HYB.out)
              have HV : Hid (R = (⟨⟨0, 0, 0⟩, 0⟩, 11)) := by show _ = _; rw [HV0.out, HQ.out, HKQ.out, HT1.out] <;> simp only [reduceIte, Bool.false_eq_true, Bool.true_eq_false, Bool.and_self]
              have hx := ext_setRow I2.he #[.int .i64 0, .int .i64 0, .int .i64 0, .int .i64 0] (show w.heap.size ≤ w.heap.size + 1 by omega)
              have hr := I2.hr
              go_wp2_with (refine wpList_store_row rfl 44 _ _ rfl (w.heap.size + 1) #[.int .i64 0, .int .i64 0, .int .i64 0, .int .i64 0] rfl rfl 44 _ hr (by kernel_rfl) rfl (by simp [Value.oneCell']) ?_)
              refine bodyPost_ret (v := .tuple #[.agg _, .int .i64 11]) (results_cell_tmp Try.results59 _ _ (w.heap.size + 1) 44 _ (0, 0) _ rfl (setRow_heap _ _ _ _ _ _ hr) (by kernel_rfl : Try.prog.underlying 44 = some (.struct (Try.prog.fieldsOf 44))) rfl (by kernel_rfl)) rfl ?_
              exact HP.out _ _ ⟨by rw [HV.out], hx⟩
            | false =>
              have HF1 : Hid (keepsB n.op = true → (l.take (k + 1)).any (fun x => !decide (x.z = n.zero)) = false) := fun h => HF.out h HYB.out
              go_wp2_with fail
              go_roundw
              case rel => exact ⟨k + 1, by omega, by go_num, HF1, I2⟩
              case measure => simp [intOf]; omega
      · have hkk : k = l.length := by omega
        have HQ2 : Hid ((keepsB n.op && l.any fun x => !decide (x.z = n.zero)) = false) := by
          show _ = _
          cases hk2 : keepsB n.op with
          | false => rfl
          | true =>
            have := hpre.out hk2
            rw [hkk, List.take_length] at this
            rw [this]
            rfl
        clear hpre hkk
        go_wp2_with fail
        go_loopw [7] (fun i wr => ∃ k : Nat, k ≤ l.length ∧ i = .int .i64 k ∧ Hid ((l.take k).any (fun x => !x.s.ok) = false) ∧ VI w n (.slice A l.length c) l wr) (fun i _ => l.length - (intOf i).toNat)
        case atStart => exact ⟨0, by omega, rfl, rfl, I1⟩
        case round =>
          clear I1
          obtain ⟨k, hk, rfl, hpre, I1⟩ := hrel
          by_cases hlt : k < l.length
          · obtain ⟨_, _, eA, _, _, hcc⟩ := I1.hv.form
            cases eA
            have hs : l[k]? = some l[k] := by simp [hlt]
            obtain ⟨b, off, rfl, hbl, hc⟩ := hcc k _ hs
            have HT : Hid (l[k].s.ok = false → (l.any fun x => !x.s.ok) = true) := fun h => List.any_eq_true.2 ⟨_, List.getElem_mem hlt, by rw [h]; rfl⟩
            have HF : Hid (l[k].s.ok = true → (l.take (k + 1)).any (fun x => !x.s.ok) = false) := by
              show _ → _
              intro h
              rw [List.take_succ_eq_append_getElem hlt, List.any_append, hpre.out]
              simp [h]
            generalize l[k] = y at *
            have y0 : wr.cell? ⟨b, off + k * 4, none⟩ = some (.int .i64 y.s.h) := hc 0 _ rfl
            have y1 : wr.cell? ⟨b, off + k * 4 + 1, none⟩ = some (.int .i64 y.s.w) := hc 1 _ rfl
            have y2 : wr.cell? ⟨b, off + k * 4 + 2, none⟩ = some (.int .i64 y.s.c) := hc 2 _ rfl
            clear hc hcc hs hpre
            have hsm := rMay_calls y.s wr
            obtain ⟨q, hq⟩ : ∃ q, y.s.ok = q := ⟨_, rfl⟩
            rw [hq] at hsm
            go_wp2_with fail
            refine hsm.mono ?_
            rintro e w3 ⟨rfl, h3⟩
            have I2 := I1.ext h3
            clear hsm y0 y1 y2
            cases q with
            | false =>
              have HT1 := Lib.hid (HT.out hq)
              clear hq
              have HV : Hid (R = (⟨⟨0, 0, 0⟩, 0⟩, 10)) := by show _ = _; rw [HV0.out, HQ.out, HQ2.out, HT1.out] <;> simp only [reduceIte, Bool.false_eq_true, Bool.true_eq_false]
              have hx := ext_setRow I2.he #[.int .i64 0, .int .i64 0, .int .i64 0, .int .i64 0] (show w.heap.size ≤ w.heap.size + 1 by omega)
              have hr := I2.hr
              go_wp2_with (refine wpList_store_row rfl 44 _ _ rfl (w.heap.size + 1) #[.int .i64 0, .int .i64 0, .int .i64 0, .int .i64 0] rfl rfl 44 _ hr (by kernel_rfl) rfl (by simp [Value.oneCell']) ?_)
              refine bodyPost_ret (v := .tuple #[.agg _, .int .i64 10]) (results_cell_tmp Try.results59 _ _ (w.heap.size + 1) 44 _ (0, 0) _ rfl (setRow_heap _ _ _ _ _ _ hr) (by kernel_rfl : Try.prog.underlying 44 = some (.struct (Try.prog.fieldsOf 44))) rfl (by kernel_rfl)) rfl ?_
              exact HP.out _ _ ⟨by rw [HV.out], hx⟩
            | true =>
              have HF1 := Lib.hid (HF.out hq)
              clear hq
              go_wp2_with fail
              go_roundw
              case rel => exact ⟨k + 1, by omega, by go_num, HF1, I2⟩
              case measure => simp [intOf]; omega
          · have hkk : k = l.length := by omega
            have HQ3 : Hid ((l.any fun x => !x.s.ok) = false) := by
              show _ = _
              have := hpre.out
              rwa [hkk, List.take_length] at this
            clear hpre hkk
            have hok : ∀ x ∈ l, x.s.ok = true := fun x hx => by
              have := HQ3.out
              rw [List.any_eq_false] at this
              simpa using this x hx
            have hmade := rmade_calls n (.slice A l.length c) l wr I1.hv HQ.out hok
            obtain ⟨mz, hmz⟩ : ∃ mz, madeZ n (l[0]?.getD default).s (l[l.length - 1]?.getD default).s = mz := ⟨_, rfl⟩
            rw [hmz] at hmade
            have HMZ := Lib.hid hmz
            have HOK := Lib.hid hok
            clear hmz hok
            have hlp : ∃ x0, l[0]? = some x0 ∧ x0.s.ok = true := by
              obtain ⟨k, hk, _, _, _, hm, _⟩ := nodeB_facts HQ.out
              have hm2 := (kind_facts n k hk).many
              have h0 : 0 < l.length := by rcases hm2 with h | h <;> rw [h] at hm <;> omega
              exact ⟨l[0], by simp [h0], HOK.out _ (List.getElem_mem h0)⟩
            obtain ⟨x0, hx0, hxo⟩ := hlp
            have HX0 := Lib.hid hx0
            have hl0 : 0 < l.length := (List.getElem?_eq_some_iff.1 hx0).1
            clear hx0
            have nc0 : wr.cell? ⟨w.heap.size, 0, none⟩ = some (.int .i64 n.op) := I1.hn.cell 0
            have nc1 : wr.cell? ⟨w.heap.size, 1, none⟩ = some (n.inV) := I1.hn.cell 1
            have nc2 : wr.cell? ⟨w.heap.size, 2, none⟩ = some (.int .i64 n.k) := I1.hn.cell 2
            have nc3 : wr.cell? ⟨w.heap.size, 3, none⟩ = some (.int .i64 n.st) := I1.hn.cell 3
            have nc4 : wr.cell? ⟨w.heap.size, 4, none⟩ = some (.int .i64 n.pad) := I1.hn.cell 4
            have nc5 : wr.cell? ⟨w.heap.size, 5, none⟩ = some (.int .i64 n.out) := I1.hn.cell 5
            have nc6 : wr.cell? ⟨w.heap.size, 6, none⟩ = some (.int .i64 n.mul) := I1.hn.cell 6
            have nc7 : wr.cell? ⟨w.heap.size, 7, none⟩ = some (.int .i64 n.sh) := I1.hn.cell 7
            have nc8 : wr.cell? ⟨w.heap.size, 8, none⟩ = some (.int .i64 n.zero) := I1.hn.cell 8
            have nc9 : wr.cell? ⟨w.heap.size, 9, none⟩ = some (.int .i64 n.th) := I1.hn.cell 9
            have nc10 : wr.cell? ⟨w.heap.size, 10, none⟩ = some (.int .i64 n.tw) := I1.hn.cell 10
            have nc11 : wr.cell? ⟨w.heap.size, 11, none⟩ = some (.int .i64 n.tc) := I1.hn.cell 11
            have nc12 : wr.cell? ⟨w.heap.size, 12, none⟩ = some (n.wV) := I1.hn.cell 12
            have nc13 : wr.cell? ⟨w.heap.size, 13, none⟩ = some (n.bV) := I1.hn.cell 13
            go_wp2_with fail
            refine hmade.mono ?_
            rintro e w4 ⟨rfl, h4⟩
            clear hmade
            clear nc0 nc1 nc2 nc3 nc4 nc5 nc6 nc7 nc8 nc9 nc10 nc11 nc12 nc13
            have I2 := I1.ext h4
            have hm8 := Blk.new w4 #[.int .i64 mz.h, .int .i64 mz.w, .int .i64 mz.c] 42
            have hE8 := ext_alloc w4 (.cells #[.int .i64 mz.h, .int .i64 mz.w, .int .i64 mz.c] 42)
            have hsm := rMay_calls mz (w4.alloc (.cells #[.int .i64 mz.h, .int .i64 mz.w, .int .i64 mz.c] 42))
            obtain ⟨q, hq⟩ : ∃ q, mz.ok = q := ⟨_, rfl⟩
            rw [hq] at hsm
            have HQ4 := Lib.hid hq
            clear hq h4 I1
            go_wp2_with fail
            refine hsm.mono ?_
            rintro e w6 ⟨rfl, h6⟩
            have I3 := I2.ext (hE8.trans h6)
            have hb8 := hm8.ext h6
            generalize hB8 : w4.heap.size = B8 at *
            clear hB8 hsm hm8 hE8 h6 I2
            cases q with
            | false =>
              have HV : Hid (R = (⟨⟨0, 0, 0⟩, 0⟩, 10)) := by show _ = _; rw [HV0.out, HQ.out, HQ2.out, HQ3.out, HMZ.out, HQ4.out] <;> simp only [reduceIte, Bool.false_eq_true, Bool.true_eq_false]
              have hx := ext_setRow I3.he #[.int .i64 0, .int .i64 0, .int .i64 0, .int .i64 0] (show w.heap.size ≤ w.heap.size + 1 by omega)
              have hr := I3.hr
              go_wp2_with (refine wpList_store_row rfl 44 _ _ rfl (w.heap.size + 1) #[.int .i64 0, .int .i64 0, .int .i64 0, .int .i64 0] rfl rfl 44 _ hr (by kernel_rfl) rfl (by simp [Value.oneCell']) ?_)
              refine bodyPost_ret (v := .tuple #[.agg _, .int .i64 10]) (results_cell_tmp Try.results59 _ _ (w.heap.size + 1) 44 _ (0, 0) _ rfl (setRow_heap _ _ _ _ _ _ hr) (by kernel_rfl : Try.prog.underlying 44 = some (.struct (Try.prog.fieldsOf 44))) rfl (by kernel_rfl)) rfl ?_
              exact HP.out _ _ ⟨by rw [HV.out], hx⟩
            | true =>
              have hwb := fun W => rmany_calls n x0.s W l.length HQ.out hxo
              obtain ⟨wz, hwz⟩ : ∃ wz, wbZ n x0.s = wz := ⟨_, rfl⟩
              rw [hwz] at hwb
              have HWZ : Hid (wbZ n (l[0]?.getD default).s = wz) := by show _ = _; rw [HX0.out]; exact hwz
              have HV1 : Hid (R = if ((n.ws.length : Int) ≠ wz.1 ∨ (n.bs.length : Int) ≠ wz.2) ∨ (n.bs.any fun x => !inB (-16777216) 16777216 x) = true then (⟨⟨0, 0, 0⟩, 0⟩, 12) else (⟨mz, n.zero⟩, 0)) := by
                show _ = _
                rw [HV0.out, HQ.out, HQ2.out, HQ3.out, HMZ.out, HQ4.out, HWZ.out] <;> simp only [reduceIte, Bool.false_eq_true, Bool.true_eq_false]
              obtain ⟨A', c', eA', _, _, hcc⟩ := I3.hv.form
              obtain ⟨b, off, eb, bh, xc⟩ := hcc 0 x0 HX0.out
              cases eA'
              cases eb
              have xc0 : w6.cell? ⟨b, off, none⟩ = some (.int .i64 x0.s.h) := by simpa using xc 0 _ rfl
              have xc1 : w6.cell? ⟨b, off + 1, none⟩ = some (.int .i64 x0.s.w) := by simpa using xc 1 _ rfl
              have xc2 : w6.cell? ⟨b, off + 2, none⟩ = some (.int .i64 x0.s.c) := by simpa using xc 2 _ rfl
              clear xc hcc hwz HX0 hxo HV0 HQ HQ2 HQ3 HQ4 HMZ HWZ HOK
              go_upto_region 16 with fail
              refine wp_region_X [0, 1, 2, 3, 4] [⟨5, [], ME.is (.tuple #[.int .i64 wz.1, .int .i64 wz.2])⟩, ⟨6, [5], ME.is (.tuple #[.int .i64 wz.1, .int .i64 wz.2])⟩, ⟨7, [6], ME.is (.int .i64 wz.1)⟩, ⟨8, [6], ME.is (.int .i64 wz.2)⟩, ⟨9, [7], ME.is (.int .i64 wz.1)⟩, ⟨10, [8], ME.is (.int .i64 wz.2)⟩] (by kernel_rfl) (by kernel_rfl) (fun _ _ d _ _ h => by cases d <;> exact h) (fun u2 hE => ?_)
              have nc0 : ∀ W, Ext u2 W → W.cell? ⟨w.heap.size, 0, none⟩ = some (.int .i64 n.op) := fun W h => ((I3.hn.ext hE).ext h).cell 0
              have nc1 : ∀ W, Ext u2 W → W.cell? ⟨w.heap.size, 1, none⟩ = some (n.inV) := fun W h => ((I3.hn.ext hE).ext h).cell 1
              have nc2 : ∀ W, Ext u2 W → W.cell? ⟨w.heap.size, 2, none⟩ = some (.int .i64 n.k) := fun W h => ((I3.hn.ext hE).ext h).cell 2
              have nc3 : ∀ W, Ext u2 W → W.cell? ⟨w.heap.size, 3, none⟩ = some (.int .i64 n.st) := fun W h => ((I3.hn.ext hE).ext h).cell 3
              have nc4 : ∀ W, Ext u2 W → W.cell? ⟨w.heap.size, 4, none⟩ = some (.int .i64 n.pad) := fun W h => ((I3.hn.ext hE).ext h).cell 4
              have nc5 : ∀ W, Ext u2 W → W.cell? ⟨w.heap.size, 5, none⟩ = some (.int .i64 n.out) := fun W h => ((I3.hn.ext hE).ext h).cell 5
              have nc6 : ∀ W, Ext u2 W → W.cell? ⟨w.heap.size, 6, none⟩ = some (.int .i64 n.mul) := fun W h => ((I3.hn.ext hE).ext h).cell 6
              have nc7 : ∀ W, Ext u2 W → W.cell? ⟨w.heap.size, 7, none⟩ = some (.int .i64 n.sh) := fun W h => ((I3.hn.ext hE).ext h).cell 7
              have nc8 : ∀ W, Ext u2 W → W.cell? ⟨w.heap.size, 8, none⟩ = some (.int .i64 n.zero) := fun W h => ((I3.hn.ext hE).ext h).cell 8
              have nc9 : ∀ W, Ext u2 W → W.cell? ⟨w.heap.size, 9, none⟩ = some (.int .i64 n.th) := fun W h => ((I3.hn.ext hE).ext h).cell 9
              have nc10 : ∀ W, Ext u2 W → W.cell? ⟨w.heap.size, 10, none⟩ = some (.int .i64 n.tw) := fun W h => ((I3.hn.ext hE).ext h).cell 10
              have nc11 : ∀ W, Ext u2 W → W.cell? ⟨w.heap.size, 11, none⟩ = some (.int .i64 n.tc) := fun W h => ((I3.hn.ext hE).ext h).cell 11
              have nc12 : ∀ W, Ext u2 W → W.cell? ⟨w.heap.size, 12, none⟩ = some (n.wV) := fun W h => ((I3.hn.ext hE).ext h).cell 12
              have nc13 : ∀ W, Ext u2 W → W.cell? ⟨w.heap.size, 13, none⟩ = some (n.bV) := fun W h => ((I3.hn.ext hE).ext h).cell 13
              have x0' : ∀ W, Ext u2 W → W.cell? ⟨b, off, none⟩ = some (.int .i64 x0.s.h) := cell_ext (cell_ext xc0 _ hE)
              have x1' : ∀ W, Ext u2 W → W.cell? ⟨b, off + 1, none⟩ = some (.int .i64 x0.s.w) := cell_ext (cell_ext xc1 _ hE)
              have x2' : ∀ W, Ext u2 W → W.cell? ⟨b, off + 2, none⟩ = some (.int .i64 x0.s.c) := cell_ext (cell_ext xc2 _ hE)
              repeat (first | (refine wpP_pure rfl (by rfl) (fun W hW => by go_simp; with_reducible rfl) ?_; simp only [Act.put, List.setIfInBounds_toArray, List.set_cons_zero, List.set_cons_succ]) | (refine wpP_skip rfl (by rfl) ?_; simp only [Act.put, List.setIfInBounds_toArray, List.set_cons_zero, List.set_cons_succ]))
              refine ⟨?_, fun W hR => ?_⟩
              · clear nc0 nc1 nc2 nc3 nc4 nc5 nc6 nc7 nc8 nc9 nc10 nc11 nc12 nc13 x0' x1' x2'
                simp only [rSteps, rNeed, rStep, both_top, tie, TP.top, TP.mine, MP.top, MP.mine, MT.mine, MT.tied, MT.done, MT.is, List.reverse_cons, List.reverse_nil, List.nil_append, List.cons_append, ME.is, MP.is, MP.done, ME.ints, ME.row, Region.wanted, yielded, List.getElem?_toArray, phi, dstAt, List.getElem?_cons_zero, List.getElem?_cons_succ, Option.bind_some, Act.put, List.setIfInBounds_toArray, List.set_cons_zero, List.set_cons_succ, and_true, forall_eq, reduceIte, Nat.reduceEqDiff, beq_iff_eq, Option.some.injEq, Bool.false_eq_true, reduceCtorEq, implies_true, true_and]
                refine ⟨fun W hR => ?_, fun W hR => ?_, fun W hR => ?_, fun W hR => ?_, fun W hR => ?_, fun W hR => ?_⟩
                · go_simp
                  refine (hwb W).mono ?_
                  rintro e w' ⟨rfl, h1⟩
                  exact ⟨_, rfl, h1, rfl⟩
                all_goals (go_simp; exact ⟨_, rfl, Ext.refl _, rfl⟩)
              · clear nc0 nc1 nc2 nc3 nc4 nc5 nc6 nc7 nc8 nc9 nc10 nc11 nc12 nc13 x0' x1' x2'
                simp only [rFin, envAt, TP.top, TP.mine, MP.top, MP.mine, MT.mine, MT.tied, MT.done, MT.is, List.map_cons, List.map_nil, true_implies, List.head?_cons, ME.is, MP.is, MP.done, ME.ints, ME.row, phi, dstAt, List.getElem?_cons_zero, List.getElem?_cons_succ, Option.bind_some, Act.put, List.setIfInBounds_toArray, List.set_cons_zero, List.set_cons_succ, and_true, forall_eq, reduceIte, Nat.reduceEqDiff, beq_iff_eq, Option.some.injEq, Bool.false_eq_true, reduceCtorEq, implies_true, true_and]
                have hEE := hE.trans hR
                replace I3 := I3.ext hEE
                replace hb8 := hb8.ext hEE
                clear hE hR hwb
                have nc12 : W.cell? ⟨w.heap.size, 12, none⟩ = some (.slice AW n.ws.length cW) := by rw [← HWE.out]; exact I3.hn.cell 12
                obtain ⟨AB, cB, hbe, hbl, hbm, _⟩ := I3.hb.form
                unfold maxLen at hbm
                have nc13 : W.cell? ⟨w.heap.size, 13, none⟩ = some (.slice AB n.bs.length cB) := by rw [← hbe]; exact I3.hn.cell 13
                have HBE := Lib.hid hbe
                clear hbe
                by_cases h1 : (n.ws.length : Int) = wz.1
                case neg =>
                  have t1 : ((n.ws.length : Int) != wz.1) = true := by simp [h1]
                  have HV : Hid (R = (⟨⟨0, 0, 0⟩, 0⟩, 12)) := by show _ = _; rw [HV1.out, if_pos (Or.inl (Or.inl h1))]
                  clear h1 HV1
                  have hx := ext_setRow I3.he #[.int .i64 0, .int .i64 0, .int .i64 0, .int .i64 0] (show w.heap.size ≤ w.heap.size + 1 by omega)
                  have hr := I3.hr
                  go_wp2_with (refine wpList_store_row rfl 44 _ _ rfl (w.heap.size + 1) #[.int .i64 0, .int .i64 0, .int .i64 0, .int .i64 0] rfl rfl 44 _ hr (by kernel_rfl) rfl (by simp [Value.oneCell']) ?_)
                  refine bodyPost_ret (v := .tuple #[.agg _, .int .i64 12]) (results_cell_tmp Try.results59 _ _ (w.heap.size + 1) 44 _ (0, 0) _ rfl (setRow_heap _ _ _ _ _ _ hr) (by kernel_rfl : Try.prog.underlying 44 = some (.struct (Try.prog.fieldsOf 44))) rfl (by kernel_rfl)) rfl ?_
                  exact HP.out _ _ ⟨by rw [HV.out], hx⟩
                by_cases h2 : (n.bs.length : Int) = wz.2
                case neg =>
                  have t1 : ((n.ws.length : Int) != wz.1) = false := by simp [h1]
                  have t2 : ((n.bs.length : Int) != wz.2) = true := by simp [h2]
                  have HV : Hid (R = (⟨⟨0, 0, 0⟩, 0⟩, 12)) := by show _ = _; rw [HV1.out, if_pos (Or.inl (Or.inr h2))]
                  clear h1 h2 HV1
                  have hx := ext_setRow I3.he #[.int .i64 0, .int .i64 0, .int .i64 0, .int .i64 0] (show w.heap.size ≤ w.heap.size + 1 by omega)
                  have hr := I3.hr
                  go_wp2_with (refine wpList_store_row rfl 44 _ _ rfl (w.heap.size + 1) #[.int .i64 0, .int .i64 0, .int .i64 0, .int .i64 0] rfl rfl 44 _ hr (by kernel_rfl) rfl (by simp [Value.oneCell']) ?_)
                  refine bodyPost_ret (v := .tuple #[.agg _, .int .i64 12]) (results_cell_tmp Try.results59 _ _ (w.heap.size + 1) 44 _ (0, 0) _ rfl (setRow_heap _ _ _ _ _ _ hr) (by kernel_rfl : Try.prog.underlying 44 = some (.struct (Try.prog.fieldsOf 44))) rfl (by kernel_rfl)) rfl ?_
                  exact HP.out _ _ ⟨by rw [HV.out], hx⟩
                have t1 : ((n.ws.length : Int) != wz.1) = false := by simp [h1]
                have t2 : ((n.bs.length : Int) != wz.2) = false := by simp [h2]
                have HV2 : Hid (R = if (n.bs.any fun x => !inB (-16777216) 16777216 x) = true then (⟨⟨0, 0, 0⟩, 0⟩, 12) else (⟨mz, n.zero⟩, 0)) := by
                  show _ = _
                  rw [HV1.out]
                  simp only [h1, h2, ne_eq, not_true, false_or]
                clear h1 h2 HV1
                go_wp2_with fail
                clear t1 t2 nc12 nc13
                go_loopw [11] (fun i wr => ∃ k : Nat, k ≤ n.bs.length ∧ i = .int .i64 k ∧ Hid ((n.bs.take k).any (fun x => !inB (-16777216) 16777216 x) = false) ∧ VI w n (.slice (some ⟨b, off, none⟩) l.length c) l wr ∧ Blk wr B8 #[.int .i64 mz.h, .int .i64 mz.w, .int .i64 mz.c] 42) (fun i _ => n.bs.length - (intOf i).toNat)
                case atStart => exact ⟨0, by omega, rfl, rfl, I3, hb8⟩
                case round =>
                  clear I3 hb8
                  obtain ⟨k, hk, rfl, hpre, I4, hb9⟩ := hrel
                  have nc13 : wr.cell? ⟨w.heap.size, 13, none⟩ = some (.slice AB n.bs.length cB) := by rw [← HBE.out]; exact I4.hn.cell 13
                  by_cases hlt : k < n.bs.length
                  · obtain ⟨_, _, eA, _, _, hcb⟩ := I4.hb.form
                    rw [HBE.out] at eA
                    cases eA
                    obtain ⟨b2, off2, rfl, z0⟩ := hcb k hlt
                    have hs : n.bs[k]?.getD 0 = n.bs[k] := by simp [hlt]
                    rw [hs] at z0
                    have hzk := hbk _ (List.getElem_mem hlt)
                    have HT : Hid (inB (-16777216) 16777216 n.bs[k] = false → (n.bs.any fun x => !inB (-16777216) 16777216 x) = true) := fun h => List.any_eq_true.2 ⟨_, List.getElem_mem hlt, by rw [h]; rfl⟩
                    have HF : Hid (inB (-16777216) 16777216 n.bs[k] = true → (n.bs.take (k + 1)).any (fun x => !inB (-16777216) 16777216 x) = false) := by
                      show _ → _
                      intro h
                      rw [List.take_succ_eq_append_getElem hlt, List.any_append, hpre.out]
                      simp [h]
                    generalize n.bs[k] = z at *
                    clear hs hcb hpre
                    obtain ⟨z1, z2⟩ := hzk
                    have hin := rin_calls z (-16777216) 16777216 wr
                    cases hq : inB (-16777216) 16777216 z with
                    | false =>
                      have HT1 := Lib.hid (HT.out hq)
                      have HV : Hid (R = (⟨⟨0, 0, 0⟩, 0⟩, 12)) := by show _ = _; rw [HV2.out, if_pos HT1.out]
                      rw [hq] at hin
                      clear hq HT HF
                      have hx := ext_setRow I4.he #[.int .i64 0, .int .i64 0, .int .i64 0, .int .i64 0] (show w.heap.size ≤ w.heap.size + 1 by omega)
                      have hr := I4.hr
                      go_wp2_with (first | (go_at_call 58; refine hin.mono ?_; rintro e w' ⟨rfl, rfl⟩) | (refine wpList_store_row rfl 44 _ _ rfl (w.heap.size + 1) #[.int .i64 0, .int .i64 0, .int .i64 0, .int .i64 0] rfl rfl 44 _ hr (by kernel_rfl) rfl (by simp [Value.oneCell']) ?_))
                      refine bodyPost_ret (v := .tuple #[.agg _, .int .i64 12]) (results_cell_tmp Try.results59 _ _ (w.heap.size + 1) 44 _ (0, 0) _ rfl (setRow_heap _ _ _ _ _ _ hr) (by kernel_rfl : Try.prog.underlying 44 = some (.struct (Try.prog.fieldsOf 44))) rfl (by kernel_rfl)) rfl ?_
                      exact HP.out _ _ ⟨by rw [HV.out], hx⟩
                    | true =>
                      have HF1 := Lib.hid (HF.out hq)
                      rw [hq] at hin
                      clear hq HT HF
                      go_wp2_with (go_at_call 58; refine hin.mono ?_; rintro e w' ⟨rfl, rfl⟩)
                      go_roundw
                      case rel => exact ⟨k + 1, by omega, by go_num, HF1, I4, hb9⟩
                      case measure => simp [intOf]; omega
                  · have hkk : k = n.bs.length := by omega
                    have HV : Hid (R = (⟨mz, n.zero⟩, 0)) := by
                      show _ = _
                      have := hpre.out
                      rw [hkk, List.take_length] at this
                      rw [HV2.out, if_neg (by rw [this]; simp)]
                    clear hpre hkk HV2
                    have nc8 : wr.cell? ⟨w.heap.size, 8, none⟩ = some (.int .i64 n.zero) := I4.hn.cell 8
                    have sc0 : wr.cell? ⟨B8, 0, none⟩ = some (.int .i64 mz.h) := hb9.cell 0
                    have sc1 : wr.cell? ⟨B8, 1, none⟩ = some (.int .i64 mz.w) := hb9.cell 1
                    have sc2 : wr.cell? ⟨B8, 2, none⟩ = some (.int .i64 mz.c) := hb9.cell 2
                    have hx := ext_setRow I4.he #[.int .i64 mz.h, .int .i64 mz.w, .int .i64 mz.c, .int .i64 n.zero] (show w.heap.size ≤ w.heap.size + 1 by omega)
                    have hr := I4.hr
                    go_wp2_with (refine wpList_store_row rfl 44 _ _ rfl (w.heap.size + 1) #[.int .i64 mz.h, .int .i64 mz.w, .int .i64 mz.c, .int .i64 n.zero] rfl rfl 44 _ hr (by kernel_rfl) rfl (by simp [Value.oneCell']) ?_)
                    refine bodyPost_ret (v := .tuple #[.agg _, .int .i64 0]) (results_cell_tmp Try.results59 _ _ (w.heap.size + 1) 44 _ (0, 0) _ rfl (setRow_heap _ _ _ _ _ _ hr) (by kernel_rfl : Try.prog.underlying 44 = some (.struct (Try.prog.fieldsOf 44))) rfl (by kernel_rfl)) rfl ?_
                    exact HP.out _ _ ⟨by rw [HV.out], hx⟩

end Go.Proofs.Ytmddlhfahfelpaa
