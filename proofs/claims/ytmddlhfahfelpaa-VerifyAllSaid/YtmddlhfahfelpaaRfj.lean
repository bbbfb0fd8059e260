/- The walk of the reference of graph.Values. -/
import Derived.Test.YtmddlhfahfelpaaRfi
import Derived.Test.YtmddlhfahfelpaaGrk
set_option linter.unusedSimpArgs false
set_option linter.unusedVariables false
set_option linter.unnecessarySimpa false
namespace Go.Proofs.Ytmddlhfahfelpaa
open Go.RowKit

/-- One value more in a row of the call's own. -/
theorem OwnV.more {w0 W : World} {v' : Value} {l : List Vl} {x : Vl} (h : W.ownsRow w0.heap.size 44 4 v' (l.length + 1) (l.flatMap Vl.cs ++ x.cs)) : OwnV w0 W v' (l ++ [x]) := by
  unfold OwnV
  rw [List.length_append, List.flatMap_append]
  simpa using h
theorem OwnV.empty (w : World) : OwnV w (w.alloc (.cells #[] 44)) (.slice (some ⟨w.heap.size, 0, none⟩) 0 0) [] := World.ownsRow_made (base := w.heap.size) (e := 44) (size := 4) w #[] 0 (Nat.le_refl _) (Nat.zero_le _) (by simp)

set_option maxRecDepth 8000 in
set_option maxHeartbeats 12800000 in
theorem rvalues_calls (g : Gr) (w : World) (hg : GrAt w g) :
    Calls Try.prog 42 #[.agg #[g.iV, g.nV, g.oV]] w (ValsPost (valuesR g) w) := by
  obtain ⟨R, hR⟩ : ∃ R, valuesR g = R := ⟨_, rfl⟩
  have HR : Hid (valuesR g = R) := hR
  rw [hR]
  clear hR
  have HP : Hid (∀ e w', ((R.2 = 0 → ∃ v, e = .returned (.tuple #[v, .int .i64 0]) ∧ OwnV w w' v R.1) ∧ (R.2 ≠ 0 → e = .returned (.tuple #[.slice none 0 0, .int .i64 R.2])) ∧ Ext w w') → ValsPost R w e w') := fun e w' h => h
  have HE : Hid (∀ e w' z, R.2 = z → z ≠ 0 → e = .returned (.tuple #[.slice none 0 0, .int .i64 z]) → Ext w w' → ValsPost R w e w') := fun e w' z h1 h2 h3 h4 => HP.out e w' ⟨(fun h => absurd (h1.symm.trans h) h2), (fun _ => by rw [h1]; exact h3), h4⟩
  generalize ValsPost R w = PP at *
  have HRV : Hid (R = if goesInR g ≠ 0 then ([], goesInR g) else
    if (goNodes g.nodes g.ins 0).2 ≠ 0 then ([], (goNodes g.nodes g.ins 0).2) else
    if 4096 < (goNodes g.nodes g.ins 0).1.2 then ([], 3) else
    if g.outs.all (okI (goNodes g.nodes g.ins 0).1.1) = false then ([], 13) else
    ((goNodes g.nodes g.ins 0).1.1, 0)) := by show _ = _; rw [← HR.out]; rfl
  have HGE : Hid (∀ z, goesInR g = z → z ≠ 0 → R.2 = z) := fun z h1 h2 => by rw [HRV.out, h1, if_pos h2]
  have HG0 : Hid (goesInR g = if 4 < g.ins.length ∨ 12 < g.nodes.length ∨ 4 < g.outs.length then 3 else if g.ins.length = 0 ∨ g.outs.length = 0 then 13 else goesInR.insR g.ins) := rfl
  clear HR
  have HG := Lib.hid hg
  obtain ⟨hi, hn, ho, hea, hil, hnl, hol⟩ := hg
  obtain ⟨An, cn, en, hn1, hn2, _⟩ := id (SRow.form hn (fun _ => rfl) (by omega))
  obtain ⟨Ao, co, eo, ho1, ho2, _⟩ := id ho.form
  obtain ⟨Ai, ci, ei, hi1, hi2, _⟩ := id hi.form
  unfold maxLen at hi2 hn2 ho2
  have EN := Lib.hid en
  have EO := Lib.hid eo
  have EI := Lib.hid ei
  clear en eo ei hea
  have hw1 := ext_alloc w (.cells #[g.iV, g.nV, g.oV] 26)
  have hbx := Blk.new w #[g.iV, g.nV, g.oV] 26
  have hlow : ∀ (W : World) (v : Value) (l : List Vl), OwnV (w.alloc (.cells #[g.iV, g.nV, g.oV] 26)) W v l → OwnV w W v l := fun _ _ _ h => by
    refine ⟨h.1, ?_⟩
    rcases h.2 with h | ⟨b, cap, cur, h3, h4, h5⟩
    · exact .inl h
    · exact .inr ⟨b, cap, cur, h3, Nat.le_trans hw1.size h4, h5⟩
  have hLOW := Lib.hid hlow
  clear hlow
  go_enter Try.func42, Try.ntmps42
  go_upto_region 1 with fail
  generalize w.alloc _ = w1 at *
  have g0 : w1.cell? ⟨w.heap.size, 0, none⟩ = some (.slice Ai g.ins.length ci) := by rw [← EI.out]; exact hbx.cell 0
  have g1 : w1.cell? ⟨w.heap.size, 1, none⟩ = some (.slice An g.nodes.length cn) := by rw [← EN.out]; exact hbx.cell 1
  have g2 : w1.cell? ⟨w.heap.size, 2, none⟩ = some (.slice Ao g.outs.length co) := by rw [← EO.out]; exact hbx.cell 2
  by_cases h1 : 4 < g.ins.length
  · have HV := Lib.hid (HGE.out 3 (by rw [HG0.out, if_pos (Or.inl h1)]) (by decide))
    go_wp2_with fail
    exact HE.out _ _ 3 HV.out (by decide) rfl hw1
  by_cases h2 : 12 < g.nodes.length
  · have HV := Lib.hid (HGE.out 3 (by rw [HG0.out, if_pos (Or.inr (Or.inl h2))]) (by decide))
    go_wp2_with fail
    exact HE.out _ _ 3 HV.out (by decide) rfl hw1
  by_cases h3 : 4 < g.outs.length
  · have HV := Lib.hid (HGE.out 3 (by rw [HG0.out, if_pos (Or.inr (Or.inr h3))]) (by decide))
    go_wp2_with fail
    exact HE.out _ _ 3 HV.out (by decide) rfl hw1
  have HG1 : Hid (goesInR g = if g.ins.length = 0 ∨ g.outs.length = 0 then 13 else goesInR.insR g.ins) := by show _ = _; rw [HG0.out, if_neg (by omega)]
  clear HG0
  by_cases h4 : g.ins.length = 0
  · have HV := Lib.hid (HGE.out 13 (by rw [HG1.out, if_pos (Or.inl h4)]) (by decide))
    have t4 : ((g.ins.length : Int) == 0) = true := by simp [h4]
    clear h4
    go_wp2_with fail
    exact HE.out _ _ 13 HV.out (by decide) rfl hw1
  by_cases h5 : g.outs.length = 0
  · have HV := Lib.hid (HGE.out 13 (by rw [HG1.out, if_pos (Or.inr h5)]) (by decide))
    have t4 : ((g.ins.length : Int) == 0) = false := by rw [beq_eq_false_iff_ne]; omega
    have t5 : ((g.outs.length : Int) == 0) = true := by simp [h5]
    clear h5
    go_wp2_with fail
    exact HE.out _ _ 13 HV.out (by decide) rfl hw1
  have HG2 : Hid (goesInR g = goesInR.insR g.ins) := by show _ = _; rw [HG1.out, if_neg (by omega)]
  clear HG1
  have t4 : ((g.ins.length : Int) == 0) = false := by rw [beq_eq_false_iff_ne]; omega
  have t5 : ((g.outs.length : Int) == 0) = false := by rw [beq_eq_false_iff_ne]; omega
  have hown0 := OwnV.empty w1
  have hE0 := ext_alloc w1 (.cells #[] 44)
  go_upto_block 0 with fail
  clear t4 t5 g0 g1 g2 h4 h5
  generalize hw2 : w1.alloc (.cells #[] 44) = w2 at *
  clear hw2
  go_wp2_with fail
  go_loopw [4, 5] (fun v i wr => ∃ k : Nat, k ≤ g.ins.length ∧ i = .int .i64 k ∧ Hid (∀ j, j < k → ∀ v, g.ins[j]? = some v → v.s.ok = true ∧ inB (-128) 127 v.z = true) ∧ OwnV w1 wr v (g.ins.take k) ∧ Ext w1 wr) (fun _ i _ => g.ins.length - (intOf i).toNat)
  case atStart => exact ⟨0, by omega, rfl, (fun j h => by omega), hown0, hE0⟩
  case round =>
    clear hown0 hE0
    obtain ⟨k, hk, rfl, hgood, hown, hE⟩ := hrel
    have g0 : wr.cell? ⟨w.heap.size, 0, none⟩ = some (.slice Ai g.ins.length ci) := by rw [← EI.out]; exact (hbx.ext hE).cell 0
    by_cases hlt : k < g.ins.length
    · obtain ⟨_, _, eA, _, _, hcc⟩ := (hi.ext (hw1.trans hE)).form
      rw [EI.out] at eA
      cases eA
      have hs : g.ins[k]? = some g.ins[k] := by simp [hlt]
      obtain ⟨b, off, rfl, hbl, hc⟩ := hcc k _ hs
      have HD : Hid (goesInR.insR g.ins = goesInR.insR (g.ins[k] :: g.ins.drop (k + 1))) := by
        show _ = _
        rw [insR_take hgood.out, ← List.drop_eq_getElem_cons hlt]
      have HN : Hid (g.ins[k].s.ok = true → inB (-128) 127 g.ins[k].z = true → ∀ j, j < k + 1 → ∀ v, g.ins[j]? = some v → v.s.ok = true ∧ inB (-128) 127 v.z = true) := by
        intro q1 q2 j hj v hv
        by_cases hjk : j = k
        · subst hjk
          rw [hs] at hv
          cases hv
          exact ⟨q1, q2⟩
        · exact hgood.out j (by omega) v hv
      have HTK : Hid (g.ins.take (k + 1) = g.ins.take k ++ [g.ins[k]]) := List.take_succ_eq_append_getElem hlt
      have hlen : (g.ins.take k).length = k := by simp; omega
      have HLEN := Lib.hid hlen
      clear hlen
      generalize g.ins[k] = y at *
      have c0 : wr.cell? ⟨b, off + k * 4, none⟩ = some (.int .i64 y.s.h) := hc 0 _ rfl
      have c1 : wr.cell? ⟨b, off + k * 4 + 1, none⟩ = some (.int .i64 y.s.w) := hc 1 _ rfl
      have c2 : wr.cell? ⟨b, off + k * 4 + 2, none⟩ = some (.int .i64 y.s.c) := hc 2 _ rfl
      have c3 : wr.cell? ⟨b, off + k * 4 + 3, none⟩ = some (.int .i64 y.z) := hc 3 _ rfl
      clear hc hcc hs hgood
      have hsm := rMay_calls y.s wr
      have HIN := fun W => rin_calls y.z (-128) 127 W
      obtain ⟨q1, hq1⟩ : ∃ q, y.s.ok = q := ⟨_, rfl⟩
      obtain ⟨q2, hq2⟩ : ∃ q, inB (-128) 127 y.z = q := ⟨_, rfl⟩
      rw [hq1] at hsm
      rw [hq2] at HIN
      have HQ1 := Lib.hid hq1
      have HQ2 := Lib.hid hq2
      clear hq1 hq2
      go_wp2_with fail
      refine hsm.mono ?_
      rintro e w3 ⟨rfl, h3⟩
      clear hsm
      cases q1 with
      | false =>
        have HV := Lib.hid (HGE.out 10 (by rw [HG2.out, HD.out, goesInR.insR, if_pos HQ1.out]) (by decide))
        go_wp2_with fail
        exact HE.out _ _ 10 HV.out (by decide) rfl (hw1.trans (hE.trans h3))
      | true =>
        have d0 := cell_ext c0 _ h3
        have d1 := cell_ext c1 _ h3
        have d2 := cell_ext c2 _ h3
        have d3 := cell_ext c3 _ h3
        have e0 := cell_ext g0 _ h3
        cases q2 with
        | false =>
          have HV := Lib.hid (HGE.out 11 (by rw [HG2.out, HD.out, goesInR.insR, if_neg (by rw [HQ1.out]; simp), if_pos HQ2.out]) (by decide))
          go_wp2_with (go_at_call 58; refine (HIN _).mono ?_; rintro e w' ⟨rfl, rfl⟩)
          exact HE.out _ _ 11 HV.out (by decide) rfl (hw1.trans (hE.trans h3))
        | true =>
          have HN1 := Lib.hid (HN.out HQ1.out HQ2.out)
          have hE4 := ext_alloc w3 (.cells #[.int .i64 y.s.h, .int .i64 y.s.w, .int .i64 y.s.c, .int .i64 y.z] 44)
          have hnew : Row (w3.alloc (.cells #[.int .i64 y.s.h, .int .i64 y.s.w, .int .i64 y.s.c, .int .i64 y.z] 44)) (.slice (some ⟨w3.heap.size, 0, none⟩) 1 1) 1 4 y.cs := row_new w3 _ 44 1 4 rfl (by unfold maxLen; omega)
          have hown4 := (hown.ext h3).ext hE4
          unfold OwnV at hown4
          rw [HLEN.out] at hown4
          have hk1 : k + 1 ≤ 140737488355328 := by omega
          have hk2 : (k + 1) * 32 ≤ 140737488355328 := by omega
          have hE5 := (hE.trans h3).trans hE4
          clear HD HN HQ1 HQ2 c0 c1 c2 c3 g0
          go_upto_region 13 with (go_at_call 58; refine (HIN _).mono ?_; rintro e w' ⟨rfl, rfl⟩)
          go_wp2_with (at_builtin; refine wpList_append_row rfl rfl elem_vl hown4 rfl hnew rfl (vl_one y) hk1 hk2 hE5.size ?_; intro v5 w5 hown5 hg5 _)
          have hE6 : Ext w1 w5 := Below.grown hE5 hg5 hE5.size (fun q hq => (hown4.lt q hq).1)
          have hown6 : OwnV w1 w5 v5 (g.ins.take (k + 1)) := by
            rw [HTK.out]
            refine OwnV.more ?_
            rw [HLEN.out]
            exact hown5
          clear hown4 hown5 hg5 hnew d0 d1 d2 d3 e0
          go_roundw
          case rel => exact ⟨k + 1, by omega, by go_num, HN1, hown6, hE6⟩
          case measure => simp [intOf]; omega
    · have hkk : k = g.ins.length := by omega
      have HGZ : Hid (goesInR g = 0) := by
        show _ = _
        have := insR_take hgood.out
        rw [HG2.out, this, hkk, List.drop_length]
        rfl
      have HR1 : Hid (R = if (goNodes g.nodes g.ins 0).2 ≠ 0 then ([], (goNodes g.nodes g.ins 0).2) else
        if 4096 < (goNodes g.nodes g.ins 0).1.2 then ([], 3) else
        if g.outs.all (okI (goNodes g.nodes g.ins 0).1.1) = false then ([], 13) else
        ((goNodes g.nodes g.ins 0).1.1, 0)) := by show _ = _; rw [HRV.out, if_neg (by rw [HGZ.out]; simp)]
      have hown2 : OwnV w1 wr u4 g.ins := by rw [hkk, List.take_length] at hown; exact hown
      clear HGE HG2 HGZ HRV hgood hown hkk hk
      go_upto_block 2 with fail
      clear g0 hlt
      go_wp2_with fail
      go_loopw [4, 6, 7] (fun v wt i wr => ∃ (k : Nat) (vals : List Vl) (t : Nat), k ≤ g.nodes.length ∧ i = .int .i64 k ∧ wt = .int .i64 t ∧ t ≤ 70000 * k ∧ vals.length ≤ 255 + k ∧ Hid (goNodes g.nodes g.ins 0 = goNodes (g.nodes.drop k) vals t) ∧ OwnV w1 wr v vals ∧ Ext w1 wr) (fun _ _ i _ => g.nodes.length - (intOf i).toNat)
      case atStart => exact ⟨0, g.ins, 0, by omega, rfl, rfl, by omega, by omega, rfl, hown2, hE⟩
      case round =>
        clear hown2 hE
        obtain ⟨k, vals, t, hk, rfl, rfl, ht, hvl, hgo, hown, hE⟩ := hrel
        have g1 : wr.cell? ⟨w.heap.size, 1, none⟩ = some (.slice An g.nodes.length cn) := by rw [← EN.out]; exact (hbx.ext hE).cell 1
        obtain ⟨A4, c4, e4, h41, h42, _⟩ := hown.vls.form
        subst e4
        unfold maxLen at h42
        by_cases hlt : k < g.nodes.length
        · obtain ⟨A', c', eA, _, _, hcc⟩ := SRow.form (HG.out.ext (hw1.trans hE)).nodes (fun _ => rfl) (by omega)
          rw [EN.out] at eA
          cases eA
          have hs : g.nodes[k]? = some g.nodes[k] := by simp [hlt]
          obtain ⟨b, off, rfl, hbl, hc⟩ := hcc k _ hs
          have hmem := List.getElem_mem hlt
          have HD : Hid (goNodes g.nodes g.ins 0 = goNodes (g.nodes[k] :: g.nodes.drop (k + 1)) vals t) := by
            show _ = _
            rw [hgo.out, ← List.drop_eq_getElem_cons hlt]
          have hnode := (HG.out.ext (hw1.trans hE)).each _ hmem
          generalize g.nodes[k] = n at *
          have nc0 : World.cell? wr ⟨b, off + k * 14, none⟩ = some (.int .i64 n.op) := hc 0 _ rfl
          have nc1 : World.cell? wr ⟨b, off + k * 14 + 1, none⟩ = some (n.inV) := hc 1 _ rfl
          have nc2 : World.cell? wr ⟨b, off + k * 14 + 2, none⟩ = some (.int .i64 n.k) := hc 2 _ rfl
          have nc3 : World.cell? wr ⟨b, off + k * 14 + 3, none⟩ = some (.int .i64 n.st) := hc 3 _ rfl
          have nc4 : World.cell? wr ⟨b, off + k * 14 + 4, none⟩ = some (.int .i64 n.pad) := hc 4 _ rfl
          have nc5 : World.cell? wr ⟨b, off + k * 14 + 5, none⟩ = some (.int .i64 n.out) := hc 5 _ rfl
          have nc6 : World.cell? wr ⟨b, off + k * 14 + 6, none⟩ = some (.int .i64 n.mul) := hc 6 _ rfl
          have nc7 : World.cell? wr ⟨b, off + k * 14 + 7, none⟩ = some (.int .i64 n.sh) := hc 7 _ rfl
          have nc8 : World.cell? wr ⟨b, off + k * 14 + 8, none⟩ = some (.int .i64 n.zero) := hc 8 _ rfl
          have nc9 : World.cell? wr ⟨b, off + k * 14 + 9, none⟩ = some (.int .i64 n.th) := hc 9 _ rfl
          have nc10 : World.cell? wr ⟨b, off + k * 14 + 10, none⟩ = some (.int .i64 n.tw) := hc 10 _ rfl
          have nc11 : World.cell? wr ⟨b, off + k * 14 + 11, none⟩ = some (.int .i64 n.tc) := hc 11 _ rfl
          have nc12 : World.cell? wr ⟨b, off + k * 14 + 12, none⟩ = some (n.wV) := hc 12 _ rfl
          have nc13 : World.cell? wr ⟨b, off + k * 14 + 13, none⟩ = some (n.bV) := hc 13 _ rfl
          clear hc hcc hs hmem hgo
          have hz := Blk.new wr #[.int .i64 0, .slice none 0 0, .int .i64 0, .int .i64 0, .int .i64 0, .int .i64 0, .int .i64 0, .int .i64 0, .int .i64 0, .int .i64 0, .int .i64 0, .int .i64 0, .slice none 0 0, .slice none 0 0] 51
          have hE4 : Ext wr ((wr.alloc (.cells #[.int .i64 0, .slice none 0 0, .int .i64 0, .int .i64 0, .int .i64 0, .int .i64 0, .int .i64 0, .int .i64 0, .int .i64 0, .int .i64 0, .int .i64 0, .int .i64 0, .slice none 0 0, .slice none 0 0] 51)).setRow wr.heap.size #[.int .i64 n.op, n.inV, .int .i64 n.k, .int .i64 n.st, .int .i64 n.pad, .int .i64 n.out, .int .i64 n.mul, .int .i64 n.sh, .int .i64 n.zero, .int .i64 n.th, .int .i64 n.tw, .int .i64 n.tc, n.wV, n.bV]) := ext_setRow (ext_alloc _ _) _ (Nat.le_refl _)
          have hnb : Blk ((wr.alloc (.cells #[.int .i64 0, .slice none 0 0, .int .i64 0, .int .i64 0, .int .i64 0, .int .i64 0, .int .i64 0, .int .i64 0, .int .i64 0, .int .i64 0, .int .i64 0, .int .i64 0, .slice none 0 0, .slice none 0 0] 51)).setRow wr.heap.size #[.int .i64 n.op, n.inV, .int .i64 n.k, .int .i64 n.st, .int .i64 n.pad, .int .i64 n.out, .int .i64 n.mul, .int .i64 n.sh, .int .i64 n.zero, .int .i64 n.th, .int .i64 n.tw, .int .i64 n.tc, n.wV, n.bV]) wr.heap.size #[.int .i64 n.op, n.inV, .int .i64 n.k, .int .i64 n.st, .int .i64 n.pad, .int .i64 n.out, .int .i64 n.mul, .int .i64 n.sh, .int .i64 n.zero, .int .i64 n.th, .int .i64 n.tw, .int .i64 n.tc, n.wV, n.bV] 51 := setRow_heap _ _ _ _ _ _ hz
          obtain ⟨hn1', hn2', hn3', hn4', hn5', hn6', hn7', hn8'⟩ := hnode
          have hone : Array.all #[.int .i64 n.op, n.inV, .int .i64 n.k, .int .i64 n.st, .int .i64 n.pad, .int .i64 n.out, .int .i64 n.mul, .int .i64 n.sh, .int .i64 n.zero, .int .i64 n.th, .int .i64 n.tw, .int .i64 n.tc, n.wV, n.bV] (·.oneCell') = true := by
            obtain ⟨_, _, e1, _⟩ := hn1'.form
            obtain ⟨_, _, e2, _⟩ := hn2'.form
            obtain ⟨_, _, e3, _⟩ := hn3'.form
            rw [e1, e2, e3]
            simp [Value.oneCell']
          have HO := Lib.hid hone
          clear hone
          go_upto_block 4 with (refine wpList_store_row rfl 51 _ _ rfl wr.heap.size #[.int .i64 n.op, n.inV, .int .i64 n.k, .int .i64 n.st, .int .i64 n.pad, .int .i64 n.out, .int .i64 n.mul, .int .i64 n.sh, .int .i64 n.zero, .int .i64 n.th, .int .i64 n.tw, .int .i64 n.tc, n.wV, n.bV] rfl rfl 51 _ hz (by kernel_rfl) rfl HO.out ?_)
          clear nc0 nc1 nc2 nc3 nc4 nc5 nc6 nc7 nc8 nc9 nc10 nc11 nc12 nc13
          clear g1
          have hszB : (((wr.alloc (.cells #[.int .i64 0, .slice none 0 0, .int .i64 0, .int .i64 0, .int .i64 0, .int .i64 0, .int .i64 0, .int .i64 0, .int .i64 0, .int .i64 0, .int .i64 0, .int .i64 0, .slice none 0 0, .slice none 0 0] 51)).setRow wr.heap.size #[.int .i64 n.op, n.inV, .int .i64 n.k, .int .i64 n.st, .int .i64 n.pad, .int .i64 n.out, .int .i64 n.mul, .int .i64 n.sh, .int .i64 n.zero, .int .i64 n.th, .int .i64 n.tw, .int .i64 n.tc, n.wV, n.bV]) : World).heap.size = wr.heap.size + 1 := by simp
          generalize World.setRow (World.alloc wr _) _ _ = wB at *
          have hownP := OwnV.empty wB
          rw [hszB] at hownP
          have hEP := ext_alloc wB (.cells #[] 44)
          have hEB := hE.trans (hE4.trans hEP)
          have hownB := (hown.ext hE4).ext hEP
          have hnbB := hnb.ext hEP
          have hin1 := hn1'.ext hE4
          have hn3B := hn3'.ext hE4
          have hn2B := hn2'.ext hE4
          have hq8 : ∀ q, some q = (Value.slice A4 vals.length c4).ownBlock → q < wr.heap.size := fun q hq => (hown.lt q hq.symm).2
          have HQ8 := Lib.hid hq8
          have hB8 : wr.heap.size < wB.heap.size := hnb.lt
          have hwB1 : w1.heap.size ≤ wB.heap.size := (hE.trans hE4).size
          clear hq8 hown hz hnb
          generalize hwA : wB.alloc (.cells #[] 44) = wA at *
          clear hwA
          generalize hu8 : wr.heap.size = B8 at *
          obtain ⟨AI, cI, ei, hI1, hI2, _⟩ := id hin1.form
          unfold maxLen at hI2
          have EI2 := Lib.hid ei
          clear ei
          go_wp2_with fail
          go_loopw [9, 10] (fun v i wr2 => ∃ j : Nat, j ≤ n.ins.length ∧ i = .int .i64 j ∧ Hid ((n.ins.take j).all (okI vals) = true) ∧ OwnV wB wr2 v ((n.ins.take j).map (getV vals)) ∧ Ext wB wr2 ∧ OwnV w1 wr2 (.slice A4 vals.length c4) vals ∧ Blk wr2 B8 #[.int .i64 n.op, n.inV, .int .i64 n.k, .int .i64 n.st, .int .i64 n.pad, .int .i64 n.out, .int .i64 n.mul, .int .i64 n.sh, .int .i64 n.zero, .int .i64 n.th, .int .i64 n.tw, .int .i64 n.tc, n.wV, n.bV] 51 ∧ Ext w1 wr2) (fun _ i _ => n.ins.length - (intOf i).toNat)
          case atStart => exact ⟨0, by omega, rfl, rfl, hownP, hEP, hownB, hnbB, hEB⟩
          case round =>
            clear hownP hEP hownB hnbB hEB
            obtain ⟨j, hj, rfl, hokj, hownP, hEP, hownB, hnbB, hEB⟩ := hrel
            have n1 : World.cell? wr ⟨B8, 1, none⟩ = some (.slice AI n.ins.length cI) := by rw [← EI2.out]; exact hnbB.cell 1
            by_cases hlj : j < n.ins.length
            · obtain ⟨_, _, e1, _, _, hcl⟩ := (hin1.ext hEP).form
              rw [EI2.out] at e1
              cases e1
              obtain ⟨b2, off2, rfl, x0⟩ := hcl j hlj
              have hs : n.ins[j]?.getD 0 = n.ins[j] := by simp [hlj]
              rw [hs] at x0
              have HF : Hid (okI vals n.ins[j] = false → n.ins.all (okI vals) = false) := fun h => by
                rw [Bool.eq_false_iff]
                intro ha
                have := List.all_eq_true.1 ha _ (List.getElem_mem hlj)
                rw [h] at this; cases this
              have HT : Hid (okI vals n.ins[j] = true → (n.ins.take (j + 1)).all (okI vals) = true) := by
                show _ → _
                intro h
                rw [List.take_succ_eq_append_getElem hlj, List.all_append, hokj.out]
                simp [h]
              have HM : Hid ((n.ins.take (j + 1)).map (getV vals) = (n.ins.take j).map (getV vals) ++ [getV vals n.ins[j]]) := by
                show _ = _
                rw [List.take_succ_eq_append_getElem hlj, List.map_append]
                rfl
              have hlen : ((n.ins.take j).map (getV vals)).length = j := by simp; omega
              have HLEN := Lib.hid hlen
              clear hs hcl hlen
              obtain ⟨_, _, e1, _, _, hcv⟩ := hownB.vls.form
              cases e1
              generalize n.ins[j] = z at *
              have HIN := rin_calls z 0 ((vals.length : Int) - 1) wr
              rw [show inB 0 ((vals.length : Int) - 1) z = okI vals z from rfl] at HIN
              cases hq : okI vals z with
              | false =>
                have HF1 := Lib.hid (HF.out hq)
                rw [hq] at HIN
                clear HF HT hq
                have HV : Hid (R.2 = 13) := by
                  show _ = _
                  have : goNodes g.nodes g.ins 0 = (([], 0), 13) := by rw [HD.out, goNodes, if_pos HF1.out]
                  rw [HR1.out, this]
                  rfl
                go_wp2_with (go_at_call 58; refine HIN.mono ?_; rintro e w' ⟨rfl, rfl⟩)
                exact HE.out _ _ 13 HV.out (by decide) rfl (hw1.trans hEB)
              | true =>
                have HT1 := Lib.hid (HT.out hq)
                rw [hq] at HIN
                have hzr : 0 ≤ z ∧ z < vals.length := by
                  simp only [okI, inB, Bool.and_eq_true, decide_eq_true_eq] at hq
                  omega
                clear HF HT hq
                obtain ⟨jj, rfl⟩ := Int.eq_ofNat_of_zero_le hzr.1
                have hjj : jj < vals.length := by omega
                have hgv : vals[jj]? = some (getV vals jj) := by simp [getV, hjj]
                obtain ⟨b3, off3, rfl, _, hc3⟩ := hcv jj _ hgv
                generalize getV vals (jj : Int) = y at *
                have c0 : World.cell? wr ⟨b3, off3 + jj * 4, none⟩ = some (.int .i64 y.s.h) := hc3 0 _ rfl
                have c1 : World.cell? wr ⟨b3, off3 + jj * 4 + 1, none⟩ = some (.int .i64 y.s.w) := hc3 1 _ rfl
                have c2 : World.cell? wr ⟨b3, off3 + jj * 4 + 2, none⟩ = some (.int .i64 y.s.c) := hc3 2 _ rfl
                have c3 : World.cell? wr ⟨b3, off3 + jj * 4 + 3, none⟩ = some (.int .i64 y.z) := hc3 3 _ rfl
                clear hc3 hgv hcv hzr
                have hE6 := ext_alloc wr (.cells #[.int .i64 y.s.h, .int .i64 y.s.w, .int .i64 y.s.c, .int .i64 y.z] 44)
                have hnew : Row (wr.alloc (.cells #[.int .i64 y.s.h, .int .i64 y.s.w, .int .i64 y.s.c, .int .i64 y.z] 44)) (.slice (some ⟨wr.heap.size, 0, none⟩) 1 1) 1 4 y.cs := row_new wr _ 44 1 4 rfl (by unfold maxLen; omega)
                unfold OwnV at hownP
                rw [HLEN.out] at hownP
                have hown0 := hownP.alloc (.cells #[.int .i64 y.s.h, .int .i64 y.s.w, .int .i64 y.s.c, .int .i64 y.z] 44)
                have hk1 : j + 1 ≤ 140737488355328 := by omega
                have hk2 : (j + 1) * 32 ≤ 140737488355328 := by omega
                have hE7 := hEP.trans hE6
                go_upto_region 25 with (go_at_call 58; refine HIN.mono ?_; rintro e w' ⟨rfl, rfl⟩)
                go_wp2_with (at_builtin; refine wpList_append_row rfl rfl elem_vl hown0 rfl hnew rfl (vl_one y) hk1 hk2 hE7.size ?_; intro v5 w5 hown5 hg5 _)
                have hE8 : Ext wB w5 := Below.grown hE7 hg5 hE7.size (fun q hq => (hown0.lt q hq).1)
                have hown6 : OwnV wB w5 v5 ((n.ins.take (j + 1)).map (getV vals)) := by
                  rw [HM.out]
                  refine OwnV.more ?_
                  rw [HLEN.out]
                  exact hown5
                have hEw : Ext w1 w5 := Below.grown (hEB.trans hE6) hg5 (hEB.trans hE6).size (fun q hq => Nat.le_trans hwB1 (hown0.lt q hq).1)
                have hownB6 : OwnV w1 w5 (.slice (some ⟨b3, off3, none⟩) vals.length c4) vals := World.ownsRow.kept (hownB.ext hE6) hg5 (.inr fun e => by
                  have h1 := HQ8.out b3 (by rfl)
                  have h2 := (hown0.lt b3 (by rw [← e]; rfl)).1
                  omega)
                have hnb6 : Blk w5 B8 #[.int .i64 n.op, n.inV, .int .i64 n.k, .int .i64 n.st, .int .i64 n.pad, .int .i64 n.out, .int .i64 n.mul, .int .i64 n.sh, .int .i64 n.zero, .int .i64 n.th, .int .i64 n.tw, .int .i64 n.tc, n.wV, n.bV] 51 := (hnbB.ext hE6).grown hg5 (fun e => by
                  have h2 := (hown0.lt B8 e.symm).1
                  omega)
                clear hown0 hown5 hnew hownP hg5 c0 c1 c2 c3 HIN x0 n1
                go_roundw
                case rel => exact ⟨j + 1, by omega, by go_num, HT1, hown6, hE8, hownB6, hnb6, hEw⟩
                case measure => simp [intOf]; omega
            · have hjn : j = n.ins.length := by omega
              have HA : Hid (n.ins.all (okI vals) = true) := by
                show _ = _
                have := hokj.out
                rwa [hjn, List.take_length] at this
              have hpo : OwnV wB wr u9 (n.ins.map (getV vals)) := by rw [hjn, List.take_length] at hownP; exact hownP
              have HD2 : Hid (goNodes g.nodes g.ins 0 = if (valueR n (n.ins.map (getV vals))).2 ≠ 0 then (([], 0), (valueR n (n.ins.map (getV vals))).2) else goNodes (g.nodes.drop (k + 1)) (vals ++ [(valueR n (n.ins.map (getV vals))).1]) (t + n.ws.length)) := by
                show _ = _
                rw [HD.out, goNodes, if_neg (by rw [HA.out]; simp)]
              clear hokj hownP HD
              have hown0 := hownB
              have hwc : ∃ A c, n.wV = .slice A n.ws.length c ∧ n.ws.length ≤ c ∧ c ≤ maxLen := by obtain ⟨A, c, e, h1, h2, _⟩ := (hn2B.ext hEP).form; exact ⟨A, c, e, h1, h2⟩
              have hvc := rvalue_calls n u9 _ wr hpo.vls (hn3B.ext hEP) hn4' hwc
              obtain ⟨AW, cW, ew, hw1', hw2'⟩ := hwc
              unfold maxLen at hw2'
              have EW := Lib.hid ew
              obtain ⟨r, hr⟩ : ∃ r, valueR n (n.ins.map (getV vals)) = r := ⟨_, rfl⟩
              rw [hr] at hvc
              have HR2 := Lib.hid hr
              clear hr ew hpo hjn
              go_upto_region 26 with fail
              clear n1 hlj hj
              have nc0 : World.cell? wr ⟨B8, 0, none⟩ = some (.int .i64 n.op) := hnbB.cell 0
              have nc1 : World.cell? wr ⟨B8, 1, none⟩ = some (n.inV) := hnbB.cell 1
              have nc2 : World.cell? wr ⟨B8, 2, none⟩ = some (.int .i64 n.k) := hnbB.cell 2
              have nc3 : World.cell? wr ⟨B8, 3, none⟩ = some (.int .i64 n.st) := hnbB.cell 3
              have nc4 : World.cell? wr ⟨B8, 4, none⟩ = some (.int .i64 n.pad) := hnbB.cell 4
              have nc5 : World.cell? wr ⟨B8, 5, none⟩ = some (.int .i64 n.out) := hnbB.cell 5
              have nc6 : World.cell? wr ⟨B8, 6, none⟩ = some (.int .i64 n.mul) := hnbB.cell 6
              have nc7 : World.cell? wr ⟨B8, 7, none⟩ = some (.int .i64 n.sh) := hnbB.cell 7
              have nc8 : World.cell? wr ⟨B8, 8, none⟩ = some (.int .i64 n.zero) := hnbB.cell 8
              have nc9 : World.cell? wr ⟨B8, 9, none⟩ = some (.int .i64 n.th) := hnbB.cell 9
              have nc10 : World.cell? wr ⟨B8, 10, none⟩ = some (.int .i64 n.tw) := hnbB.cell 10
              have nc11 : World.cell? wr ⟨B8, 11, none⟩ = some (.int .i64 n.tc) := hnbB.cell 11
              have nc12 : World.cell? wr ⟨B8, 12, none⟩ = some (n.wV) := hnbB.cell 12
              have nc13 : World.cell? wr ⟨B8, 13, none⟩ = some (n.bV) := hnbB.cell 13
              go_wp2_with fail
              refine hvc.mono ?_
              rintro e w4 ⟨rfl, h4⟩
              clear nc0 nc1 nc2 nc3 nc4 nc5 nc6 nc7 nc8 nc9 nc10 nc11 nc12 nc13
              have hnb4 := hnbB.ext h4
              have hown4 := hown0.ext h4
              have hE4' := hEB.trans h4
              clear hvc
              have hE5 := ext_alloc w4 (.cells #[.int .i64 r.1.s.h, .int .i64 r.1.s.w, .int .i64 r.1.s.c, .int .i64 r.1.z] 44)
              have hvb := Blk.new w4 #[.int .i64 r.1.s.h, .int .i64 r.1.s.w, .int .i64 r.1.s.c, .int .i64 r.1.z] 44
              by_cases hr0 : r.2 = 0
              case neg =>
                have HV : Hid (R.2 = r.2) := by
                  show _ = _
                  have : goNodes g.nodes g.ins 0 = (([], 0), r.2) := by rw [HD2.out, HR2.out, if_pos hr0]
                  rw [HR1.out, this]
                  simp [hr0]
                have t2 : (r.2 != 0) = true := by simp [hr0]
                generalize r.2 = r2 at *
                go_wp2_with fail
                exact HE.out _ _ r2 HV.out hr0 rfl (hw1.trans (hE4'.trans hE5))
              have HD3 : Hid (goNodes g.nodes g.ins 0 = goNodes (g.nodes.drop (k + 1)) (vals ++ [r.1]) (t + n.ws.length)) := by show _ = _; rw [HD2.out, HR2.out, if_neg (by simp [hr0])]
              have t2 : (r.2 != 0) = false := by simp [hr0]
              clear hr0 HD2 HR2
              go_upto_region 29 with fail
              have hnb5 := hnb4.ext hE5
              have hown5 := hown4.ext hE5
              have hEw := hE4'.trans hE5
              have hBD : w4.heap.size < (w4.alloc (.cells #[.int .i64 r.1.s.h, .int .i64 r.1.s.w, .int .i64 r.1.s.c, .int .i64 r.1.z] 44)).heap.size := by simp
              have hB8 : B8 < w4.heap.size := hnb4.lt
              generalize hB11 : w4.heap.size = B11 at *
              generalize w4.alloc _ = w5 at *
              have c0 := hvb.cell 0
              have c1 := hvb.cell 1
              have c2 := hvb.cell 2
              have c3 := hvb.cell 3
              have hnew : Row (w5.alloc (.cells #[.int .i64 r.1.s.h, .int .i64 r.1.s.w, .int .i64 r.1.s.c, .int .i64 r.1.z] 44)) (.slice (some ⟨w5.heap.size, 0, none⟩) 1 1) 1 4 r.1.cs := row_new w5 _ 44 1 4 rfl (by unfold maxLen; omega)
              have hE6 := ext_alloc w5 (.cells #[.int .i64 r.1.s.h, .int .i64 r.1.s.w, .int .i64 r.1.s.c, .int .i64 r.1.z] 44)
              have hown6 := hown5.ext hE6
              have hk1 : vals.length + 1 ≤ 140737488355328 := by omega
              have hk2 : (vals.length + 1) * 32 ≤ 140737488355328 := by omega
              have hE7 := hEw.trans hE6
              have htt : (t : Int) + (n.ws.length : Int) = ((t + n.ws.length : Nat) : Int) := by omega
              have HTT := Lib.hid htt
              clear htt
              have hnw : (t + n.ws.length : Nat) ≤ 70000 * (k + 1) := by omega
              have hvl8 : (vals ++ [r.1]).length ≤ 255 + (k + 1) := by simp; omega
              go_upto_region 30 with (at_builtin; refine wpList_append_row rfl rfl elem_vl hown6 rfl hnew rfl (vl_one r.1) hk1 hk2 hE7.size ?_; intro v6 w6 hown7 hg6 _)
              have hE8 : Ext w1 w6 := Below.grown hE7 hg6 hE7.size (fun q hq => (hown6.lt q hq).1)
              have hown8 : OwnV w1 w6 v6 (vals ++ [r.1]) := OwnV.more hown7
              have hnb6 : Blk w6 B8 #[.int .i64 n.op, n.inV, .int .i64 n.k, .int .i64 n.st, .int .i64 n.pad, .int .i64 n.out, .int .i64 n.mul, .int .i64 n.sh, .int .i64 n.zero, .int .i64 n.th, .int .i64 n.tw, .int .i64 n.tc, n.wV, n.bV] 51 := (hnb5.ext hE6).grown hg6 (fun e => by
                have h2 := HQ8.out B8 e
                omega)
              have n12 : World.cell? w6 ⟨B8, 12, none⟩ = some (.slice AW n.ws.length cW) := by rw [← EW.out]; exact hnb6.cell 12
              clear hown0 hown4 hown5 hown6 hown7 hnew hg6 c0 c1 c2 c3
              go_wp2_with fail
              rw [HTT.out]
              go_roundw
              case rel => exact ⟨k + 1, vals ++ [r.1], t + n.ws.length, by omega, by go_num, rfl, hnw, hvl8, HD3, hown8, hE8⟩
              case measure => simp [intOf]; omega
        · have hkk : k = g.nodes.length := by omega
          have HD : Hid (goNodes g.nodes g.ins 0 = ((vals, t), 0)) := by
            show _ = _
            rw [hgo.out, hkk, List.drop_length, goNodes]
          have HR2 : Hid (R = if 4096 < t then ([], 3) else if g.outs.all (okI vals) = false then ([], 13) else (vals, 0)) := by
            show _ = _
            rw [HR1.out, HD.out]
            simp
          clear HR1 hgo HD
          by_cases ht4 : 4096 < t
          · have HV : Hid (R.2 = 3) := by show _ = _; rw [HR2.out, if_pos ht4]
            go_wp2_with fail
            exact HE.out _ _ 3 HV.out (by decide) rfl (hw1.trans hE)
          have HR3 : Hid (R = if g.outs.all (okI vals) = false then ([], 13) else (vals, 0)) := by show _ = _; rw [HR2.out, if_neg ht4]
          clear HR2
          have HOWN := Lib.hid hown
          clear hown hkk hk
          go_upto_block 6 with fail
          clear hlt ht4 g1
          go_wp2_with fail
          go_loopw [13] (fun i wr2 => ∃ j : Nat, j ≤ g.outs.length ∧ i = .int .i64 j ∧ Hid ((g.outs.take j).all (okI vals) = true) ∧ wr2 = wr) (fun i _ => g.outs.length - (intOf i).toNat)
          case atStart => exact ⟨0, by omega, rfl, rfl, rfl⟩
          case round =>
            obtain ⟨j, hj, rfl, hokj, rfl⟩ := hrel
            have g2 : World.cell? wr ⟨w.heap.size, 2, none⟩ = some (.slice Ao g.outs.length co) := by rw [← EO.out]; exact (hbx.ext hE).cell 2
            by_cases hlj : j < g.outs.length
            · obtain ⟨_, _, e1, _, _, hcl⟩ := (ho.ext (hw1.trans hE)).form
              rw [EO.out] at e1
              cases e1
              obtain ⟨b2, off2, rfl, x0⟩ := hcl j hlj
              have hs : g.outs[j]?.getD 0 = g.outs[j] := by simp [hlj]
              rw [hs] at x0
              have HF : Hid (okI vals g.outs[j] = false → g.outs.all (okI vals) = false) := fun h => by
                rw [Bool.eq_false_iff]
                intro ha
                have := List.all_eq_true.1 ha _ (List.getElem_mem hlj)
                rw [h] at this; cases this
              have HT : Hid (okI vals g.outs[j] = true → (g.outs.take (j + 1)).all (okI vals) = true) := by
                show _ → _
                intro h
                rw [List.take_succ_eq_append_getElem hlj, List.all_append, hokj.out]
                simp [h]
              clear hs hcl
              generalize g.outs[j] = z at *
              have HIN := rin_calls z 0 ((vals.length : Int) - 1) wr
              rw [show inB 0 ((vals.length : Int) - 1) z = okI vals z from rfl] at HIN
              cases hq : okI vals z with
              | false =>
                have HF1 := Lib.hid (HF.out hq)
                rw [hq] at HIN
                clear HF HT hq
                have HV : Hid (R.2 = 13) := by show _ = _; rw [HR3.out, if_pos HF1.out]
                go_wp2_with (go_at_call 58; refine HIN.mono ?_; rintro e w' ⟨rfl, rfl⟩)
                exact HE.out _ _ 13 HV.out (by decide) rfl (hw1.trans hE)
              | true =>
                have HT1 := Lib.hid (HT.out hq)
                rw [hq] at HIN
                clear HF HT hq
                go_wp2_with (go_at_call 58; refine HIN.mono ?_; rintro e w' ⟨rfl, rfl⟩)
                go_roundw
                case rel => exact ⟨j + 1, by omega, by go_num, HT1, trivial⟩
                case measure => simp [intOf]; omega
            · have hjn : j = g.outs.length := by omega
              have HA : Hid (g.outs.all (okI vals) = true) := by
                show _ = _
                have := hokj.out
                rwa [hjn, List.take_length] at this
              have HV : Hid (R = (vals, 0)) := by show _ = _; rw [HR3.out, if_neg (by rw [HA.out]; simp)]
              go_wp2_with fail
              exact HP.out _ _ ⟨(fun _ => ⟨_, rfl, by rw [HV.out]; exact hLOW.out _ _ _ HOWN.out⟩), (fun h => absurd (by rw [HV.out]) h), hw1.trans hE⟩

end Go.Proofs.Ytmddlhfahfelpaa
