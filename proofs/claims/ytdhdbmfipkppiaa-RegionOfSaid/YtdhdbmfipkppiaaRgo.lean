/- The walk of the law RegionOf; Engine, Same; an image that came in. -/
/- The walk of the law RegionOf. -/
/- The walk of the law RegionOf. -/
import Derived.Test.YtdhdbmfipkppiaaRgh
import Derived.Test.YtdhdbmfipkppiaaRgi
import Derived.Test.YtdhdbmfipkppiaaRgj
import Derived.Test.YtdhdbmfipkppiaaRgl
import Derived.Test.YtdhdbmfipkppiaaNsaM
namespace Go.Proofs.Ytdhdbmfipkppiaa
set_option linter.unusedSimpArgs false
set_option linter.unusedVariables false
set_option linter.unnecessarySimpa false
open Go.RowKit

theorem refOf_calls (g : Gr) (pV s0 s1 s2 : Value) (pl : List Int) (c : Isa.Cm) (w : World) (hg : GrAt w g) (hp : Ints .i64 w pV pl) :
    Calls Try.prog 27 #[.agg #[g.iV, g.nV, g.oV, pV, s0, s1, s2], .agg #[.int .i64 c.k, .int .i64 c.s, .int .i64 c.n, .int .i64 c.f, .int .i64 c.r, .int .i64 c.o, .int .i64 c.d, .int .i64 c.p, .int .i64 c.i0, .int .i64 c.i1, .int .i64 c.b0, .int .i64 c.b1, .int .i64 c.h0, .int .i64 c.h1]] w (OfPost (ofR g pl c) w) := by
  by_cases hv0 : (valuesR g).2 = 0
  · by_cases hm : Isa.mayB c = true
    · by_cases hl : pl.length = (valuesR g).1.length
      · by_cases h34 : c.k = 3 ∨ c.k = 4
        · by_cases hn : (g.nodes.length : Int) ≤ c.n
          · exact rOf_index g pV s0 s1 s2 pl c w hg hp hv0 hm hl h34 hn
          · have hcn : 0 ≤ c.n := by
              rcases h34 with h | h
              · have := (Isa.mayB_tile h).1 hm; omega
              · have := (Isa.mayB_kernel h).1 hm; omega
            obtain ⟨n, hcn⟩ := Int.eq_ofNat_of_zero_le hcn
            rcases h34 with h | h
            · exact rOf_tile g pV s0 s1 s2 pl c w hg hp hv0 hm hl h n hcn (by omega)
            · exact rOf_kernel g pV s0 s1 s2 pl c w hg hp hv0 hm hl h n hcn (by omega)
        · exact rOf_move g pV s0 s1 s2 pl c w hg hp hv0 hm hl h34
      · exact rOf_len g pV s0 s1 s2 pl c w hg hp hv0 hm hl
    · exact rOf_may g pV s0 s1 s2 pl c w hg hp hv0 (by simpa using hm)
  · exact rOf_values g pV s0 s1 s2 pl c w hg hp hv0

set_option maxHeartbeats 1600000 in
theorem engine_calls (c : Isa.Cm) (w : World) : Calls Try.prog 29 #[.agg #[.int .i64 c.k, .int .i64 c.s, .int .i64 c.n, .int .i64 c.f, .int .i64 c.r, .int .i64 c.o, .int .i64 c.d, .int .i64 c.p, .int .i64 c.i0, .int .i64 c.i1, .int .i64 c.b0, .int .i64 c.b1, .int .i64 c.h0, .int .i64 c.h1]] w fun e w' => e = .returned (.int .i64 (engineZ c)) ∧ Ext w w' := by
  have HV : Hid (engineZ c = if c.k = 1 ∨ c.k = 2 then 0 else if c.k = 3 then 1 else if c.k = 4 then 2 else -1) := rfl
  have hE := ext_alloc w (.cells #[.int .i64 c.k, .int .i64 c.s, .int .i64 c.n, .int .i64 c.f, .int .i64 c.r, .int .i64 c.o, .int .i64 c.d, .int .i64 c.p, .int .i64 c.i0, .int .i64 c.i1, .int .i64 c.b0, .int .i64 c.b1, .int .i64 c.h0, .int .i64 c.h1] 57)
  generalize engineZ c = z at *
  rcases (by omega : c.k = 1 ∨ c.k = 2 ∨ c.k = 3 ∨ c.k = 4 ∨ ¬ (c.k = 1 ∨ c.k = 2 ∨ c.k = 3 ∨ c.k = 4)) with h | h | h | h | h
  · have k1 : (c.k == 1) = true := by rw [beq_iff_eq]; omega
    have hz : Hid (z = 0) := by show _ = _; rw [HV.out, if_pos (by omega)]
    clear HV h
    go_enter Try.func29, Try.ntmps29
    go_wp2
    go_ret
    exact ⟨ret_int hz.out.symm, hE⟩
  · have k1 : (c.k == 1) = false := by rw [beq_eq_false_iff_ne]; omega
    have k2 : (c.k == 2) = true := by rw [beq_iff_eq]; omega
    have hz : Hid (z = 0) := by show _ = _; rw [HV.out, if_pos (by omega)]
    clear HV h
    go_enter Try.func29, Try.ntmps29
    go_wp2
    go_ret
    exact ⟨ret_int hz.out.symm, hE⟩
  · have k1 : (c.k == 1) = false := by rw [beq_eq_false_iff_ne]; omega
    have k2 : (c.k == 2) = false := by rw [beq_eq_false_iff_ne]; omega
    have k3 : (c.k == 3) = true := by rw [beq_iff_eq]; omega
    have hz : Hid (z = 1) := by show _ = _; rw [HV.out, if_neg (by omega), if_pos (by omega)]
    clear HV h
    go_enter Try.func29, Try.ntmps29
    go_wp2
    go_ret
    exact ⟨ret_int hz.out.symm, hE⟩
  · have k1 : (c.k == 1) = false := by rw [beq_eq_false_iff_ne]; omega
    have k2 : (c.k == 2) = false := by rw [beq_eq_false_iff_ne]; omega
    have k3 : (c.k == 3) = false := by rw [beq_eq_false_iff_ne]; omega
    have k4 : (c.k == 4) = true := by rw [beq_iff_eq]; omega
    have hz : Hid (z = 2) := by show _ = _; rw [HV.out, if_neg (by omega), if_neg (by omega), if_pos (by omega)]
    clear HV h
    go_enter Try.func29, Try.ntmps29
    go_wp2
    go_ret
    exact ⟨ret_int hz.out.symm, hE⟩
  · have k1 : (c.k == 1) = false := by rw [beq_eq_false_iff_ne]; omega
    have k2 : (c.k == 2) = false := by rw [beq_eq_false_iff_ne]; omega
    have k3 : (c.k == 3) = false := by rw [beq_eq_false_iff_ne]; omega
    have k4 : (c.k == 4) = false := by rw [beq_eq_false_iff_ne]; omega
    have hz : Hid (z = -1) := by show _ = _; rw [HV.out, if_neg (by omega), if_neg (by omega), if_neg (by omega)]
    clear HV h
    go_enter Try.func29, Try.ntmps29
    go_wp2
    go_ret
    exact ⟨ret_int hz.out.symm, hE⟩

set_option maxHeartbeats 1600000 in
theorem rEngine_calls (c : Isa.Cm) (w : World) : Calls Try.prog 30 #[.agg #[.int .i64 c.k, .int .i64 c.s, .int .i64 c.n, .int .i64 c.f, .int .i64 c.r, .int .i64 c.o, .int .i64 c.d, .int .i64 c.p, .int .i64 c.i0, .int .i64 c.i1, .int .i64 c.b0, .int .i64 c.b1, .int .i64 c.h0, .int .i64 c.h1]] w fun e w' => e = .returned (.int .i64 (engineZ c)) ∧ Ext w w' := by
  have HV : Hid (engineZ c = if c.k = 1 ∨ c.k = 2 then 0 else if c.k = 3 then 1 else if c.k = 4 then 2 else -1) := rfl
  have hE := ext_alloc w (.cells #[.int .i64 c.k, .int .i64 c.s, .int .i64 c.n, .int .i64 c.f, .int .i64 c.r, .int .i64 c.o, .int .i64 c.d, .int .i64 c.p, .int .i64 c.i0, .int .i64 c.i1, .int .i64 c.b0, .int .i64 c.b1, .int .i64 c.h0, .int .i64 c.h1] 57)
  generalize engineZ c = z at *
  rcases (by omega : c.k = 1 ∨ c.k = 2 ∨ c.k = 3 ∨ c.k = 4 ∨ ¬ (c.k = 1 ∨ c.k = 2 ∨ c.k = 3 ∨ c.k = 4)) with h | h | h | h | h
  · have k1 : (c.k == 1) = true := by rw [beq_iff_eq]; omega
    have hz : Hid (z = 0) := by show _ = _; rw [HV.out, if_pos (by omega)]
    clear HV h
    go_enter Try.func30, Try.ntmps30
    go_wp2
    go_ret
    exact ⟨ret_int hz.out.symm, hE⟩
  · have k1 : (c.k == 1) = false := by rw [beq_eq_false_iff_ne]; omega
    have k2 : (c.k == 2) = true := by rw [beq_iff_eq]; omega
    have hz : Hid (z = 0) := by show _ = _; rw [HV.out, if_pos (by omega)]
    clear HV h
    go_enter Try.func30, Try.ntmps30
    go_wp2
    go_ret
    exact ⟨ret_int hz.out.symm, hE⟩
  · have k1 : (c.k == 1) = false := by rw [beq_eq_false_iff_ne]; omega
    have k2 : (c.k == 2) = false := by rw [beq_eq_false_iff_ne]; omega
    have k3 : (c.k == 3) = true := by rw [beq_iff_eq]; omega
    have hz : Hid (z = 1) := by show _ = _; rw [HV.out, if_neg (by omega), if_pos (by omega)]
    clear HV h
    go_enter Try.func30, Try.ntmps30
    go_wp2
    go_ret
    exact ⟨ret_int hz.out.symm, hE⟩
  · have k1 : (c.k == 1) = false := by rw [beq_eq_false_iff_ne]; omega
    have k2 : (c.k == 2) = false := by rw [beq_eq_false_iff_ne]; omega
    have k3 : (c.k == 3) = false := by rw [beq_eq_false_iff_ne]; omega
    have k4 : (c.k == 4) = true := by rw [beq_iff_eq]; omega
    have hz : Hid (z = 2) := by show _ = _; rw [HV.out, if_neg (by omega), if_neg (by omega), if_pos (by omega)]
    clear HV h
    go_enter Try.func30, Try.ntmps30
    go_wp2
    go_ret
    exact ⟨ret_int hz.out.symm, hE⟩
  · have k1 : (c.k == 1) = false := by rw [beq_eq_false_iff_ne]; omega
    have k2 : (c.k == 2) = false := by rw [beq_eq_false_iff_ne]; omega
    have k3 : (c.k == 3) = false := by rw [beq_eq_false_iff_ne]; omega
    have k4 : (c.k == 4) = false := by rw [beq_eq_false_iff_ne]; omega
    have hz : Hid (z = -1) := by show _ = _; rw [HV.out, if_neg (by omega), if_neg (by omega), if_neg (by omega)]
    clear HV h
    go_enter Try.func30, Try.ntmps30
    go_wp2
    go_ret
    exact ⟨ret_int hz.out.symm, hE⟩


set_option maxRecDepth 20000

theorem eq_b (d : Nat) (w : World) (x y : Bool) : (Op.equalIn (d + 1) 4 (.bool x) (.bool y)).run Try.prog w = .ok (x == y) w := by
  rw [run_equalIn_bool w d _ _ _ Try.underlying4]

theorem span_equal (a b : Sp) (w : World) : (Op.equalIn 10000 70 (.agg #[.int .i64 a.mem, .int .i64 a.frm, .int .i64 a.to, .bool a.wr]) (.agg #[.int .i64 b.mem, .int .i64 b.frm, .int .i64 b.to, .bool b.wr])).run Try.prog w = .ok (decide (a = b)) w := by
  have h : (Op.equalIn (9999 + 1) 70 (.agg #[.int .i64 a.mem, .int .i64 a.frm, .int .i64 a.to, .bool a.wr]) (.agg #[.int .i64 b.mem, .int .i64 b.frm, .int .i64 b.to, .bool b.wr])).run Try.prog w = .ok ((a.mem == b.mem) && ((a.frm == b.frm) && ((a.to == b.to) && ((a.wr == b.wr) && true)))) w := by
    rw [run_equalIn_agg w 9999 _ _ _ (by kernel_rfl) (by kernel_rfl)]
    refine Isa.eqFields_step (by decide) (by kernel_rfl) (by kernel_rfl) (Isa.eq_i64 9998 _ _ _) ?_
    refine Isa.eqFields_step (by decide) (by kernel_rfl) (by kernel_rfl) (Isa.eq_i64 9998 _ _ _) ?_
    refine Isa.eqFields_step (by decide) (by kernel_rfl) (by kernel_rfl) (Isa.eq_i64 9998 _ _ _) ?_
    refine Isa.eqFields_step (by decide) (by kernel_rfl) (by kernel_rfl) (eq_b 9998 _ _ _) ?_
    simp [Op.eqFields]
  rw [show (10000 : Nat) = 9999 + 1 from rfl, h]
  congr 1
  rw [Bool.eq_iff_iff, decide_eq_true_iff]
  simp only [Bool.and_eq_true, beq_iff_eq, and_true]
  obtain ⟨a1, a2, a3, a4⟩ := a
  obtain ⟨b1, b2, b3, b4⟩ := b
  simp

theorem span_neq (a b : Sp) (w : World) : (binOp .neq 70 (.agg #[.int .i64 a.mem, .int .i64 a.frm, .int .i64 a.to, .bool a.wr]) (.agg #[.int .i64 b.mem, .int .i64 b.frm, .int .i64 b.to, .bool b.wr])).run Try.prog w = .ok (.bool (!decide (a = b))) w := by
  have := span_equal a b w
  rw [run_neq_struct, this]
  rfl

end Go.Proofs.Ytdhdbmfipkppiaa

namespace Go.Proofs.Ytdhdbmfipkppiaa
set_option linter.unusedSimpArgs false
set_option linter.unusedVariables false
set_option linter.unnecessarySimpa false
open Go.RowKit

set_option maxHeartbeats 1600000 in
/-- Rows that hold the same spans are the same. -/
theorem same12_calls (va vb : Value) (l : List Sp) (w : World) (ha : Spans w va l) (hb : Spans w vb l) :
    Calls Try.prog 28 #[va, vb] w fun e w' => e = .returned (.bool true) ∧ Ext w w' := by
  obtain ⟨A, ca, rfl, ha1, ha2, hac⟩ := ha.form
  obtain ⟨B, cb, rfl, hb1, hb2, hbc⟩ := hb.form
  unfold maxLen at ha2 hb2
  have HA := Lib.hid hac
  have HB := Lib.hid hbc
  clear hac hbc ha hb
  go_enter Try.func28, Try.ntmps28
  go_wp2_with fail
  go_loopw [5] (fun i wr => ∃ k : Nat, k ≤ l.length ∧ i = .int .i64 k ∧ Ext w wr) (fun i _ => l.length - (intOf i).toNat)
  case atStart => exact ⟨0, by omega, rfl, Ext.refl _⟩
  case round =>
    obtain ⟨k, hk, rfl, hw0⟩ := hrel
    by_cases hlt : k < l.length
    · have hs : l[k]? = some l[k] := by simp [hlt]
      obtain ⟨b, off, rfl, c0, c1, c2, c3⟩ := HA.out k _ hs
      obtain ⟨b', off', rfl, d0, d1, d2, d3⟩ := HB.out k _ hs
      replace c0 := cell_ext c0 _ hw0
      replace c1 := cell_ext c1 _ hw0
      replace c2 := cell_ext c2 _ hw0
      replace c3 := cell_ext c3 _ hw0
      replace d0 := cell_ext d0 _ hw0
      replace d1 := cell_ext d1 _ hw0
      replace d2 := cell_ext d2 _ hw0
      replace d3 := cell_ext d3 _ hw0
      generalize l[k] = s at *
      have hq := fun W => span_neq s s W
      simp only [decide_true, Bool.not_true] at hq
      clear hs
      go_upto_region 6 with fail
      have e0 : ∀ W, Ext wr W → World.cell? W ⟨b, off + k * 4, none⟩ = some (.int .i64 s.mem) := fun W h => cell_ext c0 _ h
      have e1 : ∀ W, Ext wr W → World.cell? W ⟨b, off + k * 4 + 1, none⟩ = some (.int .i64 s.frm) := fun W h => cell_ext c1 _ h
      have e2 : ∀ W, Ext wr W → World.cell? W ⟨b, off + k * 4 + 2, none⟩ = some (.int .i64 s.to) := fun W h => cell_ext c2 _ h
      have e3 : ∀ W, Ext wr W → World.cell? W ⟨b, off + k * 4 + 3, none⟩ = some (.bool s.wr) := fun W h => cell_ext c3 _ h
      have f0 : ∀ W, Ext wr W → World.cell? W ⟨b', off' + k * 4, none⟩ = some (.int .i64 s.mem) := fun W h => cell_ext d0 _ h
      have f1 : ∀ W, Ext wr W → World.cell? W ⟨b', off' + k * 4 + 1, none⟩ = some (.int .i64 s.frm) := fun W h => cell_ext d1 _ h
      have f2 : ∀ W, Ext wr W → World.cell? W ⟨b', off' + k * 4 + 2, none⟩ = some (.int .i64 s.to) := fun W h => cell_ext d2 _ h
      have f3 : ∀ W, Ext wr W → World.cell? W ⟨b', off' + k * 4 + 3, none⟩ = some (.bool s.wr) := fun W h => cell_ext d3 _ h
      refine wp_region_S (fun W => Ext wr W) [(0, true), (1, true), (2, true), (3, true), (4, true), (5, true), (6, true), (7, true), (8, true)] (by kernel_rfl) (by kernel_rfl) (fun _ _ d _ _ h => by cases d <;> exact h) (Ext.drew _) ?_
      simp only [pickE, List.getElem?_cons_zero, List.getElem?_cons_succ]
      repeat (first | (refine wpF_pure (by rfl) (fun W hW => by go_simp; with_reducible rfl) ?_; simp only [Act.put, List.setIfInBounds_toArray, List.set_cons_zero, List.set_cons_succ]) | (refine wpF_skip (by rfl) ?_; simp only [Act.put, List.setIfInBounds_toArray, List.set_cons_zero, List.set_cons_succ]))
      have h7 : Ext wr wr.drew := Ext.drew _
      refine wpF_nil ?_
      clear c0 c1 c2 c3 d0 d1 d2 d3 e0 e1 e2 e3 f0 f1 f2 f3
      go_wp2_with fail
      go_roundw
      case rel => exact ⟨k + 1, by omega, by go_num, hw0.trans h7⟩
      case measure => simp [intOf]; omega
    · go_wp2_with fail
      go_ret
      exact ⟨rfl, hw0⟩

end Go.Proofs.Ytdhdbmfipkppiaa

namespace Go.Proofs.Ytdhdbmfipkppiaa
set_option linter.unusedSimpArgs false
set_option linter.unusedVariables false
set_option linter.unnecessarySimpa false
open Go.RowKit

set_option maxRecDepth 20000 in
set_option maxHeartbeats 6400000 in
theorem regionOf_calls (g : Gr) (pV s0 s1 s2 : Value) (pl : List Int) (c : Isa.Cm) (w : World) (hg : GrIn w g) (hp : Ints .i64 w pV pl) :
    Calls Try.prog 8 #[.agg #[g.iV, g.nV, g.oV, pV, s0, s1, s2], .agg #[.int .i64 c.k, .int .i64 c.s, .int .i64 c.n, .int .i64 c.f, .int .i64 c.r, .int .i64 c.o, .int .i64 c.d, .int .i64 c.p, .int .i64 c.i0, .int .i64 c.i1, .int .i64 c.b0, .int .i64 c.b1, .int .i64 c.h0, .int .i64 c.h1]] w fun e w' => e = .returned (.bool true) ∧ Below w.heap.size w w' := by
  have hE1 := (ext_alloc w (.cells #[g.iV, g.nV, g.oV, pV, s0, s1, s2] 54)).trans (ext_alloc _ (.cells #[.int .i64 c.k, .int .i64 c.s, .int .i64 c.n, .int .i64 c.f, .int .i64 c.r, .int .i64 c.o, .int .i64 c.d, .int .i64 c.p, .int .i64 c.i0, .int .i64 c.i1, .int .i64 c.b0, .int .i64 c.b1, .int .i64 c.h0, .int .i64 c.h1] 57))
  have hb1 := (Blk.new w #[g.iV, g.nV, g.oV, pV, s0, s1, s2] 54).ext (ext_alloc _ (.cells #[.int .i64 c.k, .int .i64 c.s, .int .i64 c.n, .int .i64 c.f, .int .i64 c.r, .int .i64 c.o, .int .i64 c.d, .int .i64 c.p, .int .i64 c.i0, .int .i64 c.i1, .int .i64 c.b0, .int .i64 c.b1, .int .i64 c.h0, .int .i64 c.h1] 57))
  have hc1 := Blk.new (w.alloc (.cells #[g.iV, g.nV, g.oV, pV, s0, s1, s2] 54)) #[.int .i64 c.k, .int .i64 c.s, .int .i64 c.n, .int .i64 c.f, .int .i64 c.r, .int .i64 c.o, .int .i64 c.d, .int .i64 c.p, .int .i64 c.i0, .int .i64 c.i1, .int .i64 c.b0, .int .i64 c.b1, .int .i64 c.h0, .int .i64 c.h1] 57
  rw [show (w.alloc (.cells #[g.iV, g.nV, g.oV, pV, s0, s1, s2] 54)).heap.size = w.heap.size + 1 from by simp] at hc1
  have hls := fun W (h : Ext w W) => less12_calls g pV s0 s1 s2 pl w W hg hp h
  have hsh := fun W => shown12_calls W
  go_enter Try.func8, Try.ntmps8
  go_upto_region 1 with fail
  generalize World.alloc (World.alloc w _) _ = w1 at *
  go_upto_region 2 with (go_at_call 24; refine (hsh _).mono ?_; rintro e w2 ⟨rfl, h2⟩)
  have h2 : Ext w1 w2 := h2
  replace hb1 := hb1.ext h2
  replace hc1 := hc1.ext h2
  replace hE1 := hE1.trans h2
  clear hsh
  have q0 : World.cell? w2 ⟨w.heap.size, 0, none⟩ = some g.iV := hb1.cell 0
  have q1 : World.cell? w2 ⟨w.heap.size, 1, none⟩ = some g.nV := hb1.cell 1
  have q2 : World.cell? w2 ⟨w.heap.size, 2, none⟩ = some g.oV := hb1.cell 2
  have q3 : World.cell? w2 ⟨w.heap.size, 3, none⟩ = some pV := hb1.cell 3
  have q4 : World.cell? w2 ⟨w.heap.size, 4, none⟩ = some s0 := hb1.cell 4
  have q5 : World.cell? w2 ⟨w.heap.size, 5, none⟩ = some s1 := hb1.cell 5
  have q6 : World.cell? w2 ⟨w.heap.size, 6, none⟩ = some s2 := hb1.cell 6
  have hlt2 := hc1.lt
  go_wp2_with fail
  refine (hls _ hE1).mono ?_
  rintro e w3 ⟨x, pX, pz, rfl, hL, hpx, hpl, h3⟩
  clear q0 q1 q2 q3 q4 q5 q6 hls
  replace hb1 := hb1.ext h3
  replace hc1 := hc1.ext h3
  have hE3 := hE1.trans h3
  have hone : Array.all #[x.iV, x.nV, x.oV, pX, .slice none 0 0, .slice none 0 0, .slice none 0 0] (·.oneCell') = true := by
    obtain ⟨_, _, e1, _⟩ := hL.ins.form
    obtain ⟨_, _, e2, _⟩ := row_of_own hL.own
    obtain ⟨_, _, e3, _⟩ := hL.outs.form
    obtain ⟨_, _, e4, _⟩ := hpx.form
    rw [e1, e2, e3, e4]
    simp [Value.oneCell']
  have HO := Lib.hid hone
  have hL4 := hL.setRow (b := w.heap.size) (Nat.le_refl _) (by omega) #[x.iV, x.nV, x.oV, pX, .slice none 0 0, .slice none 0 0, .slice none 0 0]
  have hb4 : Blk (w3.setRow w.heap.size #[x.iV, x.nV, x.oV, pX, .slice none 0 0, .slice none 0 0, .slice none 0 0]) w.heap.size #[x.iV, x.nV, x.oV, pX, .slice none 0 0, .slice none 0 0, .slice none 0 0] 54 := setRow_heap _ _ _ _ _ _ hb1
  have hE4 : Ext w (w3.setRow w.heap.size #[x.iV, x.nV, x.oV, pX, .slice none 0 0, .slice none 0 0, .slice none 0 0]) := ext_setRow hE3 _ (Nat.le_refl _)
  have hc4 := hc1.grown (setRow_grown w3 w.heap.size #[x.iV, x.nV, x.oV, pX, .slice none 0 0, .slice none 0 0, .slice none 0 0]) (by simp)
  clear hone hL hE1 hE3 hc1
  go_upto_region 3 with (refine wpList_store_row rfl 54 _ _ rfl w.heap.size #[x.iV, x.nV, x.oV, pX, .slice none 0 0, .slice none 0 0, .slice none 0 0] rfl rfl 54 _ hb1 (by kernel_rfl) rfl HO.out ?_)
  clear hb1 h2 h3 hlt2
  generalize World.setRow w3 _ _ = w4 at *
  have hg4 := hL4.at
  have hp4 := hpx.ext hE4
  have hof := regOf_calls x pX (.slice none 0 0) (.slice none 0 0) (.slice none 0 0) pz c w4 hg4 hp4
  have hrf := fun W (h : Ext w4 W) => refOf_calls x pX (.slice none 0 0) (.slice none 0 0) (.slice none 0 0) pz c W (hg4.ext h) (hp4.ext h)
  unfold OfPost at hof hrf
  generalize ofR x pz c = r at *
  clear hg4 hp4 hL4 hpx
  have q0 : World.cell? w4 ⟨w.heap.size, 0, none⟩ = some (x.iV) := hb4.cell 0
  have q1 : World.cell? w4 ⟨w.heap.size, 1, none⟩ = some (x.nV) := hb4.cell 1
  have q2 : World.cell? w4 ⟨w.heap.size, 2, none⟩ = some (x.oV) := hb4.cell 2
  have q3 : World.cell? w4 ⟨w.heap.size, 3, none⟩ = some (pX) := hb4.cell 3
  have q4 : World.cell? w4 ⟨w.heap.size, 4, none⟩ = some (.slice none 0 0) := hb4.cell 4
  have q5 : World.cell? w4 ⟨w.heap.size, 5, none⟩ = some (.slice none 0 0) := hb4.cell 5
  have q6 : World.cell? w4 ⟨w.heap.size, 6, none⟩ = some (.slice none 0 0) := hb4.cell 6
  have p0 : World.cell? w4 ⟨w.heap.size + 1, 0, none⟩ = some (.int .i64 c.k) := hc4.cell 0
  have p1 : World.cell? w4 ⟨w.heap.size + 1, 1, none⟩ = some (.int .i64 c.s) := hc4.cell 1
  have p2 : World.cell? w4 ⟨w.heap.size + 1, 2, none⟩ = some (.int .i64 c.n) := hc4.cell 2
  have p3 : World.cell? w4 ⟨w.heap.size + 1, 3, none⟩ = some (.int .i64 c.f) := hc4.cell 3
  have p4 : World.cell? w4 ⟨w.heap.size + 1, 4, none⟩ = some (.int .i64 c.r) := hc4.cell 4
  have p5 : World.cell? w4 ⟨w.heap.size + 1, 5, none⟩ = some (.int .i64 c.o) := hc4.cell 5
  have p6 : World.cell? w4 ⟨w.heap.size + 1, 6, none⟩ = some (.int .i64 c.d) := hc4.cell 6
  have p7 : World.cell? w4 ⟨w.heap.size + 1, 7, none⟩ = some (.int .i64 c.p) := hc4.cell 7
  have p8 : World.cell? w4 ⟨w.heap.size + 1, 8, none⟩ = some (.int .i64 c.i0) := hc4.cell 8
  have p9 : World.cell? w4 ⟨w.heap.size + 1, 9, none⟩ = some (.int .i64 c.i1) := hc4.cell 9
  have p10 : World.cell? w4 ⟨w.heap.size + 1, 10, none⟩ = some (.int .i64 c.b0) := hc4.cell 10
  have p11 : World.cell? w4 ⟨w.heap.size + 1, 11, none⟩ = some (.int .i64 c.b1) := hc4.cell 11
  have p12 : World.cell? w4 ⟨w.heap.size + 1, 12, none⟩ = some (.int .i64 c.h0) := hc4.cell 12
  have p13 : World.cell? w4 ⟨w.heap.size + 1, 13, none⟩ = some (.int .i64 c.h1) := hc4.cell 13
  go_wp2_with fail
  refine hof.mono ?_
  rintro e w5 ⟨va, rfl, hsa, h5⟩
  clear hof q0 q1 q2 q3 q4 q5 q6 p0 p1 p2 p3 p4 p5 p6 p7 p8 p9 p10 p11 p12 p13
  replace hb4 := hb4.ext h5
  replace hc4 := hc4.ext h5
  replace hrf := hrf _ h5
  have q0 : World.cell? w5 ⟨w.heap.size, 0, none⟩ = some (x.iV) := hb4.cell 0
  have q1 : World.cell? w5 ⟨w.heap.size, 1, none⟩ = some (x.nV) := hb4.cell 1
  have q2 : World.cell? w5 ⟨w.heap.size, 2, none⟩ = some (x.oV) := hb4.cell 2
  have q3 : World.cell? w5 ⟨w.heap.size, 3, none⟩ = some (pX) := hb4.cell 3
  have q4 : World.cell? w5 ⟨w.heap.size, 4, none⟩ = some (.slice none 0 0) := hb4.cell 4
  have q5 : World.cell? w5 ⟨w.heap.size, 5, none⟩ = some (.slice none 0 0) := hb4.cell 5
  have q6 : World.cell? w5 ⟨w.heap.size, 6, none⟩ = some (.slice none 0 0) := hb4.cell 6
  have p0 : World.cell? w5 ⟨w.heap.size + 1, 0, none⟩ = some (.int .i64 c.k) := hc4.cell 0
  have p1 : World.cell? w5 ⟨w.heap.size + 1, 1, none⟩ = some (.int .i64 c.s) := hc4.cell 1
  have p2 : World.cell? w5 ⟨w.heap.size + 1, 2, none⟩ = some (.int .i64 c.n) := hc4.cell 2
  have p3 : World.cell? w5 ⟨w.heap.size + 1, 3, none⟩ = some (.int .i64 c.f) := hc4.cell 3
  have p4 : World.cell? w5 ⟨w.heap.size + 1, 4, none⟩ = some (.int .i64 c.r) := hc4.cell 4
  have p5 : World.cell? w5 ⟨w.heap.size + 1, 5, none⟩ = some (.int .i64 c.o) := hc4.cell 5
  have p6 : World.cell? w5 ⟨w.heap.size + 1, 6, none⟩ = some (.int .i64 c.d) := hc4.cell 6
  have p7 : World.cell? w5 ⟨w.heap.size + 1, 7, none⟩ = some (.int .i64 c.p) := hc4.cell 7
  have p8 : World.cell? w5 ⟨w.heap.size + 1, 8, none⟩ = some (.int .i64 c.i0) := hc4.cell 8
  have p9 : World.cell? w5 ⟨w.heap.size + 1, 9, none⟩ = some (.int .i64 c.i1) := hc4.cell 9
  have p10 : World.cell? w5 ⟨w.heap.size + 1, 10, none⟩ = some (.int .i64 c.b0) := hc4.cell 10
  have p11 : World.cell? w5 ⟨w.heap.size + 1, 11, none⟩ = some (.int .i64 c.b1) := hc4.cell 11
  have p12 : World.cell? w5 ⟨w.heap.size + 1, 12, none⟩ = some (.int .i64 c.h0) := hc4.cell 12
  have p13 : World.cell? w5 ⟨w.heap.size + 1, 13, none⟩ = some (.int .i64 c.h1) := hc4.cell 13
  go_wp2_with fail
  refine hrf.mono ?_
  rintro e w6 ⟨vb, rfl, hsb, h6⟩
  clear hrf q0 q1 q2 q3 q4 q5 q6 p0 p1 p2 p3 p4 p5 p6 p7 p8 p9 p10 p11 p12 p13 hb4
  have hc := hc4.ext h6
  have hsm := same12_calls va vb r.1 w6 (hsa.below h6) hsb
  have hE6 := (hE4.trans h5).trans h6
  clear hsa hsb h5 h6 hE4 hc4
  go_upto_region 6 with (go_at_call 28; refine hsm.mono ?_; rintro e w7 ⟨rfl, h67⟩)
  replace hc := hc.ext h67
  replace hE6 := hE6.trans h67
  clear h67
  generalize r.2 = z at *
  have hse := fun W => engine_calls c W
  have hsr := fun W => rEngine_calls c W
  have e0 : ∀ W, Ext w7 W → World.cell? W ⟨w.heap.size + 1, 0, none⟩ = some (.int .i64 c.k) := fun W h => (hc.ext h).cell 0
  have e1 : ∀ W, Ext w7 W → World.cell? W ⟨w.heap.size + 1, 1, none⟩ = some (.int .i64 c.s) := fun W h => (hc.ext h).cell 1
  have e2 : ∀ W, Ext w7 W → World.cell? W ⟨w.heap.size + 1, 2, none⟩ = some (.int .i64 c.n) := fun W h => (hc.ext h).cell 2
  have e3 : ∀ W, Ext w7 W → World.cell? W ⟨w.heap.size + 1, 3, none⟩ = some (.int .i64 c.f) := fun W h => (hc.ext h).cell 3
  have e4 : ∀ W, Ext w7 W → World.cell? W ⟨w.heap.size + 1, 4, none⟩ = some (.int .i64 c.r) := fun W h => (hc.ext h).cell 4
  have e5 : ∀ W, Ext w7 W → World.cell? W ⟨w.heap.size + 1, 5, none⟩ = some (.int .i64 c.o) := fun W h => (hc.ext h).cell 5
  have e6 : ∀ W, Ext w7 W → World.cell? W ⟨w.heap.size + 1, 6, none⟩ = some (.int .i64 c.d) := fun W h => (hc.ext h).cell 6
  have e7 : ∀ W, Ext w7 W → World.cell? W ⟨w.heap.size + 1, 7, none⟩ = some (.int .i64 c.p) := fun W h => (hc.ext h).cell 7
  have e8 : ∀ W, Ext w7 W → World.cell? W ⟨w.heap.size + 1, 8, none⟩ = some (.int .i64 c.i0) := fun W h => (hc.ext h).cell 8
  have e9 : ∀ W, Ext w7 W → World.cell? W ⟨w.heap.size + 1, 9, none⟩ = some (.int .i64 c.i1) := fun W h => (hc.ext h).cell 9
  have e10 : ∀ W, Ext w7 W → World.cell? W ⟨w.heap.size + 1, 10, none⟩ = some (.int .i64 c.b0) := fun W h => (hc.ext h).cell 10
  have e11 : ∀ W, Ext w7 W → World.cell? W ⟨w.heap.size + 1, 11, none⟩ = some (.int .i64 c.b1) := fun W h => (hc.ext h).cell 11
  have e12 : ∀ W, Ext w7 W → World.cell? W ⟨w.heap.size + 1, 12, none⟩ = some (.int .i64 c.h0) := fun W h => (hc.ext h).cell 12
  have e13 : ∀ W, Ext w7 W → World.cell? W ⟨w.heap.size + 1, 13, none⟩ = some (.int .i64 c.h1) := fun W h => (hc.ext h).cell 13
  have he : ∀ y : Int, (y == y) = true := fun y => by simp
  refine wp_region_S (fun W => Ext w7 W) [(0, true), (1, true), (2, true), (3, true), (4, true), (5, true), (6, true), (7, true), (8, true), (9, true), (10, true), (12, true), (11, false), (13, false), (14, true), (15, true), (16, true)] (by kernel_rfl) (by kernel_rfl) (fun _ _ d _ _ h => by cases d <;> exact h) (Ext.drew _) ?_
  simp only [pickE, List.getElem?_cons_zero, List.getElem?_cons_succ]
  repeat (first | (refine wpF_pure (by rfl) (fun W hW => by go_simp; with_reducible rfl) ?_; simp only [Act.put, List.setIfInBounds_toArray, List.set_cons_zero, List.set_cons_succ]) | (refine wpF_skip (by rfl) ?_; simp only [Act.put, List.setIfInBounds_toArray, List.set_cons_zero, List.set_cons_succ]))
  have h7 : Ext w7 w7.drew := Ext.drew _
  generalize w7.drew = y0 at *
  refine wpF_step (by rfl) (fun K hK => ?_)
  go_simp
  refine (hse _).mono ?_
  rintro e ya ⟨rfl, hEa⟩
  refine hK _ _ (h7.trans hEa) ?_
  clear hK K
  (try simp only [Act.put, List.setIfInBounds_toArray, List.set_cons_zero, List.set_cons_succ])
  refine wpF_step (by rfl) (fun K hK => ?_)
  go_simp
  refine (hsr _).mono ?_
  rintro e yb ⟨rfl, hEb⟩
  refine hK _ _ ((h7.trans hEa).trans hEb) ?_
  clear hK K
  (try simp only [Act.put, List.setIfInBounds_toArray, List.set_cons_zero, List.set_cons_succ])
  repeat (first | (refine wpF_pure (by rfl) (fun W hW => by go_simp; with_reducible rfl) ?_; simp only [Act.put, List.setIfInBounds_toArray, List.set_cons_zero, List.set_cons_succ]) | (refine wpF_skip (by rfl) ?_; simp only [Act.put, List.setIfInBounds_toArray, List.set_cons_zero, List.set_cons_succ]))
  refine wpF_nil ?_
  have h9 := hE6.trans ((h7.trans hEa).trans hEb)
  clear hse hsr e0 e1 e2 e3 e4 e5 e6 e7 e8 e9 e10 e11 e12 e13
  go_wp2_with fail
  go_ret
  exact ⟨rfl, h9⟩

end Go.Proofs.Ytdhdbmfipkppiaa
