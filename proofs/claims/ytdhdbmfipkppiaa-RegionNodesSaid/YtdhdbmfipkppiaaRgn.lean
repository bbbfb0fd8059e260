/- The walk of the law RegionOf; Engine, Same; an image that came in. -/
/- How an image and a command that came in are opened. -/
/- The walk of the law RegionOf. -/
import Derived.Test.YtdhdbmfipkppiaaRgh
import Derived.Test.YtdhdbmfipkppiaaRgi
import Derived.Test.YtdhdbmfipkppiaaRgj
import Derived.Test.YtdhdbmfipkppiaaRgl
import Derived.Test.YtdhdbmfipkppiaaNsaM
import Derived.Test.YtdhdbmfipkppiaaModG
namespace Go.Proofs.Ytdhdbmfipkppiaa
set_option linter.unusedSimpArgs false
set_option linter.unusedVariables false
set_option linter.unnecessarySimpa false
open Go.RowKit

theorem refOf_calls (g : Gr) (pV s0 s1 s2 : Value) (pl : List Int) (c : Isa.Cm) (w : World) (hg : GrAt w g) (hp : Ints .i64 w pV pl) :
    Calls Try.prog 27 #[.agg #[g.iV, g.nV, g.oV, pV, s0, s1, s2], .agg #[.int .i64 c.k, .int .i64 c.s, .int .i64 c.n, .int .i64 c.f, .int .i64 c.r, .int .i64 c.o, .int .i64 c.d, .int .i64 c.p, .int .i64 c.i0, .int .i64 c.i1, .int .i64 c.b0, .int .i64 c.b1, .int .i64 c.h0, .int .i64 c.h1]] w (OfPost (ofR g pl c) w) := by
  by_cases hv0 : (valuesR g).2 = 0
  · by_cases hm : Isa.mayB c = true
    · by_cases hl : pl.length = (valuesR g).1.length
      · by_cases h34 : c.k = 3 ∨ c.k = 4
        · by_cases hn : (g.nodes.length : Int) ≤ c.n
          · exact rOf_index g pV s0 s1 s2 pl c w hg hp hv0 hm hl h34 hn
          · have hcn : 0 ≤ c.n := by
              rcases h34 with h | h
              · have := (Isa.mayB_tile h).1 hm; omega
              · have := (Isa.mayB_kernel h).1 hm; omega
            obtain ⟨n, hcn⟩ := Int.eq_ofNat_of_zero_le hcn
            rcases h34 with h | h
            · exact rOf_tile g pV s0 s1 s2 pl c w hg hp hv0 hm hl h n hcn (by omega)
            · exact rOf_kernel g pV s0 s1 s2 pl c w hg hp hv0 hm hl h n hcn (by omega)
        · exact rOf_move g pV s0 s1 s2 pl c w hg hp hv0 hm hl h34
      · exact rOf_len g pV s0 s1 s2 pl c w hg hp hv0 hm hl
    · exact rOf_may g pV s0 s1 s2 pl c w hg hp hv0 (by simpa using hm)
  · exact rOf_values g pV s0 s1 s2 pl c w hg hp hv0

set_option maxHeartbeats 1600000 in
theorem engine_calls (c : Isa.Cm) (w : World) : Calls Try.prog 29 #[.agg #[.int .i64 c.k, .int .i64 c.s, .int .i64 c.n, .int .i64 c.f, .int .i64 c.r, .int .i64 c.o, .int .i64 c.d, .int .i64 c.p, .int .i64 c.i0, .int .i64 c.i1, .int .i64 c.b0, .int .i64 c.b1, .int .i64 c.h0, .int .i64 c.h1]] w fun e w' => e = .returned (.int .i64 (engineZ c)) ∧ Ext w w' := by
  have HV : Hid (engineZ c = if c.k = 1 ∨ c.k = 2 then 0 else if c.k = 3 then 1 else if c.k = 4 then 2 else -1) := rfl
  have hE := ext_alloc w (.cells #[.int .i64 c.k, .int .i64 c.s, .int .i64 c.n, .int .i64 c.f, .int .i64 c.r, .int .i64 c.o, .int .i64 c.d, .int .i64 c.p, .int .i64 c.i0, .int .i64 c.i1, .int .i64 c.b0, .int .i64 c.b1, .int .i64 c.h0, .int .i64 c.h1] 57)
  generalize engineZ c = z at *
  rcases (by omega : c.k = 1 ∨ c.k = 2 ∨ c.k = 3 ∨ c.k = 4 ∨ ¬ (c.k = 1 ∨ c.k = 2 ∨ c.k = 3 ∨ c.k = 4)) with h | h | h | h | h
  · have k1 : (c.k == 1) = true := by rw [beq_iff_eq]; omega
    have hz : Hid (z = 0) := by show _ = _; rw [HV.out, if_pos (by omega)]
    clear HV h
    go_enter Try.func29, Try.ntmps29
    go_wp2
    go_ret
    exact ⟨ret_int hz.out.symm, hE⟩
  · have k1 : (c.k == 1) = false := by rw [beq_eq_false_iff_ne]; omega
    have k2 : (c.k == 2) = true := by rw [beq_iff_eq]; omega
    have hz : Hid (z = 0) := by show _ = _; rw [HV.out, if_pos (by omega)]
    clear HV h
    go_enter Try.func29, Try.ntmps29
    go_wp2
    go_ret
    exact ⟨ret_int hz.out.symm, hE⟩
  · have k1 : (c.k == 1) = false := by rw [beq_eq_false_iff_ne]; omega
    have k2 : (c.k == 2) = false := by rw [beq_eq_false_iff_ne]; omega
    have k3 : (c.k == 3) = true := by rw [beq_iff_eq]; omega
    have hz : Hid (z = 1) := by show _ = _; rw [HV.out, if_neg (by omega), if_pos (by omega)]
    clear HV h
    go_enter Try.func29, Try.ntmps29
    go_wp2
    go_ret
    exact ⟨ret_int hz.out.symm, hE⟩
  · have k1 : (c.k == 1) = false := by rw [beq_eq_false_iff_ne]; omega
    have k2 : (c.k == 2) = false := by rw [beq_eq_false_iff_ne]; omega
    have k3 : (c.k == 3) = false := by rw [beq_eq_false_iff_ne]; omega
    have k4 : (c.k == 4) = true := by rw [beq_iff_eq]; omega
    have hz : Hid (z = 2) := by show _ = _; rw [HV.out, if_neg (by omega), if_neg (by omega), if_pos (by omega)]
    clear HV h
    go_enter Try.func29, Try.ntmps29
    go_wp2
    go_ret
    exact ⟨ret_int hz.out.symm, hE⟩
  · have k1 : (c.k == 1) = false := by rw [beq_eq_false_iff_ne]; omega
    have k2 : (c.k == 2) = false := by rw [beq_eq_false_iff_ne]; omega
    have k3 : (c.k == 3) = false := by rw [beq_eq_false_iff_ne]; omega
    have k4 : (c.k == 4) = false := by rw [beq_eq_false_iff_ne]; omega
    have hz : Hid (z = -1) := by show _ = _; rw [HV.out, if_neg (by omega), if_neg (by omega), if_neg (by omega)]
    clear HV h
    go_enter Try.func29, Try.ntmps29
    go_wp2
    go_ret
    exact ⟨ret_int hz.out.symm, hE⟩

set_option maxHeartbeats 1600000 in
theorem rEngine_calls (c : Isa.Cm) (w : World) : Calls Try.prog 30 #[.agg #[.int .i64 c.k, .int .i64 c.s, .int .i64 c.n, .int .i64 c.f, .int .i64 c.r, .int .i64 c.o, .int .i64 c.d, .int .i64 c.p, .int .i64 c.i0, .int .i64 c.i1, .int .i64 c.b0, .int .i64 c.b1, .int .i64 c.h0, .int .i64 c.h1]] w fun e w' => e = .returned (.int .i64 (engineZ c)) ∧ Ext w w' := by
  have HV : Hid (engineZ c = if c.k = 1 ∨ c.k = 2 then 0 else if c.k = 3 then 1 else if c.k = 4 then 2 else -1) := rfl
  have hE := ext_alloc w (.cells #[.int .i64 c.k, .int .i64 c.s, .int .i64 c.n, .int .i64 c.f, .int .i64 c.r, .int .i64 c.o, .int .i64 c.d, .int .i64 c.p, .int .i64 c.i0, .int .i64 c.i1, .int .i64 c.b0, .int .i64 c.b1, .int .i64 c.h0, .int .i64 c.h1] 57)
  generalize engineZ c = z at *
  rcases (by omega : c.k = 1 ∨ c.k = 2 ∨ c.k = 3 ∨ c.k = 4 ∨ ¬ (c.k = 1 ∨ c.k = 2 ∨ c.k = 3 ∨ c.k = 4)) with h | h | h | h | h
  · have k1 : (c.k == 1) = true := by rw [beq_iff_eq]; omega
    have hz : Hid (z = 0) := by show _ = _; rw [HV.out, if_pos (by omega)]
    clear HV h
    go_enter Try.func30, Try.ntmps30
    go_wp2
    go_ret
    exact ⟨ret_int hz.out.symm, hE⟩
  · have k1 : (c.k == 1) = false := by rw [beq_eq_false_iff_ne]; omega
    have k2 : (c.k == 2) = true := by rw [beq_iff_eq]; omega
    have hz : Hid (z = 0) := by show _ = _; rw [HV.out, if_pos (by omega)]
    clear HV h
    go_enter Try.func30, Try.ntmps30
    go_wp2
    go_ret
    exact ⟨ret_int hz.out.symm, hE⟩
  · have k1 : (c.k == 1) = false := by rw [beq_eq_false_iff_ne]; omega
    have k2 : (c.k == 2) = false := by rw [beq_eq_false_iff_ne]; omega
    have k3 : (c.k == 3) = true := by rw [beq_iff_eq]; omega
    have hz : Hid (z = 1) := by show _ = _; rw [HV.out, if_neg (by omega), if_pos (by omega)]
    clear HV h
    go_enter Try.func30, Try.ntmps30
    go_wp2
    go_ret
    exact ⟨ret_int hz.out.symm, hE⟩
  · have k1 : (c.k == 1) = false := by rw [beq_eq_false_iff_ne]; omega
    have k2 : (c.k == 2) = false := by rw [beq_eq_false_iff_ne]; omega
    have k3 : (c.k == 3) = false := by rw [beq_eq_false_iff_ne]; omega
    have k4 : (c.k == 4) = true := by rw [beq_iff_eq]; omega
    have hz : Hid (z = 2) := by show _ = _; rw [HV.out, if_neg (by omega), if_neg (by omega), if_pos (by omega)]
    clear HV h
    go_enter Try.func30, Try.ntmps30
    go_wp2
    go_ret
    exact ⟨ret_int hz.out.symm, hE⟩
  · have k1 : (c.k == 1) = false := by rw [beq_eq_false_iff_ne]; omega
    have k2 : (c.k == 2) = false := by rw [beq_eq_false_iff_ne]; omega
    have k3 : (c.k == 3) = false := by rw [beq_eq_false_iff_ne]; omega
    have k4 : (c.k == 4) = false := by rw [beq_eq_false_iff_ne]; omega
    have hz : Hid (z = -1) := by show _ = _; rw [HV.out, if_neg (by omega), if_neg (by omega), if_neg (by omega)]
    clear HV h
    go_enter Try.func30, Try.ntmps30
    go_wp2
    go_ret
    exact ⟨ret_int hz.out.symm, hE⟩


set_option maxRecDepth 20000

theorem eq_b (d : Nat) (w : World) (x y : Bool) : (Op.equalIn (d + 1) 4 (.bool x) (.bool y)).run Try.prog w = .ok (x == y) w := by
  rw [run_equalIn_bool w d _ _ _ Try.underlying4]

theorem span_equal (a b : Sp) (w : World) : (Op.equalIn 10000 70 (.agg #[.int .i64 a.mem, .int .i64 a.frm, .int .i64 a.to, .bool a.wr]) (.agg #[.int .i64 b.mem, .int .i64 b.frm, .int .i64 b.to, .bool b.wr])).run Try.prog w = .ok (decide (a = b)) w := by
  have h : (Op.equalIn (9999 + 1) 70 (.agg #[.int .i64 a.mem, .int .i64 a.frm, .int .i64 a.to, .bool a.wr]) (.agg #[.int .i64 b.mem, .int .i64 b.frm, .int .i64 b.to, .bool b.wr])).run Try.prog w = .ok ((a.mem == b.mem) && ((a.frm == b.frm) && ((a.to == b.to) && ((a.wr == b.wr) && true)))) w := by
    rw [run_equalIn_agg w 9999 _ _ _ (by kernel_rfl) (by kernel_rfl)]
    refine Isa.eqFields_step (by decide) (by kernel_rfl) (by kernel_rfl) (Isa.eq_i64 9998 _ _ _) ?_
    refine Isa.eqFields_step (by decide) (by kernel_rfl) (by kernel_rfl) (Isa.eq_i64 9998 _ _ _) ?_
    refine Isa.eqFields_step (by decide) (by kernel_rfl) (by kernel_rfl) (Isa.eq_i64 9998 _ _ _) ?_
    refine Isa.eqFields_step (by decide) (by kernel_rfl) (by kernel_rfl) (eq_b 9998 _ _ _) ?_
    simp [Op.eqFields]
  rw [show (10000 : Nat) = 9999 + 1 from rfl, h]
  congr 1
  rw [Bool.eq_iff_iff, decide_eq_true_iff]
  simp only [Bool.and_eq_true, beq_iff_eq, and_true]
  obtain ⟨a1, a2, a3, a4⟩ := a
  obtain ⟨b1, b2, b3, b4⟩ := b
  simp

theorem span_neq (a b : Sp) (w : World) : (binOp .neq 70 (.agg #[.int .i64 a.mem, .int .i64 a.frm, .int .i64 a.to, .bool a.wr]) (.agg #[.int .i64 b.mem, .int .i64 b.frm, .int .i64 b.to, .bool b.wr])).run Try.prog w = .ok (.bool (!decide (a = b))) w := by
  have := span_equal a b w
  rw [run_neq_struct, this]
  rfl

end Go.Proofs.Ytdhdbmfipkppiaa

namespace Go.Proofs.Ytdhdbmfipkppiaa
set_option linter.unusedSimpArgs false
set_option linter.unusedVariables false
set_option linter.unnecessarySimpa false
open Go.RowKit

def cmdTy : Ty := .st (i64x 8 (.pair (.st (i64x 2 .unit)) (.pair (.st (i64x 2 .unit)) (.pair (.st (i64x 2 .unit)) .unit))))
def imageTy : Ty := .st (.pair graphTy (.pair (.sl (.int .i64)) (.pair (.st (.pair (.sl cmdTy) (.pair (.sl cmdTy) (.pair (.sl cmdTy) .unit)))) .unit)))

theorem read_cmd {w : World} {cs : Array Value} {d : D} (h : cmdTy.reads w (Value.agg cs).cells.toList d) : ∃ s : Isa.Cm, cs = #[.int .i64 s.k, .int .i64 s.s, .int .i64 s.n, .int .i64 s.f, .int .i64 s.r, .int .i64 s.o, .int .i64 s.d, .int .i64 s.p, .int .i64 s.i0, .int .i64 s.i1, .int .i64 s.b0, .int .i64 s.b1, .int .i64 s.h0, .int .i64 s.h1] := by
  simp only [Value.cells] at h
  obtain ⟨zs, e, hl, _⟩ := reads_ints (k := .i64) cmdTy _ d (by decide) h
  obtain ⟨c, rfl⟩ := Isa.cm_of_list zs hl
  refine ⟨c, ?_⟩
  apply Array.ext'
  simpa [Isa.Cm.l] using e

theorem read_sl {w : World} {T : Ty} {cs : List Value} {d : D} (h : (Ty.sl T).reads w cs d) : ∃ v, cs = [v] := by
  obtain ⟨v, _, _, _, e, _⟩ := h
  exact ⟨v, e⟩

theorem read_image {w : World} {cs : Array Value} {d : D} (h : imageTy.reads w (Value.agg cs).cells.toList d) : ∃ (g : Gr) (pV s0 s1 s2 : Value) (pl : List Int), cs = #[g.iV, g.nV, g.oV, pV, s0, s1, s2] ∧ GrIn w g ∧ Ints .i64 w pV pl := by
  simp only [Value.cells] at h
  obtain ⟨c1, c2, _, _, e, _, h1, ⟨c3, c4, _, _, rfl, _, h2, ⟨c5, c6, _, _, rfl, _, h3, ⟨rfl, _⟩, _⟩, _⟩, _⟩ := h
  obtain ⟨g, hg, hgi⟩ := read_graph (cs := c1.toArray) (by simpa [Value.cells] using h1)
  obtain ⟨pV, pl, rfl, hp, _⟩ := read_ints h2
  obtain ⟨d1, d2, _, _, rfl, _, k1, ⟨d3, d4, _, _, rfl, _, k2, ⟨d5, d6, _, _, rfl, _, k3, ⟨rfl, _⟩, _⟩, _⟩, _⟩ := h3
  obtain ⟨s0, rfl⟩ := read_sl k1
  obtain ⟨s1, rfl⟩ := read_sl k2
  obtain ⟨s2, rfl⟩ := read_sl k3
  have hc1 : c1 = [g.iV, g.nV, g.oV] := by
    have := congrArg Array.toList hg
    simpa using this
  subst hc1
  refine ⟨g, pV, s0, s1, s2, pl, ?_, hgi, hp⟩
  apply Array.ext'
  simpa using e

end Go.Proofs.Ytdhdbmfipkppiaa

namespace Go.Proofs.Ytdhdbmfipkppiaa
set_option linter.unusedSimpArgs false
set_option linter.unusedVariables false
set_option linter.unnecessarySimpa false
open Go.RowKit

set_option maxHeartbeats 1600000 in
/-- Rows that hold the same spans are the same. -/
theorem same12_calls (va vb : Value) (l : List Sp) (w : World) (ha : Spans w va l) (hb : Spans w vb l) :
    Calls Try.prog 28 #[va, vb] w fun e w' => e = .returned (.bool true) ∧ Ext w w' := by
  obtain ⟨A, ca, rfl, ha1, ha2, hac⟩ := ha.form
  obtain ⟨B, cb, rfl, hb1, hb2, hbc⟩ := hb.form
  unfold maxLen at ha2 hb2
  have HA := Lib.hid hac
  have HB := Lib.hid hbc
  clear hac hbc ha hb
  go_enter Try.func28, Try.ntmps28
  go_wp2_with fail
  go_loopw [5] (fun i wr => ∃ k : Nat, k ≤ l.length ∧ i = .int .i64 k ∧ Ext w wr) (fun i _ => l.length - (intOf i).toNat)
  case atStart => exact ⟨0, by omega, rfl, Ext.refl _⟩
  case round =>
    obtain ⟨k, hk, rfl, hw0⟩ := hrel
    by_cases hlt : k < l.length
    · have hs : l[k]? = some l[k] := by simp [hlt]
      obtain ⟨b, off, rfl, c0, c1, c2, c3⟩ := HA.out k _ hs
      obtain ⟨b', off', rfl, d0, d1, d2, d3⟩ := HB.out k _ hs
      replace c0 := cell_ext c0 _ hw0
      replace c1 := cell_ext c1 _ hw0
      replace c2 := cell_ext c2 _ hw0
      replace c3 := cell_ext c3 _ hw0
      replace d0 := cell_ext d0 _ hw0
      replace d1 := cell_ext d1 _ hw0
      replace d2 := cell_ext d2 _ hw0
      replace d3 := cell_ext d3 _ hw0
      generalize l[k] = s at *
      have hq := fun W => span_neq s s W
      simp only [decide_true, Bool.not_true] at hq
      clear hs
      go_upto_region 6 with fail
      have e0 : ∀ W, Ext wr W → World.cell? W ⟨b, off + k * 4, none⟩ = some (.int .i64 s.mem) := fun W h => cell_ext c0 _ h
      have e1 : ∀ W, Ext wr W → World.cell? W ⟨b, off + k * 4 + 1, none⟩ = some (.int .i64 s.frm) := fun W h => cell_ext c1 _ h
      have e2 : ∀ W, Ext wr W → World.cell? W ⟨b, off + k * 4 + 2, none⟩ = some (.int .i64 s.to) := fun W h => cell_ext c2 _ h
      have e3 : ∀ W, Ext wr W → World.cell? W ⟨b, off + k * 4 + 3, none⟩ = some (.bool s.wr) := fun W h => cell_ext c3 _ h
      have f0 : ∀ W, Ext wr W → World.cell? W ⟨b', off' + k * 4, none⟩ = some (.int .i64 s.mem) := fun W h => cell_ext d0 _ h
      have f1 : ∀ W, Ext wr W → World.cell? W ⟨b', off' + k * 4 + 1, none⟩ = some (.int .i64 s.frm) := fun W h => cell_ext d1 _ h
      have f2 : ∀ W, Ext wr W → World.cell? W ⟨b', off' + k * 4 + 2, none⟩ = some (.int .i64 s.to) := fun W h => cell_ext d2 _ h
      have f3 : ∀ W, Ext wr W → World.cell? W ⟨b', off' + k * 4 + 3, none⟩ = some (.bool s.wr) := fun W h => cell_ext d3 _ h
      refine wp_region_S (fun W => Ext wr W) [(0, true), (1, true), (2, true), (3, true), (4, true), (5, true), (6, true), (7, true), (8, true)] (by kernel_rfl) (by kernel_rfl) (fun _ _ d _ _ h => by cases d <;> exact h) (Ext.drew _) ?_
      simp only [pickE, List.getElem?_cons_zero, List.getElem?_cons_succ]
      repeat (first | (refine wpF_pure (by rfl) (fun W hW => by go_simp; with_reducible rfl) ?_; simp only [Act.put, List.setIfInBounds_toArray, List.set_cons_zero, List.set_cons_succ]) | (refine wpF_skip (by rfl) ?_; simp only [Act.put, List.setIfInBounds_toArray, List.set_cons_zero, List.set_cons_succ]))
      have h7 : Ext wr wr.drew := Ext.drew _
      refine wpF_nil ?_
      clear c0 c1 c2 c3 d0 d1 d2 d3 e0 e1 e2 e3 f0 f1 f2 f3
      go_wp2_with fail
      go_roundw
      case rel => exact ⟨k + 1, by omega, by go_num, hw0.trans h7⟩
      case measure => simp [intOf]; omega
    · go_wp2_with fail
      go_ret
      exact ⟨rfl, hw0⟩

end Go.Proofs.Ytdhdbmfipkppiaa
