/- The walk of the writer of graphs: node. -/
import Derived.Test.YtdhdbmfipkppiaaModP
namespace Go.Proofs.Ytdhdbmfipkppiaa
set_option linter.unusedSimpArgs false
set_option linter.unusedVariables false
set_option linter.unnecessarySimpa false
open Go.RowKit

theorem off_base {S : Side} {w0 w : World} {B : Nat} {v lv : Value} {bs l : List Int} {k : IntKind} (hw : Wr S w0 w B v bs) (hl : Ints k w0 lv l) : Off l lv v B := fun h0 b hb => by
  obtain ⟨b', e, hlt⟩ := Row.lt hl (by simpa using h0)
  rw [hb] at e
  cases e
  have := hw.hB
  exact ⟨by omega, fun e => by have := (hw.ownGe e).1; omega⟩

theorem Wr.sideCell {w0 w : World} {B b : Nat} {v : Value} {bs : List Int} {cs : Array Value} {T : TypeId} (h : Wr [(b, cs, T)] w0 w B v bs) : Blk w b cs T := (h.side _ (List.mem_singleton.2 rfl)).1

set_option maxRecDepth 4000 in
set_option maxHeartbeats 3200000 in
theorem node_calls (n : Nd) (w0 w : World) (B : Nat) (v : Value) (bs : List Int) (hw : Wr [] w0 w B v bs) (hn : nodeAt w0 n) (hlen : bs.length + longN n.c ≤ 100000000) :
    Calls Try.prog 43 #[.pointer (some ⟨B, 0, none⟩), .agg #[.int .i64 n.op, n.inV, .int .i64 n.k, .int .i64 n.st, .int .i64 n.pad, .int .i64 n.out, .int .i64 n.mul, .int .i64 n.sh, .int .i64 n.zero, .int .i64 n.th, .int .i64 n.tw, .int .i64 n.tc, n.wV, n.bV]] w fun e w' => e = .returned (.tuple #[]) ∧ ∃ v', Wr [] w0 w' B v' (bs ++ encN n.c) := by
  obtain ⟨hi, hws, hbs, hbr, hwr, hil, hwl, hbl⟩ := hn
  have hw1 := hw.with #[.int .i64 n.op, n.inV, .int .i64 n.k, .int .i64 n.st, .int .i64 n.pad, .int .i64 n.out, .int .i64 n.mul, .int .i64 n.sh, .int .i64 n.zero, .int .i64 n.th, .int .i64 n.tw, .int .i64 n.tc, n.wV, n.bV] 40
  generalize hNb : w.heap.size = Nb at *
  have hlen' : bs.length + (16 + n.ins.length + n.ws.length + 4 * n.bs.length) ≤ 100000000 := hlen
  have hb := hw1.sideCell
  obtain ⟨Ai, ci, ei, hi1, hi2, _⟩ := id hi.form
  obtain ⟨Aw, cw, ew, hws1, hws2, _⟩ := id hws.form
  obtain ⟨Ab, cb, eb, hbs1, hbs2, _⟩ := id hbs.form
  unfold maxLen at hi2 hws2 hbs2
  have EI := Lib.hid ei
  have EW := Lib.hid ew
  have EB := Lib.hid eb
  clear ei ew eb
  have d0 : World.cell? (w.alloc (.cells #[.int .i64 n.op, n.inV, .int .i64 n.k, .int .i64 n.st, .int .i64 n.pad, .int .i64 n.out, .int .i64 n.mul, .int .i64 n.sh, .int .i64 n.zero, .int .i64 n.th, .int .i64 n.tw, .int .i64 n.tc, n.wV, n.bV] 40)) ⟨Nb, 0, none⟩ = some (.int .i64 n.op) := hb.cell 0
  have d1 : World.cell? (w.alloc (.cells #[.int .i64 n.op, n.inV, .int .i64 n.k, .int .i64 n.st, .int .i64 n.pad, .int .i64 n.out, .int .i64 n.mul, .int .i64 n.sh, .int .i64 n.zero, .int .i64 n.th, .int .i64 n.tw, .int .i64 n.tc, n.wV, n.bV] 40)) ⟨Nb, 1, none⟩ = some (.slice Ai n.ins.length ci) := by rw [← EI.out]; exact hb.cell 1
  have hS := hw.with #[.int .i64 n.op, n.inV, .int .i64 n.k, .int .i64 n.st, .int .i64 n.pad, .int .i64 n.out, .int .i64 n.mul, .int .i64 n.sh, .int .i64 n.zero, .int .i64 n.th, .int .i64 n.tw, .int .i64 n.tc, n.wV, n.bV] 40
  go_enter Try.func43, Try.ntmps43
  go_upto_region 1 with fail
  clear hS hw
  generalize w.alloc _ = w1 at *
  have hl1 : bs.length + [n.op, (n.ins.length : Int)].length ≤ 100000000 := by simp; omega
  go_upto_region 2 with (go_at_call 42; refine (putl_calls hw1 [n.op, n.ins.length] rfl rfl hl1).mono ?_; rintro e w2 ⟨rfl, v2, hw2⟩)
  clear d0 d1 hb hl1 hw1
  have d1 : World.cell? w2 ⟨Nb, 1, none⟩ = some n.inV := hw2.sideCell.cell 1
  have hl1 : (bs ++ [n.op, (n.ins.length : Int)].map b8).length + n.ins.length ≤ 100000000 := by simp; omega
  have hp := put_calls w0 w2 B v2 n.inV _ n.ins hw2 (hi.ext hw2.ext) (off_base hw2 hi) hl1
  go_upto_region 3 with (go_at_call 42; refine hp.mono ?_; rintro e w3 ⟨rfl, v3, hw3⟩)
  clear d1 hp hl1 hw2
  have d2 : World.cell? w3 ⟨Nb, 2, none⟩ = some (.int .i64 n.k) := hw3.sideCell.cell 2
  have d3 : World.cell? w3 ⟨Nb, 3, none⟩ = some (.int .i64 n.st) := hw3.sideCell.cell 3
  have d4 : World.cell? w3 ⟨Nb, 4, none⟩ = some (.int .i64 n.pad) := hw3.sideCell.cell 4
  have d5 : World.cell? w3 ⟨Nb, 5, none⟩ = some (.int .i64 n.out) := hw3.sideCell.cell 5
  have d6 : World.cell? w3 ⟨Nb, 6, none⟩ = some (.int .i64 n.mul) := hw3.sideCell.cell 6
  have d7 : World.cell? w3 ⟨Nb, 7, none⟩ = some (.int .i64 n.sh) := hw3.sideCell.cell 7
  have d8 : World.cell? w3 ⟨Nb, 8, none⟩ = some (.int .i64 n.zero) := hw3.sideCell.cell 8
  have d9 : World.cell? w3 ⟨Nb, 9, none⟩ = some (.int .i64 n.th) := hw3.sideCell.cell 9
  have d10 : World.cell? w3 ⟨Nb, 10, none⟩ = some (.int .i64 n.tw) := hw3.sideCell.cell 10
  have d11 : World.cell? w3 ⟨Nb, 11, none⟩ = some (.int .i64 n.tc) := hw3.sideCell.cell 11
  have d12 : World.cell? w3 ⟨Nb, 12, none⟩ = some (.slice Aw n.ws.length cw) := by rw [← EW.out]; exact hw3.sideCell.cell 12
  have hl1 : (bs ++ [n.op, (n.ins.length : Int)].map b8 ++ n.ins.map b8).length + 13 ≤ 100000000 := by simp; omega
  go_upto_region 4 with (go_at_call 42; refine (putl_calls hw3 [n.k, n.st, n.pad, n.out, n.mul / 256, n.mul, n.sh, n.zero, n.th, n.tw, n.tc, (n.ws.length : Int) / 256, n.ws.length] rfl rfl hl1).mono ?_; rintro e w4 ⟨rfl, v4, hw4⟩)
  clear d2 d3 d4 d5 d6 d7 d8 d9 d10 d11 d12 hl1 hw3
  have HB3 : Hid (bs ++ [n.op, (n.ins.length : Int)].map b8 ++ n.ins.map b8 ++ [n.k, n.st, n.pad, n.out, n.mul / 256, n.mul, n.sh, n.zero, n.th, n.tw, n.tc, (n.ws.length : Int) / 256, n.ws.length].map b8 ++ n.ws.map b8 ++ [(n.bs.length : Int)].map b8 ++ n.bs.flatMap encB = bs ++ encN n.c) := by
    show _ = _
    simp [encN, Nd.c, List.append_assoc]
  have hl3 : (bs ++ [n.op, (n.ins.length : Int)].map b8 ++ n.ins.map b8 ++ [n.k, n.st, n.pad, n.out, n.mul / 256, n.mul, n.sh, n.zero, n.th, n.tw, n.tc, (n.ws.length : Int) / 256, n.ws.length].map b8).length = bs.length + 15 + n.ins.length := by simp; omega
  generalize bs ++ [n.op, (n.ins.length : Int)].map b8 ++ n.ins.map b8 ++ [n.k, n.st, n.pad, n.out, n.mul / 256, n.mul, n.sh, n.zero, n.th, n.tw, n.tc, (n.ws.length : Int) / 256, n.ws.length].map b8 = b3 at *
  have d12 : World.cell? w4 ⟨Nb, 10 + 2, none⟩ = some (.slice Aw n.ws.length cw) := by rw [← EW.out]; exact hw4.sideCell.cell 12
  go_wp2_with fail
  clear d12
  go_loopw [59] (fun i wr => ∃ (k : Nat) (v : Value), k ≤ n.ws.length ∧ i = .int .i64 k ∧ Wr [(Nb, #[.int .i64 n.op, n.inV, .int .i64 n.k, .int .i64 n.st, .int .i64 n.pad, .int .i64 n.out, .int .i64 n.mul, .int .i64 n.sh, .int .i64 n.zero, .int .i64 n.th, .int .i64 n.tw, .int .i64 n.tc, n.wV, n.bV], 40)] w0 wr B v (b3 ++ (n.ws.take k).map b8)) (fun i _ => n.ws.length - (intOf i).toNat)
  case atStart => exact ⟨0, v4, by omega, rfl, by simpa using hw4⟩
  case round =>
    clear hw4
    obtain ⟨k, v, hk, rfl, hw⟩ := hrel
    by_cases hlt : k < n.ws.length
    · obtain ⟨A', c', e', _, _, hcell⟩ := (hws.ext hw.ext).form
      rw [EW.out] at e'
      cases e'
      obtain ⟨b, off, rfl, x0⟩ := hcell k hlt
      rw [show n.ws[k]?.getD 0 = n.ws[k] by simp [hlt]] at x0
      have HT : Hid (n.ws.take (k + 1) = n.ws.take k ++ [n.ws[k]]) := List.take_succ_eq_append_getElem hlt
      have hz := hwr n.ws[k] (List.getElem_mem hlt)
      clear hcell hws hbs hi hbr hwr
      generalize n.ws[k] = z at *
      obtain ⟨hz1, hz2⟩ := hz
      have hlk : (b3 ++ (n.ws.take k).map b8).length + [z].length ≤ 100000000 := by simp; omega
      go_wp2_with (go_at_call 42; refine (putl_calls hw [z] rfl rfl hlk).mono ?_; rintro e w5 ⟨rfl, v5, hw5⟩)
      go_roundw
      case rel => exact ⟨k + 1, v5, by omega, by go_num, by rw [HT.out, List.map_append, ← List.append_assoc]; exact hw5⟩
      case measure => simp [intOf]; omega
    · have e : n.ws.take k = n.ws := List.take_of_length_le (by omega)
      rw [e] at hw
      have d11 : World.cell? wr ⟨Nb, 13, none⟩ = some (.slice Ab n.bs.length cb) := by rw [← EB.out]; exact hw.sideCell.cell 13
      go_upto_region 9 with fail
      have hl4 : (b3 ++ n.ws.map b8).length + [(n.bs.length : Int)].length ≤ 100000000 := by simp; omega
      go_upto_region 10 with (go_at_call 42; refine (putl_calls hw [(n.bs.length : Int)] rfl rfl hl4).mono ?_; rintro e w6 ⟨rfl, v6, hw6⟩)
      clear d11 hl4 hw hlt hk e
      have d11 : World.cell? w6 ⟨Nb, 13, none⟩ = some (.slice Ab n.bs.length cb) := by rw [← EB.out]; exact hw6.sideCell.cell 13
      have hl5 : (b3 ++ n.ws.map b8 ++ [(n.bs.length : Int)].map b8).length = bs.length + 16 + n.ins.length + n.ws.length := by simp; omega
      generalize b3 ++ n.ws.map b8 ++ [(n.bs.length : Int)].map b8 = b5 at *
      go_wp2_with fail
      clear d11
      go_loopw [78] (fun i wr => ∃ (k : Nat) (v : Value), k ≤ n.bs.length ∧ i = .int .i64 k ∧ Wr [(Nb, #[.int .i64 n.op, n.inV, .int .i64 n.k, .int .i64 n.st, .int .i64 n.pad, .int .i64 n.out, .int .i64 n.mul, .int .i64 n.sh, .int .i64 n.zero, .int .i64 n.th, .int .i64 n.tw, .int .i64 n.tc, n.wV, n.bV], 40)] w0 wr B v (b5 ++ (n.bs.take k).flatMap encB)) (fun i _ => n.bs.length - (intOf i).toNat)
      case atStart => exact ⟨0, v6, by omega, rfl, by simpa using hw6⟩
      case round =>
        clear hw6
        obtain ⟨k, v, hk, rfl, hw⟩ := hrel
        by_cases hlt : k < n.bs.length
        · obtain ⟨A', c', e', _, _, hcell⟩ := (hbs.ext hw.ext).form
          rw [EB.out] at e'
          cases e'
          obtain ⟨b, off, rfl, x0⟩ := hcell k hlt
          rw [show n.bs[k]?.getD 0 = n.bs[k] by simp [hlt]] at x0
          have HT : Hid (n.bs.take (k + 1) = n.bs.take k ++ [n.bs[k]]) := List.take_succ_eq_append_getElem hlt
          have hz := hbr n.bs[k] (List.getElem_mem hlt)
          clear hcell hws hbs hi hbr hwr
          generalize n.bs[k] = z at *
          obtain ⟨hz1, hz2⟩ := hz
          have hlk : (b5 ++ (n.bs.take k).flatMap encB).length + [z / 16777216, z / 65536, z / 256, z].length ≤ 100000000 := by
            rw [List.length_append, flat_len encB 4 (fun _ => rfl), List.length_take, hl5]
            simp only [List.length_cons, List.length_nil]
            omega
          go_wp2_with (go_at_call 42; refine (putl_calls hw [z / 16777216, z / 65536, z / 256, z] rfl rfl hlk).mono ?_; rintro e w7 ⟨rfl, v7, hw7⟩)
          go_roundw
          case rel => exact ⟨k + 1, v7, by omega, by go_num, by rw [HT.out, List.flatMap_append, ← List.append_assoc]; simpa [encB] using hw7⟩
          case measure => simp [intOf]; omega
        · have e : n.bs.take k = n.bs := List.take_of_length_le (by omega)
          rw [e, HB3.out] at hw
          go_wp2_with fail
          go_end0
          exact ⟨rfl, v, hw.bare⟩

end Go.Proofs.Ytdhdbmfipkppiaa
