/- The walk of the reference's node as bytes. -/
import Derived.Test.YtdhdbmfipkppiaaGreatModY
set_option linter.unusedSimpArgs false
set_option linter.unusedVariables false
set_option linter.unnecessarySimpa false
namespace Go.Proofs.YtdhdbmfipkppiaaGreat
open Go.RowKit

/-- A row of bytes under way, beside a box. -/
structure Rw (w0 w : World) (v : Value) (bs : List Int) (Nb : Nat) (cs : Array Value) (T : TypeId) : Prop where
  own : OwnB w0 w v bs
  ext : Ext w0 w
  box : Blk w Nb cs T
  ne : v.ownBlock ≠ some Nb

theorem Rw.step {w0 w w' : World} {v v' : Value} {bs ys : List Int} {Nb : Nat} {cs : Array Value} {T : TypeId} (h : Rw w0 w v bs Nb cs T) (g : Grew w w0.heap.size 5 1 v ys.length (ys.map (.int .u8)) w' v') : Rw w0 w' v' ys Nb cs T :=
  ⟨g.own, Below.grown h.ext g.grown h.ext.size (fun k hk => (h.own.lt k hk).1), h.box.grown g.grown (fun e => h.ne e.symm), fun e => by
    rcases g.near _ e with h1 | h1
    · exact h.ne h1
    · have := h.box.lt; omega⟩
theorem Rw.later {w0 w w' : World} {v : Value} {bs : List Int} {Nb : Nat} {cs : Array Value} {T : TypeId} (h : Rw w0 w v bs Nb cs T) (e : Ext w w') : Rw w0 w' v bs Nb cs T := ⟨h.own.ext e, h.ext.trans e, h.box.ext e, h.ne⟩

section
variable {w0 w : World} {v : Value} {bs : List Int} {Nb : Nat} {cs : Array Value} {T : TypeId}
theorem somel_calls (hw : Rw w0 w v bs Nb cs T) (l : List Int) {cs' : Array Value} {n : Nat} (hc : cs'.toList = l.map (.int .i64)) (hn : n = l.length) (hlen : bs.length + l.length ≤ 100000000) :
    Calls Tryz.prog 74 #[v, .slice (some ⟨w.heap.size, 0, none⟩) n n] (w.alloc (.cells cs' 3)) fun e w' => ∃ v', e = .returned v' ∧ Rw w0 w' v' (bs ++ l.map b8) Nb cs T := by
  subst hn
  have hs : cs'.size = l.length := by rw [← Array.length_toList, hc, List.length_map]
  have hr := row_new w cs' 3 l.length 1 (by omega) (by unfold maxLen; omega)
  rw [hc] at hr
  have hw1 := hw.later (ext_alloc w (.cells cs' 3))
  refine (some_calls w0.heap.size v _ bs l _ hw1.own hw1.ext.size hr (fun _ k hk e => ?_) hlen).mono ?_
  · simp only [Value.ownBlock, Option.some.injEq] at hk
    have := (hw.own.lt _ e).2
    omega
  · rintro e w' ⟨v', rfl, hg⟩
    exact ⟨v', rfl, hw1.step hg⟩
theorem somer_calls (hw : Rw w0 w v bs Nb cs T) {lv : Value} {l : List Int} (hl : Ints .i64 w0 lv l) (hlen : bs.length + l.length ≤ 100000000) :
    Calls Tryz.prog 74 #[v, lv] w fun e w' => ∃ v', e = .returned v' ∧ Rw w0 w' v' (bs ++ l.map b8) Nb cs T := by
  refine (some_calls w0.heap.size v lv bs l w hw.own hw.ext.size (hl.ext hw.ext) (fun h0 k hk e => ?_) hlen).mono ?_
  · obtain ⟨b, e1, hlt⟩ := Row.lt hl (by simpa using h0)
    rw [hk] at e1
    cases e1
    have := (hw.own.lt _ e).1
    omega
  · rintro e w' ⟨v', rfl, hg⟩
    exact ⟨v', rfl, hw.step hg⟩
theorem numl_calls (hw : Rw w0 w v bs Nb cs T) (x : Int) (wide : Nat) (h8 : wide ≤ 8) (hlen : bs.length + wide ≤ 100000000) :
    Calls Tryz.prog 93 #[v, .int .i64 x, .int .i64 wide] w fun e w' => ∃ v', e = .returned v' ∧ Rw w0 w' v' (bs ++ be x wide) Nb cs T := by
  refine (number04_calls w0.heap.size v bs x wide w hw.own hw.ext.size h8 (by omega)).mono ?_
  rintro e w' ⟨v', rfl, hg⟩
  exact ⟨v', rfl, hw.step hg⟩
end

theorem be2 (x : Int) : be x 2 = [b8 (x / 256), b8 x] := by
  simp [be, byteAt, b8, List.range_succ]
theorem be4 (x : Int) : be x 4 = encB x := by
  simp [be, byteAt, encB, b8, List.range_succ]

set_option maxRecDepth 8000 in
set_option maxHeartbeats 6400000 in
theorem node04_calls (n : Nd) (w0 w : World) (v : Value) (bs : List Int) (hown : OwnB w0 w v bs) (hE : Ext w0 w) (hn : nodeAt w0 n) (hlen : bs.length + longN n.c ≤ 100000000) :
    Calls Tryz.prog 75 #[v, .agg #[.int .i64 n.op, n.inV, .int .i64 n.k, .int .i64 n.st, .int .i64 n.pad, .int .i64 n.out, .int .i64 n.mul, .int .i64 n.sh, .int .i64 n.zero, .int .i64 n.th, .int .i64 n.tw, .int .i64 n.tc, n.wV, n.bV]] w fun e w' => ∃ v', e = .returned v' ∧ OwnB w0 w' v' (bs ++ encN n.c) ∧ Ext w0 w' := by
  obtain ⟨hi, hws, hbs, hbr, hwr, hil, hwl, hbl⟩ := hn
  have hw1' : Rw w0 (w.alloc (.cells #[.int .i64 n.op, n.inV, .int .i64 n.k, .int .i64 n.st, .int .i64 n.pad, .int .i64 n.out, .int .i64 n.mul, .int .i64 n.sh, .int .i64 n.zero, .int .i64 n.th, .int .i64 n.tw, .int .i64 n.tc, n.wV, n.bV] 67)) v bs w.heap.size #[.int .i64 n.op, n.inV, .int .i64 n.k, .int .i64 n.st, .int .i64 n.pad, .int .i64 n.out, .int .i64 n.mul, .int .i64 n.sh, .int .i64 n.zero, .int .i64 n.th, .int .i64 n.tw, .int .i64 n.tc, n.wV, n.bV] 67 := ⟨hown.ext (ext_alloc _ _), hE.trans (ext_alloc _ _), Blk.new _ _ _, fun e => by have := (hown.lt _ e).2; omega⟩
  generalize hNb : w.heap.size = Nb at *
  have hlen' : bs.length + (16 + n.ins.length + n.ws.length + 4 * n.bs.length) ≤ 100000000 := hlen
  obtain ⟨Ai, ci, ei, hi1, hi2, _⟩ := id hi.form
  obtain ⟨Aw, cw, ew, hws1, hws2, _⟩ := id hws.form
  obtain ⟨Ab, cb, eb, hbs1, hbs2, _⟩ := id hbs.form
  unfold maxLen at hi2 hws2 hbs2
  have EI := Lib.hid ei
  have EW := Lib.hid ew
  have EB := Lib.hid eb
  clear ei ew eb hown hE hlen
  have HB3 : Hid (bs ++ [n.op, (n.ins.length : Int)].map b8 ++ n.ins.map b8 ++ [n.k, n.st, n.pad, n.out].map b8 ++ be n.mul 2 ++ [n.sh, n.zero, n.th, n.tw, n.tc].map b8 ++ be (n.ws.length : Int) 2 ++ n.ws.map b8 ++ [b8 (n.bs.length : Int)] ++ n.bs.flatMap encB = bs ++ encN n.c) := by
    show _ = _
    simp [encN, Nd.c, be2, List.append_assoc]
  go_enter Tryz.func75, Tryz.ntmps75
  go_upto_region 1 with fail
  generalize w.alloc _ = w1 at *
  have hw1 := hw1'
  clear hw1'
  have d0 : World.cell? w1 ⟨Nb, 0, none⟩ = some (.int .i64 n.op) := hw1.box.cell 0
  have d1 : World.cell? w1 ⟨Nb, 1, none⟩ = some (.slice Ai n.ins.length ci) := by rw [← EI.out]; exact hw1.box.cell 1
  have hc := somel_calls hw1 [n.op, (n.ins.length : Int)] (cs' := #[.int .i64 n.op, .int .i64 n.ins.length]) rfl rfl (by simp; omega)
  go_upto_region 2 with (first | (go_at_call 74; refine hc.mono ?_; rintro e w2 ⟨v2, rfl, hw2⟩) | (go_at_call 93; refine hc.mono ?_; rintro e w2 ⟨v2, rfl, hw2⟩))
  clear hc hw1 d0 d1
  have d1 : World.cell? w2 ⟨Nb, 1, none⟩ = some n.inV := hw2.box.cell 1
  have hc := somer_calls hw2 hi (by simp; omega)
  go_upto_region 3 with (first | (go_at_call 74; refine hc.mono ?_; rintro e w3 ⟨v3, rfl, hw3⟩) | (go_at_call 93; refine hc.mono ?_; rintro e w3 ⟨v3, rfl, hw3⟩))
  clear hc hw2 d1
  have d2 : World.cell? w3 ⟨Nb, 2, none⟩ = some (.int .i64 n.k) := hw3.box.cell 2
  have d3 : World.cell? w3 ⟨Nb, 3, none⟩ = some (.int .i64 n.st) := hw3.box.cell 3
  have d4 : World.cell? w3 ⟨Nb, 4, none⟩ = some (.int .i64 n.pad) := hw3.box.cell 4
  have d5 : World.cell? w3 ⟨Nb, 5, none⟩ = some (.int .i64 n.out) := hw3.box.cell 5
  have hc := somel_calls hw3 [n.k, n.st, n.pad, n.out] (cs' := #[.int .i64 n.k, .int .i64 n.st, .int .i64 n.pad, .int .i64 n.out]) rfl rfl (by simp; omega)
  go_upto_region 4 with (first | (go_at_call 74; refine hc.mono ?_; rintro e w4 ⟨v4, rfl, hw4⟩) | (go_at_call 93; refine hc.mono ?_; rintro e w4 ⟨v4, rfl, hw4⟩))
  clear hc hw3 d2 d3 d4 d5
  have d6 : World.cell? w4 ⟨Nb, 6, none⟩ = some (.int .i64 n.mul) := hw4.box.cell 6
  have hc := numl_calls hw4 n.mul 2 (by omega) (by simp; omega)
  go_upto_region 5 with (first | (go_at_call 74; refine hc.mono ?_; rintro e w5 ⟨v5, rfl, hw5⟩) | (go_at_call 93; refine hc.mono ?_; rintro e w5 ⟨v5, rfl, hw5⟩))
  clear hc hw4 d6
  have d7 : World.cell? w5 ⟨Nb, 7, none⟩ = some (.int .i64 n.sh) := hw5.box.cell 7
  have d8 : World.cell? w5 ⟨Nb, 8, none⟩ = some (.int .i64 n.zero) := hw5.box.cell 8
  have d9 : World.cell? w5 ⟨Nb, 9, none⟩ = some (.int .i64 n.th) := hw5.box.cell 9
  have d10 : World.cell? w5 ⟨Nb, 10, none⟩ = some (.int .i64 n.tw) := hw5.box.cell 10
  have d11 : World.cell? w5 ⟨Nb, 11, none⟩ = some (.int .i64 n.tc) := hw5.box.cell 11
  have hc := somel_calls hw5 [n.sh, n.zero, n.th, n.tw, n.tc] (cs' := #[.int .i64 n.sh, .int .i64 n.zero, .int .i64 n.th, .int .i64 n.tw, .int .i64 n.tc]) rfl rfl (by simp [be_len]; omega)
  go_upto_region 6 with (first | (go_at_call 74; refine hc.mono ?_; rintro e w6 ⟨v6, rfl, hw6⟩) | (go_at_call 93; refine hc.mono ?_; rintro e w6 ⟨v6, rfl, hw6⟩))
  clear hc hw5 d7 d8 d9 d10 d11
  have d12 : World.cell? w6 ⟨Nb, 12, none⟩ = some (.slice Aw n.ws.length cw) := by rw [← EW.out]; exact hw6.box.cell 12
  have hc := numl_calls hw6 (n.ws.length : Int) 2 (by omega) (by simp [be_len]; omega)
  go_upto_region 7 with (first | (go_at_call 74; refine hc.mono ?_; rintro e w7 ⟨v7, rfl, hw7⟩) | (go_at_call 93; refine hc.mono ?_; rintro e w7 ⟨v7, rfl, hw7⟩))
  clear hc hw6 d12
  have hl7 : (bs ++ [n.op, (n.ins.length : Int)].map b8 ++ n.ins.map b8 ++ [n.k, n.st, n.pad, n.out].map b8 ++ be n.mul 2 ++ [n.sh, n.zero, n.th, n.tw, n.tc].map b8 ++ be (n.ws.length : Int) 2).length = bs.length + 15 + n.ins.length := by simp [be_len]; omega
  generalize bs ++ [n.op, (n.ins.length : Int)].map b8 ++ n.ins.map b8 ++ [n.k, n.st, n.pad, n.out].map b8 ++ be n.mul 2 ++ [n.sh, n.zero, n.th, n.tw, n.tc].map b8 ++ be (n.ws.length : Int) 2 = b7 at *
  go_wp2_with fail
  go_loopw [0, 5] (fun u0 i wr => ∃ (u : Value) (k : Nat), u = u0 ∧ k ≤ n.ws.length ∧ i = .int .i64 k ∧ Rw w0 wr u (b7 ++ (n.ws.take k).map b8) Nb #[.int .i64 n.op, n.inV, .int .i64 n.k, .int .i64 n.st, .int .i64 n.pad, .int .i64 n.out, .int .i64 n.mul, .int .i64 n.sh, .int .i64 n.zero, .int .i64 n.th, .int .i64 n.tw, .int .i64 n.tc, n.wV, n.bV] 67) (fun _ i _ => n.ws.length - (intOf i).toNat)
  case atStart => exact ⟨_, 0, rfl, by omega, rfl, by simpa using hw7⟩
  case round =>
    clear hw7
    obtain ⟨u, k, rfl, hk, rfl, hw⟩ := hrel
    have d12 : World.cell? wr ⟨Nb, 12, none⟩ = some (.slice Aw n.ws.length cw) := by rw [← EW.out]; exact hw.box.cell 12
    by_cases hlt : k < n.ws.length
    · obtain ⟨A', c', e', _, _, hcell⟩ := (hws.ext hw.ext).form
      rw [EW.out] at e'
      cases e'
      obtain ⟨b, off, rfl, x0⟩ := hcell k hlt
      rw [show n.ws[k]?.getD 0 = n.ws[k] by simp [hlt]] at x0
      have HT : Hid (n.ws.take (k + 1) = n.ws.take k ++ [n.ws[k]]) := List.take_succ_eq_append_getElem hlt
      have hz := hwr n.ws[k] (List.getElem_mem hlt)
      clear hcell hws hbs hi hbr hwr
      generalize n.ws[k] = z at *
      obtain ⟨hz1, hz2⟩ := hz
      have hlk : (b7 ++ (n.ws.take k).map b8).length ≤ b7.length + k := by simp; omega
      have hnew := row_new wr #[.int .u8 (z % 256)] 5 1 1 rfl (by decide)
      have hw2 := hw.later (ext_alloc wr (.cells #[.int .u8 (z % 256)] 5))
      have hown2 := hw2.own
      have hone : ∀ u ∈ #[Value.int .u8 (z % 256)].toList, u.oneCell' = true := by intro u hu; simp at hu; subst hu; rfl
      have hbs2 := hw2.ext.size
      have hk1 : (b7 ++ (n.ws.take k).map b8).length + 1 ≤ 140737488355328 := by omega
      have hk2 : ((b7 ++ (n.ws.take k).map b8).length + 1) * 1 ≤ 140737488355328 := by omega
      have HW := Lib.hid hw2
      clear hw hw2
      go_wp2_with (at_builtin; refine wpList_append_row rfl rfl elem_u8 hown2 rfl hnew rfl hone hk1 hk2 hbs2 ?_; intro v' w' ho hgr hn)
      have hw3 : Rw w0 w' v' (b7 ++ (n.ws.take (k + 1)).map b8) Nb #[.int .i64 n.op, n.inV, .int .i64 n.k, .int .i64 n.st, .int .i64 n.pad, .int .i64 n.out, .int .i64 n.mul, .int .i64 n.sh, .int .i64 n.zero, .int .i64 n.th, .int .i64 n.tw, .int .i64 n.tc, n.wV, n.bV] 67 := by
        refine HW.out.step ⟨?_, hgr, hn⟩
        rw [HT.out]
        have e1 : (b7 ++ (n.ws.take k ++ [z]).map b8).length = (b7 ++ (n.ws.take k).map b8).length + 1 := by simp; omega
        have e2 : (b7 ++ (n.ws.take k ++ [z]).map b8).map (Value.int .u8) = (b7 ++ (n.ws.take k).map b8).map (.int .u8) ++ #[Value.int .u8 (z % 256)].toList := by simp [b8]
        rw [e1, e2]
        exact ho
      go_roundw
      case rel => exact ⟨_, k + 1, rfl, by omega, by go_num, hw3⟩
      case measure => simp [intOf]; omega
    · have e : n.ws.take k = n.ws := List.take_of_length_le (by omega)
      rw [e] at hw
      go_upto_region 11 with fail
      clear d12 hlt hk e
      have d13 : World.cell? wr ⟨Nb, 13, none⟩ = some (.slice Ab n.bs.length cb) := by rw [← EB.out]; exact hw.box.cell 13
      have hnew := row_new wr #[.int .u8 (n.bs.length : Int)] 5 1 1 rfl (by decide)
      have hw2 := hw.later (ext_alloc wr (.cells #[.int .u8 (n.bs.length : Int)] 5))
      have hown2 := hw2.own
      have hone : ∀ u ∈ #[Value.int .u8 (n.bs.length : Int)].toList, u.oneCell' = true := by intro u hu; simp at hu; subst hu; rfl
      have hbs2 := hw2.ext.size
      have hl8 : (b7 ++ n.ws.map b8).length = bs.length + 15 + n.ins.length + n.ws.length := by simp; omega
      have hk1 : (b7 ++ n.ws.map b8).length + 1 ≤ 140737488355328 := by omega
      have hk2 : ((b7 ++ n.ws.map b8).length + 1) * 1 ≤ 140737488355328 := by omega
      have HW := Lib.hid hw2
      clear hw hw2
      go_upto_region 12 with (at_builtin; refine wpList_append_row rfl rfl elem_u8 hown2 rfl hnew rfl hone hk1 hk2 hbs2 ?_; intro v8 w8 ho hgr hn)
      have hw8 : Rw w0 w8 v8 (b7 ++ n.ws.map b8 ++ [b8 (n.bs.length : Int)]) Nb #[.int .i64 n.op, n.inV, .int .i64 n.k, .int .i64 n.st, .int .i64 n.pad, .int .i64 n.out, .int .i64 n.mul, .int .i64 n.sh, .int .i64 n.zero, .int .i64 n.th, .int .i64 n.tw, .int .i64 n.tc, n.wV, n.bV] 67 := by
        refine HW.out.step ⟨?_, hgr, hn⟩
        have e1 : (b7 ++ n.ws.map b8 ++ [b8 (n.bs.length : Int)]).length = (b7 ++ n.ws.map b8).length + 1 := by simp; omega
        have e2 : (b7 ++ n.ws.map b8 ++ [b8 (n.bs.length : Int)]).map (Value.int .u8) = (b7 ++ n.ws.map b8).map (.int .u8) ++ #[Value.int .u8 (n.bs.length : Int)].toList := by simp [b8_id (x := (n.bs.length : Int)) (by omega)]
        rw [e1, e2]
        exact ho
      have hl9 : (b7 ++ n.ws.map b8 ++ [b8 (n.bs.length : Int)]).length = bs.length + 16 + n.ins.length + n.ws.length := by simp; simp at hl8; omega
      clear hnew hown2 hone hbs2 hk1 hk2 HW ho hgr hn d13
      generalize b7 ++ n.ws.map b8 ++ [b8 (n.bs.length : Int)] = b9 at *
      go_wp2_with fail
      go_loopw [0, 6] (fun u0 i wr => ∃ (u : Value) (k : Nat), u = u0 ∧ k ≤ n.bs.length ∧ i = .int .i64 k ∧ Rw w0 wr u (b9 ++ (n.bs.take k).flatMap encB) Nb #[.int .i64 n.op, n.inV, .int .i64 n.k, .int .i64 n.st, .int .i64 n.pad, .int .i64 n.out, .int .i64 n.mul, .int .i64 n.sh, .int .i64 n.zero, .int .i64 n.th, .int .i64 n.tw, .int .i64 n.tc, n.wV, n.bV] 67) (fun _ i _ => n.bs.length - (intOf i).toNat)
      case atStart => exact ⟨_, 0, rfl, by omega, rfl, by simpa using hw8⟩
      case round =>
        clear hw8
        obtain ⟨u, k, rfl, hk, rfl, hw⟩ := hrel
        have d13 : World.cell? wr ⟨Nb, 13, none⟩ = some (.slice Ab n.bs.length cb) := by rw [← EB.out]; exact hw.box.cell 13
        by_cases hlt : k < n.bs.length
        · obtain ⟨A', c', e', _, _, hcell⟩ := (hbs.ext hw.ext).form
          rw [EB.out] at e'
          cases e'
          obtain ⟨b, off, rfl, x0⟩ := hcell k hlt
          rw [show n.bs[k]?.getD 0 = n.bs[k] by simp [hlt]] at x0
          have HT : Hid (n.bs.take (k + 1) = n.bs.take k ++ [n.bs[k]]) := List.take_succ_eq_append_getElem hlt
          have hz := hbr n.bs[k] (List.getElem_mem hlt)
          clear hcell hws hbs hi hbr hwr
          generalize n.bs[k] = z at *
          obtain ⟨hz1, hz2⟩ := hz
          have hlk : (b9 ++ (n.bs.take k).flatMap encB).length + 4 ≤ 100000000 := by
            rw [List.length_append, flat_len encB 4 (fun _ => rfl), List.length_take, hl9]
            omega
          have hc := numl_calls hw z 4 (by omega) hlk
          rw [be4] at hc
          clear hw hlk
          go_wp2_with (go_at_call 93; refine hc.mono ?_; rintro e w9 ⟨v9, rfl, hw9⟩)
          go_roundw
          case rel => exact ⟨_, k + 1, rfl, by omega, by go_num, by rw [HT.out, List.flatMap_append, ← List.append_assoc]; simpa using hw9⟩
          case measure => simp [intOf]; omega
        · have e : n.bs.take k = n.bs := List.take_of_length_le (by omega)
          rw [e, HB3.out] at hw
          go_wp2_with fail
          go_ret
          exact ⟨_, rfl, hw.own, hw.ext⟩

end Go.Proofs.YtdhdbmfipkppiaaGreat
