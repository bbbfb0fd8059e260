/- The walk of the reference's Put of graphs. -/
/- The walks of the reference's reader of graphs: num. -/
import Derived.Test.YtdhdbmfipkppiaaGreatModZ
import Derived.Test.YtdhdbmfipkppiaaGreatRfj
import Derived.Test.YtdhdbmfipkppiaaGreatNsaV
set_option linter.unusedSimpArgs false
set_option linter.unusedVariables false
set_option linter.unnecessarySimpa false
namespace Go.Proofs.YtdhdbmfipkppiaaGreat
open Go.RowKit

theorem own_lit04 (w : World) (x : Value) (T : TypeId) : (w.alloc (.cells #[x] T)).ownsRow w.heap.size T 1 (.slice (some ⟨w.heap.size, 0, none⟩) 1 1) 1 [x] :=
  ⟨rfl, .inr ⟨w.heap.size, 1, #[x], rfl, Nat.le_refl _, heap_alloc_new w _, Nat.le_refl _, by unfold maxLen; omega, rfl, rfl⟩⟩

set_option maxRecDepth 8000 in
set_option maxHeartbeats 6400000 in
theorem put04_calls (g : Gr) (w : World) (hg : GrAt w g) :
    Calls Tryz.prog 45 #[.agg #[g.iV, g.nV, g.oV]] w (PutPost g w) := by
  have hok : (valuesR g).2 = 0 → GoodG g := fun h => valid_ok h (fun n hn => (hg.each n hn).isIn)
  have HP : Hid (∀ e w', (((valuesR g).2 = 0 → ∃ v, e = .returned (.tuple #[v, .int .i64 0]) ∧ OwnB w w' v (encG g.c)) ∧ ((valuesR g).2 ≠ 0 → e = .returned (.tuple #[.slice none 0 0, .int .i64 (valuesR g).2])) ∧ Ext w w') → PutPost g w e w') := fun e w' h => h
  have HG := Lib.hid hg
  generalize PutPost g w = PP at *
  have hw1 := ext_alloc w (.cells #[g.iV, g.nV, g.oV] 28)
  have hbx := Blk.new w #[g.iV, g.nV, g.oV] 28
  have hck := rvalues_calls g _ (hg.ext hw1)
  unfold ValsPost at hck
  obtain ⟨⟨rl, R⟩, hr⟩ : ∃ r, valuesR g = r := ⟨_, rfl⟩
  rw [hr] at hck hok HP
  simp only at hck hok HP
  clear hr
  obtain ⟨hi, hn, ho, hea, hil, hnl, hol⟩ := hg
  obtain ⟨An, cn, en, hn1, hn2, _⟩ := id (SRow.form hn (fun _ => rfl) (by omega))
  obtain ⟨Ao, co, eo, ho1, ho2, _⟩ := id ho.form
  obtain ⟨Ai, ci, ei, hi1, hi2, _⟩ := id hi.form
  unfold maxLen at hi2 hn2 ho2
  have EN := Lib.hid en
  have EO := Lib.hid eo
  have EI := Lib.hid ei
  clear en eo ei
  have g0 : (w.alloc (.cells #[g.iV, g.nV, g.oV] 28)).cell? ⟨w.heap.size, 0, none⟩ = some g.iV := hbx.cell 0
  have g1 : (w.alloc (.cells #[g.iV, g.nV, g.oV] 28)).cell? ⟨w.heap.size, 1, none⟩ = some g.nV := hbx.cell 1
  have g2 : (w.alloc (.cells #[g.iV, g.nV, g.oV] 28)).cell? ⟨w.heap.size, 2, none⟩ = some g.oV := hbx.cell 2
  go_enter Tryz.func45, Tryz.ntmps45
  go_wp2_with fail
  have hsz1 := hbx.lt
  generalize w.alloc _ = w1 at *
  refine hck.mono ?_
  rintro e w2 ⟨hz0, hz1, h2⟩
  clear g0 g1 g2 hck
  have hE2 := hw1.trans h2
  by_cases hR : R = 0
  case neg =>
    have e1 := hz1 hR
    subst e1
    have t5 : (R != 0) = true := by simp [hR]
    clear hz0 hz1
    go_wp2_with fail
    exact HP.out _ _ ⟨fun h => absurd h hR, fun _ => rfl, hE2⟩
  subst hR
  obtain ⟨v0, rfl, _⟩ := hz0 (by trivial)
  have hgood := hok (by trivial)
  clear hok hz0 hz1
  obtain ⟨⟨gi1, gi2⟩, gnl, ⟨go1, go2⟩, _⟩ := hgood
  have hb2 := hbx.ext h2
  have hsz2 := h2.size
  have HB : Hid ([b8 (g.ins.length : Int)] ++ g.ins.flatMap encV ++ [b8 (g.nodes.length : Int)] ++ g.nodes.flatMap (fun n => encN n.c) ++ [b8 (g.outs.length : Int)] ++ g.outs.map b8 = encG g.c) := by
    show _ = _
    simp [encG, Gr.c, List.append_assoc, List.flatMap_map]
  have hfin : ∀ (W : World) (v : Value) (bs : List Int), OwnB w2 W v bs → Ext w2 W → OwnB w W v bs ∧ Ext w W := fun W v bs h e => ⟨OwnB.lower (w1 := w2) h hE2, hE2.trans e⟩
  have HF := Lib.hid hfin
  clear hfin
  have hmk : ∀ (W : World) (v : Value) (bs : List Int), OwnB w2 W v bs → Ext w2 W → Rw w2 W v bs w.heap.size #[g.iV, g.nV, g.oV] 28 := fun W v bs h e => ⟨h, e, hb2.ext e, fun e' => by have := (h.lt _ e').1; omega⟩
  have HMK := Lib.hid hmk
  clear hmk
  have g0 : World.cell? w2 ⟨w.heap.size, 0, none⟩ = some (.slice Ai g.ins.length ci) := by rw [← EI.out]; exact hb2.cell 0
  have hown0 : (w2.alloc (.cells #[.int .u8 (g.ins.length : Int)] 5)).ownsRow w2.heap.size 5 1 (.slice (some ⟨w2.heap.size, 0, none⟩) 1 1) 1 [Value.int .u8 (g.ins.length : Int)] := own_lit04 w2 _ _
  have hw3 : Rw w2 (w2.alloc (.cells #[.int .u8 (g.ins.length : Int)] 5)) (.slice (some ⟨w2.heap.size, 0, none⟩) 1 1) [b8 (g.ins.length : Int)] w.heap.size #[g.iV, g.nV, g.oV] 28 := HMK.out _ _ _ (by
    unfold OwnB
    rw [b8_id (x := (g.ins.length : Int)) (by omega)]
    exact hown0) (ext_alloc _ _)
  go_upto_region 5 with fail
  clear g0 hown0 hsz1 hsz2 h2 hw1 hbx
  generalize w2.alloc _ = w3 at *
  generalize Value.slice (some ⟨w2.heap.size, 0, none⟩) 1 1 = v3 at *
  go_wp2_with fail
  go_loopw [6, 7] (fun u0 i wr => ∃ (u : Value) (k : Nat), u = u0 ∧ k ≤ g.ins.length ∧ i = .int .i64 k ∧ Rw w2 wr u ([b8 (g.ins.length : Int)] ++ (g.ins.take k).flatMap encV) w.heap.size #[g.iV, g.nV, g.oV] 28) (fun _ i _ => g.ins.length - (intOf i).toNat)
  case atStart => exact ⟨_, 0, rfl, by omega, rfl, by simpa using hw3⟩
  case round =>
    clear hw3
    obtain ⟨u, k, rfl, hk, rfl, hw⟩ := hrel
    have g0 : World.cell? wr ⟨w.heap.size, 0, none⟩ = some (.slice Ai g.ins.length ci) := by rw [← EI.out]; exact hw.box.cell 0
    by_cases hlt : k < g.ins.length
    · obtain ⟨A', c', e', _, _, hcc⟩ := (hi.ext (hE2.trans hw.ext)).form
      rw [EI.out] at e'
      cases e'
      have hs : g.ins[k]? = some g.ins[k] := by simp [hlt]
      obtain ⟨b, off, rfl, hbl, hc⟩ := hcc k _ hs
      have HT : Hid (g.ins.take (k + 1) = g.ins.take k ++ [g.ins[k]]) := List.take_succ_eq_append_getElem hlt
      generalize g.ins[k] = y at *
      have c0 : wr.cell? ⟨b, off + k * 4, none⟩ = some (.int .i64 y.s.h) := hc 0 _ rfl
      have c1 : wr.cell? ⟨b, off + k * 4 + 1, none⟩ = some (.int .i64 y.s.w) := hc 1 _ rfl
      have c2 : wr.cell? ⟨b, off + k * 4 + 2, none⟩ = some (.int .i64 y.s.c) := hc 2 _ rfl
      have c3 : wr.cell? ⟨b, off + k * 4 + 3, none⟩ = some (.int .i64 y.z) := hc 3 _ rfl
      clear hc hcc hs hi hn ho hea
      have hlk : ([b8 (g.ins.length : Int)] ++ (g.ins.take k).flatMap encV).length + [y.s.h, y.s.w, y.s.c, y.z].length ≤ 100000000 := by
        rw [List.length_append, flat_len encV 4 (fun _ => rfl), List.length_take]
        simp only [List.length_cons, List.length_nil]
        omega
      have hwk := hw.later (ext_alloc wr (.cells #[.int .i64 y.s.h, .int .i64 y.s.w, .int .i64 y.s.c, .int .i64 y.z] 41))
      have hyb := Blk.new wr #[.int .i64 y.s.h, .int .i64 y.s.w, .int .i64 y.s.c, .int .i64 y.z] 41
      clear hw
      go_upto_region 9 with fail
      clear c0 c1 c2 c3 hbl g0
      generalize wr.alloc _ = wk at *
      generalize wr.heap.size = yb at *
      have e0 : World.cell? wk ⟨yb, 0, none⟩ = some (.int .i64 y.s.h) := hyb.cell 0
      have e1 : World.cell? wk ⟨yb, 1, none⟩ = some (.int .i64 y.s.w) := hyb.cell 1
      have e2 : World.cell? wk ⟨yb, 2, none⟩ = some (.int .i64 y.s.c) := hyb.cell 2
      have e3 : World.cell? wk ⟨yb, 3, none⟩ = some (.int .i64 y.z) := hyb.cell 3
      clear hyb
      have hc := somel_calls hwk [y.s.h, y.s.w, y.s.c, y.z] (cs' := #[.int .i64 y.s.h, .int .i64 y.s.w, .int .i64 y.s.c, .int .i64 y.z]) rfl rfl hlk
      go_wp2_with (go_at_call 74; refine hc.mono ?_; rintro e w5 ⟨v5, rfl, hw5⟩)
      go_roundw
      case rel => exact ⟨_, k + 1, rfl, by omega, by go_num, by rw [HT.out, List.flatMap_append, ← List.append_assoc]; simpa [encV] using hw5⟩
      case measure => simp [intOf]; omega
    · have e : g.ins.take k = g.ins := List.take_of_length_le (by omega)
      rw [e] at hw
      have g1 : World.cell? wr ⟨w.heap.size, 1, none⟩ = some (.slice An g.nodes.length cn) := by rw [← EN.out]; exact hw.box.cell 1
      go_upto_region 10 with fail
      clear hlt hk e g0
      have hlb : ([b8 (g.ins.length : Int)] ++ g.ins.flatMap encV).length ≤ 100 := by
        rw [List.length_append, flat_len encV 4 (fun _ => rfl)]
        simp only [List.length_cons, List.length_nil]
        omega
      have hnew := row_new wr #[.int .u8 (g.nodes.length : Int)] 5 1 1 rfl (by decide)
      have hw2 := hw.later (ext_alloc wr (.cells #[.int .u8 (g.nodes.length : Int)] 5))
      have hown2 := hw2.own
      have hone : ∀ u ∈ #[Value.int .u8 (g.nodes.length : Int)].toList, u.oneCell' = true := by intro u hu; simp at hu; subst hu; rfl
      have hbs2 := hw2.ext.size
      have hk1 : ([b8 (g.ins.length : Int)] ++ g.ins.flatMap encV).length + 1 ≤ 140737488355328 := by omega
      have hk2 : (([b8 (g.ins.length : Int)] ++ g.ins.flatMap encV).length + 1) * 1 ≤ 140737488355328 := by omega
      have HW := Lib.hid hw2
      clear hw hw2
      go_upto_region 11 with (at_builtin; refine wpList_append_row rfl rfl elem_u8 hown2 rfl hnew rfl hone hk1 hk2 hbs2 ?_; intro v6 w6 ho hgr hn)
      have hq : Rw w2 w6 v6 ([b8 (g.ins.length : Int)] ++ g.ins.flatMap encV ++ [b8 (g.nodes.length : Int)]) w.heap.size #[g.iV, g.nV, g.oV] 28 := by
        refine HW.out.step ⟨?_, hgr, hn⟩
        have e1 : ([b8 (g.ins.length : Int)] ++ g.ins.flatMap encV ++ [b8 (g.nodes.length : Int)]).length = ([b8 (g.ins.length : Int)] ++ g.ins.flatMap encV).length + 1 := by rw [List.length_append]; rfl
        have e2 : ([b8 (g.ins.length : Int)] ++ g.ins.flatMap encV ++ [b8 (g.nodes.length : Int)]).map (Value.int .u8) = ([b8 (g.ins.length : Int)] ++ g.ins.flatMap encV).map (.int .u8) ++ #[Value.int .u8 (g.nodes.length : Int)].toList := by rw [List.map_append, b8_id (x := (g.nodes.length : Int)) (by omega)]; rfl
        rw [e1, e2]
        exact ho
      clear hnew hown2 hone hbs2 hk1 hk2 HW ho hgr hn
      have hlb2 : ([b8 (g.ins.length : Int)] ++ g.ins.flatMap encV ++ [b8 (g.nodes.length : Int)]).length ≤ 101 := by
        rw [List.length_append]
        simp only [List.length_cons, List.length_nil]
        omega
      clear g1
      generalize [b8 (g.ins.length : Int)] ++ g.ins.flatMap encV ++ [b8 (g.nodes.length : Int)] = b2 at *
      have hmx : ∀ k, k ≤ g.nodes.length → ((g.nodes.take k).flatMap fun n => encN n.c).length ≤ 71291 * k := fun k hk => by
        have := flat_le (g.nodes.take k) (fun n hn => long_le (hea n (List.mem_of_mem_take hn)))
        rw [List.length_take] at this
        omega
      have HM := Lib.hid hmx
      clear hmx
      go_wp2_with fail
      go_loopw [6, 9] (fun u0 i wr => ∃ (u : Value) (k : Nat), u = u0 ∧ k ≤ g.nodes.length ∧ i = .int .i64 k ∧ Rw w2 wr u (b2 ++ (g.nodes.take k).flatMap fun n => encN n.c) w.heap.size #[g.iV, g.nV, g.oV] 28) (fun _ i _ => g.nodes.length - (intOf i).toNat)
      case atStart => exact ⟨_, 0, rfl, by omega, rfl, by simpa using hq⟩
      case round =>
        clear hq
        obtain ⟨u, k, rfl, hk, rfl, hw⟩ := hrel
        have g1 : World.cell? wr ⟨w.heap.size, 1, none⟩ = some (.slice An g.nodes.length cn) := by rw [← EN.out]; exact hw.box.cell 1
        by_cases hlt : k < g.nodes.length
        · obtain ⟨A', c', e', _, _, hcc⟩ := SRow.form (HG.out.ext (hE2.trans hw.ext)).nodes (fun _ => rfl) (by omega)
          rw [EN.out] at e'
          cases e'
          have hs : g.nodes[k]? = some g.nodes[k] := by simp [hlt]
          obtain ⟨b, off, rfl, hbl, hc⟩ := hcc k _ hs
          have hmem := List.getElem_mem hlt
          have HT : Hid (g.nodes.take (k + 1) = g.nodes.take k ++ [g.nodes[k]]) := List.take_succ_eq_append_getElem hlt
          have hnode := (HG.out.ext hE2).each _ hmem
          generalize g.nodes[k] = n at *
          have nc0 : World.cell? wr ⟨b, off + k * 14, none⟩ = some (.int .i64 n.op) := hc 0 _ rfl
          have nc1 : World.cell? wr ⟨b, off + k * 14 + 1, none⟩ = some n.inV := hc 1 _ rfl
          have nc2 : World.cell? wr ⟨b, off + k * 14 + 2, none⟩ = some (.int .i64 n.k) := hc 2 _ rfl
          have nc3 : World.cell? wr ⟨b, off + k * 14 + 3, none⟩ = some (.int .i64 n.st) := hc 3 _ rfl
          have nc4 : World.cell? wr ⟨b, off + k * 14 + 4, none⟩ = some (.int .i64 n.pad) := hc 4 _ rfl
          have nc5 : World.cell? wr ⟨b, off + k * 14 + 5, none⟩ = some (.int .i64 n.out) := hc 5 _ rfl
          have nc6 : World.cell? wr ⟨b, off + k * 14 + 6, none⟩ = some (.int .i64 n.mul) := hc 6 _ rfl
          have nc7 : World.cell? wr ⟨b, off + k * 14 + 7, none⟩ = some (.int .i64 n.sh) := hc 7 _ rfl
          have nc8 : World.cell? wr ⟨b, off + k * 14 + 8, none⟩ = some (.int .i64 n.zero) := hc 8 _ rfl
          have nc9 : World.cell? wr ⟨b, off + k * 14 + 9, none⟩ = some (.int .i64 n.th) := hc 9 _ rfl
          have nc10 : World.cell? wr ⟨b, off + k * 14 + 10, none⟩ = some (.int .i64 n.tw) := hc 10 _ rfl
          have nc11 : World.cell? wr ⟨b, off + k * 14 + 11, none⟩ = some (.int .i64 n.tc) := hc 11 _ rfl
          have nc12 : World.cell? wr ⟨b, off + k * 14 + 12, none⟩ = some n.wV := hc 12 _ rfl
          have nc13 : World.cell? wr ⟨b, off + k * 14 + 13, none⟩ = some n.bV := hc 13 _ rfl
          clear hc hcc hs hmem hi hn ho hea
          have hlk : (b2 ++ (g.nodes.take k).flatMap fun n => encN n.c).length + longN n.c ≤ 100000000 := by
            have h1 := HM.out k hk
            have h2 := long_le hnode
            rw [List.length_append]
            omega
          have hnc := node04_calls n w2 wr u _ hw.own hw.ext hnode hlk
          clear hlk hw hnode
          go_wp2_with (go_at_call 75; refine hnc.mono ?_; rintro e w7 ⟨v7, rfl, ho7, hE7⟩)
          have hw7 := HMK.out _ _ _ ho7 hE7
          go_roundw
          case rel => exact ⟨_, k + 1, rfl, by omega, by go_num, by rw [HT.out, List.flatMap_append, ← List.append_assoc]; simpa using hw7⟩
          case measure => simp [intOf]; omega
        · have e : g.nodes.take k = g.nodes := List.take_of_length_le (by omega)
          rw [e] at hw
          have g2 : World.cell? wr ⟨w.heap.size, 2, none⟩ = some (.slice Ao g.outs.length co) := by rw [← EO.out]; exact hw.box.cell 2
          have hlb3 : (b2 ++ g.nodes.flatMap fun n => encN n.c).length ≤ 1000000 := by
            have := HM.out g.nodes.length (Nat.le_refl _)
            rw [List.take_length] at this
            rw [List.length_append]
            omega
          go_upto_region 15 with fail
          clear hlt hk e g1
          have hnew := row_new wr #[.int .u8 (g.outs.length : Int)] 5 1 1 rfl (by decide)
          have hw2 := hw.later (ext_alloc wr (.cells #[.int .u8 (g.outs.length : Int)] 5))
          have hown2 := hw2.own
          have hone : ∀ u ∈ #[Value.int .u8 (g.outs.length : Int)].toList, u.oneCell' = true := by intro u hu; simp at hu; subst hu; rfl
          have hbs2 := hw2.ext.size
          have hk1 : (b2 ++ g.nodes.flatMap fun n => encN n.c).length + 1 ≤ 140737488355328 := by omega
          have hk2 : ((b2 ++ g.nodes.flatMap fun n => encN n.c).length + 1) * 1 ≤ 140737488355328 := by omega
          have HW := Lib.hid hw2
          clear hw hw2
          go_upto_region 16 with (at_builtin; refine wpList_append_row rfl rfl elem_u8 hown2 rfl hnew rfl hone hk1 hk2 hbs2 ?_; intro v8 w8 ho hgr hn)
          have hq : Rw w2 w8 v8 ((b2 ++ g.nodes.flatMap fun n => encN n.c) ++ [b8 (g.outs.length : Int)]) w.heap.size #[g.iV, g.nV, g.oV] 28 := by
            refine HW.out.step ⟨?_, hgr, hn⟩
            have e1 : ((b2 ++ g.nodes.flatMap fun n => encN n.c) ++ [b8 (g.outs.length : Int)]).length = (b2 ++ g.nodes.flatMap fun n => encN n.c).length + 1 := by rw [List.length_append]; rfl
            have e2 : ((b2 ++ g.nodes.flatMap fun n => encN n.c) ++ [b8 (g.outs.length : Int)]).map (Value.int .u8) = (b2 ++ g.nodes.flatMap fun n => encN n.c).map (.int .u8) ++ #[Value.int .u8 (g.outs.length : Int)].toList := by rw [List.map_append, b8_id (x := (g.outs.length : Int)) (by omega)]; rfl
            rw [e1, e2]
            exact ho
          clear hnew hown2 hone hbs2 hk1 hk2 HW ho hgr hn
          clear g2
          have g2 : World.cell? w8 ⟨w.heap.size, 2, none⟩ = some g.oV := hq.box.cell 2
          have hl8 : ((b2 ++ g.nodes.flatMap fun n => encN n.c) ++ [b8 (g.outs.length : Int)]).length + g.outs.length ≤ 100000000 := by
            rw [List.length_append]
            simp only [List.length_cons, List.length_nil]
            omega
          have hc := somer_calls hq (ho.ext hE2) hl8
          clear hq
          go_wp2_with (go_at_call 74; refine hc.mono ?_; rintro e w9 ⟨v9, rfl, hw9⟩)
          rw [HB.out] at hw9
          obtain ⟨k1, k2⟩ := HF.out _ _ _ hw9.own hw9.ext
          exact HP.out _ _ ⟨fun _ => ⟨_, rfl, k1⟩, fun h => absurd rfl h, k2⟩

end Go.Proofs.YtdhdbmfipkppiaaGreat

namespace Go.Proofs.YtdhdbmfipkppiaaGreat
open Go.RowKit

/-- The reference's reader: all bytes, and a place. -/
structure R4 (w0 w : World) (bs : List Int) (B : Nat) (r : Rd) : Prop where
  box : ∃ (bv : Value) (a : Nat), Blk w B #[bv, .int .i64 a, .bool r.bad] 85 ∧ Ints .u8 w0 bv bs ∧ r.l = bs.drop a ∧ a ≤ bs.length
  ext : Ext w0 w
  hB : w0.heap.size ≤ B
  bytes : BytesL bs
  len : bs.length ≤ 100000

theorem R4.later {w0 w W : World} {bs : List Int} {B : Nat} {r : Rd} (h : R4 w0 w bs B r) (e : Ext w W) : R4 w0 W bs B r := by
  obtain ⟨⟨bv, a, h1, h2⟩, h3, h4, h5, h6⟩ := h
  exact ⟨⟨bv, a, h1.ext e, h2⟩, h3.trans e, h4, h5, h6⟩
theorem R4.sub {w0 w : World} {bs : List Int} {B : Nat} {r : Rd} (h : R4 w0 w bs B r) : BytesL r.l := by
  obtain ⟨⟨bv, a, _, _, h3, _⟩, _, _, h5, _⟩ := h
  rw [h3]
  exact fun z hz => h5 z (List.mem_of_mem_drop hz)

/-- A number of bytes, the highest first. -/
def numB (l : List Int) : Int := l.foldl (fun x c => 256 * x + c) 0
theorem numB_snoc (l : List Int) (z : Int) : numB (l ++ [z]) = 256 * numB l + z := by simp [numB]
theorem numB_range : ∀ (n : Nat) (l : List Int), l.length = n → BytesL l → 0 ≤ numB l ∧ numB l < 256 ^ n := by
  intro n
  induction n with
  | zero =>
    intro l h _
    obtain rfl := List.eq_nil_of_length_eq_zero h
    exact ⟨by decide, by decide⟩
  | succ n ih =>
    intro l h hz
    have hne : l ≠ [] := by intro e; rw [e] at h; cases h
    have e := List.dropLast_concat_getLast hne
    have h1 := ih l.dropLast (by rw [List.length_dropLast, h]; rfl) (fun z hm => hz z (List.dropLast_subset l hm))
    have h2 := hz _ (List.getLast_mem hne)
    rw [← e, numB_snoc, Int.pow_succ]
    omega

/-- What num takes. -/
def nNum (n : Nat) : Ps Int := fun r => if r.bad = true ∨ r.l.length < n then (0, ⟨r.l, true⟩) else (numB (r.l.take n), ⟨r.l.drop n, r.bad⟩)

def P4 {α : Type} (p : Ps α) (val : α → Value) (w0 : World) (bs : List Int) (B : Nat) (r : Rd) (w : World) (e : Ending) (w' : World) : Prop :=
  e = .returned (val (p r).1) ∧ R4 w0 w' bs B (p r).2 ∧ w.grownBy w' (some B)

set_option maxRecDepth 8000 in
set_option maxHeartbeats 3200000 in
theorem num_calls (w0 w : World) (bs : List Int) (B n : Nat) (r : Rd) (h : R4 w0 w bs B r) (hn : n ≤ 4) :
    Calls Tryz.prog 40 #[.pointer (some ⟨B, 0, none⟩), .int .i64 n] w (P4 (nNum n) (.int .i64) w0 bs B r w) := by
  have HP : Hid (∀ e w', (e = .returned (.int .i64 (nNum n r).1) ∧ R4 w0 w' bs B (nNum n r).2 ∧ w.grownBy w' (some B)) → P4 (nNum n) (.int .i64) w0 bs B r w e w') := fun e w' h => h
  generalize P4 (nNum n) (.int .i64) w0 bs B r w = PP at *
  have hsub := h.sub
  obtain ⟨⟨bv, a, hb, hv, hrl, ha⟩, hE, hB, hby, hlen⟩ := h
  obtain ⟨A, c, rfl, hlc, hcm, _⟩ := id hv.form
  unfold maxLen at hcm
  have hld : r.l.length = bs.length - a := by rw [hrl, List.length_drop]
  have HBAD : Hid (∀ W, Ext w W → (r.bad = true ∨ r.l.length < n) → nNum n r = (0, ⟨r.l, true⟩) ∧ R4 w0 (W.setCell ⟨B, 2, none⟩ (.bool true)) bs B ⟨r.l, true⟩ ∧ w.grownBy (W.setCell ⟨B, 2, none⟩ (.bool true)) (some B) ∧ B < W.heap.size ∧ W.frozen? ⟨B, 2, none⟩ = false ∧ W.cell? ⟨B, 2, none⟩ = some (.bool r.bad)) := by
    intro W e hc
    have hbW := hb.ext e
    refine ⟨by unfold nNum; rw [if_pos hc], ⟨⟨_, a, ?_, hv, hrl, ha⟩, Below.setCell (hE.trans e) hB _, hB, hby, hlen⟩, World.grownBy.trans (grown_any e (some B)) (setCell_grown W B 2 _), hbW.lt, hbW.frozen 2, hbW.cell 2⟩
    have := hbW.set 2 (.bool true)
    simpa using this
  go_enter Tryz.func40, Tryz.ntmps40
  go_upto_region 1 with fail
  refine wp_region_X [0, 1, 2, 3, 4, 5, 6, 7, 8, 9, 10, 11, 12, 13, 14, 15, 16, 17] [] (by kernel_rfl) (by kernel_rfl) (fun _ _ d _ _ h => by cases d <;> exact h) (fun w2 hE2 => ?_)
  have c0 : ∀ W, Ext w2 W → W.cell? ⟨B, 0, none⟩ = some (.slice A bs.length c) := fun W e => ((hb.ext hE2).ext e).cell 0
  have c1 : ∀ W, Ext w2 W → W.cell? ⟨B, 1, none⟩ = some (.int .i64 a) := fun W e => ((hb.ext hE2).ext e).cell 1
  have c2 : ∀ W, Ext w2 W → W.cell? ⟨B, 2, none⟩ = some (.bool r.bad) := fun W e => ((hb.ext hE2).ext e).cell 2
  have m1 : IntKind.i64.wrap ((a : Int) + (n : Int)) = (a : Int) + (n : Int) := IntWalk.i64_in _ (by omega)
  cases hbad : r.bad with
  | true =>
    rw [hbad] at c2
    repeat (first | (refine wpP_pure rfl (by rfl) (fun W hW => by go_simp; with_reducible rfl) ?_; simp only [Act.put, List.setIfInBounds_toArray, List.set_cons_zero, List.set_cons_succ]) | (refine wpP_skip rfl (by rfl) ?_; simp only [Act.put, List.setIfInBounds_toArray, List.set_cons_zero, List.set_cons_succ]))
    refine ⟨trivial, fun W hR => ?_⟩
    simp only [rFin, envAt, TP.top, TP.mine, MP.top, MP.mine, MT.mine, MT.tied, MT.done, MT.is, List.map_cons, List.map_nil, true_implies, List.head?_cons, ME.is, MP.is, MP.done, ME.ints, ME.row, phi, dstAt, List.getElem?_cons_zero, List.getElem?_cons_succ, Option.bind_some, Act.put, List.setIfInBounds_toArray, List.set_cons_zero, List.set_cons_succ, and_true, forall_eq, reduceIte, Nat.reduceEqDiff, beq_iff_eq, Option.some.injEq, Bool.false_eq_true, reduceCtorEq, implies_true, true_and]
    obtain ⟨k1, k2, k3, k4, k5, k6⟩ := HBAD.out W (hE2.trans hR) (.inl hbad)
    clear c0 c1 c2 HBAD hb hv hE2 hR
    go_wp2_with fail
    exact HP.out _ _ ⟨by rw [k1]; rfl, by rw [k1]; exact k2, k3⟩
  | false =>
    rw [hbad] at c2
    by_cases hs : r.l.length < n
    · have t1 : decide ((bs.length : Int) < (a : Int) + (n : Int)) = true := by simp; omega
      have t2 : decide (bs.length < a + n) = true := by simp; omega
      repeat (first | (refine wpP_pure rfl (by rfl) (fun W hW => by go_simp; with_reducible rfl) ?_; simp only [Act.put, List.setIfInBounds_toArray, List.set_cons_zero, List.set_cons_succ]) | (refine wpP_skip rfl (by rfl) ?_; simp only [Act.put, List.setIfInBounds_toArray, List.set_cons_zero, List.set_cons_succ]))
      refine ⟨trivial, fun W hR => ?_⟩
      simp only [rFin, envAt, TP.top, TP.mine, MP.top, MP.mine, MT.mine, MT.tied, MT.done, MT.is, List.map_cons, List.map_nil, true_implies, List.head?_cons, ME.is, MP.is, MP.done, ME.ints, ME.row, phi, dstAt, List.getElem?_cons_zero, List.getElem?_cons_succ, Option.bind_some, Act.put, List.setIfInBounds_toArray, List.set_cons_zero, List.set_cons_succ, and_true, forall_eq, reduceIte, Nat.reduceEqDiff, beq_iff_eq, Option.some.injEq, Bool.false_eq_true, reduceCtorEq, implies_true, true_and]
      obtain ⟨k1, k2, k3, k4, k5, k6⟩ := HBAD.out W (hE2.trans hR) (.inr hs)
      clear c0 c1 c2 HBAD hb hv hE2 hR t1 t2
      go_wp2_with fail
      exact HP.out _ _ ⟨by rw [k1]; rfl, by rw [k1]; exact k2, k3⟩
    · have t1 : decide ((bs.length : Int) < (a : Int) + (n : Int)) = false := by simp; omega
      have t2 : decide (bs.length < a + n) = false := by simp; omega
      repeat (first | (refine wpP_pure rfl (by rfl) (fun W hW => by go_simp; with_reducible rfl) ?_; simp only [Act.put, List.setIfInBounds_toArray, List.set_cons_zero, List.set_cons_succ]) | (refine wpP_skip rfl (by rfl) ?_; simp only [Act.put, List.setIfInBounds_toArray, List.set_cons_zero, List.set_cons_succ]))
      refine ⟨trivial, fun W hR => ?_⟩
      simp only [rFin, envAt, TP.top, TP.mine, MP.top, MP.mine, MT.mine, MT.tied, MT.done, MT.is, List.map_cons, List.map_nil, true_implies, List.head?_cons, ME.is, MP.is, MP.done, ME.ints, ME.row, phi, dstAt, List.getElem?_cons_zero, List.getElem?_cons_succ, Option.bind_some, Act.put, List.setIfInBounds_toArray, List.set_cons_zero, List.set_cons_succ, and_true, forall_eq, reduceIte, Nat.reduceEqDiff, beq_iff_eq, Option.some.injEq, Bool.false_eq_true, reduceCtorEq, implies_true, true_and]
      have HOK : Hid (nNum n r = (numB (r.l.take n), ⟨r.l.drop n, false⟩)) := by
        show _ = _
        unfold nNum
        rw [if_neg (by rw [hbad]; simp; omega), hbad]
      have hEW := hE2.trans hR
      have HH := Lib.hid (hb.ext hEW)
      clear c0 c1 c2 HBAD t1 t2 hE2 hR hb
      have hge : ¬ r.l.length < n := hs
      go_wp2_with fail
      go_loopw [5, 6] (fun x i wr => ∃ k : Nat, k ≤ n ∧ i = .int .i64 k ∧ x = .int .i64 (numB (r.l.take k)) ∧ Ext W wr) (fun _ i _ => n - (intOf i).toNat)
      case atStart => exact ⟨0, by omega, rfl, rfl, Ext.refl _⟩
      case round =>
        obtain ⟨k, hk, rfl, rfl, hEr⟩ := hrel
        by_cases hlt : k < n
        · have hkl : k < r.l.length := by omega
          have hkb : a + k < bs.length := by omega
          obtain ⟨_, _, e1, _, _, hcell⟩ := (hv.ext (hE.trans (hEW.trans hEr))).form
          cases e1
          obtain ⟨b, off, rfl, x0⟩ := hcell (a + k) hkb
          have hzk : bs[a + k]?.getD 0 = r.l[k] := by
            have : r.l[k]? = bs[a + k]? := by rw [hrl, List.getElem?_drop]
            rw [← this]
            simp [hkl]
          rw [hzk] at x0
          have HS := Lib.hid (show numB (r.l.take (k + 1)) = 256 * numB (r.l.take k) + r.l[k] from by rw [List.take_succ_eq_append_getElem hkl, numB_snoc])
          have hz := hsub r.l[k] (List.getElem_mem hkl)
          have hr1 := numB_range k (r.l.take k) (by rw [List.length_take]; omega) (fun z hm => hsub z (List.mem_of_mem_take hm))
          have hpow : (256 : Int) ^ k ≤ 16777216 := by rcases (by omega : k = 0 ∨ k = 1 ∨ k = 2 ∨ k = 3) with e | e | e | e <;> rw [e] <;> decide
          clear hcell hzk
          generalize r.l[k] = z at *
          generalize numB (r.l.take k) = x at *
          obtain ⟨hz1, hz2⟩ := hz
          have hx1 := hr1.1
          have hx2 : x < 16777216 := by omega
          clear hr1 hpow
          have m2 : IntKind.i64.wrap ((a : Int) + (k : Int)) = (a : Int) + (k : Int) := IntWalk.i64_in _ (by omega)
          have m3 : IntKind.i64.wrap (256 * x) = 256 * x := IntWalk.i64_in _ (by omega)
          have m4 : IntKind.i64.wrap z = z := IntWalk.i64_in _ (by omega)
          have m5 : IntKind.i64.wrap (256 * x + z) = 256 * x + z := IntWalk.i64_in _ (by omega)
          have k1 : (0 : Int) ≤ (a : Int) + (k : Int) := by omega
          have k2 : ((a : Int) + (k : Int)).toNat = a + k := by omega
          have k3 : (a : Int) + (k : Int) < bs.length := by omega
          go_upto_region 8 with fail
          refine wp_region_X [0, 1, 2, 3, 4, 5, 6, 7, 8, 9, 10, 11, 12, 13, 14, 15, 16] [] (by kernel_rfl) (by kernel_rfl) (fun _ _ d _ _ h => by cases d <;> exact h) (fun w4 hE4 => ?_)
          have c0 : ∀ W', Ext w4 W' → W'.cell? ⟨B, 0, none⟩ = some (.slice (some ⟨b, off, none⟩) bs.length c) := fun W' e => (((HH.out.ext hEr).ext hE4).ext e).cell 0
          have c1 : ∀ W', Ext w4 W' → W'.cell? ⟨B, 1, none⟩ = some (.int .i64 a) := fun W' e => (((HH.out.ext hEr).ext hE4).ext e).cell 1
          have c2 : ∀ W', Ext w4 W' → W'.cell? ⟨b, off + (a + k), none⟩ = some (.int .u8 z) := cell_ext (cell_ext x0 _ hE4)
          clear x0
          repeat (first | (refine wpP_pure rfl (by rfl) (fun W hW => by go_simp; with_reducible rfl) ?_; simp only [Act.put, List.setIfInBounds_toArray, List.set_cons_zero, List.set_cons_succ]) | (refine wpP_skip rfl (by rfl) ?_; simp only [Act.put, List.setIfInBounds_toArray, List.set_cons_zero, List.set_cons_succ]))
          refine ⟨trivial, fun W' hR' => ?_⟩
          simp only [rFin, envAt, TP.top, TP.mine, MP.top, MP.mine, MT.mine, MT.tied, MT.done, MT.is, List.map_cons, List.map_nil, true_implies, List.head?_cons, ME.is, MP.is, MP.done, ME.ints, ME.row, phi, dstAt, List.getElem?_cons_zero, List.getElem?_cons_succ, Option.bind_some, Act.put, List.setIfInBounds_toArray, List.set_cons_zero, List.set_cons_succ, and_true, forall_eq, reduceIte, Nat.reduceEqDiff, beq_iff_eq, Option.some.injEq, Bool.false_eq_true, reduceCtorEq, implies_true, true_and]
          have hEW' := hEr.trans (hE4.trans hR')
          clear c0 c1 c2 hE4 hR' m2 m3 m4 m5
          go_wp2_with fail
          go_roundw
          case rel => exact ⟨k + 1, by omega, by go_num, by rw [HS.out], hEW'⟩
          case measure => simp [intOf]; omega
        · obtain rfl : k = n := by omega
          have hbr := HH.out.ext hEr
          have c1 : World.cell? wr ⟨B, 1, none⟩ = some (.int .i64 a) := hbr.cell 1
          have hf := hbr.frozen 1
          have hl := hbr.lt
          have hf2 : R4 w0 (wr.setCell ⟨B, 1, none⟩ (.int .i64 ((a : Int) + (k : Int)))) bs B ⟨r.l.drop k, false⟩ := by
            refine ⟨⟨.slice A bs.length c, a + k, ?_, hv, by rw [hrl, List.drop_drop], by omega⟩, Below.setCell (hE.trans (hEW.trans hEr)) hB _, hB, hby, hlen⟩
            have h9 := hbr.set 1 (.int .i64 ((a : Int) + (k : Int)))
            rw [hbad] at h9
            simpa using h9
          have hgr : w.grownBy (wr.setCell ⟨B, 1, none⟩ (.int .i64 ((a : Int) + (k : Int)))) (some B) := World.grownBy.trans (grown_any (hEW.trans hEr) (some B)) (setCell_grown wr B 1 _)
          clear hbr
          go_wp2_with fail
          exact HP.out _ _ ⟨by rw [HOK.out]; rfl, by rw [HOK.out]; exact hf2, hgr⟩

end Go.Proofs.YtdhdbmfipkppiaaGreat
