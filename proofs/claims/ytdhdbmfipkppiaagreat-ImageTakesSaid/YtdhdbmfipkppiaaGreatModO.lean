/- The walk of model.Put. -/
import Derived.Test.YtdhdbmfipkppiaaGreatModN
import Derived.Test.YtdhdbmfipkppiaaGreatModK0
set_option linter.unusedSimpArgs false
set_option linter.unusedVariables false
set_option linter.unnecessarySimpa false
namespace Go.Proofs.YtdhdbmfipkppiaaGreat
open Go.RowKit

/-- A row of bytes of the call's own. -/
def OwnB (w0 w : World) (v : Value) (bs : List Int) : Prop := w.ownsRow w0.heap.size 5 1 v bs.length (bs.map (.int .u8))
theorem OwnB.lower {w0 w1 w : World} {v : Value} {bs : List Int} (h : OwnB w1 w v bs) (hE : Ext w0 w1) : OwnB w0 w v bs := by
  refine ⟨h.1, ?_⟩
  rcases h.2 with h | ⟨b, cap, cur, h3, h4, h5⟩
  · exact .inl h
  · exact .inr ⟨b, cap, cur, h3, Nat.le_trans hE.size h4, h5⟩
theorem OwnB.ints {w0 w : World} {v : Value} {bs : List Int} (h : OwnB w0 w v bs) : Ints .u8 w v bs := ints_of_own h
theorem OwnB.ext {w0 w W : World} {v : Value} {bs : List Int} (h : OwnB w0 w v bs) (e : Ext w W) : OwnB w0 W v bs := World.ownsRow.kept (row := none) h (grown_of_ext e) (by cases v.ownBlock <;> simp)

def PutPost (g : Gr) (w : World) (e : Ending) (w' : World) : Prop :=
  ((valuesR g).2 = 0 → ∃ v, e = .returned (.tuple #[v, .int .i64 0]) ∧ OwnB w w' v (encG g.c)) ∧
  ((valuesR g).2 ≠ 0 → e = .returned (.tuple #[.slice none 0 0, .int .i64 (valuesR g).2])) ∧ Ext w w'

theorem long_le {n : Nd} {w : World} (h : nodeAt w n) : longN n.c ≤ 71291 := by
  obtain ⟨_, _, _, _, _, h1, h2, h3⟩ := h
  show 16 + n.ins.length + n.ws.length + 4 * n.bs.length ≤ 71291
  omega
theorem flat_le : ∀ (l : List Nd), (∀ n ∈ l, longN n.c ≤ 71291) → (l.flatMap fun n => encN n.c).length ≤ 71291 * l.length
  | [], _ => by simp
  | n :: l, h => by
    have h1 := h n (by simp)
    have h2 := flat_le l (fun m hm => h m (by simp [hm]))
    simp only [List.flatMap_cons, List.length_append, encN_len, List.length_cons]
    omega

set_option maxRecDepth 8000 in
set_option maxHeartbeats 6400000 in
theorem modelPut_calls (g : Gr) (w : World) (hg : GrAt w g) :
    Calls Tryz.prog 20 #[.agg #[g.iV, g.nV, g.oV]] w (PutPost g w) := by
  have hok : (valuesR g).2 = 0 → GoodG g := fun h => valid_ok h (fun n hn => (hg.each n hn).isIn)
  have HP : Hid (∀ e w', (((valuesR g).2 = 0 → ∃ v, e = .returned (.tuple #[v, .int .i64 0]) ∧ OwnB w w' v (encG g.c)) ∧ ((valuesR g).2 ≠ 0 → e = .returned (.tuple #[.slice none 0 0, .int .i64 (valuesR g).2])) ∧ Ext w w') → PutPost g w e w') := fun e w' h => h
  have HG := Lib.hid hg
  generalize PutPost g w = PP at *
  have hw1 := ext_alloc w (.cells #[g.iV, g.nV, g.oV] 28)
  have hbx := Blk.new w #[g.iV, g.nV, g.oV] 28
  have hck := check_calls g _ (hg.ext hw1)
  generalize (valuesR g).2 = R at *
  obtain ⟨hi, hn, ho, hea, hil, hnl, hol⟩ := hg
  obtain ⟨An, cn, en, hn1, hn2, _⟩ := id (SRow.form hn (fun _ => rfl) (by omega))
  obtain ⟨Ao, co, eo, ho1, ho2, _⟩ := id ho.form
  obtain ⟨Ai, ci, ei, hi1, hi2, _⟩ := id hi.form
  unfold maxLen at hi2 hn2 ho2
  have EN := Lib.hid en
  have EO := Lib.hid eo
  have EI := Lib.hid ei
  clear en eo ei
  have g0 : (w.alloc (.cells #[g.iV, g.nV, g.oV] 28)).cell? ⟨w.heap.size, 0, none⟩ = some g.iV := hbx.cell 0
  have g1 : (w.alloc (.cells #[g.iV, g.nV, g.oV] 28)).cell? ⟨w.heap.size, 1, none⟩ = some g.nV := hbx.cell 1
  have g2 : (w.alloc (.cells #[g.iV, g.nV, g.oV] 28)).cell? ⟨w.heap.size, 2, none⟩ = some g.oV := hbx.cell 2
  go_enter Tryz.func20, Tryz.ntmps20
  go_wp2_with fail
  generalize w.alloc _ = w1 at *
  refine hck.mono ?_
  rintro e w2 ⟨rfl, h2⟩
  clear g0 g1 g2 hck
  have hE2 := hw1.trans h2
  by_cases hR : R = 0
  case neg =>
    have t5 : (R != 0) = true := by simp [hR]
    go_wp2_with fail
    exact HP.out _ _ ⟨fun h => absurd h hR, fun _ => rfl, hE2⟩
  subst hR
  have hgood := hok rfl
  clear hok
  obtain ⟨⟨gi1, gi2⟩, gnl, ⟨go1, go2⟩, _⟩ := hgood
  have hb2 := hbx.ext h2
  have g0 : World.cell? (w2.alloc (.cells #[.slice none 0 0] 96)) ⟨w.heap.size, 0, none⟩ = some (.slice Ai g.ins.length ci) := by rw [← EI.out]; exact (hb2.ext (ext_alloc _ _)).cell 0
  have hwA : Wr [] w2 (w2.alloc (.cells #[.slice none 0 0] 96)) w2.heap.size (.slice none 0 0) [] :=
    ⟨Blk.new _ _ _, ⟨rfl, .inl ⟨rfl, rfl⟩⟩, ext_alloc _ _, Nat.le_refl _, by simp [Value.ownBlock], fun s hs => by cases hs⟩
  go_upto_region 5 with fail
  have hfin : ∀ (W : World) (v : Value) (bs : List Int), Wr [] w2 W w2.heap.size v bs → OwnB w W v bs ∧ Ext w W := fun W v bs h => ⟨OwnB.lower (w1 := w2) h.own hE2, hE2.trans h.ext⟩
  have HF := Lib.hid hfin
  clear hfin
  generalize w2.alloc _ = wA at *
  generalize w2.heap.size = B at *
  have hl1 : ([] : List Int).length + [(g.ins.length : Int)].length ≤ 100000000 := by simp
  go_upto_region 6 with (go_at_call 57; refine (putl_calls hwA [(g.ins.length : Int)] rfl rfl hl1).mono ?_; rintro e w3 ⟨rfl, v3, hw3⟩)
  clear g0 hl1 hwA
  have g0 : World.cell? w3 ⟨w.heap.size, 0, none⟩ = some (.slice Ai g.ins.length ci) := by rw [← EI.out]; exact (hb2.ext hw3.ext).cell 0
  have hlb1 : ([] ++ [(g.ins.length : Int)].map b8).length = 1 := by simp
  have HB : Hid ([] ++ [(g.ins.length : Int)].map b8 ++ g.ins.flatMap encV ++ [(g.nodes.length : Int)].map b8 ++ g.nodes.flatMap (fun n => encN n.c) ++ [(g.outs.length : Int)].map b8 ++ g.outs.map b8 = encG g.c) := by
    show _ = _
    simp [encG, Gr.c, List.append_assoc, List.flatMap_map]
  generalize [] ++ [(g.ins.length : Int)].map b8 = b1 at *
  go_wp2_with fail
  clear g0
  go_loopw [26] (fun i wr => ∃ (k : Nat) (v : Value), k ≤ g.ins.length ∧ i = .int .i64 k ∧ Wr [] w2 wr B v (b1 ++ (g.ins.take k).flatMap encV)) (fun i _ => g.ins.length - (intOf i).toNat)
  case atStart => exact ⟨0, v3, by omega, rfl, by simpa using hw3⟩
  case round =>
    clear hw3
    obtain ⟨k, v, hk, rfl, hw⟩ := hrel
    by_cases hlt : k < g.ins.length
    · obtain ⟨A', c', e', _, _, hcc⟩ := (hi.ext (hE2.trans hw.ext)).form
      rw [EI.out] at e'
      cases e'
      have hs : g.ins[k]? = some g.ins[k] := by simp [hlt]
      obtain ⟨b, off, rfl, hbl, hc⟩ := hcc k _ hs
      have HT : Hid (g.ins.take (k + 1) = g.ins.take k ++ [g.ins[k]]) := List.take_succ_eq_append_getElem hlt
      generalize g.ins[k] = y at *
      have c0 : wr.cell? ⟨b, off + k * 4, none⟩ = some (.int .i64 y.s.h) := hc 0 _ rfl
      have c1 : wr.cell? ⟨b, off + k * 4 + 1, none⟩ = some (.int .i64 y.s.w) := hc 1 _ rfl
      have c2 : wr.cell? ⟨b, off + k * 4 + 2, none⟩ = some (.int .i64 y.s.c) := hc 2 _ rfl
      have c3 : wr.cell? ⟨b, off + k * 4 + 3, none⟩ = some (.int .i64 y.z) := hc 3 _ rfl
      clear hc hcc hs hi hn ho hea
      have hlk : (b1 ++ (g.ins.take k).flatMap encV).length + [y.s.h, y.s.w, y.s.c, y.z].length ≤ 100000000 := by
        rw [List.length_append, flat_len encV 4 (fun _ => rfl), List.length_take, hlb1]
        simp only [List.length_cons, List.length_nil]
        omega
      have hwk := hw.later (ext_alloc wr (.cells #[.int .i64 y.s.h, .int .i64 y.s.w, .int .i64 y.s.c, .int .i64 y.z] 41))
      have hyb := Blk.new wr #[.int .i64 y.s.h, .int .i64 y.s.w, .int .i64 y.s.c, .int .i64 y.z] 41
      clear hw
      go_upto_region 9 with fail
      clear c0 c1 c2 c3 hbl
      generalize wr.alloc _ = wk at *
      generalize wr.heap.size = yb at *
      have e0 : World.cell? wk ⟨yb, 0, none⟩ = some (.int .i64 y.s.h) := hyb.cell 0
      have e1 : World.cell? wk ⟨yb, 1, none⟩ = some (.int .i64 y.s.w) := hyb.cell 1
      have e2 : World.cell? wk ⟨yb, 2, none⟩ = some (.int .i64 y.s.c) := hyb.cell 2
      have e3 : World.cell? wk ⟨yb, 3, none⟩ = some (.int .i64 y.z) := hyb.cell 3
      clear hyb
      go_wp2_with (go_at_call 57; refine (putl_calls hwk [y.s.h, y.s.w, y.s.c, y.z] rfl rfl hlk).mono ?_; rintro e w5 ⟨rfl, v5, hw5⟩)
      go_roundw
      case rel => exact ⟨k + 1, v5, by omega, by go_num, by rw [HT.out, List.flatMap_append, ← List.append_assoc]; simpa [encV] using hw5⟩
      case measure => simp [intOf]; omega
    · have e : g.ins.take k = g.ins := List.take_of_length_le (by omega)
      rw [e] at hw
      have g1 : World.cell? wr ⟨w.heap.size, 1, none⟩ = some (.slice An g.nodes.length cn) := by rw [← EN.out]; exact (hb2.ext hw.ext).cell 1
      go_upto_region 11 with fail
      clear hlt hk e
      have hl4 : (b1 ++ g.ins.flatMap encV).length + [(g.nodes.length : Int)].length ≤ 100000000 := by
        rw [List.length_append, flat_len encV 4 (fun _ => rfl), hlb1]
        simp only [List.length_cons, List.length_nil]
        omega
      go_upto_region 12 with (go_at_call 57; refine (putl_calls hw [(g.nodes.length : Int)] rfl rfl hl4).mono ?_; rintro e w6 ⟨rfl, v6, hw6⟩)
      clear g1 hl4 hw
      have g1 : World.cell? w6 ⟨w.heap.size, 1, none⟩ = some (.slice An g.nodes.length cn) := by rw [← EN.out]; exact (hb2.ext hw6.ext).cell 1
      have hlb2 : (b1 ++ g.ins.flatMap encV ++ [(g.nodes.length : Int)].map b8).length ≤ 100 := by
        rw [List.length_append, List.length_append, flat_len encV 4 (fun _ => rfl), hlb1]
        simp only [List.length_map, List.length_cons, List.length_nil]
        omega
      generalize b1 ++ g.ins.flatMap encV ++ [(g.nodes.length : Int)].map b8 = b2 at *
      have hmx : ∀ k, k ≤ g.nodes.length → ((g.nodes.take k).flatMap fun n => encN n.c).length ≤ 71291 * k := fun k hk => by
        have := flat_le (g.nodes.take k) (fun n hn => long_le (hea n (List.mem_of_mem_take hn)))
        rw [List.length_take] at this
        omega
      have HM := Lib.hid hmx
      clear hmx
      go_wp2_with fail
      clear g1
      go_loopw [54] (fun i wr => ∃ (k : Nat) (v : Value), k ≤ g.nodes.length ∧ i = .int .i64 k ∧ Wr [] w2 wr B v (b2 ++ (g.nodes.take k).flatMap fun n => encN n.c)) (fun i _ => g.nodes.length - (intOf i).toNat)
      case atStart => exact ⟨0, v6, by omega, rfl, by simpa using hw6⟩
      case round =>
        clear hw6
        obtain ⟨k, v, hk, rfl, hw⟩ := hrel
        by_cases hlt : k < g.nodes.length
        · obtain ⟨A', c', e', _, _, hcc⟩ := SRow.form (HG.out.ext (hE2.trans hw.ext)).nodes (fun _ => rfl) (by omega)
          rw [EN.out] at e'
          cases e'
          have hs : g.nodes[k]? = some g.nodes[k] := by simp [hlt]
          obtain ⟨b, off, rfl, hbl, hc⟩ := hcc k _ hs
          have hmem := List.getElem_mem hlt
          have HT : Hid (g.nodes.take (k + 1) = g.nodes.take k ++ [g.nodes[k]]) := List.take_succ_eq_append_getElem hlt
          have hnode := (HG.out.ext hE2).each _ hmem
          generalize g.nodes[k] = n at *
          have nc0 : World.cell? wr ⟨b, off + k * 14, none⟩ = some (.int .i64 n.op) := hc 0 _ rfl
          have nc1 : World.cell? wr ⟨b, off + k * 14 + 1, none⟩ = some n.inV := hc 1 _ rfl
          have nc2 : World.cell? wr ⟨b, off + k * 14 + 2, none⟩ = some (.int .i64 n.k) := hc 2 _ rfl
          have nc3 : World.cell? wr ⟨b, off + k * 14 + 3, none⟩ = some (.int .i64 n.st) := hc 3 _ rfl
          have nc4 : World.cell? wr ⟨b, off + k * 14 + 4, none⟩ = some (.int .i64 n.pad) := hc 4 _ rfl
          have nc5 : World.cell? wr ⟨b, off + k * 14 + 5, none⟩ = some (.int .i64 n.out) := hc 5 _ rfl
          have nc6 : World.cell? wr ⟨b, off + k * 14 + 6, none⟩ = some (.int .i64 n.mul) := hc 6 _ rfl
          have nc7 : World.cell? wr ⟨b, off + k * 14 + 7, none⟩ = some (.int .i64 n.sh) := hc 7 _ rfl
          have nc8 : World.cell? wr ⟨b, off + k * 14 + 8, none⟩ = some (.int .i64 n.zero) := hc 8 _ rfl
          have nc9 : World.cell? wr ⟨b, off + k * 14 + 9, none⟩ = some (.int .i64 n.th) := hc 9 _ rfl
          have nc10 : World.cell? wr ⟨b, off + k * 14 + 10, none⟩ = some (.int .i64 n.tw) := hc 10 _ rfl
          have nc11 : World.cell? wr ⟨b, off + k * 14 + 11, none⟩ = some (.int .i64 n.tc) := hc 11 _ rfl
          have nc12 : World.cell? wr ⟨b, off + k * 14 + 12, none⟩ = some n.wV := hc 12 _ rfl
          have nc13 : World.cell? wr ⟨b, off + k * 14 + 13, none⟩ = some n.bV := hc 13 _ rfl
          clear hc hcc hs hmem hi hn ho hea
          have hz := Blk.new wr #[.int .i64 0, .slice none 0 0, .int .i64 0, .int .i64 0, .int .i64 0, .int .i64 0, .int .i64 0, .int .i64 0, .int .i64 0, .int .i64 0, .int .i64 0, .int .i64 0, .slice none 0 0, .slice none 0 0] 67
          have hE4 : Ext wr ((wr.alloc (.cells #[.int .i64 0, .slice none 0 0, .int .i64 0, .int .i64 0, .int .i64 0, .int .i64 0, .int .i64 0, .int .i64 0, .int .i64 0, .int .i64 0, .int .i64 0, .int .i64 0, .slice none 0 0, .slice none 0 0] 67)).setRow wr.heap.size #[.int .i64 n.op, n.inV, .int .i64 n.k, .int .i64 n.st, .int .i64 n.pad, .int .i64 n.out, .int .i64 n.mul, .int .i64 n.sh, .int .i64 n.zero, .int .i64 n.th, .int .i64 n.tw, .int .i64 n.tc, n.wV, n.bV]) := ext_setRow (ext_alloc _ _) _ (Nat.le_refl _)
          have hnb : Blk ((wr.alloc (.cells #[.int .i64 0, .slice none 0 0, .int .i64 0, .int .i64 0, .int .i64 0, .int .i64 0, .int .i64 0, .int .i64 0, .int .i64 0, .int .i64 0, .int .i64 0, .int .i64 0, .slice none 0 0, .slice none 0 0] 67)).setRow wr.heap.size #[.int .i64 n.op, n.inV, .int .i64 n.k, .int .i64 n.st, .int .i64 n.pad, .int .i64 n.out, .int .i64 n.mul, .int .i64 n.sh, .int .i64 n.zero, .int .i64 n.th, .int .i64 n.tw, .int .i64 n.tc, n.wV, n.bV]) wr.heap.size #[.int .i64 n.op, n.inV, .int .i64 n.k, .int .i64 n.st, .int .i64 n.pad, .int .i64 n.out, .int .i64 n.mul, .int .i64 n.sh, .int .i64 n.zero, .int .i64 n.th, .int .i64 n.tw, .int .i64 n.tc, n.wV, n.bV] 67 := setRow_heap _ _ _ _ _ _ hz
          have hone : Array.all #[.int .i64 n.op, n.inV, .int .i64 n.k, .int .i64 n.st, .int .i64 n.pad, .int .i64 n.out, .int .i64 n.mul, .int .i64 n.sh, .int .i64 n.zero, .int .i64 n.th, .int .i64 n.tw, .int .i64 n.tc, n.wV, n.bV] (·.oneCell') = true := by
            obtain ⟨_, _, e1, _⟩ := hnode.1.form
            obtain ⟨_, _, e2, _⟩ := hnode.2.1.form
            obtain ⟨_, _, e3, _⟩ := hnode.2.2.1.form
            rw [e1, e2, e3]
            simp [Value.oneCell']
          have HO := Lib.hid hone
          have hlk : (b2 ++ (g.nodes.take k).flatMap fun n => encN n.c).length + longN n.c ≤ 100000000 := by
            have h1 := HM.out k hk
            have h2 := long_le hnode
            rw [List.length_append]
            omega
          have hwk := hw.later hE4
          have hnc := node_calls n w2 _ B v _ hwk hnode hlk
          clear hone hlk hw hwk hE4
          go_upto_region 15 with (refine wpList_store_row rfl 67 _ _ rfl wr.heap.size #[.int .i64 n.op, n.inV, .int .i64 n.k, .int .i64 n.st, .int .i64 n.pad, .int .i64 n.out, .int .i64 n.mul, .int .i64 n.sh, .int .i64 n.zero, .int .i64 n.th, .int .i64 n.tw, .int .i64 n.tc, n.wV, n.bV] rfl rfl 67 _ hz (by kernel_rfl) rfl HO.out ?_)
          clear nc0 nc1 nc2 nc3 nc4 nc5 nc6 nc7 nc8 nc9 nc10 nc11 nc12 nc13 hbl hz
          generalize World.setRow (wr.alloc _) _ _ = wk at *
          generalize wr.heap.size = yb at *
          have nd0 : World.cell? wk ⟨yb, 0, none⟩ = some (.int .i64 n.op) := hnb.cell 0
          have nd1 : World.cell? wk ⟨yb, 1, none⟩ = some n.inV := hnb.cell 1
          have nd2 : World.cell? wk ⟨yb, 2, none⟩ = some (.int .i64 n.k) := hnb.cell 2
          have nd3 : World.cell? wk ⟨yb, 3, none⟩ = some (.int .i64 n.st) := hnb.cell 3
          have nd4 : World.cell? wk ⟨yb, 4, none⟩ = some (.int .i64 n.pad) := hnb.cell 4
          have nd5 : World.cell? wk ⟨yb, 5, none⟩ = some (.int .i64 n.out) := hnb.cell 5
          have nd6 : World.cell? wk ⟨yb, 6, none⟩ = some (.int .i64 n.mul) := hnb.cell 6
          have nd7 : World.cell? wk ⟨yb, 7, none⟩ = some (.int .i64 n.sh) := hnb.cell 7
          have nd8 : World.cell? wk ⟨yb, 8, none⟩ = some (.int .i64 n.zero) := hnb.cell 8
          have nd9 : World.cell? wk ⟨yb, 9, none⟩ = some (.int .i64 n.th) := hnb.cell 9
          have nd10 : World.cell? wk ⟨yb, 10, none⟩ = some (.int .i64 n.tw) := hnb.cell 10
          have nd11 : World.cell? wk ⟨yb, 11, none⟩ = some (.int .i64 n.tc) := hnb.cell 11
          have nd12 : World.cell? wk ⟨yb, 12, none⟩ = some n.wV := hnb.cell 12
          have nd13 : World.cell? wk ⟨yb, 13, none⟩ = some n.bV := hnb.cell 13
          clear hnb hnode
          go_wp2_with (go_at_call 58; refine hnc.mono ?_; rintro e w7 ⟨rfl, v7, hw7⟩)
          go_roundw
          case rel => exact ⟨k + 1, v7, by omega, by go_num, by rw [HT.out, List.flatMap_append, ← List.append_assoc]; simpa using hw7⟩
          case measure => simp [intOf]; omega
        · have e : g.nodes.take k = g.nodes := List.take_of_length_le (by omega)
          rw [e] at hw
          have hlb3 : (b2 ++ g.nodes.flatMap fun n => encN n.c).length ≤ 1000000 := by
            have := HM.out g.nodes.length (Nat.le_refl _)
            rw [List.take_length] at this
            rw [List.length_append]
            omega
          have g2 : World.cell? wr ⟨w.heap.size, 2, none⟩ = some (.slice Ao g.outs.length co) := by rw [← EO.out]; exact (hb2.ext hw.ext).cell 2
          go_upto_region 17 with fail
          clear hlt hk e
          have hl7 : (b2 ++ g.nodes.flatMap fun n => encN n.c).length + [(g.outs.length : Int)].length ≤ 100000000 := by simp only [List.length_cons, List.length_nil]; omega
          go_upto_region 18 with (go_at_call 57; refine (putl_calls hw [(g.outs.length : Int)] rfl rfl hl7).mono ?_; rintro e w8 ⟨rfl, v8, hw8⟩)
          clear g2 hl7 hw
          have g2 : World.cell? w8 ⟨w.heap.size, 2, none⟩ = some g.oV := (hb2.ext hw8.ext).cell 2
          have hl8 : ((b2 ++ g.nodes.flatMap fun n => encN n.c) ++ [(g.outs.length : Int)].map b8).length + g.outs.length ≤ 100000000 := by
            rw [List.length_append]
            simp only [List.length_map, List.length_cons, List.length_nil]
            omega
          have hp := put_calls w2 w8 B v8 g.oV _ g.outs hw8 (ho.ext (hE2.trans hw8.ext)) (off_base hw8 (ho.ext hE2)) hl8
          go_upto_region 19 with (go_at_call 57; refine hp.mono ?_; rintro e w9 ⟨rfl, v9, hw9⟩)
          clear g2 hl8 hp hw8
          have c0 : World.cell? w9 ⟨B, 0, none⟩ = some v9 := hw9.box.cell 0
          rw [HB.out] at hw9
          obtain ⟨k1, k2⟩ := HF.out _ _ _ hw9
          clear hw9
          go_wp2_with fail
          exact HP.out _ _ ⟨fun _ => ⟨_, rfl, k1⟩, fun h => absurd rfl h, k2⟩

end Go.Proofs.YtdhdbmfipkppiaaGreat
