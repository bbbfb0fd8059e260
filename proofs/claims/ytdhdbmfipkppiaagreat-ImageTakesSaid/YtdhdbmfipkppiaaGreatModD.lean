/- The walk of the reader of graphs: node. -/
import Derived.Test.YtdhdbmfipkppiaaGreatModC
set_option linter.unusedSimpArgs false
set_option linter.unusedVariables false
set_option linter.unnecessarySimpa false
namespace Go.Proofs.YtdhdbmfipkppiaaGreat
open Go.RowKit

def rowsN (n : Nd) : List RowF := [⟨3, 1, n.inV, n.ins.length, n.ins.map (.int .i64)⟩, ⟨110, 1, n.wV, n.ws.length, n.ws.map (.int .i8)⟩, ⟨21, 1, n.bV, n.bs.length, n.bs.map (.int .i32)⟩]

structure NdFit (n : Nd) : Prop where
  il : n.ins.length ≤ 255
  wl : n.ws.length ≤ 65535
  bl : n.bs.length ≤ 255
  ws : ∀ z ∈ n.ws, InK .i8 z
  bs : ∀ z ∈ n.bs, InK .i32 z

def NodePost (w0 : World) (B : Nat) (r : Rd) (w : World) (e : Ending) (w' : World) : Prop :=
  ∃ n : Nd, e = .returned (.agg #[.int .i64 n.op, n.inV, .int .i64 n.k, .int .i64 n.st, .int .i64 n.pad, .int .i64 n.out, .int .i64 n.mul, .int .i64 n.sh, .int .i64 n.zero, .int .i64 n.th, .int .i64 n.tw, .int .i64 n.tc, n.wV, n.bV]) ∧ n.c = (pNode r).1 ∧ Rr w0 w' B (pNode r).2 ∧ w.grownBy w' (some B) ∧ OwnAll w' w.heap.size (rowsN n) ∧ NdFit n

theorem pNode_eq {r r1 r2 r3 r4 r5 r6 r7 r8 r9 r10 r11 r12 r13 r14 r15 : Rd} {op c1 k st pad out mul sh zero c2 c3 : Int} {t : Sz} {ins ws bs : List Int}
    (h0 : pOne r = (op, r1)) (h1 : pOne r1 = (c1, r2)) (h2 : many pOne c1.toNat r2 = (ins, r3)) (h3 : pOne r3 = (k, r4)) (h4 : pOne r4 = (st, r5)) (h5 : pOne r5 = (pad, r6)) (h6 : pOne r6 = (out, r7)) (h7 : pTwo r7 = (mul, r8))
    (h8 : pOne r8 = (sh, r9)) (h9 : pZero r9 = (zero, r10)) (h10 : pShape r10 = (t, r11)) (h11 : pTwo r11 = (c2, r12)) (h12 : many pZero c2.toNat r12 = (ws, r13)) (h13 : pOne r13 = (c3, r14)) (h14 : many pFour c3.toNat r14 = (bs, r15)) :
    pNode r = (⟨op, k, st, pad, out, mul, sh, zero, t.h, t.w, t.c, ins, ws, bs⟩, r15) := by
  simp only [pNode, pMany, Ps.bind, Ps.ret, h0, h1, h2, h3, h4, h5, h6, h7, h8, h9, h10, h11, h12, h13, h14]

theorem ClS.keep1 {w0 W W' : World} {B b1 b3 : Nat} {r : Rd} {cs : Array Value} {T : TypeId} {l : List RowF} (h : ClS w0 W B b1 b3 r cs T l) (F : Fr b3 B W W') : Keeps [b1] W W' := ⟨F.size, fun k hk => by
  obtain rfl := List.mem_singleton.1 hk
  have := h.lt
  exact F.block _ (by omega) h.p1.lt (by omega)⟩
theorem one_sub {r : Rd} (h : BytesL r.l) : BytesL (pOne r).2.l := by
  show BytesL (nxt 1 r).2.l
  unfold nxt
  split
  · exact h
  · exact fun z hz => h z (List.mem_of_mem_drop hz)
theorem four_sub {r : Rd} (h : BytesL r.l) : BytesL (pFour r).2.l := by
  show BytesL (nxt 4 r).2.l
  unfold nxt
  split
  · exact h
  · exact fun z hz => h z (List.mem_of_mem_drop hz)
theorem zero_all {r : Rd} (h : BytesL r.l) : InK .i8 (pZero r).1 ∧ BytesL (pZero r).2.l := by
  refine ⟨?_, one_sub h⟩
  have := one_range h
  show InK .i8 (s8 (pOne r).1)
  unfold s8
  simp only [InK]
  split <;> omega
theorem four_all {r : Rd} (h : BytesL r.l) : InK .i32 (pFour r).1 ∧ BytesL (pFour r).2.l := by
  refine ⟨?_, four_sub h⟩
  obtain ⟨x, y, z, u, hz⟩ := list4 (nxt_len 4 r)
  have hb := nxt_bytes 4 h
  show InK .i32 (s32 (16777216 * (nxt 4 r).1[0]?.getD 0 + 65536 * (nxt 4 r).1[1]?.getD 0 + 256 * (nxt 4 r).1[2]?.getD 0 + (nxt 4 r).1[3]?.getD 0))
  rw [hz] at hb ⊢
  have h1 := hb x (by simp)
  have h2 := hb y (by simp)
  have h3 := hb z (by simp)
  have h4 := hb u (by simp)
  simp only [List.getElem?_cons_zero, List.getElem?_cons_succ, Option.getD_some, s32, InK]
  split <;> omega

theorem OwnAll.lower {W : World} {base base' : Nat} {l : List RowF} (h : OwnAll W base l) (hb : base' ≤ base) : OwnAll W base' l := ⟨fun x hx => by
  obtain ⟨h1, h2⟩ := h.own x hx
  refine ⟨h1, ?_⟩
  rcases h2 with h2 | ⟨b, cap, cur, h3, h4, h5⟩
  · exact .inl h2
  · exact .inr ⟨b, cap, cur, h3, Nat.le_trans hb h4, h5⟩, h.sep⟩
theorem ClS.swap {w0 W : World} {B b1 b3 : Nat} {r : Rd} {cs : Array Value} {T : TypeId} {x y z : RowF} (h : ClS w0 W B b1 b3 r cs T [x, y, z]) : ClS w0 W B b1 b3 r cs T [y, x, z] := ⟨h.rd, h.p1, h.nb, h.own.perm (.swap _ _ _), h.lt⟩
theorem ClS.rot {w0 W : World} {B b1 b3 : Nat} {r : Rd} {cs : Array Value} {T : TypeId} {x y z : RowF} (h : ClS w0 W B b1 b3 r cs T [x, y, z]) : ClS w0 W B b1 b3 r cs T [z, x, y] := ⟨h.rd, h.p1, h.nb, h.own.perm ((List.Perm.cons _ (.swap _ _ _)).trans (.swap _ _ _)), h.lt⟩

set_option maxRecDepth 8000 in
set_option maxHeartbeats 12800000 in
theorem pnode_calls (w0 w : World) (B : Nat) (r : Rd) (h : Rr w0 w B r) :
    Calls Tryz.prog 31 #[.pointer (some ⟨B, 0, none⟩)] w (NodePost w0 B r w) := by
  have HP : Hid (∀ e w', (∃ n : Nd, e = .returned (.agg #[.int .i64 n.op, n.inV, .int .i64 n.k, .int .i64 n.st, .int .i64 n.pad, .int .i64 n.out, .int .i64 n.mul, .int .i64 n.sh, .int .i64 n.zero, .int .i64 n.th, .int .i64 n.tw, .int .i64 n.tc, n.wV, n.bV]) ∧ n.c = (pNode r).1 ∧ Rr w0 w' B (pNode r).2 ∧ w.grownBy w' (some B) ∧ OwnAll w' w.heap.size (rowsN n) ∧ NdFit n) → NodePost w0 B r w e w') := fun e w' h => h
  generalize NodePost w0 B r w = PP at *
  have hBw : B < w.heap.size := by obtain ⟨_, h1, _⟩ := h.box; exact h1.lt
  have hE1 := (ext_alloc w (.cells #[.pointer (some ⟨B, 0, none⟩)] 58)).trans (ext_alloc _ (.cells #[.int .i64 0, .slice none 0 0, .int .i64 0, .int .i64 0, .int .i64 0, .int .i64 0, .int .i64 0, .int .i64 0, .int .i64 0, .int .i64 0, .int .i64 0, .int .i64 0, .slice none 0 0, .slice none 0 0] 67))
  have hp1 := (Blk.new w #[.pointer (some ⟨B, 0, none⟩)] 58).ext (ext_alloc _ (.cells #[.int .i64 0, .slice none 0 0, .int .i64 0, .int .i64 0, .int .i64 0, .int .i64 0, .int .i64 0, .int .i64 0, .int .i64 0, .int .i64 0, .int .i64 0, .int .i64 0, .slice none 0 0, .slice none 0 0] 67))
  have hr2 := Blk.new (w.alloc (.cells #[.pointer (some ⟨B, 0, none⟩)] 58)) #[.int .i64 0, .slice none 0 0, .int .i64 0, .int .i64 0, .int .i64 0, .int .i64 0, .int .i64 0, .int .i64 0, .int .i64 0, .int .i64 0, .int .i64 0, .int .i64 0, .slice none 0 0, .slice none 0 0] 67
  rw [show (w.alloc (.cells #[.pointer (some ⟨B, 0, none⟩)] 58)).heap.size = w.heap.size + 1 from by simp] at hr2
  have hR1 := h.later hE1
  obtain ⟨⟨op, r1⟩, h0⟩ : ∃ x, pOne r = x := ⟨_, rfl⟩
  obtain ⟨⟨c1, r2⟩, h1⟩ : ∃ x, pOne r1 = x := ⟨_, rfl⟩
  obtain ⟨⟨ins, r3⟩, h2⟩ : ∃ x, many pOne c1.toNat r2 = x := ⟨_, rfl⟩
  obtain ⟨⟨k, r4⟩, h3⟩ : ∃ x, pOne r3 = x := ⟨_, rfl⟩
  obtain ⟨⟨st, r5⟩, h4⟩ : ∃ x, pOne r4 = x := ⟨_, rfl⟩
  obtain ⟨⟨pad, r6⟩, h5⟩ : ∃ x, pOne r5 = x := ⟨_, rfl⟩
  obtain ⟨⟨out, r7⟩, h6⟩ : ∃ x, pOne r6 = x := ⟨_, rfl⟩
  obtain ⟨⟨mul, r8⟩, h7⟩ : ∃ x, pTwo r7 = x := ⟨_, rfl⟩
  obtain ⟨⟨sh, r9⟩, h8⟩ : ∃ x, pOne r8 = x := ⟨_, rfl⟩
  obtain ⟨⟨zero, r10⟩, h9⟩ : ∃ x, pZero r9 = x := ⟨_, rfl⟩
  obtain ⟨⟨⟨th, tw, tc⟩, r11⟩, h10⟩ : ∃ x, pShape r10 = x := ⟨_, rfl⟩
  obtain ⟨⟨c2, r12⟩, h11⟩ : ∃ x, pTwo r11 = x := ⟨_, rfl⟩
  obtain ⟨⟨ws, r13⟩, h12⟩ : ∃ x, many pZero c2.toNat r12 = x := ⟨_, rfl⟩
  obtain ⟨⟨c3, r14⟩, h13⟩ : ∃ x, pOne r13 = x := ⟨_, rfl⟩
  obtain ⟨⟨bs, r15⟩, h14⟩ : ∃ x, many pFour c3.toNat r14 = x := ⟨_, rfl⟩
  have HN := Lib.hid (pNode_eq h0 h1 h2 h3 h4 h5 h6 h7 h8 h9 h10 h11 h12 h13 h14)
  clear h
  go_enter Tryz.func31, Tryz.ntmps31
  go_upto_region 1 with fail
  generalize World.alloc (World.alloc w _) _ = w1 at *
  have p0 : World.cell? w1 ⟨w.heap.size, 0, none⟩ = some (.pointer (some ⟨B, 0, none⟩)) := hp1.cell 0
  have ho := one_calls w0 w1 B r hR1
  unfold PsPost at ho
  rw [h0] at ho
  go_upto_region 2 with (go_at_call 26; refine ho.mono ?_; rintro e w2 ⟨rfl, hR2, hg2⟩)
  clear p0 ho h0
  try simp only at hR2
  have hE3 := ext_alloc w2 (.cells #[.int .i64 op, .slice none 0 0, .int .i64 0, .int .i64 0, .int .i64 0, .int .i64 0, .int .i64 0, .int .i64 0, .int .i64 0, .int .i64 0, .int .i64 0, .int .i64 0, .slice none 0 0, .slice none 0 0] 67)
  have hlw1 := hr2.lt
  have hlw2 := hg2.size
  have hS : ClS w0 (w2.alloc (.cells #[.int .i64 op, .slice none 0 0, .int .i64 0, .int .i64 0, .int .i64 0, .int .i64 0, .int .i64 0, .int .i64 0, .int .i64 0, .int .i64 0, .int .i64 0, .int .i64 0, .slice none 0 0, .slice none 0 0] 67)) B w.heap.size w2.heap.size r1 #[.int .i64 op, .slice none 0 0, .int .i64 0, .int .i64 0, .int .i64 0, .int .i64 0, .int .i64 0, .int .i64 0, .int .i64 0, .int .i64 0, .int .i64 0, .int .i64 0, .slice none 0 0, .slice none 0 0] 67 [⟨3, 1, .slice none 0 0, 0, []⟩, ⟨110, 1, .slice none 0 0, 0, []⟩, ⟨21, 1, .slice none 0 0, 0, []⟩] := by
    refine ⟨hR2.later hE3, (hp1.grown hg2 (by simp; omega)).ext hE3, Blk.new _ _ _, ⟨fun x hx => ?_, ?_⟩, by omega⟩
    · simp only [List.mem_cons, List.not_mem_nil, or_false] at hx
      rcases hx with rfl | rfl | rfl <;> exact ⟨rfl, .inl ⟨rfl, rfl⟩⟩
    · refine List.pairwise_cons.2 ⟨fun x _ k hk => by simp [Value.ownBlock] at hk, List.pairwise_cons.2 ⟨fun x _ k hk => by simp [Value.ownBlock] at hk, List.pairwise_singleton _ _⟩⟩
  have F : Fr w2.heap.size B w1 (w2.alloc (.cells #[.int .i64 op, .slice none 0 0, .int .i64 0, .int .i64 0, .int .i64 0, .int .i64 0, .int .i64 0, .int .i64 0, .int .i64 0, .int .i64 0, .int .i64 0, .int .i64 0, .slice none 0 0, .slice none 0 0] 67)) := (Fr.grown hg2 (fun k hk => .inl (by cases hk; rfl))).trans (Fr.ext hE3)
  have hb1 : w.heap.size + 2 ≤ w2.heap.size := by omega
  clear hE3 hg2 hR2 hp1 hR1 hlw1 hlw2
  generalize w2.alloc _ = w3 at *
  generalize w2.heap.size = b3 at *
  have q0 : ∀ W', Keeps [w.heap.size] w3 W' → W'.cell? ⟨w.heap.size, 0, none⟩ = some (.pointer (some ⟨B, 0, none⟩)) := fun W' hW => (hW.cell (by simp)).trans (hS.p1.cell 0)
  have hS0 := hS.ext (Ext.drew w3)
  have F0 : Fr b3 B w3 w3.drew := Fr.ext (Ext.drew w3)
  have hct := one_calls w0 w3.drew B r1 hS0.rd
  unfold PsPost at hct
  have hrg := one_range hS0.rd.bytes
  rw [h1] at hct hrg
  try simp only at hrg
  obtain ⟨c1, rfl⟩ := Int.eq_ofNat_of_zero_le hrg.1
  rw [Int.toNat_natCast] at h2
  have eg := enters_of Tryz.func64 (by kernel_rfl) rfl
  refine wp_region_S (Keeps [w.heap.size] w3) [(0, true), (1, true), (3, true), (2, false), (4, false)] (by kernel_rfl) (by kernel_rfl) (fun _ _ d _ _ h => by cases d <;> exact h) (Keeps.drew _ _) ?_
  simp only [pickE, List.getElem?_cons_zero, List.getElem?_cons_succ]
  repeat (first | (refine wpF_pure (by rfl) (fun W hW => by go_simp; with_reducible rfl) ?_; simp only [Act.put, List.setIfInBounds_toArray, List.set_cons_zero, List.set_cons_succ]) | (refine wpF_skip (by rfl) ?_; simp only [Act.put, List.setIfInBounds_toArray, List.set_cons_zero, List.set_cons_succ]))
  generalize w3.drew = y0 at *
  refine wpF_step (by rfl) (fun K hK => ?_)
  go_simp
  refine hct.mono ?_
  rintro e y1 ⟨rfl, hr, hg⟩
  have hS1 := hS0.read hr hg
  have F1 := F0.trans (Fr.grown (lo := b3) (B := B) hg (fun k hk => .inl (by cases hk; rfl)))
  refine hK _ _ (hS.keep1 F1) ?_
  clear hK K hct hr hg hS0 F0
  try simp only [Act.put, List.setIfInBounds_toArray, List.set_cons_zero, List.set_cons_succ]
  repeat (first | (refine wpF_pure (by rfl) (fun W hW => by go_simp; with_reducible rfl) ?_; simp only [Act.put, List.setIfInBounds_toArray, List.set_cons_zero, List.set_cons_succ]) | (refine wpF_skip (by rfl) ?_; simp only [Act.put, List.setIfInBounds_toArray, List.set_cons_zero, List.set_cons_succ]))
  have hmr := many_row w0 y1 B w.heap.size b3 64 1 c1 r2 #[.int .i64 op, .slice none 0 0, .int .i64 0, .int .i64 0, .int .i64 0, .int .i64 0, .int .i64 0, .int .i64 0, .int .i64 0, .int .i64 0, .int .i64 0, .int .i64 0, .slice none 0 0, .slice none 0 0] 67 3 [⟨110, 1, .slice none 0 0, 0, []⟩, ⟨21, 1, .slice none 0 0, 0, []⟩] (.slice none 0 0) pOne (.int .i64) hS1 rfl (by omega) eg (fun W r cs v n xs h hi hn => node1_calls w0 W B _ b3 r cs _ _ v n xs h hi hn)
  have hlen := many_len pOne c1 r2
  have hall := trivial
  rw [h2] at hmr hlen
  simp only at hlen
  refine wpF_step (by rfl) (fun K hK => ?_)
  go_simp
  refine hmr.mono ?_
  rintro e w4 ⟨rfl, iv, hS2, F2⟩
  refine hK _ _ (hS.keep1 (F1.trans F2)) ?_
  clear hK K hmr q0 hS1
  have HLiv := Lib.hid (show ins.length ≤ 255 by omega)
  have HAiv := Lib.hid hall
  clear hall hlen
  replace F := F.trans (F1.trans F2)
  clear F1 F2 hS eg hrg h2 h1
  try simp only [Act.put, List.setIfInBounds_toArray, List.set_cons_zero, List.set_cons_succ]
  refine wpF_nil ?_
  have hS := hS2
  clear hS2
  replace hS : ClS w0 w4 B w.heap.size b3 r3 #[.int .i64 op, iv, .int .i64 0, .int .i64 0, .int .i64 0, .int .i64 0, .int .i64 0, .int .i64 0, .int .i64 0, .int .i64 0, .int .i64 0, .int .i64 0, .slice none 0 0, .slice none 0 0] 67 [⟨3, 1, iv, ins.length, ins.map (.int .i64)⟩, ⟨110, 1, .slice none 0 0, 0, []⟩, ⟨21, 1, .slice none 0 0, 0, []⟩] := by simpa using hS
  go_upto_region 3 with fail
  have q0 : ∀ W', Keeps [w.heap.size] w4 W' → W'.cell? ⟨w.heap.size, 0, none⟩ = some (.pointer (some ⟨B, 0, none⟩)) := fun W' hW => (hW.cell (by simp)).trans (hS.p1.cell 0)
  have hS0 := hS.ext (Ext.drew w4)
  have F0 : Fr b3 B w4 w4.drew := Fr.ext (Ext.drew w4)
  refine wp_region_S (Keeps [w.heap.size] w4) [(0, true), (2, true), (4, true), (6, true), (1, false), (8, true), (3, false), (5, false), (7, false), (9, false), (10, true), (11, false), (12, true), (13, false), (14, true), (15, false)] (by kernel_rfl) (by kernel_rfl) (fun _ _ d _ _ h => by cases d <;> exact h) (Keeps.drew _ _) ?_
  simp only [pickE, List.getElem?_cons_zero, List.getElem?_cons_succ]
  repeat (first | (refine wpF_pure (by rfl) (fun W hW => by go_simp; with_reducible rfl) ?_; simp only [Act.put, List.setIfInBounds_toArray, List.set_cons_zero, List.set_cons_succ]) | (refine wpF_skip (by rfl) ?_; simp only [Act.put, List.setIfInBounds_toArray, List.set_cons_zero, List.set_cons_succ]))
  generalize w4.drew = y0 at *
  have hct := one_calls w0 y0 B r3 hS0.rd
  unfold PsPost at hct
  rw [h3] at hct
  refine wpF_step (by rfl) (fun K hK => ?_)
  go_simp
  refine hct.mono ?_
  rintro e y1 ⟨rfl, hr, hg⟩
  have hS1 := hS0.read hr hg
  have F1 := F0.trans (Fr.grown (lo := b3) (B := B) hg (fun k hk => .inl (by cases hk; rfl)))
  refine hK _ _ (hS.keep1 F1) ?_
  clear hK K hct hr hg hS0 F0 h3
  try simp only [Act.put, List.setIfInBounds_toArray, List.set_cons_zero, List.set_cons_succ]
  repeat (first | (refine wpF_pure (by rfl) (fun W hW => by go_simp; with_reducible rfl) ?_; simp only [Act.put, List.setIfInBounds_toArray, List.set_cons_zero, List.set_cons_succ]) | (refine wpF_skip (by rfl) ?_; simp only [Act.put, List.setIfInBounds_toArray, List.set_cons_zero, List.set_cons_succ]))
  have hct := one_calls w0 y1 B r4 hS1.rd
  unfold PsPost at hct
  rw [h4] at hct
  refine wpF_step (by rfl) (fun K hK => ?_)
  go_simp
  refine hct.mono ?_
  rintro e y2 ⟨rfl, hr, hg⟩
  have hS2 := hS1.read hr hg
  have F2 := F1.trans (Fr.grown (lo := b3) (B := B) hg (fun k hk => .inl (by cases hk; rfl)))
  refine hK _ _ (hS.keep1 F2) ?_
  clear hK K hct hr hg hS1 F1 h4
  try simp only [Act.put, List.setIfInBounds_toArray, List.set_cons_zero, List.set_cons_succ]
  repeat (first | (refine wpF_pure (by rfl) (fun W hW => by go_simp; with_reducible rfl) ?_; simp only [Act.put, List.setIfInBounds_toArray, List.set_cons_zero, List.set_cons_succ]) | (refine wpF_skip (by rfl) ?_; simp only [Act.put, List.setIfInBounds_toArray, List.set_cons_zero, List.set_cons_succ]))
  have hct := one_calls w0 y2 B r5 hS2.rd
  unfold PsPost at hct
  rw [h5] at hct
  refine wpF_step (by rfl) (fun K hK => ?_)
  go_simp
  refine hct.mono ?_
  rintro e y3 ⟨rfl, hr, hg⟩
  have hS3 := hS2.read hr hg
  have F3 := F2.trans (Fr.grown (lo := b3) (B := B) hg (fun k hk => .inl (by cases hk; rfl)))
  refine hK _ _ (hS.keep1 F3) ?_
  clear hK K hct hr hg hS2 F2 h5
  try simp only [Act.put, List.setIfInBounds_toArray, List.set_cons_zero, List.set_cons_succ]
  repeat (first | (refine wpF_pure (by rfl) (fun W hW => by go_simp; with_reducible rfl) ?_; simp only [Act.put, List.setIfInBounds_toArray, List.set_cons_zero, List.set_cons_succ]) | (refine wpF_skip (by rfl) ?_; simp only [Act.put, List.setIfInBounds_toArray, List.set_cons_zero, List.set_cons_succ]))
  have hct := one_calls w0 y3 B r6 hS3.rd
  unfold PsPost at hct
  rw [h6] at hct
  refine wpF_step (by rfl) (fun K hK => ?_)
  go_simp
  refine hct.mono ?_
  rintro e y4 ⟨rfl, hr, hg⟩
  have hS4 := hS3.read hr hg
  have F4 := F3.trans (Fr.grown (lo := b3) (B := B) hg (fun k hk => .inl (by cases hk; rfl)))
  refine hK _ _ (hS.keep1 F4) ?_
  clear hK K hct hr hg hS3 F3 h6
  try simp only [Act.put, List.setIfInBounds_toArray, List.set_cons_zero, List.set_cons_succ]
  repeat (first | (refine wpF_pure (by rfl) (fun W hW => by go_simp; with_reducible rfl) ?_; simp only [Act.put, List.setIfInBounds_toArray, List.set_cons_zero, List.set_cons_succ]) | (refine wpF_skip (by rfl) ?_; simp only [Act.put, List.setIfInBounds_toArray, List.set_cons_zero, List.set_cons_succ]))
  have hlt := hS4.nb.lt
  have hfr := hS4.nb.frozen 2
  have hcl : World.cell? y4 ⟨b3, 2, none⟩ = some (.int .i64 0) := hS4.nb.cell 2
  obtain ⟨hS5, f1⟩ := hS4.store 2 (.int .i64 k)
  have F5 := F4.trans f1
  refine wpF_step (by rfl) (fun K hK => ?_)
  go_simp
  refine hK _ _ (hS.keep1 F5) ?_
  clear hK K f1 hlt hfr hcl hS4 F4
  generalize World.setCell y4 _ _ = y5 at *
  try simp only [Act.put, List.setIfInBounds_toArray, List.set_cons_zero, List.set_cons_succ]
  repeat (first | (refine wpF_pure (by rfl) (fun W hW => by go_simp; with_reducible rfl) ?_; simp only [Act.put, List.setIfInBounds_toArray, List.set_cons_zero, List.set_cons_succ]) | (refine wpF_skip (by rfl) ?_; simp only [Act.put, List.setIfInBounds_toArray, List.set_cons_zero, List.set_cons_succ]))
  have hlt := hS5.nb.lt
  have hfr := hS5.nb.frozen 3
  have hcl : World.cell? y5 ⟨b3, 3, none⟩ = some (.int .i64 0) := hS5.nb.cell 3
  obtain ⟨hS6, f1⟩ := hS5.store 3 (.int .i64 st)
  have F6 := F5.trans f1
  refine wpF_step (by rfl) (fun K hK => ?_)
  go_simp
  refine hK _ _ (hS.keep1 F6) ?_
  clear hK K f1 hlt hfr hcl hS5 F5
  generalize World.setCell y5 _ _ = y6 at *
  try simp only [Act.put, List.setIfInBounds_toArray, List.set_cons_zero, List.set_cons_succ]
  repeat (first | (refine wpF_pure (by rfl) (fun W hW => by go_simp; with_reducible rfl) ?_; simp only [Act.put, List.setIfInBounds_toArray, List.set_cons_zero, List.set_cons_succ]) | (refine wpF_skip (by rfl) ?_; simp only [Act.put, List.setIfInBounds_toArray, List.set_cons_zero, List.set_cons_succ]))
  have hlt := hS6.nb.lt
  have hfr := hS6.nb.frozen 4
  have hcl : World.cell? y6 ⟨b3, 4, none⟩ = some (.int .i64 0) := hS6.nb.cell 4
  obtain ⟨hS7, f1⟩ := hS6.store 4 (.int .i64 pad)
  have F7 := F6.trans f1
  refine wpF_step (by rfl) (fun K hK => ?_)
  go_simp
  refine hK _ _ (hS.keep1 F7) ?_
  clear hK K f1 hlt hfr hcl hS6 F6
  generalize World.setCell y6 _ _ = y7 at *
  try simp only [Act.put, List.setIfInBounds_toArray, List.set_cons_zero, List.set_cons_succ]
  repeat (first | (refine wpF_pure (by rfl) (fun W hW => by go_simp; with_reducible rfl) ?_; simp only [Act.put, List.setIfInBounds_toArray, List.set_cons_zero, List.set_cons_succ]) | (refine wpF_skip (by rfl) ?_; simp only [Act.put, List.setIfInBounds_toArray, List.set_cons_zero, List.set_cons_succ]))
  have hlt := hS7.nb.lt
  have hfr := hS7.nb.frozen 5
  have hcl : World.cell? y7 ⟨b3, 5, none⟩ = some (.int .i64 0) := hS7.nb.cell 5
  obtain ⟨hS8, f1⟩ := hS7.store 5 (.int .i64 out)
  have F8 := F7.trans f1
  refine wpF_step (by rfl) (fun K hK => ?_)
  go_simp
  refine hK _ _ (hS.keep1 F8) ?_
  clear hK K f1 hlt hfr hcl hS7 F7
  generalize World.setCell y7 _ _ = w5 at *
  try simp only [Act.put, List.setIfInBounds_toArray, List.set_cons_zero, List.set_cons_succ]
  repeat (first | (refine wpF_pure (by rfl) (fun W hW => by go_simp; with_reducible rfl) ?_; simp only [Act.put, List.setIfInBounds_toArray, List.set_cons_zero, List.set_cons_succ]) | (refine wpF_skip (by rfl) ?_; simp only [Act.put, List.setIfInBounds_toArray, List.set_cons_zero, List.set_cons_succ]))
  refine wpF_nil ?_
  replace F := F.trans F8
  clear F8 hS q0
  have hS := hS8
  clear hS8
  replace hS : ClS w0 w5 B w.heap.size b3 r7 #[.int .i64 op, iv, .int .i64 k, .int .i64 st, .int .i64 pad, .int .i64 out, .int .i64 0, .int .i64 0, .int .i64 0, .int .i64 0, .int .i64 0, .int .i64 0, .slice none 0 0, .slice none 0 0] 67 [⟨3, 1, iv, ins.length, ins.map (.int .i64)⟩, ⟨110, 1, .slice none 0 0, 0, []⟩, ⟨21, 1, .slice none 0 0, 0, []⟩] := by simpa using hS
  go_upto_region 4 with fail
  have q0 : World.cell? w5 ⟨w.heap.size, 0, none⟩ = some (.pointer (some ⟨B, 0, none⟩)) := hS.p1.cell 0
  have hct := two_calls w0 w5 B r7 hS.rd
  unfold PsPost at hct
  rw [h7] at hct
  try simp only [Sz.v] at hct
  go_wp2_with fail
  refine hct.mono ?_
  rintro e y1 ⟨rfl, hr, hg⟩
  have hS1 := hS.read hr hg
  have F1 := Fr.grown (lo := b3) (B := B) hg (fun k hk => .inl (by cases hk; rfl))
  clear hct hr hg q0 h7
  have hlt := hS1.nb.lt
  have hfr6 := hS1.nb.frozen 6
  have hcl6 : World.cell? y1 ⟨b3, 6, none⟩ = some (.int .i64 0) := hS1.nb.cell 6
  obtain ⟨hS2, f2⟩ := hS1.store 6 (.int .i64 mul)
  have FF := (F1.trans f2)
  clear hS hS1 f2 F1
  go_upto_region 5 with fail
  replace F := F.trans FF
  clear FF hlt hfr6 hcl6
  generalize World.setCell y1 _ _ = w6 at *
  have hS := hS2
  clear hS2
  replace hS : ClS w0 w6 B w.heap.size b3 r8 #[.int .i64 op, iv, .int .i64 k, .int .i64 st, .int .i64 pad, .int .i64 out, .int .i64 mul, .int .i64 0, .int .i64 0, .int .i64 0, .int .i64 0, .int .i64 0, .slice none 0 0, .slice none 0 0] 67 [⟨3, 1, iv, ins.length, ins.map (.int .i64)⟩, ⟨110, 1, .slice none 0 0, 0, []⟩, ⟨21, 1, .slice none 0 0, 0, []⟩] := by simpa using hS
  go_upto_region 5 with fail
  have q0 : ∀ W', Keeps [w.heap.size] w6 W' → W'.cell? ⟨w.heap.size, 0, none⟩ = some (.pointer (some ⟨B, 0, none⟩)) := fun W' hW => (hW.cell (by simp)).trans (hS.p1.cell 0)
  have hS0 := hS.ext (Ext.drew w6)
  have F0 : Fr b3 B w6 w6.drew := Fr.ext (Ext.drew w6)
  refine wp_region_S (Keeps [w.heap.size] w6) [(0, true), (2, true), (1, false), (4, true), (3, false), (5, false), (6, true), (7, false)] (by kernel_rfl) (by kernel_rfl) (fun _ _ d _ _ h => by cases d <;> exact h) (Keeps.drew _ _) ?_
  simp only [pickE, List.getElem?_cons_zero, List.getElem?_cons_succ]
  repeat (first | (refine wpF_pure (by rfl) (fun W hW => by go_simp; with_reducible rfl) ?_; simp only [Act.put, List.setIfInBounds_toArray, List.set_cons_zero, List.set_cons_succ]) | (refine wpF_skip (by rfl) ?_; simp only [Act.put, List.setIfInBounds_toArray, List.set_cons_zero, List.set_cons_succ]))
  generalize w6.drew = y0 at *
  have hct := one_calls w0 y0 B r8 hS0.rd
  unfold PsPost at hct
  rw [h8] at hct
  refine wpF_step (by rfl) (fun K hK => ?_)
  go_simp
  refine hct.mono ?_
  rintro e y1 ⟨rfl, hr, hg⟩
  have hS1 := hS0.read hr hg
  have F1 := F0.trans (Fr.grown (lo := b3) (B := B) hg (fun k hk => .inl (by cases hk; rfl)))
  refine hK _ _ (hS.keep1 F1) ?_
  clear hK K hct hr hg hS0 F0 h8
  try simp only [Act.put, List.setIfInBounds_toArray, List.set_cons_zero, List.set_cons_succ]
  repeat (first | (refine wpF_pure (by rfl) (fun W hW => by go_simp; with_reducible rfl) ?_; simp only [Act.put, List.setIfInBounds_toArray, List.set_cons_zero, List.set_cons_succ]) | (refine wpF_skip (by rfl) ?_; simp only [Act.put, List.setIfInBounds_toArray, List.set_cons_zero, List.set_cons_succ]))
  have hct := zero_calls w0 y1 B r9 hS1.rd
  unfold PsPost at hct
  rw [h9] at hct
  refine wpF_step (by rfl) (fun K hK => ?_)
  go_simp
  refine hct.mono ?_
  rintro e y2 ⟨rfl, hr, hg⟩
  have hS2 := hS1.read hr hg
  have F2 := F1.trans (Fr.grown (lo := b3) (B := B) hg (fun k hk => .inl (by cases hk; rfl)))
  refine hK _ _ (hS.keep1 F2) ?_
  clear hK K hct hr hg hS1 F1 h9
  try simp only [Act.put, List.setIfInBounds_toArray, List.set_cons_zero, List.set_cons_succ]
  repeat (first | (refine wpF_pure (by rfl) (fun W hW => by go_simp; with_reducible rfl) ?_; simp only [Act.put, List.setIfInBounds_toArray, List.set_cons_zero, List.set_cons_succ]) | (refine wpF_skip (by rfl) ?_; simp only [Act.put, List.setIfInBounds_toArray, List.set_cons_zero, List.set_cons_succ]))
  have hlt := hS2.nb.lt
  have hfr := hS2.nb.frozen 7
  have hcl : World.cell? y2 ⟨b3, 7, none⟩ = some (.int .i64 0) := hS2.nb.cell 7
  obtain ⟨hS3, f1⟩ := hS2.store 7 (.int .i64 sh)
  have F3 := F2.trans f1
  refine wpF_step (by rfl) (fun K hK => ?_)
  go_simp
  refine hK _ _ (hS.keep1 F3) ?_
  clear hK K f1 hlt hfr hcl hS2 F2
  generalize World.setCell y2 _ _ = y3 at *
  try simp only [Act.put, List.setIfInBounds_toArray, List.set_cons_zero, List.set_cons_succ]
  repeat (first | (refine wpF_pure (by rfl) (fun W hW => by go_simp; with_reducible rfl) ?_; simp only [Act.put, List.setIfInBounds_toArray, List.set_cons_zero, List.set_cons_succ]) | (refine wpF_skip (by rfl) ?_; simp only [Act.put, List.setIfInBounds_toArray, List.set_cons_zero, List.set_cons_succ]))
  have hlt := hS3.nb.lt
  have hfr := hS3.nb.frozen 8
  have hcl : World.cell? y3 ⟨b3, 8, none⟩ = some (.int .i64 0) := hS3.nb.cell 8
  obtain ⟨hS4, f1⟩ := hS3.store 8 (.int .i64 zero)
  have F4 := F3.trans f1
  refine wpF_step (by rfl) (fun K hK => ?_)
  go_simp
  refine hK _ _ (hS.keep1 F4) ?_
  clear hK K f1 hlt hfr hcl hS3 F3
  generalize World.setCell y3 _ _ = w7 at *
  try simp only [Act.put, List.setIfInBounds_toArray, List.set_cons_zero, List.set_cons_succ]
  repeat (first | (refine wpF_pure (by rfl) (fun W hW => by go_simp; with_reducible rfl) ?_; simp only [Act.put, List.setIfInBounds_toArray, List.set_cons_zero, List.set_cons_succ]) | (refine wpF_skip (by rfl) ?_; simp only [Act.put, List.setIfInBounds_toArray, List.set_cons_zero, List.set_cons_succ]))
  refine wpF_nil ?_
  replace F := F.trans F4
  clear F4 hS q0
  have hS := hS4
  clear hS4
  replace hS : ClS w0 w7 B w.heap.size b3 r10 #[.int .i64 op, iv, .int .i64 k, .int .i64 st, .int .i64 pad, .int .i64 out, .int .i64 mul, .int .i64 sh, .int .i64 zero, .int .i64 0, .int .i64 0, .int .i64 0, .slice none 0 0, .slice none 0 0] 67 [⟨3, 1, iv, ins.length, ins.map (.int .i64)⟩, ⟨110, 1, .slice none 0 0, 0, []⟩, ⟨21, 1, .slice none 0 0, 0, []⟩] := by simpa using hS
  go_upto_region 6 with fail
  have q0 : World.cell? w7 ⟨w.heap.size, 0, none⟩ = some (.pointer (some ⟨B, 0, none⟩)) := hS.p1.cell 0
  have hct := shape_calls w0 w7 B r10 hS.rd
  unfold PsPost at hct
  rw [h10] at hct
  try simp only [Sz.v] at hct
  go_wp2_with fail
  refine hct.mono ?_
  rintro e y1 ⟨rfl, hr, hg⟩
  have hS1 := hS.read hr hg
  have F1 := Fr.grown (lo := b3) (B := B) hg (fun k hk => .inl (by cases hk; rfl))
  clear hct hr hg q0 h10
  have hlt := hS1.nb.lt
  have hfr9 := hS1.nb.frozen 9
  have hcl9 : World.cell? y1 ⟨b3, 9, none⟩ = some (.int .i64 0) := hS1.nb.cell 9
  have hfr10 := hS1.nb.frozen 10
  have hcl10 : World.cell? y1 ⟨b3, 10, none⟩ = some (.int .i64 0) := hS1.nb.cell 10
  have hfr11 := hS1.nb.frozen 11
  have hcl11 : World.cell? y1 ⟨b3, 11, none⟩ = some (.int .i64 0) := hS1.nb.cell 11
  obtain ⟨hS2, f2⟩ := hS1.store 9 (.int .i64 th)
  obtain ⟨hS3, f3⟩ := hS2.store 10 (.int .i64 tw)
  obtain ⟨hS4, f4⟩ := hS3.store 11 (.int .i64 tc)
  have FF := (((F1.trans f2).trans f3).trans f4)
  clear hS hS1 hS2 hS3 f2 f3 f4 F1
  go_upto_region 7 with fail
  replace F := F.trans FF
  clear FF hlt hfr9 hcl9 hfr10 hcl10 hfr11 hcl11
  generalize World.setCell (World.setCell (World.setCell y1 _ _) _ _) _ _ = w8 at *
  have hS := hS4
  clear hS4
  replace hS : ClS w0 w8 B w.heap.size b3 r11 #[.int .i64 op, iv, .int .i64 k, .int .i64 st, .int .i64 pad, .int .i64 out, .int .i64 mul, .int .i64 sh, .int .i64 zero, .int .i64 th, .int .i64 tw, .int .i64 tc, .slice none 0 0, .slice none 0 0] 67 [⟨3, 1, iv, ins.length, ins.map (.int .i64)⟩, ⟨110, 1, .slice none 0 0, 0, []⟩, ⟨21, 1, .slice none 0 0, 0, []⟩] := by simpa using hS
  go_upto_region 7 with fail
  have q0 : ∀ W', Keeps [w.heap.size] w8 W' → W'.cell? ⟨w.heap.size, 0, none⟩ = some (.pointer (some ⟨B, 0, none⟩)) := fun W' hW => (hW.cell (by simp)).trans (hS.p1.cell 0)
  have hS0 := hS.ext (Ext.drew w8)
  have F0 : Fr b3 B w8 w8.drew := Fr.ext (Ext.drew w8)
  have hct := two_calls w0 w8.drew B r11 hS0.rd
  unfold PsPost at hct
  have hrg := two_range hS0.rd.bytes
  rw [h11] at hct hrg
  try simp only at hrg
  obtain ⟨c2, rfl⟩ := Int.eq_ofNat_of_zero_le hrg.1
  rw [Int.toNat_natCast] at h12
  have eg := enters_of Tryz.func66 (by kernel_rfl) rfl
  refine wp_region_S (Keeps [w.heap.size] w8) [(0, true), (1, true), (3, true), (2, false), (4, false)] (by kernel_rfl) (by kernel_rfl) (fun _ _ d _ _ h => by cases d <;> exact h) (Keeps.drew _ _) ?_
  simp only [pickE, List.getElem?_cons_zero, List.getElem?_cons_succ]
  repeat (first | (refine wpF_pure (by rfl) (fun W hW => by go_simp; with_reducible rfl) ?_; simp only [Act.put, List.setIfInBounds_toArray, List.set_cons_zero, List.set_cons_succ]) | (refine wpF_skip (by rfl) ?_; simp only [Act.put, List.setIfInBounds_toArray, List.set_cons_zero, List.set_cons_succ]))
  generalize w8.drew = y0 at *
  refine wpF_step (by rfl) (fun K hK => ?_)
  go_simp
  refine hct.mono ?_
  rintro e y1 ⟨rfl, hr, hg⟩
  have hS1 := hS0.read hr hg
  have F1 := F0.trans (Fr.grown (lo := b3) (B := B) hg (fun k hk => .inl (by cases hk; rfl)))
  refine hK _ _ (hS.keep1 F1) ?_
  clear hK K hct hr hg hS0 F0
  try simp only [Act.put, List.setIfInBounds_toArray, List.set_cons_zero, List.set_cons_succ]
  repeat (first | (refine wpF_pure (by rfl) (fun W hW => by go_simp; with_reducible rfl) ?_; simp only [Act.put, List.setIfInBounds_toArray, List.set_cons_zero, List.set_cons_succ]) | (refine wpF_skip (by rfl) ?_; simp only [Act.put, List.setIfInBounds_toArray, List.set_cons_zero, List.set_cons_succ]))
  replace hS1 := hS1.swap
  have hmr := many_row w0 y1 B w.heap.size b3 66 12 c2 r12 #[.int .i64 op, iv, .int .i64 k, .int .i64 st, .int .i64 pad, .int .i64 out, .int .i64 mul, .int .i64 sh, .int .i64 zero, .int .i64 th, .int .i64 tw, .int .i64 tc, .slice none 0 0, .slice none 0 0] 67 110 [⟨3, 1, iv, ins.length, ins.map (.int .i64)⟩, ⟨21, 1, .slice none 0 0, 0, []⟩] (.slice none 0 0) pZero (.int .i8) hS1 rfl (by omega) eg (fun W r cs v n xs h hi hn => node2_calls w0 W B _ b3 r cs _ _ v n xs h hi hn)
  have hlen := many_len pZero c2 r12
  have hall := (many_all (P := InK .i8) (fun r h => zero_all h) c2 r12 hS1.rd.bytes).1
  rw [h12] at hmr hlen hall
  simp only at hlen hall
  refine wpF_step (by rfl) (fun K hK => ?_)
  go_simp
  refine hmr.mono ?_
  rintro e w9 ⟨rfl, wv, hS2, F2⟩
  refine hK _ _ (hS.keep1 (F1.trans F2)) ?_
  clear hK K hmr q0 hS1
  have HLwv := Lib.hid (show ws.length ≤ 65535 by omega)
  have HAwv := Lib.hid hall
  clear hall hlen
  replace F := F.trans (F1.trans F2)
  clear F1 F2 hS eg hrg h12 h11
  try simp only [Act.put, List.setIfInBounds_toArray, List.set_cons_zero, List.set_cons_succ]
  refine wpF_nil ?_
  have hS := hS2
  clear hS2
  replace hS : ClS w0 w9 B w.heap.size b3 r13 #[.int .i64 op, iv, .int .i64 k, .int .i64 st, .int .i64 pad, .int .i64 out, .int .i64 mul, .int .i64 sh, .int .i64 zero, .int .i64 th, .int .i64 tw, .int .i64 tc, wv, .slice none 0 0] 67 [⟨110, 1, wv, ws.length, ws.map (.int .i8)⟩, ⟨3, 1, iv, ins.length, ins.map (.int .i64)⟩, ⟨21, 1, .slice none 0 0, 0, []⟩] := by simpa using hS
  go_upto_region 8 with fail
  have q0 : ∀ W', Keeps [w.heap.size] w9 W' → W'.cell? ⟨w.heap.size, 0, none⟩ = some (.pointer (some ⟨B, 0, none⟩)) := fun W' hW => (hW.cell (by simp)).trans (hS.p1.cell 0)
  have hS0 := hS.ext (Ext.drew w9)
  have F0 : Fr b3 B w9 w9.drew := Fr.ext (Ext.drew w9)
  have hct := one_calls w0 w9.drew B r13 hS0.rd
  unfold PsPost at hct
  have hrg := one_range hS0.rd.bytes
  rw [h13] at hct hrg
  try simp only at hrg
  obtain ⟨c3, rfl⟩ := Int.eq_ofNat_of_zero_le hrg.1
  rw [Int.toNat_natCast] at h14
  have eg := enters_of Tryz.func67 (by kernel_rfl) rfl
  refine wp_region_S (Keeps [w.heap.size] w9) [(0, true), (1, true), (3, true), (2, false), (4, false)] (by kernel_rfl) (by kernel_rfl) (fun _ _ d _ _ h => by cases d <;> exact h) (Keeps.drew _ _) ?_
  simp only [pickE, List.getElem?_cons_zero, List.getElem?_cons_succ]
  repeat (first | (refine wpF_pure (by rfl) (fun W hW => by go_simp; with_reducible rfl) ?_; simp only [Act.put, List.setIfInBounds_toArray, List.set_cons_zero, List.set_cons_succ]) | (refine wpF_skip (by rfl) ?_; simp only [Act.put, List.setIfInBounds_toArray, List.set_cons_zero, List.set_cons_succ]))
  generalize w9.drew = y0 at *
  refine wpF_step (by rfl) (fun K hK => ?_)
  go_simp
  refine hct.mono ?_
  rintro e y1 ⟨rfl, hr, hg⟩
  have hS1 := hS0.read hr hg
  have F1 := F0.trans (Fr.grown (lo := b3) (B := B) hg (fun k hk => .inl (by cases hk; rfl)))
  refine hK _ _ (hS.keep1 F1) ?_
  clear hK K hct hr hg hS0 F0
  try simp only [Act.put, List.setIfInBounds_toArray, List.set_cons_zero, List.set_cons_succ]
  repeat (first | (refine wpF_pure (by rfl) (fun W hW => by go_simp; with_reducible rfl) ?_; simp only [Act.put, List.setIfInBounds_toArray, List.set_cons_zero, List.set_cons_succ]) | (refine wpF_skip (by rfl) ?_; simp only [Act.put, List.setIfInBounds_toArray, List.set_cons_zero, List.set_cons_succ]))
  replace hS1 := hS1.rot
  have hmr := many_row w0 y1 B w.heap.size b3 67 13 c3 r14 #[.int .i64 op, iv, .int .i64 k, .int .i64 st, .int .i64 pad, .int .i64 out, .int .i64 mul, .int .i64 sh, .int .i64 zero, .int .i64 th, .int .i64 tw, .int .i64 tc, wv, .slice none 0 0] 67 21 [⟨110, 1, wv, ws.length, ws.map (.int .i8)⟩, ⟨3, 1, iv, ins.length, ins.map (.int .i64)⟩] (.slice none 0 0) pFour (.int .i32) hS1 rfl (by omega) eg (fun W r cs v n xs h hi hn => node3_calls w0 W B _ b3 r cs _ _ v n xs h hi hn)
  have hlen := many_len pFour c3 r14
  have hall := (many_all (P := InK .i32) (fun r h => four_all h) c3 r14 hS1.rd.bytes).1
  rw [h14] at hmr hlen hall
  simp only at hlen hall
  refine wpF_step (by rfl) (fun K hK => ?_)
  go_simp
  refine hmr.mono ?_
  rintro e w10 ⟨rfl, bv, hS2, F2⟩
  refine hK _ _ (hS.keep1 (F1.trans F2)) ?_
  clear hK K hmr q0 hS1
  have HLbv := Lib.hid (show bs.length ≤ 255 by omega)
  have HAbv := Lib.hid hall
  clear hall hlen
  replace F := F.trans (F1.trans F2)
  clear F1 F2 hS eg hrg h14 h13
  try simp only [Act.put, List.setIfInBounds_toArray, List.set_cons_zero, List.set_cons_succ]
  refine wpF_nil ?_
  have hS := hS2
  clear hS2
  replace hS : ClS w0 w10 B w.heap.size b3 r15 #[.int .i64 op, iv, .int .i64 k, .int .i64 st, .int .i64 pad, .int .i64 out, .int .i64 mul, .int .i64 sh, .int .i64 zero, .int .i64 th, .int .i64 tw, .int .i64 tc, wv, bv] 67 [⟨21, 1, bv, bs.length, bs.map (.int .i32)⟩, ⟨110, 1, wv, ws.length, ws.map (.int .i8)⟩, ⟨3, 1, iv, ins.length, ins.map (.int .i64)⟩] := by simpa using hS
  go_upto_region 9 with fail
  have hr10 : Blk w10 (w.heap.size + 1) #[.int .i64 0, .slice none 0 0, .int .i64 0, .int .i64 0, .int .i64 0, .int .i64 0, .int .i64 0, .int .i64 0, .int .i64 0, .int .i64 0, .int .i64 0, .int .i64 0, .slice none 0 0, .slice none 0 0] 67 := (F.block _ (by omega) hr2.lt (by omega)).trans hr2
  have nd0 : World.cell? w10 ⟨b3, 0, none⟩ = some (.int .i64 op) := hS.nb.cell 0
  have nd1 : World.cell? w10 ⟨b3, 1, none⟩ = some iv := hS.nb.cell 1
  have nd2 : World.cell? w10 ⟨b3, 2, none⟩ = some (.int .i64 k) := hS.nb.cell 2
  have nd3 : World.cell? w10 ⟨b3, 3, none⟩ = some (.int .i64 st) := hS.nb.cell 3
  have nd4 : World.cell? w10 ⟨b3, 4, none⟩ = some (.int .i64 pad) := hS.nb.cell 4
  have nd5 : World.cell? w10 ⟨b3, 5, none⟩ = some (.int .i64 out) := hS.nb.cell 5
  have nd6 : World.cell? w10 ⟨b3, 6, none⟩ = some (.int .i64 mul) := hS.nb.cell 6
  have nd7 : World.cell? w10 ⟨b3, 7, none⟩ = some (.int .i64 sh) := hS.nb.cell 7
  have nd8 : World.cell? w10 ⟨b3, 8, none⟩ = some (.int .i64 zero) := hS.nb.cell 8
  have nd9 : World.cell? w10 ⟨b3, 9, none⟩ = some (.int .i64 th) := hS.nb.cell 9
  have nd10 : World.cell? w10 ⟨b3, 10, none⟩ = some (.int .i64 tw) := hS.nb.cell 10
  have nd11 : World.cell? w10 ⟨b3, 11, none⟩ = some (.int .i64 tc) := hS.nb.cell 11
  have nd12 : World.cell? w10 ⟨b3, 12, none⟩ = some wv := hS.nb.cell 12
  have nd13 : World.cell? w10 ⟨b3, 13, none⟩ = some bv := hS.nb.cell 13
  have hone : Array.all #[.int .i64 op, iv, .int .i64 k, .int .i64 st, .int .i64 pad, .int .i64 out, .int .i64 mul, .int .i64 sh, .int .i64 zero, .int .i64 th, .int .i64 tw, .int .i64 tc, wv, bv] (·.oneCell') = true := by
    obtain ⟨_, _, e1, _⟩ := row_of_own (hS.own.own ⟨3, 1, iv, ins.length, ins.map (.int .i64)⟩ (by simp))
    obtain ⟨_, _, e2, _⟩ := row_of_own (hS.own.own ⟨110, 1, wv, ws.length, ws.map (.int .i8)⟩ (by simp))
    obtain ⟨_, _, e3, _⟩ := row_of_own (hS.own.own ⟨21, 1, bv, bs.length, bs.map (.int .i32)⟩ (by simp))
    simp only at e1 e2 e3
    rw [e1, e2, e3]
    simp [Value.oneCell']
  have HO := Lib.hid hone
  have hg9 := setRow_grown w10 (w.heap.size + 1) #[.int .i64 op, iv, .int .i64 k, .int .i64 st, .int .i64 pad, .int .i64 out, .int .i64 mul, .int .i64 sh, .int .i64 zero, .int .i64 th, .int .i64 tw, .int .i64 tc, wv, bv]
  have hown : OwnAll (w10.setRow (w.heap.size + 1) #[.int .i64 op, iv, .int .i64 k, .int .i64 st, .int .i64 pad, .int .i64 out, .int .i64 mul, .int .i64 sh, .int .i64 zero, .int .i64 th, .int .i64 tw, .int .i64 tc, wv, bv]) w.heap.size (rowsN ⟨op, iv, k, st, pad, out, mul, sh, zero, th, tw, tc, wv, bv, ins, ws, bs⟩) := ((hS.own.grown hg9 (by omega)).lower (by omega)).perm (List.reverse_perm _).symm
  have hrd : Rr w0 (w10.setRow (w.heap.size + 1) #[.int .i64 op, iv, .int .i64 k, .int .i64 st, .int .i64 pad, .int .i64 out, .int .i64 mul, .int .i64 sh, .int .i64 zero, .int .i64 th, .int .i64 tw, .int .i64 tc, wv, bv]) B r15 := by
    obtain ⟨⟨lv, k1, k2⟩, k3, k4, k5⟩ := hS.rd
    exact ⟨⟨lv, k1.grown hg9 (by simp; omega), k2⟩, Below.grown k3 hg9 k3.size (fun k hk => by cases hk; omega), k4, k5⟩
  have hgr : w.grownBy (w10.setRow (w.heap.size + 1) #[.int .i64 op, iv, .int .i64 k, .int .i64 st, .int .i64 pad, .int .i64 out, .int .i64 mul, .int .i64 sh, .int .i64 zero, .int .i64 th, .int .i64 tw, .int .i64 tc, wv, bv]) (some B) := by
    refine Fr.toGrown (lo := w.heap.size) ?_ (Nat.le_refl _)
    exact ((Fr.ext hE1).trans (F.less (by omega))).trans (Fr.grown hg9 (fun k hk => .inr (by cases hk; omega)))
  have HV := Lib.hid (show NdFit ⟨op, iv, k, st, pad, out, mul, sh, zero, th, tw, tc, wv, bv, ins, ws, bs⟩ from ⟨HLiv.out, HLwv.out, HLbv.out, HAwv.out, HAbv.out⟩)
  have HX := Lib.hid hown
  clear hone hown hS F hE1 hr2 hg9
  go_wp2_with (refine wpList_store_row rfl 67 _ _ rfl (w.heap.size + 1) #[.int .i64 op, iv, .int .i64 k, .int .i64 st, .int .i64 pad, .int .i64 out, .int .i64 mul, .int .i64 sh, .int .i64 zero, .int .i64 th, .int .i64 tw, .int .i64 tc, wv, bv] rfl rfl 67 _ hr10 (by kernel_rfl) rfl HO.out ?_)
  refine bodyPost_ret (v := .agg _) (results_cell_row Tryz.results31 _ _ (w.heap.size + 1) 67 _ (0, 0) _ rfl (setRow_heap _ _ _ _ _ _ hr10) (by kernel_rfl : Tryz.prog.underlying 67 = some (.struct (Tryz.prog.fieldsOf 67))) rfl (by kernel_rfl)) rfl ?_
  exact HP.out _ _ ⟨⟨op, iv, k, st, pad, out, mul, sh, zero, th, tw, tc, wv, bv, ins, ws, bs⟩, rfl, by rw [HN.out]; rfl, by rw [HN.out]; exact hrd, hgr, HX.out, HV.out⟩

end Go.Proofs.YtdhdbmfipkppiaaGreat
