/- The walk of the reference's reader of graphs: node. -/
import Derived.Test.YtdhdbmfipkppiaaGreatMte
set_option linter.unusedSimpArgs false
set_option linter.unusedVariables false
set_option linter.unnecessarySimpa false
namespace Go.Proofs.YtdhdbmfipkppiaaGreat
open Go.RowKit

set_option maxRecDepth 8000 in
set_option maxHeartbeats 12800000 in
theorem node4_calls (w0 w : World) (ys : List Int) (B : Nat) (r : Rd) (h : R4 w0 w ys B r) :
    Calls Tryz.prog 43 #[.pointer (some ⟨B, 0, none⟩)] w (Node4Post w0 ys B r w) := by
  have HP : Hid (∀ e w', (∃ n : Nd, e = .returned (.agg #[.int .i64 n.op, n.inV, .int .i64 n.k, .int .i64 n.st, .int .i64 n.pad, .int .i64 n.out, .int .i64 n.mul, .int .i64 n.sh, .int .i64 n.zero, .int .i64 n.th, .int .i64 n.tw, .int .i64 n.tc, n.wV, n.bV]) ∧ n.c = (qNode r).1 ∧ R4 w0 w' ys B (qNode r).2 ∧ w.grownBy w' (some B) ∧ OwnAll w' w.heap.size (rowsN n) ∧ NdFit n) → Node4Post w0 ys B r w e w') := fun e w' h => h
  generalize Node4Post w0 ys B r w = PP at *
  have hBw := h.lt
  have hE1 := (ext_alloc w (.cells #[.int .i64 0, .slice none 0 0, .int .i64 0, .int .i64 0, .int .i64 0, .int .i64 0, .int .i64 0, .int .i64 0, .int .i64 0, .int .i64 0, .int .i64 0, .int .i64 0, .slice none 0 0, .slice none 0 0] 67)).trans (ext_alloc _ (.cells #[.int .i64 0, .slice none 0 0, .int .i64 0, .int .i64 0, .int .i64 0, .int .i64 0, .int .i64 0, .int .i64 0, .int .i64 0, .int .i64 0, .int .i64 0, .int .i64 0, .slice none 0 0, .slice none 0 0] 67))
  have hb2 := (Blk.new w #[.int .i64 0, .slice none 0 0, .int .i64 0, .int .i64 0, .int .i64 0, .int .i64 0, .int .i64 0, .int .i64 0, .int .i64 0, .int .i64 0, .int .i64 0, .int .i64 0, .slice none 0 0, .slice none 0 0] 67).ext (ext_alloc _ (.cells #[.int .i64 0, .slice none 0 0, .int .i64 0, .int .i64 0, .int .i64 0, .int .i64 0, .int .i64 0, .int .i64 0, .int .i64 0, .int .i64 0, .int .i64 0, .int .i64 0, .slice none 0 0, .slice none 0 0] 67))
  have hb3 := Blk.new (w.alloc (.cells #[.int .i64 0, .slice none 0 0, .int .i64 0, .int .i64 0, .int .i64 0, .int .i64 0, .int .i64 0, .int .i64 0, .int .i64 0, .int .i64 0, .int .i64 0, .int .i64 0, .slice none 0 0, .slice none 0 0] 67)) #[.int .i64 0, .slice none 0 0, .int .i64 0, .int .i64 0, .int .i64 0, .int .i64 0, .int .i64 0, .int .i64 0, .int .i64 0, .int .i64 0, .int .i64 0, .int .i64 0, .slice none 0 0, .slice none 0 0] 67
  rw [show (w.alloc (.cells #[.int .i64 0, .slice none 0 0, .int .i64 0, .int .i64 0, .int .i64 0, .int .i64 0, .int .i64 0, .int .i64 0, .int .i64 0, .int .i64 0, .int .i64 0, .int .i64 0, .slice none 0 0, .slice none 0 0] 67)).heap.size = w.heap.size + 1 from by simp] at hb3
  have hS : C4 w0 ((w.alloc (.cells #[.int .i64 0, .slice none 0 0, .int .i64 0, .int .i64 0, .int .i64 0, .int .i64 0, .int .i64 0, .int .i64 0, .int .i64 0, .int .i64 0, .int .i64 0, .int .i64 0, .slice none 0 0, .slice none 0 0] 67)).alloc (.cells #[.int .i64 0, .slice none 0 0, .int .i64 0, .int .i64 0, .int .i64 0, .int .i64 0, .int .i64 0, .int .i64 0, .int .i64 0, .int .i64 0, .int .i64 0, .int .i64 0, .slice none 0 0, .slice none 0 0] 67)) ys B w.heap.size (w.heap.size + 1) r #[.int .i64 0, .slice none 0 0, .int .i64 0, .int .i64 0, .int .i64 0, .int .i64 0, .int .i64 0, .int .i64 0, .int .i64 0, .int .i64 0, .int .i64 0, .int .i64 0, .slice none 0 0, .slice none 0 0] #[.int .i64 0, .slice none 0 0, .int .i64 0, .int .i64 0, .int .i64 0, .int .i64 0, .int .i64 0, .int .i64 0, .int .i64 0, .int .i64 0, .int .i64 0, .int .i64 0, .slice none 0 0, .slice none 0 0] 67 [⟨110, 1, .slice none 0 0, 0, []⟩, ⟨21, 1, .slice none 0 0, 0, []⟩] := by
    refine ⟨h.later hE1, hb2, hb3, ⟨fun x hx => ?_, ?_⟩, by have := h.hB; omega⟩
    · simp only [List.mem_cons, List.not_mem_nil, or_false] at hx
      rcases hx with rfl | rfl <;> exact ⟨rfl, .inl ⟨rfl, rfl⟩⟩
    · refine List.pairwise_cons.2 ⟨fun x _ k hk => by simp [Value.ownBlock] at hk, List.pairwise_singleton _ _⟩
  clear hb2 hb3
  obtain ⟨⟨op, r1⟩, h0⟩ : ∃ x, nNum 1 r = x := ⟨_, rfl⟩
  obtain ⟨⟨ins, r3⟩, h1⟩ : ∃ x, qNums r1 = x := ⟨_, rfl⟩
  obtain ⟨⟨k, r4⟩, h3⟩ : ∃ x, nNum 1 r3 = x := ⟨_, rfl⟩
  obtain ⟨⟨st, r5⟩, h4⟩ : ∃ x, nNum 1 r4 = x := ⟨_, rfl⟩
  obtain ⟨⟨pad, r6⟩, h5⟩ : ∃ x, nNum 1 r5 = x := ⟨_, rfl⟩
  obtain ⟨⟨out, r7⟩, h6⟩ : ∃ x, nNum 1 r6 = x := ⟨_, rfl⟩
  obtain ⟨⟨mul, r8⟩, h7⟩ : ∃ x, nNum 2 r7 = x := ⟨_, rfl⟩
  obtain ⟨⟨sh, r9⟩, h8⟩ : ∃ x, nNum 1 r8 = x := ⟨_, rfl⟩
  obtain ⟨⟨zero, r10⟩, h9⟩ : ∃ x, qS 1 r9 = x := ⟨_, rfl⟩
  obtain ⟨⟨⟨th, tw, tc⟩, r11⟩, h10⟩ : ∃ x, qShape r10 = x := ⟨_, rfl⟩
  obtain ⟨⟨c2, r12⟩, h11⟩ : ∃ x, nNum 2 r11 = x := ⟨_, rfl⟩
  obtain ⟨⟨ws, r13⟩, h12⟩ : ∃ x, many (qS 1) c2.toNat r12 = x := ⟨_, rfl⟩
  obtain ⟨⟨c3, r14⟩, h13⟩ : ∃ x, nNum 1 r13 = x := ⟨_, rfl⟩
  obtain ⟨⟨bs, r15⟩, h14⟩ : ∃ x, many (qS 4) c3.toNat r14 = x := ⟨_, rfl⟩
  have HN := Lib.hid (qNode_eq h0 h1 h3 h4 h5 h6 h7 h8 h9 h10 h11 h12 h13 h14)
  have HE1 := Lib.hid hE1
  clear h hE1
  go_enter Tryz.func43, Tryz.ntmps43
  go_upto_region 2 with fail
  generalize World.alloc (World.alloc w _) _ = w1 at *
  have F : Fr (w.heap.size + 1) B w1 w1 := Fr.refl _ _ _
  obtain ⟨b3, hb3⟩ : ∃ C, w.heap.size + 1 = C := ⟨_, rfl⟩
  simp only [hb3] at hS F
  simp only [hb3]
  have hct := num_calls w0 w1 ys B 1 r hS.rd (by omega)
  unfold P4 at hct
  rw [h0] at hct
  try simp only [Sz.v] at hct
  go_wp2_with fail
  refine hct.mono ?_
  rintro e v1 ⟨rfl, hr, hg⟩
  have hS1 := hS.read hr hg
  have FF := F.trans (Fr.grown (lo := b3) (B := B) hg (fun k hk => .inl (by cases hk; rfl)))
  clear hct hr hg h0 hS F
  have hlt := hS1.nb.lt
  have hfr0 := hS1.nb.frozen 0
  have hcl0 : World.cell? v1 ⟨b3, 0, none⟩ = some (.int .i64 0) := hS1.nb.cell 0
  obtain ⟨hS2, f2⟩ := hS1.store 0 (.int .i64 op)
  have F := (FF.trans f2)
  clear FF hS1 f2
  go_upto_region 3 with fail
  clear hlt hfr0 hcl0
  generalize World.setCell v1 _ _ = v2 at *
  have hS : C4 w0 v2 ys B w.heap.size b3 r1 #[.int .i64 0, .slice none 0 0, .int .i64 0, .int .i64 0, .int .i64 0, .int .i64 0, .int .i64 0, .int .i64 0, .int .i64 0, .int .i64 0, .int .i64 0, .int .i64 0, .slice none 0 0, .slice none 0 0] #[.int .i64 op, .slice none 0 0, .int .i64 0, .int .i64 0, .int .i64 0, .int .i64 0, .int .i64 0, .int .i64 0, .int .i64 0, .int .i64 0, .int .i64 0, .int .i64 0, .slice none 0 0, .slice none 0 0] 67 [⟨110, 1, .slice none 0 0, 0, []⟩, ⟨21, 1, .slice none 0 0, 0, []⟩] := by simpa using hS2
  clear hS2
  have hct := nums_calls w0 v2 ys B r1 hS.rd
  unfold NumsPost at hct
  rw [h1] at hct
  go_wp2_with fail
  refine hct.mono ?_
  rintro e v3 ⟨iv, rfl, hown, hr, hg, hil⟩
  have hS1 := (hS.join (hS.read hr hg) (one_own (x := ⟨3, 1, iv, ins.length, ins.map (.int .i64)⟩) hown)).perm (show List.Perm ([⟨110, 1, .slice none 0 0, 0, []⟩, ⟨21, 1, .slice none 0 0, 0, []⟩] ++ [⟨3, 1, iv, ins.length, ins.map (.int .i64)⟩] : List RowF) ([⟨3, 1, iv, ins.length, ins.map (.int .i64)⟩] ++ [⟨110, 1, .slice none 0 0, 0, []⟩, ⟨21, 1, .slice none 0 0, 0, []⟩]) from List.perm_append_comm)
  have FF := F.trans (Fr.grown (lo := b3) (B := B) hg (fun k hk => .inl (by cases hk; rfl)))
  obtain ⟨Ai, ci, ei, _⟩ := row_of_own hown
  clear hct hr hg h1 hS F hown
  have hlt := hS1.nb.lt
  have hfr1 := hS1.nb.frozen 1
  have hcl1 : World.cell? v3 ⟨b3, 1, none⟩ = some (.slice none 0 0) := hS1.nb.cell 1
  obtain ⟨hS2, f2⟩ := hS1.store 1 iv
  have F := FF.trans f2
  have HIL := Lib.hid hil
  clear FF hS1 f2 hil
  have EI := Lib.hid ei
  rw [ei]
  rw [ei] at hS2 F
  go_upto_region 4 with fail
  clear hlt hfr1 hcl1
  generalize World.setCell v3 _ _ = v4 at *
  rw [← ei] at hS2
  have hS : C4 w0 v4 ys B w.heap.size b3 r3 #[.int .i64 0, .slice none 0 0, .int .i64 0, .int .i64 0, .int .i64 0, .int .i64 0, .int .i64 0, .int .i64 0, .int .i64 0, .int .i64 0, .int .i64 0, .int .i64 0, .slice none 0 0, .slice none 0 0] #[.int .i64 op, iv, .int .i64 0, .int .i64 0, .int .i64 0, .int .i64 0, .int .i64 0, .int .i64 0, .int .i64 0, .int .i64 0, .int .i64 0, .int .i64 0, .slice none 0 0, .slice none 0 0] 67 [⟨3, 1, iv, ins.length, ins.map (.int .i64)⟩, ⟨110, 1, .slice none 0 0, 0, []⟩, ⟨21, 1, .slice none 0 0, 0, []⟩] := by simpa using hS2
  clear hS2 ei
  have hct := num_calls w0 v4 ys B 1 r3 hS.rd (by omega)
  unfold P4 at hct
  rw [h3] at hct
  try simp only [Sz.v] at hct
  go_wp2_with fail
  refine hct.mono ?_
  rintro e v5 ⟨rfl, hr, hg⟩
  have hS1 := hS.read hr hg
  have FF := F.trans (Fr.grown (lo := b3) (B := B) hg (fun k hk => .inl (by cases hk; rfl)))
  clear hct hr hg h3 hS F
  have hlt := hS1.nb.lt
  have hfr2 := hS1.nb.frozen 2
  have hcl2 : World.cell? v5 ⟨b3, 2, none⟩ = some (.int .i64 0) := hS1.nb.cell 2
  obtain ⟨hS2, f2⟩ := hS1.store 2 (.int .i64 k)
  have F := (FF.trans f2)
  clear FF hS1 f2
  go_upto_region 5 with fail
  clear hlt hfr2 hcl2
  generalize World.setCell v5 _ _ = v6 at *
  have hS : C4 w0 v6 ys B w.heap.size b3 r4 #[.int .i64 0, .slice none 0 0, .int .i64 0, .int .i64 0, .int .i64 0, .int .i64 0, .int .i64 0, .int .i64 0, .int .i64 0, .int .i64 0, .int .i64 0, .int .i64 0, .slice none 0 0, .slice none 0 0] #[.int .i64 op, iv, .int .i64 k, .int .i64 0, .int .i64 0, .int .i64 0, .int .i64 0, .int .i64 0, .int .i64 0, .int .i64 0, .int .i64 0, .int .i64 0, .slice none 0 0, .slice none 0 0] 67 [⟨3, 1, iv, ins.length, ins.map (.int .i64)⟩, ⟨110, 1, .slice none 0 0, 0, []⟩, ⟨21, 1, .slice none 0 0, 0, []⟩] := by simpa using hS2
  clear hS2
  have hct := num_calls w0 v6 ys B 1 r4 hS.rd (by omega)
  unfold P4 at hct
  rw [h4] at hct
  try simp only [Sz.v] at hct
  go_wp2_with fail
  refine hct.mono ?_
  rintro e v7 ⟨rfl, hr, hg⟩
  have hS1 := hS.read hr hg
  have FF := F.trans (Fr.grown (lo := b3) (B := B) hg (fun k hk => .inl (by cases hk; rfl)))
  clear hct hr hg h4 hS F
  have hlt := hS1.nb.lt
  have hfr3 := hS1.nb.frozen 3
  have hcl3 : World.cell? v7 ⟨b3, 3, none⟩ = some (.int .i64 0) := hS1.nb.cell 3
  obtain ⟨hS2, f2⟩ := hS1.store 3 (.int .i64 st)
  have F := (FF.trans f2)
  clear FF hS1 f2
  go_upto_region 6 with fail
  clear hlt hfr3 hcl3
  generalize World.setCell v7 _ _ = v8 at *
  have hS : C4 w0 v8 ys B w.heap.size b3 r5 #[.int .i64 0, .slice none 0 0, .int .i64 0, .int .i64 0, .int .i64 0, .int .i64 0, .int .i64 0, .int .i64 0, .int .i64 0, .int .i64 0, .int .i64 0, .int .i64 0, .slice none 0 0, .slice none 0 0] #[.int .i64 op, iv, .int .i64 k, .int .i64 st, .int .i64 0, .int .i64 0, .int .i64 0, .int .i64 0, .int .i64 0, .int .i64 0, .int .i64 0, .int .i64 0, .slice none 0 0, .slice none 0 0] 67 [⟨3, 1, iv, ins.length, ins.map (.int .i64)⟩, ⟨110, 1, .slice none 0 0, 0, []⟩, ⟨21, 1, .slice none 0 0, 0, []⟩] := by simpa using hS2
  clear hS2
  have hct := num_calls w0 v8 ys B 1 r5 hS.rd (by omega)
  unfold P4 at hct
  rw [h5] at hct
  try simp only [Sz.v] at hct
  go_wp2_with fail
  refine hct.mono ?_
  rintro e v9 ⟨rfl, hr, hg⟩
  have hS1 := hS.read hr hg
  have FF := F.trans (Fr.grown (lo := b3) (B := B) hg (fun k hk => .inl (by cases hk; rfl)))
  clear hct hr hg h5 hS F
  have hlt := hS1.nb.lt
  have hfr4 := hS1.nb.frozen 4
  have hcl4 : World.cell? v9 ⟨b3, 4, none⟩ = some (.int .i64 0) := hS1.nb.cell 4
  obtain ⟨hS2, f2⟩ := hS1.store 4 (.int .i64 pad)
  have F := (FF.trans f2)
  clear FF hS1 f2
  go_upto_region 7 with fail
  clear hlt hfr4 hcl4
  generalize World.setCell v9 _ _ = v10 at *
  have hS : C4 w0 v10 ys B w.heap.size b3 r6 #[.int .i64 0, .slice none 0 0, .int .i64 0, .int .i64 0, .int .i64 0, .int .i64 0, .int .i64 0, .int .i64 0, .int .i64 0, .int .i64 0, .int .i64 0, .int .i64 0, .slice none 0 0, .slice none 0 0] #[.int .i64 op, iv, .int .i64 k, .int .i64 st, .int .i64 pad, .int .i64 0, .int .i64 0, .int .i64 0, .int .i64 0, .int .i64 0, .int .i64 0, .int .i64 0, .slice none 0 0, .slice none 0 0] 67 [⟨3, 1, iv, ins.length, ins.map (.int .i64)⟩, ⟨110, 1, .slice none 0 0, 0, []⟩, ⟨21, 1, .slice none 0 0, 0, []⟩] := by simpa using hS2
  clear hS2
  have hct := num_calls w0 v10 ys B 1 r6 hS.rd (by omega)
  unfold P4 at hct
  rw [h6] at hct
  try simp only [Sz.v] at hct
  go_wp2_with fail
  refine hct.mono ?_
  rintro e v11 ⟨rfl, hr, hg⟩
  have hS1 := hS.read hr hg
  have FF := F.trans (Fr.grown (lo := b3) (B := B) hg (fun k hk => .inl (by cases hk; rfl)))
  clear hct hr hg h6 hS F
  have hlt := hS1.nb.lt
  have hfr5 := hS1.nb.frozen 5
  have hcl5 : World.cell? v11 ⟨b3, 5, none⟩ = some (.int .i64 0) := hS1.nb.cell 5
  obtain ⟨hS2, f2⟩ := hS1.store 5 (.int .i64 out)
  have F := (FF.trans f2)
  clear FF hS1 f2
  go_upto_region 8 with fail
  clear hlt hfr5 hcl5
  generalize World.setCell v11 _ _ = v12 at *
  have hS : C4 w0 v12 ys B w.heap.size b3 r7 #[.int .i64 0, .slice none 0 0, .int .i64 0, .int .i64 0, .int .i64 0, .int .i64 0, .int .i64 0, .int .i64 0, .int .i64 0, .int .i64 0, .int .i64 0, .int .i64 0, .slice none 0 0, .slice none 0 0] #[.int .i64 op, iv, .int .i64 k, .int .i64 st, .int .i64 pad, .int .i64 out, .int .i64 0, .int .i64 0, .int .i64 0, .int .i64 0, .int .i64 0, .int .i64 0, .slice none 0 0, .slice none 0 0] 67 [⟨3, 1, iv, ins.length, ins.map (.int .i64)⟩, ⟨110, 1, .slice none 0 0, 0, []⟩, ⟨21, 1, .slice none 0 0, 0, []⟩] := by simpa using hS2
  clear hS2
  have hct := num_calls w0 v12 ys B 2 r7 hS.rd (by omega)
  unfold P4 at hct
  rw [h7] at hct
  try simp only [Sz.v] at hct
  go_wp2_with fail
  refine hct.mono ?_
  rintro e v13 ⟨rfl, hr, hg⟩
  have hS1 := hS.read hr hg
  have FF := F.trans (Fr.grown (lo := b3) (B := B) hg (fun k hk => .inl (by cases hk; rfl)))
  clear hct hr hg h7 hS F
  have hlt := hS1.nb.lt
  have hfr6 := hS1.nb.frozen 6
  have hcl6 : World.cell? v13 ⟨b3, 6, none⟩ = some (.int .i64 0) := hS1.nb.cell 6
  obtain ⟨hS2, f2⟩ := hS1.store 6 (.int .i64 mul)
  have F := (FF.trans f2)
  clear FF hS1 f2
  go_upto_region 9 with fail
  clear hlt hfr6 hcl6
  generalize World.setCell v13 _ _ = v14 at *
  have hS : C4 w0 v14 ys B w.heap.size b3 r8 #[.int .i64 0, .slice none 0 0, .int .i64 0, .int .i64 0, .int .i64 0, .int .i64 0, .int .i64 0, .int .i64 0, .int .i64 0, .int .i64 0, .int .i64 0, .int .i64 0, .slice none 0 0, .slice none 0 0] #[.int .i64 op, iv, .int .i64 k, .int .i64 st, .int .i64 pad, .int .i64 out, .int .i64 mul, .int .i64 0, .int .i64 0, .int .i64 0, .int .i64 0, .int .i64 0, .slice none 0 0, .slice none 0 0] 67 [⟨3, 1, iv, ins.length, ins.map (.int .i64)⟩, ⟨110, 1, .slice none 0 0, 0, []⟩, ⟨21, 1, .slice none 0 0, 0, []⟩] := by simpa using hS2
  clear hS2
  have hct := num_calls w0 v14 ys B 1 r8 hS.rd (by omega)
  unfold P4 at hct
  rw [h8] at hct
  try simp only [Sz.v] at hct
  go_wp2_with fail
  refine hct.mono ?_
  rintro e v15 ⟨rfl, hr, hg⟩
  have hS1 := hS.read hr hg
  have FF := F.trans (Fr.grown (lo := b3) (B := B) hg (fun k hk => .inl (by cases hk; rfl)))
  clear hct hr hg h8 hS F
  have hlt := hS1.nb.lt
  have hfr7 := hS1.nb.frozen 7
  have hcl7 : World.cell? v15 ⟨b3, 7, none⟩ = some (.int .i64 0) := hS1.nb.cell 7
  obtain ⟨hS2, f2⟩ := hS1.store 7 (.int .i64 sh)
  have F := (FF.trans f2)
  clear FF hS1 f2
  go_upto_region 10 with fail
  clear hlt hfr7 hcl7
  generalize World.setCell v15 _ _ = v16 at *
  have hS : C4 w0 v16 ys B w.heap.size b3 r9 #[.int .i64 0, .slice none 0 0, .int .i64 0, .int .i64 0, .int .i64 0, .int .i64 0, .int .i64 0, .int .i64 0, .int .i64 0, .int .i64 0, .int .i64 0, .int .i64 0, .slice none 0 0, .slice none 0 0] #[.int .i64 op, iv, .int .i64 k, .int .i64 st, .int .i64 pad, .int .i64 out, .int .i64 mul, .int .i64 sh, .int .i64 0, .int .i64 0, .int .i64 0, .int .i64 0, .slice none 0 0, .slice none 0 0] 67 [⟨3, 1, iv, ins.length, ins.map (.int .i64)⟩, ⟨110, 1, .slice none 0 0, 0, []⟩, ⟨21, 1, .slice none 0 0, 0, []⟩] := by simpa using hS2
  clear hS2
  have hct := signed_calls w0 v16 ys B 1 r9 hS.rd (.inl rfl)
  unfold P4 at hct
  rw [h9] at hct
  try simp only [Sz.v] at hct
  go_wp2_with fail
  refine hct.mono ?_
  rintro e v17 ⟨rfl, hr, hg⟩
  have hS1 := hS.read hr hg
  have FF := F.trans (Fr.grown (lo := b3) (B := B) hg (fun k hk => .inl (by cases hk; rfl)))
  clear hct hr hg h9 hS F
  have hlt := hS1.nb.lt
  have hfr8 := hS1.nb.frozen 8
  have hcl8 : World.cell? v17 ⟨b3, 8, none⟩ = some (.int .i64 0) := hS1.nb.cell 8
  obtain ⟨hS2, f2⟩ := hS1.store 8 (.int .i64 zero)
  have F := (FF.trans f2)
  clear FF hS1 f2
  go_upto_region 11 with fail
  clear hlt hfr8 hcl8
  generalize World.setCell v17 _ _ = v18 at *
  have hS : C4 w0 v18 ys B w.heap.size b3 r10 #[.int .i64 0, .slice none 0 0, .int .i64 0, .int .i64 0, .int .i64 0, .int .i64 0, .int .i64 0, .int .i64 0, .int .i64 0, .int .i64 0, .int .i64 0, .int .i64 0, .slice none 0 0, .slice none 0 0] #[.int .i64 op, iv, .int .i64 k, .int .i64 st, .int .i64 pad, .int .i64 out, .int .i64 mul, .int .i64 sh, .int .i64 zero, .int .i64 0, .int .i64 0, .int .i64 0, .slice none 0 0, .slice none 0 0] 67 [⟨3, 1, iv, ins.length, ins.map (.int .i64)⟩, ⟨110, 1, .slice none 0 0, 0, []⟩, ⟨21, 1, .slice none 0 0, 0, []⟩] := by simpa using hS2
  clear hS2
  have hct := shape4_calls w0 v18 ys B r10 hS.rd
  unfold P4 at hct
  rw [h10] at hct
  try simp only [Sz.v] at hct
  go_wp2_with fail
  refine hct.mono ?_
  rintro e v19 ⟨rfl, hr, hg⟩
  have hS1 := hS.read hr hg
  have FF := F.trans (Fr.grown (lo := b3) (B := B) hg (fun k hk => .inl (by cases hk; rfl)))
  clear hct hr hg h10 hS F
  have hlt := hS1.nb.lt
  have hfr9 := hS1.nb.frozen 9
  have hcl9 : World.cell? v19 ⟨b3, 9, none⟩ = some (.int .i64 0) := hS1.nb.cell 9
  have hfr10 := hS1.nb.frozen 10
  have hcl10 : World.cell? v19 ⟨b3, 10, none⟩ = some (.int .i64 0) := hS1.nb.cell 10
  have hfr11 := hS1.nb.frozen 11
  have hcl11 : World.cell? v19 ⟨b3, 11, none⟩ = some (.int .i64 0) := hS1.nb.cell 11
  obtain ⟨hS2, f2⟩ := hS1.store 9 (.int .i64 th)
  obtain ⟨hS3, f3⟩ := hS2.store 10 (.int .i64 tw)
  obtain ⟨hS4, f4⟩ := hS3.store 11 (.int .i64 tc)
  have F := (((FF.trans f2).trans f3).trans f4)
  clear FF hS1 f2 f3 f4 hS2 hS3
  go_upto_region 12 with fail
  clear hlt hfr9 hcl9 hfr10 hcl10 hfr11 hcl11
  generalize World.setCell (World.setCell (World.setCell v19 _ _) _ _) _ _ = v20 at *
  have hS : C4 w0 v20 ys B w.heap.size b3 r11 #[.int .i64 0, .slice none 0 0, .int .i64 0, .int .i64 0, .int .i64 0, .int .i64 0, .int .i64 0, .int .i64 0, .int .i64 0, .int .i64 0, .int .i64 0, .int .i64 0, .slice none 0 0, .slice none 0 0] #[.int .i64 op, iv, .int .i64 k, .int .i64 st, .int .i64 pad, .int .i64 out, .int .i64 mul, .int .i64 sh, .int .i64 zero, .int .i64 th, .int .i64 tw, .int .i64 tc, .slice none 0 0, .slice none 0 0] 67 [⟨3, 1, iv, ins.length, ins.map (.int .i64)⟩, ⟨110, 1, .slice none 0 0, 0, []⟩, ⟨21, 1, .slice none 0 0, 0, []⟩] := by simpa using hS4
  clear hS4
  have hrg := nNum_range (n := 2) (r := r11) hS.rd.sub
  have hct := num_calls w0 v20 ys B 2 r11 hS.rd (by omega)
  unfold P4 at hct
  rw [h11] at hct hrg
  simp only at hct hrg
  obtain ⟨hx1, hx2⟩ := hrg
  obtain ⟨n2, rfl⟩ := Int.eq_ofNat_of_zero_le hx1
  rw [Int.toNat_natCast] at h12
  have hnn2 : n2 < 65536 := by have : (n2 : Int) < 65536 := hx2; omega
  clear hx1 hx2
  go_upto_region 13 with (go_at_call 40; refine hct.mono ?_; rintro e ya ⟨rfl, hr, hg⟩)
  have hS1 := hS.read hr hg
  have FF := F.trans (Fr.grown (lo := b3) (B := B) hg (fun k hk => .inl (by cases hk; rfl)))
  clear hct hr hg h11 hS F
  have F := FF
  have hS := hS1.perm (List.Perm.swap _ _ _)
  clear hS1 FF
  have HM := Lib.hid h12
  have HQ := Lib.hid (many_all (P := InK .i8) (fun r h => q8_all h) n2 r12 hS.rd.sub).1
  have HW := Lib.hid (many_len (qS 1) n2 r12)
  rw [h12] at HQ HW
  clear h12
  go_upto_region 14 with fail
  go_loopw [5] (fun i wr => ∃ (v : Value) (k9 : Nat) (zs : List Int) (r' : Rd), k9 ≤ n2 ∧ i = .int .i64 k9 ∧ C4 w0 wr ys B w.heap.size b3 r' #[.int .i64 0, .slice none 0 0, .int .i64 0, .int .i64 0, .int .i64 0, .int .i64 0, .int .i64 0, .int .i64 0, .int .i64 0, .int .i64 0, .int .i64 0, .int .i64 0, .slice none 0 0, .slice none 0 0] #[.int .i64 op, iv, .int .i64 k, .int .i64 st, .int .i64 pad, .int .i64 out, .int .i64 mul, .int .i64 sh, .int .i64 zero, .int .i64 th, .int .i64 tw, .int .i64 tc, v, .slice none 0 0] 67 [⟨110, 1, v, k9, zs.map (.int .i8)⟩, ⟨3, 1, iv, ins.length, ins.map (.int .i64)⟩, ⟨21, 1, .slice none 0 0, 0, []⟩] ∧ zs.length = k9 ∧ Fr b3 B w1 wr ∧ many (qS 1) n2 r12 = (zs ++ (many (qS 1) (n2 - k9) r').1, (many (qS 1) (n2 - k9) r').2)) (fun i _ => n2 - (intOf i).toNat)
  case atStart => exact ⟨.slice none 0 0, 0, [], r12, by omega, rfl, hS, rfl, F, by simp⟩
  case round =>
    clear hS F
    obtain ⟨v, k9, zs, r', hk, rfl, hS, hzl, F, hm⟩ := hrel
    have hbad := hS.rd.bad
    have HMM := Lib.hid hm
    clear hm
    by_cases hlt : k9 < n2
    · cases hb : r'.bad with
      | true =>
        rw [hb] at hbad
        obtain ⟨hz9, hr9⟩ := many_stop HMM.out (.inr hb) HM.out
        replace hz9 := hz9.symm
        replace hr9 := hr9.symm
        subst hz9 hr9
        clear hb
        go_upto_region 17 with fail
        clear hbad
        have HLwv := Lib.hid (show ws.length ≤ 65535 by have h9 := HW.out; (try simp only at h9); omega)
        have HAwv := Lib.hid HQ.out
        have hlen9 : k9 = ws.length := hzl.symm
        subst hlen9
        clear HM HMM HQ HW hzl hk hlt
        obtain ⟨wv, hv9⟩ : ∃ u, u = v := ⟨_, rfl⟩
        subst hv9
        try simp only at HLwv HAwv
        have hrg := nNum_range (n := 1) (r := r13) hS.rd.sub
        have hct := num_calls w0 wr ys B 1 r13 hS.rd (by omega)
        unfold P4 at hct
        rw [h13] at hct hrg
        simp only at hct hrg
        obtain ⟨hx1, hx2⟩ := hrg
        obtain ⟨n3, rfl⟩ := Int.eq_ofNat_of_zero_le hx1
        rw [Int.toNat_natCast] at h14
        have hnn3 : n3 < 256 := by have : (n3 : Int) < 256 := hx2; omega
        clear hx1 hx2
        go_upto_region 18 with (go_at_call 40; refine hct.mono ?_; rintro e yb ⟨rfl, hr, hg⟩)
        have hS1 := hS.read hr hg
        have FF := F.trans (Fr.grown (lo := b3) (B := B) hg (fun k hk => .inl (by cases hk; rfl)))
        clear hct hr hg h13 hS F
        have F := FF
        have hS := hS1.perm ((List.Perm.cons _ (List.Perm.swap _ _ _)).trans (List.Perm.swap _ _ _))
        clear hS1 FF
        have HM := Lib.hid h14
        have HQ := Lib.hid (many_all (P := InK .i32) (fun r h => q32_all h) n3 r14 hS.rd.sub).1
        have HW := Lib.hid (many_len (qS 4) n3 r14)
        rw [h14] at HQ HW
        clear h14
        go_upto_region 19 with fail
        go_loopw [7] (fun i wr => ∃ (v : Value) (k9 : Nat) (zs : List Int) (r' : Rd), k9 ≤ n3 ∧ i = .int .i64 k9 ∧ C4 w0 wr ys B w.heap.size b3 r' #[.int .i64 0, .slice none 0 0, .int .i64 0, .int .i64 0, .int .i64 0, .int .i64 0, .int .i64 0, .int .i64 0, .int .i64 0, .int .i64 0, .int .i64 0, .int .i64 0, .slice none 0 0, .slice none 0 0] #[.int .i64 op, iv, .int .i64 k, .int .i64 st, .int .i64 pad, .int .i64 out, .int .i64 mul, .int .i64 sh, .int .i64 zero, .int .i64 th, .int .i64 tw, .int .i64 tc, wv, v] 67 [⟨21, 1, v, k9, zs.map (.int .i32)⟩, ⟨110, 1, wv, ws.length, ws.map (.int .i8)⟩, ⟨3, 1, iv, ins.length, ins.map (.int .i64)⟩] ∧ zs.length = k9 ∧ Fr b3 B w1 wr ∧ many (qS 4) n3 r14 = (zs ++ (many (qS 4) (n3 - k9) r').1, (many (qS 4) (n3 - k9) r').2)) (fun i _ => n3 - (intOf i).toNat)
        case atStart => exact ⟨.slice none 0 0, 0, [], r14, by omega, rfl, hS, rfl, F, by simp⟩
        case round =>
          clear hS F
          obtain ⟨v, k9, zs, r', hk, rfl, hS, hzl, F, hm⟩ := hrel
          have hbad := hS.rd.bad
          have HMM := Lib.hid hm
          clear hm
          by_cases hlt : k9 < n3
          · cases hb : r'.bad with
            | true =>
              rw [hb] at hbad
              obtain ⟨hz9, hr9⟩ := many_stop HMM.out (.inr hb) HM.out
              replace hz9 := hz9.symm
              replace hr9 := hr9.symm
              subst hz9 hr9
              clear hb
              go_upto_region 22 with fail
              clear hbad
              have HLbv := Lib.hid (show bs.length ≤ 255 by have h9 := HW.out; (try simp only at h9); omega)
              have HAbv := Lib.hid HQ.out
              have hlen9 : k9 = bs.length := hzl.symm
              subst hlen9
              clear HM HMM HQ HW hzl hk hlt
              obtain ⟨bv, hv9⟩ : ∃ u, u = v := ⟨_, rfl⟩
              subst hv9
              try simp only at HLbv HAbv
              have nd0 : World.cell? wr ⟨b3, 0, none⟩ = some (.int .i64 op) := hS.nb.cell 0
              have nd1 : World.cell? wr ⟨b3, 1, none⟩ = some (iv) := hS.nb.cell 1
              have nd2 : World.cell? wr ⟨b3, 2, none⟩ = some (.int .i64 k) := hS.nb.cell 2
              have nd3 : World.cell? wr ⟨b3, 3, none⟩ = some (.int .i64 st) := hS.nb.cell 3
              have nd4 : World.cell? wr ⟨b3, 4, none⟩ = some (.int .i64 pad) := hS.nb.cell 4
              have nd5 : World.cell? wr ⟨b3, 5, none⟩ = some (.int .i64 out) := hS.nb.cell 5
              have nd6 : World.cell? wr ⟨b3, 6, none⟩ = some (.int .i64 mul) := hS.nb.cell 6
              have nd7 : World.cell? wr ⟨b3, 7, none⟩ = some (.int .i64 sh) := hS.nb.cell 7
              have nd8 : World.cell? wr ⟨b3, 8, none⟩ = some (.int .i64 zero) := hS.nb.cell 8
              have nd9 : World.cell? wr ⟨b3, 9, none⟩ = some (.int .i64 th) := hS.nb.cell 9
              have nd10 : World.cell? wr ⟨b3, 10, none⟩ = some (.int .i64 tw) := hS.nb.cell 10
              have nd11 : World.cell? wr ⟨b3, 11, none⟩ = some (.int .i64 tc) := hS.nb.cell 11
              have nd12 : World.cell? wr ⟨b3, 12, none⟩ = some (wv) := hS.nb.cell 12
              have nd13 : World.cell? wr ⟨b3, 13, none⟩ = some (bv) := hS.nb.cell 13
              have hrb := hS.rb
              have hone : Array.all #[.int .i64 op, iv, .int .i64 k, .int .i64 st, .int .i64 pad, .int .i64 out, .int .i64 mul, .int .i64 sh, .int .i64 zero, .int .i64 th, .int .i64 tw, .int .i64 tc, wv, bv] (·.oneCell') = true := by
                obtain ⟨_, _, e1, _⟩ := row_of_own (hS.own.own ⟨3, 1, iv, ins.length, ins.map (.int .i64)⟩ (by simp))
                obtain ⟨_, _, e2, _⟩ := row_of_own (hS.own.own ⟨110, 1, wv, ws.length, ws.map (.int .i8)⟩ (by simp))
                obtain ⟨_, _, e3, _⟩ := row_of_own (hS.own.own ⟨21, 1, bv, bs.length, bs.map (.int .i32)⟩ (by simp))
                simp only at e1 e2 e3
                rw [e1, e2, e3]
                simp [Value.oneCell']
              have HO := Lib.hid hone
              have hg9 := setRow_grown wr w.heap.size #[.int .i64 op, iv, .int .i64 k, .int .i64 st, .int .i64 pad, .int .i64 out, .int .i64 mul, .int .i64 sh, .int .i64 zero, .int .i64 th, .int .i64 tw, .int .i64 tc, wv, bv]
              have hown : OwnAll (wr.setRow w.heap.size #[.int .i64 op, iv, .int .i64 k, .int .i64 st, .int .i64 pad, .int .i64 out, .int .i64 mul, .int .i64 sh, .int .i64 zero, .int .i64 th, .int .i64 tw, .int .i64 tc, wv, bv]) w.heap.size (rowsN ⟨op, iv, k, st, pad, out, mul, sh, zero, th, tw, tc, wv, bv, ins, ws, bs⟩) := ((hS.own.grown hg9 (by omega)).lower (by omega)).perm (by first | exact List.Perm.refl _ | exact List.reverse_perm _ | exact (List.reverse_perm _).symm)
              have hrd : R4 w0 (wr.setRow w.heap.size #[.int .i64 op, iv, .int .i64 k, .int .i64 st, .int .i64 pad, .int .i64 out, .int .i64 mul, .int .i64 sh, .int .i64 zero, .int .i64 th, .int .i64 tw, .int .i64 tc, wv, bv]) ys B r15 := hS.rd.grown hg9 (fun k hk => by cases hk; have := hS.rd.hB; omega)
              have hgr : w.grownBy (wr.setRow w.heap.size #[.int .i64 op, iv, .int .i64 k, .int .i64 st, .int .i64 pad, .int .i64 out, .int .i64 mul, .int .i64 sh, .int .i64 zero, .int .i64 th, .int .i64 tw, .int .i64 tc, wv, bv]) (some B) := by
                refine Fr.toGrown (lo := w.heap.size) ?_ (Nat.le_refl _)
                exact ((Fr.ext HE1.out).trans (F.less (by omega))).trans (Fr.grown hg9 (fun k hk => .inr (by cases hk; omega)))
              have HV := Lib.hid (show NdFit ⟨op, iv, k, st, pad, out, mul, sh, zero, th, tw, tc, wv, bv, ins, ws, bs⟩ from ⟨HIL.out, HLwv.out, HLbv.out, HAwv.out, HAbv.out⟩)
              have HX := Lib.hid hown
              clear hone hown hS F hg9
              go_wp2_with (refine wpList_store_row rfl 67 _ _ rfl w.heap.size #[.int .i64 op, iv, .int .i64 k, .int .i64 st, .int .i64 pad, .int .i64 out, .int .i64 mul, .int .i64 sh, .int .i64 zero, .int .i64 th, .int .i64 tw, .int .i64 tc, wv, bv] rfl rfl 67 _ hrb (by kernel_rfl) rfl HO.out ?_)
              refine bodyPost_ret (v := .agg _) (results_cell_row Tryz.results43 _ _ w.heap.size 67 _ (0, 0) _ rfl (setRow_heap _ _ _ _ _ _ hrb) (by kernel_rfl : Tryz.prog.underlying 67 = some (.struct (Tryz.prog.fieldsOf 67))) rfl (by kernel_rfl)) rfl ?_
              exact HP.out _ _ ⟨⟨op, iv, k, st, pad, out, mul, sh, zero, th, tw, tc, wv, bv, ins, ws, bs⟩, rfl, by rw [HN.out]; rfl, by rw [HN.out]; exact hrd, hgr, HX.out, HV.out⟩
            | false =>
              rw [hb] at hbad
              have HM2 := Lib.hid (many_more HMM.out hlt hb)
              have c1 : ∀ W', Keeps [b3] wr W' → W'.cell? ⟨b3, 13, none⟩ = some v := fun W' hW => (hW.cell (by simp)).trans (hS.nb.cell 13)
              have hD := hS.ext (Ext.drew wr)
              have F0 := F.trans (Fr.ext (lo := b3) (B := B) (Ext.drew wr))
              have K0 : Keeps [b3] wr wr.drew := Keeps.drew _ _
              have hrd := signed_calls w0 wr.drew ys B 4 r' hD.rd (by omega)
              unfold P4 at hrd
              have hzr := (q32_all hD.rd.sub).1
              clear hS F HMM
              go_upto_region 21 with fail
              clear hbad
              refine wp_region_Z (Keeps [b3] wr) 8 [(0, true), (1, true), (2, true), (3, false), (4, true), (5, false), (6, false), (7, true), (8, false)] (by kernel_rfl) (by kernel_rfl) (fun _ _ d _ _ h => by cases d <;> exact h) K0 ?_
              simp only [pickE, List.getElem?_cons_zero, List.getElem?_cons_succ]
              repeat (refine wpZ_pure (by rfl) (fun W hW => by go_simp; with_reducible rfl) ?_; simp only [Act.put, List.setIfInBounds_toArray, List.set_cons_zero, List.set_cons_succ])
              generalize wr.drew = y0 at *
              refine wpZ_step (by rfl) (fun K hK => ?_)
              go_simp
              refine hrd.mono ?_
              rintro e y1 ⟨rfl, hr1, hg1⟩
              have h1 := hD.read hr1 hg1
              have K1 := K0.trans (hD.keeps hg1)
              have F1 := F0.trans (Fr.grown (lo := b3) (B := B) hg1 (fun k hk => .inl (by cases hk; rfl)))
              refine hK _ _ K1 ?_
              clear hK K hrd hr1 hg1 hD K0 F0
              generalize (qS 4 r').1 = z at *
              generalize (qS 4 r').2 = r2 at *
              have hwr : IntKind.i32.wrap z = z := IntWalk.i32_in z (by simp only [InK] at hzr; omega)
              clear hzr
              try simp only [Act.put, List.setIfInBounds_toArray, List.set_cons_zero, List.set_cons_succ]
              repeat (refine wpZ_pure (by rfl) (fun W hW => by go_simp; with_reducible rfl) ?_; simp only [Act.put, List.setIfInBounds_toArray, List.set_cons_zero, List.set_cons_succ])
              have hE2 := ext_alloc y1 (.cells #[Value.int .i32 z] 21)
              have hnew := row_new y1 #[Value.int .i32 z] 21 1 1 rfl (by decide)
              have h2 := h1.ext hE2
              have K2 := K1.trans (h1.keepsE hE2)
              have F2 := F1.trans (Fr.ext (lo := b3) (B := B) hE2)
              refine wpZ_step (by rfl) (fun K hK => ?_)
              go_simp
              refine hK _ _ K2 ?_
              clear hK K h1 K1 F1 hE2
              generalize y1.alloc _ = y2 at *
              try simp only [Act.put, List.setIfInBounds_toArray, List.set_cons_zero, List.set_cons_succ]
              repeat (refine wpZ_pure (by rfl) (fun W hW => by go_simp; with_reducible rfl) ?_; simp only [Act.put, List.setIfInBounds_toArray, List.set_cons_zero, List.set_cons_succ])
              have hown := h2.own.own _ (List.mem_cons_self ..)
              have hbase : b3 + 1 ≤ y2.heap.size := h2.nb.lt
              have hk1 : k9 + 1 ≤ 140737488355328 := by omega
              have hk2 : (k9 + 1) * 4 ≤ 140737488355328 := by omega
              have hone : ∀ u ∈ #[Value.int .i32 z].toList, u.oneCell' = true := by intro u hu; simp at hu; subst hu; rfl
              refine wpZ_step (by rfl) (fun K hK => ?_)
              refine wp_append_row rfl elem_i32 hown rfl hnew rfl hone hk1 hk2 hbase (fun v' y3 ho hgr hnr => ?_)
              have K3 := K2.trans (h2.keepsR hgr)
              refine hK _ _ K3 ?_
              clear hK K
              obtain ⟨p1, p2, p3, p4, p5⟩ := h2.push ho hgr hnr 13
              have p5' : World.cell? y3 ⟨b3, 13, none⟩ = some v := p5
              obtain ⟨A, c, ev, _⟩ := row_of_own ho
              clear ho hgr hnr hnew hown K2 h2 p5
              have F3 := F2.trans p2
              clear p2 F2
              try simp only [Act.put, List.setIfInBounds_toArray, List.set_cons_zero, List.set_cons_succ]
              repeat (refine wpZ_pure (by rfl) (fun W hW => by go_simp; with_reducible rfl) ?_; simp only [Act.put, List.setIfInBounds_toArray, List.set_cons_zero, List.set_cons_succ])
              have EV := Lib.hid ev
              subst ev
              refine wpZ_last (by rfl) (fun K hK => ?_)
              go_simp
              refine hK _ _ ?_
              clear hK K
              try simp only [Act.put, List.setIfInBounds_toArray, List.set_cons_zero, List.set_cons_succ]
              clear p3 p4 p5'
              have hSn : C4 w0 (World.setCell y3 ⟨b3, 13, none⟩ (.slice A (k9 + 1) c)) ys B w.heap.size b3 r2 #[.int .i64 0, .slice none 0 0, .int .i64 0, .int .i64 0, .int .i64 0, .int .i64 0, .int .i64 0, .int .i64 0, .int .i64 0, .int .i64 0, .int .i64 0, .int .i64 0, .slice none 0 0, .slice none 0 0] #[.int .i64 op, iv, .int .i64 k, .int .i64 st, .int .i64 pad, .int .i64 out, .int .i64 mul, .int .i64 sh, .int .i64 zero, .int .i64 th, .int .i64 tw, .int .i64 tc, wv, (.slice A (k9 + 1) c)] 67 [⟨21, 1, (.slice A (k9 + 1) c), (k9 + 1), (zs ++ [z]).map (.int .i32)⟩, ⟨110, 1, wv, ws.length, ws.map (.int .i8)⟩, ⟨3, 1, iv, ins.length, ins.map (.int .i64)⟩] := by
                rw [List.map_append]
                simpa using p1
              clear p1
              generalize World.setCell y3 _ _ = y4 at *
              go_wp2_with fail
              go_roundw
              case rel => exact ⟨_, k9 + 1, zs ++ [z], r2, by omega, by go_num, hSn, by simp [hzl], F3, HM2.out⟩
              case measure => simp [intOf]; omega
          · obtain ⟨hz9, hr9⟩ := many_stop HMM.out (.inl (by omega)) HM.out
            replace hz9 := hz9.symm
            replace hr9 := hr9.symm
            subst hz9 hr9
            go_upto_region 22 with fail
            clear hbad
            have HLbv := Lib.hid (show bs.length ≤ 255 by have h9 := HW.out; (try simp only at h9); omega)
            have HAbv := Lib.hid HQ.out
            have hlen9 : k9 = bs.length := hzl.symm
            subst hlen9
            clear HM HMM HQ HW hzl hk hlt
            obtain ⟨bv, hv9⟩ : ∃ u, u = v := ⟨_, rfl⟩
            subst hv9
            try simp only at HLbv HAbv
            have nd0 : World.cell? wr ⟨b3, 0, none⟩ = some (.int .i64 op) := hS.nb.cell 0
            have nd1 : World.cell? wr ⟨b3, 1, none⟩ = some (iv) := hS.nb.cell 1
            have nd2 : World.cell? wr ⟨b3, 2, none⟩ = some (.int .i64 k) := hS.nb.cell 2
            have nd3 : World.cell? wr ⟨b3, 3, none⟩ = some (.int .i64 st) := hS.nb.cell 3
            have nd4 : World.cell? wr ⟨b3, 4, none⟩ = some (.int .i64 pad) := hS.nb.cell 4
            have nd5 : World.cell? wr ⟨b3, 5, none⟩ = some (.int .i64 out) := hS.nb.cell 5
            have nd6 : World.cell? wr ⟨b3, 6, none⟩ = some (.int .i64 mul) := hS.nb.cell 6
            have nd7 : World.cell? wr ⟨b3, 7, none⟩ = some (.int .i64 sh) := hS.nb.cell 7
            have nd8 : World.cell? wr ⟨b3, 8, none⟩ = some (.int .i64 zero) := hS.nb.cell 8
            have nd9 : World.cell? wr ⟨b3, 9, none⟩ = some (.int .i64 th) := hS.nb.cell 9
            have nd10 : World.cell? wr ⟨b3, 10, none⟩ = some (.int .i64 tw) := hS.nb.cell 10
            have nd11 : World.cell? wr ⟨b3, 11, none⟩ = some (.int .i64 tc) := hS.nb.cell 11
            have nd12 : World.cell? wr ⟨b3, 12, none⟩ = some (wv) := hS.nb.cell 12
            have nd13 : World.cell? wr ⟨b3, 13, none⟩ = some (bv) := hS.nb.cell 13
            have hrb := hS.rb
            have hone : Array.all #[.int .i64 op, iv, .int .i64 k, .int .i64 st, .int .i64 pad, .int .i64 out, .int .i64 mul, .int .i64 sh, .int .i64 zero, .int .i64 th, .int .i64 tw, .int .i64 tc, wv, bv] (·.oneCell') = true := by
              obtain ⟨_, _, e1, _⟩ := row_of_own (hS.own.own ⟨3, 1, iv, ins.length, ins.map (.int .i64)⟩ (by simp))
              obtain ⟨_, _, e2, _⟩ := row_of_own (hS.own.own ⟨110, 1, wv, ws.length, ws.map (.int .i8)⟩ (by simp))
              obtain ⟨_, _, e3, _⟩ := row_of_own (hS.own.own ⟨21, 1, bv, bs.length, bs.map (.int .i32)⟩ (by simp))
              simp only at e1 e2 e3
              rw [e1, e2, e3]
              simp [Value.oneCell']
            have HO := Lib.hid hone
            have hg9 := setRow_grown wr w.heap.size #[.int .i64 op, iv, .int .i64 k, .int .i64 st, .int .i64 pad, .int .i64 out, .int .i64 mul, .int .i64 sh, .int .i64 zero, .int .i64 th, .int .i64 tw, .int .i64 tc, wv, bv]
            have hown : OwnAll (wr.setRow w.heap.size #[.int .i64 op, iv, .int .i64 k, .int .i64 st, .int .i64 pad, .int .i64 out, .int .i64 mul, .int .i64 sh, .int .i64 zero, .int .i64 th, .int .i64 tw, .int .i64 tc, wv, bv]) w.heap.size (rowsN ⟨op, iv, k, st, pad, out, mul, sh, zero, th, tw, tc, wv, bv, ins, ws, bs⟩) := ((hS.own.grown hg9 (by omega)).lower (by omega)).perm (by first | exact List.Perm.refl _ | exact List.reverse_perm _ | exact (List.reverse_perm _).symm)
            have hrd : R4 w0 (wr.setRow w.heap.size #[.int .i64 op, iv, .int .i64 k, .int .i64 st, .int .i64 pad, .int .i64 out, .int .i64 mul, .int .i64 sh, .int .i64 zero, .int .i64 th, .int .i64 tw, .int .i64 tc, wv, bv]) ys B r15 := hS.rd.grown hg9 (fun k hk => by cases hk; have := hS.rd.hB; omega)
            have hgr : w.grownBy (wr.setRow w.heap.size #[.int .i64 op, iv, .int .i64 k, .int .i64 st, .int .i64 pad, .int .i64 out, .int .i64 mul, .int .i64 sh, .int .i64 zero, .int .i64 th, .int .i64 tw, .int .i64 tc, wv, bv]) (some B) := by
              refine Fr.toGrown (lo := w.heap.size) ?_ (Nat.le_refl _)
              exact ((Fr.ext HE1.out).trans (F.less (by omega))).trans (Fr.grown hg9 (fun k hk => .inr (by cases hk; omega)))
            have HV := Lib.hid (show NdFit ⟨op, iv, k, st, pad, out, mul, sh, zero, th, tw, tc, wv, bv, ins, ws, bs⟩ from ⟨HIL.out, HLwv.out, HLbv.out, HAwv.out, HAbv.out⟩)
            have HX := Lib.hid hown
            clear hone hown hS F hg9
            go_wp2_with (refine wpList_store_row rfl 67 _ _ rfl w.heap.size #[.int .i64 op, iv, .int .i64 k, .int .i64 st, .int .i64 pad, .int .i64 out, .int .i64 mul, .int .i64 sh, .int .i64 zero, .int .i64 th, .int .i64 tw, .int .i64 tc, wv, bv] rfl rfl 67 _ hrb (by kernel_rfl) rfl HO.out ?_)
            refine bodyPost_ret (v := .agg _) (results_cell_row Tryz.results43 _ _ w.heap.size 67 _ (0, 0) _ rfl (setRow_heap _ _ _ _ _ _ hrb) (by kernel_rfl : Tryz.prog.underlying 67 = some (.struct (Tryz.prog.fieldsOf 67))) rfl (by kernel_rfl)) rfl ?_
            exact HP.out _ _ ⟨⟨op, iv, k, st, pad, out, mul, sh, zero, th, tw, tc, wv, bv, ins, ws, bs⟩, rfl, by rw [HN.out]; rfl, by rw [HN.out]; exact hrd, hgr, HX.out, HV.out⟩
      | false =>
        rw [hb] at hbad
        have HM2 := Lib.hid (many_more HMM.out hlt hb)
        have c1 : ∀ W', Keeps [b3] wr W' → W'.cell? ⟨b3, 12, none⟩ = some v := fun W' hW => (hW.cell (by simp)).trans (hS.nb.cell 12)
        have hD := hS.ext (Ext.drew wr)
        have F0 := F.trans (Fr.ext (lo := b3) (B := B) (Ext.drew wr))
        have K0 : Keeps [b3] wr wr.drew := Keeps.drew _ _
        have hrd := signed_calls w0 wr.drew ys B 1 r' hD.rd (by omega)
        unfold P4 at hrd
        have hzr := (q8_all hD.rd.sub).1
        clear hS F HMM
        go_upto_region 16 with fail
        clear hbad
        refine wp_region_Z (Keeps [b3] wr) 8 [(0, true), (1, true), (2, true), (3, false), (4, true), (5, false), (6, false), (7, true), (8, false)] (by kernel_rfl) (by kernel_rfl) (fun _ _ d _ _ h => by cases d <;> exact h) K0 ?_
        simp only [pickE, List.getElem?_cons_zero, List.getElem?_cons_succ]
        repeat (refine wpZ_pure (by rfl) (fun W hW => by go_simp; with_reducible rfl) ?_; simp only [Act.put, List.setIfInBounds_toArray, List.set_cons_zero, List.set_cons_succ])
        generalize wr.drew = y0 at *
        refine wpZ_step (by rfl) (fun K hK => ?_)
        go_simp
        refine hrd.mono ?_
        rintro e y1 ⟨rfl, hr1, hg1⟩
        have h1 := hD.read hr1 hg1
        have K1 := K0.trans (hD.keeps hg1)
        have F1 := F0.trans (Fr.grown (lo := b3) (B := B) hg1 (fun k hk => .inl (by cases hk; rfl)))
        refine hK _ _ K1 ?_
        clear hK K hrd hr1 hg1 hD K0 F0
        generalize (qS 1 r').1 = z at *
        generalize (qS 1 r').2 = r2 at *
        have hwr : IntKind.i8.wrap z = z := IntWalk.i8_in z (by simp only [InK] at hzr; omega)
        clear hzr
        try simp only [Act.put, List.setIfInBounds_toArray, List.set_cons_zero, List.set_cons_succ]
        repeat (refine wpZ_pure (by rfl) (fun W hW => by go_simp; with_reducible rfl) ?_; simp only [Act.put, List.setIfInBounds_toArray, List.set_cons_zero, List.set_cons_succ])
        have hE2 := ext_alloc y1 (.cells #[Value.int .i8 z] 110)
        have hnew := row_new y1 #[Value.int .i8 z] 110 1 1 rfl (by decide)
        have h2 := h1.ext hE2
        have K2 := K1.trans (h1.keepsE hE2)
        have F2 := F1.trans (Fr.ext (lo := b3) (B := B) hE2)
        refine wpZ_step (by rfl) (fun K hK => ?_)
        go_simp
        refine hK _ _ K2 ?_
        clear hK K h1 K1 F1 hE2
        generalize y1.alloc _ = y2 at *
        try simp only [Act.put, List.setIfInBounds_toArray, List.set_cons_zero, List.set_cons_succ]
        repeat (refine wpZ_pure (by rfl) (fun W hW => by go_simp; with_reducible rfl) ?_; simp only [Act.put, List.setIfInBounds_toArray, List.set_cons_zero, List.set_cons_succ])
        have hown := h2.own.own _ (List.mem_cons_self ..)
        have hbase : b3 + 1 ≤ y2.heap.size := h2.nb.lt
        have hk1 : k9 + 1 ≤ 140737488355328 := by omega
        have hk2 : (k9 + 1) * 1 ≤ 140737488355328 := by omega
        have hone : ∀ u ∈ #[Value.int .i8 z].toList, u.oneCell' = true := by intro u hu; simp at hu; subst hu; rfl
        refine wpZ_step (by rfl) (fun K hK => ?_)
        refine wp_append_row rfl elem_i8 hown rfl hnew rfl hone hk1 hk2 hbase (fun v' y3 ho hgr hnr => ?_)
        have K3 := K2.trans (h2.keepsR hgr)
        refine hK _ _ K3 ?_
        clear hK K
        obtain ⟨p1, p2, p3, p4, p5⟩ := h2.push ho hgr hnr 12
        have p5' : World.cell? y3 ⟨b3, 12, none⟩ = some v := p5
        obtain ⟨A, c, ev, _⟩ := row_of_own ho
        clear ho hgr hnr hnew hown K2 h2 p5
        have F3 := F2.trans p2
        clear p2 F2
        try simp only [Act.put, List.setIfInBounds_toArray, List.set_cons_zero, List.set_cons_succ]
        repeat (refine wpZ_pure (by rfl) (fun W hW => by go_simp; with_reducible rfl) ?_; simp only [Act.put, List.setIfInBounds_toArray, List.set_cons_zero, List.set_cons_succ])
        have EV := Lib.hid ev
        subst ev
        refine wpZ_last (by rfl) (fun K hK => ?_)
        go_simp
        refine hK _ _ ?_
        clear hK K
        try simp only [Act.put, List.setIfInBounds_toArray, List.set_cons_zero, List.set_cons_succ]
        clear p3 p4 p5'
        have hSn : C4 w0 (World.setCell y3 ⟨b3, 12, none⟩ (.slice A (k9 + 1) c)) ys B w.heap.size b3 r2 #[.int .i64 0, .slice none 0 0, .int .i64 0, .int .i64 0, .int .i64 0, .int .i64 0, .int .i64 0, .int .i64 0, .int .i64 0, .int .i64 0, .int .i64 0, .int .i64 0, .slice none 0 0, .slice none 0 0] #[.int .i64 op, iv, .int .i64 k, .int .i64 st, .int .i64 pad, .int .i64 out, .int .i64 mul, .int .i64 sh, .int .i64 zero, .int .i64 th, .int .i64 tw, .int .i64 tc, (.slice A (k9 + 1) c), .slice none 0 0] 67 [⟨110, 1, (.slice A (k9 + 1) c), (k9 + 1), (zs ++ [z]).map (.int .i8)⟩, ⟨3, 1, iv, ins.length, ins.map (.int .i64)⟩, ⟨21, 1, .slice none 0 0, 0, []⟩] := by
          rw [List.map_append]
          simpa using p1
        clear p1
        generalize World.setCell y3 _ _ = y4 at *
        go_wp2_with fail
        go_roundw
        case rel => exact ⟨_, k9 + 1, zs ++ [z], r2, by omega, by go_num, hSn, by simp [hzl], F3, HM2.out⟩
        case measure => simp [intOf]; omega
    · obtain ⟨hz9, hr9⟩ := many_stop HMM.out (.inl (by omega)) HM.out
      replace hz9 := hz9.symm
      replace hr9 := hr9.symm
      subst hz9 hr9
      go_upto_region 17 with fail
      clear hbad
      have HLwv := Lib.hid (show ws.length ≤ 65535 by have h9 := HW.out; (try simp only at h9); omega)
      have HAwv := Lib.hid HQ.out
      have hlen9 : k9 = ws.length := hzl.symm
      subst hlen9
      clear HM HMM HQ HW hzl hk hlt
      obtain ⟨wv, hv9⟩ : ∃ u, u = v := ⟨_, rfl⟩
      subst hv9
      try simp only at HLwv HAwv
      have hrg := nNum_range (n := 1) (r := r13) hS.rd.sub
      have hct := num_calls w0 wr ys B 1 r13 hS.rd (by omega)
      unfold P4 at hct
      rw [h13] at hct hrg
      simp only at hct hrg
      obtain ⟨hx1, hx2⟩ := hrg
      obtain ⟨n3, rfl⟩ := Int.eq_ofNat_of_zero_le hx1
      rw [Int.toNat_natCast] at h14
      have hnn3 : n3 < 256 := by have : (n3 : Int) < 256 := hx2; omega
      clear hx1 hx2
      go_upto_region 18 with (go_at_call 40; refine hct.mono ?_; rintro e yb ⟨rfl, hr, hg⟩)
      have hS1 := hS.read hr hg
      have FF := F.trans (Fr.grown (lo := b3) (B := B) hg (fun k hk => .inl (by cases hk; rfl)))
      clear hct hr hg h13 hS F
      have F := FF
      have hS := hS1.perm ((List.Perm.cons _ (List.Perm.swap _ _ _)).trans (List.Perm.swap _ _ _))
      clear hS1 FF
      have HM := Lib.hid h14
      have HQ := Lib.hid (many_all (P := InK .i32) (fun r h => q32_all h) n3 r14 hS.rd.sub).1
      have HW := Lib.hid (many_len (qS 4) n3 r14)
      rw [h14] at HQ HW
      clear h14
      go_upto_region 19 with fail
      go_loopw [7] (fun i wr => ∃ (v : Value) (k9 : Nat) (zs : List Int) (r' : Rd), k9 ≤ n3 ∧ i = .int .i64 k9 ∧ C4 w0 wr ys B w.heap.size b3 r' #[.int .i64 0, .slice none 0 0, .int .i64 0, .int .i64 0, .int .i64 0, .int .i64 0, .int .i64 0, .int .i64 0, .int .i64 0, .int .i64 0, .int .i64 0, .int .i64 0, .slice none 0 0, .slice none 0 0] #[.int .i64 op, iv, .int .i64 k, .int .i64 st, .int .i64 pad, .int .i64 out, .int .i64 mul, .int .i64 sh, .int .i64 zero, .int .i64 th, .int .i64 tw, .int .i64 tc, wv, v] 67 [⟨21, 1, v, k9, zs.map (.int .i32)⟩, ⟨110, 1, wv, ws.length, ws.map (.int .i8)⟩, ⟨3, 1, iv, ins.length, ins.map (.int .i64)⟩] ∧ zs.length = k9 ∧ Fr b3 B w1 wr ∧ many (qS 4) n3 r14 = (zs ++ (many (qS 4) (n3 - k9) r').1, (many (qS 4) (n3 - k9) r').2)) (fun i _ => n3 - (intOf i).toNat)
      case atStart => exact ⟨.slice none 0 0, 0, [], r14, by omega, rfl, hS, rfl, F, by simp⟩
      case round =>
        clear hS F
        obtain ⟨v, k9, zs, r', hk, rfl, hS, hzl, F, hm⟩ := hrel
        have hbad := hS.rd.bad
        have HMM := Lib.hid hm
        clear hm
        by_cases hlt : k9 < n3
        · cases hb : r'.bad with
          | true =>
            rw [hb] at hbad
            obtain ⟨hz9, hr9⟩ := many_stop HMM.out (.inr hb) HM.out
            replace hz9 := hz9.symm
            replace hr9 := hr9.symm
            subst hz9 hr9
            clear hb
            go_upto_region 22 with fail
            clear hbad
            have HLbv := Lib.hid (show bs.length ≤ 255 by have h9 := HW.out; (try simp only at h9); omega)
            have HAbv := Lib.hid HQ.out
            have hlen9 : k9 = bs.length := hzl.symm
            subst hlen9
            clear HM HMM HQ HW hzl hk hlt
            obtain ⟨bv, hv9⟩ : ∃ u, u = v := ⟨_, rfl⟩
            subst hv9
            try simp only at HLbv HAbv
            have nd0 : World.cell? wr ⟨b3, 0, none⟩ = some (.int .i64 op) := hS.nb.cell 0
            have nd1 : World.cell? wr ⟨b3, 1, none⟩ = some (iv) := hS.nb.cell 1
            have nd2 : World.cell? wr ⟨b3, 2, none⟩ = some (.int .i64 k) := hS.nb.cell 2
            have nd3 : World.cell? wr ⟨b3, 3, none⟩ = some (.int .i64 st) := hS.nb.cell 3
            have nd4 : World.cell? wr ⟨b3, 4, none⟩ = some (.int .i64 pad) := hS.nb.cell 4
            have nd5 : World.cell? wr ⟨b3, 5, none⟩ = some (.int .i64 out) := hS.nb.cell 5
            have nd6 : World.cell? wr ⟨b3, 6, none⟩ = some (.int .i64 mul) := hS.nb.cell 6
            have nd7 : World.cell? wr ⟨b3, 7, none⟩ = some (.int .i64 sh) := hS.nb.cell 7
            have nd8 : World.cell? wr ⟨b3, 8, none⟩ = some (.int .i64 zero) := hS.nb.cell 8
            have nd9 : World.cell? wr ⟨b3, 9, none⟩ = some (.int .i64 th) := hS.nb.cell 9
            have nd10 : World.cell? wr ⟨b3, 10, none⟩ = some (.int .i64 tw) := hS.nb.cell 10
            have nd11 : World.cell? wr ⟨b3, 11, none⟩ = some (.int .i64 tc) := hS.nb.cell 11
            have nd12 : World.cell? wr ⟨b3, 12, none⟩ = some (wv) := hS.nb.cell 12
            have nd13 : World.cell? wr ⟨b3, 13, none⟩ = some (bv) := hS.nb.cell 13
            have hrb := hS.rb
            have hone : Array.all #[.int .i64 op, iv, .int .i64 k, .int .i64 st, .int .i64 pad, .int .i64 out, .int .i64 mul, .int .i64 sh, .int .i64 zero, .int .i64 th, .int .i64 tw, .int .i64 tc, wv, bv] (·.oneCell') = true := by
              obtain ⟨_, _, e1, _⟩ := row_of_own (hS.own.own ⟨3, 1, iv, ins.length, ins.map (.int .i64)⟩ (by simp))
              obtain ⟨_, _, e2, _⟩ := row_of_own (hS.own.own ⟨110, 1, wv, ws.length, ws.map (.int .i8)⟩ (by simp))
              obtain ⟨_, _, e3, _⟩ := row_of_own (hS.own.own ⟨21, 1, bv, bs.length, bs.map (.int .i32)⟩ (by simp))
              simp only at e1 e2 e3
              rw [e1, e2, e3]
              simp [Value.oneCell']
            have HO := Lib.hid hone
            have hg9 := setRow_grown wr w.heap.size #[.int .i64 op, iv, .int .i64 k, .int .i64 st, .int .i64 pad, .int .i64 out, .int .i64 mul, .int .i64 sh, .int .i64 zero, .int .i64 th, .int .i64 tw, .int .i64 tc, wv, bv]
            have hown : OwnAll (wr.setRow w.heap.size #[.int .i64 op, iv, .int .i64 k, .int .i64 st, .int .i64 pad, .int .i64 out, .int .i64 mul, .int .i64 sh, .int .i64 zero, .int .i64 th, .int .i64 tw, .int .i64 tc, wv, bv]) w.heap.size (rowsN ⟨op, iv, k, st, pad, out, mul, sh, zero, th, tw, tc, wv, bv, ins, ws, bs⟩) := ((hS.own.grown hg9 (by omega)).lower (by omega)).perm (by first | exact List.Perm.refl _ | exact List.reverse_perm _ | exact (List.reverse_perm _).symm)
            have hrd : R4 w0 (wr.setRow w.heap.size #[.int .i64 op, iv, .int .i64 k, .int .i64 st, .int .i64 pad, .int .i64 out, .int .i64 mul, .int .i64 sh, .int .i64 zero, .int .i64 th, .int .i64 tw, .int .i64 tc, wv, bv]) ys B r15 := hS.rd.grown hg9 (fun k hk => by cases hk; have := hS.rd.hB; omega)
            have hgr : w.grownBy (wr.setRow w.heap.size #[.int .i64 op, iv, .int .i64 k, .int .i64 st, .int .i64 pad, .int .i64 out, .int .i64 mul, .int .i64 sh, .int .i64 zero, .int .i64 th, .int .i64 tw, .int .i64 tc, wv, bv]) (some B) := by
              refine Fr.toGrown (lo := w.heap.size) ?_ (Nat.le_refl _)
              exact ((Fr.ext HE1.out).trans (F.less (by omega))).trans (Fr.grown hg9 (fun k hk => .inr (by cases hk; omega)))
            have HV := Lib.hid (show NdFit ⟨op, iv, k, st, pad, out, mul, sh, zero, th, tw, tc, wv, bv, ins, ws, bs⟩ from ⟨HIL.out, HLwv.out, HLbv.out, HAwv.out, HAbv.out⟩)
            have HX := Lib.hid hown
            clear hone hown hS F hg9
            go_wp2_with (refine wpList_store_row rfl 67 _ _ rfl w.heap.size #[.int .i64 op, iv, .int .i64 k, .int .i64 st, .int .i64 pad, .int .i64 out, .int .i64 mul, .int .i64 sh, .int .i64 zero, .int .i64 th, .int .i64 tw, .int .i64 tc, wv, bv] rfl rfl 67 _ hrb (by kernel_rfl) rfl HO.out ?_)
            refine bodyPost_ret (v := .agg _) (results_cell_row Tryz.results43 _ _ w.heap.size 67 _ (0, 0) _ rfl (setRow_heap _ _ _ _ _ _ hrb) (by kernel_rfl : Tryz.prog.underlying 67 = some (.struct (Tryz.prog.fieldsOf 67))) rfl (by kernel_rfl)) rfl ?_
            exact HP.out _ _ ⟨⟨op, iv, k, st, pad, out, mul, sh, zero, th, tw, tc, wv, bv, ins, ws, bs⟩, rfl, by rw [HN.out]; rfl, by rw [HN.out]; exact hrd, hgr, HX.out, HV.out⟩
          | false =>
            rw [hb] at hbad
            have HM2 := Lib.hid (many_more HMM.out hlt hb)
            have c1 : ∀ W', Keeps [b3] wr W' → W'.cell? ⟨b3, 13, none⟩ = some v := fun W' hW => (hW.cell (by simp)).trans (hS.nb.cell 13)
            have hD := hS.ext (Ext.drew wr)
            have F0 := F.trans (Fr.ext (lo := b3) (B := B) (Ext.drew wr))
            have K0 : Keeps [b3] wr wr.drew := Keeps.drew _ _
            have hrd := signed_calls w0 wr.drew ys B 4 r' hD.rd (by omega)
            unfold P4 at hrd
            have hzr := (q32_all hD.rd.sub).1
            clear hS F HMM
            go_upto_region 21 with fail
            clear hbad
            refine wp_region_Z (Keeps [b3] wr) 8 [(0, true), (1, true), (2, true), (3, false), (4, true), (5, false), (6, false), (7, true), (8, false)] (by kernel_rfl) (by kernel_rfl) (fun _ _ d _ _ h => by cases d <;> exact h) K0 ?_
            simp only [pickE, List.getElem?_cons_zero, List.getElem?_cons_succ]
            repeat (refine wpZ_pure (by rfl) (fun W hW => by go_simp; with_reducible rfl) ?_; simp only [Act.put, List.setIfInBounds_toArray, List.set_cons_zero, List.set_cons_succ])
            generalize wr.drew = y0 at *
            refine wpZ_step (by rfl) (fun K hK => ?_)
            go_simp
            refine hrd.mono ?_
            rintro e y1 ⟨rfl, hr1, hg1⟩
            have h1 := hD.read hr1 hg1
            have K1 := K0.trans (hD.keeps hg1)
            have F1 := F0.trans (Fr.grown (lo := b3) (B := B) hg1 (fun k hk => .inl (by cases hk; rfl)))
            refine hK _ _ K1 ?_
            clear hK K hrd hr1 hg1 hD K0 F0
            generalize (qS 4 r').1 = z at *
            generalize (qS 4 r').2 = r2 at *
            have hwr : IntKind.i32.wrap z = z := IntWalk.i32_in z (by simp only [InK] at hzr; omega)
            clear hzr
            try simp only [Act.put, List.setIfInBounds_toArray, List.set_cons_zero, List.set_cons_succ]
            repeat (refine wpZ_pure (by rfl) (fun W hW => by go_simp; with_reducible rfl) ?_; simp only [Act.put, List.setIfInBounds_toArray, List.set_cons_zero, List.set_cons_succ])
            have hE2 := ext_alloc y1 (.cells #[Value.int .i32 z] 21)
            have hnew := row_new y1 #[Value.int .i32 z] 21 1 1 rfl (by decide)
            have h2 := h1.ext hE2
            have K2 := K1.trans (h1.keepsE hE2)
            have F2 := F1.trans (Fr.ext (lo := b3) (B := B) hE2)
            refine wpZ_step (by rfl) (fun K hK => ?_)
            go_simp
            refine hK _ _ K2 ?_
            clear hK K h1 K1 F1 hE2
            generalize y1.alloc _ = y2 at *
            try simp only [Act.put, List.setIfInBounds_toArray, List.set_cons_zero, List.set_cons_succ]
            repeat (refine wpZ_pure (by rfl) (fun W hW => by go_simp; with_reducible rfl) ?_; simp only [Act.put, List.setIfInBounds_toArray, List.set_cons_zero, List.set_cons_succ])
            have hown := h2.own.own _ (List.mem_cons_self ..)
            have hbase : b3 + 1 ≤ y2.heap.size := h2.nb.lt
            have hk1 : k9 + 1 ≤ 140737488355328 := by omega
            have hk2 : (k9 + 1) * 4 ≤ 140737488355328 := by omega
            have hone : ∀ u ∈ #[Value.int .i32 z].toList, u.oneCell' = true := by intro u hu; simp at hu; subst hu; rfl
            refine wpZ_step (by rfl) (fun K hK => ?_)
            refine wp_append_row rfl elem_i32 hown rfl hnew rfl hone hk1 hk2 hbase (fun v' y3 ho hgr hnr => ?_)
            have K3 := K2.trans (h2.keepsR hgr)
            refine hK _ _ K3 ?_
            clear hK K
            obtain ⟨p1, p2, p3, p4, p5⟩ := h2.push ho hgr hnr 13
            have p5' : World.cell? y3 ⟨b3, 13, none⟩ = some v := p5
            obtain ⟨A, c, ev, _⟩ := row_of_own ho
            clear ho hgr hnr hnew hown K2 h2 p5
            have F3 := F2.trans p2
            clear p2 F2
            try simp only [Act.put, List.setIfInBounds_toArray, List.set_cons_zero, List.set_cons_succ]
            repeat (refine wpZ_pure (by rfl) (fun W hW => by go_simp; with_reducible rfl) ?_; simp only [Act.put, List.setIfInBounds_toArray, List.set_cons_zero, List.set_cons_succ])
            have EV := Lib.hid ev
            subst ev
            refine wpZ_last (by rfl) (fun K hK => ?_)
            go_simp
            refine hK _ _ ?_
            clear hK K
            try simp only [Act.put, List.setIfInBounds_toArray, List.set_cons_zero, List.set_cons_succ]
            clear p3 p4 p5'
            have hSn : C4 w0 (World.setCell y3 ⟨b3, 13, none⟩ (.slice A (k9 + 1) c)) ys B w.heap.size b3 r2 #[.int .i64 0, .slice none 0 0, .int .i64 0, .int .i64 0, .int .i64 0, .int .i64 0, .int .i64 0, .int .i64 0, .int .i64 0, .int .i64 0, .int .i64 0, .int .i64 0, .slice none 0 0, .slice none 0 0] #[.int .i64 op, iv, .int .i64 k, .int .i64 st, .int .i64 pad, .int .i64 out, .int .i64 mul, .int .i64 sh, .int .i64 zero, .int .i64 th, .int .i64 tw, .int .i64 tc, wv, (.slice A (k9 + 1) c)] 67 [⟨21, 1, (.slice A (k9 + 1) c), (k9 + 1), (zs ++ [z]).map (.int .i32)⟩, ⟨110, 1, wv, ws.length, ws.map (.int .i8)⟩, ⟨3, 1, iv, ins.length, ins.map (.int .i64)⟩] := by
              rw [List.map_append]
              simpa using p1
            clear p1
            generalize World.setCell y3 _ _ = y4 at *
            go_wp2_with fail
            go_roundw
            case rel => exact ⟨_, k9 + 1, zs ++ [z], r2, by omega, by go_num, hSn, by simp [hzl], F3, HM2.out⟩
            case measure => simp [intOf]; omega
        · obtain ⟨hz9, hr9⟩ := many_stop HMM.out (.inl (by omega)) HM.out
          replace hz9 := hz9.symm
          replace hr9 := hr9.symm
          subst hz9 hr9
          go_upto_region 22 with fail
          clear hbad
          have HLbv := Lib.hid (show bs.length ≤ 255 by have h9 := HW.out; (try simp only at h9); omega)
          have HAbv := Lib.hid HQ.out
          have hlen9 : k9 = bs.length := hzl.symm
          subst hlen9
          clear HM HMM HQ HW hzl hk hlt
          obtain ⟨bv, hv9⟩ : ∃ u, u = v := ⟨_, rfl⟩
          subst hv9
          try simp only at HLbv HAbv
          have nd0 : World.cell? wr ⟨b3, 0, none⟩ = some (.int .i64 op) := hS.nb.cell 0
          have nd1 : World.cell? wr ⟨b3, 1, none⟩ = some (iv) := hS.nb.cell 1
          have nd2 : World.cell? wr ⟨b3, 2, none⟩ = some (.int .i64 k) := hS.nb.cell 2
          have nd3 : World.cell? wr ⟨b3, 3, none⟩ = some (.int .i64 st) := hS.nb.cell 3
          have nd4 : World.cell? wr ⟨b3, 4, none⟩ = some (.int .i64 pad) := hS.nb.cell 4
          have nd5 : World.cell? wr ⟨b3, 5, none⟩ = some (.int .i64 out) := hS.nb.cell 5
          have nd6 : World.cell? wr ⟨b3, 6, none⟩ = some (.int .i64 mul) := hS.nb.cell 6
          have nd7 : World.cell? wr ⟨b3, 7, none⟩ = some (.int .i64 sh) := hS.nb.cell 7
          have nd8 : World.cell? wr ⟨b3, 8, none⟩ = some (.int .i64 zero) := hS.nb.cell 8
          have nd9 : World.cell? wr ⟨b3, 9, none⟩ = some (.int .i64 th) := hS.nb.cell 9
          have nd10 : World.cell? wr ⟨b3, 10, none⟩ = some (.int .i64 tw) := hS.nb.cell 10
          have nd11 : World.cell? wr ⟨b3, 11, none⟩ = some (.int .i64 tc) := hS.nb.cell 11
          have nd12 : World.cell? wr ⟨b3, 12, none⟩ = some (wv) := hS.nb.cell 12
          have nd13 : World.cell? wr ⟨b3, 13, none⟩ = some (bv) := hS.nb.cell 13
          have hrb := hS.rb
          have hone : Array.all #[.int .i64 op, iv, .int .i64 k, .int .i64 st, .int .i64 pad, .int .i64 out, .int .i64 mul, .int .i64 sh, .int .i64 zero, .int .i64 th, .int .i64 tw, .int .i64 tc, wv, bv] (·.oneCell') = true := by
            obtain ⟨_, _, e1, _⟩ := row_of_own (hS.own.own ⟨3, 1, iv, ins.length, ins.map (.int .i64)⟩ (by simp))
            obtain ⟨_, _, e2, _⟩ := row_of_own (hS.own.own ⟨110, 1, wv, ws.length, ws.map (.int .i8)⟩ (by simp))
            obtain ⟨_, _, e3, _⟩ := row_of_own (hS.own.own ⟨21, 1, bv, bs.length, bs.map (.int .i32)⟩ (by simp))
            simp only at e1 e2 e3
            rw [e1, e2, e3]
            simp [Value.oneCell']
          have HO := Lib.hid hone
          have hg9 := setRow_grown wr w.heap.size #[.int .i64 op, iv, .int .i64 k, .int .i64 st, .int .i64 pad, .int .i64 out, .int .i64 mul, .int .i64 sh, .int .i64 zero, .int .i64 th, .int .i64 tw, .int .i64 tc, wv, bv]
          have hown : OwnAll (wr.setRow w.heap.size #[.int .i64 op, iv, .int .i64 k, .int .i64 st, .int .i64 pad, .int .i64 out, .int .i64 mul, .int .i64 sh, .int .i64 zero, .int .i64 th, .int .i64 tw, .int .i64 tc, wv, bv]) w.heap.size (rowsN ⟨op, iv, k, st, pad, out, mul, sh, zero, th, tw, tc, wv, bv, ins, ws, bs⟩) := ((hS.own.grown hg9 (by omega)).lower (by omega)).perm (by first | exact List.Perm.refl _ | exact List.reverse_perm _ | exact (List.reverse_perm _).symm)
          have hrd : R4 w0 (wr.setRow w.heap.size #[.int .i64 op, iv, .int .i64 k, .int .i64 st, .int .i64 pad, .int .i64 out, .int .i64 mul, .int .i64 sh, .int .i64 zero, .int .i64 th, .int .i64 tw, .int .i64 tc, wv, bv]) ys B r15 := hS.rd.grown hg9 (fun k hk => by cases hk; have := hS.rd.hB; omega)
          have hgr : w.grownBy (wr.setRow w.heap.size #[.int .i64 op, iv, .int .i64 k, .int .i64 st, .int .i64 pad, .int .i64 out, .int .i64 mul, .int .i64 sh, .int .i64 zero, .int .i64 th, .int .i64 tw, .int .i64 tc, wv, bv]) (some B) := by
            refine Fr.toGrown (lo := w.heap.size) ?_ (Nat.le_refl _)
            exact ((Fr.ext HE1.out).trans (F.less (by omega))).trans (Fr.grown hg9 (fun k hk => .inr (by cases hk; omega)))
          have HV := Lib.hid (show NdFit ⟨op, iv, k, st, pad, out, mul, sh, zero, th, tw, tc, wv, bv, ins, ws, bs⟩ from ⟨HIL.out, HLwv.out, HLbv.out, HAwv.out, HAbv.out⟩)
          have HX := Lib.hid hown
          clear hone hown hS F hg9
          go_wp2_with (refine wpList_store_row rfl 67 _ _ rfl w.heap.size #[.int .i64 op, iv, .int .i64 k, .int .i64 st, .int .i64 pad, .int .i64 out, .int .i64 mul, .int .i64 sh, .int .i64 zero, .int .i64 th, .int .i64 tw, .int .i64 tc, wv, bv] rfl rfl 67 _ hrb (by kernel_rfl) rfl HO.out ?_)
          refine bodyPost_ret (v := .agg _) (results_cell_row Tryz.results43 _ _ w.heap.size 67 _ (0, 0) _ rfl (setRow_heap _ _ _ _ _ _ hrb) (by kernel_rfl : Tryz.prog.underlying 67 = some (.struct (Tryz.prog.fieldsOf 67))) rfl (by kernel_rfl)) rfl ?_
          exact HP.out _ _ ⟨⟨op, iv, k, st, pad, out, mul, sh, zero, th, tw, tc, wv, bv, ins, ws, bs⟩, rfl, by rw [HN.out]; rfl, by rw [HN.out]; exact hrd, hgr, HX.out, HV.out⟩

end Go.Proofs.YtdhdbmfipkppiaaGreat
