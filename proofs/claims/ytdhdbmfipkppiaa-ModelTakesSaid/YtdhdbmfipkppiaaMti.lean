/- The walk of the reference's reader of graphs: node. -/
/- The walk of quiltref04.Take. -/
/- The walk of quiltref04.Whole. -/
/- The walk of the law ModelTakes. -/
import Derived.Test.YtdhdbmfipkppiaaMte
import Derived.Test.YtdhdbmfipkppiaaMta
import Derived.Test.YtdhdbmfipkppiaaModH
import Derived.Test.YtdhdbmfipkppiaaModOnce
namespace Go.Proofs.Ytdhdbmfipkppiaa
set_option linter.unusedSimpArgs false
set_option linter.unusedVariables false
set_option linter.unnecessarySimpa false
open Go.RowKit

set_option maxRecDepth 8000 in
set_option maxHeartbeats 12800000 in
theorem node4_calls (w0 w : World) (ys : List Int) (B : Nat) (r : Rd) (h : R4 w0 w ys B r) :
    Calls Try.prog 62 #[.pointer (some ⟨B, 0, none⟩)] w (Node4Post w0 ys B r w) := by
  have HP : Hid (∀ e w', (∃ n : Nd, e = .returned (.agg #[.int .i64 n.op, n.inV, .int .i64 n.k, .int .i64 n.st, .int .i64 n.pad, .int .i64 n.out, .int .i64 n.mul, .int .i64 n.sh, .int .i64 n.zero, .int .i64 n.th, .int .i64 n.tw, .int .i64 n.tc, n.wV, n.bV]) ∧ n.c = (qNode r).1 ∧ R4 w0 w' ys B (qNode r).2 ∧ w.grownBy w' (some B) ∧ OwnAll w' w.heap.size (rowsN n) ∧ NdFit n) → Node4Post w0 ys B r w e w') := fun e w' h => h
  generalize Node4Post w0 ys B r w = PP at *
  have hBw := h.lt
  have hE1 := (ext_alloc w (.cells #[.int .i64 0, .slice none 0 0, .int .i64 0, .int .i64 0, .int .i64 0, .int .i64 0, .int .i64 0, .int .i64 0, .int .i64 0, .int .i64 0, .int .i64 0, .int .i64 0, .slice none 0 0, .slice none 0 0] 40)).trans (ext_alloc _ (.cells #[.int .i64 0, .slice none 0 0, .int .i64 0, .int .i64 0, .int .i64 0, .int .i64 0, .int .i64 0, .int .i64 0, .int .i64 0, .int .i64 0, .int .i64 0, .int .i64 0, .slice none 0 0, .slice none 0 0] 40))
  have hb2 := (Blk.new w #[.int .i64 0, .slice none 0 0, .int .i64 0, .int .i64 0, .int .i64 0, .int .i64 0, .int .i64 0, .int .i64 0, .int .i64 0, .int .i64 0, .int .i64 0, .int .i64 0, .slice none 0 0, .slice none 0 0] 40).ext (ext_alloc _ (.cells #[.int .i64 0, .slice none 0 0, .int .i64 0, .int .i64 0, .int .i64 0, .int .i64 0, .int .i64 0, .int .i64 0, .int .i64 0, .int .i64 0, .int .i64 0, .int .i64 0, .slice none 0 0, .slice none 0 0] 40))
  have hb3 := Blk.new (w.alloc (.cells #[.int .i64 0, .slice none 0 0, .int .i64 0, .int .i64 0, .int .i64 0, .int .i64 0, .int .i64 0, .int .i64 0, .int .i64 0, .int .i64 0, .int .i64 0, .int .i64 0, .slice none 0 0, .slice none 0 0] 40)) #[.int .i64 0, .slice none 0 0, .int .i64 0, .int .i64 0, .int .i64 0, .int .i64 0, .int .i64 0, .int .i64 0, .int .i64 0, .int .i64 0, .int .i64 0, .int .i64 0, .slice none 0 0, .slice none 0 0] 40
  rw [show (w.alloc (.cells #[.int .i64 0, .slice none 0 0, .int .i64 0, .int .i64 0, .int .i64 0, .int .i64 0, .int .i64 0, .int .i64 0, .int .i64 0, .int .i64 0, .int .i64 0, .int .i64 0, .slice none 0 0, .slice none 0 0] 40)).heap.size = w.heap.size + 1 from by simp] at hb3
  have hS : C4 w0 ((w.alloc (.cells #[.int .i64 0, .slice none 0 0, .int .i64 0, .int .i64 0, .int .i64 0, .int .i64 0, .int .i64 0, .int .i64 0, .int .i64 0, .int .i64 0, .int .i64 0, .int .i64 0, .slice none 0 0, .slice none 0 0] 40)).alloc (.cells #[.int .i64 0, .slice none 0 0, .int .i64 0, .int .i64 0, .int .i64 0, .int .i64 0, .int .i64 0, .int .i64 0, .int .i64 0, .int .i64 0, .int .i64 0, .int .i64 0, .slice none 0 0, .slice none 0 0] 40)) ys B w.heap.size (w.heap.size + 1) r #[.int .i64 0, .slice none 0 0, .int .i64 0, .int .i64 0, .int .i64 0, .int .i64 0, .int .i64 0, .int .i64 0, .int .i64 0, .int .i64 0, .int .i64 0, .int .i64 0, .slice none 0 0, .slice none 0 0] #[.int .i64 0, .slice none 0 0, .int .i64 0, .int .i64 0, .int .i64 0, .int .i64 0, .int .i64 0, .int .i64 0, .int .i64 0, .int .i64 0, .int .i64 0, .int .i64 0, .slice none 0 0, .slice none 0 0] 40 [⟨125, 1, .slice none 0 0, 0, []⟩, ⟨21, 1, .slice none 0 0, 0, []⟩] := by
    refine ⟨h.later hE1, hb2, hb3, ⟨fun x hx => ?_, ?_⟩, by have := h.hB; omega⟩
    · simp only [List.mem_cons, List.not_mem_nil, or_false] at hx
      rcases hx with rfl | rfl <;> exact ⟨rfl, .inl ⟨rfl, rfl⟩⟩
    · refine List.pairwise_cons.2 ⟨fun x _ k hk => by simp [Value.ownBlock] at hk, List.pairwise_singleton _ _⟩
  clear hb2 hb3
  obtain ⟨⟨op, r1⟩, h0⟩ : ∃ x, nNum 1 r = x := ⟨_, rfl⟩
  obtain ⟨⟨ins, r3⟩, h1⟩ : ∃ x, qNums r1 = x := ⟨_, rfl⟩
  obtain ⟨⟨k, r4⟩, h3⟩ : ∃ x, nNum 1 r3 = x := ⟨_, rfl⟩
  obtain ⟨⟨st, r5⟩, h4⟩ : ∃ x, nNum 1 r4 = x := ⟨_, rfl⟩
  obtain ⟨⟨pad, r6⟩, h5⟩ : ∃ x, nNum 1 r5 = x := ⟨_, rfl⟩
  obtain ⟨⟨out, r7⟩, h6⟩ : ∃ x, nNum 1 r6 = x := ⟨_, rfl⟩
  obtain ⟨⟨mul, r8⟩, h7⟩ : ∃ x, nNum 2 r7 = x := ⟨_, rfl⟩
  obtain ⟨⟨sh, r9⟩, h8⟩ : ∃ x, nNum 1 r8 = x := ⟨_, rfl⟩
  obtain ⟨⟨zero, r10⟩, h9⟩ : ∃ x, qS 1 r9 = x := ⟨_, rfl⟩
  obtain ⟨⟨⟨th, tw, tc⟩, r11⟩, h10⟩ : ∃ x, qShape r10 = x := ⟨_, rfl⟩
  obtain ⟨⟨c2, r12⟩, h11⟩ : ∃ x, nNum 2 r11 = x := ⟨_, rfl⟩
  obtain ⟨⟨ws, r13⟩, h12⟩ : ∃ x, many (qS 1) c2.toNat r12 = x := ⟨_, rfl⟩
  obtain ⟨⟨c3, r14⟩, h13⟩ : ∃ x, nNum 1 r13 = x := ⟨_, rfl⟩
  obtain ⟨⟨bs, r15⟩, h14⟩ : ∃ x, many (qS 4) c3.toNat r14 = x := ⟨_, rfl⟩
  have HN := Lib.hid (qNode_eq h0 h1 h3 h4 h5 h6 h7 h8 h9 h10 h11 h12 h13 h14)
  have HE1 := Lib.hid hE1
  clear h hE1
  go_enter Try.func62, Try.ntmps62
  go_upto_region 2 with fail
  generalize World.alloc (World.alloc w _) _ = w1 at *
  have F : Fr (w.heap.size + 1) B w1 w1 := Fr.refl _ _ _
  obtain ⟨b3, hb3⟩ : ∃ C, w.heap.size + 1 = C := ⟨_, rfl⟩
  simp only [hb3] at hS F
  simp only [hb3]
  have hct := num_calls w0 w1 ys B 1 r hS.rd (by omega)
  unfold P4 at hct
  rw [h0] at hct
  try simp only [Sz.v] at hct
  go_wp2_with fail
  refine hct.mono ?_
  rintro e v1 ⟨rfl, hr, hg⟩
  have hS1 := hS.read hr hg
  have FF := F.trans (Fr.grown (lo := b3) (B := B) hg (fun k hk => .inl (by cases hk; rfl)))
  clear hct hr hg h0 hS F
  have hlt := hS1.nb.lt
  have hfr0 := hS1.nb.frozen 0
  have hcl0 : World.cell? v1 ⟨b3, 0, none⟩ = some (.int .i64 0) := hS1.nb.cell 0
  obtain ⟨hS2, f2⟩ := hS1.store 0 (.int .i64 op)
  have F := (FF.trans f2)
  clear FF hS1 f2 
  go_upto_region 3 with fail
  clear hlt hfr0 hcl0
  generalize World.setCell v1 _ _ = v2 at *
  have hS : C4 w0 v2 ys B w.heap.size b3 r1 #[.int .i64 0, .slice none 0 0, .int .i64 0, .int .i64 0, .int .i64 0, .int .i64 0, .int .i64 0, .int .i64 0, .int .i64 0, .int .i64 0, .int .i64 0, .int .i64 0, .slice none 0 0, .slice none 0 0] #[.int .i64 op, .slice none 0 0, .int .i64 0, .int .i64 0, .int .i64 0, .int .i64 0, .int .i64 0, .int .i64 0, .int .i64 0, .int .i64 0, .int .i64 0, .int .i64 0, .slice none 0 0, .slice none 0 0] 40 [⟨125, 1, .slice none 0 0, 0, []⟩, ⟨21, 1, .slice none 0 0, 0, []⟩] := by simpa using hS2
  clear hS2
  have hct := nums_calls w0 v2 ys B r1 hS.rd
  unfold NumsPost at hct
  rw [h1] at hct
  go_wp2_with fail
  refine hct.mono ?_
  rintro e v3 ⟨iv, rfl, hown, hr, hg, hil⟩
  have hS1 := (hS.join (hS.read hr hg) (one_own (x := ⟨3, 1, iv, ins.length, ins.map (.int .i64)⟩) hown)).perm (show List.Perm ([⟨125, 1, .slice none 0 0, 0, []⟩, ⟨21, 1, .slice none 0 0, 0, []⟩] ++ [⟨3, 1, iv, ins.length, ins.map (.int .i64)⟩] : List RowF) ([⟨3, 1, iv, ins.length, ins.map (.int .i64)⟩] ++ [⟨125, 1, .slice none 0 0, 0, []⟩, ⟨21, 1, .slice none 0 0, 0, []⟩]) from List.perm_append_comm)
  have FF := F.trans (Fr.grown (lo := b3) (B := B) hg (fun k hk => .inl (by cases hk; rfl)))
  obtain ⟨Ai, ci, ei, _⟩ := row_of_own hown
  clear hct hr hg h1 hS F hown
  have hlt := hS1.nb.lt
  have hfr1 := hS1.nb.frozen 1
  have hcl1 : World.cell? v3 ⟨b3, 1, none⟩ = some (.slice none 0 0) := hS1.nb.cell 1
  obtain ⟨hS2, f2⟩ := hS1.store 1 iv
  have F := FF.trans f2
  have HIL := Lib.hid hil
  clear FF hS1 f2 hil
  have EI := Lib.hid ei
  rw [ei]
  rw [ei] at hS2 F
  go_upto_region 4 with fail
  clear hlt hfr1 hcl1
  generalize World.setCell v3 _ _ = v4 at *
  rw [← ei] at hS2
  have hS : C4 w0 v4 ys B w.heap.size b3 r3 #[.int .i64 0, .slice none 0 0, .int .i64 0, .int .i64 0, .int .i64 0, .int .i64 0, .int .i64 0, .int .i64 0, .int .i64 0, .int .i64 0, .int .i64 0, .int .i64 0, .slice none 0 0, .slice none 0 0] #[.int .i64 op, iv, .int .i64 0, .int .i64 0, .int .i64 0, .int .i64 0, .int .i64 0, .int .i64 0, .int .i64 0, .int .i64 0, .int .i64 0, .int .i64 0, .slice none 0 0, .slice none 0 0] 40 [⟨3, 1, iv, ins.length, ins.map (.int .i64)⟩, ⟨125, 1, .slice none 0 0, 0, []⟩, ⟨21, 1, .slice none 0 0, 0, []⟩] := by simpa using hS2
  clear hS2 ei
  have hct := num_calls w0 v4 ys B 1 r3 hS.rd (by omega)
  unfold P4 at hct
  rw [h3] at hct
  try simp only [Sz.v] at hct
  go_wp2_with fail
  refine hct.mono ?_
  rintro e v5 ⟨rfl, hr, hg⟩
  have hS1 := hS.read hr hg
  have FF := F.trans (Fr.grown (lo := b3) (B := B) hg (fun k hk => .inl (by cases hk; rfl)))
  clear hct hr hg h3 hS F
  have hlt := hS1.nb.lt
  have hfr2 := hS1.nb.frozen 2
  have hcl2 : World.cell? v5 ⟨b3, 2, none⟩ = some (.int .i64 0) := hS1.nb.cell 2
  obtain ⟨hS2, f2⟩ := hS1.store 2 (.int .i64 k)
  have F := (FF.trans f2)
  clear FF hS1 f2 
  go_upto_region 5 with fail
  clear hlt hfr2 hcl2
  generalize World.setCell v5 _ _ = v6 at *
  have hS : C4 w0 v6 ys B w.heap.size b3 r4 #[.int .i64 0, .slice none 0 0, .int .i64 0, .int .i64 0, .int .i64 0, .int .i64 0, .int .i64 0, .int .i64 0, .int .i64 0, .int .i64 0, .int .i64 0, .int .i64 0, .slice none 0 0, .slice none 0 0] #[.int .i64 op, iv, .int .i64 k, .int .i64 0, .int .i64 0, .int .i64 0, .int .i64 0, .int .i64 0, .int .i64 0, .int .i64 0, .int .i64 0, .int .i64 0, .slice none 0 0, .slice none 0 0] 40 [⟨3, 1, iv, ins.length, ins.map (.int .i64)⟩, ⟨125, 1, .slice none 0 0, 0, []⟩, ⟨21, 1, .slice none 0 0, 0, []⟩] := by simpa using hS2
  clear hS2
  have hct := num_calls w0 v6 ys B 1 r4 hS.rd (by omega)
  unfold P4 at hct
  rw [h4] at hct
  try simp only [Sz.v] at hct
  go_wp2_with fail
  refine hct.mono ?_
  rintro e v7 ⟨rfl, hr, hg⟩
  have hS1 := hS.read hr hg
  have FF := F.trans (Fr.grown (lo := b3) (B := B) hg (fun k hk => .inl (by cases hk; rfl)))
  clear hct hr hg h4 hS F
  have hlt := hS1.nb.lt
  have hfr3 := hS1.nb.frozen 3
  have hcl3 : World.cell? v7 ⟨b3, 3, none⟩ = some (.int .i64 0) := hS1.nb.cell 3
  obtain ⟨hS2, f2⟩ := hS1.store 3 (.int .i64 st)
  have F := (FF.trans f2)
  clear FF hS1 f2 
  go_upto_region 6 with fail
  clear hlt hfr3 hcl3
  generalize World.setCell v7 _ _ = v8 at *
  have hS : C4 w0 v8 ys B w.heap.size b3 r5 #[.int .i64 0, .slice none 0 0, .int .i64 0, .int .i64 0, .int .i64 0, .int .i64 0, .int .i64 0, .int .i64 0, .int .i64 0, .int .i64 0, .int .i64 0, .int .i64 0, .slice none 0 0, .slice none 0 0] #[.int .i64 op, iv, .int .i64 k, .int .i64 st, .int .i64 0, .int .i64 0, .int .i64 0, .int .i64 0, .int .i64 0, .int .i64 0, .int .i64 0, .int .i64 0, .slice none 0 0, .slice none 0 0] 40 [⟨3, 1, iv, ins.length, ins.map (.int .i64)⟩, ⟨125, 1, .slice none 0 0, 0, []⟩, ⟨21, 1, .slice none 0 0, 0, []⟩] := by simpa using hS2
  clear hS2
  have hct := num_calls w0 v8 ys B 1 r5 hS.rd (by omega)
  unfold P4 at hct
  rw [h5] at hct
  try simp only [Sz.v] at hct
  go_wp2_with fail
  refine hct.mono ?_
  rintro e v9 ⟨rfl, hr, hg⟩
  have hS1 := hS.read hr hg
  have FF := F.trans (Fr.grown (lo := b3) (B := B) hg (fun k hk => .inl (by cases hk; rfl)))
  clear hct hr hg h5 hS F
  have hlt := hS1.nb.lt
  have hfr4 := hS1.nb.frozen 4
  have hcl4 : World.cell? v9 ⟨b3, 4, none⟩ = some (.int .i64 0) := hS1.nb.cell 4
  obtain ⟨hS2, f2⟩ := hS1.store 4 (.int .i64 pad)
  have F := (FF.trans f2)
  clear FF hS1 f2 
  go_upto_region 7 with fail
  clear hlt hfr4 hcl4
  generalize World.setCell v9 _ _ = v10 at *
  have hS : C4 w0 v10 ys B w.heap.size b3 r6 #[.int .i64 0, .slice none 0 0, .int .i64 0, .int .i64 0, .int .i64 0, .int .i64 0, .int .i64 0, .int .i64 0, .int .i64 0, .int .i64 0, .int .i64 0, .int .i64 0, .slice none 0 0, .slice none 0 0] #[.int .i64 op, iv, .int .i64 k, .int .i64 st, .int .i64 pad, .int .i64 0, .int .i64 0, .int .i64 0, .int .i64 0, .int .i64 0, .int .i64 0, .int .i64 0, .slice none 0 0, .slice none 0 0] 40 [⟨3, 1, iv, ins.length, ins.map (.int .i64)⟩, ⟨125, 1, .slice none 0 0, 0, []⟩, ⟨21, 1, .slice none 0 0, 0, []⟩] := by simpa using hS2
  clear hS2
  have hct := num_calls w0 v10 ys B 1 r6 hS.rd (by omega)
  unfold P4 at hct
  rw [h6] at hct
  try simp only [Sz.v] at hct
  go_wp2_with fail
  refine hct.mono ?_
  rintro e v11 ⟨rfl, hr, hg⟩
  have hS1 := hS.read hr hg
  have FF := F.trans (Fr.grown (lo := b3) (B := B) hg (fun k hk => .inl (by cases hk; rfl)))
  clear hct hr hg h6 hS F
  have hlt := hS1.nb.lt
  have hfr5 := hS1.nb.frozen 5
  have hcl5 : World.cell? v11 ⟨b3, 5, none⟩ = some (.int .i64 0) := hS1.nb.cell 5
  obtain ⟨hS2, f2⟩ := hS1.store 5 (.int .i64 out)
  have F := (FF.trans f2)
  clear FF hS1 f2 
  go_upto_region 8 with fail
  clear hlt hfr5 hcl5
  generalize World.setCell v11 _ _ = v12 at *
  have hS : C4 w0 v12 ys B w.heap.size b3 r7 #[.int .i64 0, .slice none 0 0, .int .i64 0, .int .i64 0, .int .i64 0, .int .i64 0, .int .i64 0, .int .i64 0, .int .i64 0, .int .i64 0, .int .i64 0, .int .i64 0, .slice none 0 0, .slice none 0 0] #[.int .i64 op, iv, .int .i64 k, .int .i64 st, .int .i64 pad, .int .i64 out, .int .i64 0, .int .i64 0, .int .i64 0, .int .i64 0, .int .i64 0, .int .i64 0, .slice none 0 0, .slice none 0 0] 40 [⟨3, 1, iv, ins.length, ins.map (.int .i64)⟩, ⟨125, 1, .slice none 0 0, 0, []⟩, ⟨21, 1, .slice none 0 0, 0, []⟩] := by simpa using hS2
  clear hS2
  have hct := num_calls w0 v12 ys B 2 r7 hS.rd (by omega)
  unfold P4 at hct
  rw [h7] at hct
  try simp only [Sz.v] at hct
  go_wp2_with fail
  refine hct.mono ?_
  rintro e v13 ⟨rfl, hr, hg⟩
  have hS1 := hS.read hr hg
  have FF := F.trans (Fr.grown (lo := b3) (B := B) hg (fun k hk => .inl (by cases hk; rfl)))
  clear hct hr hg h7 hS F
  have hlt := hS1.nb.lt
  have hfr6 := hS1.nb.frozen 6
  have hcl6 : World.cell? v13 ⟨b3, 6, none⟩ = some (.int .i64 0) := hS1.nb.cell 6
  obtain ⟨hS2, f2⟩ := hS1.store 6 (.int .i64 mul)
  have F := (FF.trans f2)
  clear FF hS1 f2 
  go_upto_region 9 with fail
  clear hlt hfr6 hcl6
  generalize World.setCell v13 _ _ = v14 at *
  have hS : C4 w0 v14 ys B w.heap.size b3 r8 #[.int .i64 0, .slice none 0 0, .int .i64 0, .int .i64 0, .int .i64 0, .int .i64 0, .int .i64 0, .int .i64 0, .int .i64 0, .int .i64 0, .int .i64 0, .int .i64 0, .slice none 0 0, .slice none 0 0] #[.int .i64 op, iv, .int .i64 k, .int .i64 st, .int .i64 pad, .int .i64 out, .int .i64 mul, .int .i64 0, .int .i64 0, .int .i64 0, .int .i64 0, .int .i64 0, .slice none 0 0, .slice none 0 0] 40 [⟨3, 1, iv, ins.length, ins.map (.int .i64)⟩, ⟨125, 1, .slice none 0 0, 0, []⟩, ⟨21, 1, .slice none 0 0, 0, []⟩] := by simpa using hS2
  clear hS2
  have hct := num_calls w0 v14 ys B 1 r8 hS.rd (by omega)
  unfold P4 at hct
  rw [h8] at hct
  try simp only [Sz.v] at hct
  go_wp2_with fail
  refine hct.mono ?_
  rintro e v15 ⟨rfl, hr, hg⟩
  have hS1 := hS.read hr hg
  have FF := F.trans (Fr.grown (lo := b3) (B := B) hg (fun k hk => .inl (by cases hk; rfl)))
  clear hct hr hg h8 hS F
  have hlt := hS1.nb.lt
  have hfr7 := hS1.nb.frozen 7
  have hcl7 : World.cell? v15 ⟨b3, 7, none⟩ = some (.int .i64 0) := hS1.nb.cell 7
  obtain ⟨hS2, f2⟩ := hS1.store 7 (.int .i64 sh)
  have F := (FF.trans f2)
  clear FF hS1 f2 
  go_upto_region 10 with fail
  clear hlt hfr7 hcl7
  generalize World.setCell v15 _ _ = v16 at *
  have hS : C4 w0 v16 ys B w.heap.size b3 r9 #[.int .i64 0, .slice none 0 0, .int .i64 0, .int .i64 0, .int .i64 0, .int .i64 0, .int .i64 0, .int .i64 0, .int .i64 0, .int .i64 0, .int .i64 0, .int .i64 0, .slice none 0 0, .slice none 0 0] #[.int .i64 op, iv, .int .i64 k, .int .i64 st, .int .i64 pad, .int .i64 out, .int .i64 mul, .int .i64 sh, .int .i64 0, .int .i64 0, .int .i64 0, .int .i64 0, .slice none 0 0, .slice none 0 0] 40 [⟨3, 1, iv, ins.length, ins.map (.int .i64)⟩, ⟨125, 1, .slice none 0 0, 0, []⟩, ⟨21, 1, .slice none 0 0, 0, []⟩] := by simpa using hS2
  clear hS2
  have hct := signed_calls w0 v16 ys B 1 r9 hS.rd (.inl rfl)
  unfold P4 at hct
  rw [h9] at hct
  try simp only [Sz.v] at hct
  go_wp2_with fail
  refine hct.mono ?_
  rintro e v17 ⟨rfl, hr, hg⟩
  have hS1 := hS.read hr hg
  have FF := F.trans (Fr.grown (lo := b3) (B := B) hg (fun k hk => .inl (by cases hk; rfl)))
  clear hct hr hg h9 hS F
  have hlt := hS1.nb.lt
  have hfr8 := hS1.nb.frozen 8
  have hcl8 : World.cell? v17 ⟨b3, 8, none⟩ = some (.int .i64 0) := hS1.nb.cell 8
  obtain ⟨hS2, f2⟩ := hS1.store 8 (.int .i64 zero)
  have F := (FF.trans f2)
  clear FF hS1 f2 
  go_upto_region 11 with fail
  clear hlt hfr8 hcl8
  generalize World.setCell v17 _ _ = v18 at *
  have hS : C4 w0 v18 ys B w.heap.size b3 r10 #[.int .i64 0, .slice none 0 0, .int .i64 0, .int .i64 0, .int .i64 0, .int .i64 0, .int .i64 0, .int .i64 0, .int .i64 0, .int .i64 0, .int .i64 0, .int .i64 0, .slice none 0 0, .slice none 0 0] #[.int .i64 op, iv, .int .i64 k, .int .i64 st, .int .i64 pad, .int .i64 out, .int .i64 mul, .int .i64 sh, .int .i64 zero, .int .i64 0, .int .i64 0, .int .i64 0, .slice none 0 0, .slice none 0 0] 40 [⟨3, 1, iv, ins.length, ins.map (.int .i64)⟩, ⟨125, 1, .slice none 0 0, 0, []⟩, ⟨21, 1, .slice none 0 0, 0, []⟩] := by simpa using hS2
  clear hS2
  have hct := shape4_calls w0 v18 ys B r10 hS.rd
  unfold P4 at hct
  rw [h10] at hct
  try simp only [Sz.v] at hct
  go_wp2_with fail
  refine hct.mono ?_
  rintro e v19 ⟨rfl, hr, hg⟩
  have hS1 := hS.read hr hg
  have FF := F.trans (Fr.grown (lo := b3) (B := B) hg (fun k hk => .inl (by cases hk; rfl)))
  clear hct hr hg h10 hS F
  have hlt := hS1.nb.lt
  have hfr9 := hS1.nb.frozen 9
  have hcl9 : World.cell? v19 ⟨b3, 9, none⟩ = some (.int .i64 0) := hS1.nb.cell 9
  have hfr10 := hS1.nb.frozen 10
  have hcl10 : World.cell? v19 ⟨b3, 10, none⟩ = some (.int .i64 0) := hS1.nb.cell 10
  have hfr11 := hS1.nb.frozen 11
  have hcl11 : World.cell? v19 ⟨b3, 11, none⟩ = some (.int .i64 0) := hS1.nb.cell 11
  obtain ⟨hS2, f2⟩ := hS1.store 9 (.int .i64 th)
  obtain ⟨hS3, f3⟩ := hS2.store 10 (.int .i64 tw)
  obtain ⟨hS4, f4⟩ := hS3.store 11 (.int .i64 tc)
  have F := (((FF.trans f2).trans f3).trans f4)
  clear FF hS1 f2 f3 f4 hS2 hS3
  go_upto_region 12 with fail
  clear hlt hfr9 hcl9 hfr10 hcl10 hfr11 hcl11
  generalize World.setCell (World.setCell (World.setCell v19 _ _) _ _) _ _ = v20 at *
  have hS : C4 w0 v20 ys B w.heap.size b3 r11 #[.int .i64 0, .slice none 0 0, .int .i64 0, .int .i64 0, .int .i64 0, .int .i64 0, .int .i64 0, .int .i64 0, .int .i64 0, .int .i64 0, .int .i64 0, .int .i64 0, .slice none 0 0, .slice none 0 0] #[.int .i64 op, iv, .int .i64 k, .int .i64 st, .int .i64 pad, .int .i64 out, .int .i64 mul, .int .i64 sh, .int .i64 zero, .int .i64 th, .int .i64 tw, .int .i64 tc, .slice none 0 0, .slice none 0 0] 40 [⟨3, 1, iv, ins.length, ins.map (.int .i64)⟩, ⟨125, 1, .slice none 0 0, 0, []⟩, ⟨21, 1, .slice none 0 0, 0, []⟩] := by simpa using hS4
  clear hS4
  have hrg := nNum_range (n := 2) (r := r11) hS.rd.sub
  have hct := num_calls w0 v20 ys B 2 r11 hS.rd (by omega)
  unfold P4 at hct
  rw [h11] at hct hrg
  simp only at hct hrg
  obtain ⟨hx1, hx2⟩ := hrg
  obtain ⟨n2, rfl⟩ := Int.eq_ofNat_of_zero_le hx1
  rw [Int.toNat_natCast] at h12
  have hnn2 : n2 < 65536 := by have : (n2 : Int) < 65536 := hx2; omega
  clear hx1 hx2
  go_upto_region 13 with (go_at_call 59; refine hct.mono ?_; rintro e ya ⟨rfl, hr, hg⟩)
  have hS1 := hS.read hr hg
  have FF := F.trans (Fr.grown (lo := b3) (B := B) hg (fun k hk => .inl (by cases hk; rfl)))
  clear hct hr hg h11 hS F
  have F := FF
  have hS := hS1.perm (List.Perm.swap _ _ _)
  clear hS1 FF
  have HM := Lib.hid h12
  have HQ := Lib.hid (many_all (P := InK .i8) (fun r h => q8_all h) n2 r12 hS.rd.sub).1
  have HW := Lib.hid (many_len (qS 1) n2 r12)
  rw [h12] at HQ HW
  clear h12
  go_upto_region 14 with fail
  go_loopw [5] (fun i wr => ∃ (v : Value) (k9 : Nat) (zs : List Int) (r' : Rd), k9 ≤ n2 ∧ i = .int .i64 k9 ∧ C4 w0 wr ys B w.heap.size b3 r' #[.int .i64 0, .slice none 0 0, .int .i64 0, .int .i64 0, .int .i64 0, .int .i64 0, .int .i64 0, .int .i64 0, .int .i64 0, .int .i64 0, .int .i64 0, .int .i64 0, .slice none 0 0, .slice none 0 0] #[.int .i64 op, iv, .int .i64 k, .int .i64 st, .int .i64 pad, .int .i64 out, .int .i64 mul, .int .i64 sh, .int .i64 zero, .int .i64 th, .int .i64 tw, .int .i64 tc, v, .slice none 0 0] 40 [⟨125, 1, v, k9, zs.map (.int .i8)⟩, ⟨3, 1, iv, ins.length, ins.map (.int .i64)⟩, ⟨21, 1, .slice none 0 0, 0, []⟩] ∧ zs.length = k9 ∧ Fr b3 B w1 wr ∧ many (qS 1) n2 r12 = (zs ++ (many (qS 1) (n2 - k9) r').1, (many (qS 1) (n2 - k9) r').2)) (fun i _ => n2 - (intOf i).toNat)
  case atStart => exact ⟨.slice none 0 0, 0, [], r12, by omega, rfl, hS, rfl, F, by simp⟩
  case round =>
    clear hS F
    obtain ⟨v, k9, zs, r', hk, rfl, hS, hzl, F, hm⟩ := hrel
    have hbad := hS.rd.bad
    have HMM := Lib.hid hm
    clear hm
    by_cases hlt : k9 < n2
    · cases hb : r'.bad with
      | true =>
        rw [hb] at hbad
        obtain ⟨hz9, hr9⟩ := many_stop HMM.out (.inr hb) HM.out
        replace hz9 := hz9.symm
        replace hr9 := hr9.symm
        subst hz9 hr9
        clear hb
        go_upto_region 17 with fail
        clear hbad
        have HLwv := Lib.hid (show ws.length ≤ 65535 by have h9 := HW.out; (try simp only at h9); omega)
        have HAwv := Lib.hid HQ.out
        have hlen9 : k9 = ws.length := hzl.symm
        subst hlen9
        clear HM HMM HQ HW hzl hk hlt
        obtain ⟨wv, hv9⟩ : ∃ u, u = v := ⟨_, rfl⟩
        subst hv9
        try simp only at HLwv HAwv
        have hrg := nNum_range (n := 1) (r := r13) hS.rd.sub
        have hct := num_calls w0 wr ys B 1 r13 hS.rd (by omega)
        unfold P4 at hct
        rw [h13] at hct hrg
        simp only at hct hrg
        obtain ⟨hx1, hx2⟩ := hrg
        obtain ⟨n3, rfl⟩ := Int.eq_ofNat_of_zero_le hx1
        rw [Int.toNat_natCast] at h14
        have hnn3 : n3 < 256 := by have : (n3 : Int) < 256 := hx2; omega
        clear hx1 hx2
        go_upto_region 18 with (go_at_call 59; refine hct.mono ?_; rintro e yb ⟨rfl, hr, hg⟩)
        have hS1 := hS.read hr hg
        have FF := F.trans (Fr.grown (lo := b3) (B := B) hg (fun k hk => .inl (by cases hk; rfl)))
        clear hct hr hg h13 hS F
        have F := FF
        have hS := hS1.perm ((List.Perm.cons _ (List.Perm.swap _ _ _)).trans (List.Perm.swap _ _ _))
        clear hS1 FF
        have HM := Lib.hid h14
        have HQ := Lib.hid (many_all (P := InK .i32) (fun r h => q32_all h) n3 r14 hS.rd.sub).1
        have HW := Lib.hid (many_len (qS 4) n3 r14)
        rw [h14] at HQ HW
        clear h14
        go_upto_region 19 with fail
        go_loopw [7] (fun i wr => ∃ (v : Value) (k9 : Nat) (zs : List Int) (r' : Rd), k9 ≤ n3 ∧ i = .int .i64 k9 ∧ C4 w0 wr ys B w.heap.size b3 r' #[.int .i64 0, .slice none 0 0, .int .i64 0, .int .i64 0, .int .i64 0, .int .i64 0, .int .i64 0, .int .i64 0, .int .i64 0, .int .i64 0, .int .i64 0, .int .i64 0, .slice none 0 0, .slice none 0 0] #[.int .i64 op, iv, .int .i64 k, .int .i64 st, .int .i64 pad, .int .i64 out, .int .i64 mul, .int .i64 sh, .int .i64 zero, .int .i64 th, .int .i64 tw, .int .i64 tc, wv, v] 40 [⟨21, 1, v, k9, zs.map (.int .i32)⟩, ⟨125, 1, wv, ws.length, ws.map (.int .i8)⟩, ⟨3, 1, iv, ins.length, ins.map (.int .i64)⟩] ∧ zs.length = k9 ∧ Fr b3 B w1 wr ∧ many (qS 4) n3 r14 = (zs ++ (many (qS 4) (n3 - k9) r').1, (many (qS 4) (n3 - k9) r').2)) (fun i _ => n3 - (intOf i).toNat)
        case atStart => exact ⟨.slice none 0 0, 0, [], r14, by omega, rfl, hS, rfl, F, by simp⟩
        case round =>
          clear hS F
          obtain ⟨v, k9, zs, r', hk, rfl, hS, hzl, F, hm⟩ := hrel
          have hbad := hS.rd.bad
          have HMM := Lib.hid hm
          clear hm
          by_cases hlt : k9 < n3
          · cases hb : r'.bad with
            | true =>
              rw [hb] at hbad
              obtain ⟨hz9, hr9⟩ := many_stop HMM.out (.inr hb) HM.out
              replace hz9 := hz9.symm
              replace hr9 := hr9.symm
              subst hz9 hr9
              clear hb
              go_upto_region 22 with fail
              clear hbad
              have HLbv := Lib.hid (show bs.length ≤ 255 by have h9 := HW.out; (try simp only at h9); omega)
              have HAbv := Lib.hid HQ.out
              have hlen9 : k9 = bs.length := hzl.symm
              subst hlen9
              clear HM HMM HQ HW hzl hk hlt
              obtain ⟨bv, hv9⟩ : ∃ u, u = v := ⟨_, rfl⟩
              subst hv9
              try simp only at HLbv HAbv
              have nd0 : World.cell? wr ⟨b3, 0, none⟩ = some (.int .i64 op) := hS.nb.cell 0
              have nd1 : World.cell? wr ⟨b3, 1, none⟩ = some (iv) := hS.nb.cell 1
              have nd2 : World.cell? wr ⟨b3, 2, none⟩ = some (.int .i64 k) := hS.nb.cell 2
              have nd3 : World.cell? wr ⟨b3, 3, none⟩ = some (.int .i64 st) := hS.nb.cell 3
              have nd4 : World.cell? wr ⟨b3, 4, none⟩ = some (.int .i64 pad) := hS.nb.cell 4
              have nd5 : World.cell? wr ⟨b3, 5, none⟩ = some (.int .i64 out) := hS.nb.cell 5
              have nd6 : World.cell? wr ⟨b3, 6, none⟩ = some (.int .i64 mul) := hS.nb.cell 6
              have nd7 : World.cell? wr ⟨b3, 7, none⟩ = some (.int .i64 sh) := hS.nb.cell 7
              have nd8 : World.cell? wr ⟨b3, 8, none⟩ = some (.int .i64 zero) := hS.nb.cell 8
              have nd9 : World.cell? wr ⟨b3, 9, none⟩ = some (.int .i64 th) := hS.nb.cell 9
              have nd10 : World.cell? wr ⟨b3, 10, none⟩ = some (.int .i64 tw) := hS.nb.cell 10
              have nd11 : World.cell? wr ⟨b3, 11, none⟩ = some (.int .i64 tc) := hS.nb.cell 11
              have nd12 : World.cell? wr ⟨b3, 12, none⟩ = some (wv) := hS.nb.cell 12
              have nd13 : World.cell? wr ⟨b3, 13, none⟩ = some (bv) := hS.nb.cell 13
              have hrb := hS.rb
              have hone : Array.all #[.int .i64 op, iv, .int .i64 k, .int .i64 st, .int .i64 pad, .int .i64 out, .int .i64 mul, .int .i64 sh, .int .i64 zero, .int .i64 th, .int .i64 tw, .int .i64 tc, wv, bv] (·.oneCell') = true := by
                obtain ⟨_, _, e1, _⟩ := row_of_own (hS.own.own ⟨3, 1, iv, ins.length, ins.map (.int .i64)⟩ (by simp))
                obtain ⟨_, _, e2, _⟩ := row_of_own (hS.own.own ⟨125, 1, wv, ws.length, ws.map (.int .i8)⟩ (by simp))
                obtain ⟨_, _, e3, _⟩ := row_of_own (hS.own.own ⟨21, 1, bv, bs.length, bs.map (.int .i32)⟩ (by simp))
                simp only at e1 e2 e3
                rw [e1, e2, e3]
                simp [Value.oneCell']
              have HO := Lib.hid hone
              have hg9 := setRow_grown wr w.heap.size #[.int .i64 op, iv, .int .i64 k, .int .i64 st, .int .i64 pad, .int .i64 out, .int .i64 mul, .int .i64 sh, .int .i64 zero, .int .i64 th, .int .i64 tw, .int .i64 tc, wv, bv]
              have hown : OwnAll (wr.setRow w.heap.size #[.int .i64 op, iv, .int .i64 k, .int .i64 st, .int .i64 pad, .int .i64 out, .int .i64 mul, .int .i64 sh, .int .i64 zero, .int .i64 th, .int .i64 tw, .int .i64 tc, wv, bv]) w.heap.size (rowsN ⟨op, iv, k, st, pad, out, mul, sh, zero, th, tw, tc, wv, bv, ins, ws, bs⟩) := ((hS.own.grown hg9 (by omega)).lower (by omega)).perm (by first | exact List.Perm.refl _ | exact List.reverse_perm _ | exact (List.reverse_perm _).symm)
              have hrd : R4 w0 (wr.setRow w.heap.size #[.int .i64 op, iv, .int .i64 k, .int .i64 st, .int .i64 pad, .int .i64 out, .int .i64 mul, .int .i64 sh, .int .i64 zero, .int .i64 th, .int .i64 tw, .int .i64 tc, wv, bv]) ys B r15 := hS.rd.grown hg9 (fun k hk => by cases hk; have := hS.rd.hB; omega)
              have hgr : w.grownBy (wr.setRow w.heap.size #[.int .i64 op, iv, .int .i64 k, .int .i64 st, .int .i64 pad, .int .i64 out, .int .i64 mul, .int .i64 sh, .int .i64 zero, .int .i64 th, .int .i64 tw, .int .i64 tc, wv, bv]) (some B) := by
                refine Fr.toGrown (lo := w.heap.size) ?_ (Nat.le_refl _)
                exact ((Fr.ext HE1.out).trans (F.less (by omega))).trans (Fr.grown hg9 (fun k hk => .inr (by cases hk; omega)))
              have HV := Lib.hid (show NdFit ⟨op, iv, k, st, pad, out, mul, sh, zero, th, tw, tc, wv, bv, ins, ws, bs⟩ from ⟨HIL.out, HLwv.out, HLbv.out, HAwv.out, HAbv.out⟩)
              have HX := Lib.hid hown
              clear hone hown hS F hg9
              go_wp2_with (refine wpList_store_row rfl 40 _ _ rfl w.heap.size #[.int .i64 op, iv, .int .i64 k, .int .i64 st, .int .i64 pad, .int .i64 out, .int .i64 mul, .int .i64 sh, .int .i64 zero, .int .i64 th, .int .i64 tw, .int .i64 tc, wv, bv] rfl rfl 40 _ hrb (by kernel_rfl) rfl HO.out ?_)
              refine bodyPost_ret (v := .agg _) (results_cell_row Try.results62 _ _ w.heap.size 40 _ (0, 0) _ rfl (setRow_heap _ _ _ _ _ _ hrb) (by kernel_rfl : Try.prog.underlying 40 = some (.struct (Try.prog.fieldsOf 40))) rfl (by kernel_rfl)) rfl ?_
              exact HP.out _ _ ⟨⟨op, iv, k, st, pad, out, mul, sh, zero, th, tw, tc, wv, bv, ins, ws, bs⟩, rfl, by rw [HN.out]; rfl, by rw [HN.out]; exact hrd, hgr, HX.out, HV.out⟩
            | false =>
              rw [hb] at hbad
              have HM2 := Lib.hid (many_more HMM.out hlt hb)
              have c1 : ∀ W', Keeps [b3] wr W' → W'.cell? ⟨b3, 13, none⟩ = some v := fun W' hW => (hW.cell (by simp)).trans (hS.nb.cell 13)
              have hD := hS.ext (Ext.drew wr)
              have F0 := F.trans (Fr.ext (lo := b3) (B := B) (Ext.drew wr))
              have K0 : Keeps [b3] wr wr.drew := Keeps.drew _ _
              have hrd := signed_calls w0 wr.drew ys B 4 r' hD.rd (by omega)
              unfold P4 at hrd
              have hzr := (q32_all hD.rd.sub).1
              clear hS F HMM
              go_upto_region 21 with fail
              clear hbad
              refine wp_region_Z (Keeps [b3] wr) 8 [(0, true), (1, true), (2, true), (3, false), (4, true), (5, false), (6, false), (7, true), (8, false)] (by kernel_rfl) (by kernel_rfl) (fun _ _ d _ _ h => by cases d <;> exact h) K0 ?_
              simp only [pickE, List.getElem?_cons_zero, List.getElem?_cons_succ]
              repeat (refine wpZ_pure (by rfl) (fun W hW => by go_simp; with_reducible rfl) ?_; simp only [Act.put, List.setIfInBounds_toArray, List.set_cons_zero, List.set_cons_succ])
              generalize wr.drew = y0 at *
              refine wpZ_step (by rfl) (fun K hK => ?_)
              go_simp
              refine hrd.mono ?_
              rintro e y1 ⟨rfl, hr1, hg1⟩
              have h1 := hD.read hr1 hg1
              have K1 := K0.trans (hD.keeps hg1)
              have F1 := F0.trans (Fr.grown (lo := b3) (B := B) hg1 (fun k hk => .inl (by cases hk; rfl)))
              refine hK _ _ K1 ?_
              clear hK K hrd hr1 hg1 hD K0 F0
              generalize (qS 4 r').1 = z at *
              generalize (qS 4 r').2 = r2 at *
              have hwr : IntKind.i32.wrap z = z := IntWalk.i32_in z (by simp only [InK] at hzr; omega)
              clear hzr
              try simp only [Act.put, List.setIfInBounds_toArray, List.set_cons_zero, List.set_cons_succ]
              repeat (refine wpZ_pure (by rfl) (fun W hW => by go_simp; with_reducible rfl) ?_; simp only [Act.put, List.setIfInBounds_toArray, List.set_cons_zero, List.set_cons_succ])
              have hE2 := ext_alloc y1 (.cells #[Value.int .i32 z] 21)
              have hnew := row_new y1 #[Value.int .i32 z] 21 1 1 rfl (by decide)
              have h2 := h1.ext hE2
              have K2 := K1.trans (h1.keepsE hE2)
              have F2 := F1.trans (Fr.ext (lo := b3) (B := B) hE2)
              refine wpZ_step (by rfl) (fun K hK => ?_)
              go_simp
              refine hK _ _ K2 ?_
              clear hK K h1 K1 F1 hE2
              generalize y1.alloc _ = y2 at *
              try simp only [Act.put, List.setIfInBounds_toArray, List.set_cons_zero, List.set_cons_succ]
              repeat (refine wpZ_pure (by rfl) (fun W hW => by go_simp; with_reducible rfl) ?_; simp only [Act.put, List.setIfInBounds_toArray, List.set_cons_zero, List.set_cons_succ])
              have hown := h2.own.own _ (List.mem_cons_self ..)
              have hbase : b3 + 1 ≤ y2.heap.size := h2.nb.lt
              have hk1 : k9 + 1 ≤ 140737488355328 := by omega
              have hk2 : (k9 + 1) * 4 ≤ 140737488355328 := by omega
              have hone : ∀ u ∈ #[Value.int .i32 z].toList, u.oneCell' = true := by intro u hu; simp at hu; subst hu; rfl
              refine wpZ_step (by rfl) (fun K hK => ?_)
              refine wp_append_row rfl elem_i32 hown rfl hnew rfl hone hk1 hk2 hbase (fun v' y3 ho hgr hnr => ?_)
              have K3 := K2.trans (h2.keepsR hgr)
              refine hK _ _ K3 ?_
              clear hK K
              obtain ⟨p1, p2, p3, p4, p5⟩ := h2.push ho hgr hnr 13
              have p5' : World.cell? y3 ⟨b3, 13, none⟩ = some v := p5
              obtain ⟨A, c, ev, _⟩ := row_of_own ho
              clear ho hgr hnr hnew hown K2 h2 p5
              have F3 := F2.trans p2
              clear p2 F2
              try simp only [Act.put, List.setIfInBounds_toArray, List.set_cons_zero, List.set_cons_succ]
              repeat (refine wpZ_pure (by rfl) (fun W hW => by go_simp; with_reducible rfl) ?_; simp only [Act.put, List.setIfInBounds_toArray, List.set_cons_zero, List.set_cons_succ])
              have EV := Lib.hid ev
              subst ev
              refine wpZ_last (by rfl) (fun K hK => ?_)
              go_simp
              refine hK _ _ ?_
              clear hK K
              try simp only [Act.put, List.setIfInBounds_toArray, List.set_cons_zero, List.set_cons_succ]
              clear p3 p4 p5'
              have hSn : C4 w0 (World.setCell y3 ⟨b3, 13, none⟩ (.slice A (k9 + 1) c)) ys B w.heap.size b3 r2 #[.int .i64 0, .slice none 0 0, .int .i64 0, .int .i64 0, .int .i64 0, .int .i64 0, .int .i64 0, .int .i64 0, .int .i64 0, .int .i64 0, .int .i64 0, .int .i64 0, .slice none 0 0, .slice none 0 0] #[.int .i64 op, iv, .int .i64 k, .int .i64 st, .int .i64 pad, .int .i64 out, .int .i64 mul, .int .i64 sh, .int .i64 zero, .int .i64 th, .int .i64 tw, .int .i64 tc, wv, (.slice A (k9 + 1) c)] 40 [⟨21, 1, (.slice A (k9 + 1) c), (k9 + 1), (zs ++ [z]).map (.int .i32)⟩, ⟨125, 1, wv, ws.length, ws.map (.int .i8)⟩, ⟨3, 1, iv, ins.length, ins.map (.int .i64)⟩] := by
                rw [List.map_append]
                simpa using p1
              clear p1
              generalize World.setCell y3 _ _ = y4 at *
              go_wp2_with fail
              go_roundw
              case rel => exact ⟨_, k9 + 1, zs ++ [z], r2, by omega, by go_num, hSn, by simp [hzl], F3, HM2.out⟩
              case measure => simp [intOf]; omega
          · obtain ⟨hz9, hr9⟩ := many_stop HMM.out (.inl (by omega)) HM.out
            replace hz9 := hz9.symm
            replace hr9 := hr9.symm
            subst hz9 hr9
            go_upto_region 22 with fail
            clear hbad
            have HLbv := Lib.hid (show bs.length ≤ 255 by have h9 := HW.out; (try simp only at h9); omega)
            have HAbv := Lib.hid HQ.out
            have hlen9 : k9 = bs.length := hzl.symm
            subst hlen9
            clear HM HMM HQ HW hzl hk hlt
            obtain ⟨bv, hv9⟩ : ∃ u, u = v := ⟨_, rfl⟩
            subst hv9
            try simp only at HLbv HAbv
            have nd0 : World.cell? wr ⟨b3, 0, none⟩ = some (.int .i64 op) := hS.nb.cell 0
            have nd1 : World.cell? wr ⟨b3, 1, none⟩ = some (iv) := hS.nb.cell 1
            have nd2 : World.cell? wr ⟨b3, 2, none⟩ = some (.int .i64 k) := hS.nb.cell 2
            have nd3 : World.cell? wr ⟨b3, 3, none⟩ = some (.int .i64 st) := hS.nb.cell 3
            have nd4 : World.cell? wr ⟨b3, 4, none⟩ = some (.int .i64 pad) := hS.nb.cell 4
            have nd5 : World.cell? wr ⟨b3, 5, none⟩ = some (.int .i64 out) := hS.nb.cell 5
            have nd6 : World.cell? wr ⟨b3, 6, none⟩ = some (.int .i64 mul) := hS.nb.cell 6
            have nd7 : World.cell? wr ⟨b3, 7, none⟩ = some (.int .i64 sh) := hS.nb.cell 7
            have nd8 : World.cell? wr ⟨b3, 8, none⟩ = some (.int .i64 zero) := hS.nb.cell 8
            have nd9 : World.cell? wr ⟨b3, 9, none⟩ = some (.int .i64 th) := hS.nb.cell 9
            have nd10 : World.cell? wr ⟨b3, 10, none⟩ = some (.int .i64 tw) := hS.nb.cell 10
            have nd11 : World.cell? wr ⟨b3, 11, none⟩ = some (.int .i64 tc) := hS.nb.cell 11
            have nd12 : World.cell? wr ⟨b3, 12, none⟩ = some (wv) := hS.nb.cell 12
            have nd13 : World.cell? wr ⟨b3, 13, none⟩ = some (bv) := hS.nb.cell 13
            have hrb := hS.rb
            have hone : Array.all #[.int .i64 op, iv, .int .i64 k, .int .i64 st, .int .i64 pad, .int .i64 out, .int .i64 mul, .int .i64 sh, .int .i64 zero, .int .i64 th, .int .i64 tw, .int .i64 tc, wv, bv] (·.oneCell') = true := by
              obtain ⟨_, _, e1, _⟩ := row_of_own (hS.own.own ⟨3, 1, iv, ins.length, ins.map (.int .i64)⟩ (by simp))
              obtain ⟨_, _, e2, _⟩ := row_of_own (hS.own.own ⟨125, 1, wv, ws.length, ws.map (.int .i8)⟩ (by simp))
              obtain ⟨_, _, e3, _⟩ := row_of_own (hS.own.own ⟨21, 1, bv, bs.length, bs.map (.int .i32)⟩ (by simp))
              simp only at e1 e2 e3
              rw [e1, e2, e3]
              simp [Value.oneCell']
            have HO := Lib.hid hone
            have hg9 := setRow_grown wr w.heap.size #[.int .i64 op, iv, .int .i64 k, .int .i64 st, .int .i64 pad, .int .i64 out, .int .i64 mul, .int .i64 sh, .int .i64 zero, .int .i64 th, .int .i64 tw, .int .i64 tc, wv, bv]
            have hown : OwnAll (wr.setRow w.heap.size #[.int .i64 op, iv, .int .i64 k, .int .i64 st, .int .i64 pad, .int .i64 out, .int .i64 mul, .int .i64 sh, .int .i64 zero, .int .i64 th, .int .i64 tw, .int .i64 tc, wv, bv]) w.heap.size (rowsN ⟨op, iv, k, st, pad, out, mul, sh, zero, th, tw, tc, wv, bv, ins, ws, bs⟩) := ((hS.own.grown hg9 (by omega)).lower (by omega)).perm (by first | exact List.Perm.refl _ | exact List.reverse_perm _ | exact (List.reverse_perm _).symm)
            have hrd : R4 w0 (wr.setRow w.heap.size #[.int .i64 op, iv, .int .i64 k, .int .i64 st, .int .i64 pad, .int .i64 out, .int .i64 mul, .int .i64 sh, .int .i64 zero, .int .i64 th, .int .i64 tw, .int .i64 tc, wv, bv]) ys B r15 := hS.rd.grown hg9 (fun k hk => by cases hk; have := hS.rd.hB; omega)
            have hgr : w.grownBy (wr.setRow w.heap.size #[.int .i64 op, iv, .int .i64 k, .int .i64 st, .int .i64 pad, .int .i64 out, .int .i64 mul, .int .i64 sh, .int .i64 zero, .int .i64 th, .int .i64 tw, .int .i64 tc, wv, bv]) (some B) := by
              refine Fr.toGrown (lo := w.heap.size) ?_ (Nat.le_refl _)
              exact ((Fr.ext HE1.out).trans (F.less (by omega))).trans (Fr.grown hg9 (fun k hk => .inr (by cases hk; omega)))
            have HV := Lib.hid (show NdFit ⟨op, iv, k, st, pad, out, mul, sh, zero, th, tw, tc, wv, bv, ins, ws, bs⟩ from ⟨HIL.out, HLwv.out, HLbv.out, HAwv.out, HAbv.out⟩)
            have HX := Lib.hid hown
            clear hone hown hS F hg9
            go_wp2_with (refine wpList_store_row rfl 40 _ _ rfl w.heap.size #[.int .i64 op, iv, .int .i64 k, .int .i64 st, .int .i64 pad, .int .i64 out, .int .i64 mul, .int .i64 sh, .int .i64 zero, .int .i64 th, .int .i64 tw, .int .i64 tc, wv, bv] rfl rfl 40 _ hrb (by kernel_rfl) rfl HO.out ?_)
            refine bodyPost_ret (v := .agg _) (results_cell_row Try.results62 _ _ w.heap.size 40 _ (0, 0) _ rfl (setRow_heap _ _ _ _ _ _ hrb) (by kernel_rfl : Try.prog.underlying 40 = some (.struct (Try.prog.fieldsOf 40))) rfl (by kernel_rfl)) rfl ?_
            exact HP.out _ _ ⟨⟨op, iv, k, st, pad, out, mul, sh, zero, th, tw, tc, wv, bv, ins, ws, bs⟩, rfl, by rw [HN.out]; rfl, by rw [HN.out]; exact hrd, hgr, HX.out, HV.out⟩
      | false =>
        rw [hb] at hbad
        have HM2 := Lib.hid (many_more HMM.out hlt hb)
        have c1 : ∀ W', Keeps [b3] wr W' → W'.cell? ⟨b3, 12, none⟩ = some v := fun W' hW => (hW.cell (by simp)).trans (hS.nb.cell 12)
        have hD := hS.ext (Ext.drew wr)
        have F0 := F.trans (Fr.ext (lo := b3) (B := B) (Ext.drew wr))
        have K0 : Keeps [b3] wr wr.drew := Keeps.drew _ _
        have hrd := signed_calls w0 wr.drew ys B 1 r' hD.rd (by omega)
        unfold P4 at hrd
        have hzr := (q8_all hD.rd.sub).1
        clear hS F HMM
        go_upto_region 16 with fail
        clear hbad
        refine wp_region_Z (Keeps [b3] wr) 8 [(0, true), (1, true), (2, true), (3, false), (4, true), (5, false), (6, false), (7, true), (8, false)] (by kernel_rfl) (by kernel_rfl) (fun _ _ d _ _ h => by cases d <;> exact h) K0 ?_
        simp only [pickE, List.getElem?_cons_zero, List.getElem?_cons_succ]
        repeat (refine wpZ_pure (by rfl) (fun W hW => by go_simp; with_reducible rfl) ?_; simp only [Act.put, List.setIfInBounds_toArray, List.set_cons_zero, List.set_cons_succ])
        generalize wr.drew = y0 at *
        refine wpZ_step (by rfl) (fun K hK => ?_)
        go_simp
        refine hrd.mono ?_
        rintro e y1 ⟨rfl, hr1, hg1⟩
        have h1 := hD.read hr1 hg1
        have K1 := K0.trans (hD.keeps hg1)
        have F1 := F0.trans (Fr.grown (lo := b3) (B := B) hg1 (fun k hk => .inl (by cases hk; rfl)))
        refine hK _ _ K1 ?_
        clear hK K hrd hr1 hg1 hD K0 F0
        generalize (qS 1 r').1 = z at *
        generalize (qS 1 r').2 = r2 at *
        have hwr : IntKind.i8.wrap z = z := IntWalk.i8_in z (by simp only [InK] at hzr; omega)
        clear hzr
        try simp only [Act.put, List.setIfInBounds_toArray, List.set_cons_zero, List.set_cons_succ]
        repeat (refine wpZ_pure (by rfl) (fun W hW => by go_simp; with_reducible rfl) ?_; simp only [Act.put, List.setIfInBounds_toArray, List.set_cons_zero, List.set_cons_succ])
        have hE2 := ext_alloc y1 (.cells #[Value.int .i8 z] 125)
        have hnew := row_new y1 #[Value.int .i8 z] 125 1 1 rfl (by decide)
        have h2 := h1.ext hE2
        have K2 := K1.trans (h1.keepsE hE2)
        have F2 := F1.trans (Fr.ext (lo := b3) (B := B) hE2)
        refine wpZ_step (by rfl) (fun K hK => ?_)
        go_simp
        refine hK _ _ K2 ?_
        clear hK K h1 K1 F1 hE2
        generalize y1.alloc _ = y2 at *
        try simp only [Act.put, List.setIfInBounds_toArray, List.set_cons_zero, List.set_cons_succ]
        repeat (refine wpZ_pure (by rfl) (fun W hW => by go_simp; with_reducible rfl) ?_; simp only [Act.put, List.setIfInBounds_toArray, List.set_cons_zero, List.set_cons_succ])
        have hown := h2.own.own _ (List.mem_cons_self ..)
        have hbase : b3 + 1 ≤ y2.heap.size := h2.nb.lt
        have hk1 : k9 + 1 ≤ 140737488355328 := by omega
        have hk2 : (k9 + 1) * 1 ≤ 140737488355328 := by omega
        have hone : ∀ u ∈ #[Value.int .i8 z].toList, u.oneCell' = true := by intro u hu; simp at hu; subst hu; rfl
        refine wpZ_step (by rfl) (fun K hK => ?_)
        refine wp_append_row rfl elem_i8 hown rfl hnew rfl hone hk1 hk2 hbase (fun v' y3 ho hgr hnr => ?_)
        have K3 := K2.trans (h2.keepsR hgr)
        refine hK _ _ K3 ?_
        clear hK K
        obtain ⟨p1, p2, p3, p4, p5⟩ := h2.push ho hgr hnr 12
        have p5' : World.cell? y3 ⟨b3, 12, none⟩ = some v := p5
        obtain ⟨A, c, ev, _⟩ := row_of_own ho
        clear ho hgr hnr hnew hown K2 h2 p5
        have F3 := F2.trans p2
        clear p2 F2
        try simp only [Act.put, List.setIfInBounds_toArray, List.set_cons_zero, List.set_cons_succ]
        repeat (refine wpZ_pure (by rfl) (fun W hW => by go_simp; with_reducible rfl) ?_; simp only [Act.put, List.setIfInBounds_toArray, List.set_cons_zero, List.set_cons_succ])
        have EV := Lib.hid ev
        subst ev
        refine wpZ_last (by rfl) (fun K hK => ?_)
        go_simp
        refine hK _ _ ?_
        clear hK K
        try simp only [Act.put, List.setIfInBounds_toArray, List.set_cons_zero, List.set_cons_succ]
        clear p3 p4 p5'
        have hSn : C4 w0 (World.setCell y3 ⟨b3, 12, none⟩ (.slice A (k9 + 1) c)) ys B w.heap.size b3 r2 #[.int .i64 0, .slice none 0 0, .int .i64 0, .int .i64 0, .int .i64 0, .int .i64 0, .int .i64 0, .int .i64 0, .int .i64 0, .int .i64 0, .int .i64 0, .int .i64 0, .slice none 0 0, .slice none 0 0] #[.int .i64 op, iv, .int .i64 k, .int .i64 st, .int .i64 pad, .int .i64 out, .int .i64 mul, .int .i64 sh, .int .i64 zero, .int .i64 th, .int .i64 tw, .int .i64 tc, (.slice A (k9 + 1) c), .slice none 0 0] 40 [⟨125, 1, (.slice A (k9 + 1) c), (k9 + 1), (zs ++ [z]).map (.int .i8)⟩, ⟨3, 1, iv, ins.length, ins.map (.int .i64)⟩, ⟨21, 1, .slice none 0 0, 0, []⟩] := by
          rw [List.map_append]
          simpa using p1
        clear p1
        generalize World.setCell y3 _ _ = y4 at *
        go_wp2_with fail
        go_roundw
        case rel => exact ⟨_, k9 + 1, zs ++ [z], r2, by omega, by go_num, hSn, by simp [hzl], F3, HM2.out⟩
        case measure => simp [intOf]; omega
    · obtain ⟨hz9, hr9⟩ := many_stop HMM.out (.inl (by omega)) HM.out
      replace hz9 := hz9.symm
      replace hr9 := hr9.symm
      subst hz9 hr9
      go_upto_region 17 with fail
      clear hbad
      have HLwv := Lib.hid (show ws.length ≤ 65535 by have h9 := HW.out; (try simp only at h9); omega)
      have HAwv := Lib.hid HQ.out
      have hlen9 : k9 = ws.length := hzl.symm
      subst hlen9
      clear HM HMM HQ HW hzl hk hlt
      obtain ⟨wv, hv9⟩ : ∃ u, u = v := ⟨_, rfl⟩
      subst hv9
      try simp only at HLwv HAwv
      have hrg := nNum_range (n := 1) (r := r13) hS.rd.sub
      have hct := num_calls w0 wr ys B 1 r13 hS.rd (by omega)
      unfold P4 at hct
      rw [h13] at hct hrg
      simp only at hct hrg
      obtain ⟨hx1, hx2⟩ := hrg
      obtain ⟨n3, rfl⟩ := Int.eq_ofNat_of_zero_le hx1
      rw [Int.toNat_natCast] at h14
      have hnn3 : n3 < 256 := by have : (n3 : Int) < 256 := hx2; omega
      clear hx1 hx2
      go_upto_region 18 with (go_at_call 59; refine hct.mono ?_; rintro e yb ⟨rfl, hr, hg⟩)
      have hS1 := hS.read hr hg
      have FF := F.trans (Fr.grown (lo := b3) (B := B) hg (fun k hk => .inl (by cases hk; rfl)))
      clear hct hr hg h13 hS F
      have F := FF
      have hS := hS1.perm ((List.Perm.cons _ (List.Perm.swap _ _ _)).trans (List.Perm.swap _ _ _))
      clear hS1 FF
      have HM := Lib.hid h14
      have HQ := Lib.hid (many_all (P := InK .i32) (fun r h => q32_all h) n3 r14 hS.rd.sub).1
      have HW := Lib.hid (many_len (qS 4) n3 r14)
      rw [h14] at HQ HW
      clear h14
      go_upto_region 19 with fail
      go_loopw [7] (fun i wr => ∃ (v : Value) (k9 : Nat) (zs : List Int) (r' : Rd), k9 ≤ n3 ∧ i = .int .i64 k9 ∧ C4 w0 wr ys B w.heap.size b3 r' #[.int .i64 0, .slice none 0 0, .int .i64 0, .int .i64 0, .int .i64 0, .int .i64 0, .int .i64 0, .int .i64 0, .int .i64 0, .int .i64 0, .int .i64 0, .int .i64 0, .slice none 0 0, .slice none 0 0] #[.int .i64 op, iv, .int .i64 k, .int .i64 st, .int .i64 pad, .int .i64 out, .int .i64 mul, .int .i64 sh, .int .i64 zero, .int .i64 th, .int .i64 tw, .int .i64 tc, wv, v] 40 [⟨21, 1, v, k9, zs.map (.int .i32)⟩, ⟨125, 1, wv, ws.length, ws.map (.int .i8)⟩, ⟨3, 1, iv, ins.length, ins.map (.int .i64)⟩] ∧ zs.length = k9 ∧ Fr b3 B w1 wr ∧ many (qS 4) n3 r14 = (zs ++ (many (qS 4) (n3 - k9) r').1, (many (qS 4) (n3 - k9) r').2)) (fun i _ => n3 - (intOf i).toNat)
      case atStart => exact ⟨.slice none 0 0, 0, [], r14, by omega, rfl, hS, rfl, F, by simp⟩
      case round =>
        clear hS F
        obtain ⟨v, k9, zs, r', hk, rfl, hS, hzl, F, hm⟩ := hrel
        have hbad := hS.rd.bad
        have HMM := Lib.hid hm
        clear hm
        by_cases hlt : k9 < n3
        · cases hb : r'.bad with
          | true =>
            rw [hb] at hbad
            obtain ⟨hz9, hr9⟩ := many_stop HMM.out (.inr hb) HM.out
            replace hz9 := hz9.symm
            replace hr9 := hr9.symm
            subst hz9 hr9
            clear hb
            go_upto_region 22 with fail
            clear hbad
            have HLbv := Lib.hid (show bs.length ≤ 255 by have h9 := HW.out; (try simp only at h9); omega)
            have HAbv := Lib.hid HQ.out
            have hlen9 : k9 = bs.length := hzl.symm
            subst hlen9
            clear HM HMM HQ HW hzl hk hlt
            obtain ⟨bv, hv9⟩ : ∃ u, u = v := ⟨_, rfl⟩
            subst hv9
            try simp only at HLbv HAbv
            have nd0 : World.cell? wr ⟨b3, 0, none⟩ = some (.int .i64 op) := hS.nb.cell 0
            have nd1 : World.cell? wr ⟨b3, 1, none⟩ = some (iv) := hS.nb.cell 1
            have nd2 : World.cell? wr ⟨b3, 2, none⟩ = some (.int .i64 k) := hS.nb.cell 2
            have nd3 : World.cell? wr ⟨b3, 3, none⟩ = some (.int .i64 st) := hS.nb.cell 3
            have nd4 : World.cell? wr ⟨b3, 4, none⟩ = some (.int .i64 pad) := hS.nb.cell 4
            have nd5 : World.cell? wr ⟨b3, 5, none⟩ = some (.int .i64 out) := hS.nb.cell 5
            have nd6 : World.cell? wr ⟨b3, 6, none⟩ = some (.int .i64 mul) := hS.nb.cell 6
            have nd7 : World.cell? wr ⟨b3, 7, none⟩ = some (.int .i64 sh) := hS.nb.cell 7
            have nd8 : World.cell? wr ⟨b3, 8, none⟩ = some (.int .i64 zero) := hS.nb.cell 8
            have nd9 : World.cell? wr ⟨b3, 9, none⟩ = some (.int .i64 th) := hS.nb.cell 9
            have nd10 : World.cell? wr ⟨b3, 10, none⟩ = some (.int .i64 tw) := hS.nb.cell 10
            have nd11 : World.cell? wr ⟨b3, 11, none⟩ = some (.int .i64 tc) := hS.nb.cell 11
            have nd12 : World.cell? wr ⟨b3, 12, none⟩ = some (wv) := hS.nb.cell 12
            have nd13 : World.cell? wr ⟨b3, 13, none⟩ = some (bv) := hS.nb.cell 13
            have hrb := hS.rb
            have hone : Array.all #[.int .i64 op, iv, .int .i64 k, .int .i64 st, .int .i64 pad, .int .i64 out, .int .i64 mul, .int .i64 sh, .int .i64 zero, .int .i64 th, .int .i64 tw, .int .i64 tc, wv, bv] (·.oneCell') = true := by
              obtain ⟨_, _, e1, _⟩ := row_of_own (hS.own.own ⟨3, 1, iv, ins.length, ins.map (.int .i64)⟩ (by simp))
              obtain ⟨_, _, e2, _⟩ := row_of_own (hS.own.own ⟨125, 1, wv, ws.length, ws.map (.int .i8)⟩ (by simp))
              obtain ⟨_, _, e3, _⟩ := row_of_own (hS.own.own ⟨21, 1, bv, bs.length, bs.map (.int .i32)⟩ (by simp))
              simp only at e1 e2 e3
              rw [e1, e2, e3]
              simp [Value.oneCell']
            have HO := Lib.hid hone
            have hg9 := setRow_grown wr w.heap.size #[.int .i64 op, iv, .int .i64 k, .int .i64 st, .int .i64 pad, .int .i64 out, .int .i64 mul, .int .i64 sh, .int .i64 zero, .int .i64 th, .int .i64 tw, .int .i64 tc, wv, bv]
            have hown : OwnAll (wr.setRow w.heap.size #[.int .i64 op, iv, .int .i64 k, .int .i64 st, .int .i64 pad, .int .i64 out, .int .i64 mul, .int .i64 sh, .int .i64 zero, .int .i64 th, .int .i64 tw, .int .i64 tc, wv, bv]) w.heap.size (rowsN ⟨op, iv, k, st, pad, out, mul, sh, zero, th, tw, tc, wv, bv, ins, ws, bs⟩) := ((hS.own.grown hg9 (by omega)).lower (by omega)).perm (by first | exact List.Perm.refl _ | exact List.reverse_perm _ | exact (List.reverse_perm _).symm)
            have hrd : R4 w0 (wr.setRow w.heap.size #[.int .i64 op, iv, .int .i64 k, .int .i64 st, .int .i64 pad, .int .i64 out, .int .i64 mul, .int .i64 sh, .int .i64 zero, .int .i64 th, .int .i64 tw, .int .i64 tc, wv, bv]) ys B r15 := hS.rd.grown hg9 (fun k hk => by cases hk; have := hS.rd.hB; omega)
            have hgr : w.grownBy (wr.setRow w.heap.size #[.int .i64 op, iv, .int .i64 k, .int .i64 st, .int .i64 pad, .int .i64 out, .int .i64 mul, .int .i64 sh, .int .i64 zero, .int .i64 th, .int .i64 tw, .int .i64 tc, wv, bv]) (some B) := by
              refine Fr.toGrown (lo := w.heap.size) ?_ (Nat.le_refl _)
              exact ((Fr.ext HE1.out).trans (F.less (by omega))).trans (Fr.grown hg9 (fun k hk => .inr (by cases hk; omega)))
            have HV := Lib.hid (show NdFit ⟨op, iv, k, st, pad, out, mul, sh, zero, th, tw, tc, wv, bv, ins, ws, bs⟩ from ⟨HIL.out, HLwv.out, HLbv.out, HAwv.out, HAbv.out⟩)
            have HX := Lib.hid hown
            clear hone hown hS F hg9
            go_wp2_with (refine wpList_store_row rfl 40 _ _ rfl w.heap.size #[.int .i64 op, iv, .int .i64 k, .int .i64 st, .int .i64 pad, .int .i64 out, .int .i64 mul, .int .i64 sh, .int .i64 zero, .int .i64 th, .int .i64 tw, .int .i64 tc, wv, bv] rfl rfl 40 _ hrb (by kernel_rfl) rfl HO.out ?_)
            refine bodyPost_ret (v := .agg _) (results_cell_row Try.results62 _ _ w.heap.size 40 _ (0, 0) _ rfl (setRow_heap _ _ _ _ _ _ hrb) (by kernel_rfl : Try.prog.underlying 40 = some (.struct (Try.prog.fieldsOf 40))) rfl (by kernel_rfl)) rfl ?_
            exact HP.out _ _ ⟨⟨op, iv, k, st, pad, out, mul, sh, zero, th, tw, tc, wv, bv, ins, ws, bs⟩, rfl, by rw [HN.out]; rfl, by rw [HN.out]; exact hrd, hgr, HX.out, HV.out⟩
          | false =>
            rw [hb] at hbad
            have HM2 := Lib.hid (many_more HMM.out hlt hb)
            have c1 : ∀ W', Keeps [b3] wr W' → W'.cell? ⟨b3, 13, none⟩ = some v := fun W' hW => (hW.cell (by simp)).trans (hS.nb.cell 13)
            have hD := hS.ext (Ext.drew wr)
            have F0 := F.trans (Fr.ext (lo := b3) (B := B) (Ext.drew wr))
            have K0 : Keeps [b3] wr wr.drew := Keeps.drew _ _
            have hrd := signed_calls w0 wr.drew ys B 4 r' hD.rd (by omega)
            unfold P4 at hrd
            have hzr := (q32_all hD.rd.sub).1
            clear hS F HMM
            go_upto_region 21 with fail
            clear hbad
            refine wp_region_Z (Keeps [b3] wr) 8 [(0, true), (1, true), (2, true), (3, false), (4, true), (5, false), (6, false), (7, true), (8, false)] (by kernel_rfl) (by kernel_rfl) (fun _ _ d _ _ h => by cases d <;> exact h) K0 ?_
            simp only [pickE, List.getElem?_cons_zero, List.getElem?_cons_succ]
            repeat (refine wpZ_pure (by rfl) (fun W hW => by go_simp; with_reducible rfl) ?_; simp only [Act.put, List.setIfInBounds_toArray, List.set_cons_zero, List.set_cons_succ])
            generalize wr.drew = y0 at *
            refine wpZ_step (by rfl) (fun K hK => ?_)
            go_simp
            refine hrd.mono ?_
            rintro e y1 ⟨rfl, hr1, hg1⟩
            have h1 := hD.read hr1 hg1
            have K1 := K0.trans (hD.keeps hg1)
            have F1 := F0.trans (Fr.grown (lo := b3) (B := B) hg1 (fun k hk => .inl (by cases hk; rfl)))
            refine hK _ _ K1 ?_
            clear hK K hrd hr1 hg1 hD K0 F0
            generalize (qS 4 r').1 = z at *
            generalize (qS 4 r').2 = r2 at *
            have hwr : IntKind.i32.wrap z = z := IntWalk.i32_in z (by simp only [InK] at hzr; omega)
            clear hzr
            try simp only [Act.put, List.setIfInBounds_toArray, List.set_cons_zero, List.set_cons_succ]
            repeat (refine wpZ_pure (by rfl) (fun W hW => by go_simp; with_reducible rfl) ?_; simp only [Act.put, List.setIfInBounds_toArray, List.set_cons_zero, List.set_cons_succ])
            have hE2 := ext_alloc y1 (.cells #[Value.int .i32 z] 21)
            have hnew := row_new y1 #[Value.int .i32 z] 21 1 1 rfl (by decide)
            have h2 := h1.ext hE2
            have K2 := K1.trans (h1.keepsE hE2)
            have F2 := F1.trans (Fr.ext (lo := b3) (B := B) hE2)
            refine wpZ_step (by rfl) (fun K hK => ?_)
            go_simp
            refine hK _ _ K2 ?_
            clear hK K h1 K1 F1 hE2
            generalize y1.alloc _ = y2 at *
            try simp only [Act.put, List.setIfInBounds_toArray, List.set_cons_zero, List.set_cons_succ]
            repeat (refine wpZ_pure (by rfl) (fun W hW => by go_simp; with_reducible rfl) ?_; simp only [Act.put, List.setIfInBounds_toArray, List.set_cons_zero, List.set_cons_succ])
            have hown := h2.own.own _ (List.mem_cons_self ..)
            have hbase : b3 + 1 ≤ y2.heap.size := h2.nb.lt
            have hk1 : k9 + 1 ≤ 140737488355328 := by omega
            have hk2 : (k9 + 1) * 4 ≤ 140737488355328 := by omega
            have hone : ∀ u ∈ #[Value.int .i32 z].toList, u.oneCell' = true := by intro u hu; simp at hu; subst hu; rfl
            refine wpZ_step (by rfl) (fun K hK => ?_)
            refine wp_append_row rfl elem_i32 hown rfl hnew rfl hone hk1 hk2 hbase (fun v' y3 ho hgr hnr => ?_)
            have K3 := K2.trans (h2.keepsR hgr)
            refine hK _ _ K3 ?_
            clear hK K
            obtain ⟨p1, p2, p3, p4, p5⟩ := h2.push ho hgr hnr 13
            have p5' : World.cell? y3 ⟨b3, 13, none⟩ = some v := p5
            obtain ⟨A, c, ev, _⟩ := row_of_own ho
            clear ho hgr hnr hnew hown K2 h2 p5
            have F3 := F2.trans p2
            clear p2 F2
            try simp only [Act.put, List.setIfInBounds_toArray, List.set_cons_zero, List.set_cons_succ]
            repeat (refine wpZ_pure (by rfl) (fun W hW => by go_simp; with_reducible rfl) ?_; simp only [Act.put, List.setIfInBounds_toArray, List.set_cons_zero, List.set_cons_succ])
            have EV := Lib.hid ev
            subst ev
            refine wpZ_last (by rfl) (fun K hK => ?_)
            go_simp
            refine hK _ _ ?_
            clear hK K
            try simp only [Act.put, List.setIfInBounds_toArray, List.set_cons_zero, List.set_cons_succ]
            clear p3 p4 p5'
            have hSn : C4 w0 (World.setCell y3 ⟨b3, 13, none⟩ (.slice A (k9 + 1) c)) ys B w.heap.size b3 r2 #[.int .i64 0, .slice none 0 0, .int .i64 0, .int .i64 0, .int .i64 0, .int .i64 0, .int .i64 0, .int .i64 0, .int .i64 0, .int .i64 0, .int .i64 0, .int .i64 0, .slice none 0 0, .slice none 0 0] #[.int .i64 op, iv, .int .i64 k, .int .i64 st, .int .i64 pad, .int .i64 out, .int .i64 mul, .int .i64 sh, .int .i64 zero, .int .i64 th, .int .i64 tw, .int .i64 tc, wv, (.slice A (k9 + 1) c)] 40 [⟨21, 1, (.slice A (k9 + 1) c), (k9 + 1), (zs ++ [z]).map (.int .i32)⟩, ⟨125, 1, wv, ws.length, ws.map (.int .i8)⟩, ⟨3, 1, iv, ins.length, ins.map (.int .i64)⟩] := by
              rw [List.map_append]
              simpa using p1
            clear p1
            generalize World.setCell y3 _ _ = y4 at *
            go_wp2_with fail
            go_roundw
            case rel => exact ⟨_, k9 + 1, zs ++ [z], r2, by omega, by go_num, hSn, by simp [hzl], F3, HM2.out⟩
            case measure => simp [intOf]; omega
        · obtain ⟨hz9, hr9⟩ := many_stop HMM.out (.inl (by omega)) HM.out
          replace hz9 := hz9.symm
          replace hr9 := hr9.symm
          subst hz9 hr9
          go_upto_region 22 with fail
          clear hbad
          have HLbv := Lib.hid (show bs.length ≤ 255 by have h9 := HW.out; (try simp only at h9); omega)
          have HAbv := Lib.hid HQ.out
          have hlen9 : k9 = bs.length := hzl.symm
          subst hlen9
          clear HM HMM HQ HW hzl hk hlt
          obtain ⟨bv, hv9⟩ : ∃ u, u = v := ⟨_, rfl⟩
          subst hv9
          try simp only at HLbv HAbv
          have nd0 : World.cell? wr ⟨b3, 0, none⟩ = some (.int .i64 op) := hS.nb.cell 0
          have nd1 : World.cell? wr ⟨b3, 1, none⟩ = some (iv) := hS.nb.cell 1
          have nd2 : World.cell? wr ⟨b3, 2, none⟩ = some (.int .i64 k) := hS.nb.cell 2
          have nd3 : World.cell? wr ⟨b3, 3, none⟩ = some (.int .i64 st) := hS.nb.cell 3
          have nd4 : World.cell? wr ⟨b3, 4, none⟩ = some (.int .i64 pad) := hS.nb.cell 4
          have nd5 : World.cell? wr ⟨b3, 5, none⟩ = some (.int .i64 out) := hS.nb.cell 5
          have nd6 : World.cell? wr ⟨b3, 6, none⟩ = some (.int .i64 mul) := hS.nb.cell 6
          have nd7 : World.cell? wr ⟨b3, 7, none⟩ = some (.int .i64 sh) := hS.nb.cell 7
          have nd8 : World.cell? wr ⟨b3, 8, none⟩ = some (.int .i64 zero) := hS.nb.cell 8
          have nd9 : World.cell? wr ⟨b3, 9, none⟩ = some (.int .i64 th) := hS.nb.cell 9
          have nd10 : World.cell? wr ⟨b3, 10, none⟩ = some (.int .i64 tw) := hS.nb.cell 10
          have nd11 : World.cell? wr ⟨b3, 11, none⟩ = some (.int .i64 tc) := hS.nb.cell 11
          have nd12 : World.cell? wr ⟨b3, 12, none⟩ = some (wv) := hS.nb.cell 12
          have nd13 : World.cell? wr ⟨b3, 13, none⟩ = some (bv) := hS.nb.cell 13
          have hrb := hS.rb
          have hone : Array.all #[.int .i64 op, iv, .int .i64 k, .int .i64 st, .int .i64 pad, .int .i64 out, .int .i64 mul, .int .i64 sh, .int .i64 zero, .int .i64 th, .int .i64 tw, .int .i64 tc, wv, bv] (·.oneCell') = true := by
            obtain ⟨_, _, e1, _⟩ := row_of_own (hS.own.own ⟨3, 1, iv, ins.length, ins.map (.int .i64)⟩ (by simp))
            obtain ⟨_, _, e2, _⟩ := row_of_own (hS.own.own ⟨125, 1, wv, ws.length, ws.map (.int .i8)⟩ (by simp))
            obtain ⟨_, _, e3, _⟩ := row_of_own (hS.own.own ⟨21, 1, bv, bs.length, bs.map (.int .i32)⟩ (by simp))
            simp only at e1 e2 e3
            rw [e1, e2, e3]
            simp [Value.oneCell']
          have HO := Lib.hid hone
          have hg9 := setRow_grown wr w.heap.size #[.int .i64 op, iv, .int .i64 k, .int .i64 st, .int .i64 pad, .int .i64 out, .int .i64 mul, .int .i64 sh, .int .i64 zero, .int .i64 th, .int .i64 tw, .int .i64 tc, wv, bv]
          have hown : OwnAll (wr.setRow w.heap.size #[.int .i64 op, iv, .int .i64 k, .int .i64 st, .int .i64 pad, .int .i64 out, .int .i64 mul, .int .i64 sh, .int .i64 zero, .int .i64 th, .int .i64 tw, .int .i64 tc, wv, bv]) w.heap.size (rowsN ⟨op, iv, k, st, pad, out, mul, sh, zero, th, tw, tc, wv, bv, ins, ws, bs⟩) := ((hS.own.grown hg9 (by omega)).lower (by omega)).perm (by first | exact List.Perm.refl _ | exact List.reverse_perm _ | exact (List.reverse_perm _).symm)
          have hrd : R4 w0 (wr.setRow w.heap.size #[.int .i64 op, iv, .int .i64 k, .int .i64 st, .int .i64 pad, .int .i64 out, .int .i64 mul, .int .i64 sh, .int .i64 zero, .int .i64 th, .int .i64 tw, .int .i64 tc, wv, bv]) ys B r15 := hS.rd.grown hg9 (fun k hk => by cases hk; have := hS.rd.hB; omega)
          have hgr : w.grownBy (wr.setRow w.heap.size #[.int .i64 op, iv, .int .i64 k, .int .i64 st, .int .i64 pad, .int .i64 out, .int .i64 mul, .int .i64 sh, .int .i64 zero, .int .i64 th, .int .i64 tw, .int .i64 tc, wv, bv]) (some B) := by
            refine Fr.toGrown (lo := w.heap.size) ?_ (Nat.le_refl _)
            exact ((Fr.ext HE1.out).trans (F.less (by omega))).trans (Fr.grown hg9 (fun k hk => .inr (by cases hk; omega)))
          have HV := Lib.hid (show NdFit ⟨op, iv, k, st, pad, out, mul, sh, zero, th, tw, tc, wv, bv, ins, ws, bs⟩ from ⟨HIL.out, HLwv.out, HLbv.out, HAwv.out, HAbv.out⟩)
          have HX := Lib.hid hown
          clear hone hown hS F hg9
          go_wp2_with (refine wpList_store_row rfl 40 _ _ rfl w.heap.size #[.int .i64 op, iv, .int .i64 k, .int .i64 st, .int .i64 pad, .int .i64 out, .int .i64 mul, .int .i64 sh, .int .i64 zero, .int .i64 th, .int .i64 tw, .int .i64 tc, wv, bv] rfl rfl 40 _ hrb (by kernel_rfl) rfl HO.out ?_)
          refine bodyPost_ret (v := .agg _) (results_cell_row Try.results62 _ _ w.heap.size 40 _ (0, 0) _ rfl (setRow_heap _ _ _ _ _ _ hrb) (by kernel_rfl : Try.prog.underlying 40 = some (.struct (Try.prog.fieldsOf 40))) rfl (by kernel_rfl)) rfl ?_
          exact HP.out _ _ ⟨⟨op, iv, k, st, pad, out, mul, sh, zero, th, tw, tc, wv, bv, ins, ws, bs⟩, rfl, by rw [HN.out]; rfl, by rw [HN.out]; exact hrd, hgr, HX.out, HV.out⟩

end Go.Proofs.Ytdhdbmfipkppiaa

namespace Go.Proofs.Ytdhdbmfipkppiaa
set_option linter.unusedSimpArgs false
set_option linter.unusedVariables false
set_option linter.unnecessarySimpa false
open Go.RowKit

theorem qGraph_eq {r0 r1 r2 r3 r4 r6 : Rd} {c1 c2 : Int} {ins : List Vl} {nodes : List Nc} {outs : List Int} (h1 : nNum 1 r0 = (c1, r1)) (h2 : many qVl c1.toNat r1 = (ins, r2)) (h3 : nNum 1 r2 = (c2, r3)) (h4 : many qNode c2.toNat r3 = (nodes, r4))
    (h5 : qNums r4 = (outs, r6)) : qGraph r0 = (⟨ins, nodes, outs⟩, r6) := by
  simp only [qGraph, pMany, Ps.bind, Ps.ret, h1, h2, h3, h4, h5]

set_option maxRecDepth 8000 in
set_option maxHeartbeats 12800000 in
theorem take4_calls (v : Value) (ys : List Int) (w : World) (hv : Ints .u8 w v ys) (hby : BytesL ys) (hlen : ys.length ≤ 100000) :
    Calls Try.prog 21 #[v] w (TakePost ys w) := by
  obtain ⟨⟨c1, r1⟩, h1⟩ : ∃ x, nNum 1 ⟨ys, false⟩ = x := ⟨_, rfl⟩
  obtain ⟨⟨ins, r2⟩, h2⟩ : ∃ x, many qVl c1.toNat r1 = x := ⟨_, rfl⟩
  obtain ⟨⟨c2, r3⟩, h3⟩ : ∃ x, nNum 1 r2 = x := ⟨_, rfl⟩
  obtain ⟨⟨nodes, r4⟩, h4⟩ : ∃ x, many qNode c2.toNat r3 = x := ⟨_, rfl⟩
  obtain ⟨⟨outs, r6⟩, h5⟩ : ∃ x, qNums r4 = x := ⟨_, rfl⟩
  have hpg := qGraph_eq h1 h2 h3 h4 h5
  have HT : Hid (taken ys = if r6.bad = false ∧ (⟨ins, nodes, outs⟩ : Gc).err = 0 ∧ encG ⟨ins, nodes, outs⟩ = ys.take (ys.length - r6.l.length) then some (⟨ins, nodes, outs⟩, ys.length - r6.l.length) else none) := by
    show _ = _
    rw [taken_q, hpg]
  clear hpg
  have HP : Hid (∀ e w', ((taken ys = none → e = .returned (.tuple #[.agg #[.slice none 0 0, .slice none 0 0, .slice none 0 0], .int .i64 0, .int .i64 2])) ∧
    (∀ c n, taken ys = some (c, n) → ∃ g : Gr, g.c = c ∧ e = .returned (.tuple #[.agg #[g.iV, g.nV, g.oV], .int .i64 n, .int .i64 0]) ∧ OwnG w.heap.size w' g) ∧ Ext w w') → TakePost ys w e w') := fun e w' h => h
  have HN : Hid (∀ e w', (r6.bad = true ∨ (⟨ins, nodes, outs⟩ : Gc).err ≠ 0 ∨ encG ⟨ins, nodes, outs⟩ ≠ ys.take (ys.length - r6.l.length)) → e = .returned (.tuple #[.agg #[.slice none 0 0, .slice none 0 0, .slice none 0 0], .int .i64 0, .int .i64 2]) → Ext w w' → TakePost ys w e w') := by
    intro e w' hc he hE
    have : taken ys = none := by
      rw [HT.out, if_neg]
      rintro ⟨k1, k2, k3⟩
      rcases hc with hc | hc | hc
      · rw [k1] at hc; cases hc
      · exact hc k2
      · exact hc k3
    exact HP.out e w' ⟨fun _ => he, (fun c n h => by rw [this] at h; cases h), hE⟩
  generalize TakePost ys w = PP at *
  have hE1 : Ext w (((w.alloc (.cells #[.slice none 0 0, .slice none 0 0, .slice none 0 0] 26)).alloc (.cells #[v, .int .i64 0, .bool false] 106)).alloc (.cells #[.slice none 0 0, .slice none 0 0, .slice none 0 0] 26)) := ((ext_alloc w _).trans (ext_alloc _ _)).trans (ext_alloc _ _)
  have hb0 : Blk (((w.alloc (.cells #[.slice none 0 0, .slice none 0 0, .slice none 0 0] 26)).alloc (.cells #[v, .int .i64 0, .bool false] 106)).alloc (.cells #[.slice none 0 0, .slice none 0 0, .slice none 0 0] 26)) w.heap.size #[.slice none 0 0, .slice none 0 0, .slice none 0 0] 26 := ((Blk.new w _ _).ext (ext_alloc _ _)).ext (ext_alloc _ _)
  have hbB : Blk (((w.alloc (.cells #[.slice none 0 0, .slice none 0 0, .slice none 0 0] 26)).alloc (.cells #[v, .int .i64 0, .bool false] 106)).alloc (.cells #[.slice none 0 0, .slice none 0 0, .slice none 0 0] 26)) (w.heap.size + 1) #[v, .int .i64 0, .bool false] 106 := by
    have := (Blk.new (w.alloc (.cells #[.slice none 0 0, .slice none 0 0, .slice none 0 0] 26)) #[v, .int .i64 0, .bool false] 106).ext (ext_alloc _ (.cells #[.slice none 0 0, .slice none 0 0, .slice none 0 0] 26))
    simpa using this
  have hbg : Blk (((w.alloc (.cells #[.slice none 0 0, .slice none 0 0, .slice none 0 0] 26)).alloc (.cells #[v, .int .i64 0, .bool false] 106)).alloc (.cells #[.slice none 0 0, .slice none 0 0, .slice none 0 0] 26)) (w.heap.size + 1 + 1) #[.slice none 0 0, .slice none 0 0, .slice none 0 0] 26 := by
    have := Blk.new ((w.alloc (.cells #[.slice none 0 0, .slice none 0 0, .slice none 0 0] 26)).alloc (.cells #[v, .int .i64 0, .bool false] 106)) #[.slice none 0 0, .slice none 0 0, .slice none 0 0] 26
    simpa using this
  have hS : C4 w (((w.alloc (.cells #[.slice none 0 0, .slice none 0 0, .slice none 0 0] 26)).alloc (.cells #[v, .int .i64 0, .bool false] 106)).alloc (.cells #[.slice none 0 0, .slice none 0 0, .slice none 0 0] 26)) ys (w.heap.size + 1) w.heap.size (w.heap.size + 1 + 1) ⟨ys, false⟩ #[.slice none 0 0, .slice none 0 0, .slice none 0 0] #[.slice none 0 0, .slice none 0 0, .slice none 0 0] 26 [⟨67, 4, .slice none 0 0, 0, []⟩, ⟨40, 14, .slice none 0 0, 0, []⟩] := by
    refine ⟨⟨⟨v, 0, hbB, hv, rfl, Nat.zero_le _⟩, hE1, by omega, hby, hlen⟩, hb0, hbg, ⟨fun x hx => ?_, ?_⟩, by omega⟩
    · simp only [List.mem_cons, List.not_mem_nil, or_false] at hx
      rcases hx with rfl | rfl <;> exact ⟨rfl, .inl ⟨rfl, rfl⟩⟩
    · refine List.pairwise_cons.2 ⟨fun x _ k hk => by simp [Value.ownBlock] at hk, List.pairwise_singleton _ _⟩
  have HE1 := Lib.hid hE1
  obtain ⟨A0, c0, rfl, hlc, hcm, _⟩ := id hv.form
  unfold maxLen at hcm
  clear hb0 hbB hbg hE1
  go_enter Try.func21, Try.ntmps21
  go_upto_region 3 with fail
  generalize World.alloc (World.alloc (World.alloc w _) _) _ = w1 at *
  have F : Fr (w.heap.size + 1 + 1) (w.heap.size + 1) w1 w1 := Fr.refl _ _ _
  obtain ⟨B, hB⟩ : ∃ B, w.heap.size + 1 = B := ⟨_, rfl⟩
  obtain ⟨b3, hb3⟩ : ∃ C, B + 1 = C := ⟨_, rfl⟩
  simp only [hB, hb3] at hS F
  simp only [hB, hb3]
  have hrg := nNum_range (n := 1) (r := ⟨ys, false⟩) hS.rd.sub
  have hct := num_calls w w1 ys B 1 ⟨ys, false⟩ hS.rd (by omega)
  unfold P4 at hct
  rw [h1] at hct hrg
  simp only at hct hrg
  obtain ⟨hx1, hx2⟩ := hrg
  obtain ⟨n1, rfl⟩ := Int.eq_ofNat_of_zero_le hx1
  rw [Int.toNat_natCast] at h2
  have hnn1 : n1 < 256 := by have : (n1 : Int) < 256 := hx2; omega
  clear hx1 hx2
  go_upto_region 4 with (go_at_call 59; refine hct.mono ?_; rintro e ya ⟨rfl, hr, hg⟩)
  have hS1 := hS.read hr hg
  have FF := F.trans (Fr.grown (lo := b3) (B := B) hg (fun k hk => .inl (by cases hk; rfl)))
  clear hct hr hg h1 hS F
  have F := FF
  have hS := hS1
  clear hS1 FF
  have HM := Lib.hid h2
  have HW := Lib.hid (many_len qVl n1 r1)
  rw [h2] at HW
  clear h2
  go_upto_region 5 with fail
  have HLI := Lib.hid (show ins.length ≤ 255 by have h9 := HW.out; (try simp only at h9); omega)
  clear HW
  refine cut_loop (fun a W => ∃ (v : Value), LitA a (fun f => ({ tmps := #[.slice A0 ys.length c0, f 1, .pointer (some ⟨w.heap.size, 0, none⟩), .int .i64 0, .int .i64 0, .pointer (some ⟨B, 0, none⟩), .pointer (some ⟨b3, 0, none⟩), f 7, f 8, f 9, f 10, f 11, f 12, f 13, f 14, f 15, f 16, f 17, f 18, f 19, f 20, f 21, f 22, f 23, f 24, f 25, f 26, f 27, f 28, f 29, f 30, f 31, f 32, f 33, f 34, f 35, f 36, f 37, f 38, f 39, f 40, f 41, f 42, f 43, f 44, f 45, f 46, f 47, f 48, f 49, f 50, f 51, f 52, f 53, f 54, f 55, f 56, f 57, f 58, f 59, f 60, f 61, f 62, f 63, f 64, f 65, f 66, f 67, f 68, f 69, f 70, f 71, f 72, f 73, f 74, f 75, f 76, f 77, f 78, f 79, f 80, f 81, f 82, f 83, f 84, f 85, f 86, f 87, f 88, f 89, f 90, f 91, f 92, f 93, f 94, f 95, f 96, f 97, f 98, f 99], defers := [] } : Act)) ∧ C4 w W ys B w.heap.size b3 r2 #[.slice none 0 0, .slice none 0 0, .slice none 0 0] #[v, .slice none 0 0, .slice none 0 0] 26 [⟨67, 4, v, ins.length, ins.flatMap Vl.cs⟩, ⟨40, 14, .slice none 0 0, 0, []⟩] ∧ Fr b3 B w1 W) (fun K hK => ?_) ?_
  rotate_left
  · rintro a wr ⟨iv, ⟨f, rfl⟩, hS, F⟩
    go_upto_region 10 with fail
    have hrg := nNum_range (n := 1) (r := r2) hS.rd.sub
    have hct := num_calls w wr ys B 1 r2 hS.rd (by omega)
    unfold P4 at hct
    rw [h3] at hct hrg
    simp only at hct hrg
    obtain ⟨hx1, hx2⟩ := hrg
    obtain ⟨n2, rfl⟩ := Int.eq_ofNat_of_zero_le hx1
    rw [Int.toNat_natCast] at h4
    have hnn2 : n2 < 256 := by have : (n2 : Int) < 256 := hx2; omega
    clear hx1 hx2
    go_upto_region 11 with (go_at_call 59; refine hct.mono ?_; rintro e yb ⟨rfl, hr, hg⟩)
    have hS1 := hS.read hr hg
    have FF := F.trans (Fr.grown (lo := b3) (B := B) hg (fun k hk => .inl (by cases hk; rfl)))
    clear hct hr hg h3 hS F
    have F := FF
    have hS := hS1.perm (List.Perm.swap _ _ _)
    clear hS1 FF
    have HM := Lib.hid h4
    have HW := Lib.hid (many_len qNode n2 r3)
    rw [h4] at HW
    clear h4
    go_upto_region 12 with fail
    have HLN := Lib.hid (show nodes.length ≤ 255 by have h9 := HW.out; (try simp only at h9); omega)
    clear HW
    refine cut_loop (fun a W => ∃ (v : Value) (ns : List Nd), LitA a (fun f => ({ tmps := #[.slice A0 ys.length c0, f 1, .pointer (some ⟨w.heap.size, 0, none⟩), .int .i64 0, .int .i64 0, .pointer (some ⟨B, 0, none⟩), .pointer (some ⟨b3, 0, none⟩), f 7, f 8, f 9, f 10, f 11, f 12, f 13, f 14, f 15, f 16, f 17, f 18, f 19, f 20, f 21, f 22, f 23, f 24, f 25, f 26, f 27, f 28, f 29, f 30, f 31, f 32, f 33, f 34, f 35, f 36, f 37, f 38, f 39, f 40, f 41, f 42, f 43, f 44, f 45, f 46, f 47, f 48, f 49, f 50, f 51, f 52, f 53, f 54, f 55, f 56, f 57, f 58, f 59, f 60, f 61, f 62, f 63, f 64, f 65, f 66, f 67, f 68, f 69, f 70, f 71, f 72, f 73, f 74, f 75, f 76, f 77, f 78, f 79, f 80, f 81, f 82, f 83, f 84, f 85, f 86, f 87, f 88, f 89, f 90, f 91, f 92, f 93, f 94, f 95, f 96, f 97, f 98, f 99], defers := [] } : Act)) ∧ C4 w W ys B w.heap.size b3 r4 #[.slice none 0 0, .slice none 0 0, .slice none 0 0] #[iv, v, .slice none 0 0] 26 (⟨40, 14, v, ns.length, ns.flatMap Nd.cs⟩ :: (⟨67, 4, iv, ins.length, ins.flatMap Vl.cs⟩ :: ns.flatMap rowsN)) ∧ (∀ n ∈ ns, NdFit n) ∧ ns.map Nd.c = nodes ∧ Fr b3 B w1 W) (fun K hK => ?_) ?_
    rotate_left
    · rintro a W ⟨nv, ns, ⟨f, rfl⟩, hS, hfit, hns, F⟩
      have HFIT := Lib.hid hfit
      clear hfit
      go_upto_region 15 with fail
      have hnl' : ns.length ≤ 255 := by
        have h9 := HLN.out
        rw [← hns, List.length_map] at h9
        exact h9
      have hct := nums_calls w W ys B r4 hS.rd
      unfold NumsPost at hct
      rw [h5] at hct
      go_wp2_with fail
      refine hct.mono ?_
      rintro e w4 ⟨ov, rfl, hown, hr, hg, hol⟩
      have hS1 := (hS.join (hS.read hr hg) (one_own (x := ⟨3, 1, ov, outs.length, outs.map (.int .i64)⟩) hown)).perm (show List.Perm ((⟨40, 14, nv, ns.length, ns.flatMap Nd.cs⟩ :: (⟨67, 4, iv, ins.length, ins.flatMap Vl.cs⟩ :: ns.flatMap rowsN)) ++ [⟨3, 1, ov, outs.length, outs.map (.int .i64)⟩] : List RowF) ([⟨3, 1, ov, outs.length, outs.map (.int .i64)⟩] ++ (⟨40, 14, nv, ns.length, ns.flatMap Nd.cs⟩ :: ⟨67, 4, iv, ins.length, ins.flatMap Vl.cs⟩ :: ns.flatMap rowsN)) from List.perm_append_comm)
      have FF := F.trans (Fr.grown (lo := b3) (B := B) hg (fun k hk => .inl (by cases hk; rfl)))
      obtain ⟨Ao, co, eo, _⟩ := row_of_own hown
      clear hct hr hg h5 hS F hown
      have hlt2 := hS1.nb.lt
      have hfr2 := hS1.nb.frozen 2
      have hcl2 : World.cell? w4 ⟨b3, 2, none⟩ = some (.slice none 0 0) := hS1.nb.cell 2
      obtain ⟨hS2, f2⟩ := hS1.store 2 ov
      have F := FF.trans f2
      clear FF hS1 f2
      have EO := Lib.hid eo
      rw [eo]
      rw [eo] at hS2 F
      go_upto_region 16 with fail
      clear hlt2 hfr2 hcl2
      generalize World.setCell w4 _ _ = w5 at *
      rw [← eo] at hS2
      have hS : C4 w w5 ys B w.heap.size b3 r6 #[.slice none 0 0, .slice none 0 0, .slice none 0 0] #[iv, nv, ov] 26 (⟨3, 1, ov, outs.length, outs.map (.int .i64)⟩ :: (⟨40, 14, nv, ns.length, ns.flatMap Nd.cs⟩ :: ⟨67, 4, iv, ins.length, ins.flatMap Vl.cs⟩ :: ns.flatMap rowsN)) := by simpa using hS2
      clear hS2 eo EO
      have hfit := HFIT.out
      have hil' := HLI.out
      have hgr : ∀ W, OwnAll W (b3 + 1) (⟨3, 1, ov, outs.length, outs.map (.int .i64)⟩ :: (⟨40, 14, nv, ns.length, ns.flatMap Nd.cs⟩ :: ⟨67, 4, iv, ins.length, ins.flatMap Vl.cs⟩ :: ns.flatMap rowsN)) → OwnG w.heap.size W ⟨iv, nv, ov, ins, ns, outs⟩ :=
        fun W hW => ⟨hW.lower (by omega), hfit, hil', hnl', hol⟩
      have hg4 := (hgr w5 hS.own).at
      have hgc : (⟨iv, nv, ov, ins, ns, outs⟩ : Gr).c = ⟨ins, nodes, outs⟩ := by
        show (⟨ins, ns.map Nd.c, outs⟩ : Gc) = _
        rw [hns]
      obtain ⟨⟨bv, a, hbl, hbv, hrl, ha⟩, _, _, _, _⟩ := hS.rd
      have hma : ys.length - r6.l.length = a := by rw [hrl, List.length_drop]; omega
      rw [hma] at HN HT
      have d0 : World.cell? w5 ⟨b3, 0, none⟩ = some iv := hS.nb.cell 0
      have d1 : World.cell? w5 ⟨b3, 1, none⟩ = some nv := hS.nb.cell 1
      have d2 : World.cell? w5 ⟨b3, 2, none⟩ = some ov := hS.nb.cell 2
      have hE5 : Ext w w5 := by
        have k := HE1.out
        exact ⟨F.os.trans k.os, F.tape.trans k.tape, F.output.trans k.output, Nat.le_trans k.size F.size, fun x hx => (F.block x (by omega) (Nat.lt_of_lt_of_le hx k.size) (by omega)).trans (k.block x hx)⟩
      have hput := put04_calls ⟨iv, nv, ov, ins, ns, outs⟩ w5 hg4
      unfold PutPost at hput
      rw [← err_eq, hgc] at hput
      have hrb := hS.rb
      have hnb := hS.nb
      have hown := hS.own
      have HE := Lib.hid hgc
      have HGR := Lib.hid hgr
      have HO := Lib.hid (hgr w5 hS.own).one
      clear F hS hgr hgc hfit hil' hnl' hol hns hrl hma
      generalize (⟨ins, nodes, outs⟩ : Gc).err = z at *
      go_wp2_with fail
      refine hput.mono ?_
      rintro e w6 ⟨hz0, hz1, h6⟩
      clear hput d0 d1 d2
      have HEX := Lib.hid (hE5.trans h6)
      have hbl6 := hbl.ext h6
      have hrb6 := hrb.ext h6
      have hnb6 := hnb.ext h6
      have hown6 := hown.ext h6
      have hv6 := hv.ext HEX.out
      clear hbl hrb hnb hown hE5 h6 hbv hg4
      by_cases hz : z = 0
      case neg =>
        have e1 := hz1 hz
        subst e1
        have t9 : (z != 0) = true := by simp [hz]
        clear hz0 hz1
        cases hbad : r6.bad with
        | true =>
          go_upto_region 17 with fail
          refine wp_region_X [0, 1, 2, 3, 4, 5, 6, 7, 8, 9, 10, 11, 12, 13, 14, 15, 16, 17, 18, 19] [] (by kernel_rfl) (by kernel_rfl) (fun _ _ d _ _ h => by cases d <;> exact h) (fun w7 hE7 => ?_)
          have c0 : ∀ W, Ext w7 W → W.cell? ⟨B, 2, none⟩ = some (.bool true) := fun W e => by rw [← hbad]; exact ((hbl6.ext hE7).ext e).cell 2
          repeat (first | (refine wpP_pure rfl (by rfl) (fun W hW => by go_simp; with_reducible rfl) ?_; simp only [Act.put, List.setIfInBounds_toArray, List.set_cons_zero, List.set_cons_succ]) | (refine wpP_skip rfl (by rfl) ?_; simp only [Act.put, List.setIfInBounds_toArray, List.set_cons_zero, List.set_cons_succ]))
          refine ⟨trivial, fun W8 hR => ?_⟩
          simp only [rFin, envAt, TP.top, TP.mine, MP.top, MP.mine, MT.mine, MT.tied, MT.done, MT.is, List.map_cons, List.map_nil, true_implies, List.head?_cons, ME.is, MP.is, MP.done, ME.ints, ME.row, phi, dstAt, List.getElem?_cons_zero, List.getElem?_cons_succ, Option.bind_some, Act.put, List.setIfInBounds_toArray, List.set_cons_zero, List.set_cons_succ, and_true, forall_eq, reduceIte, Nat.reduceEqDiff, beq_iff_eq, Option.some.injEq, Bool.false_eq_true, reduceCtorEq, implies_true, true_and]
          have hE8 := HEX.out.trans (hE7.trans hR)
          have hz8 := (hrb6.ext hE7).ext hR
          have hx := ext_setRow hE8 #[.slice none 0 0, .slice none 0 0, .slice none 0 0] (Nat.le_refl _)
          go_wp2_with (refine wpList_store_row rfl 26 _ _ rfl w.heap.size #[.slice none 0 0, .slice none 0 0, .slice none 0 0] rfl rfl 26 _ hz8 (by kernel_rfl) rfl (by simp [Value.oneCell']) ?_)
          refine bodyPost_ret (v := .tuple #[.agg _, .int .i64 0, .int .i64 2]) (results_cell_tmp2 Try.results21 _ _ w.heap.size 26 _ (0, 0) _ rfl (setRow_heap _ _ _ _ _ _ hz8) (by kernel_rfl : Try.prog.underlying 26 = some (.struct (Try.prog.fieldsOf 26))) rfl (by kernel_rfl)) rfl ?_
          exact HN.out _ _ (.inl hbad) rfl hx

        | false =>
          go_upto_region 17 with fail
          refine wp_region_X [0, 1, 2, 3, 4, 5, 6, 7, 8, 9, 10, 11, 12, 13, 14, 15, 16, 17, 18, 19] [] (by kernel_rfl) (by kernel_rfl) (fun _ _ d _ _ h => by cases d <;> exact h) (fun w7 hE7 => ?_)
          have c0 : ∀ W, Ext w7 W → W.cell? ⟨B, 2, none⟩ = some (.bool false) := fun W e => by rw [← hbad]; exact ((hbl6.ext hE7).ext e).cell 2
          repeat (first | (refine wpP_pure rfl (by rfl) (fun W hW => by go_simp; with_reducible rfl) ?_; simp only [Act.put, List.setIfInBounds_toArray, List.set_cons_zero, List.set_cons_succ]) | (refine wpP_skip rfl (by rfl) ?_; simp only [Act.put, List.setIfInBounds_toArray, List.set_cons_zero, List.set_cons_succ]))
          refine ⟨trivial, fun W8 hR => ?_⟩
          simp only [rFin, envAt, TP.top, TP.mine, MP.top, MP.mine, MT.mine, MT.tied, MT.done, MT.is, List.map_cons, List.map_nil, true_implies, List.head?_cons, ME.is, MP.is, MP.done, ME.ints, ME.row, phi, dstAt, List.getElem?_cons_zero, List.getElem?_cons_succ, Option.bind_some, Act.put, List.setIfInBounds_toArray, List.set_cons_zero, List.set_cons_succ, and_true, forall_eq, reduceIte, Nat.reduceEqDiff, beq_iff_eq, Option.some.injEq, Bool.false_eq_true, reduceCtorEq, implies_true, true_and]
          have hE8 := HEX.out.trans (hE7.trans hR)
          have hz8 := (hrb6.ext hE7).ext hR
          have hx := ext_setRow hE8 #[.slice none 0 0, .slice none 0 0, .slice none 0 0] (Nat.le_refl _)
          go_wp2_with (refine wpList_store_row rfl 26 _ _ rfl w.heap.size #[.slice none 0 0, .slice none 0 0, .slice none 0 0] rfl rfl 26 _ hz8 (by kernel_rfl) rfl (by simp [Value.oneCell']) ?_)
          refine bodyPost_ret (v := .tuple #[.agg _, .int .i64 0, .int .i64 2]) (results_cell_tmp2 Try.results21 _ _ w.heap.size 26 _ (0, 0) _ rfl (setRow_heap _ _ _ _ _ _ hz8) (by kernel_rfl : Try.prog.underlying 26 = some (.struct (Try.prog.fieldsOf 26))) rfl (by kernel_rfl)) rfl ?_
          exact HN.out _ _ (.inr (.inl hz)) rfl hx

      case pos =>
        obtain ⟨pv, rfl, hop⟩ := hz0 hz
        clear hz0 hz1
        have t9 : (z != 0) = false := by simp [hz]
        cases hbad : r6.bad with
        | true =>
          go_upto_region 17 with fail
          refine wp_region_X [0, 1, 2, 3, 4, 5, 6, 7, 8, 9, 10, 11, 12, 13, 14, 15, 16, 17, 18, 19] [] (by kernel_rfl) (by kernel_rfl) (fun _ _ d _ _ h => by cases d <;> exact h) (fun w7 hE7 => ?_)
          have c0 : ∀ W, Ext w7 W → W.cell? ⟨B, 2, none⟩ = some (.bool true) := fun W e => by rw [← hbad]; exact ((hbl6.ext hE7).ext e).cell 2
          repeat (first | (refine wpP_pure rfl (by rfl) (fun W hW => by go_simp; with_reducible rfl) ?_; simp only [Act.put, List.setIfInBounds_toArray, List.set_cons_zero, List.set_cons_succ]) | (refine wpP_skip rfl (by rfl) ?_; simp only [Act.put, List.setIfInBounds_toArray, List.set_cons_zero, List.set_cons_succ]))
          refine ⟨trivial, fun W8 hR => ?_⟩
          simp only [rFin, envAt, TP.top, TP.mine, MP.top, MP.mine, MT.mine, MT.tied, MT.done, MT.is, List.map_cons, List.map_nil, true_implies, List.head?_cons, ME.is, MP.is, MP.done, ME.ints, ME.row, phi, dstAt, List.getElem?_cons_zero, List.getElem?_cons_succ, Option.bind_some, Act.put, List.setIfInBounds_toArray, List.set_cons_zero, List.set_cons_succ, and_true, forall_eq, reduceIte, Nat.reduceEqDiff, beq_iff_eq, Option.some.injEq, Bool.false_eq_true, reduceCtorEq, implies_true, true_and]
          have hE8 := HEX.out.trans (hE7.trans hR)
          have hz8 := (hrb6.ext hE7).ext hR
          have hx := ext_setRow hE8 #[.slice none 0 0, .slice none 0 0, .slice none 0 0] (Nat.le_refl _)
          go_wp2_with (refine wpList_store_row rfl 26 _ _ rfl w.heap.size #[.slice none 0 0, .slice none 0 0, .slice none 0 0] rfl rfl 26 _ hz8 (by kernel_rfl) rfl (by simp [Value.oneCell']) ?_)
          refine bodyPost_ret (v := .tuple #[.agg _, .int .i64 0, .int .i64 2]) (results_cell_tmp2 Try.results21 _ _ w.heap.size 26 _ (0, 0) _ rfl (setRow_heap _ _ _ _ _ _ hz8) (by kernel_rfl : Try.prog.underlying 26 = some (.struct (Try.prog.fieldsOf 26))) rfl (by kernel_rfl)) rfl ?_
          exact HN.out _ _ (.inl hbad) rfl hx

        | false =>
          have hsl := Ints.first hv6 ha
          have hcv := strEq (encG_bytes ⟨ins, nodes, outs⟩) (fun z hz => hby z (List.mem_of_mem_take hz)) (ys := ys.take a)
          have q1 := conv_ext (P := Try.prog) hop.ints (src := 29) (e := 5) (dst := 9) Try.underlying29 Try.underlying5 Try.underlying9
          have q2 := conv_ext (P := Try.prog) hsl (src := 29) (e := 5) (dst := 9) Try.underlying29 Try.underlying5 Try.underlying9
          have hac : a ≤ c0 := by omega
          clear hop hsl
          by_cases hq : encG ⟨ins, nodes, outs⟩ = ys.take a
          case neg =>
            rw [decide_eq_false hq] at hcv
            go_upto_region 17 with fail
            refine wp_region_X [0, 1, 2, 3, 4, 5, 6, 7, 8, 9, 10, 11, 12, 13, 14, 15, 16, 17, 18, 19] [] (by kernel_rfl) (by kernel_rfl) (fun _ _ d _ _ h => by cases d <;> exact h) (fun w7 hE7 => ?_)
            have c0 : ∀ W, Ext w7 W → W.cell? ⟨B, 2, none⟩ = some (.bool false) := fun W e => by rw [← hbad]; exact ((hbl6.ext hE7).ext e).cell 2
            have c1 : ∀ W, Ext w7 W → W.cell? ⟨B, 1, none⟩ = some (.int .i64 a) := fun W e => ((hbl6.ext hE7).ext e).cell 1
            have q1' := fun (W : World) (e : Ext w7 W) => q1 W (hE7.trans e)
            have q2' := fun (W : World) (e : Ext w7 W) => q2 W (hE7.trans e)
            clear q1 q2
            repeat (first | (refine wpP_pure rfl (by rfl) (fun W hW => by go_simp; with_reducible rfl) ?_; simp only [Act.put, List.setIfInBounds_toArray, List.set_cons_zero, List.set_cons_succ]) | (refine wpP_skip rfl (by rfl) ?_; simp only [Act.put, List.setIfInBounds_toArray, List.set_cons_zero, List.set_cons_succ]))
            refine ⟨trivial, fun W8 hR => ?_⟩
            simp only [rFin, envAt, TP.top, TP.mine, MP.top, MP.mine, MT.mine, MT.tied, MT.done, MT.is, List.map_cons, List.map_nil, true_implies, List.head?_cons, ME.is, MP.is, MP.done, ME.ints, ME.row, phi, dstAt, List.getElem?_cons_zero, List.getElem?_cons_succ, Option.bind_some, Act.put, List.setIfInBounds_toArray, List.set_cons_zero, List.set_cons_succ, and_true, forall_eq, reduceIte, Nat.reduceEqDiff, beq_iff_eq, Option.some.injEq, Bool.false_eq_true, reduceCtorEq, implies_true, true_and]
            have hE8 := HEX.out.trans (hE7.trans hR)
            have hz8 := (hrb6.ext hE7).ext hR
            clear q1' q2' hcv c0 c1
            have hx := ext_setRow hE8 #[.slice none 0 0, .slice none 0 0, .slice none 0 0] (Nat.le_refl _)
            go_wp2_with (refine wpList_store_row rfl 26 _ _ rfl w.heap.size #[.slice none 0 0, .slice none 0 0, .slice none 0 0] rfl rfl 26 _ hz8 (by kernel_rfl) rfl (by simp [Value.oneCell']) ?_)
            refine bodyPost_ret (v := .tuple #[.agg _, .int .i64 0, .int .i64 2]) (results_cell_tmp2 Try.results21 _ _ w.heap.size 26 _ (0, 0) _ rfl (setRow_heap _ _ _ _ _ _ hz8) (by kernel_rfl : Try.prog.underlying 26 = some (.struct (Try.prog.fieldsOf 26))) rfl (by kernel_rfl)) rfl ?_
            exact HN.out _ _ (.inr (.inr hq)) rfl hx

          case pos =>
            rw [decide_eq_true hq] at hcv
            go_upto_region 17 with fail
            refine wp_region_X [0, 1, 2, 3, 4, 5, 6, 7, 8, 9, 10, 11, 12, 13, 14, 15, 16, 17, 18, 19] [] (by kernel_rfl) (by kernel_rfl) (fun _ _ d _ _ h => by cases d <;> exact h) (fun w7 hE7 => ?_)
            have c0 : ∀ W, Ext w7 W → W.cell? ⟨B, 2, none⟩ = some (.bool false) := fun W e => by rw [← hbad]; exact ((hbl6.ext hE7).ext e).cell 2
            have c1 : ∀ W, Ext w7 W → W.cell? ⟨B, 1, none⟩ = some (.int .i64 a) := fun W e => ((hbl6.ext hE7).ext e).cell 1
            have q1' := fun (W : World) (e : Ext w7 W) => q1 W (hE7.trans e)
            have q2' := fun (W : World) (e : Ext w7 W) => q2 W (hE7.trans e)
            clear q1 q2
            repeat (first | (refine wpP_pure rfl (by rfl) (fun W hW => by go_simp; with_reducible rfl) ?_; simp only [Act.put, List.setIfInBounds_toArray, List.set_cons_zero, List.set_cons_succ]) | (refine wpP_skip rfl (by rfl) ?_; simp only [Act.put, List.setIfInBounds_toArray, List.set_cons_zero, List.set_cons_succ]))
            refine ⟨trivial, fun W8 hR => ?_⟩
            simp only [rFin, envAt, TP.top, TP.mine, MP.top, MP.mine, MT.mine, MT.tied, MT.done, MT.is, List.map_cons, List.map_nil, true_implies, List.head?_cons, ME.is, MP.is, MP.done, ME.ints, ME.row, phi, dstAt, List.getElem?_cons_zero, List.getElem?_cons_succ, Option.bind_some, Act.put, List.setIfInBounds_toArray, List.set_cons_zero, List.set_cons_succ, and_true, forall_eq, reduceIte, Nat.reduceEqDiff, beq_iff_eq, Option.some.injEq, Bool.false_eq_true, reduceCtorEq, implies_true, true_and]
            have hE8 := HEX.out.trans (hE7.trans hR)
            have hz8 := (hrb6.ext hE7).ext hR
            have hnb8 := (hnb6.ext hE7).ext hR
            have hbl8 := (hbl6.ext hE7).ext hR
            have hown8 := (hown6.ext hE7).ext hR
            have hltB := hbl8.lt
            have hlt3 := hnb8.lt
            clear q1' q2' hcv c0 c1 hnb6 hbl6 hown6 hrb6 hE7 hR hv6
            have hPX : ∀ e w', e = .returned (.tuple #[.agg #[iv, nv, ov], .int .i64 a, .int .i64 0]) → OwnG w.heap.size w' ⟨iv, nv, ov, ins, ns, outs⟩ → Ext w w' → PP e w' := by
              intro e w' he hg hE
              have ht : taken ys = some (⟨ins, nodes, outs⟩, a) := by rw [HT.out, if_pos ⟨hbad, hz, hq⟩]
              refine HP.out e w' ⟨fun h => (by rw [ht] at h; cases h), fun c n h => ?_, hE⟩
              rw [ht] at h
              cases h
              exact ⟨_, HE.out, he, hg⟩
            have HPX := Lib.hid hPX
            clear hPX HP HN HT hbad hz hq t9
            go_upto_region 19 with fail
            have k0 : ∀ W, Keeps [b3, B] W8 W → W.cell? ⟨b3, 0, none⟩ = some iv := fun W hW => (hW.cell (by simp)).trans (hnb8.cell 0)
            have k1 : ∀ W, Keeps [b3, B] W8 W → W.cell? ⟨b3, 1, none⟩ = some nv := fun W hW => (hW.cell (by simp)).trans (hnb8.cell 1)
            have k2 : ∀ W, Keeps [b3, B] W8 W → W.cell? ⟨b3, 2, none⟩ = some ov := fun W hW => (hW.cell (by simp)).trans (hnb8.cell 2)
            have k3 : ∀ W, Keeps [b3, B] W8 W → W.cell? ⟨B, 1, none⟩ = some (.int .i64 a) := fun W hW => (hW.cell (by simp)).trans (hbl8.cell 1)
            refine wp_region_S (Keeps [b3, B] W8) [(0, true), (1, true), (2, true), (3, true), (4, true), (5, false), (6, true), (7, true)] (by kernel_rfl) (by kernel_rfl) (fun _ _ d _ _ h => by cases d <;> exact h) (Keeps.drew _ _) ?_
            simp only [pickE, List.getElem?_cons_zero, List.getElem?_cons_succ]
            repeat (first | (refine wpF_pure (by rfl) (fun W hW => by go_simp; with_reducible rfl) ?_; simp only [Act.put, List.setIfInBounds_toArray, List.set_cons_zero, List.set_cons_succ]) | (refine wpF_skip (by rfl) ?_; simp only [Act.put, List.setIfInBounds_toArray, List.set_cons_zero, List.set_cons_succ]))
            have hz9 := hz8.ext (Ext.drew W8)
            have hE9 := hE8.trans (Ext.drew W8)
            have hown9 := hown8.ext (Ext.drew W8)
            have KD : Keeps [b3, B] W8 W8.drew := Keeps.drew _ _
            generalize W8.drew = W9 at *
            refine wpF_step (by rfl) (fun K hK => ?_)
            refine wp_store_row 26 _ _ rfl w.heap.size #[iv, nv, ov] rfl rfl 26 _ hz9 (by kernel_rfl) rfl HO.out ?_
            refine hK _ _ (KD.trans (Keeps.grown (setRow_grown W9 w.heap.size #[iv, nv, ov]) (fun k hk => by
              have hsz := KD.1
              simp only [List.mem_cons, List.not_mem_nil, or_false] at hk
              rcases hk with rfl | rfl
              · exact ⟨by omega, by simp; omega⟩
              · exact ⟨by omega, by simp; omega⟩))) ?_
            clear hK K
            have hx := ext_setRow hE9 #[iv, nv, ov] (Nat.le_refl _)
            have hgF := HGR.out _ (hown9.grown (setRow_grown W9 w.heap.size #[iv, nv, ov]) (by omega))
            have HRS := Lib.hid (setRow_heap _ _ _ #[iv, nv, ov] _ _ hz9)
            clear hown9 hown8 hE9 hE8 hz8 hnb8 hbl8 KD hz9
            try simp only [Act.put, List.setIfInBounds_toArray, List.set_cons_zero, List.set_cons_succ]
            repeat (first | (refine wpF_pure (by rfl) (fun W hW => by go_simp; with_reducible rfl) ?_; simp only [Act.put, List.setIfInBounds_toArray, List.set_cons_zero, List.set_cons_succ]) | (refine wpF_skip (by rfl) ?_; simp only [Act.put, List.setIfInBounds_toArray, List.set_cons_zero, List.set_cons_succ]))
            refine wpF_nil ?_
            clear k0 k1 k2 k3
            go_wp2_with fail
            refine bodyPost_ret (v := .tuple #[.agg #[iv, nv, ov], .int .i64 a, .int .i64 0]) (results_cell_tmp2 Try.results21 _ _ w.heap.size 26 _ (0, 0) _ rfl HRS.out (by kernel_rfl : Try.prog.underlying 26 = some (.struct (Try.prog.fieldsOf 26))) rfl (by kernel_rfl)) rfl ?_
            exact HPX.out _ _ rfl hgF hx
    have HK := Lib.hid hK
    clear hK
    go_loopw [12] (fun i wr => ∃ (v : Value) (k9 : Nat) (ns : List Nd) (r' : Rd), k9 ≤ n2 ∧ i = .int .i64 k9 ∧ C4 w wr ys B w.heap.size b3 r' #[.slice none 0 0, .slice none 0 0, .slice none 0 0] #[iv, v, .slice none 0 0] 26 (⟨40, 14, v, k9, ns.flatMap Nd.cs⟩ :: (⟨67, 4, iv, ins.length, ins.flatMap Vl.cs⟩ :: ns.flatMap rowsN)) ∧ ns.length = k9 ∧ (∀ n ∈ ns, NdFit n) ∧ Fr b3 B w1 wr ∧ many qNode n2 r3 = (ns.map Nd.c ++ (many qNode (n2 - k9) r').1, (many qNode (n2 - k9) r').2)) (fun i _ => n2 - (intOf i).toNat)
    case atStart => exact ⟨.slice none 0 0, 0, [], r3, by omega, rfl, hS, rfl, (fun n hn => by cases hn), F, by simp⟩
    case round =>
      clear hS F
      obtain ⟨v, k9, ns, r', hk, rfl, hS, hzl, hfit, F, hm⟩ := hrel
      have hbad := hS.rd.bad
      have HMM := Lib.hid hm
      have HFIT := Lib.hid hfit
      clear hm hfit
      by_cases hlt : k9 < n2
      · cases hb : r'.bad with
        | true =>
          rw [hb] at hbad
          obtain ⟨hz9, hr9⟩ := many_stop HMM.out (.inr hb) HM.out
          replace hr9 := hr9.symm
          subst hr9
          clear hb
          subst hzl
          have HS := Lib.hid hS
          have HF := Lib.hid F
          clear hS F
          go_wp2_with fail
          exact HK.out _ _ ⟨v, ns, .of rfl, HS.out, HFIT.out, hz9, HF.out⟩
        | false =>
          rw [hb] at hbad
          have HM2 := Lib.hid (many_more HMM.out hlt hb)
          have c1 : ∀ W', Keeps [b3] wr W' → W'.cell? ⟨b3, 1, none⟩ = some v := fun W' hW => (hW.cell (by simp)).trans (hS.nb.cell 1)
          have hD := hS.ext (Ext.drew wr)
          have F0 := F.trans (Fr.ext (lo := b3) (B := B) (Ext.drew wr))
          have K0 : Keeps [b3] wr wr.drew := Keeps.drew _ _
          have hrd := node4_calls w wr.drew ys B r' hD.rd
          clear hS F HMM
          go_upto_region 14 with fail
          clear hbad
          refine wp_region_Z (Keeps [b3] wr) 7 [(0, true), (1, true), (2, true), (3, false), (4, false), (5, false), (6, true), (7, false)] (by kernel_rfl) (by kernel_rfl) (fun _ _ d _ _ h => by cases d <;> exact h) K0 ?_
          simp only [pickE, List.getElem?_cons_zero, List.getElem?_cons_succ]
          repeat (refine wpZ_pure (by rfl) (fun W hW => by go_simp; with_reducible rfl) ?_; simp only [Act.put, List.setIfInBounds_toArray, List.set_cons_zero, List.set_cons_succ])
          generalize wr.drew = y0 at *
          refine wpZ_step (by rfl) (fun K hK => ?_)
          go_simp
          refine hrd.mono ?_
          rintro e y1 ⟨n, rfl, hnc, hr1, hg1, hon, hfn⟩
          have h1 := C4.join hD (hD.read hr1 hg1) hon
          have K1 := K0.trans (hD.keeps hg1)
          have F1 := F0.trans (Fr.grown (lo := b3) (B := B) hg1 (fun k hk => .inl (by cases hk; rfl)))
          have hone := rowsN_one hon
          refine hK _ _ K1 ?_
          clear hK K hrd hr1 hg1 hD K0 F0 hon
          have HNC := Lib.hid hnc
          have HFN := Lib.hid hfn
          clear hnc hfn
          try simp only [Act.put, List.setIfInBounds_toArray, List.set_cons_zero, List.set_cons_succ]
          repeat (refine wpZ_pure (by rfl) (fun W hW => by go_simp; with_reducible rfl) ?_; simp only [Act.put, List.setIfInBounds_toArray, List.set_cons_zero, List.set_cons_succ])
          have hE2 := ext_alloc y1 (.cells (#[.int .i64 n.op, n.inV, .int .i64 n.k, .int .i64 n.st, .int .i64 n.pad, .int .i64 n.out, .int .i64 n.mul, .int .i64 n.sh, .int .i64 n.zero, .int .i64 n.th, .int .i64 n.tw, .int .i64 n.tc, n.wV, n.bV] : Array Value) 40)
          have hnew := row_new y1 (#[.int .i64 n.op, n.inV, .int .i64 n.k, .int .i64 n.st, .int .i64 n.pad, .int .i64 n.out, .int .i64 n.mul, .int .i64 n.sh, .int .i64 n.zero, .int .i64 n.th, .int .i64 n.tw, .int .i64 n.tc, n.wV, n.bV] : Array Value) 40 1 14 rfl (by decide)
          have h2 := h1.ext hE2
          have K2 := K1.trans (h1.keepsE hE2)
          have F2 := F1.trans (Fr.ext (lo := b3) (B := B) hE2)
          refine wpZ_step (by rfl) (fun K hK => ?_)
          go_simp
          refine hK _ _ K2 ?_
          clear hK K h1 K1 F1 hE2
          generalize y1.alloc _ = y2 at *
          try simp only [Act.put, List.setIfInBounds_toArray, List.set_cons_zero, List.set_cons_succ]
          repeat (refine wpZ_pure (by rfl) (fun W hW => by go_simp; with_reducible rfl) ?_; simp only [Act.put, List.setIfInBounds_toArray, List.set_cons_zero, List.set_cons_succ])
          have hown := h2.own.own _ (List.mem_cons_self ..)
          have hbase : b3 + 1 ≤ y2.heap.size := h2.nb.lt
          have hk1 : k9 + 1 ≤ 140737488355328 := by omega
          have hk2 : (k9 + 1) * 160 ≤ 140737488355328 := by omega
          refine wpZ_step (by rfl) (fun K hK => ?_)
          refine wp_append_row rfl elem_nd hown rfl hnew rfl hone hk1 hk2 hbase (fun v' y3 ho hgr hnr => ?_)
          have K3 := K2.trans (h2.keepsR hgr)
          refine hK _ _ K3 ?_
          clear hK K
          obtain ⟨p1, p2, p3, p4, p5⟩ := h2.push ho hgr hnr 1
          have p5' : World.cell? y3 ⟨b3, 1, none⟩ = some v := p5
          obtain ⟨A, c, ev, _⟩ := row_of_own ho
          clear ho hgr hnr hnew hown K2 h2 p5
          have F3 := F2.trans p2
          clear p2 F2
          try simp only [Act.put, List.setIfInBounds_toArray, List.set_cons_zero, List.set_cons_succ]
          repeat (refine wpZ_pure (by rfl) (fun W hW => by go_simp; with_reducible rfl) ?_; simp only [Act.put, List.setIfInBounds_toArray, List.set_cons_zero, List.set_cons_succ])
          subst ev
          refine wpZ_last (by rfl) (fun K hK => ?_)
          go_simp
          refine hK _ _ ?_
          clear hK K
          try simp only [Act.put, List.setIfInBounds_toArray, List.set_cons_zero, List.set_cons_succ]
          clear p3 p4 p5'
          have hSn : C4 w (World.setCell y3 ⟨b3, 1, none⟩ (.slice A (k9 + 1) c)) ys B w.heap.size b3 (qNode r').2 #[.slice none 0 0, .slice none 0 0, .slice none 0 0] #[iv, (.slice A (k9 + 1) c), .slice none 0 0] 26 (⟨40, 14, (.slice A (k9 + 1) c), (k9 + 1), (ns ++ [n]).flatMap Nd.cs⟩ :: (⟨67, 4, iv, ins.length, ins.flatMap Vl.cs⟩ :: (ns ++ [n]).flatMap rowsN)) := by
            rw [List.flatMap_append, List.flatMap_append]
            simpa [Nd.cs] using p1
          clear p1
          generalize World.setCell y3 _ _ = y4 at *
          go_wp2_with fail
          go_roundw
          case rel => exact ⟨_, k9 + 1, ns ++ [n], _, by omega, by go_num, hSn, by simp [hzl], (fun m hm => by
            rcases List.mem_append.1 hm with hm | hm
            · exact HFIT.out m hm
            · obtain rfl := List.mem_singleton.1 hm
              exact HFN.out), F3, by rw [HM2.out, List.map_append, List.map_cons, HNC.out]; rfl⟩
          case measure => simp [intOf]; omega
      · obtain ⟨hz9, hr9⟩ := many_stop HMM.out (.inl (by omega)) HM.out
        replace hr9 := hr9.symm
        subst hr9
        subst hzl
        have HS := Lib.hid hS
        have HF := Lib.hid F
        clear hS F hbad
        go_wp2_with fail
        exact HK.out _ _ ⟨v, ns, .of rfl, HS.out, HFIT.out, hz9, HF.out⟩
  have HK := Lib.hid hK
  clear hK
  go_loopw [8] (fun i wr => ∃ (v : Value) (k9 : Nat) (zs : List Vl) (r' : Rd), k9 ≤ n1 ∧ i = .int .i64 k9 ∧ C4 w wr ys B w.heap.size b3 r' #[.slice none 0 0, .slice none 0 0, .slice none 0 0] #[v, .slice none 0 0, .slice none 0 0] 26 [⟨67, 4, v, k9, zs.flatMap Vl.cs⟩, ⟨40, 14, .slice none 0 0, 0, []⟩] ∧ zs.length = k9 ∧ Fr b3 B w1 wr ∧ many qVl n1 r1 = (zs ++ (many qVl (n1 - k9) r').1, (many qVl (n1 - k9) r').2)) (fun i _ => n1 - (intOf i).toNat)
  case atStart => exact ⟨.slice none 0 0, 0, [], r1, by omega, rfl, hS, rfl, F, by simp⟩
  case round =>
    clear hS F
    obtain ⟨v, k9, zs, r', hk, rfl, hS, hzl, F, hm⟩ := hrel
    have hbad := hS.rd.bad
    have HMM := Lib.hid hm
    clear hm
    by_cases hlt : k9 < n1
    · cases hb : r'.bad with
      | true =>
        rw [hb] at hbad
        obtain ⟨hz9, hr9⟩ := many_stop HMM.out (.inr hb) HM.out
        replace hz9 := hz9.symm
        replace hr9 := hr9.symm
        subst hz9 hr9
        clear hb
        subst hzl
        have HS := Lib.hid hS
        have HF := Lib.hid F
        clear hS F
        go_wp2_with fail
        exact HK.out _ _ ⟨v, .of rfl, HS.out, HF.out⟩
      | false =>
        rw [hb] at hbad
        have HM2 := Lib.hid (many_more HMM.out hlt hb)
        obtain ⟨⟨⟨a1, a2, a3⟩, ra⟩, ea⟩ : ∃ x, qShape r' = x := ⟨_, rfl⟩
        obtain ⟨⟨z, rb⟩, eb⟩ : ∃ x, qS 1 ra = x := ⟨_, rfl⟩
        have HV : qVl r' = (⟨⟨a1, a2, a3⟩, z⟩, rb) := by simp only [qVl, Ps.bind, Ps.ret, ea, eb]
        rw [HV] at HM2
        have hrd := shape4_calls w wr ys B r' hS.rd
        unfold P4 at hrd
        rw [ea] at hrd
        simp only [Sz.v] at hrd
        clear HMM HV ea
        go_upto_region 7 with fail
        clear hbad
        go_wp2_with fail
        refine hrd.mono ?_
        rintro e y1 ⟨rfl, hr1, hg1⟩
        have hE2 := ext_alloc y1 (.cells #[.int .i64 a1, .int .i64 a2, .int .i64 a3] 36)
        have hsb := Blk.new y1 #[.int .i64 a1, .int .i64 a2, .int .i64 a3] 36
        have h1 := hS.read hr1 hg1
        have hBs : B < y1.heap.size := h1.rd.lt
        have h2 := h1.ext hE2
        have F2 := (F.trans (Fr.grown (lo := b3) (B := B) hg1 (fun k hk => .inl (by cases hk; rfl)))).trans (Fr.ext (lo := b3) (B := B) hE2)
        clear hrd hr1 hg1 hE2 h1 hS F
        go_upto_region 8 with fail
        generalize y1.alloc _ = y2 at *
        generalize y1.heap.size = sb at *
        have hrd := signed_calls w y2 ys B 1 ra h2.rd (.inl rfl)
        unfold P4 at hrd
        rw [eb] at hrd
        simp only at hrd
        go_wp2_with fail
        refine hrd.mono ?_
        rintro e y3 ⟨rfl, hr1, hg1⟩
        have h3x := h2.read hr1 hg1
        have hs3 := hsb.grown hg1 (by simp; omega)
        have F3 := F2.trans (Fr.grown (lo := b3) (B := B) hg1 (fun k hk => .inl (by cases hk; rfl)))
        clear hrd hr1 hg1 h2 F2 hsb eb
        have s0 : World.cell? y3 ⟨sb, 0, none⟩ = some (.int .i64 a1) := hs3.cell 0
        have s1 : World.cell? y3 ⟨sb, 1, none⟩ = some (.int .i64 a2) := hs3.cell 1
        have s2 : World.cell? y3 ⟨sb, 2, none⟩ = some (.int .i64 a3) := hs3.cell 2
        have g0 : World.cell? y3 ⟨b3, 0, none⟩ = some v := h3x.nb.cell 0
        have hE4 := ext_alloc y3 (.cells (#[.int .i64 a1, .int .i64 a2, .int .i64 a3, .int .i64 z] : Array Value) 67)
        have hnew := row_new y3 (#[.int .i64 a1, .int .i64 a2, .int .i64 a3, .int .i64 z] : Array Value) 67 1 4 rfl (by decide)
        have hone : ∀ u ∈ (#[.int .i64 a1, .int .i64 a2, .int .i64 a3, .int .i64 z] : Array Value).toList, u.oneCell' = true := by intro u hu; simp at hu; rcases hu with rfl | rfl | rfl | rfl <;> rfl
        have h4x := h3x.ext hE4
        have F4 := F3.trans (Fr.ext (lo := b3) (B := B) hE4)
        have hown := h4x.own.own _ (List.mem_cons_self ..)
        have hbase : b3 + 1 ≤ (y3.alloc (.cells (#[.int .i64 a1, .int .i64 a2, .int .i64 a3, .int .i64 z] : Array Value) 67)).heap.size := h4x.nb.lt
        have hk1 : k9 + 1 ≤ 140737488355328 := by omega
        have hk2 : (k9 + 1) * 32 ≤ 140737488355328 := by omega
        clear h3x F3 hs3 hE4
        go_wp2_with (at_builtin; refine stopped ?_)
        refine wpList_append_row rfl rfl elem_vl hown rfl hnew rfl hone hk1 hk2 hbase ?_
        intro v' y5 ho hgr hnr
        obtain ⟨p1, p2, p3, p4, p5⟩ := h4x.push ho hgr hnr 0
        have p5' : World.cell? y5 ⟨b3, 0, none⟩ = some v := p5
        obtain ⟨A, c, ev, _⟩ := row_of_own ho
        have F5 := F4.trans p2
        clear ho hgr hnr hnew hown h4x p5 p2 F4 s0 s1 s2 g0 hbase hone
        subst ev
        have hSn : C4 w (World.setCell y5 ⟨b3, 0, none⟩ (.slice A (k9 + 1) c)) ys B w.heap.size b3 rb #[.slice none 0 0, .slice none 0 0, .slice none 0 0] #[(.slice A (k9 + 1) c), .slice none 0 0, .slice none 0 0] 26 [⟨67, 4, (.slice A (k9 + 1) c), (k9 + 1), (zs ++ [(⟨⟨a1, a2, a3⟩, z⟩ : Vl)]).flatMap Vl.cs⟩, ⟨40, 14, .slice none 0 0, 0, []⟩] := by
          rw [List.flatMap_append]
          simpa [Vl.cs] using p1
        clear p1
        go_upto_region 6 with fail
        clear p3 p4 p5'
        generalize World.setCell y5 _ _ = y6 at *
        go_wp2_with fail
        go_roundw
        case rel => exact ⟨_, k9 + 1, zs ++ [⟨⟨a1, a2, a3⟩, z⟩], rb, by omega, by go_num, hSn, by simp [hzl], F5, HM2.out⟩
        case measure => simp [intOf]; omega
    · obtain ⟨hz9, hr9⟩ := many_stop HMM.out (.inl (by omega)) HM.out
      replace hz9 := hz9.symm
      replace hr9 := hr9.symm
      subst hz9 hr9
      subst hzl
      have HS := Lib.hid hS
      have HF := Lib.hid F
      clear hS F hbad
      go_wp2_with fail
      exact HK.out _ _ ⟨v, .of rfl, HS.out, HF.out⟩

end Go.Proofs.Ytdhdbmfipkppiaa

namespace Go.Proofs.Ytdhdbmfipkppiaa
set_option linter.unusedSimpArgs false
set_option linter.unusedVariables false
set_option linter.unnecessarySimpa false
open Go.RowKit

set_option maxRecDepth 8000 in
set_option maxHeartbeats 3200000 in
theorem whole4_calls (v : Value) (bs : List Int) (w : World) (hv : Ints .u8 w v bs) (hb : BytesL bs) (hlen : bs.length ≤ 100000) :
    Calls Try.prog 23 #[v] w (WholePost bs w) := by
  have HP : Hid (∀ e w', ((∀ c, taken bs = some (c, bs.length) → ∃ g : Gr, g.c = c ∧ e = .returned (.tuple #[.agg #[g.iV, g.nV, g.oV], .int .i64 0]) ∧ OwnG w.heap.size w' g) ∧
    ((∀ c, taken bs ≠ some (c, bs.length)) → e = .returned (.tuple #[.agg #[.slice none 0 0, .slice none 0 0, .slice none 0 0], .int .i64 2])) ∧ Ext w w') → WholePost bs w e w') := fun e w' h => h
  generalize WholePost bs w = PP at *
  obtain ⟨A, c, rfl, hlc, hcm, _⟩ := id hv.form
  unfold maxLen at hcm
  have hE1 := ext_alloc w (.cells #[.slice none 0 0, .slice none 0 0, .slice none 0 0] 26)
  have hb0 := Blk.new w #[.slice none 0 0, .slice none 0 0, .slice none 0 0] 26
  have hbase : w.heap.size < (w.alloc (.cells #[.slice none 0 0, .slice none 0 0, .slice none 0 0] 26)).heap.size := by simp
  have htk := take4_calls _ bs _ (hv.ext hE1) hb hlen
  unfold TakePost at htk
  go_enter Try.func23, Try.ntmps23
  go_wp2_with fail
  generalize w.alloc _ = w1 at *
  refine htk.mono ?_
  rintro e w2 ⟨hn, hs, h2⟩
  clear htk
  have hb2 := hb0.ext h2
  have hE2 := hE1.trans h2
  have hz := Blk.new w2 #[.slice none 0 0, .slice none 0 0, .slice none 0 0] 26
  cases ht : taken bs with
  | none =>
    have e1 := hn ht
    subst e1
    have h3 : Ext w2 ((w2.alloc (.cells #[.slice none 0 0, .slice none 0 0, .slice none 0 0] 26)).setRow w2.heap.size #[.slice none 0 0, .slice none 0 0, .slice none 0 0]) := ext_setRow (ext_alloc _ _) _ (Nat.le_refl _)
    have hb3 := hb2.ext h3
    have hx := ext_setRow (hE2.trans h3) #[.slice none 0 0, .slice none 0 0, .slice none 0 0] (Nat.le_refl _)
    go_upto_region 2 with (refine wpList_store_row rfl 26 _ _ rfl w2.heap.size #[.slice none 0 0, .slice none 0 0, .slice none 0 0] rfl rfl 26 _ hz (by kernel_rfl) rfl (by simp [Value.oneCell']) ?_)
    generalize World.setRow (w2.alloc _) _ _ = w3 at *
    go_wp2_with (refine wpList_store_row rfl 26 _ _ rfl w.heap.size #[.slice none 0 0, .slice none 0 0, .slice none 0 0] rfl rfl 26 _ hb3 (by kernel_rfl) rfl (by simp [Value.oneCell']) ?_)
    refine bodyPost_ret (v := .tuple #[.agg _, .int .i64 2]) (results_cell_tmp Try.results23 _ _ w.heap.size 26 _ (0, 0) _ rfl (setRow_heap _ _ _ _ _ _ hb3) (by kernel_rfl : Try.prog.underlying 26 = some (.struct (Try.prog.fieldsOf 26))) rfl (by kernel_rfl)) rfl ?_
    exact HP.out _ _ ⟨fun c h => (by rw [ht] at h; cases h), fun _ => rfl, hx⟩
  | some q =>
    obtain ⟨gc, n⟩ := q
    obtain ⟨g, hgc, rfl, hG⟩ := hs gc n ht
    have h3 : Ext w2 ((w2.alloc (.cells #[.slice none 0 0, .slice none 0 0, .slice none 0 0] 26)).setRow w2.heap.size #[g.iV, g.nV, g.oV]) := ext_setRow (ext_alloc _ _) _ (Nat.le_refl _)
    have hb3 := hb2.ext h3
    have hG3 := hG.ext h3
    have hb4 : Blk ((w2.alloc (.cells #[.slice none 0 0, .slice none 0 0, .slice none 0 0] 26)).setRow w2.heap.size #[g.iV, g.nV, g.oV]) w2.heap.size #[g.iV, g.nV, g.oV] 26 := setRow_heap _ _ _ _ _ _ hz
    have HO := Lib.hid hG.one
    clear hn hs
    go_upto_region 2 with (refine wpList_store_row rfl 26 _ _ rfl w2.heap.size #[g.iV, g.nV, g.oV] rfl rfl 26 _ hz (by kernel_rfl) rfl HO.out ?_)
    have hE3 := hE2.trans h3
    generalize World.setRow (w2.alloc _) _ _ = w3 at *
    generalize w2.heap.size = b4 at *
    have j0 : World.cell? w3 ⟨b4, 0, none⟩ = some g.iV := hb4.cell 0
    have j1 : World.cell? w3 ⟨b4, 1, none⟩ = some g.nV := hb4.cell 1
    have j2 : World.cell? w3 ⟨b4, 2, none⟩ = some g.oV := hb4.cell 2
    clear hG h3 hz hb2 hE2 hb4
    by_cases hl : n = bs.length
    · have t1 : ((n : Int) != (bs.length : Int)) = false := by simp [hl]
      have hx := ext_setRow hE3 #[g.iV, g.nV, g.oV] (Nat.le_refl _)
      have hGF := (hG3.setRow hbase #[g.iV, g.nV, g.oV]).lower (Nat.le_of_lt hbase)
      have HGF := Lib.hid hGF
      have HL := Lib.hid hl
      clear hl hG3 hGF
      go_wp2_with (refine wpList_store_row rfl 26 _ _ rfl w.heap.size #[g.iV, g.nV, g.oV] rfl rfl 26 _ hb3 (by kernel_rfl) rfl HO.out ?_)
      refine bodyPost_ret (v := .tuple #[.agg _, .int .i64 0]) (results_cell_tmp Try.results23 _ _ w.heap.size 26 _ (0, 0) _ rfl (setRow_heap _ _ _ _ _ _ hb3) (by kernel_rfl : Try.prog.underlying 26 = some (.struct (Try.prog.fieldsOf 26))) rfl (by kernel_rfl)) rfl ?_
      refine HP.out _ _ ⟨fun c h => ?_, fun h => ?_, hx⟩
      · rw [ht] at h
        cases h
        exact ⟨g, hgc, rfl, HGF.out⟩
      · exact absurd (by rw [ht, HL.out]) (h gc)
    · have t1 : ((n : Int) != (bs.length : Int)) = true := by rw [bne_iff_ne]; omega
      have hx := ext_setRow hE3 #[.slice none 0 0, .slice none 0 0, .slice none 0 0] (Nat.le_refl _)
      have HL := Lib.hid hl
      clear hl hG3
      go_wp2_with (refine wpList_store_row rfl 26 _ _ rfl w.heap.size #[.slice none 0 0, .slice none 0 0, .slice none 0 0] rfl rfl 26 _ hb3 (by kernel_rfl) rfl (by simp [Value.oneCell']) ?_)
      refine bodyPost_ret (v := .tuple #[.agg _, .int .i64 2]) (results_cell_tmp Try.results23 _ _ w.heap.size 26 _ (0, 0) _ rfl (setRow_heap _ _ _ _ _ _ hb3) (by kernel_rfl : Try.prog.underlying 26 = some (.struct (Try.prog.fieldsOf 26))) rfl (by kernel_rfl)) rfl ?_
      exact HP.out _ _ ⟨fun c h => (by rw [ht] at h; cases h; exact absurd rfl HL.out), fun _ => rfl, hx⟩

end Go.Proofs.Ytdhdbmfipkppiaa

namespace Go.Proofs.Ytdhdbmfipkppiaa
set_option linter.unusedSimpArgs false
set_option linter.unusedVariables false
set_option linter.unnecessarySimpa false
open Go.RowKit

def zeroG : Gr := ⟨.slice none 0 0, .slice none 0 0, .slice none 0 0, [], [], []⟩
theorem zeroG_at (w : World) : GrAt w zeroG := ⟨row_nil _ _, row_nil _ _, row_nil _ _, (fun n hn => by cases hn), (by show 0 ≤ 255; omega), (by show 0 ≤ 255; omega), (by show 0 ≤ 255; omega)⟩
theorem GrAt.one {W : World} {g : Gr} (h : GrAt W g) : Array.all #[g.iV, g.nV, g.oV] (·.oneCell') = true := by
  obtain ⟨_, _, q1, _⟩ := h.ins
  obtain ⟨_, _, q2, _⟩ := h.nodes
  obtain ⟨_, _, q3, _⟩ := h.outs
  rw [q1, q2, q3]
  simp [Value.oneCell']

/-- What Take answers, in one form. -/
def tkC (bs : List Int) : Gc := match taken bs with | none => zeroG.c | some q => q.1
def tkN (bs : List Int) : Nat := match taken bs with | none => 0 | some q => q.2
def tkE (bs : List Int) : Int := match taken bs with | none => 2 | some _ => 0
def wkC (bs : List Int) : Gc := match taken bs with | none => zeroG.c | some q => if q.2 = bs.length then q.1 else zeroG.c
def wkE (bs : List Int) : Int := match taken bs with | none => 2 | some q => if q.2 = bs.length then 0 else 2

theorem take_any {bs : List Int} {w : World} {e : Ending} {w' : World} (h : TakePost bs w e w') : ∃ g : Gr, g.c = tkC bs ∧ e = .returned (.tuple #[.agg #[g.iV, g.nV, g.oV], .int .i64 (tkN bs), .int .i64 (tkE bs)]) ∧ GrAt w' g ∧ Ext w w' := by
  obtain ⟨h1, h2, h3⟩ := h
  unfold tkC tkN tkE
  cases ht : taken bs with
  | none => exact ⟨zeroG, rfl, h1 ht, zeroG_at _, h3⟩
  | some q =>
    obtain ⟨c, n⟩ := q
    obtain ⟨g, k1, k2, k3⟩ := h2 c n ht
    exact ⟨g, k1, k2, k3.at, h3⟩
theorem whole_any {bs : List Int} {w : World} {e : Ending} {w' : World} (h : WholePost bs w e w') : ∃ g : Gr, g.c = wkC bs ∧ e = .returned (.tuple #[.agg #[g.iV, g.nV, g.oV], .int .i64 (wkE bs)]) ∧ GrAt w' g ∧ Ext w w' := by
  obtain ⟨h1, h2, h3⟩ := h
  unfold wkC wkE
  cases ht : taken bs with
  | none => exact ⟨zeroG, rfl, h2 (fun c h => by rw [ht] at h; cases h), zeroG_at _, h3⟩
  | some q =>
    obtain ⟨c, n⟩ := q
    by_cases hn : n = bs.length
    · subst hn
      obtain ⟨g, k1, k2, k3⟩ := h1 c ht
      exact ⟨g, by simpa using k1, by simpa using k2, k3.at, h3⟩
    · refine ⟨zeroG, by simp [hn], ?_, zeroG_at _, h3⟩
      have := h2 (fun c' h => by rw [ht] at h; cases h; exact hn rfl)
      simpa [hn, zeroG] using this

set_option maxRecDepth 20000 in
set_option maxHeartbeats 12800000 in
theorem modelTakes_calls (v : Value) (zs : List Int) (w : World) (hv : Ints .u8 w v zs) (hz0 : ∀ z ∈ zs, InK .u8 z) :
    Calls Try.prog 5 #[v] w fun e w' => e = .returned (.bool true) ∧ Below w.heap.size w w' := by
  have hsh := fun W => shown04_calls W
  have hst := fun W (e : Ext w W) => short_calls v zs W (hv.ext e)
  go_enter Try.func5, Try.ntmps5
  go_upto_region 2 with (go_at_call 14; refine (hsh _).mono ?_; rintro e w1 ⟨rfl, h1⟩)
  go_upto_region 3 with (go_at_call 18; refine (hst _ h1).mono ?_; rintro e w2 ⟨⟨u, rfl, hu0⟩, rfl⟩)
  clear hsh hst
  have hbs : BytesL (zs.take 20000) := fun z hz => hz0 z (List.mem_of_mem_take hz)
  have hlen : (zs.take 20000).length ≤ 20000 := by rw [List.length_take]; omega
  clear hz0 hv
  have hu1 := hu0
  generalize zs.take 20000 = bs at *
  obtain ⟨A0, c0, rfl, hl1, hl2, _⟩ := id hu0.form
  unfold maxLen at hl2
  clear hu0
  go_wp2_with (at_builtin; refine stopped ?_)
  refine wpList_append_fresh rfl rfl elem_u8 rfl hu1 rfl (one_ints _ _) (by omega) (by omega) ?_
  intro v3 w3 ho3 hE3
  have h3 : Ext w w3 := h1.trans hE3
  have hu3 := hu1.ext hE3
  clear h1 hu1 hE3
  have hc := take_calls v3 bs w3 (ints_of_own ho3) hbs
  go_wp2_with fail
  refine hc.mono ?_
  rintro e w4 hpost
  obtain ⟨g1, hg1, rfl, hG1, hE4⟩ := take_any hpost
  clear hpost hc
  have h4 : Ext w w4 := h3.trans hE4
  have hz := Blk.new w4 #[.slice none 0 0, .slice none 0 0, .slice none 0 0] 26
  have hQ : Ext w4 ((w4.alloc (.cells #[.slice none 0 0, .slice none 0 0, .slice none 0 0] 26)).setRow w4.heap.size #[g1.iV, g1.nV, g1.oV]) := ext_setRow (ext_alloc _ _) _ (Nat.le_refl _)
  have hb1 : Blk ((w4.alloc (.cells #[.slice none 0 0, .slice none 0 0, .slice none 0 0] 26)).setRow w4.heap.size #[g1.iV, g1.nV, g1.oV]) w4.heap.size #[g1.iV, g1.nV, g1.oV] 26 := setRow_heap _ _ _ _ _ _ hz
  have HO := Lib.hid hG1.one
  go_upto_region 4 with (refine wpList_store_row rfl 26 _ _ rfl w4.heap.size #[g1.iV, g1.nV, g1.oV] rfl rfl 26 _ hz (by kernel_rfl) rfl HO.out ?_)
  have h5 : Ext w ((w4.alloc (.cells #[.slice none 0 0, .slice none 0 0, .slice none 0 0] 26)).setRow w4.heap.size #[g1.iV, g1.nV, g1.oV]) := h4.trans hQ
  replace hG1 := hG1.ext hQ
  have hu5 := (hu3.ext hE4).ext hQ
  clear ho3
  clear hz hQ hE4 h4 HO h3 hu3
  generalize World.setRow (w4.alloc _) _ _ = w5 at *
  generalize w4.heap.size = b1 at *
  have hc := take4_calls _ bs w5 hu5 hbs (by omega)
  go_wp2_with fail
  refine hc.mono ?_
  rintro e w6 hpost
  obtain ⟨g2, hg2, rfl, hG2, hE6⟩ := take_any hpost
  clear hpost hc
  have h6 : Ext w w6 := h5.trans hE6
  have hz := Blk.new w6 #[.slice none 0 0, .slice none 0 0, .slice none 0 0] 26
  have hQ : Ext w6 ((w6.alloc (.cells #[.slice none 0 0, .slice none 0 0, .slice none 0 0] 26)).setRow w6.heap.size #[g2.iV, g2.nV, g2.oV]) := ext_setRow (ext_alloc _ _) _ (Nat.le_refl _)
  have hb2 : Blk ((w6.alloc (.cells #[.slice none 0 0, .slice none 0 0, .slice none 0 0] 26)).setRow w6.heap.size #[g2.iV, g2.nV, g2.oV]) w6.heap.size #[g2.iV, g2.nV, g2.oV] 26 := setRow_heap _ _ _ _ _ _ hz
  have HO := Lib.hid hG2.one
  go_upto_region 5 with (refine wpList_store_row rfl 26 _ _ rfl w6.heap.size #[g2.iV, g2.nV, g2.oV] rfl rfl 26 _ hz (by kernel_rfl) rfl HO.out ?_)
  have h7 : Ext w ((w6.alloc (.cells #[.slice none 0 0, .slice none 0 0, .slice none 0 0] 26)).setRow w6.heap.size #[g2.iV, g2.nV, g2.oV]) := h6.trans hQ
  replace hG1 := (hG1.ext hE6).ext hQ
  replace hb1 := (hb1.ext hE6).ext hQ
  replace hG2 := hG2.ext hQ
  have hu7 := (hu5.ext hE6).ext hQ
  clear hz hQ hE6 h6 HO h5 hu5
  generalize World.setRow (w6.alloc _) _ _ = w7 at *
  generalize w6.heap.size = b2 at *
  go_wp2_with (at_builtin; refine stopped ?_)
  refine wpList_append_fresh rfl rfl elem_u8 rfl hu7 rfl (one_ints _ _) (by omega) (by omega) ?_
  intro v8 w8 ho8 hE8
  have h8 : Ext w w8 := h7.trans hE8
  have hu8 := hu7.ext hE8
  replace hG1 := hG1.ext hE8
  replace hb1 := hb1.ext hE8
  replace hG2 := hG2.ext hE8
  replace hb2 := hb2.ext hE8
  clear h7 hu7 hE8
  have hc := whole_calls v8 bs w8 (ints_of_own ho8) hbs
  go_wp2_with fail
  refine hc.mono ?_
  rintro e w9 hpost
  obtain ⟨g3, hg3, rfl, hG3, hE9⟩ := whole_any hpost
  clear hpost hc
  have h9 : Ext w w9 := h8.trans hE9
  have hz := Blk.new w9 #[.slice none 0 0, .slice none 0 0, .slice none 0 0] 26
  have hQ : Ext w9 ((w9.alloc (.cells #[.slice none 0 0, .slice none 0 0, .slice none 0 0] 26)).setRow w9.heap.size #[g3.iV, g3.nV, g3.oV]) := ext_setRow (ext_alloc _ _) _ (Nat.le_refl _)
  have hb3 : Blk ((w9.alloc (.cells #[.slice none 0 0, .slice none 0 0, .slice none 0 0] 26)).setRow w9.heap.size #[g3.iV, g3.nV, g3.oV]) w9.heap.size #[g3.iV, g3.nV, g3.oV] 26 := setRow_heap _ _ _ _ _ _ hz
  have HO := Lib.hid hG3.one
  go_upto_region 6 with (refine wpList_store_row rfl 26 _ _ rfl w9.heap.size #[g3.iV, g3.nV, g3.oV] rfl rfl 26 _ hz (by kernel_rfl) rfl HO.out ?_)
  have h10 : Ext w ((w9.alloc (.cells #[.slice none 0 0, .slice none 0 0, .slice none 0 0] 26)).setRow w9.heap.size #[g3.iV, g3.nV, g3.oV]) := h9.trans hQ
  replace hG1 := (hG1.ext hE9).ext hQ
  replace hb1 := (hb1.ext hE9).ext hQ
  replace hG2 := (hG2.ext hE9).ext hQ
  replace hb2 := (hb2.ext hE9).ext hQ
  replace hG3 := hG3.ext hQ
  have hu10 := (hu8.ext hE9).ext hQ
  clear ho8
  clear hz hQ hE9 h9 HO h8 hu8
  generalize World.setRow (w9.alloc _) _ _ = w10 at *
  generalize w9.heap.size = b3 at *
  have hc := whole4_calls _ bs w10 hu10 hbs (by omega)
  go_wp2_with fail
  refine hc.mono ?_
  rintro e w11 hpost
  obtain ⟨g4, hg4, rfl, hG4, hE11⟩ := whole_any hpost
  clear hpost hc
  have h11 : Ext w w11 := h10.trans hE11
  have hz := Blk.new w11 #[.slice none 0 0, .slice none 0 0, .slice none 0 0] 26
  have hQ : Ext w11 ((w11.alloc (.cells #[.slice none 0 0, .slice none 0 0, .slice none 0 0] 26)).setRow w11.heap.size #[g4.iV, g4.nV, g4.oV]) := ext_setRow (ext_alloc _ _) _ (Nat.le_refl _)
  have hb4 : Blk ((w11.alloc (.cells #[.slice none 0 0, .slice none 0 0, .slice none 0 0] 26)).setRow w11.heap.size #[g4.iV, g4.nV, g4.oV]) w11.heap.size #[g4.iV, g4.nV, g4.oV] 26 := setRow_heap _ _ _ _ _ _ hz
  have HO := Lib.hid hG4.one
  go_upto_region 7 with (refine wpList_store_row rfl 26 _ _ rfl w11.heap.size #[g4.iV, g4.nV, g4.oV] rfl rfl 26 _ hz (by kernel_rfl) rfl HO.out ?_)
  have h12 : Ext w ((w11.alloc (.cells #[.slice none 0 0, .slice none 0 0, .slice none 0 0] 26)).setRow w11.heap.size #[g4.iV, g4.nV, g4.oV]) := h11.trans hQ
  replace hG1 := (hG1.ext hE11).ext hQ
  replace hb1 := (hb1.ext hE11).ext hQ
  replace hG2 := (hG2.ext hE11).ext hQ
  replace hb2 := (hb2.ext hE11).ext hQ
  replace hG3 := (hG3.ext hE11).ext hQ
  replace hb3 := (hb3.ext hE11).ext hQ
  replace hG4 := hG4.ext hQ
  have hu12 := (hu10.ext hE11).ext hQ
  clear hz hQ hE11 h11 HO h10 hu10
  generalize World.setRow (w11.alloc _) _ _ = w12 at *
  generalize w11.heap.size = b4 at *
  have hsm := same_calls g1 g2 w12 hG1 hG2
  rw [decide_eq_true (hg1.trans hg2.symm)] at hsm
  have c10 : World.cell? w12 ⟨b1, 0, none⟩ = some g1.iV := hb1.cell 0
  have c11 : World.cell? w12 ⟨b1, 1, none⟩ = some g1.nV := hb1.cell 1
  have c12 : World.cell? w12 ⟨b1, 2, none⟩ = some g1.oV := hb1.cell 2
  have c20 : World.cell? w12 ⟨b2, 0, none⟩ = some g2.iV := hb2.cell 0
  have c21 : World.cell? w12 ⟨b2, 1, none⟩ = some g2.nV := hb2.cell 1
  have c22 : World.cell? w12 ⟨b2, 2, none⟩ = some g2.oV := hb2.cell 2
  go_upto_region 8 with (go_at_call 20; refine hsm.mono ?_; rintro e w13 ⟨rfl, h13⟩)
  clear hsm c10 c11 c12 c20 c21 c22
  replace hb3 := hb3.ext h13
  replace hb4 := hb4.ext h13
  replace h12 := h12.trans h13
  have hsm := same_calls g3 g4 w13 (hG3.ext h13) (hG4.ext h13)
  rw [decide_eq_true (hg3.trans hg4.symm)] at hsm
  have c30 : World.cell? w13 ⟨b3, 0, none⟩ = some g3.iV := hb3.cell 0
  have c31 : World.cell? w13 ⟨b3, 1, none⟩ = some g3.nV := hb3.cell 1
  have c32 : World.cell? w13 ⟨b3, 2, none⟩ = some g3.oV := hb3.cell 2
  have c40 : World.cell? w13 ⟨b4, 0, none⟩ = some g4.iV := hb4.cell 0
  have c41 : World.cell? w13 ⟨b4, 1, none⟩ = some g4.nV := hb4.cell 1
  have c42 : World.cell? w13 ⟨b4, 2, none⟩ = some g4.oV := hb4.cell 2
  go_upto_region 9 with (go_at_call 20; refine hsm.mono ?_; rintro e w14 ⟨rfl, h14⟩)
  clear hsm c30 c31 c32 c40 c41 c42
  have h15 := h12.trans h14
  go_wp2_with fail
  go_ret
  exact ⟨rfl, h15⟩

end Go.Proofs.Ytdhdbmfipkppiaa
