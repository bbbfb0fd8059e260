/- The walk of the head of the laws of layer 20: the document's example. -/
/- The walks of number and put of the reference of commands. -/
/- The walk of the reader's number. -/
import Derived.Test.YtmddlhfahfelpaaVfi
import Derived.Test.YtmddlhfahfelpaaNsaP
set_option linter.unusedSimpArgs false
set_option linter.unusedVariables false
set_option linter.unnecessarySimpa false
namespace Go.Proofs.Ytmddlhfahfelpaa
set_option maxRecDepth 10000
open Go.RowKit

def exV (b : Nat) : Gr := ⟨.slice (some ⟨b, 0, none⟩) 1 1, .slice none 0 0, .slice (some ⟨b + 1, 0, none⟩) 1 1, [⟨⟨1, 1, 1⟩, 0⟩], [], [0]⟩
def cmH : Isa.Cm := ⟨7, 0, 0, 0, 0, 0, 0, 0, 0, 0, 0, 0, 0, 0⟩
def cmW : Isa.Cm := ⟨5, 0, 0, 0, 0, 0, 0, 0, 0, 0, 0, 0, 0, 0⟩
theorem exV_one (b : Nat) : checkZ (exV b) [3] [cmW, cmH] [cmH] [cmH] = 27 := by rfl
theorem exV_two (b : Nat) : turnsZ (exV b) [3] [cmH] [cmH] [cmH] = (3, 0) := by rfl
theorem exV_three (b : Nat) : checkZ (exV b) [3] [cmH] [cmH] [cmH] = 0 := by rfl
theorem exV_at (w : World) : GrAt ((w.alloc (.cells #[.int .i64 1, .int .i64 1, .int .i64 1, .int .i64 0] 44)).alloc (.cells #[.int .i64 0] 3)) (exV w.heap.size) := by
  have h1 : Vls (w.alloc (.cells #[.int .i64 1, .int .i64 1, .int .i64 1, .int .i64 0] 44)) (.slice (some ⟨w.heap.size, 0, none⟩) 1 1) [⟨⟨1, 1, 1⟩, 0⟩] := row_new w _ 44 1 4 rfl (by decide)
  have h2 := row_new (w.alloc (.cells #[.int .i64 1, .int .i64 1, .int .i64 1, .int .i64 0] 44)) #[.int .i64 0] 3 1 1 rfl (by decide)
  rw [show (w.alloc (.cells #[.int .i64 1, .int .i64 1, .int .i64 1, .int .i64 0] 44)).heap.size = w.heap.size + 1 from by simp] at h2
  exact ⟨h1.ext (ext_alloc _ _), row_nil _ _, h2, (fun n hn => by cases hn), (by show 1 ≤ 255; omega), (by show 0 ≤ 255; omega), (by show 1 ≤ 255; omega)⟩

set_option maxRecDepth 20000 in
set_option maxHeartbeats 6400000 in
theorem shown20_calls (w : World) : Calls Try.prog 5 #[] w fun e w' => e = .returned (.bool true) ∧ Ext w w' := by
  have hg0 := exV_at w
  have hE0 := (ext_alloc w (.cells #[.int .i64 1, .int .i64 1, .int .i64 1, .int .i64 0] 44)).trans (ext_alloc _ (.cells #[.int .i64 0] 3))
  have hsz : ((w.alloc (.cells #[.int .i64 1, .int .i64 1, .int .i64 1, .int .i64 0] 44)).alloc (.cells #[.int .i64 0] 3)).heap.size = w.heap.size + 1 + 1 := by simp
  obtain ⟨w1, hw1⟩ : ∃ w1, (w.alloc (.cells #[.int .i64 1, .int .i64 1, .int .i64 1, .int .i64 0] 44)).alloc (.cells #[.int .i64 0] 3) = w1 := ⟨_, rfl⟩
  rw [hw1] at hg0 hE0 hsz
  have hz := Blk.new w1 #[.slice none 0 0, .slice none 0 0, .slice none 0 0] 26
  have hb : Blk ((w1.alloc (.cells #[.slice none 0 0, .slice none 0 0, .slice none 0 0] 26)).setRow w1.heap.size #[.slice (some ⟨w.heap.size, 0, none⟩) 1 1, .slice none 0 0, .slice (some ⟨w.heap.size + 1, 0, none⟩) 1 1]) w1.heap.size #[.slice (some ⟨w.heap.size, 0, none⟩) 1 1, .slice none 0 0, .slice (some ⟨w.heap.size + 1, 0, none⟩) 1 1] 26 := setRow_heap _ _ _ _ _ _ hz
  have hQ : Ext w1 ((w1.alloc (.cells #[.slice none 0 0, .slice none 0 0, .slice none 0 0] 26)).setRow w1.heap.size #[.slice (some ⟨w.heap.size, 0, none⟩) 1 1, .slice none 0 0, .slice (some ⟨w.heap.size + 1, 0, none⟩) 1 1]) := ext_setRow (ext_alloc _ _) _ (Nat.le_refl _)
  subst hw1
  rw [hsz] at hz hb hQ
  have HG := Lib.hid (hg0.ext hQ)
  have HE := Lib.hid (hE0.trans hQ)
  clear hg0 hE0 hQ hsz
  go_enter Try.func5, Try.ntmps5
  go_upto_region 2 with (refine wpList_store_row rfl 26 _ _ rfl (w.heap.size + 1 + 1) #[.slice (some ⟨w.heap.size, 0, none⟩) 1 1, .slice none 0 0, .slice (some ⟨w.heap.size + 1, 0, none⟩) 1 1] rfl rfl 26 _ hz (by kernel_rfl) rfl (by simp [Value.oneCell']) ?_)
  clear hz
  generalize World.setRow (World.alloc (World.alloc (World.alloc w _) _) _) _ _ = w2 at *
  have c0 : World.cell? w2 ⟨w.heap.size + 1 + 1, 0, none⟩ = some (.slice (some ⟨w.heap.size, 0, none⟩) 1 1) := hb.cell 0
  have c1 : World.cell? w2 ⟨w.heap.size + 1 + 1, 1, none⟩ = some (.slice none 0 0) := hb.cell 1
  have c2 : World.cell? w2 ⟨w.heap.size + 1 + 1, 2, none⟩ = some (.slice (some ⟨w.heap.size + 1, 0, none⟩) 1 1) := hb.cell 2
  have hp : Ints .i64 (w2.alloc (.cells #[.int .i64 3] 3)) (.slice (some ⟨w2.heap.size, 0, none⟩) 1 1) [3] := row_new w2 _ 3 1 1 rfl (by decide)
  have hE3 := ext_alloc w2 (.cells #[.int .i64 3] 3)
  have hsz : (w2.alloc (.cells #[.int .i64 3] 3)).heap.size = w2.heap.size + 1 := by simp
  obtain ⟨w3, hw3⟩ : ∃ w3, w2.alloc (.cells #[.int .i64 3] 3) = w3 := ⟨_, rfl⟩
  rw [hw3] at hp hE3 hsz
  have hz := Blk.new w3 #[.slice none 0 0, .slice none 0 0, .slice none 0 0, .slice none 0 0, .slice none 0 0, .slice none 0 0, .slice none 0 0] 30
  have hb3 : Blk ((w3.alloc (.cells #[.slice none 0 0, .slice none 0 0, .slice none 0 0, .slice none 0 0, .slice none 0 0, .slice none 0 0, .slice none 0 0] 30)).setRow w3.heap.size #[.slice (some ⟨w.heap.size, 0, none⟩) 1 1, .slice none 0 0, .slice (some ⟨w.heap.size + 1, 0, none⟩) 1 1, .slice (some ⟨w2.heap.size, 0, none⟩) 1 1, .slice none 0 0, .slice none 0 0, .slice none 0 0]) w3.heap.size #[.slice (some ⟨w.heap.size, 0, none⟩) 1 1, .slice none 0 0, .slice (some ⟨w.heap.size + 1, 0, none⟩) 1 1, .slice (some ⟨w2.heap.size, 0, none⟩) 1 1, .slice none 0 0, .slice none 0 0, .slice none 0 0] 30 := setRow_heap _ _ _ _ _ _ hz
  have hQ : Ext w3 ((w3.alloc (.cells #[.slice none 0 0, .slice none 0 0, .slice none 0 0, .slice none 0 0, .slice none 0 0, .slice none 0 0, .slice none 0 0] 30)).setRow w3.heap.size #[.slice (some ⟨w.heap.size, 0, none⟩) 1 1, .slice none 0 0, .slice (some ⟨w.heap.size + 1, 0, none⟩) 1 1, .slice (some ⟨w2.heap.size, 0, none⟩) 1 1, .slice none 0 0, .slice none 0 0, .slice none 0 0]) := ext_setRow (ext_alloc _ _) _ (Nat.le_refl _)
  subst hw3
  rw [hsz] at hz hb3 hQ
  have HGb := Lib.hid (HG.out.ext hE3)
  have HEb := Lib.hid (HE.out.trans hE3)
  have HPb := Lib.hid hp
  have HWb := Lib.hid (Nat.le_of_eq hsz)
  have HQ := Lib.hid hQ
  clear hp hE3 hQ hsz hb HG HE
  go_upto_region 3 with (refine wpList_store_row rfl 30 _ _ rfl (w2.heap.size + 1) #[.slice (some ⟨w.heap.size, 0, none⟩) 1 1, .slice none 0 0, .slice (some ⟨w.heap.size + 1, 0, none⟩) 1 1, .slice (some ⟨w2.heap.size, 0, none⟩) 1 1, .slice none 0 0, .slice none 0 0, .slice none 0 0] rfl rfl 30 _ hz (by kernel_rfl) rfl (by simp [Value.oneCell']) ?_)
  clear hz c0 c1 c2
  generalize World.setRow (World.alloc (World.alloc w2 _) _) _ _ = w4 at *
  generalize World.alloc w2 _ = wb at *
  have hE4 := HQ.out
  clear HQ
  generalize w2.heap.size + 1 = B at *
  generalize w2.heap.size = bp at *
  have HO1 : Hid ((exV w.heap.size).oV = .slice (some ⟨w.heap.size + 1, 0, none⟩) 1 1) := rfl
  generalize w.heap.size + 1 = b1 at *
  go_upto_region 4 with fail
  have hH : Isa.Cmds (w4.alloc (.cells #[.int .i64 7, .int .i64 0, .int .i64 0, .int .i64 0, .int .i64 0, .int .i64 0, .int .i64 0, .int .i64 0, .int .i64 0, .int .i64 0, .int .i64 0, .int .i64 0, .int .i64 0, .int .i64 0] 47)) (.slice (some ⟨w4.heap.size, 0, none⟩) 1 1) [cmH] := row_new w4 _ 47 1 14 rfl (by decide)
  have hX := ext_alloc w4 (.cells #[.int .i64 7, .int .i64 0, .int .i64 0, .int .i64 0, .int .i64 0, .int .i64 0, .int .i64 0, .int .i64 0, .int .i64 0, .int .i64 0, .int .i64 0, .int .i64 0, .int .i64 0, .int .i64 0] 47)
  have hbh : B ≠ w4.heap.size := by have := hb3.lt; omega
  replace hE4 := hE4.trans hX
  replace hb3 := hb3.ext hX
  clear hX
  generalize World.alloc w4 _ = w5 at *
  generalize w4.heap.size = bh at *
  have hbw : B ≠ w5.heap.size := by have := hb3.lt; omega
  have hlt : B < w5.heap.size := hb3.lt
  have hq : World.cell? w5 ⟨B, 4, none⟩ = some (.slice none 0 0) := hb3.cell 4
  have hf := hb3.frozen 4
  have hG := setCell_grown w5 B 4 (.slice (some ⟨w5.heap.size, 0, none⟩) 2 2)
  have hsz : (w5.setCell ⟨B, 4, none⟩ (.slice (some ⟨w5.heap.size, 0, none⟩) 2 2)).heap.size = w5.heap.size := by simp
  have hEa : Ext wb _ := Below.setCell hE4 (p := ⟨B, 4, none⟩) (by show wb.heap.size ≤ B; exact HWb.out) (.slice (some ⟨w5.heap.size, 0, none⟩) 2 2)
  have hHa : Isa.Cmds _ _ _ := Row.grown hH hG (.inr (by simpa [Value.ownBlock] using Ne.symm hbh))
  have hba := hb3.set 4 (.slice (some ⟨w5.heap.size, 0, none⟩) 2 2)
  have hX := ext_alloc (w5.setCell ⟨B, 4, none⟩ (.slice (some ⟨w5.heap.size, 0, none⟩) 2 2)) (.cells #[.int .i64 5, .int .i64 0, .int .i64 0, .int .i64 0, .int .i64 0, .int .i64 0, .int .i64 0, .int .i64 0, .int .i64 0, .int .i64 0, .int .i64 0, .int .i64 0, .int .i64 0, .int .i64 0, .int .i64 7, .int .i64 0, .int .i64 0, .int .i64 0, .int .i64 0, .int .i64 0, .int .i64 0, .int .i64 0, .int .i64 0, .int .i64 0, .int .i64 0, .int .i64 0, .int .i64 0, .int .i64 0] 47)
  have hW6 : Isa.Cmds ((w5.setCell ⟨B, 4, none⟩ (.slice (some ⟨w5.heap.size, 0, none⟩) 2 2)).alloc (.cells #[.int .i64 5, .int .i64 0, .int .i64 0, .int .i64 0, .int .i64 0, .int .i64 0, .int .i64 0, .int .i64 0, .int .i64 0, .int .i64 0, .int .i64 0, .int .i64 0, .int .i64 0, .int .i64 0, .int .i64 7, .int .i64 0, .int .i64 0, .int .i64 0, .int .i64 0, .int .i64 0, .int .i64 0, .int .i64 0, .int .i64 0, .int .i64 0, .int .i64 0, .int .i64 0, .int .i64 0, .int .i64 0] 47)) (.slice (some ⟨w5.heap.size, 0, none⟩) 2 2) [cmW, cmH] := by
    have h := row_new (w5.setCell ⟨B, 4, none⟩ (.slice (some ⟨w5.heap.size, 0, none⟩) 2 2)) #[.int .i64 5, .int .i64 0, .int .i64 0, .int .i64 0, .int .i64 0, .int .i64 0, .int .i64 0, .int .i64 0, .int .i64 0, .int .i64 0, .int .i64 0, .int .i64 0, .int .i64 0, .int .i64 0, .int .i64 7, .int .i64 0, .int .i64 0, .int .i64 0, .int .i64 0, .int .i64 0, .int .i64 0, .int .i64 0, .int .i64 0, .int .i64 0, .int .i64 0, .int .i64 0, .int .i64 0, .int .i64 0] 47 2 14 rfl (by decide)
    rw [hsz] at h
    exact h
  have hE6 := hEa.trans hX
  have hH6 := hHa.below hX (Nat.le_refl _)
  have hb6 := hba.ext hX
  clear hX hG hH hEa hHa hba hsz
  go_upto_region 5 with fail
  clear hq hf hlt
  generalize World.alloc (World.setCell w5 _ _) _ = w6 at *
  generalize w5.heap.size = bw at *
  clear hb3 hE4
  have hlt : B < w6.heap.size := hb6.lt
  have hq : World.cell? w6 ⟨B, 5, none⟩ = some (.slice none 0 0) := hb6.cell 5
  have hf := hb6.frozen 5
  have hG := setCell_grown w6 B 5 (.slice (some ⟨bh, 0, none⟩) 1 1)
  have hE7 : Ext wb _ := Below.setCell hE6 (p := ⟨B, 5, none⟩) (by show wb.heap.size ≤ B; exact HWb.out) (.slice (some ⟨bh, 0, none⟩) 1 1)
  have hH7 : Isa.Cmds _ _ _ := Row.grown hH6 hG (.inr (by simpa [Value.ownBlock] using Ne.symm hbh))
  have hW7 : Isa.Cmds _ _ _ := Row.grown hW6 hG (.inr (by simpa [Value.ownBlock] using Ne.symm hbw))
  have hb7 := hb6.set 5 (.slice (some ⟨bh, 0, none⟩) 1 1)
  clear hG
  go_upto_region 6 with fail
  clear hq hf hlt hE6 hH6 hW6 hb6
  generalize World.setCell w6 _ _ = w7 at *
  have hE6 : Ext wb w7 := hE7
  have hH6 := hH7
  have hW6 := hW7
  have hb6 := hb7
  clear hE7 hH7 hW7 hb7
  have hlt : B < w7.heap.size := hb6.lt
  have hq : World.cell? w7 ⟨B, 6, none⟩ = some (.slice none 0 0) := hb6.cell 6
  have hf := hb6.frozen 6
  have hG := setCell_grown w7 B 6 (.slice (some ⟨bh, 0, none⟩) 1 1)
  have hE7 : Ext wb _ := Below.setCell hE6 (p := ⟨B, 6, none⟩) (by show wb.heap.size ≤ B; exact HWb.out) (.slice (some ⟨bh, 0, none⟩) 1 1)
  have hH7 : Isa.Cmds _ _ _ := Row.grown hH6 hG (.inr (by simpa [Value.ownBlock] using Ne.symm hbh))
  have hW7 : Isa.Cmds _ _ _ := Row.grown hW6 hG (.inr (by simpa [Value.ownBlock] using Ne.symm hbw))
  have hb7 := hb6.set 6 (.slice (some ⟨bh, 0, none⟩) 1 1)
  clear hG
  go_upto_region 7 with fail
  clear hq hf hlt hE6 hH6 hW6 hb6
  generalize World.setCell w7 _ _ = w8 at *
  have hE6 : Ext wb w8 := hE7
  have hH6 := hH7
  have hW6 := hW7
  have hb6 := hb7
  clear hE7 hH7 hW7 hb7
  have y0 : World.cell? w8 ⟨B, 0, none⟩ = some (.slice (some ⟨w.heap.size, 0, none⟩) 1 1) := hb6.cell 0
  have y1 : World.cell? w8 ⟨B, 1, none⟩ = some (.slice none 0 0) := hb6.cell 1
  have y2 : World.cell? w8 ⟨B, 2, none⟩ = some (.slice (some ⟨b1, 0, none⟩) 1 1) := hb6.cell 2
  have y3 : World.cell? w8 ⟨B, 3, none⟩ = some (.slice (some ⟨bp, 0, none⟩) 1 1) := hb6.cell 3
  have y4 : World.cell? w8 ⟨B, 4, none⟩ = some (.slice (some ⟨bw, 0, none⟩) 2 2) := hb6.cell 4
  have y5 : World.cell? w8 ⟨B, 5, none⟩ = some (.slice (some ⟨bh, 0, none⟩) 1 1) := hb6.cell 5
  have y6 : World.cell? w8 ⟨B, 6, none⟩ = some (.slice (some ⟨bh, 0, none⟩) 1 1) := hb6.cell 6
  have hc := vcheck_calls (exV w.heap.size) (.slice (some ⟨bp, 0, none⟩) 1 1) (.slice (some ⟨bw, 0, none⟩) 2 2) (.slice (some ⟨bh, 0, none⟩) 1 1) (.slice (some ⟨bh, 0, none⟩) 1 1) [3] [cmW, cmH] [cmH] [cmH] w8 (HGb.out.ext hE6) (HPb.out.ext hE6) (fun z hz => by obtain rfl := List.mem_singleton.1 hz; simp [InK]) hW6 hH6 hH6
  rw [exV_one] at hc
  unfold MayP at hc
  have hone : (exV w.heap.size).oV = .slice (some ⟨b1, 0, none⟩) 1 1 := HO1.out
  rw [hone] at hc
  clear hone
  go_wp2_with fail
  refine hc.mono ?_
  rintro e w9 ⟨rfl, hX⟩
  have hX : Ext w8 w9 := hX
  replace hE6 := hE6.trans hX
  replace hH6 := hH6.below hX (Nat.le_refl _)
  replace hW6 := hW6.below hX (Nat.le_refl _)
  replace hb6 := hb6.ext hX
  clear hc hX
  clear y0 y1 y2 y3 y4 y5 y6
  have hlt : B < w9.heap.size := hb6.lt
  have hq : World.cell? w9 ⟨B, 4, none⟩ = some (.slice (some ⟨bw, 0, none⟩) 2 2) := hb6.cell 4
  have hf := hb6.frozen 4
  have hG := setCell_grown w9 B 4 (.slice (some ⟨bh, 0, none⟩) 1 1)
  have hE7 : Ext wb _ := Below.setCell hE6 (p := ⟨B, 4, none⟩) (by show wb.heap.size ≤ B; exact HWb.out) (.slice (some ⟨bh, 0, none⟩) 1 1)
  have hH7 : Isa.Cmds _ _ _ := Row.grown hH6 hG (.inr (by simpa [Value.ownBlock] using Ne.symm hbh))
  have hW7 : Isa.Cmds _ _ _ := Row.grown hW6 hG (.inr (by simpa [Value.ownBlock] using Ne.symm hbw))
  have hb7 := hb6.set 4 (.slice (some ⟨bh, 0, none⟩) 1 1)
  clear hG
  go_upto_region 9 with fail
  clear hq hf hlt hE6 hH6 hW6 hb6
  generalize World.setCell w9 _ _ = wa at *
  have hE6 : Ext wb wa := hE7
  have hH6 := hH7
  have hW6 := hW7
  have hb6 := hb7
  clear hE7 hH7 hW7 hb7
  have y0 : World.cell? wa ⟨B, 0, none⟩ = some (.slice (some ⟨w.heap.size, 0, none⟩) 1 1) := hb6.cell 0
  have y1 : World.cell? wa ⟨B, 1, none⟩ = some (.slice none 0 0) := hb6.cell 1
  have y2 : World.cell? wa ⟨B, 2, none⟩ = some (.slice (some ⟨b1, 0, none⟩) 1 1) := hb6.cell 2
  have y3 : World.cell? wa ⟨B, 3, none⟩ = some (.slice (some ⟨bp, 0, none⟩) 1 1) := hb6.cell 3
  have y4 : World.cell? wa ⟨B, 4, none⟩ = some (.slice (some ⟨bh, 0, none⟩) 1 1) := hb6.cell 4
  have y5 : World.cell? wa ⟨B, 5, none⟩ = some (.slice (some ⟨bh, 0, none⟩) 1 1) := hb6.cell 5
  have y6 : World.cell? wa ⟨B, 6, none⟩ = some (.slice (some ⟨bh, 0, none⟩) 1 1) := hb6.cell 6
  have hc := turns_calls (exV w.heap.size) (.slice (some ⟨bp, 0, none⟩) 1 1) (.slice (some ⟨bh, 0, none⟩) 1 1) (.slice (some ⟨bh, 0, none⟩) 1 1) (.slice (some ⟨bh, 0, none⟩) 1 1) [3] [cmH] [cmH] [cmH] wa (HGb.out.ext hE6) (HPb.out.ext hE6) (fun z hz => by obtain rfl := List.mem_singleton.1 hz; simp [InK]) hH6 hH6 hH6
  rw [exV_two] at hc
  unfold TurnP at hc
  have hone : (exV w.heap.size).oV = .slice (some ⟨b1, 0, none⟩) 1 1 := HO1.out
  rw [hone] at hc
  clear hone
  go_wp2_with fail
  refine hc.mono ?_
  rintro e wc ⟨rfl, hX⟩
  have hX : Ext wa wc := hX
  replace hE6 := hE6.trans hX
  replace hH6 := hH6.below hX (Nat.le_refl _)
  replace hW6 := hW6.below hX (Nat.le_refl _)
  replace hb6 := hb6.ext hX
  clear hc hX
  clear y0 y1 y2 y3 y4 y5 y6
  have y0 : World.cell? wc ⟨B, 0, none⟩ = some (.slice (some ⟨w.heap.size, 0, none⟩) 1 1) := hb6.cell 0
  have y1 : World.cell? wc ⟨B, 1, none⟩ = some (.slice none 0 0) := hb6.cell 1
  have y2 : World.cell? wc ⟨B, 2, none⟩ = some (.slice (some ⟨b1, 0, none⟩) 1 1) := hb6.cell 2
  have y3 : World.cell? wc ⟨B, 3, none⟩ = some (.slice (some ⟨bp, 0, none⟩) 1 1) := hb6.cell 3
  have y4 : World.cell? wc ⟨B, 4, none⟩ = some (.slice (some ⟨bh, 0, none⟩) 1 1) := hb6.cell 4
  have y5 : World.cell? wc ⟨B, 5, none⟩ = some (.slice (some ⟨bh, 0, none⟩) 1 1) := hb6.cell 5
  have y6 : World.cell? wc ⟨B, 6, none⟩ = some (.slice (some ⟨bh, 0, none⟩) 1 1) := hb6.cell 6
  have hc := vcheck_calls (exV w.heap.size) (.slice (some ⟨bp, 0, none⟩) 1 1) (.slice (some ⟨bh, 0, none⟩) 1 1) (.slice (some ⟨bh, 0, none⟩) 1 1) (.slice (some ⟨bh, 0, none⟩) 1 1) [3] [cmH] [cmH] [cmH] wc (HGb.out.ext hE6) (HPb.out.ext hE6) (fun z hz => by obtain rfl := List.mem_singleton.1 hz; simp [InK]) hH6 hH6 hH6
  rw [exV_three] at hc
  unfold MayP at hc
  have hone : (exV w.heap.size).oV = .slice (some ⟨b1, 0, none⟩) 1 1 := HO1.out
  rw [hone] at hc
  clear hone
  go_wp2_with fail
  refine hc.mono ?_
  rintro e wd ⟨rfl, hX⟩
  have hX : Ext wc wd := hX
  replace hE6 := hE6.trans hX
  replace hH6 := hH6.below hX (Nat.le_refl _)
  replace hW6 := hW6.below hX (Nat.le_refl _)
  replace hb6 := hb6.ext hX
  clear hc hX
  clear y0 y1 y2 y3 y4 y5 y6
  have HF := Lib.hid (HEb.out.trans hE6)
  clear hE6 hH6 hW6 hb6
  go_wp2_with fail
  go_ret
  exact ⟨rfl, HF.out⟩

end Go.Proofs.Ytmddlhfahfelpaa

namespace Go.Proofs.Ytmddlhfahfelpaa.Isa
set_option maxRecDepth 10000
open Go.RowKit

/-- The first bytes of a number are laid down. -/
def GrewBe (w : World) (base : Nat) (v : Value) (bs : List Int) (x : Int) (wide j : Nat) (w' : World) (v' : Value) : Prop := Grew w base 5 1 v (bs ++ (be x wide).take j).length ((bs ++ (be x wide).take j).map (.int .u8)) w' v'
/-- Which byte is next. -/
def Idx (wide j : Nat) (i : Value) : Prop := i = .int .i64 ((wide : Int) - 1 - (j : Int))

end Go.Proofs.Ytmddlhfahfelpaa.Isa

namespace Go.Proofs.Ytmddlhfahfelpaa.Isa
set_option maxRecDepth 10000
open Go.RowKit

/-- A number of bytes, the highest first. -/
def numOf (l : List Int) : Int := l.foldl (fun x c => 256 * x + c) 0

theorem setCell_grown (w : World) (a : Addr) (v : Value) : w.grownBy (w.setCell a v) (some a.block) :=
  ⟨rfl, rfl, rfl, by simp, fun k _ hk => Below.heap_setCell w a v k (fun e => hk (by rw [e]))⟩

theorem _root_.Go.Proofs.Ytmddlhfahfelpaa.Ints.setCell {w : World} {k : IntKind} {v : Value} {zs : List Int} (h : Ints k w v zs) {b : Nat} (hb : zs = [] ∨ v.ownBlock ≠ some b) (o : Nat) (u : Value) : Ints k (w.setCell ⟨b, o, none⟩ u) v zs := by
  rcases hb with rfl | hb
  · obtain ⟨A, c, e, h1, h2, h3, _⟩ := h
    exact ⟨A, c, e, h1, h2, h3, At.nil _ _⟩
  · exact Row.setCell h hb o u

theorem _root_.Go.Proofs.Ytmddlhfahfelpaa.Ints.lt {w : World} {k : IntKind} {v : Value} {zs : List Int} (h : Ints k w v zs) : zs = [] ∨ ∀ j, v.ownBlock = some j → j < w.heap.size := by
  cases zs with
  | nil => exact Or.inl rfl
  | cons z zs =>
    obtain ⟨j, h1, h2⟩ := Row.lt h (by simp)
    exact Or.inr fun i hi => by rw [h1] at hi; cases hi; exact h2

theorem setRow_grown (w : World) (g : Nat) (cs : Array Value) : w.grownBy (w.setRow g cs) (some g) := ⟨rfl, rfl, rfl, by simp, fun k _ hk => setRow_other w g k cs (fun e => hk (by rw [e]))⟩

end Go.Proofs.Ytmddlhfahfelpaa.Isa
