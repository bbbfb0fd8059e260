/- The walk of the head of the laws of images: the document's example. -/
/- The walk of the law ImageTakes. -/
import Derived.Test.YtdhdbmfipkppiaaGreatTka
import Derived.Test.YtdhdbmfipkppiaaGreatVok
import Derived.Test.YtdhdbmfipkppiaaGreatTzc
set_option linter.unusedSimpArgs false
set_option linter.unusedVariables false
set_option linter.unnecessarySimpa false
namespace Go.Proofs.YtdhdbmfipkppiaaGreat
open Go.RowKit

def exI (b : Nat) : Gr := ⟨.slice (some ⟨b, 0, none⟩) 1 1, .slice none 0 0, .slice (some ⟨b + 1, 0, none⟩) 1 1, [⟨⟨1, 1, 1⟩, 0⟩], [], [0]⟩
theorem exI_may (b : Nat) : mayI (exI b) [5] [] [] [] = 0 := rfl
theorem exI_len (b : Nat) : (seal_ (imgB (exI b) [5] [] [] [])).length = 21 := by
  unfold seal_
  rw [List.length_append, le4_length]
  rfl

theorem exI_at (w : World) : GrAt ((w.alloc (.cells #[.int .i64 1, .int .i64 1, .int .i64 1, .int .i64 0] 41)).alloc (.cells #[.int .i64 0] 3)) (exI w.heap.size) := by
  have h1 : Vls (w.alloc (.cells #[.int .i64 1, .int .i64 1, .int .i64 1, .int .i64 0] 41)) (.slice (some ⟨w.heap.size, 0, none⟩) 1 1) [⟨⟨1, 1, 1⟩, 0⟩] := row_new w _ 41 1 4 rfl (by decide)
  have h2 := row_new (w.alloc (.cells #[.int .i64 1, .int .i64 1, .int .i64 1, .int .i64 0] 41)) #[.int .i64 0] 3 1 1 rfl (by decide)
  rw [show (w.alloc (.cells #[.int .i64 1, .int .i64 1, .int .i64 1, .int .i64 0] 41)).heap.size = w.heap.size + 1 from by simp] at h2
  exact ⟨h1.ext (ext_alloc _ _), row_nil _ _, h2, (fun n hn => by cases hn), (by show 1 ≤ 255; omega), (by show 0 ≤ 255; omega), (by show 1 ≤ 255; omega)⟩

theorem cmds_nil (w : World) : Isa.Cmds w (.slice none 0 0) [] := row_nil w _

set_option maxRecDepth 8000 in
set_option maxHeartbeats 3200000 in
theorem shown09_calls (w : World) : Calls Tryz.prog 4 #[] w fun e w' => e = .returned (.bool true) ∧ Ext w w' := by
  have hg0 := exI_at w
  have hE0 := (ext_alloc w (.cells #[.int .i64 1, .int .i64 1, .int .i64 1, .int .i64 0] 41)).trans (ext_alloc _ (.cells #[.int .i64 0] 3))
  have hsz : ((w.alloc (.cells #[.int .i64 1, .int .i64 1, .int .i64 1, .int .i64 0] 41)).alloc (.cells #[.int .i64 0] 3)).heap.size = w.heap.size + 1 + 1 := by simp
  obtain ⟨w1, hw1⟩ : ∃ w1, (w.alloc (.cells #[.int .i64 1, .int .i64 1, .int .i64 1, .int .i64 0] 41)).alloc (.cells #[.int .i64 0] 3) = w1 := ⟨_, rfl⟩
  rw [hw1] at hg0 hE0 hsz
  have hz := Blk.new w1 #[.slice none 0 0, .slice none 0 0, .slice none 0 0] 28
  have hb : Blk ((w1.alloc (.cells #[.slice none 0 0, .slice none 0 0, .slice none 0 0] 28)).setRow w1.heap.size #[.slice (some ⟨w.heap.size, 0, none⟩) 1 1, .slice none 0 0, .slice (some ⟨w.heap.size + 1, 0, none⟩) 1 1]) w1.heap.size #[.slice (some ⟨w.heap.size, 0, none⟩) 1 1, .slice none 0 0, .slice (some ⟨w.heap.size + 1, 0, none⟩) 1 1] 28 := setRow_heap _ _ _ _ _ _ hz
  have hQ : Ext w1 ((w1.alloc (.cells #[.slice none 0 0, .slice none 0 0, .slice none 0 0] 28)).setRow w1.heap.size #[.slice (some ⟨w.heap.size, 0, none⟩) 1 1, .slice none 0 0, .slice (some ⟨w.heap.size + 1, 0, none⟩) 1 1]) := ext_setRow (ext_alloc _ _) _ (Nat.le_refl _)
  subst hw1
  rw [hsz] at hz hb hQ
  have HG := Lib.hid (hg0.ext hQ)
  have HE := Lib.hid (hE0.trans hQ)
  clear hg0 hE0 hQ hsz
  go_enter Tryz.func4, Tryz.ntmps4
  go_upto_region 2 with (refine wpList_store_row rfl 28 _ _ rfl (w.heap.size + 1 + 1) #[.slice (some ⟨w.heap.size, 0, none⟩) 1 1, .slice none 0 0, .slice (some ⟨w.heap.size + 1, 0, none⟩) 1 1] rfl rfl 28 _ hz (by kernel_rfl) rfl (by simp [Value.oneCell']) ?_)
  clear hz
  generalize World.setRow (World.alloc (World.alloc (World.alloc w _) _) _) _ _ = w2 at *
  have c0 : World.cell? w2 ⟨w.heap.size + 1 + 1, 0, none⟩ = some (.slice (some ⟨w.heap.size, 0, none⟩) 1 1) := hb.cell 0
  have c1 : World.cell? w2 ⟨w.heap.size + 1 + 1, 1, none⟩ = some (.slice none 0 0) := hb.cell 1
  have c2 : World.cell? w2 ⟨w.heap.size + 1 + 1, 2, none⟩ = some (.slice (some ⟨w.heap.size + 1, 0, none⟩) 1 1) := hb.cell 2
  have hp : Ints .i64 (w2.alloc (.cells #[.int .i64 5] 3)) (.slice (some ⟨w2.heap.size, 0, none⟩) 1 1) [5] := row_new w2 _ 3 1 1 rfl (by decide)
  have hE3 := ext_alloc w2 (.cells #[.int .i64 5] 3)
  have hput := iput_calls (exI w.heap.size) (.slice (some ⟨w2.heap.size, 0, none⟩) 1 1) (.slice none 0 0) (.slice none 0 0) (.slice none 0 0) [5] [] [] [] _ (HG.out.ext hE3) hp (fun z hz => by obtain rfl := List.mem_singleton.1 hz; simp [InK]) (cmds_nil _) (cmds_nil _) (cmds_nil _) (by simp) (by simp) (by simp)
  unfold IPutPost at hput
  have h4 := HE.out.trans hE3
  clear hb hp hE3
  go_wp2_with fail
  refine hput.mono ?_
  rintro e w4 ⟨hA, _, hE4⟩
  obtain ⟨v, rfl, hob⟩ := hA (exI_may _)
  obtain ⟨A, c, rfl, _⟩ := row_of_own hob
  rw [exI_len]
  have HH := Lib.hid (h4.trans hE4)
  clear hput hA hob c0 c1 c2 h4 hE4
  go_wp2_with fail
  go_ret
  exact ⟨rfl, HH.out⟩

end Go.Proofs.YtdhdbmfipkppiaaGreat

namespace Go.Proofs.YtdhdbmfipkppiaaGreat
set_option maxRecDepth 10000
open Go.RowKit

def zeroT : Gr := ⟨.slice none 0 0, .slice none 0 0, .slice none 0 0, [], [], []⟩
theorem zeroT_at (w : World) : GrAt w zeroT := ⟨row_nil _ _, row_nil _ _, row_nil _ _, (fun n hn => by cases hn), (by show 0 ≤ 255; omega), (by show 0 ≤ 255; omega), (by show 0 ≤ 255; omega)⟩
/-- What Take answers, in one form. -/
def tzC (bs : List Int) : Gc := match takeI bs with | none => zeroT.c | some q => q.1
def tzP (bs : List Int) : List Int := match takeI bs with | none => [] | some q => q.2.1
def tzL (bs : List Int) : List (List Isa.Cm) := match takeI bs with | none => [] | some q => q.2.2
def tzE (bs : List Int) : Int := match takeI bs with | none => 2 | some _ => 0
structure ImAt (w : World) (g : Gr) (pV s0 s1 s2 : Value) (pl : List Int) (Ls : List (List Isa.Cm)) : Prop where
  gr : GrAt w g
  pl : Ints .i64 w pV pl
  s0 : Isa.Cmds w s0 (Ls[0]?.getD [])
  s1 : Isa.Cmds w s1 (Ls[1]?.getD [])
  s2 : Isa.Cmds w s2 (Ls[2]?.getD [])
theorem ImAt.ext {w W : World} {g : Gr} {pV s0 s1 s2 : Value} {pl : List Int} {Ls : List (List Isa.Cm)} (h : ImAt w g pV s0 s1 s2 pl Ls) (e : Ext w W) : ImAt W g pV s0 s1 s2 pl Ls :=
  ⟨h.gr.ext e, h.pl.ext e, h.s0.below e (Nat.le_refl _), h.s1.below e (Nat.le_refl _), h.s2.below e (Nat.le_refl _)⟩
theorem ImAt.one {w : World} {g : Gr} {pV s0 s1 s2 : Value} {pl : List Int} {Ls : List (List Isa.Cm)} (h : ImAt w g pV s0 s1 s2 pl Ls) : Array.all #[g.iV, g.nV, g.oV, pV, s0, s1, s2] (·.oneCell') = true := by
  obtain ⟨_, _, e1, _⟩ := h.gr.ins
  obtain ⟨_, _, e2, _⟩ := h.gr.nodes
  obtain ⟨_, _, e3, _⟩ := h.gr.outs
  obtain ⟨_, _, e4, _⟩ := h.pl
  obtain ⟨_, _, e5, _⟩ := id (show Row _ _ _ _ _ from h.s0)
  obtain ⟨_, _, e6, _⟩ := id (show Row _ _ _ _ _ from h.s1)
  obtain ⟨_, _, e7, _⟩ := id (show Row _ _ _ _ _ from h.s2)
  rw [e1, e2, e3, e4, e5, e6, e7]
  simp [Value.oneCell']
theorem itake_any {bs : List Int} {w : World} {e : Ending} {w' : World} (h : TakeIPost bs w e w') : ∃ (g : Gr) (pV s0 s1 s2 : Value), g.c = tzC bs ∧ e = .returned (.tuple #[.agg #[g.iV, g.nV, g.oV, pV, s0, s1, s2], .int .i64 (tzE bs)]) ∧
    ImAt w' g pV s0 s1 s2 (tzP bs) (tzL bs) ∧ Ext w w' := by
  obtain ⟨h1, h2, h3⟩ := h
  unfold tzC tzP tzL tzE
  cases ht : takeI bs with
  | none => exact ⟨zeroT, _, _, _, _, rfl, h1 ht, ⟨zeroT_at _, row_nil _ _, row_nil _ _, row_nil _ _, row_nil _ _⟩, h3⟩
  | some q =>
    obtain ⟨c, pl, Ls⟩ := q
    obtain ⟨g, pV, s0, s1, s2, k1, k2, k3, k4, k5, k6, k7⟩ := h2 c pl Ls ht
    exact ⟨g, pV, s0, s1, s2, k1, k2, ⟨k3, k4, k5, k6, k7⟩, h3⟩

set_option maxRecDepth 20000 in
set_option maxHeartbeats 6400000 in
theorem imageTakes_calls (vb : Value) (zs : List Int) (w : World) (hb : Ints .u8 w vb zs) (hz0 : ∀ z ∈ zs, InK .u8 z) :
    Calls Tryz.prog 3 #[vb] w fun e w' => e = .returned (.bool true) ∧ Below w.heap.size w w' := by
  have hz : BytesL zs := hz0
  clear hz0
  obtain ⟨B, d, rfl, hld, hdm, _⟩ := id hb.form
  unfold maxLen at hdm
  have hsh := fun W => shown09_calls W
  go_enter Tryz.func3, Tryz.ntmps3
  go_wp2_with fail
  refine (hsh _).mono ?_
  rintro e w1 ⟨rfl, hE1⟩
  have hE1 : Ext w w1 := hE1
  have i2 := Ints.first (hb.ext hE1) (m := min zs.length 20000) (by omega)
  have hz2 : BytesL (zs.take (min zs.length 20000)) := fun z h => hz z (List.mem_of_mem_take h)
  have hl2 : (zs.take (min zs.length 20000)).length = min zs.length 20000 := by rw [List.length_take]; omega
  have hyd0 : (zs.take (min zs.length 20000)).length ≤ d := by omega
  clear hb hz hsh
  rcases Nat.lt_or_ge 20000 zs.length with hA | hA
  all_goals
    obtain ⟨N, hN⟩ : ∃ N, N = min zs.length 20000 := ⟨_, rfl⟩
    rw [← hN] at i2 hz2 hl2 hyd0
    first
      | (have hN2 : N = 20000 := by omega
         subst hN2)
      | (have hN2 : zs.length = N := by omega
         rw [hN2] at hA ⊢
         clear hN2)
    clear hN
    generalize zs.take _ = ys at *
    have HL2 := Lib.hid hl2
    have hy5 : ys.length ≤ 20000 := by omega
    have hyd : ys.length ≤ d := hyd0
    clear hl2 hyd0
    go_wp2_with (at_builtin; refine stopped ?_)
    refine wpList_append_fresh rfl rfl elem_u8 rfl (by rw [← HL2.out] at i2; exact i2) (by rw [HL2.out]; rfl) (one_ints _ _) (by omega) (by omega) ?_
    intro v3 w3 hown3 hE3
    have h3 : Ext w w3 := hE1.trans hE3
    have i3 := i2.ext hE3
    have hc := itake_calls v3 ys w3 (ints_of_own hown3) hz2 (by omega)
    clear hE3 hE1 hown3 i2
    go_wp2_with fail
    refine hc.mono ?_
    rintro e w4 hpost
    obtain ⟨g1, p1, a0, a1, a2, hg1, rfl, hI1, hE4⟩ := itake_any hpost
    clear hpost hc
    have hz4 := Blk.new w4 #[.slice none 0 0, .slice none 0 0, .slice none 0 0, .slice none 0 0, .slice none 0 0, .slice none 0 0, .slice none 0 0] 32
    have hQ : Ext w4 ((w4.alloc (.cells #[.slice none 0 0, .slice none 0 0, .slice none 0 0, .slice none 0 0, .slice none 0 0, .slice none 0 0, .slice none 0 0] 32)).setRow w4.heap.size #[g1.iV, g1.nV, g1.oV, p1, a0, a1, a2]) := ext_setRow (ext_alloc _ _) _ (Nat.le_refl _)
    have hb1 : Blk ((w4.alloc (.cells #[.slice none 0 0, .slice none 0 0, .slice none 0 0, .slice none 0 0, .slice none 0 0, .slice none 0 0, .slice none 0 0] 32)).setRow w4.heap.size #[g1.iV, g1.nV, g1.oV, p1, a0, a1, a2]) w4.heap.size #[g1.iV, g1.nV, g1.oV, p1, a0, a1, a2] 32 := setRow_heap _ _ _ _ _ _ hz4
    have HO := Lib.hid hI1.one
    go_upto_region 5 with (refine wpList_store_row rfl 32 _ _ rfl w4.heap.size #[g1.iV, g1.nV, g1.oV, p1, a0, a1, a2] rfl rfl 32 _ hz4 (by kernel_rfl) rfl HO.out ?_)
    have h5 := (h3.trans hE4).trans hQ
    replace hI1 := hI1.ext hQ
    have i5 := (i3.ext hE4).ext hQ
    clear hz4 hQ hE4 HO h3 i3
    generalize World.setRow (w4.alloc _) _ _ = w5 at *
    generalize w4.heap.size = b1 at *
    have hc := ritake_calls _ ys w5 (by rw [← HL2.out] at i5; exact i5) hz2 (by omega)
    rw [HL2.out] at hc
    go_wp2_with fail
    refine hc.mono ?_
    rintro e w6 hpost
    obtain ⟨g2, p2, c0, c1, c2, hg2, rfl, hI2, hE6⟩ := itake_any hpost
    clear hpost hc
    have hz6 := Blk.new w6 #[.slice none 0 0, .slice none 0 0, .slice none 0 0, .slice none 0 0, .slice none 0 0, .slice none 0 0, .slice none 0 0] 32
    have hQ : Ext w6 ((w6.alloc (.cells #[.slice none 0 0, .slice none 0 0, .slice none 0 0, .slice none 0 0, .slice none 0 0, .slice none 0 0, .slice none 0 0] 32)).setRow w6.heap.size #[g2.iV, g2.nV, g2.oV, p2, c0, c1, c2]) := ext_setRow (ext_alloc _ _) _ (Nat.le_refl _)
    have hb2 : Blk ((w6.alloc (.cells #[.slice none 0 0, .slice none 0 0, .slice none 0 0, .slice none 0 0, .slice none 0 0, .slice none 0 0, .slice none 0 0] 32)).setRow w6.heap.size #[g2.iV, g2.nV, g2.oV, p2, c0, c1, c2]) w6.heap.size #[g2.iV, g2.nV, g2.oV, p2, c0, c1, c2] 32 := setRow_heap _ _ _ _ _ _ hz6
    have HO := Lib.hid hI2.one
    go_upto_region 6 with (refine wpList_store_row rfl 32 _ _ rfl w6.heap.size #[g2.iV, g2.nV, g2.oV, p2, c0, c1, c2] rfl rfl 32 _ hz6 (by kernel_rfl) rfl HO.out ?_)
    have h7 := (h5.trans hE6).trans hQ
    replace hI1 := (hI1.ext hE6).ext hQ
    replace hb1 := (hb1.ext hE6).ext hQ
    replace hI2 := hI2.ext hQ
    clear hz6 hQ hE6 HO h5 i5
    generalize World.setRow (w6.alloc _) _ _ = w7 at *
    generalize w6.heap.size = b2 at *
    have hs := rsame_calls g1 g2 p1 a0 a1 a2 p2 c0 c1 c2 (tzP ys) _ _ _ w7 (by rw [hg1, hg2]) hI1.gr hI2.gr hI1.pl hI2.pl hI1.s0 hI1.s1 hI1.s2 hI2.s0 hI2.s1 hI2.s2
    unfold RSameP at hs
    have q10 : World.cell? w7 ⟨b1, 0, none⟩ = some (g1.iV) := hb1.cell 0
    have q11 : World.cell? w7 ⟨b1, 1, none⟩ = some (g1.nV) := hb1.cell 1
    have q12 : World.cell? w7 ⟨b1, 2, none⟩ = some (g1.oV) := hb1.cell 2
    have q13 : World.cell? w7 ⟨b1, 3, none⟩ = some (p1) := hb1.cell 3
    have q14 : World.cell? w7 ⟨b1, 4, none⟩ = some (a0) := hb1.cell 4
    have q15 : World.cell? w7 ⟨b1, 5, none⟩ = some (a1) := hb1.cell 5
    have q16 : World.cell? w7 ⟨b1, 6, none⟩ = some (a2) := hb1.cell 6
    have q20 : World.cell? w7 ⟨b2, 0, none⟩ = some (g2.iV) := hb2.cell 0
    have q21 : World.cell? w7 ⟨b2, 1, none⟩ = some (g2.nV) := hb2.cell 1
    have q22 : World.cell? w7 ⟨b2, 2, none⟩ = some (g2.oV) := hb2.cell 2
    have q23 : World.cell? w7 ⟨b2, 3, none⟩ = some (p2) := hb2.cell 3
    have q24 : World.cell? w7 ⟨b2, 4, none⟩ = some (c0) := hb2.cell 4
    have q25 : World.cell? w7 ⟨b2, 5, none⟩ = some (c1) := hb2.cell 5
    have q26 : World.cell? w7 ⟨b2, 6, none⟩ = some (c2) := hb2.cell 6
    clear hI1 hI2 hb1 hb2 hg1 hg2
    generalize tzE ys = ez at *
    go_wp2_with fail
    refine hs.mono ?_
    rintro e w8 ⟨rfl, hE8⟩
    have h8 : Ext w w8 := h7.trans hE8
    clear q10 q11 q12 q13 q14 q15 q16 q20 q21 q22 q23 q24 q25 q26 hs hE8 h7
    go_wp2_with fail
    go_ret
    exact ⟨by simp, h8⟩

end Go.Proofs.YtdhdbmfipkppiaaGreat
