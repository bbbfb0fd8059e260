/- The walk of less of the images' statements: an image of at most so many values, and streams of 40 commands. -/
import Derived.Test.YtmddlhfahfelpaaRgk
import Derived.Test.YtmddlhfahfelpaaNsaP
import Derived.Test.YtmddlhfahfelpaaCut
set_option linter.unusedSimpArgs false
set_option linter.unusedVariables false
set_option linter.unnecessarySimpa false
namespace Go.Proofs.Ytmddlhfahfelpaa
open Go.RowKit

def OwnNd (w W : World) (v : Value) (ns : List Nd) : Prop := W.ownsRow (w.heap.size + 1 + 1 + 1) 51 14 v ns.length (ns.flatMap Nd.cs)
def pick4 (a b c d : Array Value) (j : Nat) : Array Value := if j = 0 then a else if j = 1 then b else if j = 2 then c else d

def LessJPost (w0 w : World) (pl : List Int) (L0 L1 L2 : List Isa.Cm) (e : Ending) (w' : World) : Prop := ∃ (g' : Gr) (pV' t0 t1 t2 : Value) (pl' : List Int), e = .returned (.agg #[g'.iV, g'.nV, g'.oV, pV', t0, t1, t2]) ∧ GrL w0 (w.heap.size + 1 + 1 + 1) w' g' ∧ Ints .i64 w0 pV' pl' ∧ (∀ z ∈ pl', z ∈ pl) ∧ pl'.length ≤ 30 ∧ Isa.Cmds w0 t0 (L0.take 40) ∧ Isa.Cmds w0 t1 (L1.take 40) ∧ Isa.Cmds w0 t2 (L2.take 40) ∧ Ext w w'

set_option maxRecDepth 8000 in
set_option maxHeartbeats 12800000 in
theorem less20_calls (g : Gr) (pV s0 s1 s2 : Value) (pl : List Int) (L0 L1 L2 : List Isa.Cm) (w0 w : World) (hg0 : GrIn w0 g) (hp0 : Ints .i64 w0 pV pl) (hs0 : Isa.Cmds w0 s0 L0) (hs1 : Isa.Cmds w0 s1 L1) (hs2 : Isa.Cmds w0 s2 L2) (hE0 : Ext w0 w) :
    Calls Try.prog 6 #[.agg #[g.iV, g.nV, g.oV, pV, s0, s1, s2]] w (LessJPost w0 w pl L0 L1 L2) := by
  have HP : Hid (∀ e w', (∃ (g' : Gr) (pV' t0 t1 t2 : Value) (pl' : List Int), e = .returned (.agg #[g'.iV, g'.nV, g'.oV, pV', t0, t1, t2]) ∧ GrL w0 (w.heap.size + 1 + 1 + 1) w' g' ∧ Ints .i64 w0 pV' pl' ∧ (∀ z ∈ pl', z ∈ pl) ∧ pl'.length ≤ 30 ∧ Isa.Cmds w0 t0 (L0.take 40) ∧ Isa.Cmds w0 t1 (L1.take 40) ∧ Isa.Cmds w0 t2 (L2.take 40) ∧ Ext w w') → LessJPost w0 w pl L0 L1 L2 e w') := fun e w' h => h
  generalize LessJPost w0 w pl L0 L1 L2 = PP at *
  have HS0 := Lib.hid hs0
  have HS1 := Lib.hid hs1
  have HS2 := Lib.hid hs2
  clear hs0 hs1 hs2
  have HG := Lib.hid hg0
  have HPL := Lib.hid hp0
  clear hp0
  have hg := hg0.ext hE0
  obtain ⟨hi, hn, ho, _⟩ := hg
  have hea := hg0.each
  clear hg0
  obtain ⟨An, cn, en, hn1, hn2, _⟩ := id (SRow.form hn (fun _ => rfl) (by omega))
  obtain ⟨Ao, co, eo, ho1, ho2, _⟩ := id ho.form
  obtain ⟨Ai, ci, ei, hi1, hi2, _⟩ := id hi.form
  unfold maxLen at hi2 hn2 ho2
  have EN := Lib.hid en
  have EO := Lib.hid eo
  have EI := Lib.hid ei
  clear en eo ei
  have hE1 := ((ext_alloc w (.cells #[g.iV, g.nV, g.oV, pV, s0, s1, s2] 30)).trans (ext_alloc _ (.cells #[.slice none 0 0, .slice none 0 0, .slice none 0 0, .slice none 0 0, .slice none 0 0, .slice none 0 0, .slice none 0 0] 30)))
  have hx1 := (Blk.new w #[g.iV, g.nV, g.oV, pV, s0, s1, s2] 30).ext (ext_alloc _ (.cells #[.slice none 0 0, .slice none 0 0, .slice none 0 0, .slice none 0 0, .slice none 0 0, .slice none 0 0, .slice none 0 0] 30))
  have hx2 := Blk.new (w.alloc (.cells #[g.iV, g.nV, g.oV, pV, s0, s1, s2] 30)) #[.slice none 0 0, .slice none 0 0, .slice none 0 0, .slice none 0 0, .slice none 0 0, .slice none 0 0, .slice none 0 0] 30
  rw [show (w.alloc (.cells #[g.iV, g.nV, g.oV, pV, s0, s1, s2] 30)).heap.size = w.heap.size + 1 from by simp] at hx2
  have hb2 : Two w _ #[g.iV, g.nV, g.oV, pV, s0, s1, s2] := ⟨hx1, hx2⟩
  clear hx1 hx2
  go_enter Try.func6, Try.ntmps6
  go_upto_region 1 with fail
  have hsz : ((w.alloc (.cells #[g.iV, g.nV, g.oV, pV, s0, s1, s2] 30)).alloc (.cells #[.slice none 0 0, .slice none 0 0, .slice none 0 0, .slice none 0 0, .slice none 0 0, .slice none 0 0, .slice none 0 0] 30)).heap.size = w.heap.size + 1 + 1 := by simp
  generalize World.alloc (World.alloc w _) _ = w1 at *
  have g0 : World.cell? w1 ⟨w.heap.size, 0, none⟩ = some g.iV := hb2.1.cell 0
  have g1 : World.cell? w1 ⟨w.heap.size, 1, none⟩ = some g.nV := hb2.1.cell 1
  have g2 : World.cell? w1 ⟨w.heap.size, 2, none⟩ = some g.oV := hb2.1.cell 2
  have hz := Blk.new w1 #[.slice none 0 0, .slice none 0 0, .slice none 0 0] 26
  rw [hsz] at hz
  have hb1 : Blk ((w1.alloc (.cells #[.slice none 0 0, .slice none 0 0, .slice none 0 0] 26)).setRow (w.heap.size + 1 + 1) #[g.iV, g.nV, g.oV]) (w.heap.size + 1 + 1) #[g.iV, g.nV, g.oV] 26 := setRow_heap _ _ _ _ _ _ hz
  have hQ : Ext w1 ((w1.alloc (.cells #[.slice none 0 0, .slice none 0 0, .slice none 0 0] 26)).setRow (w.heap.size + 1 + 1) #[g.iV, g.nV, g.oV]) := ext_setRow (ext_alloc _ _) _ (by omega)
  have hone : Array.all #[g.iV, g.nV, g.oV] (·.oneCell') = true := by
    rw [EI.out, EN.out, EO.out]
    simp [Value.oneCell']
  have HO := Lib.hid hone
  replace hb2 := hb2.ext hQ
  replace hE1 := hE1.trans hQ
  clear hQ hone
  go_upto_region 2 with (refine wpList_store_row rfl 26 _ _ rfl (w.heap.size + 1 + 1) #[g.iV, g.nV, g.oV] rfl rfl 26 _ hz (by kernel_rfl) rfl HO.out ?_)
  clear g0 g1 g2 hz HO hsz
  generalize World.setRow (w1.alloc _) _ _ = w2 at *
  obtain ⟨im, him⟩ : ∃ im, im = #[g.iV, g.nV, g.oV, pV, s0, s1, s2] := ⟨_, rfl⟩
  rw [← him] at hb2
  have HIM := Lib.hid him
  clear him
  have g0 : World.cell? w2 ⟨w.heap.size + 1 + 1, 0, none⟩ = some (.slice Ai g.ins.length ci) := by rw [← EI.out]; exact hb1.cell 0
  go_upto_if 14 with fail
  go_cut [15] (fun _ wx => Blk wx (w.heap.size + 1 + 1) #[.slice Ai (min 6 g.ins.length) ci, g.nV, g.oV] 26 ∧ Two w wx im ∧ Ext w wx)
  case first =>
    have hf := hb1.frozen 0
    have hlt := hb1.lt
    by_cases h : 6 < g.ins.length
    · have hx : (Blk (w2.setCell ⟨w.heap.size + 1 + 1, 0, none⟩ (.slice Ai 6 ci)) (w.heap.size + 1 + 1) #[.slice Ai (min 6 g.ins.length) ci, g.nV, g.oV] 26 ∧ Two w (w2.setCell ⟨w.heap.size + 1 + 1, 0, none⟩ (.slice Ai 6 ci)) im ∧ Ext w (w2.setCell ⟨w.heap.size + 1 + 1, 0, none⟩ (.slice Ai 6 ci))) := by
        refine ⟨?_, hb2.set _ _, Below.setCell hE1 (by show w.heap.size ≤ w.heap.size + 1 + 1; omega) _⟩
        have := hb1.set 0 (.slice Ai 6 ci)
        rw [show min 6 g.ins.length = 6 by omega]
        simpa using this
      have HX := Lib.hid hx
      clear hx hb1 hb2 hE1
      go_wp2_with fail
      go_meet
      exact HX.out
    · have hx : Blk w2 (w.heap.size + 1 + 1) #[.slice Ai (min 6 g.ins.length) ci, g.nV, g.oV] 26 := by
        rw [show min 6 g.ins.length = g.ins.length by omega, ← EI.out]; exact hb1
      go_wp2_with fail
      go_meet
      exact ⟨hx, hb2, hE1⟩
  clear hb1 hb2 hE1 g0
  obtain ⟨hb1, hb2, hE1⟩ := hcut
  have g2 : World.cell? wc ⟨w.heap.size + 1 + 1, 2, none⟩ = some (.slice Ao g.outs.length co) := by rw [← EO.out]; exact hb1.cell 2
  go_upto_if 22 with fail
  go_cut [23] (fun _ wx => Blk wx (w.heap.size + 1 + 1) #[.slice Ai (min 6 g.ins.length) ci, g.nV, .slice Ao (min 6 g.outs.length) co] 26 ∧ Two w wx im ∧ Ext w wx)
  case first =>
    have hf := hb1.frozen 2
    have hlt := hb1.lt
    by_cases h : 6 < g.outs.length
    · have hx : (Blk (wc.setCell ⟨w.heap.size + 1 + 1, 2, none⟩ (.slice Ao 6 co)) (w.heap.size + 1 + 1) #[.slice Ai (min 6 g.ins.length) ci, g.nV, .slice Ao (min 6 g.outs.length) co] 26 ∧ Two w (wc.setCell ⟨w.heap.size + 1 + 1, 2, none⟩ (.slice Ao 6 co)) im ∧ Ext w (wc.setCell ⟨w.heap.size + 1 + 1, 2, none⟩ (.slice Ao 6 co))) := by
        refine ⟨?_, hb2.set _ _, Below.setCell hE1 (by show w.heap.size ≤ w.heap.size + 1 + 1; omega) _⟩
        have := hb1.set 2 (.slice Ao 6 co)
        rw [show min 6 g.outs.length = 6 by omega]
        simpa using this
      have HX := Lib.hid hx
      clear hx hb1 hb2 hE1
      go_wp2_with fail
      go_meet
      exact HX.out
    · have hx : Blk wc (w.heap.size + 1 + 1) #[.slice Ai (min 6 g.ins.length) ci, g.nV, .slice Ao (min 6 g.outs.length) co] 26 := by
        rw [show min 6 g.outs.length = g.outs.length by omega, ← EO.out]; exact hb1
      go_wp2_with fail
      go_meet
      exact ⟨hx, hb2, hE1⟩
  clear hb1 hb2 hE1 g2
  obtain ⟨hb1, hb2, hE1⟩ := hcut
  have hown0 := World.ownsRow_made (base := w.heap.size + 1 + 1 + 1) (e := 51) (size := 14) wc #[] 0 (by have := hb1.lt; omega) (Nat.zero_le _) (by simp)
  have hS0 : LessI w (wc.alloc (.cells #[] 51)) im #[.slice Ai (min 6 g.ins.length) ci, g.nV, .slice Ao (min 6 g.outs.length) co] (.slice (some ⟨wc.heap.size, 0, none⟩) 0 0) [] :=
    ⟨hb1.ext (ext_alloc _ _), hb2.ext (ext_alloc _ _), hown0, hE1.trans (ext_alloc _ _)⟩
  have g1 : World.cell? (wc.alloc (.cells #[] 51)) ⟨w.heap.size + 1 + 1, 1, none⟩ = some (.slice An g.nodes.length cn) := by rw [← EN.out]; exact hS0.box1.cell 1
  go_wp2_with fail
  clear g1
  generalize wc.alloc _ = wd at *
  generalize Value.slice (some ⟨wc.heap.size, 0, none⟩) 0 0 = v0 at *
  clear hown0 hb1 hb2 hE1
  refine cut_loop (fun a W => ∃ (v : Value) (ns : List Nd), LitA a (fun f => ({ tmps := #[f 0, .pointer (some ⟨w.heap.size, 0, none⟩), .pointer (some ⟨w.heap.size + 1, 0, none⟩), .pointer (some ⟨w.heap.size + 1 + 1, 0, none⟩), v, f 5, f 6, f 7, f 8, f 9, f 10, f 11, f 12, f 13, f 14, f 15, f 16, f 17, f 18, f 19, f 20, f 21, f 22, f 23, f 24, f 25, f 26, f 27, f 28, f 29, f 30, f 31, f 32, f 33, f 34, f 35, f 36, f 37, f 38, f 39, f 40, f 41, f 42, f 43, f 44, f 45, f 46, f 47, f 48, f 49, f 50, f 51, f 52, f 53, f 54, f 55, f 56, f 57, f 58, f 59, f 60, f 61, f 62, f 63, f 64, f 65, f 66, f 67, f 68, f 69, f 70, f 71, f 72, f 73, f 74, f 75, f 76, f 77, f 78, f 79, f 80, f 81, f 82, f 83, f 84, f 85, f 86, f 87, f 88, f 89, f 90, f 91, f 92, f 93, f 94, f 95, f 96, f 97, f 98, f 99, f 100, f 101, f 102, f 103, f 104, f 105, f 106, f 107, f 108, f 109, f 110, f 111], defers := [] } : Act)) ∧ ns.length ≤ 14 ∧ LessI w W im #[.slice Ai (min 6 g.ins.length) ci, g.nV, .slice Ao (min 6 g.outs.length) co] v ns ∧ ∀ n ∈ ns, nodeAt w0 n) (fun K hK => ?_) ?_
  rotate_left
  · rintro a wr ⟨v, ns, ⟨f, rfl⟩, hnk, hS, heach⟩
    obtain ⟨A3, c3, e3, hv1, hv2, _⟩ := row_of_own hS.own
    subst e3
    have hv := hS.own
    have hf := hS.box1.frozen 1
    have hlt1 := hS.box1.lt
    have g1 : World.cell? wr ⟨w.heap.size + 1 + 1, 1, none⟩ = some g.nV := hS.box1.cell 1
    have HEACH := Lib.hid heach
    clear hi hn ho hea heach
    go_upto_region 19 with fail
    have hE3 : Ext w (wr.setCell ⟨w.heap.size + 1 + 1, 1, none⟩ (.slice A3 ns.length c3)) := Below.setCell hS.ext (by show w.heap.size ≤ w.heap.size + 1 + 1; omega) _
    have hwz : (wr.setCell ⟨w.heap.size + 1 + 1, 1, none⟩ (.slice A3 ns.length c3)).ownsRow (w.heap.size + 1 + 1 + 1) 51 14 (.slice A3 ns.length c3) ns.length (ns.flatMap Nd.cs) := ownsRow_setCell_other hv (fun e => by have := (hv.lt _ e).1; simp only at this; omega) _
    have hx1 := hS.box1.set 1 (.slice A3 ns.length c3)
    have hx2 := hS.box2.set 1 (.slice A3 ns.length c3)
    clear hf hlt1 hS hv g1
    generalize World.setCell wr _ _ = wz at *
    obtain ⟨Ap, cp, ep, hp1, hp2, _⟩ := id HPL.out.form
    unfold maxLen at hp2
    have j0 : World.cell? wz ⟨w.heap.size + 1 + 1, 0, none⟩ = some (.slice Ai (min 6 g.ins.length) ci) := hx1.cell 0
    have j1 : World.cell? wz ⟨w.heap.size + 1 + 1, 1, none⟩ = some (.slice A3 ns.length c3) := hx1.cell 1
    have j2 : World.cell? wz ⟨w.heap.size + 1 + 1, 2, none⟩ = some (.slice Ao (min 6 g.outs.length) co) := hx1.cell 2
    have j3 : World.cell? wz ⟨w.heap.size, 1 + 2, none⟩ = some (.slice Ap pl.length cp) := by
      rw [hx2.1.cell, HIM.out, ← ep]; rfl
    have hlz := hx2.lt2
    have hz := Blk.new wz #[.slice none 0 0, .slice none 0 0, .slice none 0 0, .slice none 0 0, .slice none 0 0, .slice none 0 0, .slice none 0 0] 30
    have hb7 : Blk ((wz.alloc (.cells #[.slice none 0 0, .slice none 0 0, .slice none 0 0, .slice none 0 0, .slice none 0 0, .slice none 0 0, .slice none 0 0] 30)).setRow wz.heap.size #[.slice Ai (min 6 g.ins.length) ci, .slice A3 ns.length c3, .slice Ao (min 6 g.outs.length) co, .slice Ap pl.length cp, .slice none 0 0, .slice none 0 0, .slice none 0 0]) wz.heap.size #[.slice Ai (min 6 g.ins.length) ci, .slice A3 ns.length c3, .slice Ao (min 6 g.outs.length) co, .slice Ap pl.length cp, .slice none 0 0, .slice none 0 0, .slice none 0 0] 30 := setRow_heap _ _ _ _ _ _ hz
    have hQ : Ext wz ((wz.alloc (.cells #[.slice none 0 0, .slice none 0 0, .slice none 0 0, .slice none 0 0, .slice none 0 0, .slice none 0 0, .slice none 0 0] 30)).setRow wz.heap.size #[.slice Ai (min 6 g.ins.length) ci, .slice A3 ns.length c3, .slice Ao (min 6 g.outs.length) co, .slice Ap pl.length cp, .slice none 0 0, .slice none 0 0, .slice none 0 0]) := ext_setRow (ext_alloc _ _) _ (Nat.le_refl _)
    have EP := Lib.hid ep
    clear ep
    go_upto_region 20 with (refine wpList_store_row rfl 30 _ _ rfl wz.heap.size #[.slice Ai (min 6 g.ins.length) ci, .slice A3 ns.length c3, .slice Ao (min 6 g.outs.length) co, .slice Ap pl.length cp, .slice none 0 0, .slice none 0 0, .slice none 0 0] rfl rfl 30 _ hz (by kernel_rfl) rfl (by simp [Value.oneCell']) ?_)
    have hvb7 : (Value.slice A3 ns.length c3).ownBlock ≠ some wz.heap.size := fun e => by have := (hwz.lt _ e).2; omega
    have hw4 := World.ownsRow.kept (row := none) hwz (grown_of_ext hQ) (by cases (Value.slice A3 ns.length c3).ownBlock <;> simp)
    replace hE3 := hE3.trans hQ
    replace hx2 := hx2.ext hQ
    have hb7z : w.heap.size + 1 + 1 < wz.heap.size := hx1.lt
    clear hQ hz j0 j1 j2 j3 hx1 hwz
    generalize World.setRow (World.alloc wz _) _ _ = wy at *
    generalize wz.heap.size = b7 at *
    have HVB := Lib.hid hvb7
    clear hvb7
    have n3 : World.cell? wy ⟨b7, 3, none⟩ = some (.slice Ap pl.length cp) := hb7.cell 3
    go_upto_if 81 with fail
    refine cut_code (fun a W => ∃ n : Nat, LitA a (fun f => ({ tmps := #[f 0, .pointer (some ⟨w.heap.size, 0, none⟩), .pointer (some ⟨w.heap.size + 1, 0, none⟩), f 3, f 4, f 5, f 6, .pointer (some ⟨b7, 0, none⟩), f 8, f 9, f 10, f 11, f 12, f 13, f 14, f 15, f 16, f 17, f 18, f 19, f 20, f 21, f 22, f 23, f 24, f 25, f 26, f 27, f 28, f 29, f 30, f 31, f 32, f 33, f 34, f 35, f 36, f 37, f 38, f 39, f 40, f 41, f 42, f 43, f 44, f 45, f 46, f 47, f 48, f 49, f 50, f 51, f 52, f 53, f 54, f 55, f 56, f 57, f 58, f 59, f 60, f 61, f 62, f 63, f 64, f 65, f 66, f 67, f 68, f 69, f 70, f 71, f 72, f 73, f 74, f 75, f 76, f 77, f 78, f 79, f 80, f 81, f 82, f 83, f 84, f 85, f 86, f 87, f 88, f 89, f 90, f 91, f 92, f 93, f 94, f 95, f 96, f 97, f 98, f 99, f 100, f 101, f 102, f 103, f 104, f 105, f 106, f 107, f 108, f 109, f 110, f 111], defers := [] } : Act)) ∧ n ≤ 30 ∧ n ≤ pl.length ∧ Blk W b7 #[.slice Ai (min 6 g.ins.length) ci, .slice A3 ns.length c3, .slice Ao (min 6 g.outs.length) co, .slice Ap n cp, .slice none 0 0, .slice none 0 0, .slice none 0 0] 30 ∧ Two w W im ∧ W.ownsRow (w.heap.size + 1 + 1 + 1) 51 14 (.slice A3 ns.length c3) ns.length (ns.flatMap Nd.cs) ∧ Ext w W) (fun K2 hK2 => ?_) ?_
    · have HK2 := Lib.hid hK2
      clear hK2
      by_cases h30 : 30 < pl.length
      · have hf := hb7.frozen 3
        have hl7 := hb7.lt
        have HX : Hid (∀ a, LitA a (fun f => ({ tmps := #[f 0, .pointer (some ⟨w.heap.size, 0, none⟩), .pointer (some ⟨w.heap.size + 1, 0, none⟩), f 3, f 4, f 5, f 6, .pointer (some ⟨b7, 0, none⟩), f 8, f 9, f 10, f 11, f 12, f 13, f 14, f 15, f 16, f 17, f 18, f 19, f 20, f 21, f 22, f 23, f 24, f 25, f 26, f 27, f 28, f 29, f 30, f 31, f 32, f 33, f 34, f 35, f 36, f 37, f 38, f 39, f 40, f 41, f 42, f 43, f 44, f 45, f 46, f 47, f 48, f 49, f 50, f 51, f 52, f 53, f 54, f 55, f 56, f 57, f 58, f 59, f 60, f 61, f 62, f 63, f 64, f 65, f 66, f 67, f 68, f 69, f 70, f 71, f 72, f 73, f 74, f 75, f 76, f 77, f 78, f 79, f 80, f 81, f 82, f 83, f 84, f 85, f 86, f 87, f 88, f 89, f 90, f 91, f 92, f 93, f 94, f 95, f 96, f 97, f 98, f 99, f 100, f 101, f 102, f 103, f 104, f 105, f 106, f 107, f 108, f 109, f 110, f 111], defers := [] } : Act)) → K2 a (wy.setCell ⟨b7, 3, none⟩ (.slice Ap 30 cp))) :=
          fun a ha => HK2.out _ _ ⟨30, ha, by omega, by omega, by simpa using hb7.set 3 (.slice Ap 30 cp), hx2.setO (by omega) _ _, ownsRow_setCell_other (a := ⟨b7, 3, none⟩) hw4 HVB.out (.slice Ap 30 cp), Below.setCell hE3 (by show w.heap.size ≤ b7; omega) _⟩
        clear hb7 hx2 hw4 hE3 HK2
        go_wp2_with fail
        exact HX.out _ (.of rfl)
      · have HX : Hid (∀ a, LitA a (fun f => ({ tmps := #[f 0, .pointer (some ⟨w.heap.size, 0, none⟩), .pointer (some ⟨w.heap.size + 1, 0, none⟩), f 3, f 4, f 5, f 6, .pointer (some ⟨b7, 0, none⟩), f 8, f 9, f 10, f 11, f 12, f 13, f 14, f 15, f 16, f 17, f 18, f 19, f 20, f 21, f 22, f 23, f 24, f 25, f 26, f 27, f 28, f 29, f 30, f 31, f 32, f 33, f 34, f 35, f 36, f 37, f 38, f 39, f 40, f 41, f 42, f 43, f 44, f 45, f 46, f 47, f 48, f 49, f 50, f 51, f 52, f 53, f 54, f 55, f 56, f 57, f 58, f 59, f 60, f 61, f 62, f 63, f 64, f 65, f 66, f 67, f 68, f 69, f 70, f 71, f 72, f 73, f 74, f 75, f 76, f 77, f 78, f 79, f 80, f 81, f 82, f 83, f 84, f 85, f 86, f 87, f 88, f 89, f 90, f 91, f 92, f 93, f 94, f 95, f 96, f 97, f 98, f 99, f 100, f 101, f 102, f 103, f 104, f 105, f 106, f 107, f 108, f 109, f 110, f 111], defers := [] } : Act)) → K2 a wy) :=
          fun a ha => HK2.out _ _ ⟨pl.length, ha, by omega, by omega, hb7, hx2, hw4, hE3⟩
        clear hb7 hx2 hw4 hE3 HK2
        go_wp2_with fail
        exact HX.out _ (.of rfl)
    clear n3 hb7 hx2 hw4 hE3
    rintro a wx ⟨n, ⟨f2, rfl⟩, hn30, hnl, hb7, hx2, hw4, hE3⟩
    obtain ⟨S0, d0, f0, hd0, hd0', _⟩ := id (show Row _ _ _ _ _ from HS0.out)
    obtain ⟨S1, d1, f1, hd1, hd1', _⟩ := id (show Row _ _ _ _ _ from HS1.out)
    obtain ⟨S2, d2, f2, hd2, hd2', _⟩ := id (show Row _ _ _ _ _ from HS2.out)
    unfold maxLen at hd0' hd1' hd2'
    have F0 := Lib.hid f0
    have F1 := Lib.hid f1
    have F2 := Lib.hid f2
    clear f0 f1 f2
    go_wp2_with fail
    go_loopw [8] (fun i wr => ∃ k : Nat, k ≤ 3 ∧ i = .int .i64 k ∧ Blk wr b7 (pick4 #[.slice Ai (min 6 g.ins.length) ci, .slice A3 ns.length c3, .slice Ao (min 6 g.outs.length) co, .slice Ap n cp, .slice none 0 0, .slice none 0 0, .slice none 0 0] #[.slice Ai (min 6 g.ins.length) ci, .slice A3 ns.length c3, .slice Ao (min 6 g.outs.length) co, .slice Ap n cp, .slice S0 (min 40 L0.length) d0, .slice none 0 0, .slice none 0 0] #[.slice Ai (min 6 g.ins.length) ci, .slice A3 ns.length c3, .slice Ao (min 6 g.outs.length) co, .slice Ap n cp, .slice S0 (min 40 L0.length) d0, .slice S1 (min 40 L1.length) d1, .slice none 0 0] #[.slice Ai (min 6 g.ins.length) ci, .slice A3 ns.length c3, .slice Ao (min 6 g.outs.length) co, .slice Ap n cp, .slice S0 (min 40 L0.length) d0, .slice S1 (min 40 L1.length) d1, .slice S2 (min 40 L2.length) d2] k) 30 ∧ Two w wr im ∧ OwnNd w wr (Value.slice A3 ns.length c3) ns ∧ Ext w wr) (fun i _ => 3 - (intOf i).toNat)
    case atStart => exact ⟨0, by omega, rfl, hb7, hx2, hw4, hE3⟩
    case round =>
      clear hb7 hx2 hw4 hE3
      obtain ⟨k, hk, rfl, hB, hT, hW, hE⟩ := hrel
      rcases (by omega : k = 0 ∨ k = 1 ∨ k = 2 ∨ k = 3) with rfl | rfl | rfl | rfl
      · have c4 : World.cell? wr ⟨w.heap.size, 4, none⟩ = some (.slice S0 L0.length d0) := by rw [hT.1.cell, HIM.out, ← F0.out]; rfl
        replace hB : Blk wr b7 #[.slice Ai (min 6 g.ins.length) ci, .slice A3 ns.length c3, .slice Ao (min 6 g.outs.length) co, .slice Ap n cp, .slice none 0 0, .slice none 0 0, .slice none 0 0] 30 := hB
        have e4 : World.cell? wr ⟨b7, 4, none⟩ = some (.slice none 0 0) := hB.cell 4
        have hf := hB.frozen 4
        have hl7 := hB.lt
        have hm : Blk (wr.setCell ⟨b7, 4, none⟩ (.slice S0 L0.length d0)) b7 #[.slice Ai (min 6 g.ins.length) ci, .slice A3 ns.length c3, .slice Ao (min 6 g.outs.length) co, .slice Ap n cp, .slice S0 L0.length d0, .slice none 0 0, .slice none 0 0] 30 := by simpa using hB.set 4 (.slice S0 L0.length d0)
        have hTm := hT.setO (b := b7) (by omega) 4 (.slice S0 L0.length d0)
        have hEm : Ext w (wr.setCell ⟨b7, 4, none⟩ (.slice S0 L0.length d0)) := Below.setCell hE (by show w.heap.size ≤ b7; omega) _
        have hWm := ownsRow_setCell_other (a := ⟨b7, 4, none⟩) hW HVB.out (.slice S0 L0.length d0)
        clear hB hT hE hW
        go_upto_region 26 with fail
        clear c4 e4 hf hl7
        generalize World.setCell wr _ _ = w9 at *
        have c4 : World.cell? w9 ⟨b7, 4, none⟩ = some (.slice S0 L0.length d0) := hm.cell 4
        by_cases h3 : 40 < L0.length
        · have hf := hm.frozen 4
          have hl7 := hm.lt
          have hB2 : Blk (w9.setCell ⟨b7, 4, none⟩ (.slice S0 40 d0)) b7 #[.slice Ai (min 6 g.ins.length) ci, .slice A3 ns.length c3, .slice Ao (min 6 g.outs.length) co, .slice Ap n cp, .slice S0 (min 40 L0.length) d0, .slice none 0 0, .slice none 0 0] 30 := by
            have := hm.set 4 (.slice S0 40 d0)
            rw [show min 40 L0.length = 40 by omega]
            simpa using this
          have hT2 := hTm.setO (b := b7) (by omega) 4 (.slice S0 40 d0)
          have hE2 : Ext w (w9.setCell ⟨b7, 4, none⟩ (.slice S0 40 d0)) := Below.setCell hEm (by show w.heap.size ≤ b7; omega) _
          have hW2 := ownsRow_setCell_other (a := ⟨b7, 4, none⟩) hWm HVB.out (.slice S0 40 d0)
          clear hm hTm hEm hWm
          go_wp2_with fail
          go_roundw
          case rel => exact ⟨1, by omega, rfl, hB2, hT2, hW2, hE2⟩
          case measure => simp [intOf]
        · have hB2 : Blk w9 b7 #[.slice Ai (min 6 g.ins.length) ci, .slice A3 ns.length c3, .slice Ao (min 6 g.outs.length) co, .slice Ap n cp, .slice S0 (min 40 L0.length) d0, .slice none 0 0, .slice none 0 0] 30 := by
            rw [show min 40 L0.length = L0.length by omega]
            exact hm
          clear hm
          go_wp2_with fail
          go_roundw
          case rel => exact ⟨1, by omega, rfl, hB2, hTm, hWm, hEm⟩
          case measure => simp [intOf]
      · have c5 : World.cell? wr ⟨w.heap.size, 5, none⟩ = some (.slice S1 L1.length d1) := by rw [hT.1.cell, HIM.out, ← F1.out]; rfl
        replace hB : Blk wr b7 #[.slice Ai (min 6 g.ins.length) ci, .slice A3 ns.length c3, .slice Ao (min 6 g.outs.length) co, .slice Ap n cp, .slice S0 (min 40 L0.length) d0, .slice none 0 0, .slice none 0 0] 30 := hB
        have e5 : World.cell? wr ⟨b7, 5, none⟩ = some (.slice none 0 0) := hB.cell 5
        have hf := hB.frozen 5
        have hl7 := hB.lt
        have hm : Blk (wr.setCell ⟨b7, 5, none⟩ (.slice S1 L1.length d1)) b7 #[.slice Ai (min 6 g.ins.length) ci, .slice A3 ns.length c3, .slice Ao (min 6 g.outs.length) co, .slice Ap n cp, .slice S0 (min 40 L0.length) d0, .slice S1 L1.length d1, .slice none 0 0] 30 := by simpa using hB.set 5 (.slice S1 L1.length d1)
        have hTm := hT.setO (b := b7) (by omega) 5 (.slice S1 L1.length d1)
        have hEm : Ext w (wr.setCell ⟨b7, 5, none⟩ (.slice S1 L1.length d1)) := Below.setCell hE (by show w.heap.size ≤ b7; omega) _
        have hWm := ownsRow_setCell_other (a := ⟨b7, 5, none⟩) hW HVB.out (.slice S1 L1.length d1)
        clear hB hT hE hW
        go_upto_region 26 with fail
        clear c5 e5 hf hl7
        generalize World.setCell wr _ _ = w9 at *
        have c5 : World.cell? w9 ⟨b7, 5, none⟩ = some (.slice S1 L1.length d1) := hm.cell 5
        by_cases h3 : 40 < L1.length
        · have hf := hm.frozen 5
          have hl7 := hm.lt
          have hB2 : Blk (w9.setCell ⟨b7, 5, none⟩ (.slice S1 40 d1)) b7 #[.slice Ai (min 6 g.ins.length) ci, .slice A3 ns.length c3, .slice Ao (min 6 g.outs.length) co, .slice Ap n cp, .slice S0 (min 40 L0.length) d0, .slice S1 (min 40 L1.length) d1, .slice none 0 0] 30 := by
            have := hm.set 5 (.slice S1 40 d1)
            rw [show min 40 L1.length = 40 by omega]
            simpa using this
          have hT2 := hTm.setO (b := b7) (by omega) 5 (.slice S1 40 d1)
          have hE2 : Ext w (w9.setCell ⟨b7, 5, none⟩ (.slice S1 40 d1)) := Below.setCell hEm (by show w.heap.size ≤ b7; omega) _
          have hW2 := ownsRow_setCell_other (a := ⟨b7, 5, none⟩) hWm HVB.out (.slice S1 40 d1)
          clear hm hTm hEm hWm
          go_wp2_with fail
          go_roundw
          case rel => exact ⟨2, by omega, rfl, hB2, hT2, hW2, hE2⟩
          case measure => simp [intOf]
        · have hB2 : Blk w9 b7 #[.slice Ai (min 6 g.ins.length) ci, .slice A3 ns.length c3, .slice Ao (min 6 g.outs.length) co, .slice Ap n cp, .slice S0 (min 40 L0.length) d0, .slice S1 (min 40 L1.length) d1, .slice none 0 0] 30 := by
            rw [show min 40 L1.length = L1.length by omega]
            exact hm
          clear hm
          go_wp2_with fail
          go_roundw
          case rel => exact ⟨2, by omega, rfl, hB2, hTm, hWm, hEm⟩
          case measure => simp [intOf]
      · have c6 : World.cell? wr ⟨w.heap.size, 6, none⟩ = some (.slice S2 L2.length d2) := by rw [hT.1.cell, HIM.out, ← F2.out]; rfl
        replace hB : Blk wr b7 #[.slice Ai (min 6 g.ins.length) ci, .slice A3 ns.length c3, .slice Ao (min 6 g.outs.length) co, .slice Ap n cp, .slice S0 (min 40 L0.length) d0, .slice S1 (min 40 L1.length) d1, .slice none 0 0] 30 := hB
        have e6 : World.cell? wr ⟨b7, 6, none⟩ = some (.slice none 0 0) := hB.cell 6
        have hf := hB.frozen 6
        have hl7 := hB.lt
        have hm : Blk (wr.setCell ⟨b7, 6, none⟩ (.slice S2 L2.length d2)) b7 #[.slice Ai (min 6 g.ins.length) ci, .slice A3 ns.length c3, .slice Ao (min 6 g.outs.length) co, .slice Ap n cp, .slice S0 (min 40 L0.length) d0, .slice S1 (min 40 L1.length) d1, .slice S2 L2.length d2] 30 := by simpa using hB.set 6 (.slice S2 L2.length d2)
        have hTm := hT.setO (b := b7) (by omega) 6 (.slice S2 L2.length d2)
        have hEm : Ext w (wr.setCell ⟨b7, 6, none⟩ (.slice S2 L2.length d2)) := Below.setCell hE (by show w.heap.size ≤ b7; omega) _
        have hWm := ownsRow_setCell_other (a := ⟨b7, 6, none⟩) hW HVB.out (.slice S2 L2.length d2)
        clear hB hT hE hW
        go_upto_region 26 with fail
        clear c6 e6 hf hl7
        generalize World.setCell wr _ _ = w9 at *
        have c6 : World.cell? w9 ⟨b7, 6, none⟩ = some (.slice S2 L2.length d2) := hm.cell 6
        by_cases h3 : 40 < L2.length
        · have hf := hm.frozen 6
          have hl7 := hm.lt
          have hB2 : Blk (w9.setCell ⟨b7, 6, none⟩ (.slice S2 40 d2)) b7 #[.slice Ai (min 6 g.ins.length) ci, .slice A3 ns.length c3, .slice Ao (min 6 g.outs.length) co, .slice Ap n cp, .slice S0 (min 40 L0.length) d0, .slice S1 (min 40 L1.length) d1, .slice S2 (min 40 L2.length) d2] 30 := by
            have := hm.set 6 (.slice S2 40 d2)
            rw [show min 40 L2.length = 40 by omega]
            simpa using this
          have hT2 := hTm.setO (b := b7) (by omega) 6 (.slice S2 40 d2)
          have hE2 : Ext w (w9.setCell ⟨b7, 6, none⟩ (.slice S2 40 d2)) := Below.setCell hEm (by show w.heap.size ≤ b7; omega) _
          have hW2 := ownsRow_setCell_other (a := ⟨b7, 6, none⟩) hWm HVB.out (.slice S2 40 d2)
          clear hm hTm hEm hWm
          go_wp2_with fail
          go_roundw
          case rel => exact ⟨3, by omega, rfl, hB2, hT2, hW2, hE2⟩
          case measure => simp [intOf]
        · have hB2 : Blk w9 b7 #[.slice Ai (min 6 g.ins.length) ci, .slice A3 ns.length c3, .slice Ao (min 6 g.outs.length) co, .slice Ap n cp, .slice S0 (min 40 L0.length) d0, .slice S1 (min 40 L1.length) d1, .slice S2 (min 40 L2.length) d2] 30 := by
            rw [show min 40 L2.length = L2.length by omega]
            exact hm
          clear hm
          go_wp2_with fail
          go_roundw
          case rel => exact ⟨3, by omega, rfl, hB2, hTm, hWm, hEm⟩
          case measure => simp [intOf]
      · replace hB : Blk wr b7 #[.slice Ai (min 6 g.ins.length) ci, .slice A3 ns.length c3, .slice Ao (min 6 g.outs.length) co, .slice Ap n cp, .slice S0 (min 40 L0.length) d0, .slice S1 (min 40 L1.length) d1, .slice S2 (min 40 L2.length) d2] 30 := hB
        have n0 : World.cell? wr ⟨b7, 0, none⟩ = some (.slice Ai (min 6 g.ins.length) ci) := hB.cell 0
        have n1 : World.cell? wr ⟨b7, 1, none⟩ = some (.slice A3 ns.length c3) := hB.cell 1
        have n2 : World.cell? wr ⟨b7, 2, none⟩ = some (.slice Ao (min 6 g.outs.length) co) := hB.cell 2
        have n3 : World.cell? wr ⟨b7, 3, none⟩ = some (.slice Ap n cp) := hB.cell 3
        have n4 : World.cell? wr ⟨b7, 4, none⟩ = some (.slice S0 (min 40 L0.length) d0) := hB.cell 4
        have n5 : World.cell? wr ⟨b7, 5, none⟩ = some (.slice S1 (min 40 L1.length) d1) := hB.cell 5
        have n6 : World.cell? wr ⟨b7, 6, none⟩ = some (.slice S2 (min 40 L2.length) d2) := hB.cell 6
        have hE5 := ext_setRow hE #[.slice Ai (min 6 g.ins.length) ci, .slice A3 ns.length c3, .slice Ao (min 6 g.outs.length) co, .slice Ap n cp, .slice S0 (min 40 L0.length) d0, .slice S1 (min 40 L1.length) d1, .slice S2 (min 40 L2.length) d2] (show w.heap.size ≤ w.heap.size + 1 by omega)
        have hgz := setRow_grown wr (w.heap.size + 1) #[.slice Ai (min 6 g.ins.length) ci, .slice A3 ns.length c3, .slice Ao (min 6 g.outs.length) co, .slice Ap n cp, .slice S0 (min 40 L0.length) d0, .slice S1 (min 40 L1.length) d1, .slice S2 (min 40 L2.length) d2]
        have hx3 := hT.2
        clear hB
        go_wp2_with (refine wpList_store_row rfl 30 _ _ rfl (w.heap.size + 1) #[.slice Ai (min 6 g.ins.length) ci, .slice A3 ns.length c3, .slice Ao (min 6 g.outs.length) co, .slice Ap n cp, .slice S0 (min 40 L0.length) d0, .slice S1 (min 40 L1.length) d1, .slice S2 (min 40 L2.length) d2] rfl rfl 30 _ hx3 (by kernel_rfl) rfl (by simp [Value.oneCell']) ?_)
        refine bodyPost_ret (v := .agg _) (results_cell_row Try.results6 _ _ (w.heap.size + 1) 30 _ (0, 0) _ rfl (setRow_heap _ _ _ _ _ _ hx3) (by kernel_rfl : Try.prog.underlying 30 = some (.struct (Try.prog.fieldsOf 30))) rfl (by kernel_rfl)) rfl ?_
        refine HP.out _ _ ⟨⟨.slice Ai (min 6 g.ins.length) ci, .slice A3 ns.length c3, .slice Ao (min 6 g.outs.length) co, g.ins.take (min 6 g.ins.length), ns, g.outs.take (min 6 g.outs.length)⟩, .slice Ap n cp, .slice S0 (min 40 L0.length) d0, .slice S1 (min 40 L1.length) d1, .slice S2 (min 40 L2.length) d2, pl.take n, rfl, ?_, ?_, fun z hz => List.mem_of_mem_take hz, by simp only [List.length_take]; omega, ?_, ?_, ?_, hE5⟩
        · refine ⟨?_, ?_, HEACH.out, ?_, hE0.trans hE5, by simp only [List.length_take]; omega, by show ns.length ≤ 255; omega, by simp only [List.length_take]; omega⟩
          · have := HG.out.ins
            rw [EI.out] at this
            exact SRow.first this (fun _ => rfl) (by omega)
          · have := HG.out.outs
            rw [EO.out] at this
            exact Ints.first this (by omega)
          · exact World.ownsRow.kept hW hgz (.inr fun e => by have := (hW.lt _ e).1; omega)
        · have := HPL.out
          rw [EP.out] at this
          exact Ints.first this hnl
        · have := HS0.out
          rw [F0.out] at this
          have := this.first (m := min 40 L0.length) (by omega)
          rwa [← List.take_eq_take_min] at this
        · have := HS1.out
          rw [F1.out] at this
          have := this.first (m := min 40 L1.length) (by omega)
          rwa [← List.take_eq_take_min] at this
        · have := HS2.out
          rw [F2.out] at this
          have := this.first (m := min 40 L2.length) (by omega)
          rwa [← List.take_eq_take_min] at this
  have HK := Lib.hid hK
  clear hK
  go_loopw [4, 5] (fun v0 i wr => ∃ (v : Value) (k : Nat) (ns : List Nd), v = v0 ∧ k ≤ 14 ∧ k ≤ g.nodes.length ∧ i = .int .i64 k ∧ ns.length = k ∧ LessI w wr im #[.slice Ai (min 6 g.ins.length) ci, g.nV, .slice Ao (min 6 g.outs.length) co] v ns ∧ ∀ n ∈ ns, nodeAt w0 n) (fun _ i _ => 14 - (intOf i).toNat)
  case atStart => exact ⟨_, 0, [], rfl, by omega, by omega, rfl, rfl, hS0, fun n hn => by cases hn⟩
  case round =>
    clear hS0
    obtain ⟨v, k, ns, rfl, hk14, hk, rfl, hnk, hS, heach⟩ := hrel
    have HOWN : Hid (∀ (A3 : Option Addr) (c3 m : Nat), (wr.ownsRow (w.heap.size + 1 + 1 + 1) 51 14 (.slice A3 m c3) ns.length (ns.flatMap Nd.cs)) → (Value.slice A3 m c3).ownBlock = none ∨ (Value.slice A3 m c3).ownBlock ≠ some (w.heap.size + 1 + 1)) := fun A3 c3 m h => .inr (fun e => by have := (h.lt _ e).1; omega)
    by_cases hgo : k < g.nodes.length ∧ k < 14
    · obtain ⟨hlt, hlt14⟩ := hgo
      have g1 : World.cell? wr ⟨w.heap.size + 1 + 1, 1, none⟩ = some (.slice An g.nodes.length cn) := by rw [← EN.out]; exact hS.box1.cell 1
      obtain ⟨A', c', e', _, _, hcc⟩ := SRow.form (Row.below hn hS.ext) (fun _ => rfl) (by omega)
      rw [EN.out] at e'
      cases e'
      have hs : g.nodes[k]? = some g.nodes[k] := by simp [hlt]
      obtain ⟨b, off, rfl, hbl, hc⟩ := hcc k _ hs
      have hnode := hea _ (List.getElem_mem hlt)
      generalize g.nodes[k] = n at *
      have nc0 : World.cell? wr ⟨b, off + k * 14, none⟩ = some (.int .i64 n.op) := hc 0 _ rfl
      have nc1 : World.cell? wr ⟨b, off + k * 14 + 1, none⟩ = some n.inV := hc 1 _ rfl
      have nc2 : World.cell? wr ⟨b, off + k * 14 + 2, none⟩ = some (.int .i64 n.k) := hc 2 _ rfl
      have nc3 : World.cell? wr ⟨b, off + k * 14 + 3, none⟩ = some (.int .i64 n.st) := hc 3 _ rfl
      have nc4 : World.cell? wr ⟨b, off + k * 14 + 4, none⟩ = some (.int .i64 n.pad) := hc 4 _ rfl
      have nc5 : World.cell? wr ⟨b, off + k * 14 + 5, none⟩ = some (.int .i64 n.out) := hc 5 _ rfl
      have nc6 : World.cell? wr ⟨b, off + k * 14 + 6, none⟩ = some (.int .i64 n.mul) := hc 6 _ rfl
      have nc7 : World.cell? wr ⟨b, off + k * 14 + 7, none⟩ = some (.int .i64 n.sh) := hc 7 _ rfl
      have nc8 : World.cell? wr ⟨b, off + k * 14 + 8, none⟩ = some (.int .i64 n.zero) := hc 8 _ rfl
      have nc9 : World.cell? wr ⟨b, off + k * 14 + 9, none⟩ = some (.int .i64 n.th) := hc 9 _ rfl
      have nc10 : World.cell? wr ⟨b, off + k * 14 + 10, none⟩ = some (.int .i64 n.tw) := hc 10 _ rfl
      have nc11 : World.cell? wr ⟨b, off + k * 14 + 11, none⟩ = some (.int .i64 n.tc) := hc 11 _ rfl
      have nc12 : World.cell? wr ⟨b, off + k * 14 + 12, none⟩ = some n.wV := hc 12 _ rfl
      have nc13 : World.cell? wr ⟨b, off + k * 14 + 13, none⟩ = some n.bV := hc 13 _ rfl
      clear hc hcc hs hi hn ho hea
      have hz := Blk.new wr #[.int .i64 0, .slice none 0 0, .int .i64 0, .int .i64 0, .int .i64 0, .int .i64 0, .int .i64 0, .int .i64 0, .int .i64 0, .int .i64 0, .int .i64 0, .int .i64 0, .slice none 0 0, .slice none 0 0] 51
      have hE4 : Ext wr ((wr.alloc (.cells #[.int .i64 0, .slice none 0 0, .int .i64 0, .int .i64 0, .int .i64 0, .int .i64 0, .int .i64 0, .int .i64 0, .int .i64 0, .int .i64 0, .int .i64 0, .int .i64 0, .slice none 0 0, .slice none 0 0] 51)).setRow wr.heap.size #[.int .i64 n.op, n.inV, .int .i64 n.k, .int .i64 n.st, .int .i64 n.pad, .int .i64 n.out, .int .i64 n.mul, .int .i64 n.sh, .int .i64 n.zero, .int .i64 n.th, .int .i64 n.tw, .int .i64 n.tc, n.wV, n.bV]) := ext_setRow (ext_alloc _ _) _ (Nat.le_refl _)
      have hnb : Blk ((wr.alloc (.cells #[.int .i64 0, .slice none 0 0, .int .i64 0, .int .i64 0, .int .i64 0, .int .i64 0, .int .i64 0, .int .i64 0, .int .i64 0, .int .i64 0, .int .i64 0, .int .i64 0, .slice none 0 0, .slice none 0 0] 51)).setRow wr.heap.size #[.int .i64 n.op, n.inV, .int .i64 n.k, .int .i64 n.st, .int .i64 n.pad, .int .i64 n.out, .int .i64 n.mul, .int .i64 n.sh, .int .i64 n.zero, .int .i64 n.th, .int .i64 n.tw, .int .i64 n.tc, n.wV, n.bV]) wr.heap.size #[.int .i64 n.op, n.inV, .int .i64 n.k, .int .i64 n.st, .int .i64 n.pad, .int .i64 n.out, .int .i64 n.mul, .int .i64 n.sh, .int .i64 n.zero, .int .i64 n.th, .int .i64 n.tw, .int .i64 n.tc, n.wV, n.bV] 51 := setRow_heap _ _ _ _ _ _ hz
      have hone : Array.all #[.int .i64 n.op, n.inV, .int .i64 n.k, .int .i64 n.st, .int .i64 n.pad, .int .i64 n.out, .int .i64 n.mul, .int .i64 n.sh, .int .i64 n.zero, .int .i64 n.th, .int .i64 n.tw, .int .i64 n.tc, n.wV, n.bV] (·.oneCell') = true := by
        rw [Array.all_eq_true]
        intro i hi
        exact node_cs_one hnode _ (by simpa [Nd.cs] using List.getElem_mem (l := Nd.cs n) hi)
      have HO := Lib.hid hone
      have hvy : v.ownBlock ≠ some wr.heap.size := fun e => by have := (hS.own.lt _ e).2; omega
      have hyg : w.heap.size + 1 + 1 + 1 ≤ wr.heap.size := hS.box1.lt
      replace hS := hS.later hE4
      clear hone hE4
      go_upto_region 11 with (refine wpList_store_row rfl 51 _ _ rfl wr.heap.size #[.int .i64 n.op, n.inV, .int .i64 n.k, .int .i64 n.st, .int .i64 n.pad, .int .i64 n.out, .int .i64 n.mul, .int .i64 n.sh, .int .i64 n.zero, .int .i64 n.th, .int .i64 n.tw, .int .i64 n.tc, n.wV, n.bV] rfl rfl 51 _ hz (by kernel_rfl) rfl HO.out ?_)
      clear nc0 nc1 nc2 nc3 nc4 nc5 nc6 nc7 nc8 nc9 nc10 nc11 nc12 nc13 hbl hz g1 HO HOWN
      generalize World.setRow (wr.alloc _) _ _ = wk at *
      generalize wr.heap.size = yb at *
      obtain ⟨A0, c0, e0, hc1, hc2, _⟩ := id (hnode.1.form)
      unfold maxLen at hc2
      have d0 : World.cell? wk ⟨yb, 1, none⟩ = some (.slice A0 n.ins.length c0) := by rw [← e0]; exact hnb.cell 1
      have E0 := Lib.hid e0
      clear e0
      go_upto_if 47 with fail
      go_cut [48] (fun _ wx => ∃ m : Nd, Blk wx yb #[.int .i64 m.op, m.inV, .int .i64 m.k, .int .i64 m.st, .int .i64 m.pad, .int .i64 m.out, .int .i64 m.mul, .int .i64 m.sh, .int .i64 m.zero, .int .i64 m.th, .int .i64 m.tw, .int .i64 m.tc, m.wV, m.bV] 51 ∧ nodeIn w0 m ∧ m.ins.length ≤ 20 ∧ LessI w wx im #[.slice Ai (min 6 g.ins.length) ci, g.nV, .slice Ao (min 6 g.outs.length) co] v ns)
      case first =>
        have hf := hnb.frozen 1
        have hlt0 := hnb.lt
        by_cases h : 20 < n.ins.length
        · have hx : ∃ m : Nd, Blk (World.setCell wk ⟨yb, 1, none⟩ (.slice A0 20 c0)) yb #[.int .i64 m.op, m.inV, .int .i64 m.k, .int .i64 m.st, .int .i64 m.pad, .int .i64 m.out, .int .i64 m.mul, .int .i64 m.sh, .int .i64 m.zero, .int .i64 m.th, .int .i64 m.tw, .int .i64 m.tc, m.wV, m.bV] 51 ∧ nodeIn w0 m ∧ m.ins.length ≤ 20 ∧ LessI w (World.setCell wk ⟨yb, 1, none⟩ (.slice A0 20 c0)) im #[.slice Ai (min 6 g.ins.length) ci, g.nV, .slice Ao (min 6 g.outs.length) co] v ns := by
            refine ⟨{ n with inV := .slice A0 20 c0, ins := n.ins.take 20 }, ?_, nodeIn.cutI hnode E0.out (by omega), ?_, hS.set hyg hvy _ _⟩
            · have := hnb.set 1 (.slice A0 20 c0)
              simpa using this
            · simp only [List.length_take]; omega
          have HX := Lib.hid hx
          clear hx hnb hS hnode
          go_wp2_with fail
          go_meet
          exact HX.out
        · go_wp2_with fail
          go_meet
          exact ⟨n, hnb, hnode, by omega, hS⟩
      clear hnb hS hnode d0 E0 hc1 hc2 
      obtain ⟨m1, hnb, hnode, hb0, hS⟩ := hcut
      obtain ⟨A0, c0, e0, hc1, hc2, _⟩ := id (hnode.2.1.form)
      unfold maxLen at hc2
      have d0 : World.cell? wc ⟨yb, 12, none⟩ = some (.slice A0 m1.ws.length c0) := by rw [← e0]; exact hnb.cell 12
      have E0 := Lib.hid e0
      clear e0
      go_upto_if 55 with fail
      go_cut [56] (fun _ wx => ∃ m : Nd, Blk wx yb #[.int .i64 m.op, m.inV, .int .i64 m.k, .int .i64 m.st, .int .i64 m.pad, .int .i64 m.out, .int .i64 m.mul, .int .i64 m.sh, .int .i64 m.zero, .int .i64 m.th, .int .i64 m.tw, .int .i64 m.tc, m.wV, m.bV] 51 ∧ nodeIn w0 m ∧ m.ins.length ≤ 20 ∧ m.ws.length ≤ 5000 ∧ LessI w wx im #[.slice Ai (min 6 g.ins.length) ci, g.nV, .slice Ao (min 6 g.outs.length) co] v ns)
      case first =>
        have hf := hnb.frozen 12
        have hlt0 := hnb.lt
        by_cases h : 5000 < m1.ws.length
        · have hx : ∃ m : Nd, Blk (World.setCell wc ⟨yb, 12, none⟩ (.slice A0 5000 c0)) yb #[.int .i64 m.op, m.inV, .int .i64 m.k, .int .i64 m.st, .int .i64 m.pad, .int .i64 m.out, .int .i64 m.mul, .int .i64 m.sh, .int .i64 m.zero, .int .i64 m.th, .int .i64 m.tw, .int .i64 m.tc, m.wV, m.bV] 51 ∧ nodeIn w0 m ∧ m.ins.length ≤ 20 ∧ m.ws.length ≤ 5000 ∧ LessI w (World.setCell wc ⟨yb, 12, none⟩ (.slice A0 5000 c0)) im #[.slice Ai (min 6 g.ins.length) ci, g.nV, .slice Ao (min 6 g.outs.length) co] v ns := by
            refine ⟨{ m1 with wV := .slice A0 5000 c0, ws := m1.ws.take 5000 }, ?_, nodeIn.cutW hnode E0.out (by omega), hb0, ?_, hS.set hyg hvy _ _⟩
            · have := hnb.set 12 (.slice A0 5000 c0)
              simpa using this
            · simp only [List.length_take]; omega
          have HX := Lib.hid hx
          clear hx hnb hS hnode
          go_wp2_with fail
          go_meet
          exact HX.out
        · go_wp2_with fail
          go_meet
          exact ⟨m1, hnb, hnode, hb0, by omega, hS⟩
      clear hnb hS hnode d0 E0 hc1 hc2 hb0
      obtain ⟨m2, hnb, hnode, hb0, hb1, hS⟩ := hcut
      obtain ⟨A0, c0, e0, hc1, hc2, _⟩ := id (hnode.2.2.1.form)
      unfold maxLen at hc2
      have d0 : World.cell? wc ⟨yb, 13, none⟩ = some (.slice A0 m2.bs.length c0) := by rw [← e0]; exact hnb.cell 13
      have E0 := Lib.hid e0
      clear e0
      go_upto_if 63 with fail
      go_cut [64] (fun _ wx => ∃ m : Nd, Blk wx yb #[.int .i64 m.op, m.inV, .int .i64 m.k, .int .i64 m.st, .int .i64 m.pad, .int .i64 m.out, .int .i64 m.mul, .int .i64 m.sh, .int .i64 m.zero, .int .i64 m.th, .int .i64 m.tw, .int .i64 m.tc, m.wV, m.bV] 51 ∧ nodeIn w0 m ∧ m.ins.length ≤ 20 ∧ m.ws.length ≤ 5000 ∧ m.bs.length ≤ 20 ∧ LessI w wx im #[.slice Ai (min 6 g.ins.length) ci, g.nV, .slice Ao (min 6 g.outs.length) co] v ns)
      case first =>
        have hf := hnb.frozen 13
        have hlt0 := hnb.lt
        by_cases h : 20 < m2.bs.length
        · have hx : ∃ m : Nd, Blk (World.setCell wc ⟨yb, 13, none⟩ (.slice A0 20 c0)) yb #[.int .i64 m.op, m.inV, .int .i64 m.k, .int .i64 m.st, .int .i64 m.pad, .int .i64 m.out, .int .i64 m.mul, .int .i64 m.sh, .int .i64 m.zero, .int .i64 m.th, .int .i64 m.tw, .int .i64 m.tc, m.wV, m.bV] 51 ∧ nodeIn w0 m ∧ m.ins.length ≤ 20 ∧ m.ws.length ≤ 5000 ∧ m.bs.length ≤ 20 ∧ LessI w (World.setCell wc ⟨yb, 13, none⟩ (.slice A0 20 c0)) im #[.slice Ai (min 6 g.ins.length) ci, g.nV, .slice Ao (min 6 g.outs.length) co] v ns := by
            refine ⟨{ m2 with bV := .slice A0 20 c0, bs := m2.bs.take 20 }, ?_, nodeIn.cutB hnode E0.out (by omega), hb0, hb1, ?_, hS.set hyg hvy _ _⟩
            · have := hnb.set 13 (.slice A0 20 c0)
              simpa using this
            · simp only [List.length_take]; omega
          have HX := Lib.hid hx
          clear hx hnb hS hnode
          go_wp2_with fail
          go_meet
          exact HX.out
        · go_wp2_with fail
          go_meet
          exact ⟨m2, hnb, hnode, hb0, hb1, by omega, hS⟩
      clear hnb hS hnode d0 E0 hc1 hc2 hb0 hb1
      obtain ⟨m3, hnb, hnode, hb0, hb1, hb2, hS⟩ := hcut
      have nd0 : World.cell? wc ⟨yb, 0, none⟩ = some (.int .i64 m3.op) := hnb.cell 0
      have nd1 : World.cell? wc ⟨yb, 1, none⟩ = some m3.inV := hnb.cell 1
      have nd2 : World.cell? wc ⟨yb, 2, none⟩ = some (.int .i64 m3.k) := hnb.cell 2
      have nd3 : World.cell? wc ⟨yb, 3, none⟩ = some (.int .i64 m3.st) := hnb.cell 3
      have nd4 : World.cell? wc ⟨yb, 4, none⟩ = some (.int .i64 m3.pad) := hnb.cell 4
      have nd5 : World.cell? wc ⟨yb, 5, none⟩ = some (.int .i64 m3.out) := hnb.cell 5
      have nd6 : World.cell? wc ⟨yb, 6, none⟩ = some (.int .i64 m3.mul) := hnb.cell 6
      have nd7 : World.cell? wc ⟨yb, 7, none⟩ = some (.int .i64 m3.sh) := hnb.cell 7
      have nd8 : World.cell? wc ⟨yb, 8, none⟩ = some (.int .i64 m3.zero) := hnb.cell 8
      have nd9 : World.cell? wc ⟨yb, 9, none⟩ = some (.int .i64 m3.th) := hnb.cell 9
      have nd10 : World.cell? wc ⟨yb, 10, none⟩ = some (.int .i64 m3.tw) := hnb.cell 10
      have nd11 : World.cell? wc ⟨yb, 11, none⟩ = some (.int .i64 m3.tc) := hnb.cell 11
      have nd12 : World.cell? wc ⟨yb, 12, none⟩ = some m3.wV := hnb.cell 12
      have nd13 : World.cell? wc ⟨yb, 13, none⟩ = some m3.bV := hnb.cell 13
      have hone := node_cs_one hnode
      have HO := Lib.hid hone
      have hE6 := ext_alloc wc (.cells #[.int .i64 m3.op, m3.inV, .int .i64 m3.k, .int .i64 m3.st, .int .i64 m3.pad, .int .i64 m3.out, .int .i64 m3.mul, .int .i64 m3.sh, .int .i64 m3.zero, .int .i64 m3.th, .int .i64 m3.tw, .int .i64 m3.tc, m3.wV, m3.bV] 51)
      have hnew := row_new wc #[.int .i64 m3.op, m3.inV, .int .i64 m3.k, .int .i64 m3.st, .int .i64 m3.pad, .int .i64 m3.out, .int .i64 m3.mul, .int .i64 m3.sh, .int .i64 m3.zero, .int .i64 m3.th, .int .i64 m3.tw, .int .i64 m3.tc, m3.wV, m3.bV] 51 1 14 rfl (by decide)
      have hS6 := hS.later hE6
      have hown6 := hS6.own
      have hbase : w.heap.size + 1 + 1 + 1 ≤ (wc.alloc (.cells #[.int .i64 m3.op, m3.inV, .int .i64 m3.k, .int .i64 m3.st, .int .i64 m3.pad, .int .i64 m3.out, .int .i64 m3.mul, .int .i64 m3.sh, .int .i64 m3.zero, .int .i64 m3.th, .int .i64 m3.tw, .int .i64 m3.tc, m3.wV, m3.bV] 51)).heap.size := by have := hS6.box1.lt; omega
      have hk1 : ns.length + 1 ≤ 140737488355328 := by omega
      have hk2 : (ns.length + 1) * 160 ≤ 140737488355328 := by omega
      have HA : Hid (∀ v' w', w'.ownsRow (w.heap.size + 1 + 1 + 1) 51 14 v' (ns.length + 1) (ns.flatMap Nd.cs ++ (#[.int .i64 m3.op, m3.inV, .int .i64 m3.k, .int .i64 m3.st, .int .i64 m3.pad, .int .i64 m3.out, .int .i64 m3.mul, .int .i64 m3.sh, .int .i64 m3.zero, .int .i64 m3.th, .int .i64 m3.tw, .int .i64 m3.tc, m3.wV, m3.bV] : Array Value).toList) → World.grownBy (wc.alloc (.cells #[.int .i64 m3.op, m3.inV, .int .i64 m3.k, .int .i64 m3.st, .int .i64 m3.pad, .int .i64 m3.out, .int .i64 m3.mul, .int .i64 m3.sh, .int .i64 m3.zero, .int .i64 m3.th, .int .i64 m3.tw, .int .i64 m3.tc, m3.wV, m3.bV] 51)) w' v.ownBlock → LessI w w' im #[.slice Ai (min 6 g.ins.length) ci, g.nV, .slice Ao (min 6 g.outs.length) co] v' (ns ++ [m3]) ∧ ∀ n ∈ ns ++ [m3], nodeAt w0 n) := by
        intro v' w' ho hgr
        have hvb : ∀ b, b < w.heap.size + 1 + 1 + 1 → some b ≠ v.ownBlock := fun b hb e => by have := (hown6.lt _ e.symm).1; omega
        refine ⟨⟨hS6.box1.grown hgr (hvb _ (by omega)), hS6.box2.kept (hgr.block _ (hS6.box2.lt1) (hvb _ (by omega))) (hgr.block _ (hS6.box2.lt2) (hvb _ (by omega))), ?_, Below.grown hS6.ext hgr (by omega) (fun b hb => by have := (hown6.lt _ hb).1; omega)⟩, fun n hn => ?_⟩
        · rw [List.length_append, List.flatMap_append]
          simpa [Nd.cs] using ho
        · rcases List.mem_append.1 hn with hn | hn
          · exact heach n hn
          · obtain rfl := List.mem_singleton.1 hn
            exact ⟨hnode.1, hnode.2.1, hnode.2.2.1, hnode.2.2.2.1, hnode.2.2.2.2, by omega, by omega, by omega⟩
      have hnk1 : (ns ++ [m3]).length = k + 1 := by simp [hnk]
      clear hS6 hS hnb hone hE6 hnode
      go_wp2_with (at_builtin; refine wpList_append_row rfl rfl elem_nd hown6 rfl hnew rfl HO.out hk1 hk2 hbase ?_; intro v9 w9 ho9 hgr9 _)
      obtain ⟨p1, p2⟩ := HA.out _ _ ho9 hgr9
      go_roundw
      case rel => exact ⟨_, k + 1, ns ++ [m3], rfl, by omega, by omega, by go_num, hnk1, p1, p2⟩
      case measure => simp [intOf]; omega
    · have g1 : World.cell? wr ⟨w.heap.size + 1 + 1, 1, none⟩ = some (.slice An g.nodes.length cn) := by rw [← EN.out]; exact hS.box1.cell 1
      have hnl14 : ns.length ≤ 14 := by omega
      have HSS := Lib.hid hS
      have HEE := Lib.hid heach
      clear HOWN hS heach hi hn ho hea
      by_cases hlt : k < g.nodes.length
      · have h14 : ¬ k < 14 := fun h => hgo ⟨hlt, h⟩
        clear hgo
        go_wp2_with fail
        exact HK.out _ _ ⟨_, ns, .of rfl, hnl14, HSS.out, HEE.out⟩
      · clear hgo
        go_wp2_with fail
        exact HK.out _ _ ⟨_, ns, .of rfl, hnl14, HSS.out, HEE.out⟩

end Go.Proofs.Ytmddlhfahfelpaa
