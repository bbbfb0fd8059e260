/- The walk of less of the region's statements: an image of at most so many values. -/
import Derived.Test.YtdhdbmfipkppiaaModL
import Derived.Test.YtdhdbmfipkppiaaModG
namespace Go.Proofs.Ytdhdbmfipkppiaa
set_option linter.unusedSimpArgs false
set_option linter.unusedVariables false
set_option linter.unnecessarySimpa false
open Go.RowKit

/-- The image's box, and the one for the result. -/
def Two (w W : World) (im : Array Value) : Prop := Blk W w.heap.size im 54 ∧ Blk W (w.heap.size + 1) #[.slice none 0 0, .slice none 0 0, .slice none 0 0, .slice none 0 0, .slice none 0 0, .slice none 0 0, .slice none 0 0] 54
theorem Two.ext {w W W' : World} {im : Array Value} (h : Two w W im) (e : Ext W W') : Two w W' im := ⟨h.1.ext e, h.2.ext e⟩
theorem Two.lt1 {w W : World} {im : Array Value} (h : Two w W im) : w.heap.size < W.heap.size := h.1.lt
theorem Two.lt2 {w W : World} {im : Array Value} (h : Two w W im) : w.heap.size + 1 < W.heap.size := h.2.lt
theorem Two.kept {w W W' : World} {im : Array Value} (h : Two w W im) (h1 : W'.heap[w.heap.size]? = W.heap[w.heap.size]?) (h2 : W'.heap[w.heap.size + 1]? = W.heap[w.heap.size + 1]?) : Two w W' im := ⟨h1.trans h.1, h2.trans h.2⟩
theorem Two.set {w W : World} {im : Array Value} (h : Two w W im) (i : Nat) (x : Value) : Two w (W.setCell ⟨w.heap.size + 1 + 1, i, none⟩ x) im := ⟨h.1.grown (setCell_grown _ _ _ _) (fun e => by have := Option.some.inj e; omega), h.2.grown (setCell_grown _ _ _ _) (fun e => by have := Option.some.inj e; omega)⟩
theorem Two.setO {w W : World} {im : Array Value} (h : Two w W im) {b : Nat} (hb : w.heap.size + 1 + 1 ≤ b) (i : Nat) (x : Value) : Two w (W.setCell ⟨b, i, none⟩ x) im := ⟨h.1.grown (setCell_grown _ _ _ _) (fun e => by have := Option.some.inj e; omega), h.2.grown (setCell_grown _ _ _ _) (fun e => by have := Option.some.inj e; omega)⟩

structure LessI (w W : World) (im c1 : Array Value) (v : Value) (ns : List Nd) : Prop where
  box1 : Blk W (w.heap.size + 1 + 1) c1 26
  box2 : Two w W im
  own : W.ownsRow (w.heap.size + 1 + 1 + 1) 40 14 v ns.length (ns.flatMap Nd.cs)
  ext : Ext w W
theorem LessI.later {w W W' : World} {im c1 : Array Value} {v : Value} {ns : List Nd} (h : LessI w W im c1 v ns) (e : Ext W W') : LessI w W' im c1 v ns :=
  ⟨h.box1.ext e, h.box2.ext e, World.ownsRow.kept (row := none) h.own (grown_of_ext e) (by cases v.ownBlock <;> simp), h.ext.trans e⟩
theorem LessI.set {w W : World} {im c1 : Array Value} {v : Value} {ns : List Nd} (h : LessI w W im c1 v ns) {yb : Nat} (hy : w.heap.size + 1 + 1 + 1 ≤ yb) (hv : v.ownBlock ≠ some yb) (i : Nat) (x : Value) : LessI w (W.setCell ⟨yb, i, none⟩ x) im c1 v ns :=
  ⟨h.box1.grown (setCell_grown _ _ _ _) (fun e => by have := Option.some.inj e; omega), h.box2.setO (by omega) i x, ownsRow_setCell_other h.own hv _, Below.setCell h.ext (by show w.heap.size ≤ yb; omega) _⟩

/-- The image that came out. -/
def LessIPost (w0 w : World) (e : Ending) (w' : World) : Prop := ∃ (g' : Gr) (pV' : Value) (pl' : List Int), e = .returned (.agg #[g'.iV, g'.nV, g'.oV, pV', .slice none 0 0, .slice none 0 0, .slice none 0 0]) ∧ GrL w0 (w.heap.size + 1 + 1 + 1) w' g' ∧ Ints .i64 w0 pV' pl' ∧ pl'.length ≤ 30 ∧ Ext w w'

set_option maxRecDepth 8000 in
set_option maxHeartbeats 12800000 in
theorem less12_calls (g : Gr) (pV s0 s1 s2 : Value) (pl : List Int) (w0 w : World) (hg0 : GrIn w0 g) (hp0 : Ints .i64 w0 pV pl) (hE0 : Ext w0 w) :
    Calls Try.prog 25 #[.agg #[g.iV, g.nV, g.oV, pV, s0, s1, s2]] w (LessIPost w0 w) := by
  have HP : Hid (∀ e w', (∃ (g' : Gr) (pV' : Value) (pl' : List Int), e = .returned (.agg #[g'.iV, g'.nV, g'.oV, pV', .slice none 0 0, .slice none 0 0, .slice none 0 0]) ∧ GrL w0 (w.heap.size + 1 + 1 + 1) w' g' ∧ Ints .i64 w0 pV' pl' ∧ pl'.length ≤ 30 ∧ Ext w w') → LessIPost w0 w e w') := fun e w' h => h
  generalize LessIPost w0 w = PP at *
  have HG := Lib.hid hg0
  have HPL := Lib.hid hp0
  clear hp0
  have hg := hg0.ext hE0
  obtain ⟨hi, hn, ho, _⟩ := hg
  have hea := hg0.each
  clear hg0
  obtain ⟨An, cn, en, hn1, hn2, _⟩ := id (SRow.form hn (fun _ => rfl) (by omega))
  obtain ⟨Ao, co, eo, ho1, ho2, _⟩ := id ho.form
  obtain ⟨Ai, ci, ei, hi1, hi2, _⟩ := id hi.form
  unfold maxLen at hi2 hn2 ho2
  have EN := Lib.hid en
  have EO := Lib.hid eo
  have EI := Lib.hid ei
  clear en eo ei
  have hE1 := ((ext_alloc w (.cells #[g.iV, g.nV, g.oV, pV, s0, s1, s2] 54)).trans (ext_alloc _ (.cells #[.slice none 0 0, .slice none 0 0, .slice none 0 0, .slice none 0 0, .slice none 0 0, .slice none 0 0, .slice none 0 0] 54)))
  have hx1 := (Blk.new w #[g.iV, g.nV, g.oV, pV, s0, s1, s2] 54).ext (ext_alloc _ (.cells #[.slice none 0 0, .slice none 0 0, .slice none 0 0, .slice none 0 0, .slice none 0 0, .slice none 0 0, .slice none 0 0] 54))
  have hx2 := Blk.new (w.alloc (.cells #[g.iV, g.nV, g.oV, pV, s0, s1, s2] 54)) #[.slice none 0 0, .slice none 0 0, .slice none 0 0, .slice none 0 0, .slice none 0 0, .slice none 0 0, .slice none 0 0] 54
  rw [show (w.alloc (.cells #[g.iV, g.nV, g.oV, pV, s0, s1, s2] 54)).heap.size = w.heap.size + 1 from by simp] at hx2
  have hb2 : Two w _ #[g.iV, g.nV, g.oV, pV, s0, s1, s2] := ⟨hx1, hx2⟩
  clear hx1 hx2
  go_enter Try.func25, Try.ntmps25
  go_upto_region 1 with fail
  have hsz : ((w.alloc (.cells #[g.iV, g.nV, g.oV, pV, s0, s1, s2] 54)).alloc (.cells #[.slice none 0 0, .slice none 0 0, .slice none 0 0, .slice none 0 0, .slice none 0 0, .slice none 0 0, .slice none 0 0] 54)).heap.size = w.heap.size + 1 + 1 := by simp
  generalize World.alloc (World.alloc w _) _ = w1 at *
  have g0 : World.cell? w1 ⟨w.heap.size, 0, none⟩ = some g.iV := hb2.1.cell 0
  have g1 : World.cell? w1 ⟨w.heap.size, 1, none⟩ = some g.nV := hb2.1.cell 1
  have g2 : World.cell? w1 ⟨w.heap.size, 2, none⟩ = some g.oV := hb2.1.cell 2
  have hz := Blk.new w1 #[.slice none 0 0, .slice none 0 0, .slice none 0 0] 26
  rw [hsz] at hz
  have hb1 : Blk ((w1.alloc (.cells #[.slice none 0 0, .slice none 0 0, .slice none 0 0] 26)).setRow (w.heap.size + 1 + 1) #[g.iV, g.nV, g.oV]) (w.heap.size + 1 + 1) #[g.iV, g.nV, g.oV] 26 := setRow_heap _ _ _ _ _ _ hz
  have hQ : Ext w1 ((w1.alloc (.cells #[.slice none 0 0, .slice none 0 0, .slice none 0 0] 26)).setRow (w.heap.size + 1 + 1) #[g.iV, g.nV, g.oV]) := ext_setRow (ext_alloc _ _) _ (by omega)
  have hone : Array.all #[g.iV, g.nV, g.oV] (·.oneCell') = true := by
    rw [EI.out, EN.out, EO.out]
    simp [Value.oneCell']
  have HO := Lib.hid hone
  replace hb2 := hb2.ext hQ
  replace hE1 := hE1.trans hQ
  clear hQ hone
  go_upto_region 2 with (refine wpList_store_row rfl 26 _ _ rfl (w.heap.size + 1 + 1) #[g.iV, g.nV, g.oV] rfl rfl 26 _ hz (by kernel_rfl) rfl HO.out ?_)
  clear g0 g1 g2 hz HO hsz
  generalize World.setRow (w1.alloc _) _ _ = w2 at *
  obtain ⟨im, him⟩ : ∃ im, im = #[g.iV, g.nV, g.oV, pV, s0, s1, s2] := ⟨_, rfl⟩
  rw [← him] at hb2
  have HIM := Lib.hid him
  clear him
  have g0 : World.cell? w2 ⟨w.heap.size + 1 + 1, 0, none⟩ = some (.slice Ai g.ins.length ci) := by rw [← EI.out]; exact hb1.cell 0
  go_upto_if 13 with fail
  go_cut [14] (fun _ wx => Blk wx (w.heap.size + 1 + 1) #[.slice Ai (min 6 g.ins.length) ci, g.nV, g.oV] 26 ∧ Two w wx im ∧ Ext w wx)
  case first =>
    have hf := hb1.frozen 0
    have hlt := hb1.lt
    by_cases h : 6 < g.ins.length
    · have hx : (Blk (w2.setCell ⟨w.heap.size + 1 + 1, 0, none⟩ (.slice Ai 6 ci)) (w.heap.size + 1 + 1) #[.slice Ai (min 6 g.ins.length) ci, g.nV, g.oV] 26 ∧ Two w (w2.setCell ⟨w.heap.size + 1 + 1, 0, none⟩ (.slice Ai 6 ci)) im ∧ Ext w (w2.setCell ⟨w.heap.size + 1 + 1, 0, none⟩ (.slice Ai 6 ci))) := by
        refine ⟨?_, hb2.set _ _, Below.setCell hE1 (by show w.heap.size ≤ w.heap.size + 1 + 1; omega) _⟩
        have := hb1.set 0 (.slice Ai 6 ci)
        rw [show min 6 g.ins.length = 6 by omega]
        simpa using this
      have HX := Lib.hid hx
      clear hx hb1 hb2 hE1
      go_wp2_with fail
      go_meet
      exact HX.out
    · have hx : Blk w2 (w.heap.size + 1 + 1) #[.slice Ai (min 6 g.ins.length) ci, g.nV, g.oV] 26 := by
        rw [show min 6 g.ins.length = g.ins.length by omega, ← EI.out]; exact hb1
      go_wp2_with fail
      go_meet
      exact ⟨hx, hb2, hE1⟩
  clear hb1 hb2 hE1 g0
  obtain ⟨hb1, hb2, hE1⟩ := hcut
  have g2 : World.cell? wc ⟨w.heap.size + 1 + 1, 2, none⟩ = some (.slice Ao g.outs.length co) := by rw [← EO.out]; exact hb1.cell 2
  go_upto_if 21 with fail
  go_cut [22] (fun _ wx => Blk wx (w.heap.size + 1 + 1) #[.slice Ai (min 6 g.ins.length) ci, g.nV, .slice Ao (min 6 g.outs.length) co] 26 ∧ Two w wx im ∧ Ext w wx)
  case first =>
    have hf := hb1.frozen 2
    have hlt := hb1.lt
    by_cases h : 6 < g.outs.length
    · have hx : (Blk (wc.setCell ⟨w.heap.size + 1 + 1, 2, none⟩ (.slice Ao 6 co)) (w.heap.size + 1 + 1) #[.slice Ai (min 6 g.ins.length) ci, g.nV, .slice Ao (min 6 g.outs.length) co] 26 ∧ Two w (wc.setCell ⟨w.heap.size + 1 + 1, 2, none⟩ (.slice Ao 6 co)) im ∧ Ext w (wc.setCell ⟨w.heap.size + 1 + 1, 2, none⟩ (.slice Ao 6 co))) := by
        refine ⟨?_, hb2.set _ _, Below.setCell hE1 (by show w.heap.size ≤ w.heap.size + 1 + 1; omega) _⟩
        have := hb1.set 2 (.slice Ao 6 co)
        rw [show min 6 g.outs.length = 6 by omega]
        simpa using this
      have HX := Lib.hid hx
      clear hx hb1 hb2 hE1
      go_wp2_with fail
      go_meet
      exact HX.out
    · have hx : Blk wc (w.heap.size + 1 + 1) #[.slice Ai (min 6 g.ins.length) ci, g.nV, .slice Ao (min 6 g.outs.length) co] 26 := by
        rw [show min 6 g.outs.length = g.outs.length by omega, ← EO.out]; exact hb1
      go_wp2_with fail
      go_meet
      exact ⟨hx, hb2, hE1⟩
  clear hb1 hb2 hE1 g2
  obtain ⟨hb1, hb2, hE1⟩ := hcut
  have hown0 := World.ownsRow_made (base := w.heap.size + 1 + 1 + 1) (e := 40) (size := 14) wc #[] 0 (by have := hb1.lt; omega) (Nat.zero_le _) (by simp)
  have hS0 : LessI w (wc.alloc (.cells #[] 40)) im #[.slice Ai (min 6 g.ins.length) ci, g.nV, .slice Ao (min 6 g.outs.length) co] (.slice (some ⟨wc.heap.size, 0, none⟩) 0 0) [] :=
    ⟨hb1.ext (ext_alloc _ _), hb2.ext (ext_alloc _ _), hown0, hE1.trans (ext_alloc _ _)⟩
  have g1 : World.cell? (wc.alloc (.cells #[] 40)) ⟨w.heap.size + 1 + 1, 1, none⟩ = some (.slice An g.nodes.length cn) := by rw [← EN.out]; exact hS0.box1.cell 1
  go_wp2_with fail
  clear g1
  generalize wc.alloc _ = wd at *
  generalize Value.slice (some ⟨wc.heap.size, 0, none⟩) 0 0 = v0 at *
  clear hown0 hb1 hb2 hE1
  go_loopw [4, 5] (fun v0 i wr => ∃ (v : Value) (k : Nat) (ns : List Nd), v = v0 ∧ k ≤ 14 ∧ k ≤ g.nodes.length ∧ i = .int .i64 k ∧ ns.length = k ∧ LessI w wr im #[.slice Ai (min 6 g.ins.length) ci, g.nV, .slice Ao (min 6 g.outs.length) co] v ns ∧ ∀ n ∈ ns, nodeAt w0 n) (fun _ i _ => 14 - (intOf i).toNat)
  case atStart => exact ⟨_, 0, [], rfl, by omega, by omega, rfl, rfl, hS0, fun n hn => by cases hn⟩
  case round =>
    clear hS0
    obtain ⟨v, k, ns, rfl, hk14, hk, rfl, hnk, hS, heach⟩ := hrel
    have HOWN : Hid (∀ (A3 : Option Addr) (c3 m : Nat), (wr.ownsRow (w.heap.size + 1 + 1 + 1) 40 14 (.slice A3 m c3) ns.length (ns.flatMap Nd.cs)) → (Value.slice A3 m c3).ownBlock = none ∨ (Value.slice A3 m c3).ownBlock ≠ some (w.heap.size + 1 + 1)) := fun A3 c3 m h => .inr (fun e => by have := (h.lt _ e).1; omega)
    by_cases hgo : k < g.nodes.length ∧ k < 14
    · obtain ⟨hlt, hlt14⟩ := hgo
      have g1 : World.cell? wr ⟨w.heap.size + 1 + 1, 1, none⟩ = some (.slice An g.nodes.length cn) := by rw [← EN.out]; exact hS.box1.cell 1
      obtain ⟨A', c', e', _, _, hcc⟩ := SRow.form (Row.below hn hS.ext) (fun _ => rfl) (by omega)
      rw [EN.out] at e'
      cases e'
      have hs : g.nodes[k]? = some g.nodes[k] := by simp [hlt]
      obtain ⟨b, off, rfl, hbl, hc⟩ := hcc k _ hs
      have hnode := hea _ (List.getElem_mem hlt)
      generalize g.nodes[k] = n at *
      have nc0 : World.cell? wr ⟨b, off + k * 14, none⟩ = some (.int .i64 n.op) := hc 0 _ rfl
      have nc1 : World.cell? wr ⟨b, off + k * 14 + 1, none⟩ = some n.inV := hc 1 _ rfl
      have nc2 : World.cell? wr ⟨b, off + k * 14 + 2, none⟩ = some (.int .i64 n.k) := hc 2 _ rfl
      have nc3 : World.cell? wr ⟨b, off + k * 14 + 3, none⟩ = some (.int .i64 n.st) := hc 3 _ rfl
      have nc4 : World.cell? wr ⟨b, off + k * 14 + 4, none⟩ = some (.int .i64 n.pad) := hc 4 _ rfl
      have nc5 : World.cell? wr ⟨b, off + k * 14 + 5, none⟩ = some (.int .i64 n.out) := hc 5 _ rfl
      have nc6 : World.cell? wr ⟨b, off + k * 14 + 6, none⟩ = some (.int .i64 n.mul) := hc 6 _ rfl
      have nc7 : World.cell? wr ⟨b, off + k * 14 + 7, none⟩ = some (.int .i64 n.sh) := hc 7 _ rfl
      have nc8 : World.cell? wr ⟨b, off + k * 14 + 8, none⟩ = some (.int .i64 n.zero) := hc 8 _ rfl
      have nc9 : World.cell? wr ⟨b, off + k * 14 + 9, none⟩ = some (.int .i64 n.th) := hc 9 _ rfl
      have nc10 : World.cell? wr ⟨b, off + k * 14 + 10, none⟩ = some (.int .i64 n.tw) := hc 10 _ rfl
      have nc11 : World.cell? wr ⟨b, off + k * 14 + 11, none⟩ = some (.int .i64 n.tc) := hc 11 _ rfl
      have nc12 : World.cell? wr ⟨b, off + k * 14 + 12, none⟩ = some n.wV := hc 12 _ rfl
      have nc13 : World.cell? wr ⟨b, off + k * 14 + 13, none⟩ = some n.bV := hc 13 _ rfl
      clear hc hcc hs hi hn ho hea
      have hz := Blk.new wr #[.int .i64 0, .slice none 0 0, .int .i64 0, .int .i64 0, .int .i64 0, .int .i64 0, .int .i64 0, .int .i64 0, .int .i64 0, .int .i64 0, .int .i64 0, .int .i64 0, .slice none 0 0, .slice none 0 0] 40
      have hE4 : Ext wr ((wr.alloc (.cells #[.int .i64 0, .slice none 0 0, .int .i64 0, .int .i64 0, .int .i64 0, .int .i64 0, .int .i64 0, .int .i64 0, .int .i64 0, .int .i64 0, .int .i64 0, .int .i64 0, .slice none 0 0, .slice none 0 0] 40)).setRow wr.heap.size #[.int .i64 n.op, n.inV, .int .i64 n.k, .int .i64 n.st, .int .i64 n.pad, .int .i64 n.out, .int .i64 n.mul, .int .i64 n.sh, .int .i64 n.zero, .int .i64 n.th, .int .i64 n.tw, .int .i64 n.tc, n.wV, n.bV]) := ext_setRow (ext_alloc _ _) _ (Nat.le_refl _)
      have hnb : Blk ((wr.alloc (.cells #[.int .i64 0, .slice none 0 0, .int .i64 0, .int .i64 0, .int .i64 0, .int .i64 0, .int .i64 0, .int .i64 0, .int .i64 0, .int .i64 0, .int .i64 0, .int .i64 0, .slice none 0 0, .slice none 0 0] 40)).setRow wr.heap.size #[.int .i64 n.op, n.inV, .int .i64 n.k, .int .i64 n.st, .int .i64 n.pad, .int .i64 n.out, .int .i64 n.mul, .int .i64 n.sh, .int .i64 n.zero, .int .i64 n.th, .int .i64 n.tw, .int .i64 n.tc, n.wV, n.bV]) wr.heap.size #[.int .i64 n.op, n.inV, .int .i64 n.k, .int .i64 n.st, .int .i64 n.pad, .int .i64 n.out, .int .i64 n.mul, .int .i64 n.sh, .int .i64 n.zero, .int .i64 n.th, .int .i64 n.tw, .int .i64 n.tc, n.wV, n.bV] 40 := setRow_heap _ _ _ _ _ _ hz
      have hone : Array.all #[.int .i64 n.op, n.inV, .int .i64 n.k, .int .i64 n.st, .int .i64 n.pad, .int .i64 n.out, .int .i64 n.mul, .int .i64 n.sh, .int .i64 n.zero, .int .i64 n.th, .int .i64 n.tw, .int .i64 n.tc, n.wV, n.bV] (·.oneCell') = true := by
        rw [Array.all_eq_true]
        intro i hi
        exact node_cs_one hnode _ (by simpa [Nd.cs] using List.getElem_mem (l := Nd.cs n) hi)
      have HO := Lib.hid hone
      have hvy : v.ownBlock ≠ some wr.heap.size := fun e => by have := (hS.own.lt _ e).2; omega
      have hyg : w.heap.size + 1 + 1 + 1 ≤ wr.heap.size := hS.box1.lt
      replace hS := hS.later hE4
      clear hone hE4
      go_upto_region 11 with (refine wpList_store_row rfl 40 _ _ rfl wr.heap.size #[.int .i64 n.op, n.inV, .int .i64 n.k, .int .i64 n.st, .int .i64 n.pad, .int .i64 n.out, .int .i64 n.mul, .int .i64 n.sh, .int .i64 n.zero, .int .i64 n.th, .int .i64 n.tw, .int .i64 n.tc, n.wV, n.bV] rfl rfl 40 _ hz (by kernel_rfl) rfl HO.out ?_)
      clear nc0 nc1 nc2 nc3 nc4 nc5 nc6 nc7 nc8 nc9 nc10 nc11 nc12 nc13 hbl hz g1 HO HOWN
      generalize World.setRow (wr.alloc _) _ _ = wk at *
      generalize wr.heap.size = yb at *
      obtain ⟨A0, c0, e0, hc1, hc2, _⟩ := id (hnode.1.form)
      unfold maxLen at hc2
      have d0 : World.cell? wk ⟨yb, 1, none⟩ = some (.slice A0 n.ins.length c0) := by rw [← e0]; exact hnb.cell 1
      have E0 := Lib.hid e0
      clear e0
      go_upto_if 46 with fail
      go_cut [47] (fun _ wx => ∃ m : Nd, Blk wx yb #[.int .i64 m.op, m.inV, .int .i64 m.k, .int .i64 m.st, .int .i64 m.pad, .int .i64 m.out, .int .i64 m.mul, .int .i64 m.sh, .int .i64 m.zero, .int .i64 m.th, .int .i64 m.tw, .int .i64 m.tc, m.wV, m.bV] 40 ∧ nodeIn w0 m ∧ m.ins.length ≤ 20 ∧ LessI w wx im #[.slice Ai (min 6 g.ins.length) ci, g.nV, .slice Ao (min 6 g.outs.length) co] v ns)
      case first =>
        have hf := hnb.frozen 1
        have hlt0 := hnb.lt
        by_cases h : 20 < n.ins.length
        · have hx : ∃ m : Nd, Blk (World.setCell wk ⟨yb, 1, none⟩ (.slice A0 20 c0)) yb #[.int .i64 m.op, m.inV, .int .i64 m.k, .int .i64 m.st, .int .i64 m.pad, .int .i64 m.out, .int .i64 m.mul, .int .i64 m.sh, .int .i64 m.zero, .int .i64 m.th, .int .i64 m.tw, .int .i64 m.tc, m.wV, m.bV] 40 ∧ nodeIn w0 m ∧ m.ins.length ≤ 20 ∧ LessI w (World.setCell wk ⟨yb, 1, none⟩ (.slice A0 20 c0)) im #[.slice Ai (min 6 g.ins.length) ci, g.nV, .slice Ao (min 6 g.outs.length) co] v ns := by
            refine ⟨{ n with inV := .slice A0 20 c0, ins := n.ins.take 20 }, ?_, nodeIn.cutI hnode E0.out (by omega), ?_, hS.set hyg hvy _ _⟩
            · have := hnb.set 1 (.slice A0 20 c0)
              simpa using this
            · simp only [List.length_take]; omega
          have HX := Lib.hid hx
          clear hx hnb hS hnode
          go_wp2_with fail
          go_meet
          exact HX.out
        · go_wp2_with fail
          go_meet
          exact ⟨n, hnb, hnode, by omega, hS⟩
      clear hnb hS hnode d0 E0 hc1 hc2 
      obtain ⟨m1, hnb, hnode, hb0, hS⟩ := hcut
      obtain ⟨A0, c0, e0, hc1, hc2, _⟩ := id (hnode.2.1.form)
      unfold maxLen at hc2
      have d0 : World.cell? wc ⟨yb, 12, none⟩ = some (.slice A0 m1.ws.length c0) := by rw [← e0]; exact hnb.cell 12
      have E0 := Lib.hid e0
      clear e0
      go_upto_if 54 with fail
      go_cut [55] (fun _ wx => ∃ m : Nd, Blk wx yb #[.int .i64 m.op, m.inV, .int .i64 m.k, .int .i64 m.st, .int .i64 m.pad, .int .i64 m.out, .int .i64 m.mul, .int .i64 m.sh, .int .i64 m.zero, .int .i64 m.th, .int .i64 m.tw, .int .i64 m.tc, m.wV, m.bV] 40 ∧ nodeIn w0 m ∧ m.ins.length ≤ 20 ∧ m.ws.length ≤ 5000 ∧ LessI w wx im #[.slice Ai (min 6 g.ins.length) ci, g.nV, .slice Ao (min 6 g.outs.length) co] v ns)
      case first =>
        have hf := hnb.frozen 12
        have hlt0 := hnb.lt
        by_cases h : 5000 < m1.ws.length
        · have hx : ∃ m : Nd, Blk (World.setCell wc ⟨yb, 12, none⟩ (.slice A0 5000 c0)) yb #[.int .i64 m.op, m.inV, .int .i64 m.k, .int .i64 m.st, .int .i64 m.pad, .int .i64 m.out, .int .i64 m.mul, .int .i64 m.sh, .int .i64 m.zero, .int .i64 m.th, .int .i64 m.tw, .int .i64 m.tc, m.wV, m.bV] 40 ∧ nodeIn w0 m ∧ m.ins.length ≤ 20 ∧ m.ws.length ≤ 5000 ∧ LessI w (World.setCell wc ⟨yb, 12, none⟩ (.slice A0 5000 c0)) im #[.slice Ai (min 6 g.ins.length) ci, g.nV, .slice Ao (min 6 g.outs.length) co] v ns := by
            refine ⟨{ m1 with wV := .slice A0 5000 c0, ws := m1.ws.take 5000 }, ?_, nodeIn.cutW hnode E0.out (by omega), hb0, ?_, hS.set hyg hvy _ _⟩
            · have := hnb.set 12 (.slice A0 5000 c0)
              simpa using this
            · simp only [List.length_take]; omega
          have HX := Lib.hid hx
          clear hx hnb hS hnode
          go_wp2_with fail
          go_meet
          exact HX.out
        · go_wp2_with fail
          go_meet
          exact ⟨m1, hnb, hnode, hb0, by omega, hS⟩
      clear hnb hS hnode d0 E0 hc1 hc2 hb0
      obtain ⟨m2, hnb, hnode, hb0, hb1, hS⟩ := hcut
      obtain ⟨A0, c0, e0, hc1, hc2, _⟩ := id (hnode.2.2.1.form)
      unfold maxLen at hc2
      have d0 : World.cell? wc ⟨yb, 13, none⟩ = some (.slice A0 m2.bs.length c0) := by rw [← e0]; exact hnb.cell 13
      have E0 := Lib.hid e0
      clear e0
      go_upto_if 62 with fail
      go_cut [63] (fun _ wx => ∃ m : Nd, Blk wx yb #[.int .i64 m.op, m.inV, .int .i64 m.k, .int .i64 m.st, .int .i64 m.pad, .int .i64 m.out, .int .i64 m.mul, .int .i64 m.sh, .int .i64 m.zero, .int .i64 m.th, .int .i64 m.tw, .int .i64 m.tc, m.wV, m.bV] 40 ∧ nodeIn w0 m ∧ m.ins.length ≤ 20 ∧ m.ws.length ≤ 5000 ∧ m.bs.length ≤ 20 ∧ LessI w wx im #[.slice Ai (min 6 g.ins.length) ci, g.nV, .slice Ao (min 6 g.outs.length) co] v ns)
      case first =>
        have hf := hnb.frozen 13
        have hlt0 := hnb.lt
        by_cases h : 20 < m2.bs.length
        · have hx : ∃ m : Nd, Blk (World.setCell wc ⟨yb, 13, none⟩ (.slice A0 20 c0)) yb #[.int .i64 m.op, m.inV, .int .i64 m.k, .int .i64 m.st, .int .i64 m.pad, .int .i64 m.out, .int .i64 m.mul, .int .i64 m.sh, .int .i64 m.zero, .int .i64 m.th, .int .i64 m.tw, .int .i64 m.tc, m.wV, m.bV] 40 ∧ nodeIn w0 m ∧ m.ins.length ≤ 20 ∧ m.ws.length ≤ 5000 ∧ m.bs.length ≤ 20 ∧ LessI w (World.setCell wc ⟨yb, 13, none⟩ (.slice A0 20 c0)) im #[.slice Ai (min 6 g.ins.length) ci, g.nV, .slice Ao (min 6 g.outs.length) co] v ns := by
            refine ⟨{ m2 with bV := .slice A0 20 c0, bs := m2.bs.take 20 }, ?_, nodeIn.cutB hnode E0.out (by omega), hb0, hb1, ?_, hS.set hyg hvy _ _⟩
            · have := hnb.set 13 (.slice A0 20 c0)
              simpa using this
            · simp only [List.length_take]; omega
          have HX := Lib.hid hx
          clear hx hnb hS hnode
          go_wp2_with fail
          go_meet
          exact HX.out
        · go_wp2_with fail
          go_meet
          exact ⟨m2, hnb, hnode, hb0, hb1, by omega, hS⟩
      clear hnb hS hnode d0 E0 hc1 hc2 hb0 hb1
      obtain ⟨m3, hnb, hnode, hb0, hb1, hb2, hS⟩ := hcut
      have nd0 : World.cell? wc ⟨yb, 0, none⟩ = some (.int .i64 m3.op) := hnb.cell 0
      have nd1 : World.cell? wc ⟨yb, 1, none⟩ = some m3.inV := hnb.cell 1
      have nd2 : World.cell? wc ⟨yb, 2, none⟩ = some (.int .i64 m3.k) := hnb.cell 2
      have nd3 : World.cell? wc ⟨yb, 3, none⟩ = some (.int .i64 m3.st) := hnb.cell 3
      have nd4 : World.cell? wc ⟨yb, 4, none⟩ = some (.int .i64 m3.pad) := hnb.cell 4
      have nd5 : World.cell? wc ⟨yb, 5, none⟩ = some (.int .i64 m3.out) := hnb.cell 5
      have nd6 : World.cell? wc ⟨yb, 6, none⟩ = some (.int .i64 m3.mul) := hnb.cell 6
      have nd7 : World.cell? wc ⟨yb, 7, none⟩ = some (.int .i64 m3.sh) := hnb.cell 7
      have nd8 : World.cell? wc ⟨yb, 8, none⟩ = some (.int .i64 m3.zero) := hnb.cell 8
      have nd9 : World.cell? wc ⟨yb, 9, none⟩ = some (.int .i64 m3.th) := hnb.cell 9
      have nd10 : World.cell? wc ⟨yb, 10, none⟩ = some (.int .i64 m3.tw) := hnb.cell 10
      have nd11 : World.cell? wc ⟨yb, 11, none⟩ = some (.int .i64 m3.tc) := hnb.cell 11
      have nd12 : World.cell? wc ⟨yb, 12, none⟩ = some m3.wV := hnb.cell 12
      have nd13 : World.cell? wc ⟨yb, 13, none⟩ = some m3.bV := hnb.cell 13
      have hone := node_cs_one hnode
      have HO := Lib.hid hone
      have hE6 := ext_alloc wc (.cells #[.int .i64 m3.op, m3.inV, .int .i64 m3.k, .int .i64 m3.st, .int .i64 m3.pad, .int .i64 m3.out, .int .i64 m3.mul, .int .i64 m3.sh, .int .i64 m3.zero, .int .i64 m3.th, .int .i64 m3.tw, .int .i64 m3.tc, m3.wV, m3.bV] 40)
      have hnew := row_new wc #[.int .i64 m3.op, m3.inV, .int .i64 m3.k, .int .i64 m3.st, .int .i64 m3.pad, .int .i64 m3.out, .int .i64 m3.mul, .int .i64 m3.sh, .int .i64 m3.zero, .int .i64 m3.th, .int .i64 m3.tw, .int .i64 m3.tc, m3.wV, m3.bV] 40 1 14 rfl (by decide)
      have hS6 := hS.later hE6
      have hown6 := hS6.own
      have hbase : w.heap.size + 1 + 1 + 1 ≤ (wc.alloc (.cells #[.int .i64 m3.op, m3.inV, .int .i64 m3.k, .int .i64 m3.st, .int .i64 m3.pad, .int .i64 m3.out, .int .i64 m3.mul, .int .i64 m3.sh, .int .i64 m3.zero, .int .i64 m3.th, .int .i64 m3.tw, .int .i64 m3.tc, m3.wV, m3.bV] 40)).heap.size := by have := hS6.box1.lt; omega
      have hk1 : ns.length + 1 ≤ 140737488355328 := by omega
      have hk2 : (ns.length + 1) * 160 ≤ 140737488355328 := by omega
      have HA : Hid (∀ v' w', w'.ownsRow (w.heap.size + 1 + 1 + 1) 40 14 v' (ns.length + 1) (ns.flatMap Nd.cs ++ (#[.int .i64 m3.op, m3.inV, .int .i64 m3.k, .int .i64 m3.st, .int .i64 m3.pad, .int .i64 m3.out, .int .i64 m3.mul, .int .i64 m3.sh, .int .i64 m3.zero, .int .i64 m3.th, .int .i64 m3.tw, .int .i64 m3.tc, m3.wV, m3.bV] : Array Value).toList) → World.grownBy (wc.alloc (.cells #[.int .i64 m3.op, m3.inV, .int .i64 m3.k, .int .i64 m3.st, .int .i64 m3.pad, .int .i64 m3.out, .int .i64 m3.mul, .int .i64 m3.sh, .int .i64 m3.zero, .int .i64 m3.th, .int .i64 m3.tw, .int .i64 m3.tc, m3.wV, m3.bV] 40)) w' v.ownBlock → LessI w w' im #[.slice Ai (min 6 g.ins.length) ci, g.nV, .slice Ao (min 6 g.outs.length) co] v' (ns ++ [m3]) ∧ ∀ n ∈ ns ++ [m3], nodeAt w0 n) := by
        intro v' w' ho hgr
        have hvb : ∀ b, b < w.heap.size + 1 + 1 + 1 → some b ≠ v.ownBlock := fun b hb e => by have := (hown6.lt _ e.symm).1; omega
        refine ⟨⟨hS6.box1.grown hgr (hvb _ (by omega)), hS6.box2.kept (hgr.block _ (hS6.box2.lt1) (hvb _ (by omega))) (hgr.block _ (hS6.box2.lt2) (hvb _ (by omega))), ?_, Below.grown hS6.ext hgr (by omega) (fun b hb => by have := (hown6.lt _ hb).1; omega)⟩, fun n hn => ?_⟩
        · rw [List.length_append, List.flatMap_append]
          simpa [Nd.cs] using ho
        · rcases List.mem_append.1 hn with hn | hn
          · exact heach n hn
          · obtain rfl := List.mem_singleton.1 hn
            exact ⟨hnode.1, hnode.2.1, hnode.2.2.1, hnode.2.2.2.1, hnode.2.2.2.2, by omega, by omega, by omega⟩
      have hnk1 : (ns ++ [m3]).length = k + 1 := by simp [hnk]
      clear hS6 hS hnb hone hE6 hnode
      go_wp2_with (at_builtin; refine wpList_append_row rfl rfl elem_nd hown6 rfl hnew rfl HO.out hk1 hk2 hbase ?_; intro v9 w9 ho9 hgr9 _)
      obtain ⟨p1, p2⟩ := HA.out _ _ ho9 hgr9
      go_roundw
      case rel => exact ⟨_, k + 1, ns ++ [m3], rfl, by omega, by omega, by go_num, hnk1, p1, p2⟩
      case measure => simp [intOf]; omega
    · by_cases hlt : k < g.nodes.length
      · have h14 : ¬ k < 14 := fun h => hgo ⟨hlt, h⟩
        clear hgo
        subst hnk
        have hv := hS.own
        obtain ⟨A3, c3, e3, hv1, hv2, _⟩ := row_of_own hv
        subst e3
        have hwo := HOWN.out A3 c3 ns.length hv
        clear HOWN
        have hf := hS.box1.frozen 1
        have hlt1 := hS.box1.lt
        have g1 : World.cell? wr ⟨w.heap.size + 1 + 1, 1, none⟩ = some (.slice An g.nodes.length cn) := by rw [← EN.out]; exact hS.box1.cell 1
        clear hi hn ho hea
        go_upto_region 19 with fail
        have hE3 : Ext w (wr.setCell ⟨w.heap.size + 1 + 1, 1, none⟩ (.slice A3 ns.length c3)) := Below.setCell hS.ext (by show w.heap.size ≤ w.heap.size + 1 + 1; omega) _
        have hwz : (wr.setCell ⟨w.heap.size + 1 + 1, 1, none⟩ (.slice A3 ns.length c3)).ownsRow (w.heap.size + 1 + 1 + 1) 40 14 (.slice A3 ns.length c3) ns.length (ns.flatMap Nd.cs) := ownsRow_setCell_other hv (fun e => by have := (hv.lt _ e).1; simp only at this; omega) _
        have hx1 := hS.box1.set 1 (.slice A3 ns.length c3)
        have hx2 := hS.box2.set 1 (.slice A3 ns.length c3)
        clear g1 hf hlt1 hS hv
        generalize World.setCell wr _ _ = wz at *
        obtain ⟨Ap, cp, ep, hp1, hp2, _⟩ := id HPL.out.form
        unfold maxLen at hp2
        have j0 : World.cell? wz ⟨w.heap.size + 1 + 1, 0, none⟩ = some (.slice Ai (min 6 g.ins.length) ci) := hx1.cell 0
        have j1 : World.cell? wz ⟨w.heap.size + 1 + 1, 1, none⟩ = some (.slice A3 ns.length c3) := hx1.cell 1
        have j2 : World.cell? wz ⟨w.heap.size + 1 + 1, 2, none⟩ = some (.slice Ao (min 6 g.outs.length) co) := hx1.cell 2
        have j3 : World.cell? wz ⟨w.heap.size, 1 + 2, none⟩ = some (.slice Ap pl.length cp) := by
          rw [hx2.1.cell, HIM.out, ← ep]; rfl
        have hlz := hx2.lt2
        have hz := Blk.new wz #[.slice none 0 0, .slice none 0 0, .slice none 0 0, .slice none 0 0, .slice none 0 0, .slice none 0 0, .slice none 0 0] 54
        have hb7 : Blk ((wz.alloc (.cells #[.slice none 0 0, .slice none 0 0, .slice none 0 0, .slice none 0 0, .slice none 0 0, .slice none 0 0, .slice none 0 0] 54)).setRow wz.heap.size #[.slice Ai (min 6 g.ins.length) ci, .slice A3 ns.length c3, .slice Ao (min 6 g.outs.length) co, .slice Ap pl.length cp, .slice none 0 0, .slice none 0 0, .slice none 0 0]) wz.heap.size #[.slice Ai (min 6 g.ins.length) ci, .slice A3 ns.length c3, .slice Ao (min 6 g.outs.length) co, .slice Ap pl.length cp, .slice none 0 0, .slice none 0 0, .slice none 0 0] 54 := setRow_heap _ _ _ _ _ _ hz
        have hQ : Ext wz ((wz.alloc (.cells #[.slice none 0 0, .slice none 0 0, .slice none 0 0, .slice none 0 0, .slice none 0 0, .slice none 0 0, .slice none 0 0] 54)).setRow wz.heap.size #[.slice Ai (min 6 g.ins.length) ci, .slice A3 ns.length c3, .slice Ao (min 6 g.outs.length) co, .slice Ap pl.length cp, .slice none 0 0, .slice none 0 0, .slice none 0 0]) := ext_setRow (ext_alloc _ _) _ (Nat.le_refl _)
        have EP := Lib.hid ep
        clear ep
        go_upto_region 20 with (refine wpList_store_row rfl 54 _ _ rfl wz.heap.size #[.slice Ai (min 6 g.ins.length) ci, .slice A3 ns.length c3, .slice Ao (min 6 g.outs.length) co, .slice Ap pl.length cp, .slice none 0 0, .slice none 0 0, .slice none 0 0] rfl rfl 54 _ hz (by kernel_rfl) rfl (by simp [Value.oneCell']) ?_)
        have hvb7 : (Value.slice A3 ns.length c3).ownBlock ≠ some wz.heap.size := fun e => by have := (hwz.lt _ e).2; omega
        replace hwz := World.ownsRow.kept (row := none) hwz (grown_of_ext hQ) (by cases (Value.slice A3 ns.length c3).ownBlock <;> simp)
        replace hE3 := hE3.trans hQ
        replace hx2 := hx2.2.ext hQ
        clear hQ hz j0 j1 j2 j3 hx1
        generalize World.setRow (wz.alloc _) _ _ = wy at *
        generalize wz.heap.size = b7 at *
        have HVB := Lib.hid hvb7
        clear hvb7
        by_cases h30 : 30 < pl.length
        · have hf := hb7.frozen 3
          have hl7 := hb7.lt
          have n3 : World.cell? wy ⟨b7, 3, none⟩ = some (.slice Ap pl.length cp) := hb7.cell 3
          go_upto_region 22 with fail
          have hb8 : Blk (wy.setCell ⟨b7, 3, none⟩ (.slice Ap 30 cp)) b7 #[.slice Ai (min 6 g.ins.length) ci, .slice A3 ns.length c3, .slice Ao (min 6 g.outs.length) co, .slice Ap 30 cp, .slice none 0 0, .slice none 0 0, .slice none 0 0] 54 := by simpa using hb7.set 3 (.slice Ap 30 cp)
          have hx3 := hx2.grown (setCell_grown wy b7 3 (.slice Ap 30 cp)) (fun e => by have := Option.some.inj e; omega)
          have hE4 : Ext w (wy.setCell ⟨b7, 3, none⟩ (.slice Ap 30 cp)) := Below.setCell hE3 (by show w.heap.size ≤ b7; omega) _
          have hw4 := ownsRow_setCell_other (a := ⟨b7, 3, none⟩) hwz HVB.out (.slice Ap 30 cp)
          clear hb7 hx2 hE3 hwz hf hl7 n3
          generalize World.setCell wy _ _ = wq at *
          have n0 : World.cell? wq ⟨b7, 0, none⟩ = some (.slice Ai (min 6 g.ins.length) ci) := hb8.cell 0
          have n1 : World.cell? wq ⟨b7, 1, none⟩ = some (.slice A3 ns.length c3) := hb8.cell 1
          have n2 : World.cell? wq ⟨b7, 2, none⟩ = some (.slice Ao (min 6 g.outs.length) co) := hb8.cell 2
          have n3 : World.cell? wq ⟨b7, 3, none⟩ = some (.slice Ap 30 cp) := hb8.cell 3
          have n4 : World.cell? wq ⟨b7, 4, none⟩ = some (.slice none 0 0) := hb8.cell 4
          have n5 : World.cell? wq ⟨b7, 5, none⟩ = some (.slice none 0 0) := hb8.cell 5
          have n6 : World.cell? wq ⟨b7, 6, none⟩ = some (.slice none 0 0) := hb8.cell 6
          have hE5 := ext_setRow hE4 #[.slice Ai (min 6 g.ins.length) ci, .slice A3 ns.length c3, .slice Ao (min 6 g.outs.length) co, .slice Ap 30 cp, .slice none 0 0, .slice none 0 0, .slice none 0 0] (show w.heap.size ≤ w.heap.size + 1 by omega)
          have hgz := setRow_grown wq (w.heap.size + 1) #[.slice Ai (min 6 g.ins.length) ci, .slice A3 ns.length c3, .slice Ao (min 6 g.outs.length) co, .slice Ap 30 cp, .slice none 0 0, .slice none 0 0, .slice none 0 0]
          go_wp2_with (refine wpList_store_row rfl 54 _ _ rfl (w.heap.size + 1) #[.slice Ai (min 6 g.ins.length) ci, .slice A3 ns.length c3, .slice Ao (min 6 g.outs.length) co, .slice Ap 30 cp, .slice none 0 0, .slice none 0 0, .slice none 0 0] rfl rfl 54 _ hx3 (by kernel_rfl) rfl (by simp [Value.oneCell']) ?_)
          refine bodyPost_ret (v := .agg _) (results_cell_row Try.results25 _ _ (w.heap.size + 1) 54 _ (0, 0) _ rfl (setRow_heap _ _ _ _ _ _ hx3) (by kernel_rfl : Try.prog.underlying 54 = some (.struct (Try.prog.fieldsOf 54))) rfl (by kernel_rfl)) rfl ?_
          refine HP.out _ _ ⟨⟨.slice Ai (min 6 g.ins.length) ci, .slice A3 ns.length c3, .slice Ao (min 6 g.outs.length) co, g.ins.take (min 6 g.ins.length), ns, g.outs.take (min 6 g.outs.length)⟩, .slice Ap 30 cp, pl.take 30, rfl, ?_, ?_, by simp only [List.length_take]; omega, hE5⟩
          · refine ⟨?_, ?_, heach, ?_, hE0.trans hE5, by simp only [List.length_take]; omega, by show ns.length ≤ 255; omega, by simp only [List.length_take]; omega⟩
            · have := HG.out.ins
              rw [EI.out] at this
              exact SRow.first this (fun _ => rfl) (by omega)
            · have := HG.out.outs
              rw [EO.out] at this
              exact Ints.first this (by omega)
            · exact World.ownsRow.kept hw4 hgz (.inr fun e => by have := (hw4.lt _ e).1; omega)
          · have := HPL.out
            rw [EP.out] at this
            exact Ints.first this (by omega)
        · have hE4 := hE3
          have hw4 := hwz
          have hx3 := hx2
          have hb8 := hb7
          have n3 : World.cell? wy ⟨b7, 3, none⟩ = some (.slice Ap pl.length cp) := hb7.cell 3
          clear hb7 hx2 hE3 hwz
          go_upto_region 22 with fail
          clear n3
          generalize wy = wq at *
          have n0 : World.cell? wq ⟨b7, 0, none⟩ = some (.slice Ai (min 6 g.ins.length) ci) := hb8.cell 0
          have n1 : World.cell? wq ⟨b7, 1, none⟩ = some (.slice A3 ns.length c3) := hb8.cell 1
          have n2 : World.cell? wq ⟨b7, 2, none⟩ = some (.slice Ao (min 6 g.outs.length) co) := hb8.cell 2
          have n3 : World.cell? wq ⟨b7, 3, none⟩ = some (.slice Ap pl.length cp) := hb8.cell 3
          have n4 : World.cell? wq ⟨b7, 4, none⟩ = some (.slice none 0 0) := hb8.cell 4
          have n5 : World.cell? wq ⟨b7, 5, none⟩ = some (.slice none 0 0) := hb8.cell 5
          have n6 : World.cell? wq ⟨b7, 6, none⟩ = some (.slice none 0 0) := hb8.cell 6
          have hE5 := ext_setRow hE4 #[.slice Ai (min 6 g.ins.length) ci, .slice A3 ns.length c3, .slice Ao (min 6 g.outs.length) co, .slice Ap pl.length cp, .slice none 0 0, .slice none 0 0, .slice none 0 0] (show w.heap.size ≤ w.heap.size + 1 by omega)
          have hgz := setRow_grown wq (w.heap.size + 1) #[.slice Ai (min 6 g.ins.length) ci, .slice A3 ns.length c3, .slice Ao (min 6 g.outs.length) co, .slice Ap pl.length cp, .slice none 0 0, .slice none 0 0, .slice none 0 0]
          go_wp2_with (refine wpList_store_row rfl 54 _ _ rfl (w.heap.size + 1) #[.slice Ai (min 6 g.ins.length) ci, .slice A3 ns.length c3, .slice Ao (min 6 g.outs.length) co, .slice Ap pl.length cp, .slice none 0 0, .slice none 0 0, .slice none 0 0] rfl rfl 54 _ hx3 (by kernel_rfl) rfl (by simp [Value.oneCell']) ?_)
          refine bodyPost_ret (v := .agg _) (results_cell_row Try.results25 _ _ (w.heap.size + 1) 54 _ (0, 0) _ rfl (setRow_heap _ _ _ _ _ _ hx3) (by kernel_rfl : Try.prog.underlying 54 = some (.struct (Try.prog.fieldsOf 54))) rfl (by kernel_rfl)) rfl ?_
          refine HP.out _ _ ⟨⟨.slice Ai (min 6 g.ins.length) ci, .slice A3 ns.length c3, .slice Ao (min 6 g.outs.length) co, g.ins.take (min 6 g.ins.length), ns, g.outs.take (min 6 g.outs.length)⟩, .slice Ap pl.length cp, pl.take pl.length, rfl, ?_, ?_, by simp only [List.length_take]; omega, hE5⟩
          · refine ⟨?_, ?_, heach, ?_, hE0.trans hE5, by simp only [List.length_take]; omega, by show ns.length ≤ 255; omega, by simp only [List.length_take]; omega⟩
            · have := HG.out.ins
              rw [EI.out] at this
              exact SRow.first this (fun _ => rfl) (by omega)
            · have := HG.out.outs
              rw [EO.out] at this
              exact Ints.first this (by omega)
            · exact World.ownsRow.kept hw4 hgz (.inr fun e => by have := (hw4.lt _ e).1; omega)
          · have := HPL.out
            rw [EP.out] at this
            exact Ints.first this (by omega)
      · clear hgo
        subst hnk
        have hv := hS.own
        obtain ⟨A3, c3, e3, hv1, hv2, _⟩ := row_of_own hv
        subst e3
        have hwo := HOWN.out A3 c3 ns.length hv
        clear HOWN
        have hf := hS.box1.frozen 1
        have hlt1 := hS.box1.lt
        have g1 : World.cell? wr ⟨w.heap.size + 1 + 1, 1, none⟩ = some (.slice An g.nodes.length cn) := by rw [← EN.out]; exact hS.box1.cell 1
        clear hi hn ho hea
        go_upto_region 19 with fail
        have hE3 : Ext w (wr.setCell ⟨w.heap.size + 1 + 1, 1, none⟩ (.slice A3 ns.length c3)) := Below.setCell hS.ext (by show w.heap.size ≤ w.heap.size + 1 + 1; omega) _
        have hwz : (wr.setCell ⟨w.heap.size + 1 + 1, 1, none⟩ (.slice A3 ns.length c3)).ownsRow (w.heap.size + 1 + 1 + 1) 40 14 (.slice A3 ns.length c3) ns.length (ns.flatMap Nd.cs) := ownsRow_setCell_other hv (fun e => by have := (hv.lt _ e).1; simp only at this; omega) _
        have hx1 := hS.box1.set 1 (.slice A3 ns.length c3)
        have hx2 := hS.box2.set 1 (.slice A3 ns.length c3)
        clear g1 hf hlt1 hS hv
        generalize World.setCell wr _ _ = wz at *
        obtain ⟨Ap, cp, ep, hp1, hp2, _⟩ := id HPL.out.form
        unfold maxLen at hp2
        have j0 : World.cell? wz ⟨w.heap.size + 1 + 1, 0, none⟩ = some (.slice Ai (min 6 g.ins.length) ci) := hx1.cell 0
        have j1 : World.cell? wz ⟨w.heap.size + 1 + 1, 1, none⟩ = some (.slice A3 ns.length c3) := hx1.cell 1
        have j2 : World.cell? wz ⟨w.heap.size + 1 + 1, 2, none⟩ = some (.slice Ao (min 6 g.outs.length) co) := hx1.cell 2
        have j3 : World.cell? wz ⟨w.heap.size, 1 + 2, none⟩ = some (.slice Ap pl.length cp) := by
          rw [hx2.1.cell, HIM.out, ← ep]; rfl
        have hlz := hx2.lt2
        have hz := Blk.new wz #[.slice none 0 0, .slice none 0 0, .slice none 0 0, .slice none 0 0, .slice none 0 0, .slice none 0 0, .slice none 0 0] 54
        have hb7 : Blk ((wz.alloc (.cells #[.slice none 0 0, .slice none 0 0, .slice none 0 0, .slice none 0 0, .slice none 0 0, .slice none 0 0, .slice none 0 0] 54)).setRow wz.heap.size #[.slice Ai (min 6 g.ins.length) ci, .slice A3 ns.length c3, .slice Ao (min 6 g.outs.length) co, .slice Ap pl.length cp, .slice none 0 0, .slice none 0 0, .slice none 0 0]) wz.heap.size #[.slice Ai (min 6 g.ins.length) ci, .slice A3 ns.length c3, .slice Ao (min 6 g.outs.length) co, .slice Ap pl.length cp, .slice none 0 0, .slice none 0 0, .slice none 0 0] 54 := setRow_heap _ _ _ _ _ _ hz
        have hQ : Ext wz ((wz.alloc (.cells #[.slice none 0 0, .slice none 0 0, .slice none 0 0, .slice none 0 0, .slice none 0 0, .slice none 0 0, .slice none 0 0] 54)).setRow wz.heap.size #[.slice Ai (min 6 g.ins.length) ci, .slice A3 ns.length c3, .slice Ao (min 6 g.outs.length) co, .slice Ap pl.length cp, .slice none 0 0, .slice none 0 0, .slice none 0 0]) := ext_setRow (ext_alloc _ _) _ (Nat.le_refl _)
        have EP := Lib.hid ep
        clear ep
        go_upto_region 20 with (refine wpList_store_row rfl 54 _ _ rfl wz.heap.size #[.slice Ai (min 6 g.ins.length) ci, .slice A3 ns.length c3, .slice Ao (min 6 g.outs.length) co, .slice Ap pl.length cp, .slice none 0 0, .slice none 0 0, .slice none 0 0] rfl rfl 54 _ hz (by kernel_rfl) rfl (by simp [Value.oneCell']) ?_)
        have hvb7 : (Value.slice A3 ns.length c3).ownBlock ≠ some wz.heap.size := fun e => by have := (hwz.lt _ e).2; omega
        replace hwz := World.ownsRow.kept (row := none) hwz (grown_of_ext hQ) (by cases (Value.slice A3 ns.length c3).ownBlock <;> simp)
        replace hE3 := hE3.trans hQ
        replace hx2 := hx2.2.ext hQ
        clear hQ hz j0 j1 j2 j3 hx1
        generalize World.setRow (wz.alloc _) _ _ = wy at *
        generalize wz.heap.size = b7 at *
        have HVB := Lib.hid hvb7
        clear hvb7
        by_cases h30 : 30 < pl.length
        · have hf := hb7.frozen 3
          have hl7 := hb7.lt
          have n3 : World.cell? wy ⟨b7, 3, none⟩ = some (.slice Ap pl.length cp) := hb7.cell 3
          go_upto_region 22 with fail
          have hb8 : Blk (wy.setCell ⟨b7, 3, none⟩ (.slice Ap 30 cp)) b7 #[.slice Ai (min 6 g.ins.length) ci, .slice A3 ns.length c3, .slice Ao (min 6 g.outs.length) co, .slice Ap 30 cp, .slice none 0 0, .slice none 0 0, .slice none 0 0] 54 := by simpa using hb7.set 3 (.slice Ap 30 cp)
          have hx3 := hx2.grown (setCell_grown wy b7 3 (.slice Ap 30 cp)) (fun e => by have := Option.some.inj e; omega)
          have hE4 : Ext w (wy.setCell ⟨b7, 3, none⟩ (.slice Ap 30 cp)) := Below.setCell hE3 (by show w.heap.size ≤ b7; omega) _
          have hw4 := ownsRow_setCell_other (a := ⟨b7, 3, none⟩) hwz HVB.out (.slice Ap 30 cp)
          clear hb7 hx2 hE3 hwz hf hl7 n3
          generalize World.setCell wy _ _ = wq at *
          have n0 : World.cell? wq ⟨b7, 0, none⟩ = some (.slice Ai (min 6 g.ins.length) ci) := hb8.cell 0
          have n1 : World.cell? wq ⟨b7, 1, none⟩ = some (.slice A3 ns.length c3) := hb8.cell 1
          have n2 : World.cell? wq ⟨b7, 2, none⟩ = some (.slice Ao (min 6 g.outs.length) co) := hb8.cell 2
          have n3 : World.cell? wq ⟨b7, 3, none⟩ = some (.slice Ap 30 cp) := hb8.cell 3
          have n4 : World.cell? wq ⟨b7, 4, none⟩ = some (.slice none 0 0) := hb8.cell 4
          have n5 : World.cell? wq ⟨b7, 5, none⟩ = some (.slice none 0 0) := hb8.cell 5
          have n6 : World.cell? wq ⟨b7, 6, none⟩ = some (.slice none 0 0) := hb8.cell 6
          have hE5 := ext_setRow hE4 #[.slice Ai (min 6 g.ins.length) ci, .slice A3 ns.length c3, .slice Ao (min 6 g.outs.length) co, .slice Ap 30 cp, .slice none 0 0, .slice none 0 0, .slice none 0 0] (show w.heap.size ≤ w.heap.size + 1 by omega)
          have hgz := setRow_grown wq (w.heap.size + 1) #[.slice Ai (min 6 g.ins.length) ci, .slice A3 ns.length c3, .slice Ao (min 6 g.outs.length) co, .slice Ap 30 cp, .slice none 0 0, .slice none 0 0, .slice none 0 0]
          go_wp2_with (refine wpList_store_row rfl 54 _ _ rfl (w.heap.size + 1) #[.slice Ai (min 6 g.ins.length) ci, .slice A3 ns.length c3, .slice Ao (min 6 g.outs.length) co, .slice Ap 30 cp, .slice none 0 0, .slice none 0 0, .slice none 0 0] rfl rfl 54 _ hx3 (by kernel_rfl) rfl (by simp [Value.oneCell']) ?_)
          refine bodyPost_ret (v := .agg _) (results_cell_row Try.results25 _ _ (w.heap.size + 1) 54 _ (0, 0) _ rfl (setRow_heap _ _ _ _ _ _ hx3) (by kernel_rfl : Try.prog.underlying 54 = some (.struct (Try.prog.fieldsOf 54))) rfl (by kernel_rfl)) rfl ?_
          refine HP.out _ _ ⟨⟨.slice Ai (min 6 g.ins.length) ci, .slice A3 ns.length c3, .slice Ao (min 6 g.outs.length) co, g.ins.take (min 6 g.ins.length), ns, g.outs.take (min 6 g.outs.length)⟩, .slice Ap 30 cp, pl.take 30, rfl, ?_, ?_, by simp only [List.length_take]; omega, hE5⟩
          · refine ⟨?_, ?_, heach, ?_, hE0.trans hE5, by simp only [List.length_take]; omega, by show ns.length ≤ 255; omega, by simp only [List.length_take]; omega⟩
            · have := HG.out.ins
              rw [EI.out] at this
              exact SRow.first this (fun _ => rfl) (by omega)
            · have := HG.out.outs
              rw [EO.out] at this
              exact Ints.first this (by omega)
            · exact World.ownsRow.kept hw4 hgz (.inr fun e => by have := (hw4.lt _ e).1; omega)
          · have := HPL.out
            rw [EP.out] at this
            exact Ints.first this (by omega)
        · have hE4 := hE3
          have hw4 := hwz
          have hx3 := hx2
          have hb8 := hb7
          have n3 : World.cell? wy ⟨b7, 3, none⟩ = some (.slice Ap pl.length cp) := hb7.cell 3
          clear hb7 hx2 hE3 hwz
          go_upto_region 22 with fail
          clear n3
          generalize wy = wq at *
          have n0 : World.cell? wq ⟨b7, 0, none⟩ = some (.slice Ai (min 6 g.ins.length) ci) := hb8.cell 0
          have n1 : World.cell? wq ⟨b7, 1, none⟩ = some (.slice A3 ns.length c3) := hb8.cell 1
          have n2 : World.cell? wq ⟨b7, 2, none⟩ = some (.slice Ao (min 6 g.outs.length) co) := hb8.cell 2
          have n3 : World.cell? wq ⟨b7, 3, none⟩ = some (.slice Ap pl.length cp) := hb8.cell 3
          have n4 : World.cell? wq ⟨b7, 4, none⟩ = some (.slice none 0 0) := hb8.cell 4
          have n5 : World.cell? wq ⟨b7, 5, none⟩ = some (.slice none 0 0) := hb8.cell 5
          have n6 : World.cell? wq ⟨b7, 6, none⟩ = some (.slice none 0 0) := hb8.cell 6
          have hE5 := ext_setRow hE4 #[.slice Ai (min 6 g.ins.length) ci, .slice A3 ns.length c3, .slice Ao (min 6 g.outs.length) co, .slice Ap pl.length cp, .slice none 0 0, .slice none 0 0, .slice none 0 0] (show w.heap.size ≤ w.heap.size + 1 by omega)
          have hgz := setRow_grown wq (w.heap.size + 1) #[.slice Ai (min 6 g.ins.length) ci, .slice A3 ns.length c3, .slice Ao (min 6 g.outs.length) co, .slice Ap pl.length cp, .slice none 0 0, .slice none 0 0, .slice none 0 0]
          go_wp2_with (refine wpList_store_row rfl 54 _ _ rfl (w.heap.size + 1) #[.slice Ai (min 6 g.ins.length) ci, .slice A3 ns.length c3, .slice Ao (min 6 g.outs.length) co, .slice Ap pl.length cp, .slice none 0 0, .slice none 0 0, .slice none 0 0] rfl rfl 54 _ hx3 (by kernel_rfl) rfl (by simp [Value.oneCell']) ?_)
          refine bodyPost_ret (v := .agg _) (results_cell_row Try.results25 _ _ (w.heap.size + 1) 54 _ (0, 0) _ rfl (setRow_heap _ _ _ _ _ _ hx3) (by kernel_rfl : Try.prog.underlying 54 = some (.struct (Try.prog.fieldsOf 54))) rfl (by kernel_rfl)) rfl ?_
          refine HP.out _ _ ⟨⟨.slice Ai (min 6 g.ins.length) ci, .slice A3 ns.length c3, .slice Ao (min 6 g.outs.length) co, g.ins.take (min 6 g.ins.length), ns, g.outs.take (min 6 g.outs.length)⟩, .slice Ap pl.length cp, pl.take pl.length, rfl, ?_, ?_, by simp only [List.length_take]; omega, hE5⟩
          · refine ⟨?_, ?_, heach, ?_, hE0.trans hE5, by simp only [List.length_take]; omega, by show ns.length ≤ 255; omega, by simp only [List.length_take]; omega⟩
            · have := HG.out.ins
              rw [EI.out] at this
              exact SRow.first this (fun _ => rfl) (by omega)
            · have := HG.out.outs
              rw [EO.out] at this
              exact Ints.first this (by omega)
            · exact World.ownsRow.kept hw4 hgz (.inr fun e => by have := (hw4.lt _ e).1; omega)
          · have := HPL.out
            rw [EP.out] at this
            exact Ints.first this (by omega)

end Go.Proofs.Ytdhdbmfipkppiaa
