/- The walk of less: a graph of few values, nodes, weights. -/
import Derived.Test.YtdhdbmfipkppiaaModS
namespace Go.Proofs.Ytdhdbmfipkppiaa
set_option linter.unusedSimpArgs false
set_option linter.unusedVariables false
set_option linter.unnecessarySimpa false
open Go.RowKit

/-- A node, of whatever rows. -/
def nodeIn (w : World) (n : Nd) : Prop := Ints .i64 w n.inV n.ins ∧ Ints .i8 w n.wV n.ws ∧ Ints .i32 w n.bV n.bs ∧ (∀ z ∈ n.bs, InK .i32 z) ∧ (∀ z ∈ n.ws, InK .i8 z)

/-- A graph, of whatever rows. -/
structure GrIn (w : World) (g : Gr) : Prop where
  ins : Vls w g.iV g.ins
  nodes : SRow w g.nV Nd.cs 14 g.nodes
  outs : Ints .i64 w g.oV g.outs
  each : ∀ n ∈ g.nodes, nodeIn w n

theorem elem_nd : ElemT Try.prog 23 40 14 160 := elemT_of (z := .agg #[.int .i64 0, .slice none 0 0, .int .i64 0, .int .i64 0, .int .i64 0, .int .i64 0, .int .i64 0, .int .i64 0, .int .i64 0, .int .i64 0, .int .i64 0, .int .i64 0, .slice none 0 0, .slice none 0 0]) Try.underlying23 (by kernel_rfl) rfl (by omega)

/-- What stands while the nodes are cut. -/
structure LessS (w W : World) (c1 : Array Value) (v : Value) (ns : List Nd) : Prop where
  box1 : Blk W w.heap.size c1 26
  box2 : Blk W (w.heap.size + 1) #[.slice none 0 0, .slice none 0 0, .slice none 0 0] 26
  own : W.ownsRow (w.heap.size + 2) 40 14 v ns.length (ns.flatMap Nd.cs)
  ext : Ext w W
theorem LessS.later {w W W' : World} {c1 : Array Value} {v : Value} {ns : List Nd} (h : LessS w W c1 v ns) (e : Ext W W') : LessS w W' c1 v ns :=
  ⟨h.box1.ext e, h.box2.ext e, World.ownsRow.kept (row := none) h.own (grown_of_ext e) (by cases v.ownBlock <;> simp), h.ext.trans e⟩
theorem LessS.set {w W : World} {c1 : Array Value} {v : Value} {ns : List Nd} (h : LessS w W c1 v ns) {yb : Nat} (hy : w.heap.size + 2 ≤ yb) (hv : v.ownBlock ≠ some yb) (i : Nat) (x : Value) : LessS w (W.setCell ⟨yb, i, none⟩ x) c1 v ns :=
  ⟨h.box1.grown (setCell_grown _ _ _ _) (by simp; omega), h.box2.grown (setCell_grown _ _ _ _) (by simp; omega), ownsRow_setCell_other h.own hv _, Below.setCell h.ext (by show w.heap.size ≤ yb; omega) _⟩

theorem nodeIn.cutI {w : World} {n : Nd} {A : Option Addr} {c k : Nat} (h : nodeIn w n) (e : n.inV = .slice A n.ins.length c) (hk : k ≤ n.ins.length) : nodeIn w { n with inV := .slice A k c, ins := n.ins.take k } :=
  ⟨Ints.first (by rw [← e]; exact h.1) hk, h.2.1, h.2.2.1, h.2.2.2⟩
theorem nodeIn.cutW {w : World} {n : Nd} {A : Option Addr} {c k : Nat} (h : nodeIn w n) (e : n.wV = .slice A n.ws.length c) (hk : k ≤ n.ws.length) : nodeIn w { n with wV := .slice A k c, ws := n.ws.take k } :=
  ⟨h.1, Ints.first (by rw [← e]; exact h.2.1) hk, h.2.2.1, h.2.2.2.1, fun z hz => h.2.2.2.2 z (List.mem_of_mem_take hz)⟩
theorem nodeIn.cutB {w : World} {n : Nd} {A : Option Addr} {c k : Nat} (h : nodeIn w n) (e : n.bV = .slice A n.bs.length c) (hk : k ≤ n.bs.length) : nodeIn w { n with bV := .slice A k c, bs := n.bs.take k } :=
  ⟨h.1, h.2.1, Ints.first (by rw [← e]; exact h.2.2.1) hk, fun z hz => h.2.2.2.1 z (List.mem_of_mem_take hz), h.2.2.2.2⟩

theorem node_cs_one {w : World} {n : Nd} (h : nodeIn w n) : ∀ u ∈ n.cs, u.oneCell' = true := by
  obtain ⟨_, _, e1, _⟩ := h.1.form
  obtain ⟨_, _, e2, _⟩ := h.2.1.form
  obtain ⟨_, _, e3, _⟩ := h.2.2.1.form
  intro u hu
  unfold Nd.cs at hu
  rw [e1, e2, e3] at hu
  simp only [List.mem_cons, List.not_mem_nil, or_false] at hu
  rcases hu with rfl | rfl | rfl | rfl | rfl | rfl | rfl | rfl | rfl | rfl | rfl | rfl | rfl | rfl <;> rfl

theorem flat_take {α : Type} {cs : α → List Value} {sz : Nat} (hsz : ∀ x, (cs x).length = sz) : ∀ (l : List α) (k : Nat), (l.flatMap cs).take (k * sz) = (l.take k).flatMap cs
  | [], k => by simp
  | a :: l, 0 => by simp
  | a :: l, k + 1 => by
    rw [List.flatMap_cons, List.take_succ_cons, List.flatMap_cons, ← flat_take hsz l k, Nat.add_mul, Nat.one_mul, Nat.add_comm, ← hsz a, List.take_length_add_append]
theorem SRow.first {w : World} {α : Type} {cs : α → List Value} {sz : Nat} {l : List α} {A : Option Addr} {n c k : Nat} (h : SRow w (.slice A n c) cs sz l) (hsz : ∀ x, (cs x).length = sz) (hk : k ≤ l.length) : SRow w (.slice A k c) cs sz (l.take k) := by
  have e : n = l.length := by
    obtain ⟨_, _, e, _⟩ := h
    cases e
    rfl
  subst e
  have := Row.first h rfl k hk
  rw [flat_take hsz] at this
  unfold SRow
  rw [List.length_take, Nat.min_eq_left hk]
  exact this

/-- A graph whose nodes lie in a row of a call's own, all its other rows where they lay. -/
structure GrL (w0 : World) (base : Nat) (W : World) (g : Gr) : Prop where
  ins : Vls w0 g.iV g.ins
  outs : Ints .i64 w0 g.oV g.outs
  each : ∀ n ∈ g.nodes, nodeAt w0 n
  own : W.ownsRow base 40 14 g.nV g.nodes.length (g.nodes.flatMap Nd.cs)
  ext : Ext w0 W
  il : g.ins.length ≤ 255
  nl : g.nodes.length ≤ 255
  ol : g.outs.length ≤ 255
theorem GrL.at {w0 W : World} {base : Nat} {g : Gr} (h : GrL w0 base W g) : GrAt W g :=
  ⟨h.ins.ext h.ext, row_of_own h.own, h.outs.ext h.ext, fun n hn => (h.each n hn).ext h.ext, h.il, h.nl, h.ol⟩
theorem GrL.later {w0 W W' : World} {base : Nat} {g : Gr} (h : GrL w0 base W g) (e : Ext W W') : GrL w0 base W' g :=
  ⟨h.ins, h.outs, h.each, World.ownsRow.kept (row := none) h.own (grown_of_ext e) (by cases g.nV.ownBlock <;> simp), h.ext.trans e, h.il, h.nl, h.ol⟩
theorem GrL.setRow {w0 W : World} {base b : Nat} {g : Gr} (h : GrL w0 base W g) (h1 : w0.heap.size ≤ b) (h2 : b < base) (cs : Array Value) : GrL w0 base (W.setRow b cs) g :=
  ⟨h.ins, h.outs, h.each, World.ownsRow.kept h.own (setRow_grown W b cs) (.inr fun e => by have := (h.own.lt _ e).1; omega), ext_setRow h.ext cs h1, h.il, h.nl, h.ol⟩
theorem GrIn.ext {w W : World} {g : Gr} (h : GrIn w g) (e : Ext w W) : GrIn W g :=
  ⟨h.ins.ext e, Row.below h.nodes e, h.outs.ext e, fun n hn => ⟨(h.each n hn).1.ext e, (h.each n hn).2.1.ext e, (h.each n hn).2.2.1.ext e, (h.each n hn).2.2.2⟩⟩

def LessPost (w0 w : World) (e : Ending) (w' : World) : Prop := ∃ g' : Gr, e = .returned (.agg #[g'.iV, g'.nV, g'.oV]) ∧ GrL w0 (w.heap.size + 2) w' g' ∧ Ext w w'

set_option maxRecDepth 8000 in
set_option maxHeartbeats 6400000 in
theorem less_calls (g : Gr) (w0 w : World) (hg0 : GrIn w0 g) (hE0 : Ext w0 w) :
    Calls Try.prog 15 #[.agg #[g.iV, g.nV, g.oV]] w (LessPost w0 w) := by
  have HP : Hid (∀ e w', (∃ g' : Gr, e = .returned (.agg #[g'.iV, g'.nV, g'.oV]) ∧ GrL w0 (w.heap.size + 2) w' g' ∧ Ext w w') → LessPost w0 w e w') := fun e w' h => h
  generalize LessPost w0 w = PP at *
  have HG := Lib.hid hg0
  have hg := hg0.ext hE0
  obtain ⟨hi, hn, ho, _⟩ := hg
  have hea := hg0.each
  clear hg0
  obtain ⟨An, cn, en, hn1, hn2, _⟩ := id (SRow.form hn (fun _ => rfl) (by omega))
  obtain ⟨Ao, co, eo, ho1, ho2, _⟩ := id ho.form
  obtain ⟨Ai, ci, ei, hi1, hi2, _⟩ := id hi.form
  unfold maxLen at hi2 hn2 ho2
  have EN := Lib.hid en
  have EO := Lib.hid eo
  have EI := Lib.hid ei
  clear en eo ei
  have hE1 := (ext_alloc w (.cells #[g.iV, g.nV, g.oV] 26)).trans (ext_alloc _ (.cells #[.slice none 0 0, .slice none 0 0, .slice none 0 0] 26))
  have hb1 := (Blk.new w #[g.iV, g.nV, g.oV] 26).ext (ext_alloc _ (.cells #[.slice none 0 0, .slice none 0 0, .slice none 0 0] 26))
  have hb2 := Blk.new (w.alloc (.cells #[g.iV, g.nV, g.oV] 26)) #[.slice none 0 0, .slice none 0 0, .slice none 0 0] 26
  rw [show (w.alloc (.cells #[g.iV, g.nV, g.oV] 26)).heap.size = w.heap.size + 1 from by simp] at hb2
  go_enter Try.func15, Try.ntmps15
  go_upto_region 1 with fail
  generalize World.alloc (World.alloc w _) _ = w1 at *
  have g0 : World.cell? w1 ⟨w.heap.size, 0, none⟩ = some (.slice Ai g.ins.length ci) := by rw [← EI.out]; exact hb1.cell 0
  go_upto_if 9 with fail
  go_cut [10] (fun _ wx => Blk wx w.heap.size #[.slice Ai (min 6 g.ins.length) ci, g.nV, g.oV] 26 ∧ Blk wx (w.heap.size + 1) #[.slice none 0 0, .slice none 0 0, .slice none 0 0] 26 ∧ Ext w wx)
  case first =>
    have hf := hb1.frozen 0
    have hlt := hb1.lt
    by_cases h : 6 < g.ins.length
    · have hx : (Blk (w1.setCell ⟨w.heap.size, 0, none⟩ (.slice Ai 6 ci)) w.heap.size #[.slice Ai (min 6 g.ins.length) ci, g.nV, g.oV] 26 ∧ Blk (w1.setCell ⟨w.heap.size, 0, none⟩ (.slice Ai 6 ci)) (w.heap.size + 1) #[.slice none 0 0, .slice none 0 0, .slice none 0 0] 26 ∧ Ext w (w1.setCell ⟨w.heap.size, 0, none⟩ (.slice Ai 6 ci))) := by
        refine ⟨?_, hb2.grown (setCell_grown _ _ _ _) (by simp), Below.setCell hE1 (Nat.le_refl _) _⟩
        have := hb1.set 0 (.slice Ai 6 ci)
        rw [show min 6 g.ins.length = 6 by omega]
        simpa using this
      have HX := Lib.hid hx
      clear hx hb1 hb2 hE1
      go_wp2_with fail
      go_meet
      exact HX.out
    · have hx : Blk w1 w.heap.size #[.slice Ai (min 6 g.ins.length) ci, g.nV, g.oV] 26 := by
        rw [show min 6 g.ins.length = g.ins.length by omega, ← EI.out]; exact hb1
      go_wp2_with fail
      go_meet
      exact ⟨hx, hb2, hE1⟩
  clear hb1 hb2 hE1 g0
  obtain ⟨hb1, hb2, hE1⟩ := hcut
  have g2 : World.cell? wc ⟨w.heap.size, 2, none⟩ = some (.slice Ao g.outs.length co) := by rw [← EO.out]; exact hb1.cell 2
  go_upto_if 17 with fail
  go_cut [18] (fun _ wx => Blk wx w.heap.size #[.slice Ai (min 6 g.ins.length) ci, g.nV, .slice Ao (min 6 g.outs.length) co] 26 ∧ Blk wx (w.heap.size + 1) #[.slice none 0 0, .slice none 0 0, .slice none 0 0] 26 ∧ Ext w wx)
  case first =>
    have hf := hb1.frozen 2
    have hlt := hb1.lt
    by_cases h : 6 < g.outs.length
    · have hx : (Blk (wc.setCell ⟨w.heap.size, 2, none⟩ (.slice Ao 6 co)) w.heap.size #[.slice Ai (min 6 g.ins.length) ci, g.nV, .slice Ao (min 6 g.outs.length) co] 26 ∧ Blk (wc.setCell ⟨w.heap.size, 2, none⟩ (.slice Ao 6 co)) (w.heap.size + 1) #[.slice none 0 0, .slice none 0 0, .slice none 0 0] 26 ∧ Ext w (wc.setCell ⟨w.heap.size, 2, none⟩ (.slice Ao 6 co))) := by
        refine ⟨?_, hb2.grown (setCell_grown _ _ _ _) (by simp), Below.setCell hE1 (Nat.le_refl _) _⟩
        have := hb1.set 2 (.slice Ao 6 co)
        rw [show min 6 g.outs.length = 6 by omega]
        simpa using this
      have HX := Lib.hid hx
      clear hx hb1 hb2 hE1
      go_wp2_with fail
      go_meet
      exact HX.out
    · have hx : Blk wc w.heap.size #[.slice Ai (min 6 g.ins.length) ci, g.nV, .slice Ao (min 6 g.outs.length) co] 26 := by
        rw [show min 6 g.outs.length = g.outs.length by omega, ← EO.out]; exact hb1
      go_wp2_with fail
      go_meet
      exact ⟨hx, hb2, hE1⟩
  clear hb1 hb2 hE1 g2
  obtain ⟨hb1, hb2, hE1⟩ := hcut
  have hown0 := World.ownsRow_made (base := w.heap.size + 2) (e := 40) (size := 14) wc #[] 0 (by have := hb2.lt; omega) (Nat.zero_le _) (by simp)
  have hS0 : LessS w (wc.alloc (.cells #[] 40)) #[.slice Ai (min 6 g.ins.length) ci, g.nV, .slice Ao (min 6 g.outs.length) co] (.slice (some ⟨wc.heap.size, 0, none⟩) 0 0) [] :=
    ⟨hb1.ext (ext_alloc _ _), hb2.ext (ext_alloc _ _), hown0, hE1.trans (ext_alloc _ _)⟩
  have g1 : World.cell? (wc.alloc (.cells #[] 40)) ⟨w.heap.size, 1, none⟩ = some (.slice An g.nodes.length cn) := by rw [← EN.out]; exact hS0.box1.cell 1
  go_wp2_with fail
  clear g1
  generalize wc.alloc _ = wd at *
  generalize Value.slice (some ⟨wc.heap.size, 0, none⟩) 0 0 = v0 at *
  clear hown0 hb1 hb2 hE1
  go_loopw [3, 4] (fun v0 i wr => ∃ (v : Value) (k : Nat) (ns : List Nd), v = v0 ∧ k ≤ 14 ∧ k ≤ g.nodes.length ∧ i = .int .i64 k ∧ ns.length = k ∧ LessS w wr #[.slice Ai (min 6 g.ins.length) ci, g.nV, .slice Ao (min 6 g.outs.length) co] v ns ∧ ∀ n ∈ ns, nodeAt w0 n) (fun _ i _ => 14 - (intOf i).toNat)
  case atStart => exact ⟨_, 0, [], rfl, by omega, by omega, rfl, rfl, hS0, fun n hn => by cases hn⟩
  case round =>
    clear hS0
    obtain ⟨v, k, ns, rfl, hk14, hk, rfl, hnk, hS, heach⟩ := hrel
    have HOWN : Hid (∀ (A3 : Option Addr) (c3 m : Nat), (wr.ownsRow (w.heap.size + 2) 40 14 (.slice A3 m c3) ns.length (ns.flatMap Nd.cs)) → (Value.slice A3 m c3).ownBlock = none ∨ (Value.slice A3 m c3).ownBlock ≠ some (w.heap.size + 1)) := fun A3 c3 m h => .inr (fun e => by have := (h.lt _ e).1; omega)
    by_cases hgo : k < g.nodes.length ∧ k < 14
    · obtain ⟨hlt, hlt14⟩ := hgo
      have g1 : World.cell? wr ⟨w.heap.size, 1, none⟩ = some (.slice An g.nodes.length cn) := by rw [← EN.out]; exact hS.box1.cell 1
      obtain ⟨A', c', e', _, _, hcc⟩ := SRow.form (Row.below hn hS.ext) (fun _ => rfl) (by omega)
      rw [EN.out] at e'
      cases e'
      have hs : g.nodes[k]? = some g.nodes[k] := by simp [hlt]
      obtain ⟨b, off, rfl, hbl, hc⟩ := hcc k _ hs
      have hnode := hea _ (List.getElem_mem hlt)
      generalize g.nodes[k] = n at *
      have nc0 : World.cell? wr ⟨b, off + k * 14, none⟩ = some (.int .i64 n.op) := hc 0 _ rfl
      have nc1 : World.cell? wr ⟨b, off + k * 14 + 1, none⟩ = some n.inV := hc 1 _ rfl
      have nc2 : World.cell? wr ⟨b, off + k * 14 + 2, none⟩ = some (.int .i64 n.k) := hc 2 _ rfl
      have nc3 : World.cell? wr ⟨b, off + k * 14 + 3, none⟩ = some (.int .i64 n.st) := hc 3 _ rfl
      have nc4 : World.cell? wr ⟨b, off + k * 14 + 4, none⟩ = some (.int .i64 n.pad) := hc 4 _ rfl
      have nc5 : World.cell? wr ⟨b, off + k * 14 + 5, none⟩ = some (.int .i64 n.out) := hc 5 _ rfl
      have nc6 : World.cell? wr ⟨b, off + k * 14 + 6, none⟩ = some (.int .i64 n.mul) := hc 6 _ rfl
      have nc7 : World.cell? wr ⟨b, off + k * 14 + 7, none⟩ = some (.int .i64 n.sh) := hc 7 _ rfl
      have nc8 : World.cell? wr ⟨b, off + k * 14 + 8, none⟩ = some (.int .i64 n.zero) := hc 8 _ rfl
      have nc9 : World.cell? wr ⟨b, off + k * 14 + 9, none⟩ = some (.int .i64 n.th) := hc 9 _ rfl
      have nc10 : World.cell? wr ⟨b, off + k * 14 + 10, none⟩ = some (.int .i64 n.tw) := hc 10 _ rfl
      have nc11 : World.cell? wr ⟨b, off + k * 14 + 11, none⟩ = some (.int .i64 n.tc) := hc 11 _ rfl
      have nc12 : World.cell? wr ⟨b, off + k * 14 + 12, none⟩ = some n.wV := hc 12 _ rfl
      have nc13 : World.cell? wr ⟨b, off + k * 14 + 13, none⟩ = some n.bV := hc 13 _ rfl
      clear hc hcc hs hi hn ho hea
      have hz := Blk.new wr #[.int .i64 0, .slice none 0 0, .int .i64 0, .int .i64 0, .int .i64 0, .int .i64 0, .int .i64 0, .int .i64 0, .int .i64 0, .int .i64 0, .int .i64 0, .int .i64 0, .slice none 0 0, .slice none 0 0] 40
      have hE4 : Ext wr ((wr.alloc (.cells #[.int .i64 0, .slice none 0 0, .int .i64 0, .int .i64 0, .int .i64 0, .int .i64 0, .int .i64 0, .int .i64 0, .int .i64 0, .int .i64 0, .int .i64 0, .int .i64 0, .slice none 0 0, .slice none 0 0] 40)).setRow wr.heap.size #[.int .i64 n.op, n.inV, .int .i64 n.k, .int .i64 n.st, .int .i64 n.pad, .int .i64 n.out, .int .i64 n.mul, .int .i64 n.sh, .int .i64 n.zero, .int .i64 n.th, .int .i64 n.tw, .int .i64 n.tc, n.wV, n.bV]) := ext_setRow (ext_alloc _ _) _ (Nat.le_refl _)
      have hnb : Blk ((wr.alloc (.cells #[.int .i64 0, .slice none 0 0, .int .i64 0, .int .i64 0, .int .i64 0, .int .i64 0, .int .i64 0, .int .i64 0, .int .i64 0, .int .i64 0, .int .i64 0, .int .i64 0, .slice none 0 0, .slice none 0 0] 40)).setRow wr.heap.size #[.int .i64 n.op, n.inV, .int .i64 n.k, .int .i64 n.st, .int .i64 n.pad, .int .i64 n.out, .int .i64 n.mul, .int .i64 n.sh, .int .i64 n.zero, .int .i64 n.th, .int .i64 n.tw, .int .i64 n.tc, n.wV, n.bV]) wr.heap.size #[.int .i64 n.op, n.inV, .int .i64 n.k, .int .i64 n.st, .int .i64 n.pad, .int .i64 n.out, .int .i64 n.mul, .int .i64 n.sh, .int .i64 n.zero, .int .i64 n.th, .int .i64 n.tw, .int .i64 n.tc, n.wV, n.bV] 40 := setRow_heap _ _ _ _ _ _ hz
      have hone : Array.all #[.int .i64 n.op, n.inV, .int .i64 n.k, .int .i64 n.st, .int .i64 n.pad, .int .i64 n.out, .int .i64 n.mul, .int .i64 n.sh, .int .i64 n.zero, .int .i64 n.th, .int .i64 n.tw, .int .i64 n.tc, n.wV, n.bV] (·.oneCell') = true := by
        rw [Array.all_eq_true]
        intro i hi
        exact node_cs_one hnode _ (by simpa [Nd.cs] using List.getElem_mem (l := Nd.cs n) hi)
      have HO := Lib.hid hone
      have hvy : v.ownBlock ≠ some wr.heap.size := fun e => by have := (hS.own.lt _ e).2; omega
      have hyg : w.heap.size + 2 ≤ wr.heap.size := hS.box2.lt
      replace hS := hS.later hE4
      clear hone hE4
      go_upto_region 10 with (refine wpList_store_row rfl 40 _ _ rfl wr.heap.size #[.int .i64 n.op, n.inV, .int .i64 n.k, .int .i64 n.st, .int .i64 n.pad, .int .i64 n.out, .int .i64 n.mul, .int .i64 n.sh, .int .i64 n.zero, .int .i64 n.th, .int .i64 n.tw, .int .i64 n.tc, n.wV, n.bV] rfl rfl 40 _ hz (by kernel_rfl) rfl HO.out ?_)
      clear nc0 nc1 nc2 nc3 nc4 nc5 nc6 nc7 nc8 nc9 nc10 nc11 nc12 nc13 hbl hz g1 HO HOWN
      generalize World.setRow (wr.alloc _) _ _ = wk at *
      generalize wr.heap.size = yb at *
      obtain ⟨A0, c0, e0, hc1, hc2, _⟩ := id (hnode.1.form)
      unfold maxLen at hc2
      have d0 : World.cell? wk ⟨yb, 1, none⟩ = some (.slice A0 n.ins.length c0) := by rw [← e0]; exact hnb.cell 1
      have E0 := Lib.hid e0
      clear e0
      go_upto_if 42 with fail
      go_cut [43] (fun _ wx => ∃ m : Nd, Blk wx yb #[.int .i64 m.op, m.inV, .int .i64 m.k, .int .i64 m.st, .int .i64 m.pad, .int .i64 m.out, .int .i64 m.mul, .int .i64 m.sh, .int .i64 m.zero, .int .i64 m.th, .int .i64 m.tw, .int .i64 m.tc, m.wV, m.bV] 40 ∧ nodeIn w0 m ∧ m.ins.length ≤ 20 ∧ LessS w wx #[.slice Ai (min 6 g.ins.length) ci, g.nV, .slice Ao (min 6 g.outs.length) co] v ns)
      case first =>
        have hf := hnb.frozen 1
        have hlt0 := hnb.lt
        by_cases h : 20 < n.ins.length
        · have hx : ∃ m : Nd, Blk (World.setCell wk ⟨yb, 1, none⟩ (.slice A0 20 c0)) yb #[.int .i64 m.op, m.inV, .int .i64 m.k, .int .i64 m.st, .int .i64 m.pad, .int .i64 m.out, .int .i64 m.mul, .int .i64 m.sh, .int .i64 m.zero, .int .i64 m.th, .int .i64 m.tw, .int .i64 m.tc, m.wV, m.bV] 40 ∧ nodeIn w0 m ∧ m.ins.length ≤ 20 ∧ LessS w (World.setCell wk ⟨yb, 1, none⟩ (.slice A0 20 c0)) #[.slice Ai (min 6 g.ins.length) ci, g.nV, .slice Ao (min 6 g.outs.length) co] v ns := by
            refine ⟨{ n with inV := .slice A0 20 c0, ins := n.ins.take 20 }, ?_, nodeIn.cutI hnode E0.out (by omega), ?_, hS.set hyg hvy _ _⟩
            · have := hnb.set 1 (.slice A0 20 c0)
              simpa using this
            · simp only [List.length_take]; omega
          have HX := Lib.hid hx
          clear hx hnb hS hnode
          go_wp2_with fail
          go_meet
          exact HX.out
        · go_wp2_with fail
          go_meet
          exact ⟨n, hnb, hnode, by omega, hS⟩
      clear hnb hS hnode d0 E0 hc1 hc2 
      obtain ⟨m1, hnb, hnode, hb0, hS⟩ := hcut
      obtain ⟨A0, c0, e0, hc1, hc2, _⟩ := id (hnode.2.1.form)
      unfold maxLen at hc2
      have d0 : World.cell? wc ⟨yb, 12, none⟩ = some (.slice A0 m1.ws.length c0) := by rw [← e0]; exact hnb.cell 12
      have E0 := Lib.hid e0
      clear e0
      go_upto_if 50 with fail
      go_cut [51] (fun _ wx => ∃ m : Nd, Blk wx yb #[.int .i64 m.op, m.inV, .int .i64 m.k, .int .i64 m.st, .int .i64 m.pad, .int .i64 m.out, .int .i64 m.mul, .int .i64 m.sh, .int .i64 m.zero, .int .i64 m.th, .int .i64 m.tw, .int .i64 m.tc, m.wV, m.bV] 40 ∧ nodeIn w0 m ∧ m.ins.length ≤ 20 ∧ m.ws.length ≤ 5000 ∧ LessS w wx #[.slice Ai (min 6 g.ins.length) ci, g.nV, .slice Ao (min 6 g.outs.length) co] v ns)
      case first =>
        have hf := hnb.frozen 12
        have hlt0 := hnb.lt
        by_cases h : 5000 < m1.ws.length
        · have hx : ∃ m : Nd, Blk (World.setCell wc ⟨yb, 12, none⟩ (.slice A0 5000 c0)) yb #[.int .i64 m.op, m.inV, .int .i64 m.k, .int .i64 m.st, .int .i64 m.pad, .int .i64 m.out, .int .i64 m.mul, .int .i64 m.sh, .int .i64 m.zero, .int .i64 m.th, .int .i64 m.tw, .int .i64 m.tc, m.wV, m.bV] 40 ∧ nodeIn w0 m ∧ m.ins.length ≤ 20 ∧ m.ws.length ≤ 5000 ∧ LessS w (World.setCell wc ⟨yb, 12, none⟩ (.slice A0 5000 c0)) #[.slice Ai (min 6 g.ins.length) ci, g.nV, .slice Ao (min 6 g.outs.length) co] v ns := by
            refine ⟨{ m1 with wV := .slice A0 5000 c0, ws := m1.ws.take 5000 }, ?_, nodeIn.cutW hnode E0.out (by omega), hb0, ?_, hS.set hyg hvy _ _⟩
            · have := hnb.set 12 (.slice A0 5000 c0)
              simpa using this
            · simp only [List.length_take]; omega
          have HX := Lib.hid hx
          clear hx hnb hS hnode
          go_wp2_with fail
          go_meet
          exact HX.out
        · go_wp2_with fail
          go_meet
          exact ⟨m1, hnb, hnode, hb0, by omega, hS⟩
      clear hnb hS hnode d0 E0 hc1 hc2 hb0
      obtain ⟨m2, hnb, hnode, hb0, hb1, hS⟩ := hcut
      obtain ⟨A0, c0, e0, hc1, hc2, _⟩ := id (hnode.2.2.1.form)
      unfold maxLen at hc2
      have d0 : World.cell? wc ⟨yb, 13, none⟩ = some (.slice A0 m2.bs.length c0) := by rw [← e0]; exact hnb.cell 13
      have E0 := Lib.hid e0
      clear e0
      go_upto_if 58 with fail
      go_cut [59] (fun _ wx => ∃ m : Nd, Blk wx yb #[.int .i64 m.op, m.inV, .int .i64 m.k, .int .i64 m.st, .int .i64 m.pad, .int .i64 m.out, .int .i64 m.mul, .int .i64 m.sh, .int .i64 m.zero, .int .i64 m.th, .int .i64 m.tw, .int .i64 m.tc, m.wV, m.bV] 40 ∧ nodeIn w0 m ∧ m.ins.length ≤ 20 ∧ m.ws.length ≤ 5000 ∧ m.bs.length ≤ 20 ∧ LessS w wx #[.slice Ai (min 6 g.ins.length) ci, g.nV, .slice Ao (min 6 g.outs.length) co] v ns)
      case first =>
        have hf := hnb.frozen 13
        have hlt0 := hnb.lt
        by_cases h : 20 < m2.bs.length
        · have hx : ∃ m : Nd, Blk (World.setCell wc ⟨yb, 13, none⟩ (.slice A0 20 c0)) yb #[.int .i64 m.op, m.inV, .int .i64 m.k, .int .i64 m.st, .int .i64 m.pad, .int .i64 m.out, .int .i64 m.mul, .int .i64 m.sh, .int .i64 m.zero, .int .i64 m.th, .int .i64 m.tw, .int .i64 m.tc, m.wV, m.bV] 40 ∧ nodeIn w0 m ∧ m.ins.length ≤ 20 ∧ m.ws.length ≤ 5000 ∧ m.bs.length ≤ 20 ∧ LessS w (World.setCell wc ⟨yb, 13, none⟩ (.slice A0 20 c0)) #[.slice Ai (min 6 g.ins.length) ci, g.nV, .slice Ao (min 6 g.outs.length) co] v ns := by
            refine ⟨{ m2 with bV := .slice A0 20 c0, bs := m2.bs.take 20 }, ?_, nodeIn.cutB hnode E0.out (by omega), hb0, hb1, ?_, hS.set hyg hvy _ _⟩
            · have := hnb.set 13 (.slice A0 20 c0)
              simpa using this
            · simp only [List.length_take]; omega
          have HX := Lib.hid hx
          clear hx hnb hS hnode
          go_wp2_with fail
          go_meet
          exact HX.out
        · go_wp2_with fail
          go_meet
          exact ⟨m2, hnb, hnode, hb0, hb1, by omega, hS⟩
      clear hnb hS hnode d0 E0 hc1 hc2 hb0 hb1
      obtain ⟨m3, hnb, hnode, hb0, hb1, hb2, hS⟩ := hcut
      have nd0 : World.cell? wc ⟨yb, 0, none⟩ = some (.int .i64 m3.op) := hnb.cell 0
      have nd1 : World.cell? wc ⟨yb, 1, none⟩ = some m3.inV := hnb.cell 1
      have nd2 : World.cell? wc ⟨yb, 2, none⟩ = some (.int .i64 m3.k) := hnb.cell 2
      have nd3 : World.cell? wc ⟨yb, 3, none⟩ = some (.int .i64 m3.st) := hnb.cell 3
      have nd4 : World.cell? wc ⟨yb, 4, none⟩ = some (.int .i64 m3.pad) := hnb.cell 4
      have nd5 : World.cell? wc ⟨yb, 5, none⟩ = some (.int .i64 m3.out) := hnb.cell 5
      have nd6 : World.cell? wc ⟨yb, 6, none⟩ = some (.int .i64 m3.mul) := hnb.cell 6
      have nd7 : World.cell? wc ⟨yb, 7, none⟩ = some (.int .i64 m3.sh) := hnb.cell 7
      have nd8 : World.cell? wc ⟨yb, 8, none⟩ = some (.int .i64 m3.zero) := hnb.cell 8
      have nd9 : World.cell? wc ⟨yb, 9, none⟩ = some (.int .i64 m3.th) := hnb.cell 9
      have nd10 : World.cell? wc ⟨yb, 10, none⟩ = some (.int .i64 m3.tw) := hnb.cell 10
      have nd11 : World.cell? wc ⟨yb, 11, none⟩ = some (.int .i64 m3.tc) := hnb.cell 11
      have nd12 : World.cell? wc ⟨yb, 12, none⟩ = some m3.wV := hnb.cell 12
      have nd13 : World.cell? wc ⟨yb, 13, none⟩ = some m3.bV := hnb.cell 13
      have hone := node_cs_one hnode
      have HO := Lib.hid hone
      have hE6 := ext_alloc wc (.cells #[.int .i64 m3.op, m3.inV, .int .i64 m3.k, .int .i64 m3.st, .int .i64 m3.pad, .int .i64 m3.out, .int .i64 m3.mul, .int .i64 m3.sh, .int .i64 m3.zero, .int .i64 m3.th, .int .i64 m3.tw, .int .i64 m3.tc, m3.wV, m3.bV] 40)
      have hnew := row_new wc #[.int .i64 m3.op, m3.inV, .int .i64 m3.k, .int .i64 m3.st, .int .i64 m3.pad, .int .i64 m3.out, .int .i64 m3.mul, .int .i64 m3.sh, .int .i64 m3.zero, .int .i64 m3.th, .int .i64 m3.tw, .int .i64 m3.tc, m3.wV, m3.bV] 40 1 14 rfl (by decide)
      have hS6 := hS.later hE6
      have hown6 := hS6.own
      have hbase : w.heap.size + 2 ≤ (wc.alloc (.cells #[.int .i64 m3.op, m3.inV, .int .i64 m3.k, .int .i64 m3.st, .int .i64 m3.pad, .int .i64 m3.out, .int .i64 m3.mul, .int .i64 m3.sh, .int .i64 m3.zero, .int .i64 m3.th, .int .i64 m3.tw, .int .i64 m3.tc, m3.wV, m3.bV] 40)).heap.size := by have := hS6.box2.lt; omega
      have hk1 : ns.length + 1 ≤ 140737488355328 := by omega
      have hk2 : (ns.length + 1) * 160 ≤ 140737488355328 := by omega
      have HA : Hid (∀ v' w', w'.ownsRow (w.heap.size + 2) 40 14 v' (ns.length + 1) (ns.flatMap Nd.cs ++ (#[.int .i64 m3.op, m3.inV, .int .i64 m3.k, .int .i64 m3.st, .int .i64 m3.pad, .int .i64 m3.out, .int .i64 m3.mul, .int .i64 m3.sh, .int .i64 m3.zero, .int .i64 m3.th, .int .i64 m3.tw, .int .i64 m3.tc, m3.wV, m3.bV] : Array Value).toList) → World.grownBy (wc.alloc (.cells #[.int .i64 m3.op, m3.inV, .int .i64 m3.k, .int .i64 m3.st, .int .i64 m3.pad, .int .i64 m3.out, .int .i64 m3.mul, .int .i64 m3.sh, .int .i64 m3.zero, .int .i64 m3.th, .int .i64 m3.tw, .int .i64 m3.tc, m3.wV, m3.bV] 40)) w' v.ownBlock → LessS w w' #[.slice Ai (min 6 g.ins.length) ci, g.nV, .slice Ao (min 6 g.outs.length) co] v' (ns ++ [m3]) ∧ ∀ n ∈ ns ++ [m3], nodeAt w0 n) := by
        intro v' w' ho hgr
        have hvb : ∀ b, b < w.heap.size + 2 → some b ≠ v.ownBlock := fun b hb e => by have := (hown6.lt _ e.symm).1; omega
        refine ⟨⟨hS6.box1.grown hgr (hvb _ (by omega)), hS6.box2.grown hgr (hvb _ (by omega)), ?_, Below.grown hS6.ext hgr (by omega) (fun b hb => by have := (hown6.lt _ hb).1; omega)⟩, fun n hn => ?_⟩
        · rw [List.length_append, List.flatMap_append]
          simpa [Nd.cs] using ho
        · rcases List.mem_append.1 hn with hn | hn
          · exact heach n hn
          · obtain rfl := List.mem_singleton.1 hn
            exact ⟨hnode.1, hnode.2.1, hnode.2.2.1, hnode.2.2.2.1, hnode.2.2.2.2, by omega, by omega, by omega⟩
      have hnk1 : (ns ++ [m3]).length = k + 1 := by simp [hnk]
      clear hS6 hS hnb hone hE6 hnode
      go_wp2_with (at_builtin; refine wpList_append_row rfl rfl elem_nd hown6 rfl hnew rfl HO.out hk1 hk2 hbase ?_; intro v9 w9 ho9 hgr9 _)
      obtain ⟨p1, p2⟩ := HA.out _ _ ho9 hgr9
      go_roundw
      case rel => exact ⟨_, k + 1, ns ++ [m3], rfl, by omega, by omega, by go_num, hnk1, p1, p2⟩
      case measure => simp [intOf]; omega
    · by_cases hlt : k < g.nodes.length
      · have h14 : ¬ k < 14 := fun h => hgo ⟨hlt, h⟩
        clear hgo
        subst hnk
        have hv := hS.own
        obtain ⟨A3, c3, e3, hv1, hv2, _⟩ := row_of_own hv
        subst e3
        have hwo := HOWN.out A3 c3 ns.length hv
        clear HOWN
        have hf := hS.box1.frozen 1
        have hlt1 := hS.box1.lt
        have g1 : World.cell? wr ⟨w.heap.size, 1, none⟩ = some (.slice An g.nodes.length cn) := by rw [← EN.out]; exact hS.box1.cell 1
        clear hi hn ho hea
        go_upto_region 18 with fail
        have hE3 : Ext w (wr.setCell ⟨w.heap.size, 1, none⟩ (.slice A3 ns.length c3)) := Below.setCell hS.ext (Nat.le_refl _) _
        have hwz : (wr.setCell ⟨w.heap.size, 1, none⟩ (.slice A3 ns.length c3)).ownsRow (w.heap.size + 2) 40 14 (.slice A3 ns.length c3) ns.length (ns.flatMap Nd.cs) := ownsRow_setCell_other hv (fun e => by have := (hv.lt _ e).1; simp only at this; omega) _
        have hx1 := hS.box1.set 1 (.slice A3 ns.length c3)
        have hx2 := hS.box2.grown (setCell_grown wr w.heap.size 1 (.slice A3 ns.length c3)) (by simp)
        clear g1 hf hlt1 hS hv
        generalize World.setCell wr _ _ = wz at *
        have j0 : World.cell? wz ⟨w.heap.size, 0, none⟩ = some (.slice Ai (min 6 g.ins.length) ci) := hx1.cell 0
        have j1 : World.cell? wz ⟨w.heap.size, 1, none⟩ = some (.slice A3 ns.length c3) := hx1.cell 1
        have j2 : World.cell? wz ⟨w.heap.size, 2, none⟩ = some (.slice Ao (min 6 g.outs.length) co) := hx1.cell 2
        clear hx1
        have hE5 := ext_setRow hE3 #[.slice Ai (min 6 g.ins.length) ci, .slice A3 ns.length c3, .slice Ao (min 6 g.outs.length) co] (show w.heap.size ≤ w.heap.size + 1 by omega)
        have hgz := setRow_grown wz (w.heap.size + 1) #[.slice Ai (min 6 g.ins.length) ci, .slice A3 ns.length c3, .slice Ao (min 6 g.outs.length) co]
        go_wp2_with (refine wpList_store_row rfl 26 _ _ rfl (w.heap.size + 1) #[.slice Ai (min 6 g.ins.length) ci, .slice A3 ns.length c3, .slice Ao (min 6 g.outs.length) co] rfl rfl 26 _ hx2 (by kernel_rfl) rfl (by simp [Value.oneCell']) ?_)
        refine bodyPost_ret (v := .agg _) (results_cell_row Try.results15 _ _ (w.heap.size + 1) 26 _ (0, 0) _ rfl (setRow_heap _ _ _ _ _ _ hx2) (by kernel_rfl : Try.prog.underlying 26 = some (.struct (Try.prog.fieldsOf 26))) rfl (by kernel_rfl)) rfl ?_
        refine HP.out _ _ ⟨⟨.slice Ai (min 6 g.ins.length) ci, .slice A3 ns.length c3, .slice Ao (min 6 g.outs.length) co, g.ins.take (min 6 g.ins.length), ns, g.outs.take (min 6 g.outs.length)⟩, rfl, ?_, hE5⟩
        refine ⟨?_, ?_, heach, ?_, hE0.trans hE5, by simp only [List.length_take]; omega, by show ns.length ≤ 255; omega, by simp only [List.length_take]; omega⟩
        · have := HG.out.ins
          rw [EI.out] at this
          exact SRow.first this (fun _ => rfl) (by omega)
        · have := HG.out.outs
          rw [EO.out] at this
          exact Ints.first this (by omega)
        · exact World.ownsRow.kept hwz hgz hwo
      · clear hgo
        subst hnk
        have hv := hS.own
        obtain ⟨A3, c3, e3, hv1, hv2, _⟩ := row_of_own hv
        subst e3
        have hwo := HOWN.out A3 c3 ns.length hv
        clear HOWN
        have hf := hS.box1.frozen 1
        have hlt1 := hS.box1.lt
        have g1 : World.cell? wr ⟨w.heap.size, 1, none⟩ = some (.slice An g.nodes.length cn) := by rw [← EN.out]; exact hS.box1.cell 1
        clear hi hn ho hea
        go_upto_region 18 with fail
        have hE3 : Ext w (wr.setCell ⟨w.heap.size, 1, none⟩ (.slice A3 ns.length c3)) := Below.setCell hS.ext (Nat.le_refl _) _
        have hwz : (wr.setCell ⟨w.heap.size, 1, none⟩ (.slice A3 ns.length c3)).ownsRow (w.heap.size + 2) 40 14 (.slice A3 ns.length c3) ns.length (ns.flatMap Nd.cs) := ownsRow_setCell_other hv (fun e => by have := (hv.lt _ e).1; simp only at this; omega) _
        have hx1 := hS.box1.set 1 (.slice A3 ns.length c3)
        have hx2 := hS.box2.grown (setCell_grown wr w.heap.size 1 (.slice A3 ns.length c3)) (by simp)
        clear g1 hf hlt1 hS hv
        generalize World.setCell wr _ _ = wz at *
        have j0 : World.cell? wz ⟨w.heap.size, 0, none⟩ = some (.slice Ai (min 6 g.ins.length) ci) := hx1.cell 0
        have j1 : World.cell? wz ⟨w.heap.size, 1, none⟩ = some (.slice A3 ns.length c3) := hx1.cell 1
        have j2 : World.cell? wz ⟨w.heap.size, 2, none⟩ = some (.slice Ao (min 6 g.outs.length) co) := hx1.cell 2
        clear hx1
        have hE5 := ext_setRow hE3 #[.slice Ai (min 6 g.ins.length) ci, .slice A3 ns.length c3, .slice Ao (min 6 g.outs.length) co] (show w.heap.size ≤ w.heap.size + 1 by omega)
        have hgz := setRow_grown wz (w.heap.size + 1) #[.slice Ai (min 6 g.ins.length) ci, .slice A3 ns.length c3, .slice Ao (min 6 g.outs.length) co]
        go_wp2_with (refine wpList_store_row rfl 26 _ _ rfl (w.heap.size + 1) #[.slice Ai (min 6 g.ins.length) ci, .slice A3 ns.length c3, .slice Ao (min 6 g.outs.length) co] rfl rfl 26 _ hx2 (by kernel_rfl) rfl (by simp [Value.oneCell']) ?_)
        refine bodyPost_ret (v := .agg _) (results_cell_row Try.results15 _ _ (w.heap.size + 1) 26 _ (0, 0) _ rfl (setRow_heap _ _ _ _ _ _ hx2) (by kernel_rfl : Try.prog.underlying 26 = some (.struct (Try.prog.fieldsOf 26))) rfl (by kernel_rfl)) rfl ?_
        refine HP.out _ _ ⟨⟨.slice Ai (min 6 g.ins.length) ci, .slice A3 ns.length c3, .slice Ao (min 6 g.outs.length) co, g.ins.take (min 6 g.ins.length), ns, g.outs.take (min 6 g.outs.length)⟩, rfl, ?_, hE5⟩
        refine ⟨?_, ?_, heach, ?_, hE0.trans hE5, by simp only [List.length_take]; omega, by show ns.length ≤ 255; omega, by simp only [List.length_take]; omega⟩
        · have := HG.out.ins
          rw [EI.out] at this
          exact SRow.first this (fun _ => rfl) (by omega)
        · have := HG.out.outs
          rw [EO.out] at this
          exact Ints.first this (by omega)
        · exact World.ownsRow.kept hwz hgz hwo

end Go.Proofs.Ytdhdbmfipkppiaa
