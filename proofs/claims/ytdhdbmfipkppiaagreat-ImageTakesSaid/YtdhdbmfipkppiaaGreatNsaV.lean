/- The walks of model.Whole and of short. -/
/- The walk of the reference's Same. -/
/- Words on commands of package isa: their numbers, and the fields of each kind. -/
import Derived.Test.YtdhdbmfipkppiaaGreatModF
import Derived.Test.YtdhdbmfipkppiaaGreatModN
import Derived.Test.YtdhdbmfipkppiaaGreatTypes
import Derived.Test.YtdhdbmfipkppiaaGreatDraw3
import Derived.Deep.Cut
set_option linter.unusedSimpArgs false
set_option linter.unusedVariables false
set_option linter.unnecessarySimpa false
namespace Go.Proofs.YtdhdbmfipkppiaaGreat
open Go.RowKit

theorem OwnG.lower {base base' : Nat} {W : World} {g : Gr} (h : OwnG base W g) (hb : base' ≤ base) : OwnG base' W g := ⟨h.own.lower hb, h.fit, h.il, h.nl, h.ol⟩

def WholePost (bs : List Int) (w : World) (e : Ending) (w' : World) : Prop :=
  (∀ c, taken bs = some (c, bs.length) → ∃ g : Gr, g.c = c ∧ e = .returned (.tuple #[.agg #[g.iV, g.nV, g.oV], .int .i64 0]) ∧ OwnG w.heap.size w' g) ∧
  ((∀ c, taken bs ≠ some (c, bs.length)) → e = .returned (.tuple #[.agg #[.slice none 0 0, .slice none 0 0, .slice none 0 0], .int .i64 2])) ∧ Ext w w'

end Go.Proofs.YtdhdbmfipkppiaaGreat

namespace Go.Proofs.YtdhdbmfipkppiaaGreat
open Go.RowKit

theorem gc_eq_iff (g h : Gr) : g.c = h.c ↔ g.ins = h.ins ∧ g.outs = h.outs ∧ g.nodes.map Nd.c = h.nodes.map Nd.c := by
  constructor
  · intro e
    exact ⟨congrArg Gc.ins e, congrArg Gc.outs e, congrArg Gc.nodes e⟩
  · rintro ⟨h1, h2, h3⟩
    show (⟨g.ins, g.nodes.map Nd.c, g.outs⟩ : Gc) = ⟨h.ins, h.nodes.map Nd.c, h.outs⟩
    rw [h1, h2, h3]

set_option maxRecDepth 20000 in
set_option maxHeartbeats 6400000 in
theorem same_calls (g h : Gr) (w : World) (hg : GrAt w g) (hh : GrAt w h) :
    Calls Tryz.prog 17 #[.agg #[g.iV, g.nV, g.oV], .agg #[h.iV, h.nV, h.oV]] w fun e w' => e = .returned (.bool (decide (g.c = h.c))) ∧ Ext w w' := by
  have hE1 := (ext_alloc w (.cells #[g.iV, g.nV, g.oV] 28)).trans (ext_alloc _ (.cells #[h.iV, h.nV, h.oV] 28))
  have hb1 := (Blk.new w #[g.iV, g.nV, g.oV] 28).ext (ext_alloc _ (.cells #[h.iV, h.nV, h.oV] 28))
  have hb2 := Blk.new (w.alloc (.cells #[g.iV, g.nV, g.oV] 28)) #[h.iV, h.nV, h.oV] 28
  rw [show (w.alloc (.cells #[g.iV, g.nV, g.oV] 28)).heap.size = w.heap.size + 1 from by simp] at hb2
  have HNE : Hid (∀ (e : Ending) (w' : World), e = .returned (.bool false) → g.c ≠ h.c → Ext w w' → (e = .returned (.bool (decide (g.c = h.c))) ∧ Ext w w')) := fun (e : Ending) (w' : World) h1 h2 h3 => ⟨by rw [h1, decide_eq_false h2], h3⟩
  have hvs := fun W (e : Ext w W) => sameVls_calls g.iV h.iV _ _ W (hg.ins.ext e) (hh.ins.ext e)
  have hio := fun W (e : Ext w W) => sameInts_calls g.oV h.oV _ _ W (hg.outs.ext e) (hh.outs.ext e)
  obtain ⟨An, cn, en, hn1, hn2, _⟩ := id (SRow.form hg.nodes (fun _ => rfl) (by omega))
  obtain ⟨Bn, dn, fn, hm1, hm2, _⟩ := id (SRow.form hh.nodes (fun _ => rfl) (by omega))
  unfold maxLen at hn2 hm2
  have EN := Lib.hid en
  have FN := Lib.hid fn
  clear en fn
  go_enter Tryz.func17, Tryz.ntmps17
  go_upto_region 1 with fail
  generalize World.alloc (World.alloc w _) _ = w1 at *
  have a0 : World.cell? w1 ⟨w.heap.size, 0, none⟩ = some g.iV := hb1.cell 0
  have b0 : World.cell? w1 ⟨w.heap.size + 1, 0, none⟩ = some h.iV := hb2.cell 0
  go_upto_region 2 with (go_at_call 53; refine (hvs _ hE1).mono ?_; rintro e w2 ⟨rfl, h2⟩)
  clear a0 b0 hvs
  replace hb1 := hb1.ext h2
  replace hb2 := hb2.ext h2
  have hE2 := hE1.trans h2
  clear hE1 h2
  have a2 : World.cell? w2 ⟨w.heap.size, 2, none⟩ = some g.oV := hb1.cell 2
  have b2 : World.cell? w2 ⟨w.heap.size + 1, 2, none⟩ = some h.oV := hb2.cell 2
  go_upto_region 3 with (go_at_call 54; refine (hio _ hE2).mono ?_; rintro e w3 ⟨rfl, h3⟩)
  clear a2 b2 hio
  replace hb1 := hb1.ext h3
  replace hb2 := hb2.ext h3
  have hE3 := hE2.trans h3
  clear hE2 h3
  have a1 : World.cell? w3 ⟨w.heap.size, 1, none⟩ = some (.slice An g.nodes.length cn) := by rw [← EN.out]; exact hb1.cell 1
  have b1 : World.cell? w3 ⟨w.heap.size + 1, 1, none⟩ = some (.slice Bn h.nodes.length dn) := by rw [← FN.out]; exact hb2.cell 1
  by_cases hi : g.ins = h.ins
  case neg =>
    have hne := Lib.hid (show g.c ≠ h.c from fun e => hi ((gc_eq_iff g h).1 e).1)
    rw [decide_eq_false hi]
    clear hi
    go_wp2_with fail
    go_ret
    exact HNE.out _ _ rfl hne.out hE3
  by_cases ho : g.outs = h.outs
  case neg =>
    have hne := Lib.hid (show g.c ≠ h.c from fun e => ho ((gc_eq_iff g h).1 e).2.1)
    rw [decide_eq_false ho, decide_eq_true hi]
    clear hi ho
    go_wp2_with fail
    go_ret
    exact HNE.out _ _ rfl hne.out hE3
  by_cases hl : g.nodes.length = h.nodes.length
  case neg =>
    have hne := Lib.hid (show g.c ≠ h.c from fun e => hl (by have := congrArg List.length ((gc_eq_iff g h).1 e).2.2; simpa using this))
    have t1 : ((g.nodes.length : Int) != (h.nodes.length : Int)) = true := by rw [bne_iff_ne]; omega
    rw [decide_eq_true ho, decide_eq_true hi]
    clear hi ho hl
    go_wp2_with fail
    go_ret
    exact HNE.out _ _ rfl hne.out hE3
  rw [decide_eq_true ho, decide_eq_true hi]
  have t1 : ((g.nodes.length : Int) != (h.nodes.length : Int)) = false := by simp [hl]
  have HI := Lib.hid hi
  have HO := Lib.hid ho
  have HL := Lib.hid hl
  clear hi ho hl
  go_wp2_with fail
  clear a1 b1 t1
  go_loopw [7] (fun i wr => ∃ k : Nat, k ≤ g.nodes.length ∧ i = .int .i64 k ∧ Hid ((g.nodes.map Nd.c).take k = (h.nodes.map Nd.c).take k) ∧ Ext w3 wr) (fun i _ => g.nodes.length - (intOf i).toNat)
  case atStart => exact ⟨0, by omega, rfl, rfl, Ext.refl _⟩
  case round =>
    obtain ⟨k, hk, rfl, ht, hE⟩ := hrel
    have a1 : World.cell? wr ⟨w.heap.size, 1, none⟩ = some (.slice An g.nodes.length cn) := by rw [← EN.out]; exact (hb1.ext hE).cell 1
    by_cases hlt : k < g.nodes.length
    · have hlt2 : k < h.nodes.length := by have := HL.out; omega
      obtain ⟨_, _, e1, _, _, hc1⟩ := SRow.form (Row.below hg.nodes (hE3.trans hE)) (fun _ => rfl) (by omega)
      rw [EN.out] at e1
      cases e1
      obtain ⟨_, _, e2, _, _, hc2⟩ := SRow.form (Row.below hh.nodes (hE3.trans hE)) (fun _ => rfl) (by omega)
      rw [FN.out] at e2
      cases e2
      have hs1 : g.nodes[k]? = some g.nodes[k] := by simp [hlt]
      have hs2 : h.nodes[k]? = some h.nodes[k] := by simp [hlt2]
      obtain ⟨p, o, rfl, _, hx⟩ := hc1 k _ hs1
      obtain ⟨q, o2, rfl, _, hy⟩ := hc2 k _ hs2
      have hxn := hg.each _ (List.getElem_mem hlt)
      have hyn := hh.each _ (List.getElem_mem hlt2)
      have HX := Lib.hid (show (g.nodes.map Nd.c)[k]? = some (g.nodes[k]).c by simp [hlt])
      have HY := Lib.hid (show (h.nodes.map Nd.c)[k]? = some (h.nodes[k]).c by simp [hlt2])
      clear hc1 hc2 hs1 hs2
      generalize g.nodes[k] = x at *
      generalize h.nodes[k] = y at *
      have hsn := fun W (e : Ext w W) => sameNode_calls x y W (hxn.ext e) (hyn.ext e)
      obtain ⟨z, hz⟩ : ∃ z, decide (x.c = y.c) = z := ⟨_, rfl⟩
      rw [hz] at hsn
      go_upto_region 8 with fail
      clear a1
      have hE0 := hE3.trans hE
      have hbb1 := hb1.ext hE
      have hbb2 := hb2.ext hE
      refine wp_region_X [0, 1, 2, 3, 4, 5, 6, 7, 8, 9] [⟨10, [], ME.is (.bool z)⟩, ⟨11, [10], ME.is (.bool z)⟩] (by kernel_rfl) (by kernel_rfl) (fun _ _ d _ _ h => by cases d <;> exact h) (fun w4 hE4 => ?_)
      have c1 : ∀ W, Ext w4 W → W.cell? ⟨w.heap.size, 1, none⟩ = some (.slice (some ⟨p, o, none⟩) g.nodes.length cn) := fun W h => by rw [← EN.out]; exact ((hbb1.ext hE4).ext h).cell 1
      have c2 : ∀ W, Ext w4 W → W.cell? ⟨w.heap.size + 1, 1, none⟩ = some (.slice (some ⟨q, o2, none⟩) h.nodes.length dn) := fun W h' => by rw [← FN.out]; exact ((hbb2.ext hE4).ext h').cell 1
      have x0 : ∀ W, Ext w4 W → W.cell? ⟨p, o + k * 14, none⟩ = some (.int .i64 x.op) := cell_ext (cell_ext (hx 0 _ rfl) _ hE4)
      have x1 : ∀ W, Ext w4 W → W.cell? ⟨p, o + k * 14 + 1, none⟩ = some x.inV := cell_ext (cell_ext (hx 1 _ rfl) _ hE4)
      have x2 : ∀ W, Ext w4 W → W.cell? ⟨p, o + k * 14 + 2, none⟩ = some (.int .i64 x.k) := cell_ext (cell_ext (hx 2 _ rfl) _ hE4)
      have x3 : ∀ W, Ext w4 W → W.cell? ⟨p, o + k * 14 + 3, none⟩ = some (.int .i64 x.st) := cell_ext (cell_ext (hx 3 _ rfl) _ hE4)
      have x4 : ∀ W, Ext w4 W → W.cell? ⟨p, o + k * 14 + 4, none⟩ = some (.int .i64 x.pad) := cell_ext (cell_ext (hx 4 _ rfl) _ hE4)
      have x5 : ∀ W, Ext w4 W → W.cell? ⟨p, o + k * 14 + 5, none⟩ = some (.int .i64 x.out) := cell_ext (cell_ext (hx 5 _ rfl) _ hE4)
      have x6 : ∀ W, Ext w4 W → W.cell? ⟨p, o + k * 14 + 6, none⟩ = some (.int .i64 x.mul) := cell_ext (cell_ext (hx 6 _ rfl) _ hE4)
      have x7 : ∀ W, Ext w4 W → W.cell? ⟨p, o + k * 14 + 7, none⟩ = some (.int .i64 x.sh) := cell_ext (cell_ext (hx 7 _ rfl) _ hE4)
      have x8 : ∀ W, Ext w4 W → W.cell? ⟨p, o + k * 14 + 8, none⟩ = some (.int .i64 x.zero) := cell_ext (cell_ext (hx 8 _ rfl) _ hE4)
      have x9 : ∀ W, Ext w4 W → W.cell? ⟨p, o + k * 14 + 9, none⟩ = some (.int .i64 x.th) := cell_ext (cell_ext (hx 9 _ rfl) _ hE4)
      have x10 : ∀ W, Ext w4 W → W.cell? ⟨p, o + k * 14 + 10, none⟩ = some (.int .i64 x.tw) := cell_ext (cell_ext (hx 10 _ rfl) _ hE4)
      have x11 : ∀ W, Ext w4 W → W.cell? ⟨p, o + k * 14 + 11, none⟩ = some (.int .i64 x.tc) := cell_ext (cell_ext (hx 11 _ rfl) _ hE4)
      have x12 : ∀ W, Ext w4 W → W.cell? ⟨p, o + k * 14 + 12, none⟩ = some x.wV := cell_ext (cell_ext (hx 12 _ rfl) _ hE4)
      have x13 : ∀ W, Ext w4 W → W.cell? ⟨p, o + k * 14 + 13, none⟩ = some x.bV := cell_ext (cell_ext (hx 13 _ rfl) _ hE4)
      have y0 : ∀ W, Ext w4 W → W.cell? ⟨q, o2 + k * 14, none⟩ = some (.int .i64 y.op) := cell_ext (cell_ext (hy 0 _ rfl) _ hE4)
      have y1 : ∀ W, Ext w4 W → W.cell? ⟨q, o2 + k * 14 + 1, none⟩ = some y.inV := cell_ext (cell_ext (hy 1 _ rfl) _ hE4)
      have y2 : ∀ W, Ext w4 W → W.cell? ⟨q, o2 + k * 14 + 2, none⟩ = some (.int .i64 y.k) := cell_ext (cell_ext (hy 2 _ rfl) _ hE4)
      have y3 : ∀ W, Ext w4 W → W.cell? ⟨q, o2 + k * 14 + 3, none⟩ = some (.int .i64 y.st) := cell_ext (cell_ext (hy 3 _ rfl) _ hE4)
      have y4 : ∀ W, Ext w4 W → W.cell? ⟨q, o2 + k * 14 + 4, none⟩ = some (.int .i64 y.pad) := cell_ext (cell_ext (hy 4 _ rfl) _ hE4)
      have y5 : ∀ W, Ext w4 W → W.cell? ⟨q, o2 + k * 14 + 5, none⟩ = some (.int .i64 y.out) := cell_ext (cell_ext (hy 5 _ rfl) _ hE4)
      have y6 : ∀ W, Ext w4 W → W.cell? ⟨q, o2 + k * 14 + 6, none⟩ = some (.int .i64 y.mul) := cell_ext (cell_ext (hy 6 _ rfl) _ hE4)
      have y7 : ∀ W, Ext w4 W → W.cell? ⟨q, o2 + k * 14 + 7, none⟩ = some (.int .i64 y.sh) := cell_ext (cell_ext (hy 7 _ rfl) _ hE4)
      have y8 : ∀ W, Ext w4 W → W.cell? ⟨q, o2 + k * 14 + 8, none⟩ = some (.int .i64 y.zero) := cell_ext (cell_ext (hy 8 _ rfl) _ hE4)
      have y9 : ∀ W, Ext w4 W → W.cell? ⟨q, o2 + k * 14 + 9, none⟩ = some (.int .i64 y.th) := cell_ext (cell_ext (hy 9 _ rfl) _ hE4)
      have y10 : ∀ W, Ext w4 W → W.cell? ⟨q, o2 + k * 14 + 10, none⟩ = some (.int .i64 y.tw) := cell_ext (cell_ext (hy 10 _ rfl) _ hE4)
      have y11 : ∀ W, Ext w4 W → W.cell? ⟨q, o2 + k * 14 + 11, none⟩ = some (.int .i64 y.tc) := cell_ext (cell_ext (hy 11 _ rfl) _ hE4)
      have y12 : ∀ W, Ext w4 W → W.cell? ⟨q, o2 + k * 14 + 12, none⟩ = some y.wV := cell_ext (cell_ext (hy 12 _ rfl) _ hE4)
      have y13 : ∀ W, Ext w4 W → W.cell? ⟨q, o2 + k * 14 + 13, none⟩ = some y.bV := cell_ext (cell_ext (hy 13 _ rfl) _ hE4)
      repeat (first | (refine wpP_pure rfl (by rfl) (fun W hW => by go_simp; with_reducible rfl) ?_; simp only [Act.put, List.setIfInBounds_toArray, List.set_cons_zero, List.set_cons_succ]) | (refine wpP_skip rfl (by rfl) ?_; simp only [Act.put, List.setIfInBounds_toArray, List.set_cons_zero, List.set_cons_succ]))
      clear x0 y0 x1 y1 x2 y2 x3 y3 x4 y4 x5 y5 x6 y6 x7 y7 x8 y8 x9 y9 x10 y10 x11 y11 x12 y12 x13 y13 c1 c2 hx hy
      refine ⟨?_, fun W hR => ?_⟩
      · simp only [rSteps, rNeed, rStep, both_top, tie, TP.top, TP.mine, MP.top, MP.mine, MT.mine, MT.tied, MT.done, MT.is, List.reverse_cons, List.reverse_nil, List.nil_append, List.cons_append, ME.is, MP.is, MP.done, ME.ints, ME.row, Region.wanted, yielded, List.getElem?_toArray, phi, dstAt, List.getElem?_cons_zero, List.getElem?_cons_succ, Option.bind_some, Act.put, List.setIfInBounds_toArray, List.set_cons_zero, List.set_cons_succ, and_true, forall_eq, reduceIte, Nat.reduceEqDiff, beq_iff_eq, Option.some.injEq, Bool.false_eq_true, reduceCtorEq, implies_true, true_and]
        refine ⟨fun W hR => ?_, fun W hR => ?_⟩
        · go_simp
          refine (hsn W (hE0.trans (hE4.trans hR))).mono ?_
          rintro e w' ⟨rfl, h1⟩
          exact ⟨_, rfl, h1, rfl⟩
        · (go_simp; exact ⟨_, rfl, Ext.refl _, rfl⟩)
      · simp only [rFin, envAt, TP.top, TP.mine, MP.top, MP.mine, MT.mine, MT.tied, MT.done, MT.is, List.map_cons, List.map_nil, true_implies, List.head?_cons, ME.is, MP.is, MP.done, ME.ints, ME.row, phi, dstAt, List.getElem?_cons_zero, List.getElem?_cons_succ, Option.bind_some, Act.put, List.setIfInBounds_toArray, List.set_cons_zero, List.set_cons_succ, and_true, forall_eq, reduceIte, Nat.reduceEqDiff, beq_iff_eq, Option.some.injEq, Bool.false_eq_true, reduceCtorEq, implies_true, true_and]
        have hEW := hE.trans (hE4.trans hR)
        cases z with
        | true =>
          have HTK := Lib.hid (take_eq ht.out HX.out HY.out (of_decide_eq_true hz))
          clear hz hsn
          go_wp2_with fail
          go_roundw
          case rel => exact ⟨k + 1, by omega, by go_num, HTK, hEW⟩
          case measure => simp [intOf]; omega
        | false =>
          have HTK := Lib.hid (take_ne HX.out HY.out (of_decide_eq_false hz))
          clear hz hsn
          go_wp2_with fail
          go_ret
          exact HNE.out _ _ rfl (fun e => HTK.out ((gc_eq_iff g h).1 e).2.2) (hE3.trans hEW)
    · have hab : g.nodes.map Nd.c = h.nodes.map Nd.c := by
        have h1 := ht.out
        have h2 := HL.out
        rw [List.take_of_length_le (by rw [List.length_map]; omega), List.take_of_length_le (by rw [List.length_map]; omega)] at h1
        exact h1
      have HAB := Lib.hid hab
      clear hab
      go_wp2_with fail
      go_ret
      exact ⟨ret_bool (by rw [decide_eq_true]; exact (gc_eq_iff g h).2 ⟨HI.out, HO.out, HAB.out⟩), hE3.trans hE⟩

end Go.Proofs.YtdhdbmfipkppiaaGreat

namespace Go.Proofs.YtdhdbmfipkppiaaGreat.Isa
set_option maxRecDepth 10000
open Go.RowKit

/-- A command, number by number. -/
structure Cm where
  k : Int
  s : Int
  n : Int
  f : Int
  r : Int
  o : Int
  d : Int
  p : Int
  i0 : Int
  i1 : Int
  b0 : Int
  b1 : Int
  h0 : Int
  h1 : Int
deriving DecidableEq, Inhabited

def Cm.l (c : Cm) : List Int := [c.k, c.s, c.n, c.f, c.r, c.o, c.d, c.p, c.i0, c.i1, c.b0, c.b1, c.h0, c.h1]
def Cm.cs (c : Cm) : List Value := c.l.map (.int .i64)
def Cm.v (c : Cm) : Value := .agg #[.int .i64 c.k, .int .i64 c.s, .int .i64 c.n, .int .i64 c.f, .int .i64 c.r, .int .i64 c.o, .int .i64 c.d, .int .i64 c.p, .int .i64 c.i0, .int .i64 c.i1, .int .i64 c.b0, .int .i64 c.b1, .int .i64 c.h0, .int .i64 c.h1]
def Cm.of (k : Int) : Cm := ⟨k, 0, 0, 0, 0, 0, 0, 0, 0, 0, 0, 0, 0, 0⟩

theorem Cm.cs_len (c : Cm) : c.cs.length = 14 := rfl

/-- A number of a command: which of its cells, how many bytes, its bounds. -/
structure Fd where
  at_ : Nat
  wide : Nat
  low : Int
  high : Int

def Fd.cs (b : Nat) (x : Fd) : List Value := [.pointer (some ⟨b, x.at_, none⟩), .int .i64 x.wide, .int .i64 x.low, .int .i64 x.high]
def Fds (b : Nat) (l : List Fd) : List Value := l.flatMap (Fd.cs b)

def tile4 : List Fd := [⟨2, 1, 0, 11⟩, ⟨3, 1, 0, 15⟩, ⟨4, 1, 1, 16⟩, ⟨7, 2, 0, 1023⟩]
def tileIn (i : Nat) : List Fd := [⟨8 + i, 2, 0, 1023⟩, ⟨10 + i, 1, 0, 15⟩, ⟨12 + i, 1, 0, 16⟩]
def tileN : Nat → List Fd
  | 0 => tile4
  | i + 1 => tileN i ++ tileIn i

/-- The numbers of a kind. -/
def tbl (z : Int) : List Fd :=
  if z = 1 ∨ z = 2 then [⟨4, 1, 1, 16⟩, ⟨5, 2, 1, 128⟩, ⟨6, 3, 0, 65535⟩, ⟨7, 2, 0, 1023⟩]
  else if z = 3 then tileN 2
  else if z = 4 then [⟨2, 1, 0, 11⟩, ⟨4, 1, 1, 16⟩]
  else if z = 5 ∨ z = 6 then [⟨1, 1, 0, 7⟩]
  else []
def okK (z : Int) : Bool := decide (1 ≤ z ∧ z ≤ 7)

theorem fds_get (b : Nat) : ∀ (l : List Fd) (j i : Nat), i < 4 → (Fds b l)[j * 4 + i]? = (l[j]?).bind fun x => (x.cs b)[i]?
  | [], j, i, _ => by simp [Fds]
  | s :: l, 0, i, hi => by
    unfold Fds
    rw [List.flatMap_cons, Nat.zero_mul, Nat.zero_add, List.getElem?_append_left (by simp [Fd.cs]; omega)]
    rfl
  | s :: l, j + 1, i, hi => by
    have ih := fds_get b l j i hi
    unfold Fds at ih ⊢
    rw [List.flatMap_cons, List.getElem?_append_right (by simp [Fd.cs]; omega), show (j + 1) * 4 + i - (s.cs b).length = j * 4 + i from by simp [Fd.cs]; omega, ih]
    rfl

theorem fds_append (b : Nat) (l m : List Fd) : Fds b (l ++ m) = Fds b l ++ Fds b m := by unfold Fds; rw [List.flatMap_append]

theorem fds_one (b : Nat) (l : List Fd) : ∀ u ∈ Fds b l, u.oneCell' = true := by
  intro u hu
  unfold Fds at hu
  obtain ⟨x, _, hx⟩ := List.mem_flatMap.1 hu
  simp only [Fd.cs, List.mem_cons, List.not_mem_nil, or_false] at hx
  rcases hx with rfl | rfl | rfl | rfl <;> rfl

/-- A row of numbers of a command, cell by cell. -/
theorem fds_form {w : World} {b : Nat} {v : Value} {l : List Fd} (h : Row w v l.length 4 (Fds b l)) : ∃ A c, v = .slice A l.length c ∧ l.length ≤ c ∧ c ≤ maxLen ∧
    (∀ j x, l[j]? = some x → ∃ g off, A = some ⟨g, off, none⟩ ∧ w.cell? ⟨g, off + j * 4, none⟩ = some (.pointer (some ⟨b, x.at_, none⟩)) ∧ w.cell? ⟨g, off + j * 4 + 1, none⟩ = some (.int .i64 x.wide) ∧
      w.cell? ⟨g, off + j * 4 + 2, none⟩ = some (.int .i64 x.low) ∧ w.cell? ⟨g, off + j * 4 + 3, none⟩ = some (.int .i64 x.high)) := by
  obtain ⟨A, c, e, h1, h2, h3, h4⟩ := h
  refine ⟨A, c, e, h1, h2, fun j s hj => ?_⟩
  have g := fun i u (hi : i < 4) (hu : (s.cs b)[i]? = some u) => h4 (j * 4 + i) u (by rw [fds_get _ _ _ _ hi, hj]; exact hu)
  obtain ⟨b, off, rfl, k0⟩ := g 0 _ (by omega) rfl
  obtain ⟨_, _, e1, k1⟩ := g 1 _ (by omega) rfl
  obtain ⟨_, _, e2, k2⟩ := g 2 _ (by omega) rfl
  obtain ⟨_, _, e3, k3⟩ := g 3 _ (by omega) rfl
  cases e1; cases e2; cases e3
  exact ⟨b, off, rfl, by simpa using k0, by simpa [Nat.add_assoc] using k1, by simpa [Nat.add_assoc] using k2, by simpa [Nat.add_assoc] using k3⟩

theorem elem_fd : ElemT Tryz.prog 100 106 4 32 := elemT_of (z := .agg #[.pointer none, .int .i64 0, .int .i64 0, .int .i64 0]) Tryz.underlying100 (by kernel_rfl) rfl (by omega)

/-- The numbers of a command, one field after the other: is each within its bounds? Then it is taken away. -/
def runF (cs : List Int) (ok : Bool) : List Fd → List Int × Bool
  | [] => (cs, ok)
  | x :: l => runF (cs.set x.at_ 0) (ok && decide (x.low ≤ cs[x.at_]?.getD 0) && decide (cs[x.at_]?.getD 0 ≤ x.high)) l

/-- May a command be? -/
def mayB (c : Cm) : Bool := (runF c.l (okK c.k) (tbl c.k)).2 && decide ((runF c.l (okK c.k) (tbl c.k)).1 = (Cm.of c.k).l)
def mayE (c : Cm) : Int := if mayB c then 0 else 1

theorem tbl_at (z : Int) : ∀ x ∈ tbl z, x.at_ < 14 ∧ 1 ≤ x.at_ ∧ 1 ≤ x.wide ∧ x.wide ≤ 3 := by
  have go : ∀ l : List Fd, (l.all fun x => decide (x.at_ < 14) && decide (1 ≤ x.at_) && decide (1 ≤ x.wide) && decide (x.wide ≤ 3)) = true → ∀ x ∈ l, x.at_ < 14 ∧ 1 ≤ x.at_ ∧ 1 ≤ x.wide ∧ x.wide ≤ 3 := by
    intro l hl x hx
    have := List.all_eq_true.1 hl x hx
    simpa [and_assoc] using this
  refine go _ ?_
  unfold tbl
  split
  · decide
  · split
    · decide
    · split
      · decide
      · split <;> decide

theorem tbl_len (z : Int) : (tbl z).length ≤ 10 := by
  unfold tbl
  split
  · decide
  · split
    · decide
    · split
      · decide
      · split <;> decide

/-- The cells of a command that stand in a block. -/
def CBox (w : World) (b : Nat) (cs : List Int) : Prop := w.heap[b]? = some (.cells (cs.map (Value.int .i64)).toArray 75 (0, 0))
theorem CBox.lt {w : World} {b : Nat} {cs : List Int} (h : CBox w b cs) : b < w.heap.size := (Array.getElem?_eq_some_iff.1 h).1
theorem CBox.below {w w' : World} {b : Nat} {cs : List Int} {B : Nat} (h : CBox w b cs) (hb : Below B w w') (hB : b < B) : CBox w' b cs := (hb.block b hB).trans h
theorem CBox.cell {w : World} {b : Nat} {cs : List Int} (h : CBox w b cs) {i : Nat} (hi : i < cs.length) : w.cell? ⟨b, i, none⟩ = some (.int .i64 (cs[i]?.getD 0)) := by
  unfold CBox at h
  simp [World.cell?, h, hi]
theorem CBox.frozen {w : World} {b : Nat} {cs : List Int} (h : CBox w b cs) (o : Nat) : w.frozen? ⟨b, o, none⟩ = false := by
  unfold CBox at h
  simp [World.frozen?, h]
theorem CBox.set {w : World} {b : Nat} {cs : List Int} (h : CBox w b cs) (i : Nat) (z : Int) : CBox (w.setCell ⟨b, i, none⟩ (.int .i64 z)) b (cs.set i z) := by
  unfold CBox at h ⊢
  simp [World.setCell, Array.getElem?_modify, h, List.map_set]
theorem CBox.other {w : World} {b b' : Nat} {cs : List Int} (h : CBox w b cs) (hne : b' ≠ b) (o : Nat) (v : Value) : CBox (w.setCell ⟨b', o, none⟩ v) b cs := by
  unfold CBox at h ⊢
  simp [World.setCell, Array.getElem?_modify, h, hne]
theorem CBox.drew {w : World} {b : Nat} {cs : List Int} (h : CBox w b cs) : CBox w.drew b cs := h
theorem cbox_new (w : World) (c : Cm) : CBox (w.alloc (.cells #[.int .i64 c.k, .int .i64 c.s, .int .i64 c.n, .int .i64 c.f, .int .i64 c.r, .int .i64 c.o, .int .i64 c.d, .int .i64 c.p, .int .i64 c.i0, .int .i64 c.i1, .int .i64 c.b0, .int .i64 c.b1, .int .i64 c.h0, .int .i64 c.h1] 75)) w.heap.size c.l := heap_alloc_new w _
theorem CBox.all {w : World} {b : Nat} {c : Cm} (h : CBox w b c.l) :
    w.cell? ⟨b, 0, none⟩ = some (.int .i64 c.k) ∧ w.cell? ⟨b, 1, none⟩ = some (.int .i64 c.s) ∧ w.cell? ⟨b, 2, none⟩ = some (.int .i64 c.n) ∧ w.cell? ⟨b, 3, none⟩ = some (.int .i64 c.f) ∧ w.cell? ⟨b, 4, none⟩ = some (.int .i64 c.r) ∧
    w.cell? ⟨b, 5, none⟩ = some (.int .i64 c.o) ∧ w.cell? ⟨b, 6, none⟩ = some (.int .i64 c.d) ∧ w.cell? ⟨b, 7, none⟩ = some (.int .i64 c.p) ∧ w.cell? ⟨b, 8, none⟩ = some (.int .i64 c.i0) ∧ w.cell? ⟨b, 9, none⟩ = some (.int .i64 c.i1) ∧
    w.cell? ⟨b, 10, none⟩ = some (.int .i64 c.b0) ∧ w.cell? ⟨b, 11, none⟩ = some (.int .i64 c.b1) ∧ w.cell? ⟨b, 12, none⟩ = some (.int .i64 c.h0) ∧ w.cell? ⟨b, 13, none⟩ = some (.int .i64 c.h1) := by
  unfold CBox Cm.l at h
  refine ⟨?_, ?_, ?_, ?_, ?_, ?_, ?_, ?_, ?_, ?_, ?_, ?_, ?_, ?_⟩ <;> simp [World.cell?, h]

theorem _root_.Go.Proofs.YtdhdbmfipkppiaaGreat.Row.setCell {w : World} {v : Value} {n sz : Nat} {xs : List Value} (h : Row w v n sz xs) {b : Nat} (hb : v.ownBlock ≠ some b) (o : Nat) (u : Value) : Row (w.setCell ⟨b, o, none⟩ u) v n sz xs := by
  obtain ⟨A, c, rfl, h1, h2, h3, h4⟩ := h
  refine ⟨A, c, rfl, h1, h2, h3, h4.same fun b' off e _ => ?_⟩
  subst e
  exact Below.heap_setCell w _ _ _ (fun e => hb (by simp only at e; rw [← e]; rfl))

/-- What fields answers. -/
def FieldsPost (b : Nat) (z : Int) (w : World) (e : Ending) (w' : World) : Prop := ∃ v, e = .returned (.tuple #[v, .bool (okK z)]) ∧ Row w' v (tbl z).length 4 (Fds b (tbl z)) ∧ (∀ k, v.ownBlock = some k → w.heap.size ≤ k) ∧ Below w.heap.size w w'

end Go.Proofs.YtdhdbmfipkppiaaGreat.Isa
