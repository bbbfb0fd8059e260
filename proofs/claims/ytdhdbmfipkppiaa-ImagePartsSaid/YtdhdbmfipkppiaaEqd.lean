/- The walk of image.Same. -/
import Derived.Test.YtdhdbmfipkppiaaEqc
import Derived.Test.YtdhdbmfipkppiaaDraw3
namespace Go.Proofs.Ytdhdbmfipkppiaa
set_option linter.unusedSimpArgs false
set_option linter.unusedVariables false
set_option linter.unnecessarySimpa false
set_option maxRecDepth 10000
open Go.RowKit

/-- What two images are compared by. -/
def stE (L0 L1 L2 M0 M1 M2 : List Isa.Cm) : Nat → Bool
  | 0 => true
  | 1 => decide (L0 = M0)
  | 2 => decide (L0 = M0) && decide (L1 = M1)
  | _ => decide (L0 = M0) && decide (L1 = M1) && decide (L2 = M2)
def sameI (g : Gr) (pl : List Int) (L0 L1 L2 : List Isa.Cm) (h : Gr) (ql : List Int) (M0 M1 M2 : List Isa.Cm) : Bool := stE L0 L1 L2 M0 M1 M2 3 && decide (g.c = h.c) && decide (pl = ql)
theorem sameI_iff (g : Gr) (pl : List Int) (L0 L1 L2 : List Isa.Cm) (h : Gr) (ql : List Int) (M0 M1 M2 : List Isa.Cm) : sameI g pl L0 L1 L2 h ql M0 M1 M2 = true ↔ g.c = h.c ∧ pl = ql ∧ L0 = M0 ∧ L1 = M1 ∧ L2 = M2 := by
  simp only [sameI, stE, Bool.and_eq_true, decide_eq_true_eq]
  constructor
  · rintro ⟨⟨⟨⟨h1, h2⟩, h3⟩, h4⟩, h5⟩; exact ⟨h4, h5, h1, h2, h3⟩
  · rintro ⟨h4, h5, h1, h2, h3⟩; exact ⟨⟨⟨⟨h1, h2⟩, h3⟩, h4⟩, h5⟩

def SamePost (b : Bool) (w : World) (e : Ending) (w' : World) : Prop := e = .returned (.bool b) ∧ Ext w w'

set_option maxRecDepth 20000 in
set_option maxHeartbeats 6400000 in
theorem imageSame_calls (g h : Gr) (pV s0 s1 s2 qV r0 r1 r2 : Value) (pl ql : List Int) (L0 L1 L2 M0 M1 M2 : List Isa.Cm) (w : World) (hg : GrAt w g) (hh : GrAt w h) (hp : Ints .i64 w pV pl) (hq : Ints .i64 w qV ql)
    (h0 : Isa.Cmds w s0 L0) (h1 : Isa.Cmds w s1 L1) (h2 : Isa.Cmds w s2 L2) (k0 : Isa.Cmds w r0 M0) (k1 : Isa.Cmds w r1 M1) (k2 : Isa.Cmds w r2 M2) :
    Calls Try.prog 38 #[.agg #[g.iV, g.nV, g.oV, pV, s0, s1, s2], .agg #[h.iV, h.nV, h.oV, qV, r0, r1, r2]] w (SamePost (sameI g pl L0 L1 L2 h ql M0 M1 M2) w) := by
  have HP : Hid (∀ (b : Bool) w', b = (stE L0 L1 L2 M0 M1 M2 3 && decide (g.c = h.c) && decide (pl = ql)) → Ext w w' → SamePost (sameI g pl L0 L1 L2 h ql M0 M1 M2) w (.returned (.bool b)) w') := fun b w' h1 h2 => ⟨by rw [h1]; rfl, h2⟩
  generalize SamePost (sameI g pl L0 L1 L2 h ql M0 M1 M2) w = PP at *
  have hb1 := (Blk.new w #[g.iV, g.nV, g.oV, pV, s0, s1, s2] 54).ext (ext_alloc _ (.cells #[h.iV, h.nV, h.oV, qV, r0, r1, r2] 54))
  have hb2 := Blk.new (w.alloc (.cells #[g.iV, g.nV, g.oV, pV, s0, s1, s2] 54)) #[h.iV, h.nV, h.oV, qV, r0, r1, r2] 54
  rw [show (w.alloc (.cells #[g.iV, g.nV, g.oV, pV, s0, s1, s2] 54)).heap.size = w.heap.size + 1 from by simp] at hb2
  have hE := (ext_alloc w (.cells #[g.iV, g.nV, g.oV, pV, s0, s1, s2] 54)).trans (ext_alloc _ (.cells #[h.iV, h.nV, h.oV, qV, r0, r1, r2] 54))
  have HC0 := Lib.hid (fun W (e : Ext w W) => eqs_cm s0 r0 L0 M0 W (h0.below e (Nat.le_refl _)) (k0.below e (Nat.le_refl _)))
  have HC1 := Lib.hid (fun W (e : Ext w W) => eqs_cm s1 r1 L1 M1 W (h1.below e (Nat.le_refl _)) (k1.below e (Nat.le_refl _)))
  have HC2 := Lib.hid (fun W (e : Ext w W) => eqs_cm s2 r2 L2 M2 W (h2.below e (Nat.le_refl _)) (k2.below e (Nat.le_refl _)))
  have HCG := Lib.hid (fun W (e : Ext w W) => graphSame_calls g h W (hg.ext e) (hh.ext e))
  have HCP := Lib.hid (fun W (e : Ext w W) => eqs_i64 pV qV pl ql W (hp.ext e) (hq.ext e))
  clear h0 h1 h2 k0 k1 k2 hg hh hp hq
  go_enter Try.func38, Try.ntmps38
  go_upto_region 1 with fail
  generalize World.alloc (World.alloc w _) _ = w1 at *
  have HE := Lib.hid hE
  have HB1 := Lib.hid hb1
  have HB2 := Lib.hid hb2
  clear hE hb1 hb2
  have HS0 : Hid (true = stE L0 L1 L2 M0 M1 M2 0) := rfl
  have HS1 : Hid (stE L0 L1 L2 M0 M1 M2 1 = (stE L0 L1 L2 M0 M1 M2 0 && decide (L0 = M0))) := by show _ = _; simp [stE]
  have HS2 : Hid (stE L0 L1 L2 M0 M1 M2 2 = (stE L0 L1 L2 M0 M1 M2 1 && decide (L1 = M1))) := rfl
  have HS3 : Hid (stE L0 L1 L2 M0 M1 M2 3 = (stE L0 L1 L2 M0 M1 M2 2 && decide (L2 = M2))) := rfl
  generalize stE L0 L1 L2 M0 M1 M2 = st at *
  go_wp2_with fail
  go_loopw [5, 7] (fun v i wr => ∃ (k : Nat) (b : Bool), v = .bool b ∧ k ≤ 3 ∧ i = .int .i64 k ∧ Hid (b = st k) ∧ Hid (Ext w1 wr)) (fun _ i _ => 3 - (intOf i).toNat)
  case atStart => exact ⟨0, true, rfl, by omega, rfl, HS0, Ext.refl _⟩
  case round =>
    obtain ⟨k, b, rfl, hk, rfl, HB, HX⟩ := hrel
    rcases (by omega : k = 0 ∨ k = 1 ∨ k = 2 ∨ k = 3) with rfl | rfl | rfl | rfl
    · have c1 : ∀ W, Ext w1 W → World.cell? W ⟨w.heap.size, 4, none⟩ = some s0 := fun W e => (HB1.out.ext e).cell 4
      have c2 : ∀ W, Ext w1 W → World.cell? W ⟨w.heap.size + 1, 4, none⟩ = some r0 := fun W e => (HB2.out.ext e).cell 4
      have hXd := HX.out.trans (Ext.drew wr)
      go_wp2_with fail
      refine wp_region_S (fun W => Ext w1 W) [(0, true), (1, true), (2, true), (3, true), (4, true), (5, true), (6, true), (7, true), (8, true), (9, true), (10, false), (11, true), (12, true)] (by kernel_rfl) (by kernel_rfl) (fun _ _ d _ _ h => by cases d <;> exact h) hXd ?_
      generalize wr.drew = w2 at *
      cases b with
      | false =>
        simp only [pickE, List.getElem?_cons_zero, List.getElem?_cons_succ]
        repeat (first | (refine wpF_skip (by rfl) ?_; simp only [Act.put, List.setIfInBounds_toArray, List.set_cons_zero, List.set_cons_succ]) | (refine wpF_pure (by rfl) (fun W hW => by go_simp; with_reducible rfl) ?_; simp only [Act.put, List.setIfInBounds_toArray, List.set_cons_zero, List.set_cons_succ]))
        refine wpF_nil ?_
        have HBN : Hid (false = st 1) := by show _ = _; rw [HS1.out, ← HB.out]; rfl
        have HXN := Lib.hid hXd
        clear c1 c2 hXd
        go_wp2_with fail
        go_roundw
        case rel => exact ⟨1, false, rfl, by omega, by go_num, HBN, HXN⟩
        case measure => simp [intOf]
      | true =>
        simp only [pickE, List.getElem?_cons_zero, List.getElem?_cons_succ]
        repeat (first | (refine wpF_skip (by rfl) ?_; simp only [Act.put, List.setIfInBounds_toArray, List.set_cons_zero, List.set_cons_succ]) | (refine wpF_pure (by rfl) (fun W hW => by go_simp; with_reducible rfl) ?_; simp only [Act.put, List.setIfInBounds_toArray, List.set_cons_zero, List.set_cons_succ]))
        refine wpF_step (by rfl) (fun K hK => ?_)
        go_simp
        refine (HC0.out w2 (HE.out.trans hXd)).mono ?_
        rintro e w3 ⟨rfl, h3⟩
        have hX3 := hXd.trans h3
        refine hK _ _ hX3 ?_
        clear hK K
        have HBN : Hid (decide (L0 = M0) = st 1) := by show _ = _; rw [HS1.out, ← HB.out]; rfl
        generalize decide (L0 = M0) = q at *
        try simp only [Act.put, List.setIfInBounds_toArray, List.set_cons_zero, List.set_cons_succ]
        repeat (first | (refine wpF_skip (by rfl) ?_; simp only [Act.put, List.setIfInBounds_toArray, List.set_cons_zero, List.set_cons_succ]) | (refine wpF_pure (by rfl) (fun W hW => by go_simp; with_reducible rfl) ?_; simp only [Act.put, List.setIfInBounds_toArray, List.set_cons_zero, List.set_cons_succ]))
        refine wpF_nil ?_
        have HXN := Lib.hid hX3
        clear c1 c2 hXd h3 hX3
        go_wp2_with fail
        go_roundw
        case rel => exact ⟨1, _, rfl, by omega, by go_num, HBN, HXN⟩
        case measure => simp [intOf]
    · have c1 : ∀ W, Ext w1 W → World.cell? W ⟨w.heap.size, 5, none⟩ = some s1 := fun W e => (HB1.out.ext e).cell 5
      have c2 : ∀ W, Ext w1 W → World.cell? W ⟨w.heap.size + 1, 5, none⟩ = some r1 := fun W e => (HB2.out.ext e).cell 5
      have hXd := HX.out.trans (Ext.drew wr)
      go_wp2_with fail
      refine wp_region_S (fun W => Ext w1 W) [(0, true), (1, true), (2, true), (3, true), (4, true), (5, true), (6, true), (7, true), (8, true), (9, true), (10, false), (11, true), (12, true)] (by kernel_rfl) (by kernel_rfl) (fun _ _ d _ _ h => by cases d <;> exact h) hXd ?_
      generalize wr.drew = w2 at *
      cases b with
      | false =>
        simp only [pickE, List.getElem?_cons_zero, List.getElem?_cons_succ]
        repeat (first | (refine wpF_skip (by rfl) ?_; simp only [Act.put, List.setIfInBounds_toArray, List.set_cons_zero, List.set_cons_succ]) | (refine wpF_pure (by rfl) (fun W hW => by go_simp; with_reducible rfl) ?_; simp only [Act.put, List.setIfInBounds_toArray, List.set_cons_zero, List.set_cons_succ]))
        refine wpF_nil ?_
        have HBN : Hid (false = st 2) := by show _ = _; rw [HS2.out, ← HB.out]; rfl
        have HXN := Lib.hid hXd
        clear c1 c2 hXd
        go_wp2_with fail
        go_roundw
        case rel => exact ⟨2, false, rfl, by omega, by go_num, HBN, HXN⟩
        case measure => simp [intOf]
      | true =>
        simp only [pickE, List.getElem?_cons_zero, List.getElem?_cons_succ]
        repeat (first | (refine wpF_skip (by rfl) ?_; simp only [Act.put, List.setIfInBounds_toArray, List.set_cons_zero, List.set_cons_succ]) | (refine wpF_pure (by rfl) (fun W hW => by go_simp; with_reducible rfl) ?_; simp only [Act.put, List.setIfInBounds_toArray, List.set_cons_zero, List.set_cons_succ]))
        refine wpF_step (by rfl) (fun K hK => ?_)
        go_simp
        refine (HC1.out w2 (HE.out.trans hXd)).mono ?_
        rintro e w3 ⟨rfl, h3⟩
        have hX3 := hXd.trans h3
        refine hK _ _ hX3 ?_
        clear hK K
        have HBN : Hid (decide (L1 = M1) = st 2) := by show _ = _; rw [HS2.out, ← HB.out]; rfl
        generalize decide (L1 = M1) = q at *
        try simp only [Act.put, List.setIfInBounds_toArray, List.set_cons_zero, List.set_cons_succ]
        repeat (first | (refine wpF_skip (by rfl) ?_; simp only [Act.put, List.setIfInBounds_toArray, List.set_cons_zero, List.set_cons_succ]) | (refine wpF_pure (by rfl) (fun W hW => by go_simp; with_reducible rfl) ?_; simp only [Act.put, List.setIfInBounds_toArray, List.set_cons_zero, List.set_cons_succ]))
        refine wpF_nil ?_
        have HXN := Lib.hid hX3
        clear c1 c2 hXd h3 hX3
        go_wp2_with fail
        go_roundw
        case rel => exact ⟨2, _, rfl, by omega, by go_num, HBN, HXN⟩
        case measure => simp [intOf]
    · have c1 : ∀ W, Ext w1 W → World.cell? W ⟨w.heap.size, 6, none⟩ = some s2 := fun W e => (HB1.out.ext e).cell 6
      have c2 : ∀ W, Ext w1 W → World.cell? W ⟨w.heap.size + 1, 6, none⟩ = some r2 := fun W e => (HB2.out.ext e).cell 6
      have hXd := HX.out.trans (Ext.drew wr)
      go_wp2_with fail
      refine wp_region_S (fun W => Ext w1 W) [(0, true), (1, true), (2, true), (3, true), (4, true), (5, true), (6, true), (7, true), (8, true), (9, true), (10, false), (11, true), (12, true)] (by kernel_rfl) (by kernel_rfl) (fun _ _ d _ _ h => by cases d <;> exact h) hXd ?_
      generalize wr.drew = w2 at *
      cases b with
      | false =>
        simp only [pickE, List.getElem?_cons_zero, List.getElem?_cons_succ]
        repeat (first | (refine wpF_skip (by rfl) ?_; simp only [Act.put, List.setIfInBounds_toArray, List.set_cons_zero, List.set_cons_succ]) | (refine wpF_pure (by rfl) (fun W hW => by go_simp; with_reducible rfl) ?_; simp only [Act.put, List.setIfInBounds_toArray, List.set_cons_zero, List.set_cons_succ]))
        refine wpF_nil ?_
        have HBN : Hid (false = st 3) := by show _ = _; rw [HS3.out, ← HB.out]; rfl
        have HXN := Lib.hid hXd
        clear c1 c2 hXd
        go_wp2_with fail
        go_roundw
        case rel => exact ⟨3, false, rfl, by omega, by go_num, HBN, HXN⟩
        case measure => simp [intOf]
      | true =>
        simp only [pickE, List.getElem?_cons_zero, List.getElem?_cons_succ]
        repeat (first | (refine wpF_skip (by rfl) ?_; simp only [Act.put, List.setIfInBounds_toArray, List.set_cons_zero, List.set_cons_succ]) | (refine wpF_pure (by rfl) (fun W hW => by go_simp; with_reducible rfl) ?_; simp only [Act.put, List.setIfInBounds_toArray, List.set_cons_zero, List.set_cons_succ]))
        refine wpF_step (by rfl) (fun K hK => ?_)
        go_simp
        refine (HC2.out w2 (HE.out.trans hXd)).mono ?_
        rintro e w3 ⟨rfl, h3⟩
        have hX3 := hXd.trans h3
        refine hK _ _ hX3 ?_
        clear hK K
        have HBN : Hid (decide (L2 = M2) = st 3) := by show _ = _; rw [HS3.out, ← HB.out]; rfl
        generalize decide (L2 = M2) = q at *
        try simp only [Act.put, List.setIfInBounds_toArray, List.set_cons_zero, List.set_cons_succ]
        repeat (first | (refine wpF_skip (by rfl) ?_; simp only [Act.put, List.setIfInBounds_toArray, List.set_cons_zero, List.set_cons_succ]) | (refine wpF_pure (by rfl) (fun W hW => by go_simp; with_reducible rfl) ?_; simp only [Act.put, List.setIfInBounds_toArray, List.set_cons_zero, List.set_cons_succ]))
        refine wpF_nil ?_
        have HXN := Lib.hid hX3
        clear c1 c2 hXd h3 hX3
        go_wp2_with fail
        go_roundw
        case rel => exact ⟨3, _, rfl, by omega, by go_num, HBN, HXN⟩
        case measure => simp [intOf]
    · cases b with
      | false =>
        have HF := Lib.hid (show false = (st 3 && decide (g.c = h.c) && decide (pl = ql)) by rw [← HB.out]; rfl)
        have HXX := Lib.hid (HE.out.trans HX.out)
        go_wp2_with fail
        exact HP.out _ _ HF.out HXX.out
      | true =>
        have hb1 := HB1.out.ext HX.out
        have hb2 := HB2.out.ext HX.out
        have x0 : World.cell? wr ⟨w.heap.size, 0, none⟩ = some g.iV := hb1.cell 0
        have y0 : World.cell? wr ⟨w.heap.size + 1, 0, none⟩ = some h.iV := hb2.cell 0
        have x1 : World.cell? wr ⟨w.heap.size, 1, none⟩ = some g.nV := hb1.cell 1
        have y1 : World.cell? wr ⟨w.heap.size + 1, 1, none⟩ = some h.nV := hb2.cell 1
        have x2 : World.cell? wr ⟨w.heap.size, 2, none⟩ = some g.oV := hb1.cell 2
        have y2 : World.cell? wr ⟨w.heap.size + 1, 2, none⟩ = some h.oV := hb2.cell 2
        have hc := HCG.out wr (HE.out.trans HX.out)
        go_wp2_with fail
        refine hc.mono ?_
        rintro e w2 ⟨rfl, h2⟩
        replace hb1 := hb1.ext h2
        replace hb2 := hb2.ext h2
        have HX2 := Lib.hid ((HE.out.trans HX.out).trans h2)
        clear x0 y0 x1 y1 x2 y2 hc h2
        by_cases e1 : g.c = h.c
        · have x3 : World.cell? w2 ⟨w.heap.size, 3, none⟩ = some pV := hb1.cell 3
          have y3 : World.cell? w2 ⟨w.heap.size + 1, 3, none⟩ = some qV := hb2.cell 3
          have hc := HCP.out w2 HX2.out
          have HQ := Lib.hid (decide_eq_true e1)
          rw [decide_eq_true e1]
          clear e1
          go_wp2_with fail
          refine hc.mono ?_
          rintro e w3 ⟨rfl, h3⟩
          have HX3 := Lib.hid (HX2.out.trans h3)
          obtain ⟨q, hq⟩ : ∃ q, decide (pl = ql) = q := ⟨_, rfl⟩
          have HF := Lib.hid (show q = (st 3 && decide (g.c = h.c) && decide (pl = ql)) by rw [← HB.out, HQ.out, hq]; rfl)
          rw [hq]
          clear x3 y3 hc hb1 hb2 h3 hq HQ
          go_wp2_with fail
          exact HP.out _ _ HF.out HX3.out
        · have HF := Lib.hid (show false = (st 3 && decide (g.c = h.c) && decide (pl = ql)) by rw [decide_eq_false e1]; simp)
          rw [decide_eq_false e1]
          clear e1 hb1 hb2
          go_wp2_with fail
          exact HP.out _ _ HF.out HX2.out

end Go.Proofs.Ytdhdbmfipkppiaa
