/- The walk of the reference's Of: what is refused, loads and stores. -/
import Derived.Test.YtmddlhfahfelpaaNsaH
set_option linter.unusedSimpArgs false
set_option linter.unusedVariables false
set_option linter.unnecessarySimpa false
namespace Go.Proofs.Ytmddlhfahfelpaa
open Go.RowKit

theorem GrAt.oneG {W : World} {g : Gr} (h : GrAt W g) : Array.all #[g.iV, g.nV, g.oV] (·.oneCell') = true := by
  obtain ⟨_, _, q1, _⟩ := h.ins
  obtain ⟨_, _, q2, _⟩ := h.nodes
  obtain ⟨_, _, q3, _⟩ := h.outs
  rw [q1, q2, q3]
  simp [Value.oneCell']

set_option maxRecDepth 20000 in
set_option maxHeartbeats 12800000 in
theorem rOf_values (g : Gr) (pV s0 s1 s2 : Value) (pl : List Int) (c : Isa.Cm) (w : World) (hg : GrAt w g) (hp : Ints .i64 w pV pl) (hv0 : (valuesR g).2 ≠ 0) :
    Calls Try.prog 27 #[.agg #[g.iV, g.nV, g.oV, pV, s0, s1, s2], .agg #[.int .i64 c.k, .int .i64 c.s, .int .i64 c.n, .int .i64 c.f, .int .i64 c.r, .int .i64 c.o, .int .i64 c.d, .int .i64 c.p, .int .i64 c.i0, .int .i64 c.i1, .int .i64 c.b0, .int .i64 c.b1, .int .i64 c.h0, .int .i64 c.h1]] w (OfPost (ofR g pl c) w) := by
  have HOF : Hid (ofR g pl c = (if (valuesR g).2 ≠ 0 then ([], (valuesR g).2) else
    if Isa.mayB c = false ∨ pl.length ≠ (valuesR g).1.length then ([], 1) else
    if (c.k = 3 ∨ c.k = 4) ∧ (g.nodes.length ≤ c.n ∨ rowsOk c ((valuesR g).1[g.ins.length + c.n.toNat]?.getD default).s = false) then ([], 27) else
    ofR.lookSp (if c.k = 3 ∨ c.k = 4 then nodeSp (valuesR g).1 pl c ((g.nodes[c.n.toNat]?.map Nd.ins).getD []) (g.ins.length + c.n.toNat) else moveSp c))) := rfl
  have HP : Hid (∀ e w', (∃ v, e = .returned (.tuple #[v, .int .i64 (ofR g pl c).2]) ∧ Spans w' v (ofR g pl c).1 ∧ Ext w w') → OfPost (ofR g pl c) w e w') := fun e w' h => h
  generalize OfPost (ofR g pl c) w = PP at *
  have HE : Hid (∀ e w' z, ofR g pl c = ([], z) → e = .returned (.tuple #[.slice none 0 0, .int .i64 z]) → Ext w w' → PP e w') := fun e w' z h1 h2 h3 => HP.out e w' ⟨.slice none 0 0, by rw [h1]; exact h2, by rw [h1]; exact spans_nil _, h3⟩
  obtain ⟨Ap, cp, ep, hp1, hp2, hpcl⟩ := id hp.form
  unfold maxLen at hp2
  have EP := Lib.hid ep
  have HPCL := Lib.hid hpcl
  clear ep hpcl
  have hvok := fun h => vals_ok (g := g) h
  have hvc := fun W (h : Ext w W) => rvalues_calls g W (hg.ext h)
  have hmay := fun W => Isa.refMay_calls c W
  unfold Isa.Cm.v at hmay
  have hb0 := Blk.new w #[g.iV, g.nV, g.oV, pV, s0, s1, s2] 30
  have hE1 := ext_alloc w (.cells #[g.iV, g.nV, g.oV, pV, s0, s1, s2] 30)
  have hE2 := ext_alloc (w.alloc (.cells #[g.iV, g.nV, g.oV, pV, s0, s1, s2] 30)) (.cells #[.int .i64 c.k, .int .i64 c.s, .int .i64 c.n, .int .i64 c.f, .int .i64 c.r, .int .i64 c.o, .int .i64 c.d, .int .i64 c.p, .int .i64 c.i0, .int .i64 c.i1, .int .i64 c.b0, .int .i64 c.b1, .int .i64 c.h0, .int .i64 c.h1] 47)
  have hb1 := Blk.new (w.alloc (.cells #[g.iV, g.nV, g.oV, pV, s0, s1, s2] 30)) #[.int .i64 c.k, .int .i64 c.s, .int .i64 c.n, .int .i64 c.f, .int .i64 c.r, .int .i64 c.o, .int .i64 c.d, .int .i64 c.p, .int .i64 c.i0, .int .i64 c.i1, .int .i64 c.b0, .int .i64 c.b1, .int .i64 c.h0, .int .i64 c.h1] 47
  rw [show (w.alloc (.cells #[g.iV, g.nV, g.oV, pV, s0, s1, s2] 30)).heap.size = w.heap.size + 1 from by simp] at hb1
  replace hb0 := hb0.ext hE2
  have h1 := hE1.trans hE2
  clear hE1 hE2
  go_enter Try.func27, Try.ntmps27
  go_upto_region 1 with fail
  generalize World.alloc (World.alloc w _) _ = w1 at *
  have q0 : World.cell? w1 ⟨w.heap.size, 0, none⟩ = some g.iV := hb0.cell 0
  have q1 : World.cell? w1 ⟨w.heap.size, 1, none⟩ = some g.nV := hb0.cell 1
  have q2 : World.cell? w1 ⟨w.heap.size, 2, none⟩ = some g.oV := hb0.cell 2
  replace hvc := hvc _ h1
  generalize w.heap.size = b2 at *
  obtain ⟨vr, hvr⟩ : ∃ vr, valuesR g = vr := ⟨_, rfl⟩
  have HV : Hid (ofR g pl c = ([], vr.2)) := by show _ = _; rw [HOF.out, if_pos hv0, hvr]
  rw [hvr] at hvc hv0
  unfold ValsPost at hvc
  have hz1 : (vr.2 != 0) = true := by simpa using hv0
  go_wp2_with fail
  refine hvc.mono ?_
  rintro e w2 ⟨_, hA, hE2⟩
  obtain rfl := hA hv0
  have h2 := h1.trans hE2
  clear hvc hA hvr hv0 HOF
  generalize vr.2 = z at *
  go_wp2_with fail
  exact HE.out _ _ _ HV.out rfl h2

set_option maxRecDepth 20000 in
set_option maxHeartbeats 12800000 in
theorem rOf_may (g : Gr) (pV s0 s1 s2 : Value) (pl : List Int) (c : Isa.Cm) (w : World) (hg : GrAt w g) (hp : Ints .i64 w pV pl) (hv0 : (valuesR g).2 = 0) (hm : Isa.mayB c = false) :
    Calls Try.prog 27 #[.agg #[g.iV, g.nV, g.oV, pV, s0, s1, s2], .agg #[.int .i64 c.k, .int .i64 c.s, .int .i64 c.n, .int .i64 c.f, .int .i64 c.r, .int .i64 c.o, .int .i64 c.d, .int .i64 c.p, .int .i64 c.i0, .int .i64 c.i1, .int .i64 c.b0, .int .i64 c.b1, .int .i64 c.h0, .int .i64 c.h1]] w (OfPost (ofR g pl c) w) := by
  have HOF : Hid (ofR g pl c = (if (valuesR g).2 ≠ 0 then ([], (valuesR g).2) else
    if Isa.mayB c = false ∨ pl.length ≠ (valuesR g).1.length then ([], 1) else
    if (c.k = 3 ∨ c.k = 4) ∧ (g.nodes.length ≤ c.n ∨ rowsOk c ((valuesR g).1[g.ins.length + c.n.toNat]?.getD default).s = false) then ([], 27) else
    ofR.lookSp (if c.k = 3 ∨ c.k = 4 then nodeSp (valuesR g).1 pl c ((g.nodes[c.n.toNat]?.map Nd.ins).getD []) (g.ins.length + c.n.toNat) else moveSp c))) := rfl
  have HP : Hid (∀ e w', (∃ v, e = .returned (.tuple #[v, .int .i64 (ofR g pl c).2]) ∧ Spans w' v (ofR g pl c).1 ∧ Ext w w') → OfPost (ofR g pl c) w e w') := fun e w' h => h
  generalize OfPost (ofR g pl c) w = PP at *
  have HE : Hid (∀ e w' z, ofR g pl c = ([], z) → e = .returned (.tuple #[.slice none 0 0, .int .i64 z]) → Ext w w' → PP e w') := fun e w' z h1 h2 h3 => HP.out e w' ⟨.slice none 0 0, by rw [h1]; exact h2, by rw [h1]; exact spans_nil _, h3⟩
  obtain ⟨Ap, cp, ep, hp1, hp2, hpcl⟩ := id hp.form
  unfold maxLen at hp2
  have EP := Lib.hid ep
  have HPCL := Lib.hid hpcl
  clear ep hpcl
  have hvok := fun h => vals_ok (g := g) h
  have hvc := fun W (h : Ext w W) => rvalues_calls g W (hg.ext h)
  have hmay := fun W => Isa.refMay_calls c W
  unfold Isa.Cm.v at hmay
  have hb0 := Blk.new w #[g.iV, g.nV, g.oV, pV, s0, s1, s2] 30
  have hE1 := ext_alloc w (.cells #[g.iV, g.nV, g.oV, pV, s0, s1, s2] 30)
  have hE2 := ext_alloc (w.alloc (.cells #[g.iV, g.nV, g.oV, pV, s0, s1, s2] 30)) (.cells #[.int .i64 c.k, .int .i64 c.s, .int .i64 c.n, .int .i64 c.f, .int .i64 c.r, .int .i64 c.o, .int .i64 c.d, .int .i64 c.p, .int .i64 c.i0, .int .i64 c.i1, .int .i64 c.b0, .int .i64 c.b1, .int .i64 c.h0, .int .i64 c.h1] 47)
  have hb1 := Blk.new (w.alloc (.cells #[g.iV, g.nV, g.oV, pV, s0, s1, s2] 30)) #[.int .i64 c.k, .int .i64 c.s, .int .i64 c.n, .int .i64 c.f, .int .i64 c.r, .int .i64 c.o, .int .i64 c.d, .int .i64 c.p, .int .i64 c.i0, .int .i64 c.i1, .int .i64 c.b0, .int .i64 c.b1, .int .i64 c.h0, .int .i64 c.h1] 47
  rw [show (w.alloc (.cells #[g.iV, g.nV, g.oV, pV, s0, s1, s2] 30)).heap.size = w.heap.size + 1 from by simp] at hb1
  replace hb0 := hb0.ext hE2
  have h1 := hE1.trans hE2
  clear hE1 hE2
  go_enter Try.func27, Try.ntmps27
  go_upto_region 1 with fail
  generalize World.alloc (World.alloc w _) _ = w1 at *
  have q0 : World.cell? w1 ⟨w.heap.size, 0, none⟩ = some g.iV := hb0.cell 0
  have q1 : World.cell? w1 ⟨w.heap.size, 1, none⟩ = some g.nV := hb0.cell 1
  have q2 : World.cell? w1 ⟨w.heap.size, 2, none⟩ = some g.oV := hb0.cell 2
  replace hvc := hvc _ h1
  generalize w.heap.size = b2 at *
  obtain ⟨vr, hvr⟩ : ∃ vr, valuesR g = vr := ⟨_, rfl⟩
  rw [hvr] at hvc HOF hvok hv0
  unfold ValsPost at hvc
  replace hvok := hvok hv0
  go_wp2_with fail
  refine hvc.mono ?_
  rintro e w2 ⟨hA, _, hE2⟩
  obtain ⟨vV, rfl, hown⟩ := hA hv0
  have h2 := h1.trans hE2
  replace hb0 := hb0.ext hE2
  replace hb1 := hb1.ext hE2
  have hvls := row_of_own hown
  clear q0 q1 q2 hE2 hA hvc hown
  have HOF2 := HOF.out
  rw [if_neg (show ¬ (vr.2 ≠ 0) from fun h => h hv0)] at HOF2
  obtain ⟨vs, z⟩ := vr
  simp only at hv0 hvok HOF2 hvls
  subst hv0
  replace HOF := Lib.hid HOF2
  clear HOF2 hvr h1
  replace hvls : Vls w2 vV vs := hvls
  obtain ⟨Av, cv, ev, hv1, hv2, hvcl⟩ := id hvls.form
  unfold maxLen at hv2
  have HVCL := Lib.hid hvcl
  clear hvcl
  subst ev
  have hme : Isa.mayE c = 1 := by unfold Isa.mayE; rw [if_neg (by rw [hm]; simp)]
  rw [hme] at hmay
  have HV : Hid (ofR g pl c = ([], 1)) := by show _ = _; rw [HOF.out, if_pos (Or.inl hm)]
  clear hme hm HOF
  have p0 : World.cell? w2 ⟨b2 + 1, 0, none⟩ = some (.int .i64 c.k) := hb1.cell 0
  have p1 : World.cell? w2 ⟨b2 + 1, 1, none⟩ = some (.int .i64 c.s) := hb1.cell 1
  have p2 : World.cell? w2 ⟨b2 + 1, 2, none⟩ = some (.int .i64 c.n) := hb1.cell 2
  have p3 : World.cell? w2 ⟨b2 + 1, 3, none⟩ = some (.int .i64 c.f) := hb1.cell 3
  have p4 : World.cell? w2 ⟨b2 + 1, 4, none⟩ = some (.int .i64 c.r) := hb1.cell 4
  have p5 : World.cell? w2 ⟨b2 + 1, 5, none⟩ = some (.int .i64 c.o) := hb1.cell 5
  have p6 : World.cell? w2 ⟨b2 + 1, 6, none⟩ = some (.int .i64 c.d) := hb1.cell 6
  have p7 : World.cell? w2 ⟨b2 + 1, 7, none⟩ = some (.int .i64 c.p) := hb1.cell 7
  have p8 : World.cell? w2 ⟨b2 + 1, 8, none⟩ = some (.int .i64 c.i0) := hb1.cell 8
  have p9 : World.cell? w2 ⟨b2 + 1, 9, none⟩ = some (.int .i64 c.i1) := hb1.cell 9
  have p10 : World.cell? w2 ⟨b2 + 1, 10, none⟩ = some (.int .i64 c.b0) := hb1.cell 10
  have p11 : World.cell? w2 ⟨b2 + 1, 11, none⟩ = some (.int .i64 c.b1) := hb1.cell 11
  have p12 : World.cell? w2 ⟨b2 + 1, 12, none⟩ = some (.int .i64 c.h0) := hb1.cell 12
  have p13 : World.cell? w2 ⟨b2 + 1, 13, none⟩ = some (.int .i64 c.h1) := hb1.cell 13
  go_wp2_with fail
  refine (hmay _).mono ?_
  rintro e w3 ⟨rfl, hE3⟩
  have h3 := h2.trans hE3
  clear hmay
  go_wp2_with fail
  exact HE.out _ _ _ HV.out rfl h3

set_option maxRecDepth 20000 in
set_option maxHeartbeats 12800000 in
theorem rOf_len (g : Gr) (pV s0 s1 s2 : Value) (pl : List Int) (c : Isa.Cm) (w : World) (hg : GrAt w g) (hp : Ints .i64 w pV pl) (hv0 : (valuesR g).2 = 0) (hm : Isa.mayB c = true) (hl : pl.length ≠ (valuesR g).1.length) :
    Calls Try.prog 27 #[.agg #[g.iV, g.nV, g.oV, pV, s0, s1, s2], .agg #[.int .i64 c.k, .int .i64 c.s, .int .i64 c.n, .int .i64 c.f, .int .i64 c.r, .int .i64 c.o, .int .i64 c.d, .int .i64 c.p, .int .i64 c.i0, .int .i64 c.i1, .int .i64 c.b0, .int .i64 c.b1, .int .i64 c.h0, .int .i64 c.h1]] w (OfPost (ofR g pl c) w) := by
  have HOF : Hid (ofR g pl c = (if (valuesR g).2 ≠ 0 then ([], (valuesR g).2) else
    if Isa.mayB c = false ∨ pl.length ≠ (valuesR g).1.length then ([], 1) else
    if (c.k = 3 ∨ c.k = 4) ∧ (g.nodes.length ≤ c.n ∨ rowsOk c ((valuesR g).1[g.ins.length + c.n.toNat]?.getD default).s = false) then ([], 27) else
    ofR.lookSp (if c.k = 3 ∨ c.k = 4 then nodeSp (valuesR g).1 pl c ((g.nodes[c.n.toNat]?.map Nd.ins).getD []) (g.ins.length + c.n.toNat) else moveSp c))) := rfl
  have HP : Hid (∀ e w', (∃ v, e = .returned (.tuple #[v, .int .i64 (ofR g pl c).2]) ∧ Spans w' v (ofR g pl c).1 ∧ Ext w w') → OfPost (ofR g pl c) w e w') := fun e w' h => h
  generalize OfPost (ofR g pl c) w = PP at *
  have HE : Hid (∀ e w' z, ofR g pl c = ([], z) → e = .returned (.tuple #[.slice none 0 0, .int .i64 z]) → Ext w w' → PP e w') := fun e w' z h1 h2 h3 => HP.out e w' ⟨.slice none 0 0, by rw [h1]; exact h2, by rw [h1]; exact spans_nil _, h3⟩
  obtain ⟨Ap, cp, ep, hp1, hp2, hpcl⟩ := id hp.form
  unfold maxLen at hp2
  have EP := Lib.hid ep
  have HPCL := Lib.hid hpcl
  clear ep hpcl
  have hvok := fun h => vals_ok (g := g) h
  have hvc := fun W (h : Ext w W) => rvalues_calls g W (hg.ext h)
  have hmay := fun W => Isa.refMay_calls c W
  unfold Isa.Cm.v at hmay
  have hb0 := Blk.new w #[g.iV, g.nV, g.oV, pV, s0, s1, s2] 30
  have hE1 := ext_alloc w (.cells #[g.iV, g.nV, g.oV, pV, s0, s1, s2] 30)
  have hE2 := ext_alloc (w.alloc (.cells #[g.iV, g.nV, g.oV, pV, s0, s1, s2] 30)) (.cells #[.int .i64 c.k, .int .i64 c.s, .int .i64 c.n, .int .i64 c.f, .int .i64 c.r, .int .i64 c.o, .int .i64 c.d, .int .i64 c.p, .int .i64 c.i0, .int .i64 c.i1, .int .i64 c.b0, .int .i64 c.b1, .int .i64 c.h0, .int .i64 c.h1] 47)
  have hb1 := Blk.new (w.alloc (.cells #[g.iV, g.nV, g.oV, pV, s0, s1, s2] 30)) #[.int .i64 c.k, .int .i64 c.s, .int .i64 c.n, .int .i64 c.f, .int .i64 c.r, .int .i64 c.o, .int .i64 c.d, .int .i64 c.p, .int .i64 c.i0, .int .i64 c.i1, .int .i64 c.b0, .int .i64 c.b1, .int .i64 c.h0, .int .i64 c.h1] 47
  rw [show (w.alloc (.cells #[g.iV, g.nV, g.oV, pV, s0, s1, s2] 30)).heap.size = w.heap.size + 1 from by simp] at hb1
  replace hb0 := hb0.ext hE2
  have h1 := hE1.trans hE2
  clear hE1 hE2
  go_enter Try.func27, Try.ntmps27
  go_upto_region 1 with fail
  generalize World.alloc (World.alloc w _) _ = w1 at *
  have q0 : World.cell? w1 ⟨w.heap.size, 0, none⟩ = some g.iV := hb0.cell 0
  have q1 : World.cell? w1 ⟨w.heap.size, 1, none⟩ = some g.nV := hb0.cell 1
  have q2 : World.cell? w1 ⟨w.heap.size, 2, none⟩ = some g.oV := hb0.cell 2
  replace hvc := hvc _ h1
  generalize w.heap.size = b2 at *
  obtain ⟨vr, hvr⟩ : ∃ vr, valuesR g = vr := ⟨_, rfl⟩
  rw [hvr] at hvc HOF hvok hv0 hl
  unfold ValsPost at hvc
  replace hvok := hvok hv0
  go_wp2_with fail
  refine hvc.mono ?_
  rintro e w2 ⟨hA, _, hE2⟩
  obtain ⟨vV, rfl, hown⟩ := hA hv0
  have h2 := h1.trans hE2
  replace hb0 := hb0.ext hE2
  replace hb1 := hb1.ext hE2
  have hvls := row_of_own hown
  clear q0 q1 q2 hE2 hA hvc hown
  have HOF2 := HOF.out
  rw [if_neg (show ¬ (vr.2 ≠ 0) from fun h => h hv0)] at HOF2
  obtain ⟨vs, z⟩ := vr
  simp only at hv0 hvok HOF2 hvls hl
  subst hv0
  replace HOF := Lib.hid HOF2
  clear HOF2 hvr h1
  replace hvls : Vls w2 vV vs := hvls
  obtain ⟨Av, cv, ev, hv1, hv2, hvcl⟩ := id hvls.form
  unfold maxLen at hv2
  have HVCL := Lib.hid hvcl
  clear hvcl
  subst ev
  have hme : Isa.mayE c = 0 := by unfold Isa.mayE; rw [if_pos hm]
  rw [hme] at hmay
  have HM := Lib.hid hm
  clear hme hm
  have p0 : World.cell? w2 ⟨b2 + 1, 0, none⟩ = some (.int .i64 c.k) := hb1.cell 0
  have p1 : World.cell? w2 ⟨b2 + 1, 1, none⟩ = some (.int .i64 c.s) := hb1.cell 1
  have p2 : World.cell? w2 ⟨b2 + 1, 2, none⟩ = some (.int .i64 c.n) := hb1.cell 2
  have p3 : World.cell? w2 ⟨b2 + 1, 3, none⟩ = some (.int .i64 c.f) := hb1.cell 3
  have p4 : World.cell? w2 ⟨b2 + 1, 4, none⟩ = some (.int .i64 c.r) := hb1.cell 4
  have p5 : World.cell? w2 ⟨b2 + 1, 5, none⟩ = some (.int .i64 c.o) := hb1.cell 5
  have p6 : World.cell? w2 ⟨b2 + 1, 6, none⟩ = some (.int .i64 c.d) := hb1.cell 6
  have p7 : World.cell? w2 ⟨b2 + 1, 7, none⟩ = some (.int .i64 c.p) := hb1.cell 7
  have p8 : World.cell? w2 ⟨b2 + 1, 8, none⟩ = some (.int .i64 c.i0) := hb1.cell 8
  have p9 : World.cell? w2 ⟨b2 + 1, 9, none⟩ = some (.int .i64 c.i1) := hb1.cell 9
  have p10 : World.cell? w2 ⟨b2 + 1, 10, none⟩ = some (.int .i64 c.b0) := hb1.cell 10
  have p11 : World.cell? w2 ⟨b2 + 1, 11, none⟩ = some (.int .i64 c.b1) := hb1.cell 11
  have p12 : World.cell? w2 ⟨b2 + 1, 12, none⟩ = some (.int .i64 c.h0) := hb1.cell 12
  have p13 : World.cell? w2 ⟨b2 + 1, 13, none⟩ = some (.int .i64 c.h1) := hb1.cell 13
  have q3 : World.cell? w2 ⟨b2, 3, none⟩ = some (.slice Ap pl.length cp) := by rw [← EP.out]; exact hb0.cell 3
  go_wp2_with fail
  refine (hmay _).mono ?_
  rintro e w3 ⟨rfl, hE3⟩
  have hE3 : Ext w2 w3 := hE3
  clear p0 p1 p2 p3 p4 p5 p6 p7 p8 p9 p10 p11 p12 p13 hmay
  replace q3 : World.cell? w3 ⟨b2, 3, none⟩ = some (.slice Ap pl.length cp) := cell_ext q3 _ hE3
  have h3 := h2.trans hE3
  replace hb0 := hb0.ext hE3
  replace hb1 := hb1.ext hE3
  replace hvls := hvls.ext hE3
  have hln : ((pl.length : Int) != (vs.length : Int)) = true := by rw [bne_iff_ne]; exact_mod_cast hl
  have HV : Hid (ofR g pl c = ([], 1)) := by show _ = _; rw [HOF.out, if_pos (Or.inr hl)]
  clear HOF hl
  go_wp2_with fail
  exact HE.out _ _ _ HV.out rfl h3

set_option maxRecDepth 20000 in
set_option maxHeartbeats 12800000 in
theorem rOf_index (g : Gr) (pV s0 s1 s2 : Value) (pl : List Int) (c : Isa.Cm) (w : World) (hg : GrAt w g) (hp : Ints .i64 w pV pl) (hv0 : (valuesR g).2 = 0) (hm : Isa.mayB c = true) (hl : pl.length = (valuesR g).1.length) (h34 : c.k = 3 ∨ c.k = 4) (hn : (g.nodes.length : Int) ≤ c.n) :
    Calls Try.prog 27 #[.agg #[g.iV, g.nV, g.oV, pV, s0, s1, s2], .agg #[.int .i64 c.k, .int .i64 c.s, .int .i64 c.n, .int .i64 c.f, .int .i64 c.r, .int .i64 c.o, .int .i64 c.d, .int .i64 c.p, .int .i64 c.i0, .int .i64 c.i1, .int .i64 c.b0, .int .i64 c.b1, .int .i64 c.h0, .int .i64 c.h1]] w (OfPost (ofR g pl c) w) := by
  have HOF : Hid (ofR g pl c = (if (valuesR g).2 ≠ 0 then ([], (valuesR g).2) else
    if Isa.mayB c = false ∨ pl.length ≠ (valuesR g).1.length then ([], 1) else
    if (c.k = 3 ∨ c.k = 4) ∧ (g.nodes.length ≤ c.n ∨ rowsOk c ((valuesR g).1[g.ins.length + c.n.toNat]?.getD default).s = false) then ([], 27) else
    ofR.lookSp (if c.k = 3 ∨ c.k = 4 then nodeSp (valuesR g).1 pl c ((g.nodes[c.n.toNat]?.map Nd.ins).getD []) (g.ins.length + c.n.toNat) else moveSp c))) := rfl
  have HP : Hid (∀ e w', (∃ v, e = .returned (.tuple #[v, .int .i64 (ofR g pl c).2]) ∧ Spans w' v (ofR g pl c).1 ∧ Ext w w') → OfPost (ofR g pl c) w e w') := fun e w' h => h
  generalize OfPost (ofR g pl c) w = PP at *
  have HE : Hid (∀ e w' z, ofR g pl c = ([], z) → e = .returned (.tuple #[.slice none 0 0, .int .i64 z]) → Ext w w' → PP e w') := fun e w' z h1 h2 h3 => HP.out e w' ⟨.slice none 0 0, by rw [h1]; exact h2, by rw [h1]; exact spans_nil _, h3⟩
  obtain ⟨Ap, cp, ep, hp1, hp2, hpcl⟩ := id hp.form
  unfold maxLen at hp2
  have EP := Lib.hid ep
  have HPCL := Lib.hid hpcl
  clear ep hpcl
  have hvok := fun h => vals_ok (g := g) h
  have hvc := fun W (h : Ext w W) => rvalues_calls g W (hg.ext h)
  have hmay := fun W => Isa.refMay_calls c W
  unfold Isa.Cm.v at hmay
  have hb0 := Blk.new w #[g.iV, g.nV, g.oV, pV, s0, s1, s2] 30
  have hE1 := ext_alloc w (.cells #[g.iV, g.nV, g.oV, pV, s0, s1, s2] 30)
  have hE2 := ext_alloc (w.alloc (.cells #[g.iV, g.nV, g.oV, pV, s0, s1, s2] 30)) (.cells #[.int .i64 c.k, .int .i64 c.s, .int .i64 c.n, .int .i64 c.f, .int .i64 c.r, .int .i64 c.o, .int .i64 c.d, .int .i64 c.p, .int .i64 c.i0, .int .i64 c.i1, .int .i64 c.b0, .int .i64 c.b1, .int .i64 c.h0, .int .i64 c.h1] 47)
  have hb1 := Blk.new (w.alloc (.cells #[g.iV, g.nV, g.oV, pV, s0, s1, s2] 30)) #[.int .i64 c.k, .int .i64 c.s, .int .i64 c.n, .int .i64 c.f, .int .i64 c.r, .int .i64 c.o, .int .i64 c.d, .int .i64 c.p, .int .i64 c.i0, .int .i64 c.i1, .int .i64 c.b0, .int .i64 c.b1, .int .i64 c.h0, .int .i64 c.h1] 47
  rw [show (w.alloc (.cells #[g.iV, g.nV, g.oV, pV, s0, s1, s2] 30)).heap.size = w.heap.size + 1 from by simp] at hb1
  replace hb0 := hb0.ext hE2
  have h1 := hE1.trans hE2
  clear hE1 hE2
  go_enter Try.func27, Try.ntmps27
  go_upto_region 1 with fail
  generalize World.alloc (World.alloc w _) _ = w1 at *
  have q0 : World.cell? w1 ⟨w.heap.size, 0, none⟩ = some g.iV := hb0.cell 0
  have q1 : World.cell? w1 ⟨w.heap.size, 1, none⟩ = some g.nV := hb0.cell 1
  have q2 : World.cell? w1 ⟨w.heap.size, 2, none⟩ = some g.oV := hb0.cell 2
  replace hvc := hvc _ h1
  generalize w.heap.size = b2 at *
  obtain ⟨vr, hvr⟩ : ∃ vr, valuesR g = vr := ⟨_, rfl⟩
  rw [hvr] at hvc HOF hvok hv0 hl
  unfold ValsPost at hvc
  replace hvok := hvok hv0
  go_wp2_with fail
  refine hvc.mono ?_
  rintro e w2 ⟨hA, _, hE2⟩
  obtain ⟨vV, rfl, hown⟩ := hA hv0
  have h2 := h1.trans hE2
  replace hb0 := hb0.ext hE2
  replace hb1 := hb1.ext hE2
  have hvls := row_of_own hown
  clear q0 q1 q2 hE2 hA hvc hown
  have HOF2 := HOF.out
  rw [if_neg (show ¬ (vr.2 ≠ 0) from fun h => h hv0)] at HOF2
  obtain ⟨vs, z⟩ := vr
  simp only at hv0 hvok HOF2 hvls hl
  subst hv0
  replace HOF := Lib.hid HOF2
  clear HOF2 hvr h1
  replace hvls : Vls w2 vV vs := hvls
  obtain ⟨Av, cv, ev, hv1, hv2, hvcl⟩ := id hvls.form
  unfold maxLen at hv2
  have HVCL := Lib.hid hvcl
  clear hvcl
  subst ev
  have hme : Isa.mayE c = 0 := by unfold Isa.mayE; rw [if_pos hm]
  rw [hme] at hmay
  have HM := Lib.hid hm
  clear hme hm
  have p0 : World.cell? w2 ⟨b2 + 1, 0, none⟩ = some (.int .i64 c.k) := hb1.cell 0
  have p1 : World.cell? w2 ⟨b2 + 1, 1, none⟩ = some (.int .i64 c.s) := hb1.cell 1
  have p2 : World.cell? w2 ⟨b2 + 1, 2, none⟩ = some (.int .i64 c.n) := hb1.cell 2
  have p3 : World.cell? w2 ⟨b2 + 1, 3, none⟩ = some (.int .i64 c.f) := hb1.cell 3
  have p4 : World.cell? w2 ⟨b2 + 1, 4, none⟩ = some (.int .i64 c.r) := hb1.cell 4
  have p5 : World.cell? w2 ⟨b2 + 1, 5, none⟩ = some (.int .i64 c.o) := hb1.cell 5
  have p6 : World.cell? w2 ⟨b2 + 1, 6, none⟩ = some (.int .i64 c.d) := hb1.cell 6
  have p7 : World.cell? w2 ⟨b2 + 1, 7, none⟩ = some (.int .i64 c.p) := hb1.cell 7
  have p8 : World.cell? w2 ⟨b2 + 1, 8, none⟩ = some (.int .i64 c.i0) := hb1.cell 8
  have p9 : World.cell? w2 ⟨b2 + 1, 9, none⟩ = some (.int .i64 c.i1) := hb1.cell 9
  have p10 : World.cell? w2 ⟨b2 + 1, 10, none⟩ = some (.int .i64 c.b0) := hb1.cell 10
  have p11 : World.cell? w2 ⟨b2 + 1, 11, none⟩ = some (.int .i64 c.b1) := hb1.cell 11
  have p12 : World.cell? w2 ⟨b2 + 1, 12, none⟩ = some (.int .i64 c.h0) := hb1.cell 12
  have p13 : World.cell? w2 ⟨b2 + 1, 13, none⟩ = some (.int .i64 c.h1) := hb1.cell 13
  have q3 : World.cell? w2 ⟨b2, 3, none⟩ = some (.slice Ap pl.length cp) := by rw [← EP.out]; exact hb0.cell 3
  go_wp2_with fail
  refine (hmay _).mono ?_
  rintro e w3 ⟨rfl, hE3⟩
  have hE3 : Ext w2 w3 := hE3
  clear p0 p1 p2 p3 p4 p5 p6 p7 p8 p9 p10 p11 p12 p13 hmay
  replace q3 : World.cell? w3 ⟨b2, 3, none⟩ = some (.slice Ap pl.length cp) := cell_ext q3 _ hE3
  have h3 := h2.trans hE3
  replace hb0 := hb0.ext hE3
  replace hb1 := hb1.ext hE3
  replace hvls := hvls.ext hE3
  clear hE3 h2
  have hln : ((pl.length : Int) != (vs.length : Int)) = false := by rw [bne_eq_false_iff_eq]; exact_mod_cast hl
  have HOF2 := HOF.out
  rw [if_neg (show ¬ (Isa.mayB c = false ∨ pl.length ≠ vs.length) by rw [HM.out]; simp [hl])] at HOF2
  replace HOF := Lib.hid HOF2
  have HL := Lib.hid hl
  clear HOF2 hl
  obtain ⟨An, cn, en, hn1, hn2, hncl⟩ := id (SRow.form hg.nodes (fun _ => rfl) (by omega))
  unfold maxLen at hn2
  have EN := Lib.hid en
  have HNCL := Lib.hid hncl
  clear en hncl
  have g0 : World.cell? w3 ⟨b2, 0, none⟩ = some g.iV := hb0.cell 0
  have g1 : World.cell? w3 ⟨b2, 1, none⟩ = some g.nV := hb0.cell 1
  have g2 : World.cell? w3 ⟨b2, 2, none⟩ = some g.oV := hb0.cell 2
  have hone : Array.all #[g.iV, g.nV, g.oV] (·.oneCell') = true := (hg.ext h3).oneG
  have HO := Lib.hid hone
  have hz := Blk.new w3 #[.slice none 0 0, .slice none 0 0, .slice none 0 0] 26
  have hb8 : Blk ((w3.alloc (.cells #[.slice none 0 0, .slice none 0 0, .slice none 0 0] 26)).setRow w3.heap.size #[g.iV, g.nV, g.oV]) w3.heap.size #[g.iV, g.nV, g.oV] 26 := setRow_heap _ _ _ _ _ _ hz
  have hQ : Ext w3 ((w3.alloc (.cells #[.slice none 0 0, .slice none 0 0, .slice none 0 0] 26)).setRow w3.heap.size #[g.iV, g.nV, g.oV]) := ext_setRow (ext_alloc _ _) _ (Nat.le_refl _)
  have h4 := h3.trans hQ
  replace hb0 := hb0.ext hQ
  replace hb1 := hb1.ext hQ
  replace hvls := hvls.ext hQ
  clear hone hQ
  go_upto_region 7 with (refine wpList_store_row rfl 26 _ _ rfl w3.heap.size #[g.iV, g.nV, g.oV] rfl rfl 26 _ hz (by kernel_rfl) rfl HO.out ?_)
  clear g0 g1 g2 hz HO q3 hln h3
  generalize World.setRow (World.alloc w3 _) _ _ = w0 at *
  generalize w3.heap.size = b8 at *
  have p0 : World.cell? w0 ⟨b2 + 1, 0, none⟩ = some (.int .i64 c.k) := hb1.cell 0
  have p2 : World.cell? w0 ⟨b2 + 1, 2, none⟩ = some (.int .i64 c.n) := hb1.cell 2
  have g1 : World.cell? w0 ⟨b8, 1, none⟩ = some (.slice An g.nodes.length cn) := by rw [← EN.out]; exact hb8.cell 1
  have HV : Hid (ofR g pl c = ([], 27)) := by show _ = _; rw [HOF.out, if_pos ⟨h34, Or.inl hn⟩]
  clear HOF
  rcases h34 with h | h
  · have k3 : (c.k == 3) = true := by rw [beq_iff_eq]; exact h
    clear h
    go_wp2_with fail
    exact HE.out _ _ _ HV.out rfl h4
  · have k3 : (c.k == 3) = false := by rw [beq_eq_false_iff_ne]; omega
    have k4 : (c.k == 4) = true := by rw [beq_iff_eq]; exact h
    clear h
    go_wp2_with fail
    exact HE.out _ _ _ HV.out rfl h4

end Go.Proofs.Ytmddlhfahfelpaa
