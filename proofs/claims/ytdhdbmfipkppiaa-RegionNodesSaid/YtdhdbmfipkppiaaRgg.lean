/- The walks of the reference's May of spans, of the example and of Engine (printed from RegN and RegS). -/
/- The reference's span and Made; lists of spans in a row. -/
/- The walk of the reference's Of: what is refused, loads and stores. -/
import Derived.Test.YtdhdbmfipkppiaaRegM
import Derived.Test.YtdhdbmfipkppiaaRge
import Derived.Test.YtdhdbmfipkppiaaRfj
import Derived.Test.YtdhdbmfipkppiaaNsaH
namespace Go.Proofs.Ytdhdbmfipkppiaa
set_option linter.unusedSimpArgs false
set_option linter.unusedVariables false
set_option linter.unnecessarySimpa false
open Go.RowKit

set_option maxHeartbeats 800000 in
theorem refMay_calls (s : Sp) (w : World) : Calls Try.prog 74 #[s.v] w fun e w' => e = .returned (.int .i64 (mayE s)) ∧ Below w.heap.size w w' := by
  have HM : Hid (mayE s = if s.mem < 0 ∨ 2 ≤ s.mem then 1 else if s.frm < 0 ∨ s.to < s.frm ∨ memTop s.mem < s.to then 23 else 0) := rfl
  have hb1 : ∀ o, Below w.heap.size w (w.alloc o) := fun o => below_alloc (Below.refl _ _) (Nat.le_refl _) _
  obtain ⟨m, f, t, p⟩ := s
  simp only at HM
  generalize mayE ⟨m, f, t, p⟩ = r at *
  unfold Sp.v
  go_enter Try.func74, Try.ntmps74
  by_cases h1 : m < 0 ∨ 2 ≤ m
  · have HR : Hid (r = 1) := by show _ = _; rw [HM.out, if_pos h1]
    have n0 : m ≠ 0 := by omega
    have n1 : m ≠ 1 := by omega
    have q0 : (m != 0) = true := by simpa using n0
    have q1 : (m != 1) = true := by simpa using n1
    have q2 : (m == 1) = false := by simpa using n1
    go_wp2
    all_goals
      go_ret
      first | exact ⟨ret_int HR.out.symm, hb1 _⟩ | (exfalso; omega)
  · have hm : m = 0 ∨ m = 1 := by omega
    rcases hm with rfl | rfl
    · have HM : Hid (r = if f < 0 ∨ t < f ∨ 65536 < t then 23 else 0) := by
        have h := HM.out
        rw [if_neg h1] at h
        exact h
      clear h1
      go_wp2
      all_goals
        go_ret
        refine ⟨ret_int ?_, hb1 _⟩
        rw [HM.out]
        first | rw [if_pos (by omega)] | rw [if_neg (by omega)]
    · have HM : Hid (r = if f < 0 ∨ t < f ∨ 1024 < t then 23 else 0) := by
        have h := HM.out
        rw [if_neg h1] at h
        exact h
      clear h1
      go_wp2
      all_goals
        go_ret
        refine ⟨ret_int ?_, hb1 _⟩
        rw [HM.out]
        first | rw [if_pos (by omega)] | rw [if_neg (by omega)]

/-- A row of one span that has just been laid. -/
theorem one_span (w : World) (s : Sp) : Spans (w.alloc (.cells #[.int .i64 s.mem, .int .i64 s.frm, .int .i64 s.to, .bool s.wr] 70)) (.slice (some ⟨w.heap.size, 0, none⟩) 1 1) [s] :=
  row_new w _ _ 1 4 rfl (by decide)

set_option maxHeartbeats 800000 in
theorem engine3_calls (w : World) : Calls Try.prog 29 #[.agg #[.int .i64 3, .int .i64 0, .int .i64 0, .int .i64 0, .int .i64 0, .int .i64 0, .int .i64 0, .int .i64 0, .int .i64 0, .int .i64 0, .int .i64 0, .int .i64 0, .int .i64 0, .int .i64 0]] w
    fun e w' => e = .returned (.int .i64 1) ∧ Below w.heap.size w w' := by
  have hb1 : ∀ o, Below w.heap.size w (w.alloc o) := fun o => below_alloc (Below.refl _ _) (Nat.le_refl _) _
  go_enter Try.func29, Try.ntmps29
  go_wp2
  go_ret
  exact ⟨rfl, hb1 _⟩

set_option maxHeartbeats 800000 in
theorem shown12_calls (w : World) : Calls Try.prog 24 #[] w fun e w' => e = .returned (.bool true) ∧ Below w.heap.size w w' := by
  have hb1 : ∀ o, Below w.heap.size w (w.alloc o) := fun o => below_alloc (Below.refl _ _) (Nat.le_refl _) _
  have s1 := one_span w ⟨0, 0, 4, false⟩
  have s2 := one_span (w.alloc (.cells #[.int .i64 0, .int .i64 0, .int .i64 4, .bool false] 70)) ⟨0, 3, 5, true⟩
  rw [show (w.alloc (.cells #[.int .i64 0, .int .i64 0, .int .i64 4, .bool false] 70)).heap.size = w.heap.size + 1 from by simp] at s2
  have s1 := s1.below (below_alloc (Below.refl _ _) (Nat.le_refl _) (.cells #[.int .i64 0, .int .i64 3, .int .i64 5, .bool true] 70))
  have hb2 := below_alloc (hb1 (.cells #[.int .i64 0, .int .i64 0, .int .i64 4, .bool false] 70)) (by simp) (.cells #[.int .i64 0, .int .i64 3, .int .i64 5, .bool true] 70)
  go_enter Try.func24, Try.ntmps24
  go_wp2_with fail
  refine (clash_calls _ _ _ _ _ s1 s2).mono ?_
  rintro e w1 ⟨rfl, hE1⟩
  have s1 := s1.below hE1
  have hE1 := hb2.trans (hE1.mono hb2.size)
  rw [show clashB [⟨0, 0, 4, false⟩] [⟨0, 3, 5, true⟩] = true from by decide]
  go_wp2_with fail
  refine (clash_calls _ _ _ _ _ s1 s1).mono ?_
  rintro e w2 ⟨rfl, hE2⟩
  have hE2 := hE1.trans (hE2.mono hE1.size)
  rw [show clashB [⟨0, 0, 4, false⟩] [⟨0, 0, 4, false⟩] = false from by decide]
  go_wp2_with fail
  refine (engine3_calls _).mono ?_
  rintro e w3 ⟨rfl, hE3⟩
  have hE3 := hE2.trans (hE3.mono hE2.size)
  go_wp2_with fail
  go_ret
  exact ⟨rfl, hE3⟩

end Go.Proofs.Ytdhdbmfipkppiaa

namespace Go.Proofs.Ytdhdbmfipkppiaa
set_option linter.unusedSimpArgs false
set_option linter.unusedVariables false
set_option linter.unnecessarySimpa false
open Go.RowKit

set_option maxHeartbeats 1600000 in
theorem span_calls (m f n : Int) (wr : Bool) (w : World) : Calls Try.prog 72 #[.int .i64 m, .int .i64 f, .int .i64 n, .bool wr] w fun e w' => e = .returned (.agg #[.int .i64 (spz m f n wr).mem, .int .i64 (spz m f n wr).frm, .int .i64 (spz m f n wr).to, .bool (spz m f n wr).wr]) ∧ Ext w w' := by
  have HS : Hid (spz m f n wr = ⟨m, f, IntKind.i64.wrap (f + n), wr⟩) := rfl
  generalize spz m f n wr = sp at *
  have hz := Blk.new w #[.int .i64 0, .int .i64 0, .int .i64 0, .bool false] 70
  obtain ⟨x, hx⟩ : ∃ x, IntKind.i64.wrap (f + n) = x := ⟨_, rfl⟩
  rw [hx] at HS
  have hE := ext_setRow (ext_alloc w (.cells #[.int .i64 0, .int .i64 0, .int .i64 0, .bool false] 70)) #[.int .i64 m, .int .i64 f, .int .i64 x, .bool wr] (Nat.le_refl _)
  go_enter Try.func72, Try.ntmps72
  go_wp2_with (refine wpList_store_row rfl 70 _ _ rfl w.heap.size #[.int .i64 m, .int .i64 f, .int .i64 x, .bool wr] rfl rfl 70 _ hz (by kernel_rfl) rfl (by simp [Value.oneCell']) ?_)
  refine bodyPost_ret (v := .agg _) (results_cell_row Try.results72 _ _ w.heap.size 70 _ (0, 0) _ rfl (setRow_heap _ _ _ _ _ _ hz) (by kernel_rfl : Try.prog.underlying 70 = some (.struct (Try.prog.fieldsOf 70))) rfl (by kernel_rfl)) rfl ?_
  exact ⟨by rw [HS.out], hE⟩

set_option maxHeartbeats 1600000 in
theorem made12_calls (g : Gr) (vV : Value) (vs : List Vl) (n : Nat) (w : World) (hg : GrAt w g) (hv : Vls w vV vs) (hn : g.ins.length + n < vs.length) (hl : vs.length ≤ 1000) :
    Calls Try.prog 73 #[vV, .agg #[g.iV, g.nV, g.oV], .int .i64 (n : Int)] w fun e w' => e = .returned (.agg #[.int .i64 (vs[g.ins.length + n]?.getD default).s.h, .int .i64 (vs[g.ins.length + n]?.getD default).s.w, .int .i64 (vs[g.ins.length + n]?.getD default).s.c]) ∧ Ext w w' := by
  have hil := hg.il
  obtain ⟨Ai, ci, ei, hi1, hi2, _⟩ := id hg.ins.form
  obtain ⟨Av, cv, ev, hv1, hv2, hvc⟩ := id hv.form
  unfold maxLen at hi2 hv2
  have hsv : vs[g.ins.length + n]? = some vs[g.ins.length + n] := by simp [hn]
  obtain ⟨bv, offv, rfl, hbv, hvc⟩ := hvc _ _ hsv
  rw [hsv]
  simp only [Option.getD_some]
  generalize vs[g.ins.length + n] = xv at *
  obtain ⟨tt, htt⟩ : ∃ tt, g.ins.length + n = tt := ⟨_, rfl⟩
  rw [htt] at hn hsv hvc
  have hzz : (g.ins.length : Int) + (n : Int) = (tt : Int) := by omega
  subst ev
  have hE1 := ext_alloc w (.cells #[g.iV, g.nV, g.oV] 26)
  have hE2 := ext_alloc (w.alloc (.cells #[g.iV, g.nV, g.oV] 26)) (.cells #[.int .i64 0, .int .i64 0, .int .i64 0] 36)
  have hb1 := (Blk.new w #[g.iV, g.nV, g.oV] 26).ext hE2
  have hz := Blk.new (w.alloc (.cells #[g.iV, g.nV, g.oV] 26)) #[.int .i64 0, .int .i64 0, .int .i64 0] 36
  rw [show (w.alloc (.cells #[g.iV, g.nV, g.oV] 26)).heap.size = w.heap.size + 1 from by simp] at hz
  have h2 := hE1.trans hE2
  have EI := Lib.hid ei
  clear ei hE1 hE2 hsv
  go_enter Try.func73, Try.ntmps73
  go_upto_region 1 with fail
  generalize World.alloc (World.alloc w _) _ = w1 at *
  have g0 : World.cell? w1 ⟨w.heap.size, 0, none⟩ = some (.slice Ai g.ins.length ci) := by rw [← EI.out]; exact hb1.cell 0
  have x0 : World.cell? w1 ⟨bv, offv + tt * 4, none⟩ = some (.int .i64 xv.s.h) := cell_ext (hvc 0 _ rfl) _ h2
  have x1 : World.cell? w1 ⟨bv, offv + tt * 4 + 1, none⟩ = some (.int .i64 xv.s.w) := cell_ext (hvc 1 _ rfl) _ h2
  have x2 : World.cell? w1 ⟨bv, offv + tt * 4 + 2, none⟩ = some (.int .i64 xv.s.c) := cell_ext (hvc 2 _ rfl) _ h2
  have hE := ext_setRow h2 #[.int .i64 xv.s.h, .int .i64 xv.s.w, .int .i64 xv.s.c] (show w.heap.size ≤ w.heap.size + 1 by omega)
  clear hvc hv hg hb1
  go_wp2_with (refine wpList_store_row rfl 36 _ _ rfl (w.heap.size + 1) #[.int .i64 xv.s.h, .int .i64 xv.s.w, .int .i64 xv.s.c] rfl rfl 36 _ hz (by kernel_rfl) rfl (shape_one xv.s) ?_)
  refine bodyPost_ret (v := .agg _) (results_cell_row Try.results73 _ _ (w.heap.size + 1) 36 _ (0, 0) _ rfl (setRow_heap _ _ _ _ _ _ hz) (by kernel_rfl : Try.prog.underlying 36 = some (.struct (Try.prog.fieldsOf 36))) rfl (by kernel_rfl)) rfl ?_
  exact ⟨rfl, hE⟩

/-- A list of spans in a row of the call's own; blocks beside it. -/
structure OwnS (S : Side) (w0 w : World) (v : Value) (l : List Sp) : Prop where
  own : w.ownsRow w0.heap.size 70 4 v l.length (l.flatMap Sp.cs)
  ext : Ext w0 w
  side : ∀ s ∈ S, Blk w s.1 s.2.1 s.2.2 ∧ v.ownBlock ≠ some s.1
theorem OwnS.new (w : World) : OwnS [] w (w.alloc (.cells #[] 70)) (.slice (some ⟨w.heap.size, 0, none⟩) 0 0) [] :=
  ⟨World.ownsRow_made (base := w.heap.size) (e := 70) (size := 4) w #[] 0 (Nat.le_refl _) (Nat.zero_le _) (by simp), ext_alloc _ _, fun s hs => by cases hs⟩
theorem OwnS.later {S : Side} {w0 w W : World} {v : Value} {l : List Sp} (h : OwnS S w0 w v l) (e : Ext w W) : OwnS S w0 W v l :=
  ⟨World.ownsRow.kept (row := none) h.own (grown_of_ext e) (by cases v.ownBlock <;> simp), h.ext.trans e, fun s hs => ⟨(h.side s hs).1.ext e, (h.side s hs).2⟩⟩
theorem OwnS.ok {S : Side} {w0 w : World} {v : Value} {l : List Sp} (h : OwnS S w0 w v l) : SideOk S w0 w := ⟨fun s hs => (h.side s hs).1, h.ext⟩
theorem OwnS.bare {S : Side} {w0 w : World} {v : Value} {l : List Sp} (h : OwnS S w0 w v l) : OwnS [] w0 w v l := ⟨h.own, h.ext, fun s hs => by cases hs⟩
theorem OwnS.more {S : Side} {w0 w W : World} {b : Nat} {v : Value} {l : List Sp} (h : OwnS S w0 w v l) (e : Ext w W) (hb : w.heap.size ≤ b) {cs : Array Value} {T : TypeId} (hk : Blk W b cs T) : OwnS ((b, cs, T) :: S) w0 W v l := by
  have h1 := h.later e
  refine ⟨h1.own, h1.ext, fun s hs => ?_⟩
  rcases List.mem_cons.1 hs with rfl | hs
  · exact ⟨hk, fun e => by have := (h.own.lt _ e).2; simp only at this; omega⟩
  · exact h1.side s hs
theorem OwnS.app {S : Side} {w0 w w1 : World} {v v1 : Value} {l m : List Sp} {k : Nat} {xs : List Value} (h : OwnS S w0 w v l) (ho : w1.ownsRow w0.heap.size 70 4 v1 k xs) (hk : k = l.length + m.length) (hx : xs = l.flatMap Sp.cs ++ m.flatMap Sp.cs) (hg : w.grownBy w1 v.ownBlock) (hn : Near w v v1) : OwnS S w0 w1 v1 (l ++ m) := by
  subst hk hx
  refine ⟨by rw [List.length_append, List.flatMap_append]; exact ho, Below.grown h.ext hg h.ext.size (fun k hk => (h.own.lt k hk).1), fun s hs => ?_⟩
  obtain ⟨k1, k3⟩ := h.side s hs
  refine ⟨k1.grown hg (fun e => k3 e.symm), fun e => ?_⟩
  rcases hn _ e with h1 | h1
  · exact k3 h1
  · have := k1.lt; omega

theorem sps_one (l : List Sp) : ∀ u ∈ l.flatMap Sp.cs, u.oneCell' = true := fun u hu => by obtain ⟨x, _, hx⟩ := List.mem_flatMap.1 hu; exact sp_one x u hx

end Go.Proofs.Ytdhdbmfipkppiaa

namespace Go.Proofs.Ytdhdbmfipkppiaa
set_option linter.unusedSimpArgs false
set_option linter.unusedVariables false
set_option linter.unnecessarySimpa false
open Go.RowKit

theorem GrAt.oneG {W : World} {g : Gr} (h : GrAt W g) : Array.all #[g.iV, g.nV, g.oV] (·.oneCell') = true := by
  obtain ⟨_, _, q1, _⟩ := h.ins
  obtain ⟨_, _, q2, _⟩ := h.nodes
  obtain ⟨_, _, q3, _⟩ := h.outs
  rw [q1, q2, q3]
  simp [Value.oneCell']

set_option maxRecDepth 20000 in
set_option maxHeartbeats 12800000 in
theorem rOf_values (g : Gr) (pV s0 s1 s2 : Value) (pl : List Int) (c : Isa.Cm) (w : World) (hg : GrAt w g) (hp : Ints .i64 w pV pl) (hv0 : (valuesR g).2 ≠ 0) :
    Calls Try.prog 27 #[.agg #[g.iV, g.nV, g.oV, pV, s0, s1, s2], .agg #[.int .i64 c.k, .int .i64 c.s, .int .i64 c.n, .int .i64 c.f, .int .i64 c.r, .int .i64 c.o, .int .i64 c.d, .int .i64 c.p, .int .i64 c.i0, .int .i64 c.i1, .int .i64 c.b0, .int .i64 c.b1, .int .i64 c.h0, .int .i64 c.h1]] w (OfPost (ofR g pl c) w) := by
  have HOF : Hid (ofR g pl c = (if (valuesR g).2 ≠ 0 then ([], (valuesR g).2) else
    if Isa.mayB c = false ∨ pl.length ≠ (valuesR g).1.length then ([], 1) else
    if (c.k = 3 ∨ c.k = 4) ∧ (g.nodes.length ≤ c.n ∨ rowsOk c ((valuesR g).1[g.ins.length + c.n.toNat]?.getD default).s = false) then ([], 27) else
    ofR.lookSp (if c.k = 3 ∨ c.k = 4 then nodeSp (valuesR g).1 pl c ((g.nodes[c.n.toNat]?.map Nd.ins).getD []) (g.ins.length + c.n.toNat) else moveSp c))) := rfl
  have HP : Hid (∀ e w', (∃ v, e = .returned (.tuple #[v, .int .i64 (ofR g pl c).2]) ∧ Spans w' v (ofR g pl c).1 ∧ Ext w w') → OfPost (ofR g pl c) w e w') := fun e w' h => h
  generalize OfPost (ofR g pl c) w = PP at *
  have HE : Hid (∀ e w' z, ofR g pl c = ([], z) → e = .returned (.tuple #[.slice none 0 0, .int .i64 z]) → Ext w w' → PP e w') := fun e w' z h1 h2 h3 => HP.out e w' ⟨.slice none 0 0, by rw [h1]; exact h2, by rw [h1]; exact spans_nil _, h3⟩
  obtain ⟨Ap, cp, ep, hp1, hp2, hpcl⟩ := id hp.form
  unfold maxLen at hp2
  have EP := Lib.hid ep
  have HPCL := Lib.hid hpcl
  clear ep hpcl
  have hvok := fun h => vals_ok (g := g) h
  have hvc := fun W (h : Ext w W) => rvalues_calls g W (hg.ext h)
  have hmay := fun W => Isa.refMay_calls c W
  unfold Isa.Cm.v at hmay
  have hb0 := Blk.new w #[g.iV, g.nV, g.oV, pV, s0, s1, s2] 54
  have hE1 := ext_alloc w (.cells #[g.iV, g.nV, g.oV, pV, s0, s1, s2] 54)
  have hE2 := ext_alloc (w.alloc (.cells #[g.iV, g.nV, g.oV, pV, s0, s1, s2] 54)) (.cells #[.int .i64 c.k, .int .i64 c.s, .int .i64 c.n, .int .i64 c.f, .int .i64 c.r, .int .i64 c.o, .int .i64 c.d, .int .i64 c.p, .int .i64 c.i0, .int .i64 c.i1, .int .i64 c.b0, .int .i64 c.b1, .int .i64 c.h0, .int .i64 c.h1] 57)
  have hb1 := Blk.new (w.alloc (.cells #[g.iV, g.nV, g.oV, pV, s0, s1, s2] 54)) #[.int .i64 c.k, .int .i64 c.s, .int .i64 c.n, .int .i64 c.f, .int .i64 c.r, .int .i64 c.o, .int .i64 c.d, .int .i64 c.p, .int .i64 c.i0, .int .i64 c.i1, .int .i64 c.b0, .int .i64 c.b1, .int .i64 c.h0, .int .i64 c.h1] 57
  rw [show (w.alloc (.cells #[g.iV, g.nV, g.oV, pV, s0, s1, s2] 54)).heap.size = w.heap.size + 1 from by simp] at hb1
  replace hb0 := hb0.ext hE2
  have h1 := hE1.trans hE2
  clear hE1 hE2
  go_enter Try.func27, Try.ntmps27
  go_upto_region 1 with fail
  generalize World.alloc (World.alloc w _) _ = w1 at *
  have q0 : World.cell? w1 ⟨w.heap.size, 0, none⟩ = some g.iV := hb0.cell 0
  have q1 : World.cell? w1 ⟨w.heap.size, 1, none⟩ = some g.nV := hb0.cell 1
  have q2 : World.cell? w1 ⟨w.heap.size, 2, none⟩ = some g.oV := hb0.cell 2
  replace hvc := hvc _ h1
  generalize w.heap.size = b2 at *
  obtain ⟨vr, hvr⟩ : ∃ vr, valuesR g = vr := ⟨_, rfl⟩
  have HV : Hid (ofR g pl c = ([], vr.2)) := by show _ = _; rw [HOF.out, if_pos hv0, hvr]
  rw [hvr] at hvc hv0
  unfold ValsPost at hvc
  have hz1 : (vr.2 != 0) = true := by simpa using hv0
  go_wp2_with fail
  refine hvc.mono ?_
  rintro e w2 ⟨_, hA, hE2⟩
  obtain rfl := hA hv0
  have h2 := h1.trans hE2
  clear hvc hA hvr hv0 HOF
  generalize vr.2 = z at *
  go_wp2_with fail
  exact HE.out _ _ _ HV.out rfl h2

set_option maxRecDepth 20000 in
set_option maxHeartbeats 12800000 in
theorem rOf_may (g : Gr) (pV s0 s1 s2 : Value) (pl : List Int) (c : Isa.Cm) (w : World) (hg : GrAt w g) (hp : Ints .i64 w pV pl) (hv0 : (valuesR g).2 = 0) (hm : Isa.mayB c = false) :
    Calls Try.prog 27 #[.agg #[g.iV, g.nV, g.oV, pV, s0, s1, s2], .agg #[.int .i64 c.k, .int .i64 c.s, .int .i64 c.n, .int .i64 c.f, .int .i64 c.r, .int .i64 c.o, .int .i64 c.d, .int .i64 c.p, .int .i64 c.i0, .int .i64 c.i1, .int .i64 c.b0, .int .i64 c.b1, .int .i64 c.h0, .int .i64 c.h1]] w (OfPost (ofR g pl c) w) := by
  have HOF : Hid (ofR g pl c = (if (valuesR g).2 ≠ 0 then ([], (valuesR g).2) else
    if Isa.mayB c = false ∨ pl.length ≠ (valuesR g).1.length then ([], 1) else
    if (c.k = 3 ∨ c.k = 4) ∧ (g.nodes.length ≤ c.n ∨ rowsOk c ((valuesR g).1[g.ins.length + c.n.toNat]?.getD default).s = false) then ([], 27) else
    ofR.lookSp (if c.k = 3 ∨ c.k = 4 then nodeSp (valuesR g).1 pl c ((g.nodes[c.n.toNat]?.map Nd.ins).getD []) (g.ins.length + c.n.toNat) else moveSp c))) := rfl
  have HP : Hid (∀ e w', (∃ v, e = .returned (.tuple #[v, .int .i64 (ofR g pl c).2]) ∧ Spans w' v (ofR g pl c).1 ∧ Ext w w') → OfPost (ofR g pl c) w e w') := fun e w' h => h
  generalize OfPost (ofR g pl c) w = PP at *
  have HE : Hid (∀ e w' z, ofR g pl c = ([], z) → e = .returned (.tuple #[.slice none 0 0, .int .i64 z]) → Ext w w' → PP e w') := fun e w' z h1 h2 h3 => HP.out e w' ⟨.slice none 0 0, by rw [h1]; exact h2, by rw [h1]; exact spans_nil _, h3⟩
  obtain ⟨Ap, cp, ep, hp1, hp2, hpcl⟩ := id hp.form
  unfold maxLen at hp2
  have EP := Lib.hid ep
  have HPCL := Lib.hid hpcl
  clear ep hpcl
  have hvok := fun h => vals_ok (g := g) h
  have hvc := fun W (h : Ext w W) => rvalues_calls g W (hg.ext h)
  have hmay := fun W => Isa.refMay_calls c W
  unfold Isa.Cm.v at hmay
  have hb0 := Blk.new w #[g.iV, g.nV, g.oV, pV, s0, s1, s2] 54
  have hE1 := ext_alloc w (.cells #[g.iV, g.nV, g.oV, pV, s0, s1, s2] 54)
  have hE2 := ext_alloc (w.alloc (.cells #[g.iV, g.nV, g.oV, pV, s0, s1, s2] 54)) (.cells #[.int .i64 c.k, .int .i64 c.s, .int .i64 c.n, .int .i64 c.f, .int .i64 c.r, .int .i64 c.o, .int .i64 c.d, .int .i64 c.p, .int .i64 c.i0, .int .i64 c.i1, .int .i64 c.b0, .int .i64 c.b1, .int .i64 c.h0, .int .i64 c.h1] 57)
  have hb1 := Blk.new (w.alloc (.cells #[g.iV, g.nV, g.oV, pV, s0, s1, s2] 54)) #[.int .i64 c.k, .int .i64 c.s, .int .i64 c.n, .int .i64 c.f, .int .i64 c.r, .int .i64 c.o, .int .i64 c.d, .int .i64 c.p, .int .i64 c.i0, .int .i64 c.i1, .int .i64 c.b0, .int .i64 c.b1, .int .i64 c.h0, .int .i64 c.h1] 57
  rw [show (w.alloc (.cells #[g.iV, g.nV, g.oV, pV, s0, s1, s2] 54)).heap.size = w.heap.size + 1 from by simp] at hb1
  replace hb0 := hb0.ext hE2
  have h1 := hE1.trans hE2
  clear hE1 hE2
  go_enter Try.func27, Try.ntmps27
  go_upto_region 1 with fail
  generalize World.alloc (World.alloc w _) _ = w1 at *
  have q0 : World.cell? w1 ⟨w.heap.size, 0, none⟩ = some g.iV := hb0.cell 0
  have q1 : World.cell? w1 ⟨w.heap.size, 1, none⟩ = some g.nV := hb0.cell 1
  have q2 : World.cell? w1 ⟨w.heap.size, 2, none⟩ = some g.oV := hb0.cell 2
  replace hvc := hvc _ h1
  generalize w.heap.size = b2 at *
  obtain ⟨vr, hvr⟩ : ∃ vr, valuesR g = vr := ⟨_, rfl⟩
  rw [hvr] at hvc HOF hvok hv0
  unfold ValsPost at hvc
  replace hvok := hvok hv0
  go_wp2_with fail
  refine hvc.mono ?_
  rintro e w2 ⟨hA, _, hE2⟩
  obtain ⟨vV, rfl, hown⟩ := hA hv0
  have h2 := h1.trans hE2
  replace hb0 := hb0.ext hE2
  replace hb1 := hb1.ext hE2
  have hvls := row_of_own hown
  clear q0 q1 q2 hE2 hA hvc hown
  have HOF2 := HOF.out
  rw [if_neg (show ¬ (vr.2 ≠ 0) from fun h => h hv0)] at HOF2
  obtain ⟨vs, z⟩ := vr
  simp only at hv0 hvok HOF2 hvls
  subst hv0
  replace HOF := Lib.hid HOF2
  clear HOF2 hvr h1
  replace hvls : Vls w2 vV vs := hvls
  obtain ⟨Av, cv, ev, hv1, hv2, hvcl⟩ := id hvls.form
  unfold maxLen at hv2
  have HVCL := Lib.hid hvcl
  clear hvcl
  subst ev
  have hme : Isa.mayE c = 1 := by unfold Isa.mayE; rw [if_neg (by rw [hm]; simp)]
  rw [hme] at hmay
  have HV : Hid (ofR g pl c = ([], 1)) := by show _ = _; rw [HOF.out, if_pos (Or.inl hm)]
  clear hme hm HOF
  have p0 : World.cell? w2 ⟨b2 + 1, 0, none⟩ = some (.int .i64 c.k) := hb1.cell 0
  have p1 : World.cell? w2 ⟨b2 + 1, 1, none⟩ = some (.int .i64 c.s) := hb1.cell 1
  have p2 : World.cell? w2 ⟨b2 + 1, 2, none⟩ = some (.int .i64 c.n) := hb1.cell 2
  have p3 : World.cell? w2 ⟨b2 + 1, 3, none⟩ = some (.int .i64 c.f) := hb1.cell 3
  have p4 : World.cell? w2 ⟨b2 + 1, 4, none⟩ = some (.int .i64 c.r) := hb1.cell 4
  have p5 : World.cell? w2 ⟨b2 + 1, 5, none⟩ = some (.int .i64 c.o) := hb1.cell 5
  have p6 : World.cell? w2 ⟨b2 + 1, 6, none⟩ = some (.int .i64 c.d) := hb1.cell 6
  have p7 : World.cell? w2 ⟨b2 + 1, 7, none⟩ = some (.int .i64 c.p) := hb1.cell 7
  have p8 : World.cell? w2 ⟨b2 + 1, 8, none⟩ = some (.int .i64 c.i0) := hb1.cell 8
  have p9 : World.cell? w2 ⟨b2 + 1, 9, none⟩ = some (.int .i64 c.i1) := hb1.cell 9
  have p10 : World.cell? w2 ⟨b2 + 1, 10, none⟩ = some (.int .i64 c.b0) := hb1.cell 10
  have p11 : World.cell? w2 ⟨b2 + 1, 11, none⟩ = some (.int .i64 c.b1) := hb1.cell 11
  have p12 : World.cell? w2 ⟨b2 + 1, 12, none⟩ = some (.int .i64 c.h0) := hb1.cell 12
  have p13 : World.cell? w2 ⟨b2 + 1, 13, none⟩ = some (.int .i64 c.h1) := hb1.cell 13
  go_wp2_with fail
  refine (hmay _).mono ?_
  rintro e w3 ⟨rfl, hE3⟩
  have h3 := h2.trans hE3
  clear hmay
  go_wp2_with fail
  exact HE.out _ _ _ HV.out rfl h3

set_option maxRecDepth 20000 in
set_option maxHeartbeats 12800000 in
theorem rOf_len (g : Gr) (pV s0 s1 s2 : Value) (pl : List Int) (c : Isa.Cm) (w : World) (hg : GrAt w g) (hp : Ints .i64 w pV pl) (hv0 : (valuesR g).2 = 0) (hm : Isa.mayB c = true) (hl : pl.length ≠ (valuesR g).1.length) :
    Calls Try.prog 27 #[.agg #[g.iV, g.nV, g.oV, pV, s0, s1, s2], .agg #[.int .i64 c.k, .int .i64 c.s, .int .i64 c.n, .int .i64 c.f, .int .i64 c.r, .int .i64 c.o, .int .i64 c.d, .int .i64 c.p, .int .i64 c.i0, .int .i64 c.i1, .int .i64 c.b0, .int .i64 c.b1, .int .i64 c.h0, .int .i64 c.h1]] w (OfPost (ofR g pl c) w) := by
  have HOF : Hid (ofR g pl c = (if (valuesR g).2 ≠ 0 then ([], (valuesR g).2) else
    if Isa.mayB c = false ∨ pl.length ≠ (valuesR g).1.length then ([], 1) else
    if (c.k = 3 ∨ c.k = 4) ∧ (g.nodes.length ≤ c.n ∨ rowsOk c ((valuesR g).1[g.ins.length + c.n.toNat]?.getD default).s = false) then ([], 27) else
    ofR.lookSp (if c.k = 3 ∨ c.k = 4 then nodeSp (valuesR g).1 pl c ((g.nodes[c.n.toNat]?.map Nd.ins).getD []) (g.ins.length + c.n.toNat) else moveSp c))) := rfl
  have HP : Hid (∀ e w', (∃ v, e = .returned (.tuple #[v, .int .i64 (ofR g pl c).2]) ∧ Spans w' v (ofR g pl c).1 ∧ Ext w w') → OfPost (ofR g pl c) w e w') := fun e w' h => h
  generalize OfPost (ofR g pl c) w = PP at *
  have HE : Hid (∀ e w' z, ofR g pl c = ([], z) → e = .returned (.tuple #[.slice none 0 0, .int .i64 z]) → Ext w w' → PP e w') := fun e w' z h1 h2 h3 => HP.out e w' ⟨.slice none 0 0, by rw [h1]; exact h2, by rw [h1]; exact spans_nil _, h3⟩
  obtain ⟨Ap, cp, ep, hp1, hp2, hpcl⟩ := id hp.form
  unfold maxLen at hp2
  have EP := Lib.hid ep
  have HPCL := Lib.hid hpcl
  clear ep hpcl
  have hvok := fun h => vals_ok (g := g) h
  have hvc := fun W (h : Ext w W) => rvalues_calls g W (hg.ext h)
  have hmay := fun W => Isa.refMay_calls c W
  unfold Isa.Cm.v at hmay
  have hb0 := Blk.new w #[g.iV, g.nV, g.oV, pV, s0, s1, s2] 54
  have hE1 := ext_alloc w (.cells #[g.iV, g.nV, g.oV, pV, s0, s1, s2] 54)
  have hE2 := ext_alloc (w.alloc (.cells #[g.iV, g.nV, g.oV, pV, s0, s1, s2] 54)) (.cells #[.int .i64 c.k, .int .i64 c.s, .int .i64 c.n, .int .i64 c.f, .int .i64 c.r, .int .i64 c.o, .int .i64 c.d, .int .i64 c.p, .int .i64 c.i0, .int .i64 c.i1, .int .i64 c.b0, .int .i64 c.b1, .int .i64 c.h0, .int .i64 c.h1] 57)
  have hb1 := Blk.new (w.alloc (.cells #[g.iV, g.nV, g.oV, pV, s0, s1, s2] 54)) #[.int .i64 c.k, .int .i64 c.s, .int .i64 c.n, .int .i64 c.f, .int .i64 c.r, .int .i64 c.o, .int .i64 c.d, .int .i64 c.p, .int .i64 c.i0, .int .i64 c.i1, .int .i64 c.b0, .int .i64 c.b1, .int .i64 c.h0, .int .i64 c.h1] 57
  rw [show (w.alloc (.cells #[g.iV, g.nV, g.oV, pV, s0, s1, s2] 54)).heap.size = w.heap.size + 1 from by simp] at hb1
  replace hb0 := hb0.ext hE2
  have h1 := hE1.trans hE2
  clear hE1 hE2
  go_enter Try.func27, Try.ntmps27
  go_upto_region 1 with fail
  generalize World.alloc (World.alloc w _) _ = w1 at *
  have q0 : World.cell? w1 ⟨w.heap.size, 0, none⟩ = some g.iV := hb0.cell 0
  have q1 : World.cell? w1 ⟨w.heap.size, 1, none⟩ = some g.nV := hb0.cell 1
  have q2 : World.cell? w1 ⟨w.heap.size, 2, none⟩ = some g.oV := hb0.cell 2
  replace hvc := hvc _ h1
  generalize w.heap.size = b2 at *
  obtain ⟨vr, hvr⟩ : ∃ vr, valuesR g = vr := ⟨_, rfl⟩
  rw [hvr] at hvc HOF hvok hv0 hl
  unfold ValsPost at hvc
  replace hvok := hvok hv0
  go_wp2_with fail
  refine hvc.mono ?_
  rintro e w2 ⟨hA, _, hE2⟩
  obtain ⟨vV, rfl, hown⟩ := hA hv0
  have h2 := h1.trans hE2
  replace hb0 := hb0.ext hE2
  replace hb1 := hb1.ext hE2
  have hvls := row_of_own hown
  clear q0 q1 q2 hE2 hA hvc hown
  have HOF2 := HOF.out
  rw [if_neg (show ¬ (vr.2 ≠ 0) from fun h => h hv0)] at HOF2
  obtain ⟨vs, z⟩ := vr
  simp only at hv0 hvok HOF2 hvls hl
  subst hv0
  replace HOF := Lib.hid HOF2
  clear HOF2 hvr h1
  replace hvls : Vls w2 vV vs := hvls
  obtain ⟨Av, cv, ev, hv1, hv2, hvcl⟩ := id hvls.form
  unfold maxLen at hv2
  have HVCL := Lib.hid hvcl
  clear hvcl
  subst ev
  have hme : Isa.mayE c = 0 := by unfold Isa.mayE; rw [if_pos hm]
  rw [hme] at hmay
  have HM := Lib.hid hm
  clear hme hm
  have p0 : World.cell? w2 ⟨b2 + 1, 0, none⟩ = some (.int .i64 c.k) := hb1.cell 0
  have p1 : World.cell? w2 ⟨b2 + 1, 1, none⟩ = some (.int .i64 c.s) := hb1.cell 1
  have p2 : World.cell? w2 ⟨b2 + 1, 2, none⟩ = some (.int .i64 c.n) := hb1.cell 2
  have p3 : World.cell? w2 ⟨b2 + 1, 3, none⟩ = some (.int .i64 c.f) := hb1.cell 3
  have p4 : World.cell? w2 ⟨b2 + 1, 4, none⟩ = some (.int .i64 c.r) := hb1.cell 4
  have p5 : World.cell? w2 ⟨b2 + 1, 5, none⟩ = some (.int .i64 c.o) := hb1.cell 5
  have p6 : World.cell? w2 ⟨b2 + 1, 6, none⟩ = some (.int .i64 c.d) := hb1.cell 6
  have p7 : World.cell? w2 ⟨b2 + 1, 7, none⟩ = some (.int .i64 c.p) := hb1.cell 7
  have p8 : World.cell? w2 ⟨b2 + 1, 8, none⟩ = some (.int .i64 c.i0) := hb1.cell 8
  have p9 : World.cell? w2 ⟨b2 + 1, 9, none⟩ = some (.int .i64 c.i1) := hb1.cell 9
  have p10 : World.cell? w2 ⟨b2 + 1, 10, none⟩ = some (.int .i64 c.b0) := hb1.cell 10
  have p11 : World.cell? w2 ⟨b2 + 1, 11, none⟩ = some (.int .i64 c.b1) := hb1.cell 11
  have p12 : World.cell? w2 ⟨b2 + 1, 12, none⟩ = some (.int .i64 c.h0) := hb1.cell 12
  have p13 : World.cell? w2 ⟨b2 + 1, 13, none⟩ = some (.int .i64 c.h1) := hb1.cell 13
  have q3 : World.cell? w2 ⟨b2, 3, none⟩ = some (.slice Ap pl.length cp) := by rw [← EP.out]; exact hb0.cell 3
  go_wp2_with fail
  refine (hmay _).mono ?_
  rintro e w3 ⟨rfl, hE3⟩
  have hE3 : Ext w2 w3 := hE3
  clear p0 p1 p2 p3 p4 p5 p6 p7 p8 p9 p10 p11 p12 p13 hmay
  replace q3 : World.cell? w3 ⟨b2, 3, none⟩ = some (.slice Ap pl.length cp) := cell_ext q3 _ hE3
  have h3 := h2.trans hE3
  replace hb0 := hb0.ext hE3
  replace hb1 := hb1.ext hE3
  replace hvls := hvls.ext hE3
  have hln : ((pl.length : Int) != (vs.length : Int)) = true := by rw [bne_iff_ne]; exact_mod_cast hl
  have HV : Hid (ofR g pl c = ([], 1)) := by show _ = _; rw [HOF.out, if_pos (Or.inr hl)]
  clear HOF hl
  go_wp2_with fail
  exact HE.out _ _ _ HV.out rfl h3

set_option maxRecDepth 20000 in
set_option maxHeartbeats 12800000 in
theorem rOf_index (g : Gr) (pV s0 s1 s2 : Value) (pl : List Int) (c : Isa.Cm) (w : World) (hg : GrAt w g) (hp : Ints .i64 w pV pl) (hv0 : (valuesR g).2 = 0) (hm : Isa.mayB c = true) (hl : pl.length = (valuesR g).1.length) (h34 : c.k = 3 ∨ c.k = 4) (hn : (g.nodes.length : Int) ≤ c.n) :
    Calls Try.prog 27 #[.agg #[g.iV, g.nV, g.oV, pV, s0, s1, s2], .agg #[.int .i64 c.k, .int .i64 c.s, .int .i64 c.n, .int .i64 c.f, .int .i64 c.r, .int .i64 c.o, .int .i64 c.d, .int .i64 c.p, .int .i64 c.i0, .int .i64 c.i1, .int .i64 c.b0, .int .i64 c.b1, .int .i64 c.h0, .int .i64 c.h1]] w (OfPost (ofR g pl c) w) := by
  have HOF : Hid (ofR g pl c = (if (valuesR g).2 ≠ 0 then ([], (valuesR g).2) else
    if Isa.mayB c = false ∨ pl.length ≠ (valuesR g).1.length then ([], 1) else
    if (c.k = 3 ∨ c.k = 4) ∧ (g.nodes.length ≤ c.n ∨ rowsOk c ((valuesR g).1[g.ins.length + c.n.toNat]?.getD default).s = false) then ([], 27) else
    ofR.lookSp (if c.k = 3 ∨ c.k = 4 then nodeSp (valuesR g).1 pl c ((g.nodes[c.n.toNat]?.map Nd.ins).getD []) (g.ins.length + c.n.toNat) else moveSp c))) := rfl
  have HP : Hid (∀ e w', (∃ v, e = .returned (.tuple #[v, .int .i64 (ofR g pl c).2]) ∧ Spans w' v (ofR g pl c).1 ∧ Ext w w') → OfPost (ofR g pl c) w e w') := fun e w' h => h
  generalize OfPost (ofR g pl c) w = PP at *
  have HE : Hid (∀ e w' z, ofR g pl c = ([], z) → e = .returned (.tuple #[.slice none 0 0, .int .i64 z]) → Ext w w' → PP e w') := fun e w' z h1 h2 h3 => HP.out e w' ⟨.slice none 0 0, by rw [h1]; exact h2, by rw [h1]; exact spans_nil _, h3⟩
  obtain ⟨Ap, cp, ep, hp1, hp2, hpcl⟩ := id hp.form
  unfold maxLen at hp2
  have EP := Lib.hid ep
  have HPCL := Lib.hid hpcl
  clear ep hpcl
  have hvok := fun h => vals_ok (g := g) h
  have hvc := fun W (h : Ext w W) => rvalues_calls g W (hg.ext h)
  have hmay := fun W => Isa.refMay_calls c W
  unfold Isa.Cm.v at hmay
  have hb0 := Blk.new w #[g.iV, g.nV, g.oV, pV, s0, s1, s2] 54
  have hE1 := ext_alloc w (.cells #[g.iV, g.nV, g.oV, pV, s0, s1, s2] 54)
  have hE2 := ext_alloc (w.alloc (.cells #[g.iV, g.nV, g.oV, pV, s0, s1, s2] 54)) (.cells #[.int .i64 c.k, .int .i64 c.s, .int .i64 c.n, .int .i64 c.f, .int .i64 c.r, .int .i64 c.o, .int .i64 c.d, .int .i64 c.p, .int .i64 c.i0, .int .i64 c.i1, .int .i64 c.b0, .int .i64 c.b1, .int .i64 c.h0, .int .i64 c.h1] 57)
  have hb1 := Blk.new (w.alloc (.cells #[g.iV, g.nV, g.oV, pV, s0, s1, s2] 54)) #[.int .i64 c.k, .int .i64 c.s, .int .i64 c.n, .int .i64 c.f, .int .i64 c.r, .int .i64 c.o, .int .i64 c.d, .int .i64 c.p, .int .i64 c.i0, .int .i64 c.i1, .int .i64 c.b0, .int .i64 c.b1, .int .i64 c.h0, .int .i64 c.h1] 57
  rw [show (w.alloc (.cells #[g.iV, g.nV, g.oV, pV, s0, s1, s2] 54)).heap.size = w.heap.size + 1 from by simp] at hb1
  replace hb0 := hb0.ext hE2
  have h1 := hE1.trans hE2
  clear hE1 hE2
  go_enter Try.func27, Try.ntmps27
  go_upto_region 1 with fail
  generalize World.alloc (World.alloc w _) _ = w1 at *
  have q0 : World.cell? w1 ⟨w.heap.size, 0, none⟩ = some g.iV := hb0.cell 0
  have q1 : World.cell? w1 ⟨w.heap.size, 1, none⟩ = some g.nV := hb0.cell 1
  have q2 : World.cell? w1 ⟨w.heap.size, 2, none⟩ = some g.oV := hb0.cell 2
  replace hvc := hvc _ h1
  generalize w.heap.size = b2 at *
  obtain ⟨vr, hvr⟩ : ∃ vr, valuesR g = vr := ⟨_, rfl⟩
  rw [hvr] at hvc HOF hvok hv0 hl
  unfold ValsPost at hvc
  replace hvok := hvok hv0
  go_wp2_with fail
  refine hvc.mono ?_
  rintro e w2 ⟨hA, _, hE2⟩
  obtain ⟨vV, rfl, hown⟩ := hA hv0
  have h2 := h1.trans hE2
  replace hb0 := hb0.ext hE2
  replace hb1 := hb1.ext hE2
  have hvls := row_of_own hown
  clear q0 q1 q2 hE2 hA hvc hown
  have HOF2 := HOF.out
  rw [if_neg (show ¬ (vr.2 ≠ 0) from fun h => h hv0)] at HOF2
  obtain ⟨vs, z⟩ := vr
  simp only at hv0 hvok HOF2 hvls hl
  subst hv0
  replace HOF := Lib.hid HOF2
  clear HOF2 hvr h1
  replace hvls : Vls w2 vV vs := hvls
  obtain ⟨Av, cv, ev, hv1, hv2, hvcl⟩ := id hvls.form
  unfold maxLen at hv2
  have HVCL := Lib.hid hvcl
  clear hvcl
  subst ev
  have hme : Isa.mayE c = 0 := by unfold Isa.mayE; rw [if_pos hm]
  rw [hme] at hmay
  have HM := Lib.hid hm
  clear hme hm
  have p0 : World.cell? w2 ⟨b2 + 1, 0, none⟩ = some (.int .i64 c.k) := hb1.cell 0
  have p1 : World.cell? w2 ⟨b2 + 1, 1, none⟩ = some (.int .i64 c.s) := hb1.cell 1
  have p2 : World.cell? w2 ⟨b2 + 1, 2, none⟩ = some (.int .i64 c.n) := hb1.cell 2
  have p3 : World.cell? w2 ⟨b2 + 1, 3, none⟩ = some (.int .i64 c.f) := hb1.cell 3
  have p4 : World.cell? w2 ⟨b2 + 1, 4, none⟩ = some (.int .i64 c.r) := hb1.cell 4
  have p5 : World.cell? w2 ⟨b2 + 1, 5, none⟩ = some (.int .i64 c.o) := hb1.cell 5
  have p6 : World.cell? w2 ⟨b2 + 1, 6, none⟩ = some (.int .i64 c.d) := hb1.cell 6
  have p7 : World.cell? w2 ⟨b2 + 1, 7, none⟩ = some (.int .i64 c.p) := hb1.cell 7
  have p8 : World.cell? w2 ⟨b2 + 1, 8, none⟩ = some (.int .i64 c.i0) := hb1.cell 8
  have p9 : World.cell? w2 ⟨b2 + 1, 9, none⟩ = some (.int .i64 c.i1) := hb1.cell 9
  have p10 : World.cell? w2 ⟨b2 + 1, 10, none⟩ = some (.int .i64 c.b0) := hb1.cell 10
  have p11 : World.cell? w2 ⟨b2 + 1, 11, none⟩ = some (.int .i64 c.b1) := hb1.cell 11
  have p12 : World.cell? w2 ⟨b2 + 1, 12, none⟩ = some (.int .i64 c.h0) := hb1.cell 12
  have p13 : World.cell? w2 ⟨b2 + 1, 13, none⟩ = some (.int .i64 c.h1) := hb1.cell 13
  have q3 : World.cell? w2 ⟨b2, 3, none⟩ = some (.slice Ap pl.length cp) := by rw [← EP.out]; exact hb0.cell 3
  go_wp2_with fail
  refine (hmay _).mono ?_
  rintro e w3 ⟨rfl, hE3⟩
  have hE3 : Ext w2 w3 := hE3
  clear p0 p1 p2 p3 p4 p5 p6 p7 p8 p9 p10 p11 p12 p13 hmay
  replace q3 : World.cell? w3 ⟨b2, 3, none⟩ = some (.slice Ap pl.length cp) := cell_ext q3 _ hE3
  have h3 := h2.trans hE3
  replace hb0 := hb0.ext hE3
  replace hb1 := hb1.ext hE3
  replace hvls := hvls.ext hE3
  clear hE3 h2
  have hln : ((pl.length : Int) != (vs.length : Int)) = false := by rw [bne_eq_false_iff_eq]; exact_mod_cast hl
  have HOF2 := HOF.out
  rw [if_neg (show ¬ (Isa.mayB c = false ∨ pl.length ≠ vs.length) by rw [HM.out]; simp [hl])] at HOF2
  replace HOF := Lib.hid HOF2
  have HL := Lib.hid hl
  clear HOF2 hl
  obtain ⟨An, cn, en, hn1, hn2, hncl⟩ := id (SRow.form hg.nodes (fun _ => rfl) (by omega))
  unfold maxLen at hn2
  have EN := Lib.hid en
  have HNCL := Lib.hid hncl
  clear en hncl
  have g0 : World.cell? w3 ⟨b2, 0, none⟩ = some g.iV := hb0.cell 0
  have g1 : World.cell? w3 ⟨b2, 1, none⟩ = some g.nV := hb0.cell 1
  have g2 : World.cell? w3 ⟨b2, 2, none⟩ = some g.oV := hb0.cell 2
  have hone : Array.all #[g.iV, g.nV, g.oV] (·.oneCell') = true := (hg.ext h3).oneG
  have HO := Lib.hid hone
  have hz := Blk.new w3 #[.slice none 0 0, .slice none 0 0, .slice none 0 0] 26
  have hb8 : Blk ((w3.alloc (.cells #[.slice none 0 0, .slice none 0 0, .slice none 0 0] 26)).setRow w3.heap.size #[g.iV, g.nV, g.oV]) w3.heap.size #[g.iV, g.nV, g.oV] 26 := setRow_heap _ _ _ _ _ _ hz
  have hQ : Ext w3 ((w3.alloc (.cells #[.slice none 0 0, .slice none 0 0, .slice none 0 0] 26)).setRow w3.heap.size #[g.iV, g.nV, g.oV]) := ext_setRow (ext_alloc _ _) _ (Nat.le_refl _)
  have h4 := h3.trans hQ
  replace hb0 := hb0.ext hQ
  replace hb1 := hb1.ext hQ
  replace hvls := hvls.ext hQ
  clear hone hQ
  go_upto_region 7 with (refine wpList_store_row rfl 26 _ _ rfl w3.heap.size #[g.iV, g.nV, g.oV] rfl rfl 26 _ hz (by kernel_rfl) rfl HO.out ?_)
  clear g0 g1 g2 hz HO q3 hln h3
  generalize World.setRow (World.alloc w3 _) _ _ = w0 at *
  generalize w3.heap.size = b8 at *
  have p0 : World.cell? w0 ⟨b2 + 1, 0, none⟩ = some (.int .i64 c.k) := hb1.cell 0
  have p2 : World.cell? w0 ⟨b2 + 1, 2, none⟩ = some (.int .i64 c.n) := hb1.cell 2
  have g1 : World.cell? w0 ⟨b8, 1, none⟩ = some (.slice An g.nodes.length cn) := by rw [← EN.out]; exact hb8.cell 1
  have HV : Hid (ofR g pl c = ([], 27)) := by show _ = _; rw [HOF.out, if_pos ⟨h34, Or.inl hn⟩]
  clear HOF
  rcases h34 with h | h
  · have k3 : (c.k == 3) = true := by rw [beq_iff_eq]; exact h
    clear h
    go_wp2_with fail
    exact HE.out _ _ _ HV.out rfl h4
  · have k3 : (c.k == 3) = false := by rw [beq_eq_false_iff_ne]; omega
    have k4 : (c.k == 4) = true := by rw [beq_iff_eq]; exact h
    clear h
    go_wp2_with fail
    exact HE.out _ _ _ HV.out rfl h4

end Go.Proofs.Ytdhdbmfipkppiaa
