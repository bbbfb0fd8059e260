/- The walk of node: the spans of a command that does a node. -/
import Derived.Test.YtmddlhfahfelpaaRgb
import Derived.Test.YtmddlhfahfelpaaGrk
set_option linter.unusedSimpArgs false
set_option linter.unusedVariables false
set_option linter.unnecessarySimpa false
namespace Go.Proofs.Ytmddlhfahfelpaa
open Go.RowKit

/-- What node is given. -/
structure NodeIn (w0 : World) (g : Gr) (pV : Value) (pl : List Int) (vV : Value) (vs : List Vl) : Prop where
  hg : GrAt w0 g
  hp : Ints .i64 w0 pV pl
  hv : Vls w0 vV vs
  ok : ValsOk g vs
  len : pl.length = vs.length

def NodeP (good : Bool) (l : List Sp) (w0 : World) (B : Nat) (e : Ending) (w' : World) : Prop := e = .returned (.bool good) ∧ ∃ v' l', SpB [] w0 w' B v' l' ∧ (good = true → l' = l)

theorem nodeSp_snoc (f : Nat → Sp) (k : Nat) : (List.range (k + 1)).map f = (List.range k).map f ++ [f k] := by rw [List.range_succ, List.map_append]; rfl

theorem shape_one (s : Sz) : (#[.int .i64 s.h, .int .i64 s.w, .int .i64 s.c] : Array Value).all (·.oneCell') = true := by simp [Value.oneCell']

set_option maxRecDepth 8000 in
set_option maxHeartbeats 6400000 in
theorem lnode4_calls (g : Gr) (pV s0 s1 s2 vV : Value) (pl : List Int) (vs : List Vl) (c : Isa.Cm) (n : Nat) (w0 w : World) (B : Nat) (v : Value) (hI : NodeIn w0 g pV pl vV vs) (hm : Isa.mayB c = true) (hk : c.k = 4) (hn : c.n = (n : Int)) (hw : SpB [] w0 w B v []) :
    Calls Try.prog 40 #[.pointer (some ⟨B, 0, none⟩), .agg #[g.iV, g.nV, g.oV, pV, s0, s1, s2], vV, .agg #[.int .i64 c.k, .int .i64 c.s, .int .i64 c.n, .int .i64 c.f, .int .i64 c.r, .int .i64 c.o, .int .i64 c.d, .int .i64 c.p, .int .i64 c.i0, .int .i64 c.i1, .int .i64 c.b0, .int .i64 c.b1, .int .i64 c.h0, .int .i64 c.h1]] w (NodeP (decide (n < g.nodes.length) && rowsOk c (vs[g.ins.length + n]?.getD default).s) (nodeSp vs pl c ((g.nodes[n]?.map Nd.ins).getD []) (g.ins.length + n)) w0 B) := by
  have HP : Hid (∀ e w', (e = .returned (.bool (decide (n < g.nodes.length) && rowsOk c (vs[g.ins.length + n]?.getD default).s)) ∧ ∃ v' l', SpB [] w0 w' B v' l' ∧ ((decide (n < g.nodes.length) && rowsOk c (vs[g.ins.length + n]?.getD default).s) = true → l' = nodeSp vs pl c ((g.nodes[n]?.map Nd.ins).getD []) (g.ins.length + n))) → NodeP (decide (n < g.nodes.length) && rowsOk c (vs[g.ins.length + n]?.getD default).s) (nodeSp vs pl c ((g.nodes[n]?.map Nd.ins).getD []) (g.ins.length + n)) w0 B e w') := fun e w' h => h
  generalize NodeP (decide (n < g.nodes.length) && rowsOk c (vs[g.ins.length + n]?.getD default).s) (nodeSp vs pl c ((g.nodes[n]?.map Nd.ins).getD []) (g.ins.length + n)) w0 B = PP at *
  have hbd := (Isa.mayB_kernel hk).1 hm
  have HGI : Hid (∀ i, goIn vs pl c ((g.nodes[n]?.map Nd.ins).getD []) i = spz 0 (pl[(((g.nodes[n]?.map Nd.ins).getD [])[i]?.getD 0).toNat]?.getD 0) (sizeZ (getV vs (((g.nodes[n]?.map Nd.ins).getD [])[i]?.getD 0)).s) false) := fun i => by unfold goIn; rw [if_neg (by omega)]
  have HCO : Hid (comeOut vs pl c (g.ins.length + n) = spz 0 (pl[g.ins.length + n]?.getD 0) (sizeZ (vs[g.ins.length + n]?.getD default).s) true) := by show _ = _; unfold comeOut; rw [if_neg (by omega)]
  have HRO : Hid (rowsOk c (vs[g.ins.length + n]?.getD default).s = decide (c.r = (vs[g.ins.length + n]?.getD default).s.h)) := by show _ = _; unfold rowsOk; rw [if_neg (by omega)]
  have HNS : Hid (∀ l, l = nodeSp vs pl c ((g.nodes[n]?.map Nd.ins).getD []) (g.ins.length + n) ↔ l = (List.range ((g.nodes[n]?.map Nd.ins).getD []).length).map (goIn vs pl c ((g.nodes[n]?.map Nd.ins).getD [])) ++ [comeOut vs pl c (g.ins.length + n)]) := fun l => Iff.rfl
  generalize nodeSp vs pl c ((g.nodes[n]?.map Nd.ins).getD []) (g.ins.length + n) = NS at *
  have hvl := hI.ok.len
  have hil := hI.ok.il
  have hnl := hI.ok.nl
  obtain ⟨An, cn, en, hn1, hn2, hncl⟩ := id (SRow.form hI.hg.nodes (fun _ => rfl) (by omega))
  obtain ⟨Ai, ci, ei, hi1, hi2, _⟩ := id hI.hg.ins.form
  obtain ⟨Av, cv, ev, hv1, hv2, hvcl⟩ := id hI.hv.form
  obtain ⟨Ap, cp, ep, hp1, hp2, hpcl⟩ := id hI.hp.form
  unfold maxLen at hi2 hn2 hv2 hp2
  have HNCL := Lib.hid hncl
  have HPCL := Lib.hid hpcl
  have HVCL := Lib.hid hvcl
  have hb0 := Blk.new w #[g.iV, g.nV, g.oV, pV, s0, s1, s2] 30
  have hS0 := hw.more (ext_alloc w (.cells #[g.iV, g.nV, g.oV, pV, s0, s1, s2] 30)) (Nat.le_refl _) hb0
  have hS1 := hS0.more (ext_alloc _ (.cells #[.int .i64 c.k, .int .i64 c.s, .int .i64 c.n, .int .i64 c.f, .int .i64 c.r, .int .i64 c.o, .int .i64 c.d, .int .i64 c.p, .int .i64 c.i0, .int .i64 c.i1, .int .i64 c.b0, .int .i64 c.b1, .int .i64 c.h0, .int .i64 c.h1] 47)) (Nat.le_refl _) (Blk.new _ #[.int .i64 c.k, .int .i64 c.s, .int .i64 c.n, .int .i64 c.f, .int .i64 c.r, .int .i64 c.o, .int .i64 c.d, .int .i64 c.p, .int .i64 c.i0, .int .i64 c.i1, .int .i64 c.b0, .int .i64 c.b1, .int .i64 c.h0, .int .i64 c.h1] 47)
  rw [show (w.alloc (.cells #[g.iV, g.nV, g.oV, pV, s0, s1, s2] 30)).heap.size = w.heap.size + 1 from by simp] at hS1
  clear hS0 hw hb0
  subst ev
  have EN := Lib.hid en
  have EI := Lib.hid ei
  have EP := Lib.hid ep
  have HBD := Lib.hid hbd
  have HK := Lib.hid hk
  have HCN := Lib.hid hn
  clear en ei ep hbd hk hn hm hncl hpcl hvcl
  go_enter Try.func40, Try.ntmps40
  go_upto_region 1 with fail
  generalize World.alloc (World.alloc w _) _ = w1 at *
  have e0 : World.cell? w1 ⟨w.heap.size, 0, none⟩ = some (.slice Ai g.ins.length ci) := by rw [← EI.out]; exact (hS1.side (w.heap.size, #[g.iV, g.nV, g.oV, pV, s0, s1, s2], 30) (by simp)).1.cell 0
  have e1 : World.cell? w1 ⟨w.heap.size, 1, none⟩ = some (.slice An g.nodes.length cn) := by rw [← EN.out]; exact (hS1.side (w.heap.size, #[g.iV, g.nV, g.oV, pV, s0, s1, s2], 30) (by simp)).1.cell 1
  have d2 : World.cell? w1 ⟨w.heap.size + 1, 2, none⟩ = some (.int .i64 (n : Int)) := by rw [← HCN.out]; exact (hS1.side (w.heap.size + 1, #[.int .i64 c.k, .int .i64 c.s, .int .i64 c.n, .int .i64 c.f, .int .i64 c.r, .int .i64 c.o, .int .i64 c.d, .int .i64 c.p, .int .i64 c.i0, .int .i64 c.i1, .int .i64 c.b0, .int .i64 c.b1, .int .i64 c.h0, .int .i64 c.h1], 47) (by simp)).1.cell 2
  generalize w.heap.size = b5 at *
  by_cases hN : n < g.nodes.length
  · have hNB : decide (n < g.nodes.length) = true := decide_eq_true hN
    have hs : g.nodes[n]? = some g.nodes[n] := by simp [hN]
    have hto : g.ins.length + n < vs.length := by omega
    have hsv : vs[g.ins.length + n]? = some vs[g.ins.length + n] := by simp [hto]
    obtain ⟨bn, offn, rfl, hbn, hnc⟩ := HNCL.out n _ hs
    obtain ⟨bv, offv, rfl, hbv, hvc⟩ := HVCL.out _ _ hsv
    have nc1 : World.cell? w1 ⟨bn, offn + n * 14 + 1, none⟩ = some (Nd.inV g.nodes[n]) := cell_ext (hnc 1 _ rfl) _ hS1.ext
    have hnode := hI.hg.each _ (List.getElem_mem hN)
    obtain ⟨hin1, hin2⟩ := hI.ok.ins _ (List.getElem_mem hN)
    rw [hs] at HGI HNS
    rw [hsv] at HCO HRO HP
    simp only [Option.map_some, Option.getD_some] at HGI HCO HRO HNS HP
    have HNC := Lib.hid hnc
    generalize g.nodes[n] = nd at *
    generalize vs[g.ins.length + n] = xv at *
    obtain ⟨tt, htt⟩ : ∃ tt, g.ins.length + n = tt := ⟨_, rfl⟩
    rw [htt] at HCO hto hsv hvc HNS
    have HVL := Lib.hid hvl
    clear hvl
    have hzz : (g.ins.length : Int) + (n : Int) = (tt : Int) := by omega
    have x0 : World.cell? w1 ⟨bv, offv + tt * 4, none⟩ = some (.int .i64 xv.s.h) := cell_ext (hvc 0 _ rfl) _ hS1.ext
    have x1 : World.cell? w1 ⟨bv, offv + tt * 4 + 1, none⟩ = some (.int .i64 xv.s.w) := cell_ext (hvc 1 _ rfl) _ hS1.ext
    have x2 : World.cell? w1 ⟨bv, offv + tt * 4 + 2, none⟩ = some (.int .i64 xv.s.c) := cell_ext (hvc 2 _ rfl) _ hS1.ext
    have HN1 := Lib.hid hnode.1
    have HVC := Lib.hid hvc
    have HH2 := Lib.hid hin2
    clear hnode hvc hnc hs hin2
    have hz := Blk.new w1 #[.int .i64 0, .int .i64 0, .int .i64 0] 42
    have hb10 : Blk ((w1.alloc (.cells #[.int .i64 0, .int .i64 0, .int .i64 0] 42)).setRow w1.heap.size #[.int .i64 xv.s.h, .int .i64 xv.s.w, .int .i64 xv.s.c]) w1.heap.size #[.int .i64 xv.s.h, .int .i64 xv.s.w, .int .i64 xv.s.c] 42 := setRow_heap _ _ _ _ _ _ hz
    have hQ : Ext w1 ((w1.alloc (.cells #[.int .i64 0, .int .i64 0, .int .i64 0] 42)).setRow w1.heap.size #[.int .i64 xv.s.h, .int .i64 xv.s.w, .int .i64 xv.s.c]) := ext_setRow (ext_alloc _ _) _ (Nat.le_refl _)
    have hS2 := hS1.more hQ (Nat.le_refl _) hb10
    clear hb10 hQ
    have HS1 := Lib.hid hS1
    clear hS1
    go_upto_region 5 with (refine wpList_store_row rfl 42 _ _ rfl w1.heap.size #[.int .i64 xv.s.h, .int .i64 xv.s.w, .int .i64 xv.s.c] rfl rfl 42 _ hz (by kernel_rfl) rfl (shape_one xv.s) ?_)
    clear e0 e1 d2 x0 x1 x2 hz nc1 HS1
    generalize World.setRow (w1.alloc _) _ _ = w2 at *
    generalize w1.heap.size = b10 at *
    obtain ⟨SL, hSL⟩ : ∃ SL : Side, SL = [(b10, #[.int .i64 xv.s.h, .int .i64 xv.s.w, .int .i64 xv.s.c], 42), (b5 + 1, #[.int .i64 c.k, .int .i64 c.s, .int .i64 c.n, .int .i64 c.f, .int .i64 c.r, .int .i64 c.o, .int .i64 c.d, .int .i64 c.p, .int .i64 c.i0, .int .i64 c.i1, .int .i64 c.b0, .int .i64 c.b1, .int .i64 c.h0, .int .i64 c.h1], 47), (b5, #[g.iV, g.nV, g.oV, pV, s0, s1, s2], 30)] := ⟨_, rfl⟩
    rw [← hSL] at hS2
    have qp : ∀ W, SideOk SL w0 W → World.cell? W ⟨b5, 3, none⟩ = some (.slice Ap pl.length cp) := fun W h => by rw [← EP.out]; exact (h.1 (b5, #[g.iV, g.nV, g.oV, pV, s0, s1, s2], 30) (by rw [hSL]; simp)).cell 3
    have qn : ∀ W, SideOk SL w0 W → World.cell? W ⟨b5, 1, none⟩ = some (.slice (some ⟨bn, offn, none⟩) g.nodes.length cn) := fun W h => by rw [← EN.out]; exact (h.1 (b5, #[g.iV, g.nV, g.oV, pV, s0, s1, s2], 30) (by rw [hSL]; simp)).cell 1
    have hC : ∀ W, SideOk SL w0 W → Blk W (b5 + 1) #[.int .i64 c.k, .int .i64 c.s, .int .i64 c.n, .int .i64 c.f, .int .i64 c.r, .int .i64 c.o, .int .i64 c.d, .int .i64 c.p, .int .i64 c.i0, .int .i64 c.i1, .int .i64 c.b0, .int .i64 c.b1, .int .i64 c.h0, .int .i64 c.h1] 47 := fun W h => h.1 (b5 + 1, #[.int .i64 c.k, .int .i64 c.s, .int .i64 c.n, .int .i64 c.f, .int .i64 c.r, .int .i64 c.o, .int .i64 c.d, .int .i64 c.p, .int .i64 c.i0, .int .i64 c.i1, .int .i64 c.b0, .int .i64 c.b1, .int .i64 c.h0, .int .i64 c.h1], 47) (by rw [hSL]; simp)
    have qk : ∀ W, SideOk SL w0 W → World.cell? W ⟨b5 + 1, 0, none⟩ = some (.int .i64 4) := fun W h => by rw [← HK.out]; exact (hC W h).cell 0
    have qd : ∀ W, SideOk SL w0 W → World.cell? W ⟨b5 + 1, 2, none⟩ = some (.int .i64 (n : Int)) := fun W h => by rw [← HCN.out]; exact (hC W h).cell 2
    have qf : ∀ W, SideOk SL w0 W → World.cell? W ⟨b5 + 1, 3, none⟩ = some (.int .i64 c.f) := fun W h => (hC W h).cell 3
    have qr : ∀ W, SideOk SL w0 W → World.cell? W ⟨b5 + 1, 4, none⟩ = some (.int .i64 c.r) := fun W h => (hC W h).cell 4
    have qq : ∀ W, SideOk SL w0 W → World.cell? W ⟨b5 + 1, 7, none⟩ = some (.int .i64 c.p) := fun W h => (hC W h).cell 7
    have qi0 : ∀ W, SideOk SL w0 W → World.cell? W ⟨b5 + 1, 8, none⟩ = some (.int .i64 c.i0) := fun W h => (hC W h).cell 8
    have qi1 : ∀ W, SideOk SL w0 W → World.cell? W ⟨b5 + 1, 9, none⟩ = some (.int .i64 c.i1) := fun W h => (hC W h).cell 9
    have qh0 : ∀ W, SideOk SL w0 W → World.cell? W ⟨b5 + 1, 12, none⟩ = some (.int .i64 c.h0) := fun W h => (hC W h).cell 12
    have qh1 : ∀ W, SideOk SL w0 W → World.cell? W ⟨b5 + 1, 13, none⟩ = some (.int .i64 c.h1) := fun W h => (hC W h).cell 13
    have qm0 : ∀ W, SideOk SL w0 W → World.cell? W ⟨b10, 0, none⟩ = some (.int .i64 xv.s.h) := fun W h => (h.1 (b10, #[.int .i64 xv.s.h, .int .i64 xv.s.w, .int .i64 xv.s.c], 42) (by rw [hSL]; simp)).cell 0
    have qm1 : ∀ W, SideOk SL w0 W → World.cell? W ⟨b10, 1, none⟩ = some (.int .i64 xv.s.w) := fun W h => (h.1 (b10, #[.int .i64 xv.s.h, .int .i64 xv.s.w, .int .i64 xv.s.c], 42) (by rw [hSL]; simp)).cell 1
    have qm2 : ∀ W, SideOk SL w0 W → World.cell? W ⟨b10, 2, none⟩ = some (.int .i64 xv.s.c) := fun W h => (h.1 (b10, #[.int .i64 xv.s.h, .int .i64 xv.s.w, .int .i64 xv.s.c], 42) (by rw [hSL]; simp)).cell 2
    clear hC hSL
    obtain ⟨Aj, cj, ej, hj1, hj2, hjcl⟩ := id HN1.out.form
    unfold maxLen at hj2
    have HJCL := Lib.hid hjcl
    clear hjcl
    have e1 : World.cell? w2 ⟨b5, 1, none⟩ = some (.slice (some ⟨bn, offn, none⟩) g.nodes.length cn) := qn _ hS2.ok
    have d2 : World.cell? w2 ⟨b5 + 1, 2, none⟩ = some (.int .i64 (n : Int)) := qd _ hS2.ok
    have nc1 : World.cell? w2 ⟨bn, offn + n * 14 + 1, none⟩ = some (.slice Aj nd.ins.length cj) := by rw [← ej]; exact cell_ext (HNC.out 1 _ rfl) _ hS2.ext
    have EJ := Lib.hid ej
    have HS2 := Lib.hid hS2
    clear ej hS2
    go_wp2_with fail
    clear e1 d2 nc1
    go_loopw [42] (fun i wr => ∃ (k : Nat) (v : Value), k ≤ nd.ins.length ∧ i = .int .i64 k ∧ SpB SL w0 wr B v ((List.range k).map (goIn vs pl c nd.ins))) (fun i _ => nd.ins.length - (intOf i).toNat)
    case atStart => exact ⟨0, v, by omega, rfl, by simpa using HS2.out⟩
    case round =>
      clear HS2
      obtain ⟨k, v, hk, rfl, hS⟩ := hrel
      by_cases hlt : k < nd.ins.length
      · obtain ⟨bj, offj, rfl, y0⟩ := HJCL.out k hlt
        have hzv : nd.ins[k]?.getD 0 = nd.ins[k] := by simp [hlt]
        rw [hzv] at y0
        have hzr := HH2.out _ (List.getElem_mem hlt)
        have HGK := HGI.out k
        rw [hzv] at HGK
        generalize nd.ins[k] = z at *
        clear hzv
        obtain ⟨j, rfl⟩ := Int.eq_ofNat_of_zero_le hzr.1
        have hjl : j < vs.length := by omega
        have hjs : vs[j]? = some vs[j] := by simp [hjl]
        obtain ⟨_, _, e9, _, hvc⟩ := HVCL.out j _ hjs
        cases e9
        have hjp : j < pl.length := by rw [hI.len]; exact hjl
        obtain ⟨bp, offp, rfl, hpc⟩ := HPCL.out j hjp
        have hps : pl[j]? = some pl[j] := by simp [hjp]
        rw [hps] at hpc
        rw [show getV vs (j : Int) = vs[j] by unfold getV; simp [hjs]] at HGK
        rw [show ((j : Int)).toNat = j from rfl, hps] at HGK
        simp only [Option.getD_some] at hpc HGK
        generalize vs[j] = yv at *
        generalize pl[j] = pj at *
        have HGK := Lib.hid HGK
        have y1 : World.cell? wr ⟨bv, offv + j * 4, none⟩ = some (.int .i64 yv.s.h) := cell_ext (hvc 0 _ rfl) _ hS.ext
        have y2 : World.cell? wr ⟨bv, offv + j * 4 + 1, none⟩ = some (.int .i64 yv.s.w) := cell_ext (hvc 1 _ rfl) _ hS.ext
        have y3 : World.cell? wr ⟨bv, offv + j * 4 + 2, none⟩ = some (.int .i64 yv.s.c) := cell_ext (hvc 2 _ rfl) _ hS.ext
        replace y0 := cell_ext y0 _ hS.ext
        have hz := Blk.new wr #[.int .i64 0, .int .i64 0, .int .i64 0] 42
        have hb13 : Blk ((wr.alloc (.cells #[.int .i64 0, .int .i64 0, .int .i64 0] 42)).setRow wr.heap.size #[.int .i64 yv.s.h, .int .i64 yv.s.w, .int .i64 yv.s.c]) wr.heap.size #[.int .i64 yv.s.h, .int .i64 yv.s.w, .int .i64 yv.s.c] 42 := setRow_heap _ _ _ _ _ _ hz
        have hQ : Ext wr ((wr.alloc (.cells #[.int .i64 0, .int .i64 0, .int .i64 0] 42)).setRow wr.heap.size #[.int .i64 yv.s.h, .int .i64 yv.s.w, .int .i64 yv.s.c]) := ext_setRow (ext_alloc _ _) _ (Nat.le_refl _)
        have hS3 := hS.more hQ (Nat.le_refl _) hb13
        have HS3 := Lib.hid hS3
        have hlk : ((List.range k).map (goIn vs pl c nd.ins)).length ≤ 1000 := by simp; omega
        have HLK := Lib.hid hlk
        clear hb13 hQ hS hS3 hvc hjs hps hlk
        go_upto_region 9 with (refine wpList_store_row rfl 42 _ _ rfl wr.heap.size #[.int .i64 yv.s.h, .int .i64 yv.s.w, .int .i64 yv.s.c] rfl rfl 42 _ hz (by kernel_rfl) rfl (shape_one yv.s) ?_)
        clear y0 y1 y2 y3 hz
        generalize World.setRow (wr.alloc _) _ _ = w3 at *
        generalize wr.heap.size = b13 at *
        have hT : ∀ W, SideOk ((b13, #[.int .i64 yv.s.h, .int .i64 yv.s.w, .int .i64 yv.s.c], 42) :: SL) w0 W → SideOk SL w0 W := fun W h => ⟨fun s hs => h.1 s (List.mem_cons_of_mem _ hs), h.2⟩
        have t0 : ∀ W, SideOk ((b13, #[.int .i64 yv.s.h, .int .i64 yv.s.w, .int .i64 yv.s.c], 42) :: SL) w0 W → World.cell? W ⟨b13, 0, none⟩ = some (.int .i64 yv.s.h) := fun W h => (h.1 (b13, #[.int .i64 yv.s.h, .int .i64 yv.s.w, .int .i64 yv.s.c], 42) (by simp)).cell 0
        have t1 : ∀ W, SideOk ((b13, #[.int .i64 yv.s.h, .int .i64 yv.s.w, .int .i64 yv.s.c], 42) :: SL) w0 W → World.cell? W ⟨b13, 1, none⟩ = some (.int .i64 yv.s.w) := fun W h => (h.1 (b13, #[.int .i64 yv.s.h, .int .i64 yv.s.w, .int .i64 yv.s.c], 42) (by simp)).cell 1
        have t2 : ∀ W, SideOk ((b13, #[.int .i64 yv.s.h, .int .i64 yv.s.w, .int .i64 yv.s.c], 42) :: SL) w0 W → World.cell? W ⟨b13, 2, none⟩ = some (.int .i64 yv.s.c) := fun W h => (h.1 (b13, #[.int .i64 yv.s.h, .int .i64 yv.s.w, .int .i64 yv.s.c], 42) (by simp)).cell 2
        have k0 : World.cell? w3 ⟨b5 + 1, 0, none⟩ = some (.int .i64 4) := qk _ (hT _ HS3.out.ok)
        go_upto_region 11 with fail
        clear k0
        have r0 := fun W h => qp W (hT W h)
        have r4 := fun W h => qr W (hT W h)
        have ri0 := fun W h => qi0 W (hT W h)
        have ri1 := fun W h => qi1 W (hT W h)
        have rh0 := fun W h => qh0 W (hT W h)
        have rh1 := fun W h => qh1 W (hT W h)
        have hpp : ∀ W, SideOk ((b13, #[.int .i64 yv.s.h, .int .i64 yv.s.w, .int .i64 yv.s.c], 42) :: SL) w0 W → World.cell? W ⟨bp, offp + j, none⟩ = some (.int .i64 pj) := fun W h => cell_ext hpc _ h.2
        have HS4 := HS3.out.later (Ext.drew w3)
        generalize hSX : ((b13, #[.int .i64 yv.s.h, .int .i64 yv.s.w, .int .i64 yv.s.c], 42) :: SL) = SX at *
        refine wp_region_S (SideOk SX w0) [(0, true), (1, true), (2, true), (3, true), (4, true), (5, true), (6, true), (7, false), (8, false)] (by kernel_rfl) (by kernel_rfl) (fun _ _ d _ _ h => by cases d <;> exact h) HS4.ok ?_
        simp only [pickE, List.getElem?_cons_zero, List.getElem?_cons_succ]
        repeat (first | (refine wpF_pure (by rfl) (fun W hW => by go_simp; with_reducible rfl) ?_; simp only [Act.put, List.setIfInBounds_toArray, List.set_cons_zero, List.set_cons_succ]) | (refine wpF_skip (by rfl) ?_; simp only [Act.put, List.setIfInBounds_toArray, List.set_cons_zero, List.set_cons_succ]))
        generalize w3.drew = w4 at *
        refine wpF_step (by rfl) (fun K hK => ?_)
        go_simp
        refine (size_calls yv.s _).mono ?_
        rintro e w5 ⟨rfl, hE5⟩
        have hS5 := HS4.later hE5
        refine hK _ _ hS5.ok ?_
        clear hK K
        (try simp only [Act.put, List.setIfInBounds_toArray, List.set_cons_zero, List.set_cons_succ])
        refine wpF_step (by rfl) (fun K hK => ?_)
        go_simp
        refine (lput_calls w0 w5 B v _ 0 pj (sizeZ yv.s) false hS5 HLK.out).mono ?_
        rintro e w6 ⟨rfl, v6, hS6⟩
        rw [← HGK.out, ← nodeSp_snoc] at hS6
        refine hK _ _ hS6.ok ?_
        clear hK K
        (try simp only [Act.put, List.setIfInBounds_toArray, List.set_cons_zero, List.set_cons_succ])
        refine wpF_nil ?_
        have hS7 : SpB SL w0 w6 B v6 ((List.range (k + 1)).map (goIn vs pl c nd.ins)) := hS6.part (fun s hs => by rw [← hSX]; exact List.mem_cons_of_mem _ hs)
        go_wp2_with fail
        go_roundw
        case rel => exact ⟨k + 1, v6, by omega, by go_num, hS7⟩
        case measure => simp [intOf]; omega
      · have hkk : k = nd.ins.length := by omega
        subst hkk
        have hjp : tt < pl.length := by rw [hI.len]; exact hto
        obtain ⟨bp, offp, rfl, hpc⟩ := HPCL.out tt hjp
        have hps : pl[tt]? = some pl[tt] := by simp [hjp]
        rw [hps] at hpc HCO
        simp only [Option.getD_some] at hpc HCO
        generalize pl[tt] = pj at *
        have hpp : ∀ W, SideOk SL w0 W → World.cell? W ⟨bp, offp + tt, none⟩ = some (.int .i64 pj) := fun W h => cell_ext hpc _ h.2
        have hlk : ((List.range nd.ins.length).map (goIn vs pl c nd.ins)).length ≤ 1000 := by simp; omega
        have HLK := Lib.hid hlk
        have HS3 := Lib.hid hS
        have k0 : World.cell? wr ⟨b5 + 1, 0, none⟩ = some (.int .i64 4) := qk _ hS.ok
        clear hS hlk hps
        go_upto_region 16 with fail
        clear k0
        have HS4 := HS3.out.later (Ext.drew wr)
        refine wp_region_S (SideOk SL w0) [(0, true), (1, true), (2, true), (3, true), (4, true), (5, true), (6, true), (7, false), (8, false)] (by kernel_rfl) (by kernel_rfl) (fun _ _ d _ _ h => by cases d <;> exact h) HS4.ok ?_
        simp only [pickE, List.getElem?_cons_zero, List.getElem?_cons_succ]
        repeat (first | (refine wpF_pure (by rfl) (fun W hW => by go_simp; with_reducible rfl) ?_; simp only [Act.put, List.setIfInBounds_toArray, List.set_cons_zero, List.set_cons_succ]) | (refine wpF_skip (by rfl) ?_; simp only [Act.put, List.setIfInBounds_toArray, List.set_cons_zero, List.set_cons_succ]))
        generalize wr.drew = w4 at *
        refine wpF_step (by rfl) (fun K hK => ?_)
        go_simp
        refine (size_calls xv.s _).mono ?_
        rintro e w5 ⟨rfl, hE5⟩
        have hS5 := HS4.later hE5
        refine hK _ _ hS5.ok ?_
        clear hK K
        (try simp only [Act.put, List.setIfInBounds_toArray, List.set_cons_zero, List.set_cons_succ])
        refine wpF_step (by rfl) (fun K hK => ?_)
        go_simp
        refine (lput_calls w0 w5 B v _ 0 pj (sizeZ xv.s) true hS5 HLK.out).mono ?_
        rintro e w6 ⟨rfl, v6, hS6⟩
        rw [← HCO.out] at hS6
        refine hK _ _ hS6.ok ?_
        clear hK K
        (try simp only [Act.put, List.setIfInBounds_toArray, List.set_cons_zero, List.set_cons_succ])
        refine wpF_nil ?_
        have m0 : World.cell? w6 ⟨b10, 0, none⟩ = some (.int .i64 xv.s.h) := qm0 _ hS6.ok
        have m4 : World.cell? w6 ⟨b5 + 1, 4, none⟩ = some (.int .i64 c.r) := qr _ hS6.ok
        have HS6 := Lib.hid hS6
        clear hS6
        go_wp2_with fail
        exact HP.out _ _ ⟨by rw [HRO.out, hNB]; rfl, v6, _, HS6.out.bare, fun _ => (HNS.out _).2 rfl⟩
  · have hNB : decide (n < g.nodes.length) = false := decide_eq_false hN
    have HS1 := Lib.hid hS1
    clear hS1
    go_wp2_with fail
    exact HP.out _ _ ⟨by rw [hNB]; rfl, v, [], HS1.out.bare, fun h => by rw [hNB] at h; cases h⟩

end Go.Proofs.Ytmddlhfahfelpaa
