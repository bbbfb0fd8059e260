/- The walk of the law RegionNodes: up to the image whose values lie one behind the other. -/
import Derived.Test.YtdhdbmfipkppiaaRgq
import Derived.Test.YtdhdbmfipkppiaaRgn
namespace Go.Proofs.Ytdhdbmfipkppiaa
set_option linter.unusedSimpArgs false
set_option linter.unusedVariables false
set_option linter.unnecessarySimpa false
open Go.RowKit

/-- An image in a box whose places are laid one by one. -/
structure Plc (x : Gr) (w0 W : World) (b : Nat) (pv : Value) (k : Nat) : Prop where
  box : Blk W b #[x.iV, x.nV, x.oV, pv, .slice none 0 0, .slice none 0 0, .slice none 0 0] 54
  own : W.ownsRow w0.heap.size 3 1 pv k ((plN k).map (.int .i64))
  ext : Ext w0 W
  hb : w0.heap.size ≤ b
  ne : pv.ownBlock ≠ some b
theorem Plc.later {x : Gr} {w0 W W' : World} {b : Nat} {pv : Value} {k : Nat} (h : Plc x w0 W b pv k) (e : Ext W W') : Plc x w0 W' b pv k :=
  ⟨h.box.ext e, World.ownsRow.kept (row := none) h.own (grown_of_ext e) (by cases pv.ownBlock <;> simp), h.ext.trans e, h.hb, h.ne⟩
theorem plN_succ (k : Nat) : plN (k + 1) = plN k ++ [2048 * (k : Int)] := by unfold plN; rw [List.range_succ, List.map_append]; rfl
theorem Plc.put {x : Gr} {w0 w w1 : World} {b : Nat} {v v1 : Value} {k : Nat} (h : Plc x w0 w b v k) (ho : w1.ownsRow w0.heap.size 3 1 v1 (k + 1) ((plN k).map (.int .i64) ++ [.int .i64 (2048 * (k : Int))])) (hg : w.grownBy w1 v.ownBlock) (hn : Near w v v1) : Plc x w0 (w1.setCell ⟨b, 3, none⟩ v1) b v1 (k + 1) := by
  have hb1 : Blk w1 b #[x.iV, x.nV, x.oV, v, .slice none 0 0, .slice none 0 0, .slice none 0 0] 54 := h.box.grown hg (fun e => h.ne e.symm)
  have hne : v1.ownBlock ≠ some b := fun e => by
    rcases hn b e with h1 | h1
    · exact h.ne h1
    · have := h.box.lt; omega
  refine ⟨?_, ?_, ?_, h.hb, hne⟩
  · have := hb1.set 3 v1
    simpa using this
  · have := ownsRow_setCell_other (a := ⟨b, 3, none⟩) ho hne v1
    rw [plN_succ, List.map_append]
    exact this
  · exact Below.setCell (Below.grown h.ext hg h.ext.size (fun k hk => (h.own.lt k hk).1)) h.hb _

def TrueP (w : World) (e : Ending) (w' : World) : Prop := e = .returned (.bool true) ∧ Below w.heap.size w w'

set_option maxRecDepth 20000 in
set_option maxHeartbeats 12800000 in
theorem regionNodes_calls (g : Gr) (pV s0 s1 s2 : Value) (pl : List Int) (a0 a1 a2 : Int) (w : World) (hg : GrIn w g) (hp : Ints .i64 w pV pl) (h0 : 0 ≤ a0 ∧ a0 ≤ 255) (h1 : 0 ≤ a1 ∧ a1 ≤ 255) (h2 : 0 ≤ a2 ∧ a2 ≤ 255) :
    Calls Try.prog 9 #[.agg #[g.iV, g.nV, g.oV, pV, s0, s1, s2], .agg #[.int .u8 a0, .int .u8 a1, .int .u8 a2]] w (TrueP w) := by
  have HP : Hid (∀ e w', e = .returned (.bool true) → Ext w w' → TrueP w e w') := fun e w' h1 h2 => ⟨h1, h2⟩
  generalize TrueP w = PP at *
  have hE1 := (ext_alloc w (.cells #[g.iV, g.nV, g.oV, pV, s0, s1, s2] 54)).trans (ext_alloc _ (.cells #[.int .u8 a0, .int .u8 a1, .int .u8 a2] 65))
  have hb1 := (Blk.new w #[g.iV, g.nV, g.oV, pV, s0, s1, s2] 54).ext (ext_alloc _ (.cells #[.int .u8 a0, .int .u8 a1, .int .u8 a2] 65))
  have hc1 := Blk.new (w.alloc (.cells #[g.iV, g.nV, g.oV, pV, s0, s1, s2] 54)) #[.int .u8 a0, .int .u8 a1, .int .u8 a2] 65
  rw [show (w.alloc (.cells #[g.iV, g.nV, g.oV, pV, s0, s1, s2] 54)).heap.size = w.heap.size + 1 from by simp] at hc1
  have hls := fun W (h : Ext w W) => less12_calls g pV s0 s1 s2 pl w W hg hp h
  have hsh := fun W => shown12_calls W
  have HA := Lib.hid (And.intro h0 (And.intro h1 h2))
  clear h0 h1 h2
  go_enter Try.func9, Try.ntmps9
  go_upto_region 1 with fail
  generalize World.alloc (World.alloc w _) _ = w1 at *
  go_upto_region 2 with (go_at_call 24; refine (hsh _).mono ?_; rintro e w2 ⟨rfl, h2⟩)
  have h2 : Ext w1 w2 := h2
  replace hb1 := hb1.ext h2
  replace hc1 := hc1.ext h2
  replace hE1 := hE1.trans h2
  clear hsh
  have q0 : World.cell? w2 ⟨w.heap.size, 0, none⟩ = some g.iV := hb1.cell 0
  have q1 : World.cell? w2 ⟨w.heap.size, 1, none⟩ = some g.nV := hb1.cell 1
  have q2 : World.cell? w2 ⟨w.heap.size, 2, none⟩ = some g.oV := hb1.cell 2
  have q3 : World.cell? w2 ⟨w.heap.size, 3, none⟩ = some pV := hb1.cell 3
  have q4 : World.cell? w2 ⟨w.heap.size, 4, none⟩ = some s0 := hb1.cell 4
  have q5 : World.cell? w2 ⟨w.heap.size, 5, none⟩ = some s1 := hb1.cell 5
  have q6 : World.cell? w2 ⟨w.heap.size, 6, none⟩ = some s2 := hb1.cell 6
  have hlt2 := hc1.lt
  go_wp2_with fail
  refine (hls _ hE1).mono ?_
  rintro e w3 ⟨x, pX, pz, rfl, hL, hpx, hpl, h3⟩
  clear q0 q1 q2 q3 q4 q5 q6 hls
  replace hb1 := hb1.ext h3
  replace hc1 := hc1.ext h3
  have hE3 := hE1.trans h3
  have hone : Array.all #[x.iV, x.nV, x.oV, pX, .slice none 0 0, .slice none 0 0, .slice none 0 0] (·.oneCell') = true := by
    obtain ⟨_, _, e1, _⟩ := hL.ins.form
    obtain ⟨_, _, e2, _⟩ := row_of_own hL.own
    obtain ⟨_, _, e3, _⟩ := hL.outs.form
    obtain ⟨_, _, e4, _⟩ := hpx.form
    rw [e1, e2, e3, e4]
    simp [Value.oneCell']
  have HO := Lib.hid hone
  have hL4 := hL.setRow (b := w.heap.size) (Nat.le_refl _) (by omega) #[x.iV, x.nV, x.oV, pX, .slice none 0 0, .slice none 0 0, .slice none 0 0]
  have hb4 : Blk (w3.setRow w.heap.size #[x.iV, x.nV, x.oV, pX, .slice none 0 0, .slice none 0 0, .slice none 0 0]) w.heap.size #[x.iV, x.nV, x.oV, pX, .slice none 0 0, .slice none 0 0, .slice none 0 0] 54 := setRow_heap _ _ _ _ _ _ hb1
  have hE4 : Ext w (w3.setRow w.heap.size #[x.iV, x.nV, x.oV, pX, .slice none 0 0, .slice none 0 0, .slice none 0 0]) := ext_setRow hE3 _ (Nat.le_refl _)
  have hc4 := hc1.grown (setRow_grown w3 w.heap.size #[x.iV, x.nV, x.oV, pX, .slice none 0 0, .slice none 0 0, .slice none 0 0]) (by simp)
  clear hone hL hE1 hE3 hc1
  go_upto_region 3 with (refine wpList_store_row rfl 54 _ _ rfl w.heap.size #[x.iV, x.nV, x.oV, pX, .slice none 0 0, .slice none 0 0, .slice none 0 0] rfl rfl 54 _ hb1 (by kernel_rfl) rfl HO.out ?_)
  clear hb1 h2 h3 hlt2 HO
  generalize World.setRow w3 _ _ = w4 at *
  have hg4 := hL4.at
  have hval := rvalues_calls x w4 hg4
  unfold ValsPost at hval
  clear hL4 hpx
  have q0 : World.cell? w4 ⟨w.heap.size, 0, none⟩ = some x.iV := hb4.cell 0
  have q1 : World.cell? w4 ⟨w.heap.size, 1, none⟩ = some x.nV := hb4.cell 1
  have q2 : World.cell? w4 ⟨w.heap.size, 2, none⟩ = some x.oV := hb4.cell 2
  by_cases hv0 : (valuesR x).2 = 0
  · have hok := vals_ok (g := x) hv0
    have hvr : valuesR x = ((valuesR x).1, 0) := by rw [← hv0]
    go_wp2_with fail
    refine hval.mono ?_
    rintro e w5 ⟨hA, _, hE5⟩
    obtain ⟨vV, rfl, hown⟩ := hA hv0
    clear q0 q1 q2 hval hA hv0
    generalize (valuesR x).1 = vs at *
    have hvls : Vls w5 vV vs := row_of_own hown
    have h5 := hE4.trans hE5
    replace hg4 := hg4.ext hE5
    replace hb4 := hb4.ext hE5
    replace hc4 := hc4.ext hE5
    clear hown hE5 hE4
    obtain ⟨Av, cv, ev, hv1, hv2, hvcl⟩ := id hvls.form
    obtain ⟨An, cn, en, hn1, hn2, hncl⟩ := id (SRow.form hg4.nodes (fun _ => rfl) (by omega))
    unfold maxLen at hv2 hn2
    have EN := Lib.hid en
    have HNCL := Lib.hid hncl
    have HVCL := Lib.hid hvcl
    clear en hncl hvcl
    subst ev
    have q1 : World.cell? w5 ⟨w.heap.size, 1, none⟩ = some (.slice An x.nodes.length cn) := by rw [← EN.out]; exact hb4.cell 1
    by_cases hnn : x.nodes.length = 0
    · have hz : ((x.nodes.length : Int) == 0) = true := by rw [hnn]; rfl
      have HH := Lib.hid h5
      clear hnn
      go_wp2_with fail
      exact HP.out _ _ rfl HH.out
    · have hz : ((x.nodes.length : Int) == 0) = false := by rw [beq_eq_false_iff_ne]; omega
      go_upto_region 6 with fail
      clear q1 hz
      have q0 : World.cell? w5 ⟨w.heap.size, 0, none⟩ = some x.iV := hb4.cell 0
      have q1 : World.cell? w5 ⟨w.heap.size, 1, none⟩ = some x.nV := hb4.cell 1
      have q2 : World.cell? w5 ⟨w.heap.size, 2, none⟩ = some x.oV := hb4.cell 2
      have hone : Array.all #[x.iV, x.nV, x.oV, .slice none 0 0, .slice none 0 0, .slice none 0 0, .slice none 0 0] (·.oneCell') = true := by
        obtain ⟨_, _, e1, _⟩ := hg4.ins
        obtain ⟨_, _, e2, _⟩ := hg4.nodes
        obtain ⟨_, _, e3, _⟩ := hg4.outs
        rw [e1, e2, e3]
        simp [Value.oneCell']
      have HO := Lib.hid hone
      have hz := Blk.new w5 #[.slice none 0 0, .slice none 0 0, .slice none 0 0, .slice none 0 0, .slice none 0 0, .slice none 0 0, .slice none 0 0] 54
      have hb8 : Blk ((w5.alloc (.cells #[.slice none 0 0, .slice none 0 0, .slice none 0 0, .slice none 0 0, .slice none 0 0, .slice none 0 0, .slice none 0 0] 54)).setRow w5.heap.size #[x.iV, x.nV, x.oV, .slice none 0 0, .slice none 0 0, .slice none 0 0, .slice none 0 0]) w5.heap.size #[x.iV, x.nV, x.oV, .slice none 0 0, .slice none 0 0, .slice none 0 0, .slice none 0 0] 54 := setRow_heap _ _ _ _ _ _ hz
      have hQ : Ext w5 ((w5.alloc (.cells #[.slice none 0 0, .slice none 0 0, .slice none 0 0, .slice none 0 0, .slice none 0 0, .slice none 0 0, .slice none 0 0] 54)).setRow w5.heap.size #[x.iV, x.nV, x.oV, .slice none 0 0, .slice none 0 0, .slice none 0 0, .slice none 0 0]) := ext_setRow (ext_alloc _ _) _ (Nat.le_refl _)
      have hP0 : Plc x w5 _ w5.heap.size (.slice none 0 0) 0 := ⟨hb8, ⟨by simp [plN], .inl ⟨rfl, rfl⟩⟩, hQ, Nat.le_refl _, by simp [Value.ownBlock]⟩
      clear hone hQ hb8
      go_upto_region 7 with (refine wpList_store_row rfl 54 _ _ rfl w5.heap.size #[x.iV, x.nV, x.oV, .slice none 0 0, .slice none 0 0, .slice none 0 0, .slice none 0 0] rfl rfl 54 _ hz (by kernel_rfl) rfl HO.out ?_)
      clear q0 q1 q2 hz HO
      generalize World.setRow (World.alloc w5 _) _ _ = w6 at *
      generalize w5.heap.size = b8 at *
      go_wp2_with fail
      have hvl : vs.length ≤ 16 := by have := hok.len; have := hok.il; have := hok.nl; omega
      go_loopw [9] (fun i wr => ∃ (k : Nat) (pv : Value), k ≤ vs.length ∧ i = .int .i64 k ∧ Hid (Plc x w5 wr b8 pv k)) (fun i _ => vs.length - (intOf i).toNat)
      case atStart => exact ⟨0, _, by omega, rfl, hP0⟩
      case round =>
        clear hP0
        obtain ⟨k, pv, hk, rfl, hS⟩ := hrel
        by_cases hlt : k < vs.length
        · have c3 : World.cell? wr ⟨b8, 3, none⟩ = some pv := hS.out.box.cell 3
          have hbl := hS.out.box.lt
          have hfr := hS.out.box.frozen 3
          have mw : IntKind.i64.wrap (2048 * (k : Int)) = 2048 * (k : Int) := IntWalk.i64_in _ (by omega)
          have hE := ext_alloc wr (.cells #[.int .i64 (2048 * (k : Int))] 3)
          have hnew := row_new wr #[.int .i64 (2048 * (k : Int))] 3 1 1 rfl (by decide)
          have hS1 := hS.out.later hE
          have hown := hS1.own
          have hbase := hS1.ext.size
          have hk1 : k + 1 ≤ 140737488355328 := by omega
          have hk2 : (k + 1) * 8 ≤ 140737488355328 := by omega
          have h1 : ∀ u ∈ #[Value.int .i64 (2048 * (k : Int))].toList, u.oneCell' = true := by intro u hu; simp at hu; subst hu; rfl
          have HPUT : Hid (∀ (v' : Value) (w' : World), w'.ownsRow w5.heap.size 3 1 v' (k + 1) ((plN k).map (.int .i64) ++ #[Value.int .i64 (2048 * (k : Int))].toList) →
              (wr.alloc (.cells #[.int .i64 (2048 * (k : Int))] 3)).grownBy w' pv.ownBlock → Near (wr.alloc (.cells #[.int .i64 (2048 * (k : Int))] 3)) pv v' → ∃ A2 n2 c2, v' = .slice A2 n2 c2 ∧
              Hid (Plc x w5 (w'.setCell ⟨b8, 3, none⟩ v') b8 v' (k + 1)) ∧ b8 < w'.heap.size ∧ w'.frozen? ⟨b8, 3, none⟩ = false ∧ World.cell? w' ⟨b8, 3, none⟩ = some pv) := by
            intro v' w' ho hgr hnr
            have hb' : Blk w' b8 #[x.iV, x.nV, x.oV, pv, .slice none 0 0, .slice none 0 0, .slice none 0 0] 54 := hS1.box.grown hgr (fun e => hS1.ne e.symm)
            obtain ⟨A2, c2, e2, _⟩ := row_of_own ho
            exact ⟨A2, _, c2, e2, hS1.put ho hgr hnr, hb'.lt, hb'.frozen 3, hb'.cell 3⟩
          clear hS hE hS1
          go_wp2_with (at_builtin; refine wpList_append_row rfl rfl elem_i64 hown rfl hnew rfl h1 hk1 hk2 hbase ?_; intro v' w' ho hgr hnr; obtain ⟨A2, n2, c2, rfl, hpw, hb1, hb2, hb3⟩ := HPUT.out v' w' ho hgr hnr)
          go_roundw
          case rel => exact ⟨k + 1, _, by omega, by go_num, hpw⟩
          case measure => simp [intOf]; omega
        · have hkk : k = vs.length := by omega
          subst hkk
          clear hlt hk
          have hP := hS.out
          have h6 := h5.trans hP.ext
          replace hb4 := hb4.ext hP.ext
          replace hc4 := hc4.ext hP.ext
          replace hvls := hvls.ext hP.ext
          replace hg4 := hg4.ext hP.ext
          have HPP := Lib.hid hP
          have HOK := Lib.hid hok
          have ha := HA.out
          obtain ⟨n0, rfl⟩ := Int.eq_ofNat_of_zero_le ha.1.1
          obtain ⟨N, hN⟩ : ∃ N, x.nodes.length = N := ⟨_, rfl⟩
          have hN1 : 1 ≤ N ∧ N ≤ 12 := by have := hok.nl; omega
          have z1 : World.cell? wr ⟨w.heap.size, 1, none⟩ = some (.slice An N cn) := by rw [← hN, ← EN.out]; exact hb4.cell 1
          have z3 : World.cell? wr ⟨w.heap.size + 1, 0, none⟩ = some (.int .u8 (n0 : Int)) := hc4.cell 0
          have hne : ((N : Int) == 0) = false := by rw [beq_eq_false_iff_ne]; omega
          have HNN := Lib.hid hN
          clear hP hS hok hN
          go_upto_region 12 with fail
          rw [show ((n0 : Int) % (N : Int)) = ((n0 % N : Nat) : Int) from rfl]
          have hkN : n0 % N < N := Nat.mod_lt _ (by omega)
          have HA2 := Lib.hid (And.intro ha.2.1 ha.2.2)
          clear hne z1 z3 ha hN1 HA
          generalize n0 % N = kk at *
          have hkk : kk < x.nodes.length := by rw [HNN.out]; exact hkN
          have hs : x.nodes[kk]? = some x.nodes[kk] := by simp [hkk]
          have hto : x.ins.length + kk < vs.length := by have := HOK.out.len; omega
          have hsv : vs[x.ins.length + kk]? = some vs[x.ins.length + kk] := by simp [hto]
          have hkern := ofR_kernel hvr HOK.out hkk hs
          have htile := fun f r hf hr hfr => ofR_tile (f := f) (r := r) hvr HOK.out hkk hs hf hr hfr
          have hxok := vals_s HOK.out hto
          rw [hsv] at hkern hxok
          rw [hsv] at htile
          simp only [Option.getD_some] at hkern htile hxok
          obtain ⟨bn, offn, rfl, hbn, hnc⟩ := HNCL.out kk _ hs
          obtain ⟨bv, offv, rfl, hbv, hvc⟩ := HVCL.out _ _ hsv
          have hnode := hg4.each _ (List.getElem_mem hkk)
          obtain ⟨hin1, hin2⟩ := HOK.out.ins _ (List.getElem_mem hkk)
          generalize x.nodes[kk] = nd at *
          generalize vs[x.ins.length + kk] = xv at *
          obtain ⟨tt, htt⟩ : ∃ tt, x.ins.length + kk = tt := ⟨_, rfl⟩
          rw [htt] at hto hsv hvc hkern
          have hzz : (x.ins.length : Int) + (kk : Int) = (tt : Int) := by omega
          obtain ⟨Ai, ci, ei, hi1, hi2, _⟩ := id hg4.ins.form
          obtain ⟨Aj, cj, ej, hj1, hj2, hjcl⟩ := id hnode.1.form
          unfold maxLen at hi2 hj2
          have EI := Lib.hid ei
          have EJ := Lib.hid ej
          have HJCL := Lib.hid hjcl
          clear ei ej hjcl
          have z0 : World.cell? wr ⟨w.heap.size, 0, none⟩ = some (.slice Ai x.ins.length ci) := by rw [← EI.out]; exact hb4.cell 0
          have z1 : World.cell? wr ⟨w.heap.size, 1, none⟩ = some (.slice (some ⟨bn, offn, none⟩) x.nodes.length cn) := by rw [← EN.out]; exact hb4.cell 1
          have nc1 : World.cell? wr ⟨bn, offn + kk * 14 + 1, none⟩ = some (.slice Aj nd.ins.length cj) := by rw [← EJ.out]; exact cell_ext (hnc 1 _ rfl) _ HPP.out.ext
          have x0 : World.cell? wr ⟨bv, offv + tt * 4, none⟩ = some (.int .i64 xv.s.h) := cell_ext (hvc 0 _ rfl) _ HPP.out.ext
          have x1 : World.cell? wr ⟨bv, offv + tt * 4 + 1, none⟩ = some (.int .i64 xv.s.w) := cell_ext (hvc 1 _ rfl) _ HPP.out.ext
          have x2 : World.cell? wr ⟨bv, offv + tt * 4 + 2, none⟩ = some (.int .i64 xv.s.c) := cell_ext (hvc 2 _ rfl) _ HPP.out.ext
          have hz := Blk.new wr #[.int .i64 0, .int .i64 0, .int .i64 0] 36
          have hb12 : Blk ((wr.alloc (.cells #[.int .i64 0, .int .i64 0, .int .i64 0] 36)).setRow wr.heap.size #[.int .i64 xv.s.h, .int .i64 xv.s.w, .int .i64 xv.s.c]) wr.heap.size #[.int .i64 xv.s.h, .int .i64 xv.s.w, .int .i64 xv.s.c] 36 := setRow_heap _ _ _ _ _ _ hz
          have hQ : Ext wr ((wr.alloc (.cells #[.int .i64 0, .int .i64 0, .int .i64 0] 36)).setRow wr.heap.size #[.int .i64 xv.s.h, .int .i64 xv.s.w, .int .i64 xv.s.c]) := ext_setRow (ext_alloc _ _) _ (Nat.le_refl _)
          have HP7 := Lib.hid (HPP.out.later hQ)
          have HQ := Lib.hid hQ
          have HKERN := Lib.hid hkern
          have HTILE := Lib.hid htile
          have HIN := Lib.hid hin2
          have HND := Lib.hid hnode
          have HG := Lib.hid hg4
          clear hnc hvc HNCL hs hsv hQ hkern htile hin2 hnode hg4 HPP htt
          go_upto_region 14 with (refine wpList_store_row rfl 36 _ _ rfl wr.heap.size #[.int .i64 xv.s.h, .int .i64 xv.s.w, .int .i64 xv.s.c] rfl rfl 36 _ hz (by kernel_rfl) rfl (shape_one xv.s) ?_)
          clear z0 z1 nc1 x0 x1 x2 hz
          replace hb4 := hb4.ext HQ.out
          replace hc4 := hc4.ext HQ.out
          replace hvls := hvls.ext HQ.out
          have HG7 := Lib.hid (HG.out.ext HQ.out)
          replace h6 := h6.trans HQ.out
          clear HG
          generalize World.setRow (World.alloc wr _) _ _ = w7 at *
          generalize wr.heap.size = b12 at *
          have hpx : Ints .i64 w7 pv (plN vs.length) := by
            have := row_of_own HP7.out.own
            show Row _ _ _ _ _
            rw [plN_len]
            exact this
          have hof := regOf_calls x pv (.slice none 0 0) (.slice none 0 0) (.slice none 0 0) (plN vs.length) (cmK kk xv.s.h) w7 HG7.out hpx
          have hof2 := fun f r W (h : Ext w7 W) => regOf_calls x pv (.slice none 0 0) (.slice none 0 0) (.slice none 0 0) (plN vs.length) (cmT kk f r) W (HG7.out.ext h) (hpx.ext h)
          unfold OfPost at hof hof2
          rw [HKERN.out] at hof
          simp only [cmK] at hof
          have hb8 := HP7.out.box
          have y0 : World.cell? w7 ⟨b8, 0, none⟩ = some x.iV := hb8.cell 0
          have y1 : World.cell? w7 ⟨b8, 1, none⟩ = some x.nV := hb8.cell 1
          have y2 : World.cell? w7 ⟨b8, 2, none⟩ = some x.oV := hb8.cell 2
          have y3 : World.cell? w7 ⟨b8, 3, none⟩ = some pv := hb8.cell 3
          have y4 : World.cell? w7 ⟨b8, 4, none⟩ = some (.slice none 0 0) := hb8.cell 4
          have y5 : World.cell? w7 ⟨b8, 5, none⟩ = some (.slice none 0 0) := hb8.cell 5
          have y6 : World.cell? w7 ⟨b8, 6, none⟩ = some (.slice none 0 0) := hb8.cell 6
          have m0 : World.cell? w7 ⟨b12, 0, none⟩ = some (.int .i64 xv.s.h) := hb12.cell 0
          have HOF2 := Lib.hid hof2
          clear hof2 hpx
          go_wp2_with fail
          refine hof.mono ?_
          rintro e w8 ⟨va, rfl, hsa, hE8⟩
          clear hof y0 y1 y2 y3 y4 y5 y6 m0 HKERN
          have h8 := h6.trans hE8
          have HR8 := Lib.hid (HQ.out.trans hE8)
          have HE78 := Lib.hid hE8
          replace hb4 := hb4.ext hE8
          replace hc4 := hc4.ext hE8
          replace hvls := hvls.ext hE8
          replace hb8 := hb8.ext hE8
          replace hb12 := hb12.ext hE8
          have hLl : ((List.range nd.ins.length).map (inSp vs nd.ins) ++ [outSp tt xv.s]).length = nd.ins.length + 1 := by simp
          have HLI : Hid (∀ i, i < nd.ins.length → ((List.range nd.ins.length).map (inSp vs nd.ins) ++ [outSp tt xv.s])[i]? = some (inSp vs nd.ins i)) := by
            intro i hi
            rw [List.getElem?_append_left (by simpa using hi)]
            simp [hi]
          have HLO : Hid (((List.range nd.ins.length).map (inSp vs nd.ins) ++ [outSp tt xv.s])[nd.ins.length]? = some (outSp tt xv.s)) := by
            show _ = _
            rw [List.getElem?_append_right (by simp)]
            simp
          (try simp only at hsa)
          generalize (List.range nd.ins.length).map (inSp vs nd.ins) ++ [outSp tt xv.s] = L at *
          obtain ⟨Al, cl, el, hl1, hl2, hlc⟩ := hsa.form
          unfold maxLen at hl2
          have HLC := Lib.hid hlc
          clear hlc hsa
          subst el
          have hM2 : ((L.length : Int) != (nd.ins.length : Int) + 1) = false := by rw [bne_eq_false_iff_eq]; omega
          have HLL := Lib.hid hLl
          obtain ⟨M, hM⟩ : ∃ M, L.length = M := ⟨_, rfl⟩
          rw [hM] at hM2 hl1 hLl
          have HML := Lib.hid hLl
          rw [hM]
          have hj15 : nd.ins.length ≤ 2 := hin1.2
          clear hM hLl
          go_upto_region 17 with fail
          obtain ⟨_, _, e9, _, _, hv8⟩ := id hvls.form
          cases e9
          have HV8 := Lib.hid hv8
          have H8 := Lib.hid h8
          clear hv8 hvls h8
          go_wp2_with fail
          go_loopw [15] (fun i wr => ∃ k : Nat, k ≤ nd.ins.length ∧ i = .int .i64 k ∧ Ext w8 wr) (fun i _ => nd.ins.length - (intOf i).toNat)
          case atStart => exact ⟨0, by omega, rfl, Ext.refl _⟩
          case round =>
            obtain ⟨k, hk, rfl, hE⟩ := hrel
            by_cases hlt : k < nd.ins.length
            · obtain ⟨bj, offj, rfl, y0⟩ := HJCL.out k hlt
              have hzv : nd.ins[k]?.getD 0 = nd.ins[k] := by simp [hlt]
              rw [hzv] at y0
              have hzr := HIN.out _ (List.getElem_mem hlt)
              have hLk := HLI.out k hlt
              unfold inSp at hLk
              rw [hzv] at hLk
              generalize nd.ins[k] = z at *
              obtain ⟨j, rfl⟩ := Int.eq_ofNat_of_zero_le hzr.1
              have hjl : j < vs.length := by omega
              have hjs : vs[j]? = some vs[j] := by simp [hjl]
              obtain ⟨bv', offv', e9, hbv', hvc⟩ := HV8.out j _ hjs
              cases e9
              rw [show getV vs (j : Int) = vs[j] by unfold getV; simp [hjs]] at hLk
              generalize vs[j] = yv at *
              have hs := fun W => rSize_calls yv.s W
              have hszr := sizeZ_range yv.s
              generalize sizeZ yv.s = sz at *
              have mf : IntKind.i64.wrap (2048 * (j : Int)) = 2048 * (j : Int) := IntWalk.i64_in _ (by omega)
              have mt : IntKind.i64.wrap (2048 * (j : Int) + sz) = 2048 * (j : Int) + sz := IntWalk.i64_in _ (by omega)
              obtain ⟨fz, hfz⟩ : ∃ y, 2048 * (j : Int) = y := ⟨_, rfl⟩
              rw [hfz] at mf mt hLk
              obtain ⟨tz, htz⟩ : ∃ y, fz + sz = y := ⟨_, rfl⟩
              rw [htz] at mt hLk
              have mf' : IntKind.i64.wrap (2048 * (j : Int)) = fz := by rw [hfz]; exact mf
              have mt' : IntKind.i64.wrap (fz + sz) = tz := by rw [htz]; exact mt
              obtain ⟨bl, offl, e9, c0, c1, c2, c3⟩ := HLC.out k _ hLk
              have hblj := World.block_lt_of_cell? _ _ y0
              have y0' : World.cell? wr ⟨bj, offj + k, none⟩ = some (.int .i64 (j : Int)) := cell_ext y0 _ (HR8.out.trans hE)
              have hblj' : bj < wr.heap.size := by have := HR8.out.size; have := hE.size; have hblj2 : bj < _ := hblj; omega
              have hblv' : bv < wr.heap.size := by have := hE.size; omega
              have v0 : World.cell? wr ⟨bv, offv + j * 4, none⟩ = some (.int .i64 yv.s.h) := cell_ext (hvc 0 _ rfl) _ hE
              have v1 : World.cell? wr ⟨bv, offv + j * 4 + 1, none⟩ = some (.int .i64 yv.s.w) := cell_ext (hvc 1 _ rfl) _ hE
              have v2 : World.cell? wr ⟨bv, offv + j * 4 + 2, none⟩ = some (.int .i64 yv.s.c) := cell_ext (hvc 2 _ rfl) _ hE
              have hkM : k < M := by have := HML.out; omega
              clear mf mt hfz htz hszr hjs hzv y0 hvc hLk hblj
              subst e9
              go_upto_region 20 with fail
              refine wp_region_N 70 #[.int .i64 0, .int .i64 0, .int .i64 0, .bool false] #[.int .i64 0, .int .i64 fz, .int .i64 tz, .bool false] [0, 1, 2, 3, 4, 5, 6, 7, 8, 9, 10, 11, 12, 13, 14, 15, 16, 17] [⟨18, [], MT.is (.int .i64 sz)⟩, ⟨19, [18], MT.is (.int .i64 tz)⟩, ⟨20, [19], MT.is (.agg #[.int .i64 0, .int .i64 fz, .int .i64 tz, .bool false])⟩, ⟨21, [], MT.mine⟩, ⟨22, [21, 20], MT.tied⟩] (by kernel_rfl) (by kernel_rfl) (fun _ _ d _ _ h => by cases d <;> exact h) (fun u2 hE2 hsz => ?_)
              have yj : ∀ W, RN wr.heap.size 70 #[.int .i64 0, .int .i64 0, .int .i64 0, .bool false] #[.int .i64 0, .int .i64 fz, .int .i64 tz, .bool false] u2 W → World.cell? W ⟨bj, offj + k, none⟩ = some (.int .i64 (j : Int)) := fun W h => (h.bel.cell (p := ⟨bj, offj + k, none⟩) hblj').trans (cell_ext y0' _ hE2)
              have r0 : ∀ W, RN wr.heap.size 70 #[.int .i64 0, .int .i64 0, .int .i64 0, .bool false] #[.int .i64 0, .int .i64 fz, .int .i64 tz, .bool false] u2 W → World.cell? W ⟨bv, offv + j * 4, none⟩ = some (.int .i64 yv.s.h) := fun W h => (h.bel.cell (p := ⟨bv, offv + j * 4, none⟩) hblv').trans (cell_ext v0 _ hE2)
              have r1 : ∀ W, RN wr.heap.size 70 #[.int .i64 0, .int .i64 0, .int .i64 0, .bool false] #[.int .i64 0, .int .i64 fz, .int .i64 tz, .bool false] u2 W → World.cell? W ⟨bv, offv + j * 4 + 1, none⟩ = some (.int .i64 yv.s.w) := fun W h => (h.bel.cell (p := ⟨bv, offv + j * 4 + 1, none⟩) hblv').trans (cell_ext v1 _ hE2)
              have r2 : ∀ W, RN wr.heap.size 70 #[.int .i64 0, .int .i64 0, .int .i64 0, .bool false] #[.int .i64 0, .int .i64 fz, .int .i64 tz, .bool false] u2 W → World.cell? W ⟨bv, offv + j * 4 + 2, none⟩ = some (.int .i64 yv.s.c) := fun W h => (h.bel.cell (p := ⟨bv, offv + j * 4 + 2, none⟩) hblv').trans (cell_ext v2 _ hE2)
              clear y0' v0 v1 v2
              repeat (first | (refine wpP_pure rfl (by rfl) (fun W hW => by go_simp; with_reducible rfl) ?_; simp only [Act.put, List.setIfInBounds_toArray, List.set_cons_zero, List.set_cons_succ]) | (refine wpP_skip rfl (by rfl) ?_; simp only [Act.put, List.setIfInBounds_toArray, List.set_cons_zero, List.set_cons_succ]))
              refine ⟨?_, fun W hR => ?_⟩
              · clear yj r0 r1 r2
                simp only [rSteps, rNeed, rStep, both_top, tie, TP.top, TP.mine, MP.top, MP.mine, MT.mine, MT.tied, MT.done, MT.is, List.reverse_cons, List.reverse_nil, List.nil_append, List.cons_append, ME.is, MP.is, MP.done, ME.ints, ME.row, Region.wanted, yielded, List.getElem?_toArray, phi, dstAt, List.getElem?_cons_zero, List.getElem?_cons_succ, Option.bind_some, Act.put, List.setIfInBounds_toArray, List.set_cons_zero, List.set_cons_succ, and_true, forall_eq, reduceIte, Nat.reduceEqDiff, beq_iff_eq, Option.some.injEq, Bool.false_eq_true, reduceCtorEq, implies_true, true_and]
                refine ⟨fun W hR => ?_, fun W hR => ?_, fun W hR => ?_, fun W hR => ?_, fun W hR v15 h15 => ?_⟩
                · have hN : wr.heap.size ≤ W.heap.size := by have := hR.bel.size; omega
                  go_simp
                  refine (hs W).mono ?_
                  rintro e w' ⟨rfl, h1⟩
                  exact ⟨_, rfl, RN.ext h1 hN, rfl⟩
                · go_simp
                  exact ⟨_, rfl, RN.refl _, rfl⟩
                · go_simp
                  exact ⟨_, rfl, RN.refl _, rfl⟩
                · have hN : wr.heap.size ≤ W.heap.size := by have := hR.bel.size; omega
                  go_simp
                  exact ⟨_, rfl, RN.ext (ext_alloc _ _) hN, _, hN, rfl, .inl (Blk.new _ _ _)⟩
                · obtain ⟨B, hB, rfl, hb9⟩ := h15
                  refine wp_store_N _ _ _ rfl rfl rfl hb9 hB (by kernel_rfl) rfl (by simp [Value.oneCell']) (fun hs => ⟨trivial, B, rfl, hs⟩)
              · clear yj r0 r1 r2
                simp only [rFin, envAt, TP.top, TP.mine, MP.top, MP.mine, MT.mine, MT.tied, MT.done, MT.is, List.map_cons, List.map_nil, true_implies, List.head?_cons, ME.is, MP.is, MP.done, ME.ints, ME.row, phi, dstAt, List.getElem?_cons_zero, List.getElem?_cons_succ, Option.bind_some, Act.put, List.setIfInBounds_toArray, List.set_cons_zero, List.set_cons_succ, and_true, forall_eq, reduceIte, Nat.reduceEqDiff, beq_iff_eq, Option.some.injEq, Bool.false_eq_true, reduceCtorEq, implies_true, true_and]
                rintro v15 h15 v16 ⟨B, e15, hB9⟩
                cases e15
                have hEE : Ext wr W := hE2.trans (by have := hR.bel; rw [← hsz] at this; exact this)
                have hE9 := hE.trans hEE
                clear hR hE2 hE hEE hs hsz h15
                go_upto_region 21 with fail
                have f0 : ∀ W', Ext W W' → World.cell? W' ⟨bl, offl + k * 4, none⟩ = some (.int .i64 0) := fun W' h => cell_ext c0 _ (hE9.trans h)
                have f1 : ∀ W', Ext W W' → World.cell? W' ⟨bl, offl + k * 4 + 1, none⟩ = some (.int .i64 fz) := fun W' h => cell_ext c1 _ (hE9.trans h)
                have f2 : ∀ W', Ext W W' → World.cell? W' ⟨bl, offl + k * 4 + 2, none⟩ = some (.int .i64 tz) := fun W' h => cell_ext c2 _ (hE9.trans h)
                have f3 : ∀ W', Ext W W' → World.cell? W' ⟨bl, offl + k * 4 + 3, none⟩ = some (.bool false) := fun W' h => cell_ext c3 _ (hE9.trans h)
                have g0 : ∀ W', Ext W W' → World.cell? W' ⟨B, 0, none⟩ = some (.int .i64 0) := fun W' h => (hB9.ext h).cell 0
                have g1 : ∀ W', Ext W W' → World.cell? W' ⟨B, 1, none⟩ = some (.int .i64 fz) := fun W' h => (hB9.ext h).cell 1
                have g2 : ∀ W', Ext W W' → World.cell? W' ⟨B, 2, none⟩ = some (.int .i64 tz) := fun W' h => (hB9.ext h).cell 2
                have g3 : ∀ W', Ext W W' → World.cell? W' ⟨B, 3, none⟩ = some (.bool false) := fun W' h => (hB9.ext h).cell 3
                have hq := fun W => span_neq ⟨0, fz, tz, false⟩ ⟨0, fz, tz, false⟩ W
                simp only [decide_true, Bool.not_true] at hq
                refine wp_region_S (fun W' => Ext W W') [(0, true), (1, true), (2, true), (3, true), (4, true), (5, true)] (by kernel_rfl) (by kernel_rfl) (fun _ _ d _ _ h => by cases d <;> exact h) (Ext.drew _) ?_
                simp only [pickE, List.getElem?_cons_zero, List.getElem?_cons_succ]
                repeat (first | (refine wpF_pure (by rfl) (fun W hW => by go_simp; with_reducible rfl) ?_; simp only [Act.put, List.setIfInBounds_toArray, List.set_cons_zero, List.set_cons_succ]) | (refine wpF_skip (by rfl) ?_; simp only [Act.put, List.setIfInBounds_toArray, List.set_cons_zero, List.set_cons_succ]))
                have h77 : Ext W W.drew := Ext.drew _
                refine wpF_nil ?_
                replace hE9 := hE9.trans h77
                clear f0 f1 f2 f3 g0 g1 g2 g3 hq c0 c1 c2 c3 hB9 h77
                go_wp2_with fail
                go_roundw
                case rel => exact ⟨k + 1, by omega, by go_num, hE9⟩
                case measure => simp [intOf]; omega
            · have hkk9 : k = nd.ins.length := by omega
              subst hkk9
              have h9 := H8.out.trans hE
              have hLk := HLO.out
              unfold outSp at hLk
              obtain ⟨bl, offl, e9, c0, c1, c2, c3⟩ := HLC.out _ _ hLk
              subst e9
              have hs := fun W => rSize_calls xv.s W
              have hszr := sizeZ_range xv.s
              generalize sizeZ xv.s = sz at *
              have htl : tt ≤ 15 := by omega
              have htw : IntKind.i64.wrap (tt : Int) = (tt : Int) := IntWalk.i64_in _ (by omega)
              have mf : IntKind.i64.wrap (2048 * (tt : Int)) = 2048 * (tt : Int) := IntWalk.i64_in _ (by omega)
              have mt : IntKind.i64.wrap (2048 * (tt : Int) + sz) = 2048 * (tt : Int) + sz := IntWalk.i64_in _ (by omega)
              obtain ⟨fz, hfz⟩ : ∃ y, 2048 * (tt : Int) = y := ⟨_, rfl⟩
              rw [hfz] at mf mt c1 c2
              obtain ⟨tz, htz⟩ : ∃ y, fz + sz = y := ⟨_, rfl⟩
              rw [htz] at mt c2
              have mf' : IntKind.i64.wrap (2048 * (tt : Int)) = fz := by rw [hfz]; exact mf
              have mt' : IntKind.i64.wrap (fz + sz) = tz := by rw [htz]; exact mt
              replace hb4 := hb4.ext hE
              replace hc4 := hc4.ext hE
              replace hb8 := hb8.ext hE
              replace hb12 := hb12.ext hE
              have z0 : World.cell? wr ⟨w.heap.size, 0, none⟩ = some (.slice Ai x.ins.length ci) := by rw [← EI.out]; exact hb4.cell 0
              have hidx : nd.ins.length < M := by have := HML.out; omega
              clear hLk hlt hk
              go_upto_region 24 with fail
              clear z0 hfz htz
              have f0 : ∀ W', Ext wr W' → World.cell? W' ⟨bl, offl + nd.ins.length * 4, none⟩ = some (.int .i64 0) := fun W' h => cell_ext c0 _ (hE.trans h)
              have f1 : ∀ W', Ext wr W' → World.cell? W' ⟨bl, offl + nd.ins.length * 4 + 1, none⟩ = some (.int .i64 fz) := fun W' h => cell_ext c1 _ (hE.trans h)
              have f2 : ∀ W', Ext wr W' → World.cell? W' ⟨bl, offl + nd.ins.length * 4 + 2, none⟩ = some (.int .i64 tz) := fun W' h => cell_ext c2 _ (hE.trans h)
              have f3 : ∀ W', Ext wr W' → World.cell? W' ⟨bl, offl + nd.ins.length * 4 + 3, none⟩ = some (.bool true) := fun W' h => cell_ext c3 _ (hE.trans h)
              have g0 : ∀ W', Ext wr W' → World.cell? W' ⟨b12, 0, none⟩ = some (.int .i64 xv.s.h) := fun W' h => (hb12.ext h).cell 0
              have g1 : ∀ W', Ext wr W' → World.cell? W' ⟨b12, 1, none⟩ = some (.int .i64 xv.s.w) := fun W' h => (hb12.ext h).cell 1
              have g2 : ∀ W', Ext wr W' → World.cell? W' ⟨b12, 2, none⟩ = some (.int .i64 xv.s.c) := fun W' h => (hb12.ext h).cell 2
              have hq := fun W => span_neq ⟨0, fz, tz, true⟩ ⟨0, fz, tz, true⟩ W
              simp only [decide_true, Bool.not_true] at hq
              refine wp_region_S (fun W' => Ext wr W') [(0, true), (1, true), (2, true), (3, true), (4, true), (5, true), (6, true), (7, true), (8, false), (9, true), (10, true), (11, true)] (by kernel_rfl) (by kernel_rfl) (fun _ _ d _ _ h => by cases d <;> exact h) (Ext.drew _) ?_
              simp only [pickE, List.getElem?_cons_zero, List.getElem?_cons_succ]
              repeat (first | (refine wpF_pure (by rfl) (fun W hW => by go_simp; with_reducible rfl) ?_; simp only [Act.put, List.setIfInBounds_toArray, List.set_cons_zero, List.set_cons_succ]) | (refine wpF_skip (by rfl) ?_; simp only [Act.put, List.setIfInBounds_toArray, List.set_cons_zero, List.set_cons_succ]))
              have h7 : Ext wr wr.drew := Ext.drew _
              generalize wr.drew = y0 at *
              refine wpF_step (by rfl) (fun K hK => ?_)
              go_simp
              refine (hs _).mono ?_
              rintro e w9 ⟨rfl, hEa⟩
              have hE9 := h7.trans hEa
              refine hK _ _ hE9 ?_
              clear hK K
              (try simp only [Act.put, List.setIfInBounds_toArray, List.set_cons_zero, List.set_cons_succ])
              repeat (first | (refine wpF_pure (by rfl) (fun W hW => by go_simp; with_reducible rfl) ?_; simp only [Act.put, List.setIfInBounds_toArray, List.set_cons_zero, List.set_cons_succ]) | (refine wpF_skip (by rfl) ?_; simp only [Act.put, List.setIfInBounds_toArray, List.set_cons_zero, List.set_cons_succ]))
              refine wpF_nil ?_
              replace h9 := h9.trans hE9
              replace hc4 := hc4.ext hE9
              replace hb8 := hb8.ext hE9
              replace hb12 := hb12.ext hE9
              have HE79 := Lib.hid ((HE78.out.trans hE).trans hE9)
              clear f0 f1 f2 f3 g0 g1 g2 hq c0 c1 c2 c3 hs h7 hEa hE hE9 mf mt mf' mt' htw hszr hb4 hidx
              have ha := HA2.out
              have hbx := Sz.bounds hxok
              obtain ⟨n1, rfl⟩ := Int.eq_ofNat_of_zero_le ha.1.1
              obtain ⟨n2, rfl⟩ := Int.eq_ofNat_of_zero_le ha.2.1
              obtain ⟨hh, hhe⟩ := Int.eq_ofNat_of_zero_le (show 0 ≤ xv.s.h by omega)
              have hh1 : 1 ≤ hh ∧ hh ≤ 16 := by omega
              have HHE := Lib.hid hhe
              have HBX := Lib.hid hbx
              clear hhe hbx
              have m0 : World.cell? w9 ⟨b12, 0, none⟩ = some (.int .i64 (hh : Int)) := by rw [← HHE.out]; exact hb12.cell 0
              have z4 : World.cell? w9 ⟨w.heap.size + 1, 1, none⟩ = some (.int .u8 (n1 : Int)) := hc4.cell 1
              have z5 : World.cell? w9 ⟨w.heap.size + 1, 2, none⟩ = some (.int .u8 (n2 : Int)) := hc4.cell 2
              have hne : ((hh : Int) == 0) = false := by rw [beq_eq_false_iff_ne]; omega
              go_upto_region 27 with fail
              rw [show ((n1 : Int) % (hh : Int)) = ((n1 % hh : Nat) : Int) from rfl]
              have hf1 : n1 % hh < hh := Nat.mod_lt _ (by omega)
              generalize n1 % hh = fs at *
              obtain ⟨dd, hdd⟩ : ∃ d : Nat, (hh : Int) - (fs : Int) = (d : Int) := ⟨hh - fs, by omega⟩
              have hd1 : 1 ≤ dd ∧ dd ≤ 16 := by omega
              have hdw : IntKind.i64.wrap (dd : Int) = (dd : Int) := IntWalk.i64_in _ (by omega)
              have hne2 : ((dd : Int) == 0) = false := by rw [beq_eq_false_iff_ne]; omega
              have hrm : ((n2 : Int) % (dd : Int)) = ((n2 % dd : Nat) : Int) := rfl
              have hr1 : n2 % dd < dd := Nat.mod_lt _ (by omega)
              obtain ⟨rm, hrme⟩ : ∃ r, n2 % dd = r := ⟨_, rfl⟩
              rw [hrme] at hrm hr1
              obtain ⟨rs, hrs⟩ : ∃ r : Nat, 1 + (rm : Int) = (r : Int) := ⟨1 + rm, by omega⟩
              have hrw : IntKind.i64.wrap (rs : Int) = (rs : Int) := IntWalk.i64_in _ (by omega)
              have hrs1 : 1 ≤ rs ∧ rs ≤ 16 ∧ fs + rs ≤ hh := by omega
              clear hrme
              go_upto_region 28 with fail
              clear m0 z4 z5 hne hne2 hrm hrs hdd hdw hrw hr1 hd1 hf1
              have htl := HTILE.out (fs : Int) (rs : Int) (by omega) (by omega) (by rw [HHE.out]; omega)
              have hof := HOF2.out (fs : Int) (rs : Int) w9 HE79.out
              rw [htl] at hof
              simp only [cmT] at hof
              clear htl
              have HRZ := Lib.hid (rowZ_range xv.s)
              have y0 : World.cell? w9 ⟨b8, 0, none⟩ = some x.iV := hb8.cell 0
              have y1 : World.cell? w9 ⟨b8, 1, none⟩ = some x.nV := hb8.cell 1
              have y2 : World.cell? w9 ⟨b8, 2, none⟩ = some x.oV := hb8.cell 2
              have y3 : World.cell? w9 ⟨b8, 3, none⟩ = some pv := hb8.cell 3
              have y4 : World.cell? w9 ⟨b8, 4, none⟩ = some (.slice none 0 0) := hb8.cell 4
              have y5 : World.cell? w9 ⟨b8, 5, none⟩ = some (.slice none 0 0) := hb8.cell 5
              have y6 : World.cell? w9 ⟨b8, 6, none⟩ = some (.slice none 0 0) := hb8.cell 6
              have hrc := fun W => rRow_calls xv.s W
              have HTL := Lib.hid (tileSp_len vs nd.ins kk (fs : Int) (rs : Int) xv.s)
              have HTA := Lib.hid (tileSp_last vs nd.ins kk (fs : Int) (rs : Int) xv.s)
              generalize tileSp vs nd.ins kk (fs : Int) (rs : Int) xv.s = L2 at *
              generalize rowZ xv.s = rz at *
              have hpr : 0 ≤ (rs : Int) * rz ∧ (rs : Int) * rz ≤ 16 * 128 := by
                have := HRZ.out
                exact ⟨Int.mul_nonneg (by omega) this.1, Int.mul_le_mul (by omega) this.2 this.1 (by omega)⟩
              have m1 : IntKind.i64.wrap ((rs : Int) * rz) = (rs : Int) * rz := IntWalk.i64_in _ (by omega)
              obtain ⟨pr, hpe⟩ : ∃ y, (rs : Int) * rz = y := ⟨_, rfl⟩
              have m1' : IntKind.i64.wrap ((rs : Int) * rz) = pr := by rw [m1, hpe]
              rw [hpe] at hof HTA hpr
              clear m1 hpe
              have hb12c : ∀ W, Ext w9 W → World.cell? W ⟨b12, 0, none⟩ = some (.int .i64 xv.s.h) ∧ World.cell? W ⟨b12, 1, none⟩ = some (.int .i64 xv.s.w) ∧ World.cell? W ⟨b12, 2, none⟩ = some (.int .i64 xv.s.c) := fun W h => ⟨(hb12.ext h).cell 0, (hb12.ext h).cell 1, (hb12.ext h).cell 2⟩
              have HB12 := Lib.hid hb12c
              clear hb12c hb12 hc4 hb8
              by_cases hbig : 1024 < pr
              · rw [if_pos hbig] at hof
                simp only at hof
                go_wp2_with fail
                refine hof.mono ?_
                rintro e wa ⟨vb, rfl, hsb, hEb⟩
                clear hof y0 y1 y2 y3 y4 y5 y6
                have h10 := h9.trans hEb
                obtain ⟨i0, i1, i2⟩ := HB12.out _ hEb
                clear HB12 hsb
                go_wp2_with fail
                refine (hrc _).mono ?_
                rintro e wb ⟨rfl, hEc⟩
                have HH := Lib.hid (h10.trans hEc)
                clear i0 i1 i2 hrc hEc hEb h10
                go_wp2_with fail
                exact HP.out _ _ rfl HH.out
              · rw [if_neg hbig] at hof
                simp only at hof
                go_wp2_with fail
                refine hof.mono ?_
                rintro e wa ⟨vb, rfl, hsb, hEb⟩
                clear hof y0 y1 y2 y3 y4 y5 y6
                have h10 := h9.trans hEb
                obtain ⟨i0, i1, i2⟩ := HB12.out _ hEb
                have hrc1 := hrc wa
                obtain ⟨Ab, cb, eb, hb1, hb2, hbc⟩ := hsb.form
                unfold maxLen at hb2
                have hM3 : ((L2.length : Int) == (nd.ins.length : Int) + 1) = true := by rw [beq_iff_eq, HTL.out]; omega
                obtain ⟨bm, offm, e9, c0, c1, c2, c3⟩ := hbc _ _ HTA.out
                subst e9
                subst eb
                have hidx : nd.ins.length < L2.length := by rw [HTL.out]; omega
                obtain ⟨M3, hMM⟩ : ∃ M, L2.length = M := ⟨_, rfl⟩
                rw [hMM] at hM3 hidx hb1
                rw [hMM]
                clear hbc hsb hMM HTL HTA
                go_wp2_with fail
                refine hrc1.mono ?_
                rintro e wb ⟨rfl, hEc⟩
                clear i0 i1 i2 hrc1
                have h11 := h10.trans hEc
                go_upto_region 31 with fail
                have f0 : ∀ W', Ext wb W' → World.cell? W' ⟨bm, offm + nd.ins.length * 4, none⟩ = some (.int .i64 1) := fun W' h => cell_ext c0 _ (hEc.trans h)
                have f1 : ∀ W', Ext wb W' → World.cell? W' ⟨bm, offm + nd.ins.length * 4 + 1, none⟩ = some (.int .i64 0) := fun W' h => cell_ext c1 _ (hEc.trans h)
                have f2 : ∀ W', Ext wb W' → World.cell? W' ⟨bm, offm + nd.ins.length * 4 + 2, none⟩ = some (.int .i64 pr) := fun W' h => cell_ext c2 _ (hEc.trans h)
                have f3 : ∀ W', Ext wb W' → World.cell? W' ⟨bm, offm + nd.ins.length * 4 + 3, none⟩ = some (.bool true) := fun W' h => cell_ext c3 _ (hEc.trans h)
                have g0 : ∀ W', Ext wb W' → World.cell? W' ⟨b12, 0, none⟩ = some (.int .i64 xv.s.h) := fun W' h => (HB12.out W' ((hEb.trans hEc).trans h)).1
                have g1 : ∀ W', Ext wb W' → World.cell? W' ⟨b12, 1, none⟩ = some (.int .i64 xv.s.w) := fun W' h => (HB12.out W' ((hEb.trans hEc).trans h)).2.1
                have g2 : ∀ W', Ext wb W' → World.cell? W' ⟨b12, 2, none⟩ = some (.int .i64 xv.s.c) := fun W' h => (HB12.out W' ((hEb.trans hEc).trans h)).2.2
                have hlw : IntKind.i64.wrap ((nd.ins.length : Int) + 1) = (nd.ins.length : Int) + 1 := IntWalk.i64_in _ (by omega)
                have hq := fun W => span_equal ⟨1, 0, pr, true⟩ ⟨1, 0, pr, true⟩ W
                simp only [decide_true] at hq
                refine wp_region_S (fun W' => Ext wb W') [(0, true), (1, true), (2, true), (3, true), (4, true), (5, true), (6, true), (7, true), (8, true), (9, true), (10, true), (11, true), (12, true), (13, true), (14, true), (15, true), (16, true), (17, true), (18, true), (19, true), (20, true), (21, false), (22, true), (23, true), (24, true), (25, true), (26, true)] (by kernel_rfl) (by kernel_rfl) (fun _ _ d _ _ h => by cases d <;> exact h) (Ext.drew _) ?_
                simp only [pickE, List.getElem?_cons_zero, List.getElem?_cons_succ]
                repeat (first | (refine wpF_pure (by rfl) (fun W hW => by go_simp; with_reducible rfl) ?_; simp only [Act.put, List.setIfInBounds_toArray, List.set_cons_zero, List.set_cons_succ]) | (refine wpF_skip (by rfl) ?_; simp only [Act.put, List.setIfInBounds_toArray, List.set_cons_zero, List.set_cons_succ]))
                have h7 : Ext wb wb.drew := Ext.drew _
                generalize wb.drew = y0 at *
                refine wpF_step (by rfl) (fun K hK => ?_)
                go_simp
                refine (hrc _).mono ?_
                rintro e wd ⟨rfl, hEd⟩
                refine hK _ _ (h7.trans hEd) ?_
                clear hK K
                (try simp only [Act.put, List.setIfInBounds_toArray, List.set_cons_zero, List.set_cons_succ])
                repeat (first | (refine wpF_pure (by rfl) (fun W hW => by go_simp; with_reducible rfl) ?_; simp only [Act.put, List.setIfInBounds_toArray, List.set_cons_zero, List.set_cons_succ]) | (refine wpF_skip (by rfl) ?_; simp only [Act.put, List.setIfInBounds_toArray, List.set_cons_zero, List.set_cons_succ]))
                refine wpF_nil ?_
                have HH := Lib.hid ((h11.trans h7).trans hEd)
                clear f0 f1 f2 f3 g0 g1 g2 hq c0 c1 c2 c3 hrc h7 hEd hEc hEb h10 h11
                go_wp2_with fail
                exact HP.out _ _ rfl HH.out


  · have hz1 : ((valuesR x).2 != 0) = true := by simpa using hv0
    go_wp2_with fail
    refine hval.mono ?_
    rintro e w5 ⟨_, hA, hE5⟩
    obtain rfl := hA hv0
    have h5 := hE4.trans hE5
    clear hval hA hv0 q0 q1 q2
    generalize (valuesR x).2 = z at *
    go_wp2_with fail
    exact HP.out _ _ rfl h5

end Go.Proofs.Ytdhdbmfipkppiaa
