/- The walks of slices.EqualFunc over nodes, graph.Same, image.Same. -/
/- The walk of image.Same. -/
import Derived.Test.YtdhdbmfipkppiaaEqb
import Derived.Test.YtdhdbmfipkppiaaModL
import Derived.Test.YtdhdbmfipkppiaaDraw3
namespace Go.Proofs.Ytdhdbmfipkppiaa
set_option linter.unusedSimpArgs false
set_option linter.unusedVariables false
set_option linter.unnecessarySimpa false
set_option maxRecDepth 10000
open Go.RowKit

theorem nd_one {w : World} {n : Nd} (h : NdRows w n) : Array.all #[.int .i64 n.op, n.inV, .int .i64 n.k, .int .i64 n.st, .int .i64 n.pad, .int .i64 n.out, .int .i64 n.mul, .int .i64 n.sh, .int .i64 n.zero, .int .i64 n.th, .int .i64 n.tw, .int .i64 n.tc, n.wV, n.bV] (·.oneCell') = true := by
  obtain ⟨_, _, e1, _⟩ := h.1.form
  obtain ⟨_, _, e2, _⟩ := h.2.1.form
  obtain ⟨_, _, e3, _⟩ := h.2.2.form
  rw [e1, e2, e3]
  simp [Value.oneCell']

theorem take_eqN {l m : List Nc} {k : Nat} {x y : Nd} (h : l.take k = m.take k) (hx : l[k]? = some x.c) (hy : m[k]? = some y.c) (e : x.c = y.c) : l.take (k + 1) = m.take (k + 1) := by
  rw [List.take_add_one, List.take_add_one, hx, hy, h, e]
theorem take_neN {l m : List Nc} {k : Nat} {x y : Nd} (hx : l[k]? = some x.c) (hy : m[k]? = some y.c) (e : x.c ≠ y.c) : l ≠ m := fun h => e (by subst h; rw [hx] at hy; exact Option.some.inj hy)

set_option maxRecDepth 20000 in
set_option maxHeartbeats 6400000 in
theorem eqNodes_calls (nV mV : Value) (ns ms : List Nd) (w : World) (hn : SRow w nV Nd.cs 14 ns) (hm : SRow w mV Nd.cs 14 ms) (hne : ∀ n ∈ ns, NdRows w n) (hme : ∀ n ∈ ms, NdRows w n) :
    Calls Try.prog 112 #[nV, mV, .func (.func 113) #[] #[]] w fun e w' => e = .returned (.bool (decide (ns.map Nd.c = ms.map Nd.c))) ∧ Ext w w' := by
  obtain ⟨An, cn, rfl, hn1, hn2, hnc⟩ := id (SRow.form hn (fun _ => rfl) (by omega))
  obtain ⟨Am, cm, rfl, hm1, hm2, hmc⟩ := id (SRow.form hm (fun _ => rfl) (by omega))
  unfold maxLen at hn2 hm2
  have HNC := Lib.hid hnc
  have HMC := Lib.hid hmc
  have eg := enters_of Try.func113 (by kernel_rfl) rfl
  clear hnc hmc hn hm
  by_cases hl : ns.length = ms.length
  · have HL := Lib.hid hl
    have hln : ((ns.length : Int) != (ms.length : Int)) = false := by rw [bne_eq_false_iff_eq]; exact_mod_cast hl
    clear hl
    go_enter Try.func112, Try.ntmps112
    go_wp2_with fail
    go_loopw [17] (fun i wr => ∃ k : Nat, k ≤ ns.length ∧ i = .int .i64 k ∧ Hid ((ns.map Nd.c).take k = (ms.map Nd.c).take k) ∧ Ext w wr) (fun i _ => ns.length - (intOf i).toNat)
    case atStart => exact ⟨0, by omega, rfl, rfl, Ext.refl _⟩
    case round =>
      obtain ⟨k, hk, rfl, HA, hE⟩ := hrel
      by_cases hlt : k < ns.length
      · have hlp : k < ms.length := by have := HL.out; omega
        have hvs : ns[k]? = some ns[k] := by simp [hlt]
        have hps : ms[k]? = some ms[k] := by simp [hlp]
        obtain ⟨bv, offv, rfl, hbv, hx⟩ := HNC.out k _ hvs
        obtain ⟨bp, offp, rfl, hbp, hy⟩ := HMC.out k _ hps
        have HX := Lib.hid (show (ns.map Nd.c)[k]? = some ns[k].c by rw [List.getElem?_map, hvs]; rfl)
        have HY := Lib.hid (show (ms.map Nd.c)[k]? = some ms[k].c by rw [List.getElem?_map, hps]; rfl)
        have hxr := hne _ (List.getElem_mem hlt)
        have hyr := hme _ (List.getElem_mem hlp)
        generalize ns[k] = x at *
        generalize ms[k] = y at *
        have HXR := Lib.hid hxr
        have HYR := Lib.hid hyr
        have HOX := Lib.hid (nd_one hxr)
        have HOY := Lib.hid (nd_one hyr)
        clear hvs hps hxr hyr
        have x0 : World.cell? wr ⟨bv, offv + k * 14, none⟩ = some (.int .i64 x.op) := cell_ext (hx 0 _ rfl) _ hE
        have x1 : World.cell? wr ⟨bv, offv + k * 14 + 1, none⟩ = some (x.inV) := cell_ext (hx 1 _ rfl) _ hE
        have x2 : World.cell? wr ⟨bv, offv + k * 14 + 2, none⟩ = some (.int .i64 x.k) := cell_ext (hx 2 _ rfl) _ hE
        have x3 : World.cell? wr ⟨bv, offv + k * 14 + 3, none⟩ = some (.int .i64 x.st) := cell_ext (hx 3 _ rfl) _ hE
        have x4 : World.cell? wr ⟨bv, offv + k * 14 + 4, none⟩ = some (.int .i64 x.pad) := cell_ext (hx 4 _ rfl) _ hE
        have x5 : World.cell? wr ⟨bv, offv + k * 14 + 5, none⟩ = some (.int .i64 x.out) := cell_ext (hx 5 _ rfl) _ hE
        have x6 : World.cell? wr ⟨bv, offv + k * 14 + 6, none⟩ = some (.int .i64 x.mul) := cell_ext (hx 6 _ rfl) _ hE
        have x7 : World.cell? wr ⟨bv, offv + k * 14 + 7, none⟩ = some (.int .i64 x.sh) := cell_ext (hx 7 _ rfl) _ hE
        have x8 : World.cell? wr ⟨bv, offv + k * 14 + 8, none⟩ = some (.int .i64 x.zero) := cell_ext (hx 8 _ rfl) _ hE
        have x9 : World.cell? wr ⟨bv, offv + k * 14 + 9, none⟩ = some (.int .i64 x.th) := cell_ext (hx 9 _ rfl) _ hE
        have x10 : World.cell? wr ⟨bv, offv + k * 14 + 10, none⟩ = some (.int .i64 x.tw) := cell_ext (hx 10 _ rfl) _ hE
        have x11 : World.cell? wr ⟨bv, offv + k * 14 + 11, none⟩ = some (.int .i64 x.tc) := cell_ext (hx 11 _ rfl) _ hE
        have x12 : World.cell? wr ⟨bv, offv + k * 14 + 12, none⟩ = some (x.wV) := cell_ext (hx 12 _ rfl) _ hE
        have x13 : World.cell? wr ⟨bv, offv + k * 14 + 13, none⟩ = some (x.bV) := cell_ext (hx 13 _ rfl) _ hE
        have hz := Blk.new wr #[.int .i64 0, .slice none 0 0, .int .i64 0, .int .i64 0, .int .i64 0, .int .i64 0, .int .i64 0, .int .i64 0, .int .i64 0, .int .i64 0, .int .i64 0, .int .i64 0, .slice none 0 0, .slice none 0 0] 40
        have hbx : Blk ((wr.alloc (.cells #[.int .i64 0, .slice none 0 0, .int .i64 0, .int .i64 0, .int .i64 0, .int .i64 0, .int .i64 0, .int .i64 0, .int .i64 0, .int .i64 0, .int .i64 0, .int .i64 0, .slice none 0 0, .slice none 0 0] 40)).setRow wr.heap.size #[.int .i64 x.op, x.inV, .int .i64 x.k, .int .i64 x.st, .int .i64 x.pad, .int .i64 x.out, .int .i64 x.mul, .int .i64 x.sh, .int .i64 x.zero, .int .i64 x.th, .int .i64 x.tw, .int .i64 x.tc, x.wV, x.bV]) wr.heap.size #[.int .i64 x.op, x.inV, .int .i64 x.k, .int .i64 x.st, .int .i64 x.pad, .int .i64 x.out, .int .i64 x.mul, .int .i64 x.sh, .int .i64 x.zero, .int .i64 x.th, .int .i64 x.tw, .int .i64 x.tc, x.wV, x.bV] 40 := setRow_heap _ _ _ _ _ _ hz
        have hQ : Ext wr ((wr.alloc (.cells #[.int .i64 0, .slice none 0 0, .int .i64 0, .int .i64 0, .int .i64 0, .int .i64 0, .int .i64 0, .int .i64 0, .int .i64 0, .int .i64 0, .int .i64 0, .int .i64 0, .slice none 0 0, .slice none 0 0] 40)).setRow wr.heap.size #[.int .i64 x.op, x.inV, .int .i64 x.k, .int .i64 x.st, .int .i64 x.pad, .int .i64 x.out, .int .i64 x.mul, .int .i64 x.sh, .int .i64 x.zero, .int .i64 x.th, .int .i64 x.tw, .int .i64 x.tc, x.wV, x.bV]) := ext_setRow (ext_alloc _ _) _ (Nat.le_refl _)
        have hbl : bv < wr.heap.size := by have := hE.size; omega
        go_upto_region 6 with (refine wpList_store_row rfl 40 _ _ rfl wr.heap.size #[.int .i64 x.op, x.inV, .int .i64 x.k, .int .i64 x.st, .int .i64 x.pad, .int .i64 x.out, .int .i64 x.mul, .int .i64 x.sh, .int .i64 x.zero, .int .i64 x.th, .int .i64 x.tw, .int .i64 x.tc, x.wV, x.bV] rfl rfl 40 _ hz (by kernel_rfl) rfl HOX.out ?_)
        have hE2 := hE.trans hQ
        clear x0 x1 x2 x3 x4 x5 x6 x7 x8 x9 x10 x11 x12 x13 hz hQ hbl hx
        generalize World.setRow (World.alloc wr _) _ _ = w1 at *
        generalize wr.heap.size = bx at *
        have y0 : World.cell? w1 ⟨bp, offp + k * 14, none⟩ = some (.int .i64 y.op) := cell_ext (hy 0 _ rfl) _ hE2
        have y1 : World.cell? w1 ⟨bp, offp + k * 14 + 1, none⟩ = some (y.inV) := cell_ext (hy 1 _ rfl) _ hE2
        have y2 : World.cell? w1 ⟨bp, offp + k * 14 + 2, none⟩ = some (.int .i64 y.k) := cell_ext (hy 2 _ rfl) _ hE2
        have y3 : World.cell? w1 ⟨bp, offp + k * 14 + 3, none⟩ = some (.int .i64 y.st) := cell_ext (hy 3 _ rfl) _ hE2
        have y4 : World.cell? w1 ⟨bp, offp + k * 14 + 4, none⟩ = some (.int .i64 y.pad) := cell_ext (hy 4 _ rfl) _ hE2
        have y5 : World.cell? w1 ⟨bp, offp + k * 14 + 5, none⟩ = some (.int .i64 y.out) := cell_ext (hy 5 _ rfl) _ hE2
        have y6 : World.cell? w1 ⟨bp, offp + k * 14 + 6, none⟩ = some (.int .i64 y.mul) := cell_ext (hy 6 _ rfl) _ hE2
        have y7 : World.cell? w1 ⟨bp, offp + k * 14 + 7, none⟩ = some (.int .i64 y.sh) := cell_ext (hy 7 _ rfl) _ hE2
        have y8 : World.cell? w1 ⟨bp, offp + k * 14 + 8, none⟩ = some (.int .i64 y.zero) := cell_ext (hy 8 _ rfl) _ hE2
        have y9 : World.cell? w1 ⟨bp, offp + k * 14 + 9, none⟩ = some (.int .i64 y.th) := cell_ext (hy 9 _ rfl) _ hE2
        have y10 : World.cell? w1 ⟨bp, offp + k * 14 + 10, none⟩ = some (.int .i64 y.tw) := cell_ext (hy 10 _ rfl) _ hE2
        have y11 : World.cell? w1 ⟨bp, offp + k * 14 + 11, none⟩ = some (.int .i64 y.tc) := cell_ext (hy 11 _ rfl) _ hE2
        have y12 : World.cell? w1 ⟨bp, offp + k * 14 + 12, none⟩ = some (y.wV) := cell_ext (hy 12 _ rfl) _ hE2
        have y13 : World.cell? w1 ⟨bp, offp + k * 14 + 13, none⟩ = some (y.bV) := cell_ext (hy 13 _ rfl) _ hE2
        have hz := Blk.new w1 #[.int .i64 0, .slice none 0 0, .int .i64 0, .int .i64 0, .int .i64 0, .int .i64 0, .int .i64 0, .int .i64 0, .int .i64 0, .int .i64 0, .int .i64 0, .int .i64 0, .slice none 0 0, .slice none 0 0] 40
        have hby : Blk ((w1.alloc (.cells #[.int .i64 0, .slice none 0 0, .int .i64 0, .int .i64 0, .int .i64 0, .int .i64 0, .int .i64 0, .int .i64 0, .int .i64 0, .int .i64 0, .int .i64 0, .int .i64 0, .slice none 0 0, .slice none 0 0] 40)).setRow w1.heap.size #[.int .i64 y.op, y.inV, .int .i64 y.k, .int .i64 y.st, .int .i64 y.pad, .int .i64 y.out, .int .i64 y.mul, .int .i64 y.sh, .int .i64 y.zero, .int .i64 y.th, .int .i64 y.tw, .int .i64 y.tc, y.wV, y.bV]) w1.heap.size #[.int .i64 y.op, y.inV, .int .i64 y.k, .int .i64 y.st, .int .i64 y.pad, .int .i64 y.out, .int .i64 y.mul, .int .i64 y.sh, .int .i64 y.zero, .int .i64 y.th, .int .i64 y.tw, .int .i64 y.tc, y.wV, y.bV] 40 := setRow_heap _ _ _ _ _ _ hz
        have hQ : Ext w1 ((w1.alloc (.cells #[.int .i64 0, .slice none 0 0, .int .i64 0, .int .i64 0, .int .i64 0, .int .i64 0, .int .i64 0, .int .i64 0, .int .i64 0, .int .i64 0, .int .i64 0, .int .i64 0, .slice none 0 0, .slice none 0 0] 40)).setRow w1.heap.size #[.int .i64 y.op, y.inV, .int .i64 y.k, .int .i64 y.st, .int .i64 y.pad, .int .i64 y.out, .int .i64 y.mul, .int .i64 y.sh, .int .i64 y.zero, .int .i64 y.th, .int .i64 y.tw, .int .i64 y.tc, y.wV, y.bV]) := ext_setRow (ext_alloc _ _) _ (Nat.le_refl _)
        have hbl : bp < w1.heap.size := by have := hE2.size; omega
        go_upto_region 7 with (refine wpList_store_row rfl 40 _ _ rfl w1.heap.size #[.int .i64 y.op, y.inV, .int .i64 y.k, .int .i64 y.st, .int .i64 y.pad, .int .i64 y.out, .int .i64 y.mul, .int .i64 y.sh, .int .i64 y.zero, .int .i64 y.th, .int .i64 y.tw, .int .i64 y.tc, y.wV, y.bV] rfl rfl 40 _ hz (by kernel_rfl) rfl HOY.out ?_)
        have hE3 := hE2.trans hQ
        replace hbx := hbx.ext hQ
        clear y0 y1 y2 y3 y4 y5 y6 y7 y8 y9 y10 y11 y12 y13 hz hQ hbl hy hE hE2
        generalize World.setRow (World.alloc w1 _) _ _ = w2 at *
        generalize w1.heap.size = by_ at *
        have x0 : World.cell? w2 ⟨bx, 0, none⟩ = some (.int .i64 x.op) := hbx.cell 0
        have x1 : World.cell? w2 ⟨bx, 1, none⟩ = some (x.inV) := hbx.cell 1
        have x2 : World.cell? w2 ⟨bx, 2, none⟩ = some (.int .i64 x.k) := hbx.cell 2
        have x3 : World.cell? w2 ⟨bx, 3, none⟩ = some (.int .i64 x.st) := hbx.cell 3
        have x4 : World.cell? w2 ⟨bx, 4, none⟩ = some (.int .i64 x.pad) := hbx.cell 4
        have x5 : World.cell? w2 ⟨bx, 5, none⟩ = some (.int .i64 x.out) := hbx.cell 5
        have x6 : World.cell? w2 ⟨bx, 6, none⟩ = some (.int .i64 x.mul) := hbx.cell 6
        have x7 : World.cell? w2 ⟨bx, 7, none⟩ = some (.int .i64 x.sh) := hbx.cell 7
        have x8 : World.cell? w2 ⟨bx, 8, none⟩ = some (.int .i64 x.zero) := hbx.cell 8
        have x9 : World.cell? w2 ⟨bx, 9, none⟩ = some (.int .i64 x.th) := hbx.cell 9
        have x10 : World.cell? w2 ⟨bx, 10, none⟩ = some (.int .i64 x.tw) := hbx.cell 10
        have x11 : World.cell? w2 ⟨bx, 11, none⟩ = some (.int .i64 x.tc) := hbx.cell 11
        have x12 : World.cell? w2 ⟨bx, 12, none⟩ = some (x.wV) := hbx.cell 12
        have x13 : World.cell? w2 ⟨bx, 13, none⟩ = some (x.bV) := hbx.cell 13
        have y0 : World.cell? w2 ⟨by_, 0, none⟩ = some (.int .i64 y.op) := hby.cell 0
        have y1 : World.cell? w2 ⟨by_, 1, none⟩ = some (y.inV) := hby.cell 1
        have y2 : World.cell? w2 ⟨by_, 2, none⟩ = some (.int .i64 y.k) := hby.cell 2
        have y3 : World.cell? w2 ⟨by_, 3, none⟩ = some (.int .i64 y.st) := hby.cell 3
        have y4 : World.cell? w2 ⟨by_, 4, none⟩ = some (.int .i64 y.pad) := hby.cell 4
        have y5 : World.cell? w2 ⟨by_, 5, none⟩ = some (.int .i64 y.out) := hby.cell 5
        have y6 : World.cell? w2 ⟨by_, 6, none⟩ = some (.int .i64 y.mul) := hby.cell 6
        have y7 : World.cell? w2 ⟨by_, 7, none⟩ = some (.int .i64 y.sh) := hby.cell 7
        have y8 : World.cell? w2 ⟨by_, 8, none⟩ = some (.int .i64 y.zero) := hby.cell 8
        have y9 : World.cell? w2 ⟨by_, 9, none⟩ = some (.int .i64 y.th) := hby.cell 9
        have y10 : World.cell? w2 ⟨by_, 10, none⟩ = some (.int .i64 y.tw) := hby.cell 10
        have y11 : World.cell? w2 ⟨by_, 11, none⟩ = some (.int .i64 y.tc) := hby.cell 11
        have y12 : World.cell? w2 ⟨by_, 12, none⟩ = some (y.wV) := hby.cell 12
        have y13 : World.cell? w2 ⟨by_, 13, none⟩ = some (y.bV) := hby.cell 13
        have hc := eqNode_calls x y w2 (HXR.out.ext hE3) (HYR.out.ext hE3)
        by_cases hxy : x.c = y.c
        · have HT1 := Lib.hid (take_eqN HA.out HX.out HY.out hxy)
          rw [decide_eq_true hxy] at hc
          clear HA hxy
          go_wp2_with fail
          refine hc.mono ?_
          rintro e w3 ⟨rfl, h3⟩
          clear x0 y0 x1 y1 x2 y2 x3 y3 x4 y4 x5 y5 x6 y6 x7 y7 x8 y8 x9 y9 x10 y10 x11 y11 x12 y12 x13 y13 hc hbx hby
          go_wp2_with fail
          go_roundw
          case rel => exact ⟨k + 1, by omega, by go_num, HT1, hE3.trans h3⟩
          case measure => simp [intOf]; omega
        · have HT1 := Lib.hid (take_neN HX.out HY.out hxy)
          rw [decide_eq_false hxy] at hc
          clear HA hxy
          go_wp2_with fail
          refine hc.mono ?_
          rintro e w3 ⟨rfl, h3⟩
          clear x0 y0 x1 y1 x2 y2 x3 y3 x4 y4 x5 y5 x6 y6 x7 y7 x8 y8 x9 y9 x10 y10 x11 y11 x12 y12 x13 y13 hc hbx hby
          go_wp2_with fail
          go_ret
          exact ⟨ret_bool (decide_eq_false HT1.out).symm, hE3.trans h3⟩
      · have hkk : k = ns.length := by omega
        subst hkk
        have hab : ns.map Nd.c = ms.map Nd.c := by
          have h1 := HA.out
          rw [List.take_of_length_le (by rw [List.length_map]; omega), List.take_of_length_le (by rw [List.length_map]; have := HL.out; omega)] at h1
          exact h1
        have HT1 := Lib.hid hab
        clear hab HA
        go_wp2_with fail
        go_ret
        exact ⟨ret_bool (decide_eq_true HT1.out).symm, hE⟩
  · have hln : ((ns.length : Int) != (ms.length : Int)) = true := by rw [bne_iff_ne]; exact_mod_cast hl
    have HQ : Hid (ns.map Nd.c ≠ ms.map Nd.c) := fun e => hl (by simpa using congrArg List.length e)
    clear hl
    go_enter Try.func112, Try.ntmps112
    go_wp2_with fail
    go_ret
    exact ⟨ret_bool (decide_eq_false HQ.out).symm, Ext.refl _⟩

theorem gc_iff (g h : Gr) : g.c = h.c ↔ g.nodes.map Nd.c = h.nodes.map Nd.c ∧ g.ins = h.ins ∧ g.outs = h.outs := by
  unfold Gr.c
  rw [Gc.mk.injEq]
  constructor
  · rintro ⟨h1, h2, h3⟩; exact ⟨h2, h1, h3⟩
  · rintro ⟨h1, h2, h3⟩; exact ⟨h2, h1, h3⟩

theorem GrAt.rows {w : World} {g : Gr} (h : GrAt w g) : ∀ n ∈ g.nodes, NdRows w n := fun n hn => ⟨(h.each n hn).1, (h.each n hn).2.1, (h.each n hn).2.2.1⟩

set_option maxRecDepth 20000 in
set_option maxHeartbeats 6400000 in
theorem graphSame_calls (g h : Gr) (w : World) (hg : GrAt w g) (hh : GrAt w h) :
    Calls Try.prog 83 #[.agg #[g.iV, g.nV, g.oV], .agg #[h.iV, h.nV, h.oV]] w fun e w' => e = .returned (.bool (decide (g.c = h.c))) ∧ Ext w w' := by
  have HD : Hid (decide (g.c = h.c) = (decide (g.nodes.map Nd.c = h.nodes.map Nd.c) && decide (g.ins = h.ins) && decide (g.outs = h.outs))) := by
    show _ = _
    rw [Bool.eq_iff_iff]
    simp only [Bool.and_eq_true, decide_eq_true_eq, gc_iff, and_assoc]
  have HP : Hid (∀ (b : Bool) w', b = (decide (g.nodes.map Nd.c = h.nodes.map Nd.c) && decide (g.ins = h.ins) && decide (g.outs = h.outs)) → Ext w w' → (Ending.returned (.bool b) = .returned (.bool (decide (g.c = h.c))) ∧ Ext w w')) := fun b w' h1 h2 => ⟨by rw [h1, HD.out], h2⟩
  clear HD
  have hb1 := (Blk.new w #[g.iV, g.nV, g.oV] 26).ext (ext_alloc _ (.cells #[h.iV, h.nV, h.oV] 26))
  have hb2 := Blk.new (w.alloc (.cells #[g.iV, g.nV, g.oV] 26)) #[h.iV, h.nV, h.oV] 26
  rw [show (w.alloc (.cells #[g.iV, g.nV, g.oV] 26)).heap.size = w.heap.size + 1 from by simp] at hb2
  have hE := (ext_alloc w (.cells #[g.iV, g.nV, g.oV] 26)).trans (ext_alloc _ (.cells #[h.iV, h.nV, h.oV] 26))
  have HC1 := Lib.hid (fun W (e : Ext w W) => eqNodes_calls g.nV h.nV g.nodes h.nodes W (Row.below hg.nodes e) (Row.below hh.nodes e) (fun n hn => (hg.rows n hn).ext e) (fun n hn => (hh.rows n hn).ext e))
  have HC2 := Lib.hid (fun W (e : Ext w W) => eqs_vl g.iV h.iV g.ins h.ins W (hg.ins.ext e) (hh.ins.ext e))
  have HC3 := Lib.hid (fun W (e : Ext w W) => eqs_i64 g.oV h.oV g.outs h.outs W (hg.outs.ext e) (hh.outs.ext e))
  go_enter Try.func83, Try.ntmps83
  go_upto_region 1 with fail
  generalize World.alloc (World.alloc w _) _ = w1 at *
  have x1 : World.cell? w1 ⟨w.heap.size, 1, none⟩ = some g.nV := hb1.cell 1
  have y1 : World.cell? w1 ⟨w.heap.size + 1, 1, none⟩ = some h.nV := hb2.cell 1
  have hc := HC1.out w1 hE
  go_wp2_with fail
  refine hc.mono ?_
  rintro e w2 ⟨rfl, h2⟩
  clear x1 y1 hc
  replace hb1 := hb1.ext h2
  replace hb2 := hb2.ext h2
  replace hE := hE.trans h2
  clear h2
  by_cases e1 : g.nodes.map Nd.c = h.nodes.map Nd.c
  case neg =>
    have HX := Lib.hid (show false = (decide (g.nodes.map Nd.c = h.nodes.map Nd.c) && decide (g.ins = h.ins) && decide (g.outs = h.outs)) by rw [decide_eq_false e1]; simp)
    rw [decide_eq_false e1]
    clear e1 hb1 hb2
    go_wp2_with fail
    go_ret
    exact HP.out _ _ HX.out hE
  have H1 := Lib.hid (decide_eq_true e1)
  rw [decide_eq_true e1]
  clear e1
  have x0 : World.cell? w2 ⟨w.heap.size, 0, none⟩ = some g.iV := hb1.cell 0
  have y0 : World.cell? w2 ⟨w.heap.size + 1, 0, none⟩ = some h.iV := hb2.cell 0
  have hc := HC2.out w2 hE
  go_wp2_with fail
  refine hc.mono ?_
  rintro e w3 ⟨rfl, h2⟩
  clear x0 y0 hc
  replace hb1 := hb1.ext h2
  replace hb2 := hb2.ext h2
  replace hE := hE.trans h2
  clear h2
  by_cases e1 : g.ins = h.ins
  case neg =>
    have HX := Lib.hid (show false = (decide (g.nodes.map Nd.c = h.nodes.map Nd.c) && decide (g.ins = h.ins) && decide (g.outs = h.outs)) by rw [decide_eq_false e1]; simp)
    rw [decide_eq_false e1]
    clear e1 hb1 hb2
    go_wp2_with fail
    go_ret
    exact HP.out _ _ HX.out hE
  have H2 := Lib.hid (decide_eq_true e1)
  rw [decide_eq_true e1]
  clear e1
  have x2 : World.cell? w3 ⟨w.heap.size, 2, none⟩ = some g.oV := hb1.cell 2
  have y2 : World.cell? w3 ⟨w.heap.size + 1, 2, none⟩ = some h.oV := hb2.cell 2
  have hc := HC3.out w3 hE
  go_wp2_with fail
  refine hc.mono ?_
  rintro e w4 ⟨rfl, h2⟩
  replace hE := hE.trans h2
  obtain ⟨q, hq⟩ : ∃ q, decide (g.outs = h.outs) = q := ⟨_, rfl⟩
  have HX := Lib.hid (show q = (decide (g.nodes.map Nd.c = h.nodes.map Nd.c) && decide (g.ins = h.ins) && decide (g.outs = h.outs)) by rw [H1.out, H2.out, hq]; rfl)
  rw [hq]
  clear x2 y2 hc hb1 hb2 h2 H1 H2 hq
  go_wp2_with fail
  go_ret
  exact HP.out _ _ HX.out hE

end Go.Proofs.Ytdhdbmfipkppiaa

namespace Go.Proofs.Ytdhdbmfipkppiaa
set_option linter.unusedSimpArgs false
set_option linter.unusedVariables false
set_option linter.unnecessarySimpa false
set_option maxRecDepth 10000
open Go.RowKit

/-- What two images are compared by. -/
def stE (L0 L1 L2 M0 M1 M2 : List Isa.Cm) : Nat → Bool
  | 0 => true
  | 1 => decide (L0 = M0)
  | 2 => decide (L0 = M0) && decide (L1 = M1)
  | _ => decide (L0 = M0) && decide (L1 = M1) && decide (L2 = M2)
def sameI (g : Gr) (pl : List Int) (L0 L1 L2 : List Isa.Cm) (h : Gr) (ql : List Int) (M0 M1 M2 : List Isa.Cm) : Bool := stE L0 L1 L2 M0 M1 M2 3 && decide (g.c = h.c) && decide (pl = ql)
theorem sameI_iff (g : Gr) (pl : List Int) (L0 L1 L2 : List Isa.Cm) (h : Gr) (ql : List Int) (M0 M1 M2 : List Isa.Cm) : sameI g pl L0 L1 L2 h ql M0 M1 M2 = true ↔ g.c = h.c ∧ pl = ql ∧ L0 = M0 ∧ L1 = M1 ∧ L2 = M2 := by
  simp only [sameI, stE, Bool.and_eq_true, decide_eq_true_eq]
  constructor
  · rintro ⟨⟨⟨⟨h1, h2⟩, h3⟩, h4⟩, h5⟩; exact ⟨h4, h5, h1, h2, h3⟩
  · rintro ⟨h4, h5, h1, h2, h3⟩; exact ⟨⟨⟨⟨h1, h2⟩, h3⟩, h4⟩, h5⟩

def SamePost (b : Bool) (w : World) (e : Ending) (w' : World) : Prop := e = .returned (.bool b) ∧ Ext w w'

set_option maxRecDepth 20000 in
set_option maxHeartbeats 6400000 in
theorem imageSame_calls (g h : Gr) (pV s0 s1 s2 qV r0 r1 r2 : Value) (pl ql : List Int) (L0 L1 L2 M0 M1 M2 : List Isa.Cm) (w : World) (hg : GrAt w g) (hh : GrAt w h) (hp : Ints .i64 w pV pl) (hq : Ints .i64 w qV ql)
    (h0 : Isa.Cmds w s0 L0) (h1 : Isa.Cmds w s1 L1) (h2 : Isa.Cmds w s2 L2) (k0 : Isa.Cmds w r0 M0) (k1 : Isa.Cmds w r1 M1) (k2 : Isa.Cmds w r2 M2) :
    Calls Try.prog 38 #[.agg #[g.iV, g.nV, g.oV, pV, s0, s1, s2], .agg #[h.iV, h.nV, h.oV, qV, r0, r1, r2]] w (SamePost (sameI g pl L0 L1 L2 h ql M0 M1 M2) w) := by
  have HP : Hid (∀ (b : Bool) w', b = (stE L0 L1 L2 M0 M1 M2 3 && decide (g.c = h.c) && decide (pl = ql)) → Ext w w' → SamePost (sameI g pl L0 L1 L2 h ql M0 M1 M2) w (.returned (.bool b)) w') := fun b w' h1 h2 => ⟨by rw [h1]; rfl, h2⟩
  generalize SamePost (sameI g pl L0 L1 L2 h ql M0 M1 M2) w = PP at *
  have hb1 := (Blk.new w #[g.iV, g.nV, g.oV, pV, s0, s1, s2] 54).ext (ext_alloc _ (.cells #[h.iV, h.nV, h.oV, qV, r0, r1, r2] 54))
  have hb2 := Blk.new (w.alloc (.cells #[g.iV, g.nV, g.oV, pV, s0, s1, s2] 54)) #[h.iV, h.nV, h.oV, qV, r0, r1, r2] 54
  rw [show (w.alloc (.cells #[g.iV, g.nV, g.oV, pV, s0, s1, s2] 54)).heap.size = w.heap.size + 1 from by simp] at hb2
  have hE := (ext_alloc w (.cells #[g.iV, g.nV, g.oV, pV, s0, s1, s2] 54)).trans (ext_alloc _ (.cells #[h.iV, h.nV, h.oV, qV, r0, r1, r2] 54))
  have HC0 := Lib.hid (fun W (e : Ext w W) => eqs_cm s0 r0 L0 M0 W (h0.below e (Nat.le_refl _)) (k0.below e (Nat.le_refl _)))
  have HC1 := Lib.hid (fun W (e : Ext w W) => eqs_cm s1 r1 L1 M1 W (h1.below e (Nat.le_refl _)) (k1.below e (Nat.le_refl _)))
  have HC2 := Lib.hid (fun W (e : Ext w W) => eqs_cm s2 r2 L2 M2 W (h2.below e (Nat.le_refl _)) (k2.below e (Nat.le_refl _)))
  have HCG := Lib.hid (fun W (e : Ext w W) => graphSame_calls g h W (hg.ext e) (hh.ext e))
  have HCP := Lib.hid (fun W (e : Ext w W) => eqs_i64 pV qV pl ql W (hp.ext e) (hq.ext e))
  clear h0 h1 h2 k0 k1 k2 hg hh hp hq
  go_enter Try.func38, Try.ntmps38
  go_upto_region 1 with fail
  generalize World.alloc (World.alloc w _) _ = w1 at *
  have HE := Lib.hid hE
  have HB1 := Lib.hid hb1
  have HB2 := Lib.hid hb2
  clear hE hb1 hb2
  have HS0 : Hid (true = stE L0 L1 L2 M0 M1 M2 0) := rfl
  have HS1 : Hid (stE L0 L1 L2 M0 M1 M2 1 = (stE L0 L1 L2 M0 M1 M2 0 && decide (L0 = M0))) := by show _ = _; simp [stE]
  have HS2 : Hid (stE L0 L1 L2 M0 M1 M2 2 = (stE L0 L1 L2 M0 M1 M2 1 && decide (L1 = M1))) := rfl
  have HS3 : Hid (stE L0 L1 L2 M0 M1 M2 3 = (stE L0 L1 L2 M0 M1 M2 2 && decide (L2 = M2))) := rfl
  generalize stE L0 L1 L2 M0 M1 M2 = st at *
  go_wp2_with fail
  go_loopw [5, 7] (fun v i wr => ∃ (k : Nat) (b : Bool), v = .bool b ∧ k ≤ 3 ∧ i = .int .i64 k ∧ Hid (b = st k) ∧ Hid (Ext w1 wr)) (fun _ i _ => 3 - (intOf i).toNat)
  case atStart => exact ⟨0, true, rfl, by omega, rfl, HS0, Ext.refl _⟩
  case round =>
    obtain ⟨k, b, rfl, hk, rfl, HB, HX⟩ := hrel
    rcases (by omega : k = 0 ∨ k = 1 ∨ k = 2 ∨ k = 3) with rfl | rfl | rfl | rfl
    · have c1 : ∀ W, Ext w1 W → World.cell? W ⟨w.heap.size, 4, none⟩ = some s0 := fun W e => (HB1.out.ext e).cell 4
      have c2 : ∀ W, Ext w1 W → World.cell? W ⟨w.heap.size + 1, 4, none⟩ = some r0 := fun W e => (HB2.out.ext e).cell 4
      have hXd := HX.out.trans (Ext.drew wr)
      go_wp2_with fail
      refine wp_region_S (fun W => Ext w1 W) [(0, true), (1, true), (2, true), (3, true), (4, true), (5, true), (6, true), (7, true), (8, true), (9, true), (10, false), (11, true), (12, true)] (by kernel_rfl) (by kernel_rfl) (fun _ _ d _ _ h => by cases d <;> exact h) hXd ?_
      generalize wr.drew = w2 at *
      cases b with
      | false =>
        simp only [pickE, List.getElem?_cons_zero, List.getElem?_cons_succ]
        repeat (first | (refine wpF_skip (by rfl) ?_; simp only [Act.put, List.setIfInBounds_toArray, List.set_cons_zero, List.set_cons_succ]) | (refine wpF_pure (by rfl) (fun W hW => by go_simp; with_reducible rfl) ?_; simp only [Act.put, List.setIfInBounds_toArray, List.set_cons_zero, List.set_cons_succ]))
        refine wpF_nil ?_
        have HBN : Hid (false = st 1) := by show _ = _; rw [HS1.out, ← HB.out]; rfl
        have HXN := Lib.hid hXd
        clear c1 c2 hXd
        go_wp2_with fail
        go_roundw
        case rel => exact ⟨1, false, rfl, by omega, by go_num, HBN, HXN⟩
        case measure => simp [intOf]
      | true =>
        simp only [pickE, List.getElem?_cons_zero, List.getElem?_cons_succ]
        repeat (first | (refine wpF_skip (by rfl) ?_; simp only [Act.put, List.setIfInBounds_toArray, List.set_cons_zero, List.set_cons_succ]) | (refine wpF_pure (by rfl) (fun W hW => by go_simp; with_reducible rfl) ?_; simp only [Act.put, List.setIfInBounds_toArray, List.set_cons_zero, List.set_cons_succ]))
        refine wpF_step (by rfl) (fun K hK => ?_)
        go_simp
        refine (HC0.out w2 (HE.out.trans hXd)).mono ?_
        rintro e w3 ⟨rfl, h3⟩
        have hX3 := hXd.trans h3
        refine hK _ _ hX3 ?_
        clear hK K
        have HBN : Hid (decide (L0 = M0) = st 1) := by show _ = _; rw [HS1.out, ← HB.out]; rfl
        generalize decide (L0 = M0) = q at *
        try simp only [Act.put, List.setIfInBounds_toArray, List.set_cons_zero, List.set_cons_succ]
        repeat (first | (refine wpF_skip (by rfl) ?_; simp only [Act.put, List.setIfInBounds_toArray, List.set_cons_zero, List.set_cons_succ]) | (refine wpF_pure (by rfl) (fun W hW => by go_simp; with_reducible rfl) ?_; simp only [Act.put, List.setIfInBounds_toArray, List.set_cons_zero, List.set_cons_succ]))
        refine wpF_nil ?_
        have HXN := Lib.hid hX3
        clear c1 c2 hXd h3 hX3
        go_wp2_with fail
        go_roundw
        case rel => exact ⟨1, _, rfl, by omega, by go_num, HBN, HXN⟩
        case measure => simp [intOf]
    · have c1 : ∀ W, Ext w1 W → World.cell? W ⟨w.heap.size, 5, none⟩ = some s1 := fun W e => (HB1.out.ext e).cell 5
      have c2 : ∀ W, Ext w1 W → World.cell? W ⟨w.heap.size + 1, 5, none⟩ = some r1 := fun W e => (HB2.out.ext e).cell 5
      have hXd := HX.out.trans (Ext.drew wr)
      go_wp2_with fail
      refine wp_region_S (fun W => Ext w1 W) [(0, true), (1, true), (2, true), (3, true), (4, true), (5, true), (6, true), (7, true), (8, true), (9, true), (10, false), (11, true), (12, true)] (by kernel_rfl) (by kernel_rfl) (fun _ _ d _ _ h => by cases d <;> exact h) hXd ?_
      generalize wr.drew = w2 at *
      cases b with
      | false =>
        simp only [pickE, List.getElem?_cons_zero, List.getElem?_cons_succ]
        repeat (first | (refine wpF_skip (by rfl) ?_; simp only [Act.put, List.setIfInBounds_toArray, List.set_cons_zero, List.set_cons_succ]) | (refine wpF_pure (by rfl) (fun W hW => by go_simp; with_reducible rfl) ?_; simp only [Act.put, List.setIfInBounds_toArray, List.set_cons_zero, List.set_cons_succ]))
        refine wpF_nil ?_
        have HBN : Hid (false = st 2) := by show _ = _; rw [HS2.out, ← HB.out]; rfl
        have HXN := Lib.hid hXd
        clear c1 c2 hXd
        go_wp2_with fail
        go_roundw
        case rel => exact ⟨2, false, rfl, by omega, by go_num, HBN, HXN⟩
        case measure => simp [intOf]
      | true =>
        simp only [pickE, List.getElem?_cons_zero, List.getElem?_cons_succ]
        repeat (first | (refine wpF_skip (by rfl) ?_; simp only [Act.put, List.setIfInBounds_toArray, List.set_cons_zero, List.set_cons_succ]) | (refine wpF_pure (by rfl) (fun W hW => by go_simp; with_reducible rfl) ?_; simp only [Act.put, List.setIfInBounds_toArray, List.set_cons_zero, List.set_cons_succ]))
        refine wpF_step (by rfl) (fun K hK => ?_)
        go_simp
        refine (HC1.out w2 (HE.out.trans hXd)).mono ?_
        rintro e w3 ⟨rfl, h3⟩
        have hX3 := hXd.trans h3
        refine hK _ _ hX3 ?_
        clear hK K
        have HBN : Hid (decide (L1 = M1) = st 2) := by show _ = _; rw [HS2.out, ← HB.out]; rfl
        generalize decide (L1 = M1) = q at *
        try simp only [Act.put, List.setIfInBounds_toArray, List.set_cons_zero, List.set_cons_succ]
        repeat (first | (refine wpF_skip (by rfl) ?_; simp only [Act.put, List.setIfInBounds_toArray, List.set_cons_zero, List.set_cons_succ]) | (refine wpF_pure (by rfl) (fun W hW => by go_simp; with_reducible rfl) ?_; simp only [Act.put, List.setIfInBounds_toArray, List.set_cons_zero, List.set_cons_succ]))
        refine wpF_nil ?_
        have HXN := Lib.hid hX3
        clear c1 c2 hXd h3 hX3
        go_wp2_with fail
        go_roundw
        case rel => exact ⟨2, _, rfl, by omega, by go_num, HBN, HXN⟩
        case measure => simp [intOf]
    · have c1 : ∀ W, Ext w1 W → World.cell? W ⟨w.heap.size, 6, none⟩ = some s2 := fun W e => (HB1.out.ext e).cell 6
      have c2 : ∀ W, Ext w1 W → World.cell? W ⟨w.heap.size + 1, 6, none⟩ = some r2 := fun W e => (HB2.out.ext e).cell 6
      have hXd := HX.out.trans (Ext.drew wr)
      go_wp2_with fail
      refine wp_region_S (fun W => Ext w1 W) [(0, true), (1, true), (2, true), (3, true), (4, true), (5, true), (6, true), (7, true), (8, true), (9, true), (10, false), (11, true), (12, true)] (by kernel_rfl) (by kernel_rfl) (fun _ _ d _ _ h => by cases d <;> exact h) hXd ?_
      generalize wr.drew = w2 at *
      cases b with
      | false =>
        simp only [pickE, List.getElem?_cons_zero, List.getElem?_cons_succ]
        repeat (first | (refine wpF_skip (by rfl) ?_; simp only [Act.put, List.setIfInBounds_toArray, List.set_cons_zero, List.set_cons_succ]) | (refine wpF_pure (by rfl) (fun W hW => by go_simp; with_reducible rfl) ?_; simp only [Act.put, List.setIfInBounds_toArray, List.set_cons_zero, List.set_cons_succ]))
        refine wpF_nil ?_
        have HBN : Hid (false = st 3) := by show _ = _; rw [HS3.out, ← HB.out]; rfl
        have HXN := Lib.hid hXd
        clear c1 c2 hXd
        go_wp2_with fail
        go_roundw
        case rel => exact ⟨3, false, rfl, by omega, by go_num, HBN, HXN⟩
        case measure => simp [intOf]
      | true =>
        simp only [pickE, List.getElem?_cons_zero, List.getElem?_cons_succ]
        repeat (first | (refine wpF_skip (by rfl) ?_; simp only [Act.put, List.setIfInBounds_toArray, List.set_cons_zero, List.set_cons_succ]) | (refine wpF_pure (by rfl) (fun W hW => by go_simp; with_reducible rfl) ?_; simp only [Act.put, List.setIfInBounds_toArray, List.set_cons_zero, List.set_cons_succ]))
        refine wpF_step (by rfl) (fun K hK => ?_)
        go_simp
        refine (HC2.out w2 (HE.out.trans hXd)).mono ?_
        rintro e w3 ⟨rfl, h3⟩
        have hX3 := hXd.trans h3
        refine hK _ _ hX3 ?_
        clear hK K
        have HBN : Hid (decide (L2 = M2) = st 3) := by show _ = _; rw [HS3.out, ← HB.out]; rfl
        generalize decide (L2 = M2) = q at *
        try simp only [Act.put, List.setIfInBounds_toArray, List.set_cons_zero, List.set_cons_succ]
        repeat (first | (refine wpF_skip (by rfl) ?_; simp only [Act.put, List.setIfInBounds_toArray, List.set_cons_zero, List.set_cons_succ]) | (refine wpF_pure (by rfl) (fun W hW => by go_simp; with_reducible rfl) ?_; simp only [Act.put, List.setIfInBounds_toArray, List.set_cons_zero, List.set_cons_succ]))
        refine wpF_nil ?_
        have HXN := Lib.hid hX3
        clear c1 c2 hXd h3 hX3
        go_wp2_with fail
        go_roundw
        case rel => exact ⟨3, _, rfl, by omega, by go_num, HBN, HXN⟩
        case measure => simp [intOf]
    · cases b with
      | false =>
        have HF := Lib.hid (show false = (st 3 && decide (g.c = h.c) && decide (pl = ql)) by rw [← HB.out]; rfl)
        have HXX := Lib.hid (HE.out.trans HX.out)
        go_wp2_with fail
        exact HP.out _ _ HF.out HXX.out
      | true =>
        have hb1 := HB1.out.ext HX.out
        have hb2 := HB2.out.ext HX.out
        have x0 : World.cell? wr ⟨w.heap.size, 0, none⟩ = some g.iV := hb1.cell 0
        have y0 : World.cell? wr ⟨w.heap.size + 1, 0, none⟩ = some h.iV := hb2.cell 0
        have x1 : World.cell? wr ⟨w.heap.size, 1, none⟩ = some g.nV := hb1.cell 1
        have y1 : World.cell? wr ⟨w.heap.size + 1, 1, none⟩ = some h.nV := hb2.cell 1
        have x2 : World.cell? wr ⟨w.heap.size, 2, none⟩ = some g.oV := hb1.cell 2
        have y2 : World.cell? wr ⟨w.heap.size + 1, 2, none⟩ = some h.oV := hb2.cell 2
        have hc := HCG.out wr (HE.out.trans HX.out)
        go_wp2_with fail
        refine hc.mono ?_
        rintro e w2 ⟨rfl, h2⟩
        replace hb1 := hb1.ext h2
        replace hb2 := hb2.ext h2
        have HX2 := Lib.hid ((HE.out.trans HX.out).trans h2)
        clear x0 y0 x1 y1 x2 y2 hc h2
        by_cases e1 : g.c = h.c
        · have x3 : World.cell? w2 ⟨w.heap.size, 3, none⟩ = some pV := hb1.cell 3
          have y3 : World.cell? w2 ⟨w.heap.size + 1, 3, none⟩ = some qV := hb2.cell 3
          have hc := HCP.out w2 HX2.out
          have HQ := Lib.hid (decide_eq_true e1)
          rw [decide_eq_true e1]
          clear e1
          go_wp2_with fail
          refine hc.mono ?_
          rintro e w3 ⟨rfl, h3⟩
          have HX3 := Lib.hid (HX2.out.trans h3)
          obtain ⟨q, hq⟩ : ∃ q, decide (pl = ql) = q := ⟨_, rfl⟩
          have HF := Lib.hid (show q = (st 3 && decide (g.c = h.c) && decide (pl = ql)) by rw [← HB.out, HQ.out, hq]; rfl)
          rw [hq]
          clear x3 y3 hc hb1 hb2 h3 hq HQ
          go_wp2_with fail
          exact HP.out _ _ HF.out HX3.out
        · have HF := Lib.hid (show false = (st 3 && decide (g.c = h.c) && decide (pl = ql)) by rw [decide_eq_false e1]; simp)
          rw [decide_eq_false e1]
          clear e1 hb1 hb2
          go_wp2_with fail
          exact HP.out _ _ HF.out HX2.out

end Go.Proofs.Ytdhdbmfipkppiaa
