/- The walk of the law ModelRows. -/
import Derived.Test.YtdhdbmfipkppiaaModX
import Derived.Test.YtdhdbmfipkppiaaModJ
namespace Go.Proofs.Ytdhdbmfipkppiaa
set_option linter.unusedSimpArgs false
set_option linter.unusedVariables false
set_option linter.unnecessarySimpa false
open Go.RowKit

theorem GrL.one {w0 W : World} {base : Nat} {x : Gr} (hL : GrL w0 base W x) : Array.all #[x.iV, x.nV, x.oV] (·.oneCell') = true := by
  obtain ⟨_, _, e1, _⟩ := hL.ins.form
  obtain ⟨_, _, e2, _⟩ := row_of_own hL.own
  obtain ⟨_, _, e3, _⟩ := hL.outs.form
  rw [e1, e2, e3]
  simp [Value.oneCell']

set_option maxRecDepth 20000 in
set_option maxHeartbeats 12800000 in
theorem modelRows_calls (g h : Gr) (w : World) (hg : GrIn w g) (hh : GrIn w h) :
    Calls Try.prog 7 #[.agg #[g.iV, g.nV, g.oV], .agg #[h.iV, h.nV, h.oV]] w fun e w' => e = .returned (.bool true) ∧ Below w.heap.size w w' := by
  have hE1 := (ext_alloc w (.cells #[g.iV, g.nV, g.oV] 26)).trans (ext_alloc _ (.cells #[h.iV, h.nV, h.oV] 26))
  have hb1 := (Blk.new w #[g.iV, g.nV, g.oV] 26).ext (ext_alloc _ (.cells #[h.iV, h.nV, h.oV] 26))
  have hb2 := Blk.new (w.alloc (.cells #[g.iV, g.nV, g.oV] 26)) #[h.iV, h.nV, h.oV] 26
  rw [show (w.alloc (.cells #[g.iV, g.nV, g.oV] 26)).heap.size = w.heap.size + 1 from by simp] at hb2
  have hsh := fun W => shown04_calls W
  have hls := fun W (e : Ext w W) => less_calls g w W hg e
  have hlt := fun W (e : Ext w W) => less_calls h w W hh e
  go_enter Try.func7, Try.ntmps7
  go_upto_region 1 with fail
  generalize World.alloc (World.alloc w _) _ = w1 at *
  go_upto_region 2 with (go_at_call 14; refine (hsh _).mono ?_; rintro e w2 ⟨rfl, h2⟩)
  replace hb1 := hb1.ext h2
  replace hb2 := hb2.ext h2
  have hE2 := hE1.trans h2
  clear hsh hE1 h2
  have d0 : World.cell? w2 ⟨w.heap.size, 0, none⟩ = some g.iV := hb1.cell 0
  have d1 : World.cell? w2 ⟨w.heap.size, 1, none⟩ = some g.nV := hb1.cell 1
  have d2 : World.cell? w2 ⟨w.heap.size, 2, none⟩ = some g.oV := hb1.cell 2
  have hlt2 := hb2.lt
  go_wp2_with fail
  refine (hls _ hE2).mono ?_
  rintro e w3 ⟨x, rfl, hL, h3⟩
  clear d0 d1 d2 hls
  replace hb1 := hb1.ext h3
  replace hb2 := hb2.ext h3
  have hE3 := hE2.trans h3
  have HO := Lib.hid hL.one
  have hL4 := hL.setRow (b := w.heap.size) (Nat.le_refl _) (by omega) #[x.iV, x.nV, x.oV]
  have hb14 : Blk (w3.setRow w.heap.size #[x.iV, x.nV, x.oV]) w.heap.size #[x.iV, x.nV, x.oV] 26 := setRow_heap _ _ _ _ _ _ hb1
  have hb24 := hb2.grown (setRow_grown w3 w.heap.size #[x.iV, x.nV, x.oV]) (by simp)
  have hE4 : Ext w (w3.setRow w.heap.size #[x.iV, x.nV, x.oV]) := ext_setRow hE3 _ (Nat.le_refl _)
  have hsz2 := hE2.size
  clear hL hE2 hE3 hb2
  go_upto_region 3 with (refine wpList_store_row rfl 26 _ _ rfl w.heap.size #[x.iV, x.nV, x.oV] rfl rfl 26 _ hb1 (by kernel_rfl) rfl HO.out ?_)
  clear hb1 h3
  generalize World.setRow w3 _ _ = w4 at *
  have d0 : World.cell? w4 ⟨w.heap.size + 1, 0, none⟩ = some h.iV := hb24.cell 0
  have d1 : World.cell? w4 ⟨w.heap.size + 1, 1, none⟩ = some h.nV := hb24.cell 1
  have d2 : World.cell? w4 ⟨w.heap.size + 1, 2, none⟩ = some h.oV := hb24.cell 2
  have hlt4 := hb24.lt
  go_wp2_with fail
  refine (hlt _ hE4).mono ?_
  rintro e w5 ⟨y, rfl, hM, h5⟩
  clear d0 d1 d2 hlt
  replace hb14 := hb14.ext h5
  replace hb24 := hb24.ext h5
  have hE5 := hE4.trans h5
  have HO2 := Lib.hid hM.one
  have hL6 := (hL4.later h5).setRow (b := w.heap.size + 1) (by omega) (by omega) #[y.iV, y.nV, y.oV]
  have hM6 := hM.setRow (b := w.heap.size + 1) (by omega) (by omega) #[y.iV, y.nV, y.oV]
  have hb26 : Blk (w5.setRow (w.heap.size + 1) #[y.iV, y.nV, y.oV]) (w.heap.size + 1) #[y.iV, y.nV, y.oV] 26 := setRow_heap _ _ _ _ _ _ hb24
  have hb16 := hb14.grown (setRow_grown w5 (w.heap.size + 1) #[y.iV, y.nV, y.oV]) (by simp)
  have hE6 : Ext w (w5.setRow (w.heap.size + 1) #[y.iV, y.nV, y.oV]) := ext_setRow hE5 _ (by omega)
  clear hL4 hM hE4 hE5 hb14
  go_upto_region 4 with (refine wpList_store_row rfl 26 _ _ rfl (w.heap.size + 1) #[y.iV, y.nV, y.oV] rfl rfl 26 _ hb24 (by kernel_rfl) rfl HO2.out ?_)
  clear hb24 h5 hlt2 hlt4 hsz2
  generalize World.setRow w5 _ _ = w6 at *
  have hgx := hL6.at
  have hgy := hM6.at
  clear hL6 hM6
  have hgdx : (valuesR x).2 = 0 → GoodG x := fun e => valid_ok e (fun n hn => (hgx.each n hn).isIn)
  have hgdy : (valuesR y).2 = 0 → GoodG y := fun e => valid_ok e (fun n hn => (hgy.each n hn).isIn)
  have hpx := modelPut_calls x w6 hgx
  have hpy := fun W (e : Ext w6 W) => modelPut_calls y W (hgy.ext e)
  unfold PutPost at hpx hpy
  have d0 : World.cell? w6 ⟨w.heap.size, 0, none⟩ = some x.iV := hb16.cell 0
  have d1 : World.cell? w6 ⟨w.heap.size, 1, none⟩ = some x.nV := hb16.cell 1
  have d2 : World.cell? w6 ⟨w.heap.size, 2, none⟩ = some x.oV := hb16.cell 2
  go_wp2_with fail
  refine hpx.mono ?_
  rintro e w7 ⟨hx0, hx1, h7⟩
  clear d0 d1 d2 hpx
  replace hpy := hpy w7 h7
  have hb27 := hb26.ext h7
  have hb17 := hb16.ext h7
  have hE7 := hE6.trans h7
  have d0 : World.cell? w7 ⟨w.heap.size + 1, 0, none⟩ = some y.iV := hb27.cell 0
  have d1 : World.cell? w7 ⟨w.heap.size + 1, 1, none⟩ = some y.nV := hb27.cell 1
  have d2 : World.cell? w7 ⟨w.heap.size + 1, 2, none⟩ = some y.oV := hb27.cell 2
  clear hb16 hb26 hE6
  by_cases zx : (valuesR x).2 = 0
  case neg =>
    have e1 := hx1 zx
    subst e1
    have t1 : ((valuesR x).2 != 0) = true := by simp [zx]
    clear hx0 hx1
    by_cases zy : (valuesR y).2 = 0
    · go_wp2_with fail
      refine hpy.mono ?_
      rintro e w8 ⟨hy0, _, h8⟩
      obtain ⟨v8, rfl, _⟩ := hy0 zy
      clear hy0 d0 d1 d2
      go_wp2_with fail
      go_ret
      exact ⟨rfl, hE7.trans h8⟩
    · go_wp2_with fail
      refine hpy.mono ?_
      rintro e w8 ⟨_, hy1, h8⟩
      have e1 := hy1 zy
      subst e1
      clear hy1 d0 d1 d2
      go_wp2_with fail
      go_ret
      exact ⟨rfl, hE7.trans h8⟩
  obtain ⟨vx, rfl, hox⟩ := hx0 zx
  clear hx0 hx1
  by_cases zy : (valuesR y).2 = 0
  case neg =>
    have t1 : ((valuesR y).2 != 0) = true := by simp [zy]
    go_wp2_with fail
    refine hpy.mono ?_
    rintro e w8 ⟨_, hy1, h8⟩
    have e1 := hy1 zy
    subst e1
    clear hy1 d0 d1 d2
    go_wp2_with fail
    go_ret
    exact ⟨rfl, hE7.trans h8⟩
  have gx := hgdx zx
  have gy := hgdy zy
  have HTX := Lib.hid (fun t => taken_enc zx gx t)
  have HTY := Lib.hid (taken_all zy gy)
  have HLX := Lib.hid (enc_long x.c)
  have HLY := Lib.hid (enc_long y.c)
  have HEQ : Hid (decide (x.c = y.c) = decide (encG x.c = encG y.c)) := by
    show _ = _
    rw [Bool.eq_iff_iff, decide_eq_true_iff, decide_eq_true_iff]
    exact ⟨fun e => by rw [e], fun e => enc_inj zx gx zy gy e⟩
  have hbx := encG_bytes x.c
  have hby := encG_bytes y.c
  have hlx : (encG x.c).length ≤ 1000000 := by
    have h1 := encG_len x.c
    have h2 := gx.il
    have h3 := gx.nl
    have h4 := gx.ol
    have h5 := flat_le x.nodes (fun n hn => long_le (hgx.each n hn))
    have h6 : (x.nodes.flatMap fun n => encN n.c).length = (x.c.nodes.map longN).sum := by
      rw [← nodes_len]
      show _ = ((x.nodes.map Nd.c).flatMap encN).length
      rw [List.flatMap_map]
    have h7 : x.c.ins.length = x.ins.length := rfl
    have h8 : x.c.outs.length = x.outs.length := rfl
    omega
  have hly : (encG y.c).length ≤ 1000000 := by
    have h1 := encG_len y.c
    have h2 := gy.il
    have h3 := gy.nl
    have h4 := gy.ol
    have h5 := flat_le y.nodes (fun n hn => long_le (hgy.each n hn))
    have h6 : (y.nodes.flatMap fun n => encN n.c).length = (y.c.nodes.map longN).sum := by
      rw [← nodes_len]
      show _ = ((y.nodes.map Nd.c).flatMap encN).length
      rw [List.flatMap_map]
    have h7 : y.c.ins.length = y.ins.length := rfl
    have h8 : y.c.outs.length = y.outs.length := rfl
    omega
  clear hgdx hgdy gx gy
  generalize (valuesR y).2 = zyv at *
  generalize (valuesR x).2 = zxv at *
  subst zy
  subst zx
  go_wp2_with fail
  refine hpy.mono ?_
  rintro e w8 ⟨hy0, _, h8⟩
  obtain ⟨vy, rfl, hoy⟩ := hy0 (by trivial)
  clear hy0 hpy d0 d1 d2
  have hb18 := hb17.ext h8
  have hb28 := hb27.ext h8
  have hgx8 := hgx.ext (h7.trans h8)
  have hgy8 := hgy.ext (h7.trans h8)
  have hox8 := hox.ext h8
  have hE8 := hE7.trans h8
  clear hb17 hb27 hgx hgy hox hE7 h7 h8
  have XC := Lib.hid (rfl : x.c = x.c)
  generalize hxe : encG x.c = bx at *
  generalize hye : encG y.c = bby at *
  obtain ⟨Ax, cx, ex, hx1, hx2, _⟩ := id hox8.ints.form
  obtain ⟨Ay, cy, ey, hy1, hy2, _⟩ := id hoy.ints.form
  unfold maxLen at hx2 hy2
  subst ex
  subst ey
  go_wp2_with (at_builtin; refine stopped ?_)
  refine wpList_append_fresh rfl rfl elem_u8 rfl hox8.ints rfl (one_ints _ _) (by omega) (by omega) ?_
  intro v9 w9 ho9 hE9
  have hoy9 := hoy.ext hE9
  have hox9 := hox8.ext hE9
  go_wp2_with (at_builtin; refine stopped ?_)
  refine wpList_append_row rfl rfl elem_u8 ho9 rfl hoy9.ints rfl (one_ints _ _) (by omega) (by omega) hE9.size ?_
  intro v10 w10 ho10 hg10 _
  have hE10 : Ext w8 w10 := below_own hE9 hE9.size ho9 (Nat.le_refl _) hg10
  have i10 : Ints .u8 w10 v10 (bx ++ bby) := ints_of_own (by rw [List.map_append]; exact ho10)
  have hb110 := hb18.ext hE10
  have hb210 := hb28.ext hE10
  have hgx10 := hgx8.ext hE10
  have hgy10 := hgy8.ext hE10
  have hox10 := hox8.ext hE10
  have hoy10 := hoy.ext hE10
  have hEA := hE8.trans hE10
  clear hb18 hb28 hgx8 hgy8 hox8 hoy hE8 hE9 hE10 hoy9 hox9 ho9 ho10 hg10
  have hball := hbx.app hby
  have htk := take_calls v10 _ w10 i10 hball
  unfold TakePost at htk
  rw [HTX.out bby] at htk
  have HTA := Lib.hid (HTX.out bby)
  have HLEN : Hid ((bx ++ bby).length = bx.length + bby.length) := List.length_append
  have HDR : Hid ((bx ++ bby).drop bx.length = bby) := List.drop_left
  generalize bx ++ bby = ball at *
  obtain ⟨A0, c0, e0, hl1, hl2, hcell0⟩ := id i10.form
  unfold maxLen at hl2
  have hl3 := HLX.out
  have hl4 := HLY.out
  obtain ⟨bA, oA, e0', _⟩ := hcell0 0 (by have := HLEN.out; omega)
  subst e0'
  subst e0
  clear hcell0
  go_wp2_with fail
  refine htk.mono ?_
  rintro e w11 ⟨_, hs, h11⟩
  obtain ⟨p, hpc, rfl, hG⟩ := hs _ _ rfl
  clear hs htk
  have hz := Blk.new w11 #[.slice none 0 0, .slice none 0 0, .slice none 0 0] 26
  have hQ : Ext w11 ((w11.alloc (.cells #[.slice none 0 0, .slice none 0 0, .slice none 0 0] 26)).setRow w11.heap.size #[p.iV, p.nV, p.oV]) := ext_setRow (ext_alloc _ _) _ (Nat.le_refl _)
  have hbp : Blk ((w11.alloc (.cells #[.slice none 0 0, .slice none 0 0, .slice none 0 0] 26)).setRow w11.heap.size #[p.iV, p.nV, p.oV]) w11.heap.size #[p.iV, p.nV, p.oV] 26 := setRow_heap _ _ _ _ _ _ hz
  have HOp := Lib.hid hG.one
  have hgp := (hG.ext hQ).at
  go_upto_region 10 with (refine wpList_store_row rfl 26 _ _ rfl w11.heap.size #[p.iV, p.nV, p.oV] rfl rfl 26 _ hz (by kernel_rfl) rfl HOp.out ?_)
  have hE12 := h11.trans hQ
  clear hG hQ hz h11 HOp
  generalize World.setRow (w11.alloc _) _ _ = w12 at *
  generalize w11.heap.size = bP at *
  have i12 := i10.ext hE12
  have hd := Ints.drop' i12 (m := bx.length) (by have := HLEN.out; omega)
  rw [HDR.out] at hd
  have htk := take_calls _ _ w12 hd hby
  unfold TakePost at htk
  rw [HTY.out] at htk
  have hlt1 : bx.length < ball.length := by have := HLEN.out; omega
  have hlt2 : bx.length < c0 := by omega
  go_wp2_with fail
  refine htk.mono ?_
  rintro e w13 ⟨_, hs, h13⟩
  obtain ⟨q, hqc, rfl, hG⟩ := hs _ _ rfl
  clear hs htk hd
  have hz := Blk.new w13 #[.slice none 0 0, .slice none 0 0, .slice none 0 0] 26
  have hQ : Ext w13 ((w13.alloc (.cells #[.slice none 0 0, .slice none 0 0, .slice none 0 0] 26)).setRow w13.heap.size #[q.iV, q.nV, q.oV]) := ext_setRow (ext_alloc _ _) _ (Nat.le_refl _)
  have hbq : Blk ((w13.alloc (.cells #[.slice none 0 0, .slice none 0 0, .slice none 0 0] 26)).setRow w13.heap.size #[q.iV, q.nV, q.oV]) w13.heap.size #[q.iV, q.nV, q.oV] 26 := setRow_heap _ _ _ _ _ _ hz
  have HOq := Lib.hid hG.one
  have hgq := (hG.ext hQ).at
  go_upto_region 13 with (refine wpList_store_row rfl 26 _ _ rfl w13.heap.size #[q.iV, q.nV, q.oV] rfl rfl 26 _ hz (by kernel_rfl) rfl HOq.out ?_)
  have hE14 := h13.trans hQ
  clear hG hQ hz h13 HOq
  generalize World.setRow (w13.alloc _) _ _ = w14 at *
  generalize w13.heap.size = bQ at *
  have i14 := i12.ext hE14
  have hwh := whole_calls _ _ w14 i14 hball
  unfold WholePost at hwh
  rw [HTA.out] at hwh
  go_wp2_with fail
  refine hwh.mono ?_
  rintro e w15 ⟨_, hs, h15⟩
  have e1 := hs (fun c hc => by
    simp only [Option.some.injEq, Prod.mk.injEq] at hc
    have := HLEN.out
    omega)
  subst e1
  clear hs hwh
  have hz := Blk.new w15 #[.slice none 0 0, .slice none 0 0, .slice none 0 0] 26
  have hQ : Ext w15 ((w15.alloc (.cells #[.slice none 0 0, .slice none 0 0, .slice none 0 0] 26)).setRow w15.heap.size #[.slice none 0 0, .slice none 0 0, .slice none 0 0]) := ext_setRow (ext_alloc _ _) _ (Nat.le_refl _)
  go_upto_region 14 with (refine wpList_store_row rfl 26 _ _ rfl w15.heap.size #[.slice none 0 0, .slice none 0 0, .slice none 0 0] rfl rfl 26 _ hz (by kernel_rfl) rfl (by simp [Value.oneCell']) ?_)
  have hE16 := h15.trans hQ
  clear hQ hz h15
  generalize World.setRow (w15.alloc _) _ _ = w16 at *
  have hA := (hE12.trans hE14).trans hE16
  have hB1 := hb110.ext hA
  have hB2 := hb210.ext hA
  have hBp := (hbp.ext hE14).ext hE16
  have hBq := hbq.ext hE16
  have hX := hgx10.ext hA
  have hY := hgy10.ext hA
  have hPP := (hgp.ext hE14).ext hE16
  have hQQ := hgq.ext hE16
  have hVx := hox10.ext hA
  have hVy := hoy10.ext hA
  have hEF := hEA.trans hA
  clear hb110 hb210 hbp hbq hgx10 hgy10 hgp hgq hox10 hoy10 hEA hA hE12 hE14 hE16 i10 i12 i14
  have s1 := fun W (e : Ext w16 W) => same_calls p x W (hPP.ext e) (hX.ext e)
  have s2 := fun W (e : Ext w16 W) => same_calls q y W (hQQ.ext e) (hY.ext e)
  have s3 := fun W (e : Ext w16 W) => same_calls x y W (hX.ext e) (hY.ext e)
  rw [decide_eq_true hpc] at s1
  rw [decide_eq_true hqc] at s2
  rw [HEQ.out] at s3
  have aa0 : World.cell? w16 ⟨bP, 0, none⟩ = some p.iV := hBp.cell 0
  have bb0 : World.cell? w16 ⟨w.heap.size, 0, none⟩ = some x.iV := hB1.cell 0
  have aa1 : World.cell? w16 ⟨bP, 1, none⟩ = some p.nV := hBp.cell 1
  have bb1 : World.cell? w16 ⟨w.heap.size, 1, none⟩ = some x.nV := hB1.cell 1
  have aa2 : World.cell? w16 ⟨bP, 2, none⟩ = some p.oV := hBp.cell 2
  have bb2 : World.cell? w16 ⟨w.heap.size, 2, none⟩ = some x.oV := hB1.cell 2
  have s1' := s1 w16 (Ext.refl _)
  go_wp2_with fail
  refine s1'.mono ?_
  rintro e w17 ⟨rfl, hn0⟩
  clear aa0 aa1 aa2 bb0 bb1 bb2 s1 s1'
  have hF := hn0
  have aa0 : World.cell? w17 ⟨bQ, 0, none⟩ = some q.iV := (hBq.ext hF).cell 0
  have bb0 : World.cell? w17 ⟨w.heap.size + 1, 0, none⟩ = some y.iV := (hB2.ext hF).cell 0
  have aa1 : World.cell? w17 ⟨bQ, 1, none⟩ = some q.nV := (hBq.ext hF).cell 1
  have bb1 : World.cell? w17 ⟨w.heap.size + 1, 1, none⟩ = some y.nV := (hB2.ext hF).cell 1
  have aa2 : World.cell? w17 ⟨bQ, 2, none⟩ = some q.oV := (hBq.ext hF).cell 2
  have bb2 : World.cell? w17 ⟨w.heap.size + 1, 2, none⟩ = some y.oV := (hB2.ext hF).cell 2
  have s2' := s2 w17 hF
  go_wp2_with fail
  refine s2'.mono ?_
  rintro e w18 ⟨rfl, hn1⟩
  clear aa0 aa1 aa2 bb0 bb1 bb2 s2 s2'
  replace hF := hF.trans hn1
  have aa0 : World.cell? w18 ⟨w.heap.size, 0, none⟩ = some x.iV := (hB1.ext hF).cell 0
  have bb0 : World.cell? w18 ⟨w.heap.size + 1, 0, none⟩ = some y.iV := (hB2.ext hF).cell 0
  have aa1 : World.cell? w18 ⟨w.heap.size, 1, none⟩ = some x.nV := (hB1.ext hF).cell 1
  have bb1 : World.cell? w18 ⟨w.heap.size + 1, 1, none⟩ = some y.nV := (hB2.ext hF).cell 1
  have aa2 : World.cell? w18 ⟨w.heap.size, 2, none⟩ = some x.oV := (hB1.ext hF).cell 2
  have bb2 : World.cell? w18 ⟨w.heap.size + 1, 2, none⟩ = some y.oV := (hB2.ext hF).cell 2
  have s3' := s3 w18 hF
  go_wp2_with fail
  refine s3'.mono ?_
  rintro e w19 ⟨rfl, hn2⟩
  clear aa0 aa1 aa2 bb0 bb1 bb2 s3 s3'
  replace hF := hF.trans hn2
  have t1 := conv_bytes (P := Try.prog) (hVx.ext hF).ints (src := 29) (e := 5) (dst := 9) Try.underlying29 Try.underlying5 Try.underlying9
  have t2 := conv_bytes (P := Try.prog) (hVy.ext hF).ints (src := 29) (e := 5) (dst := 9) Try.underlying29 Try.underlying5 Try.underlying9
  have t3 := strEq hbx hby
  have hEE := hEF.trans hF
  clear hF hVx hVy
  obtain ⟨z, hz⟩ : ∃ z, decide (bx = bby) = z := ⟨_, rfl⟩
  rw [hz] at t3 ⊢
  go_wp2_with fail
  go_ret
  exact ⟨rfl, hEE⟩

end Go.Proofs.Ytdhdbmfipkppiaa
