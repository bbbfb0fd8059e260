/- Graphs as bytes: what is put is taken; the plain laws. -/
/- The walk of the law ModelRows. -/
/- The walk of the law ModelBack. -/
/- The walk of the law ModelOnce. -/
import Derived.Test.YtdhdbmfipkppiaaModH
import Derived.Test.YtdhdbmfipkppiaaModJ
namespace Go.Proofs.Ytdhdbmfipkppiaa
set_option linter.unusedSimpArgs false
set_option linter.unusedVariables false
set_option linter.unnecessarySimpa false
open Go.RowKit

theorem taken_enc {g : Gr} (h : (valuesR g).2 = 0) (hok : GoodG g) (t : List Int) : taken (encG g.c ++ t) = some (g.c, (encG g.c).length) := by
  have he := enc_graph hok.ok t
  unfold taken
  rw [he]
  have h2 : (encG g.c ++ t).length - t.length = (encG g.c).length := by simp
  simp only [h2]
  rw [if_pos ⟨trivial, by rw [err_eq]; exact h, by simp⟩]

theorem taken_all {g : Gr} (h : (valuesR g).2 = 0) (hok : GoodG g) : taken (encG g.c) = some (g.c, (encG g.c).length) := by
  have := taken_enc h hok []
  rwa [List.append_nil] at this

theorem enc_inj {g g' : Gr} (h : (valuesR g).2 = 0) (hok : GoodG g) (h' : (valuesR g').2 = 0) (hok' : GoodG g') (e : encG g.c = encG g'.c) : g.c = g'.c := by
  have h1 := taken_all h hok
  have h2 := taken_all h' hok'
  rw [e, h2] at h1
  simp only [Option.some.injEq, Prod.mk.injEq] at h1
  exact h1.1.symm

theorem taken_some {bs : List Int} {c : Gc} {n : Nat} (h : taken bs = some (c, n)) : c.err = 0 ∧ encG c = bs.take n ∧ n ≤ bs.length ∧ ∃ r, pGraph ⟨bs, false⟩ = (c, r) ∧ r.bad = false ∧ n = bs.length - r.l.length := by
  unfold taken at h
  generalize pGraph ⟨bs, false⟩ = q at *
  obtain ⟨gc, r⟩ := q
  simp only at h
  by_cases hc : r.bad = false ∧ gc.err = 0 ∧ encG gc = bs.take (bs.length - r.l.length)
  · rw [if_pos hc] at h
    simp only [Option.some.injEq, Prod.mk.injEq] at h
    obtain ⟨rfl, rfl⟩ := h
    exact ⟨hc.2.1, hc.2.2, by omega, r, rfl, hc.1, rfl⟩
  · rw [if_neg hc] at h
    cases h

/-- Cut, it is none. -/
theorem taken_cut {g : Gr} (hok : GoodG g) {k : Nat} (hk : k < (encG g.c).length) : taken ((encG g.c).take k) = none := by
  cases ht : taken ((encG g.c).take k) with
  | none => rfl
  | some q =>
    obtain ⟨c, n⟩ := q
    obtain ⟨_, _, _, r, hp, hb, _⟩ := taken_some ht
    exfalso
    have h1 := ext_graph.more ⟨(encG g.c).take k, false⟩ ((encG g.c).drop k) (by rw [hp]; exact hb)
    have h2 := enc_graph hok.ok []
    rw [List.append_nil] at h2
    rw [List.take_append_drop, h2, hp] at h1
    simp only [Prod.mk.injEq, Rd.mk.injEq] at h1
    have h3 := h1.2.1
    have h4 : (encG g.c).drop k = [] := (List.append_eq_nil_iff.1 h3.symm).2
    have := List.drop_eq_nil_iff.1 h4
    omega

theorem enc_long (c : Gc) : 3 ≤ (encG c).length := by rw [encG_len]; omega

end Go.Proofs.Ytdhdbmfipkppiaa

namespace Go.Proofs.Ytdhdbmfipkppiaa
set_option linter.unusedSimpArgs false
set_option linter.unusedVariables false
set_option linter.unnecessarySimpa false
open Go.RowKit

theorem GrL.one {w0 W : World} {base : Nat} {x : Gr} (hL : GrL w0 base W x) : Array.all #[x.iV, x.nV, x.oV] (·.oneCell') = true := by
  obtain ⟨_, _, e1, _⟩ := hL.ins.form
  obtain ⟨_, _, e2, _⟩ := row_of_own hL.own
  obtain ⟨_, _, e3, _⟩ := hL.outs.form
  rw [e1, e2, e3]
  simp [Value.oneCell']

set_option maxRecDepth 20000 in
set_option maxHeartbeats 12800000 in
theorem modelRows_calls (g h : Gr) (w : World) (hg : GrIn w g) (hh : GrIn w h) :
    Calls Try.prog 7 #[.agg #[g.iV, g.nV, g.oV], .agg #[h.iV, h.nV, h.oV]] w fun e w' => e = .returned (.bool true) ∧ Below w.heap.size w w' := by
  have hE1 := (ext_alloc w (.cells #[g.iV, g.nV, g.oV] 26)).trans (ext_alloc _ (.cells #[h.iV, h.nV, h.oV] 26))
  have hb1 := (Blk.new w #[g.iV, g.nV, g.oV] 26).ext (ext_alloc _ (.cells #[h.iV, h.nV, h.oV] 26))
  have hb2 := Blk.new (w.alloc (.cells #[g.iV, g.nV, g.oV] 26)) #[h.iV, h.nV, h.oV] 26
  rw [show (w.alloc (.cells #[g.iV, g.nV, g.oV] 26)).heap.size = w.heap.size + 1 from by simp] at hb2
  have hsh := fun W => shown04_calls W
  have hls := fun W (e : Ext w W) => less_calls g w W hg e
  have hlt := fun W (e : Ext w W) => less_calls h w W hh e
  go_enter Try.func7, Try.ntmps7
  go_upto_region 1 with fail
  generalize World.alloc (World.alloc w _) _ = w1 at *
  go_upto_region 2 with (go_at_call 14; refine (hsh _).mono ?_; rintro e w2 ⟨rfl, h2⟩)
  replace hb1 := hb1.ext h2
  replace hb2 := hb2.ext h2
  have hE2 := hE1.trans h2
  clear hsh hE1 h2
  have d0 : World.cell? w2 ⟨w.heap.size, 0, none⟩ = some g.iV := hb1.cell 0
  have d1 : World.cell? w2 ⟨w.heap.size, 1, none⟩ = some g.nV := hb1.cell 1
  have d2 : World.cell? w2 ⟨w.heap.size, 2, none⟩ = some g.oV := hb1.cell 2
  have hlt2 := hb2.lt
  go_wp2_with fail
  refine (hls _ hE2).mono ?_
  rintro e w3 ⟨x, rfl, hL, h3⟩
  clear d0 d1 d2 hls
  replace hb1 := hb1.ext h3
  replace hb2 := hb2.ext h3
  have hE3 := hE2.trans h3
  have HO := Lib.hid hL.one
  have hL4 := hL.setRow (b := w.heap.size) (Nat.le_refl _) (by omega) #[x.iV, x.nV, x.oV]
  have hb14 : Blk (w3.setRow w.heap.size #[x.iV, x.nV, x.oV]) w.heap.size #[x.iV, x.nV, x.oV] 26 := setRow_heap _ _ _ _ _ _ hb1
  have hb24 := hb2.grown (setRow_grown w3 w.heap.size #[x.iV, x.nV, x.oV]) (by simp)
  have hE4 : Ext w (w3.setRow w.heap.size #[x.iV, x.nV, x.oV]) := ext_setRow hE3 _ (Nat.le_refl _)
  have hsz2 := hE2.size
  clear hL hE2 hE3 hb2
  go_upto_region 3 with (refine wpList_store_row rfl 26 _ _ rfl w.heap.size #[x.iV, x.nV, x.oV] rfl rfl 26 _ hb1 (by kernel_rfl) rfl HO.out ?_)
  clear hb1 h3
  generalize World.setRow w3 _ _ = w4 at *
  have d0 : World.cell? w4 ⟨w.heap.size + 1, 0, none⟩ = some h.iV := hb24.cell 0
  have d1 : World.cell? w4 ⟨w.heap.size + 1, 1, none⟩ = some h.nV := hb24.cell 1
  have d2 : World.cell? w4 ⟨w.heap.size + 1, 2, none⟩ = some h.oV := hb24.cell 2
  have hlt4 := hb24.lt
  go_wp2_with fail
  refine (hlt _ hE4).mono ?_
  rintro e w5 ⟨y, rfl, hM, h5⟩
  clear d0 d1 d2 hlt
  replace hb14 := hb14.ext h5
  replace hb24 := hb24.ext h5
  have hE5 := hE4.trans h5
  have HO2 := Lib.hid hM.one
  have hL6 := (hL4.later h5).setRow (b := w.heap.size + 1) (by omega) (by omega) #[y.iV, y.nV, y.oV]
  have hM6 := hM.setRow (b := w.heap.size + 1) (by omega) (by omega) #[y.iV, y.nV, y.oV]
  have hb26 : Blk (w5.setRow (w.heap.size + 1) #[y.iV, y.nV, y.oV]) (w.heap.size + 1) #[y.iV, y.nV, y.oV] 26 := setRow_heap _ _ _ _ _ _ hb24
  have hb16 := hb14.grown (setRow_grown w5 (w.heap.size + 1) #[y.iV, y.nV, y.oV]) (by simp)
  have hE6 : Ext w (w5.setRow (w.heap.size + 1) #[y.iV, y.nV, y.oV]) := ext_setRow hE5 _ (by omega)
  clear hL4 hM hE4 hE5 hb14
  go_upto_region 4 with (refine wpList_store_row rfl 26 _ _ rfl (w.heap.size + 1) #[y.iV, y.nV, y.oV] rfl rfl 26 _ hb24 (by kernel_rfl) rfl HO2.out ?_)
  clear hb24 h5 hlt2 hlt4 hsz2
  generalize World.setRow w5 _ _ = w6 at *
  have hgx := hL6.at
  have hgy := hM6.at
  clear hL6 hM6
  have hgdx : (valuesR x).2 = 0 → GoodG x := fun e => valid_ok e (fun n hn => (hgx.each n hn).isIn)
  have hgdy : (valuesR y).2 = 0 → GoodG y := fun e => valid_ok e (fun n hn => (hgy.each n hn).isIn)
  have hpx := modelPut_calls x w6 hgx
  have hpy := fun W (e : Ext w6 W) => modelPut_calls y W (hgy.ext e)
  unfold PutPost at hpx hpy
  have d0 : World.cell? w6 ⟨w.heap.size, 0, none⟩ = some x.iV := hb16.cell 0
  have d1 : World.cell? w6 ⟨w.heap.size, 1, none⟩ = some x.nV := hb16.cell 1
  have d2 : World.cell? w6 ⟨w.heap.size, 2, none⟩ = some x.oV := hb16.cell 2
  go_wp2_with fail
  refine hpx.mono ?_
  rintro e w7 ⟨hx0, hx1, h7⟩
  clear d0 d1 d2 hpx
  replace hpy := hpy w7 h7
  have hb27 := hb26.ext h7
  have hb17 := hb16.ext h7
  have hE7 := hE6.trans h7
  have d0 : World.cell? w7 ⟨w.heap.size + 1, 0, none⟩ = some y.iV := hb27.cell 0
  have d1 : World.cell? w7 ⟨w.heap.size + 1, 1, none⟩ = some y.nV := hb27.cell 1
  have d2 : World.cell? w7 ⟨w.heap.size + 1, 2, none⟩ = some y.oV := hb27.cell 2
  clear hb16 hb26 hE6
  by_cases zx : (valuesR x).2 = 0
  case neg =>
    have e1 := hx1 zx
    subst e1
    have t1 : ((valuesR x).2 != 0) = true := by simp [zx]
    clear hx0 hx1
    by_cases zy : (valuesR y).2 = 0
    · go_wp2_with fail
      refine hpy.mono ?_
      rintro e w8 ⟨hy0, _, h8⟩
      obtain ⟨v8, rfl, _⟩ := hy0 zy
      clear hy0 d0 d1 d2
      go_wp2_with fail
      go_ret
      exact ⟨rfl, hE7.trans h8⟩
    · go_wp2_with fail
      refine hpy.mono ?_
      rintro e w8 ⟨_, hy1, h8⟩
      have e1 := hy1 zy
      subst e1
      clear hy1 d0 d1 d2
      go_wp2_with fail
      go_ret
      exact ⟨rfl, hE7.trans h8⟩
  obtain ⟨vx, rfl, hox⟩ := hx0 zx
  clear hx0 hx1
  by_cases zy : (valuesR y).2 = 0
  case neg =>
    have t1 : ((valuesR y).2 != 0) = true := by simp [zy]
    go_wp2_with fail
    refine hpy.mono ?_
    rintro e w8 ⟨_, hy1, h8⟩
    have e1 := hy1 zy
    subst e1
    clear hy1 d0 d1 d2
    go_wp2_with fail
    go_ret
    exact ⟨rfl, hE7.trans h8⟩
  have gx := hgdx zx
  have gy := hgdy zy
  have HTX := Lib.hid (fun t => taken_enc zx gx t)
  have HTY := Lib.hid (taken_all zy gy)
  have HLX := Lib.hid (enc_long x.c)
  have HLY := Lib.hid (enc_long y.c)
  have HEQ : Hid (decide (x.c = y.c) = decide (encG x.c = encG y.c)) := by
    show _ = _
    rw [Bool.eq_iff_iff, decide_eq_true_iff, decide_eq_true_iff]
    exact ⟨fun e => by rw [e], fun e => enc_inj zx gx zy gy e⟩
  have hbx := encG_bytes x.c
  have hby := encG_bytes y.c
  have hlx : (encG x.c).length ≤ 1000000 := by
    have h1 := encG_len x.c
    have h2 := gx.il
    have h3 := gx.nl
    have h4 := gx.ol
    have h5 := flat_le x.nodes (fun n hn => long_le (hgx.each n hn))
    have h6 : (x.nodes.flatMap fun n => encN n.c).length = (x.c.nodes.map longN).sum := by
      rw [← nodes_len]
      show _ = ((x.nodes.map Nd.c).flatMap encN).length
      rw [List.flatMap_map]
    have h7 : x.c.ins.length = x.ins.length := rfl
    have h8 : x.c.outs.length = x.outs.length := rfl
    omega
  have hly : (encG y.c).length ≤ 1000000 := by
    have h1 := encG_len y.c
    have h2 := gy.il
    have h3 := gy.nl
    have h4 := gy.ol
    have h5 := flat_le y.nodes (fun n hn => long_le (hgy.each n hn))
    have h6 : (y.nodes.flatMap fun n => encN n.c).length = (y.c.nodes.map longN).sum := by
      rw [← nodes_len]
      show _ = ((y.nodes.map Nd.c).flatMap encN).length
      rw [List.flatMap_map]
    have h7 : y.c.ins.length = y.ins.length := rfl
    have h8 : y.c.outs.length = y.outs.length := rfl
    omega
  clear hgdx hgdy gx gy
  generalize (valuesR y).2 = zyv at *
  generalize (valuesR x).2 = zxv at *
  subst zy
  subst zx
  go_wp2_with fail
  refine hpy.mono ?_
  rintro e w8 ⟨hy0, _, h8⟩
  obtain ⟨vy, rfl, hoy⟩ := hy0 (by trivial)
  clear hy0 hpy d0 d1 d2
  have hb18 := hb17.ext h8
  have hb28 := hb27.ext h8
  have hgx8 := hgx.ext (h7.trans h8)
  have hgy8 := hgy.ext (h7.trans h8)
  have hox8 := hox.ext h8
  have hE8 := hE7.trans h8
  clear hb17 hb27 hgx hgy hox hE7 h7 h8
  have XC := Lib.hid (rfl : x.c = x.c)
  generalize hxe : encG x.c = bx at *
  generalize hye : encG y.c = bby at *
  obtain ⟨Ax, cx, ex, hx1, hx2, _⟩ := id hox8.ints.form
  obtain ⟨Ay, cy, ey, hy1, hy2, _⟩ := id hoy.ints.form
  unfold maxLen at hx2 hy2
  subst ex
  subst ey
  go_wp2_with (at_builtin; refine stopped ?_)
  refine wpList_append_fresh rfl rfl elem_u8 rfl hox8.ints rfl (one_ints _ _) (by omega) (by omega) ?_
  intro v9 w9 ho9 hE9
  have hoy9 := hoy.ext hE9
  have hox9 := hox8.ext hE9
  go_wp2_with (at_builtin; refine stopped ?_)
  refine wpList_append_row rfl rfl elem_u8 ho9 rfl hoy9.ints rfl (one_ints _ _) (by omega) (by omega) hE9.size ?_
  intro v10 w10 ho10 hg10 _
  have hE10 : Ext w8 w10 := below_own hE9 hE9.size ho9 (Nat.le_refl _) hg10
  have i10 : Ints .u8 w10 v10 (bx ++ bby) := ints_of_own (by rw [List.map_append]; exact ho10)
  have hb110 := hb18.ext hE10
  have hb210 := hb28.ext hE10
  have hgx10 := hgx8.ext hE10
  have hgy10 := hgy8.ext hE10
  have hox10 := hox8.ext hE10
  have hoy10 := hoy.ext hE10
  have hEA := hE8.trans hE10
  clear hb18 hb28 hgx8 hgy8 hox8 hoy hE8 hE9 hE10 hoy9 hox9 ho9 ho10 hg10
  have hball := hbx.app hby
  have htk := take_calls v10 _ w10 i10 hball
  unfold TakePost at htk
  rw [HTX.out bby] at htk
  have HTA := Lib.hid (HTX.out bby)
  have HLEN : Hid ((bx ++ bby).length = bx.length + bby.length) := List.length_append
  have HDR : Hid ((bx ++ bby).drop bx.length = bby) := List.drop_left
  generalize bx ++ bby = ball at *
  obtain ⟨A0, c0, e0, hl1, hl2, hcell0⟩ := id i10.form
  unfold maxLen at hl2
  have hl3 := HLX.out
  have hl4 := HLY.out
  obtain ⟨bA, oA, e0', _⟩ := hcell0 0 (by have := HLEN.out; omega)
  subst e0'
  subst e0
  clear hcell0
  go_wp2_with fail
  refine htk.mono ?_
  rintro e w11 ⟨_, hs, h11⟩
  obtain ⟨p, hpc, rfl, hG⟩ := hs _ _ rfl
  clear hs htk
  have hz := Blk.new w11 #[.slice none 0 0, .slice none 0 0, .slice none 0 0] 26
  have hQ : Ext w11 ((w11.alloc (.cells #[.slice none 0 0, .slice none 0 0, .slice none 0 0] 26)).setRow w11.heap.size #[p.iV, p.nV, p.oV]) := ext_setRow (ext_alloc _ _) _ (Nat.le_refl _)
  have hbp : Blk ((w11.alloc (.cells #[.slice none 0 0, .slice none 0 0, .slice none 0 0] 26)).setRow w11.heap.size #[p.iV, p.nV, p.oV]) w11.heap.size #[p.iV, p.nV, p.oV] 26 := setRow_heap _ _ _ _ _ _ hz
  have HOp := Lib.hid hG.one
  have hgp := (hG.ext hQ).at
  go_upto_region 10 with (refine wpList_store_row rfl 26 _ _ rfl w11.heap.size #[p.iV, p.nV, p.oV] rfl rfl 26 _ hz (by kernel_rfl) rfl HOp.out ?_)
  have hE12 := h11.trans hQ
  clear hG hQ hz h11 HOp
  generalize World.setRow (w11.alloc _) _ _ = w12 at *
  generalize w11.heap.size = bP at *
  have i12 := i10.ext hE12
  have hd := Ints.drop' i12 (m := bx.length) (by have := HLEN.out; omega)
  rw [HDR.out] at hd
  have htk := take_calls _ _ w12 hd hby
  unfold TakePost at htk
  rw [HTY.out] at htk
  have hlt1 : bx.length < ball.length := by have := HLEN.out; omega
  have hlt2 : bx.length < c0 := by omega
  go_wp2_with fail
  refine htk.mono ?_
  rintro e w13 ⟨_, hs, h13⟩
  obtain ⟨q, hqc, rfl, hG⟩ := hs _ _ rfl
  clear hs htk hd
  have hz := Blk.new w13 #[.slice none 0 0, .slice none 0 0, .slice none 0 0] 26
  have hQ : Ext w13 ((w13.alloc (.cells #[.slice none 0 0, .slice none 0 0, .slice none 0 0] 26)).setRow w13.heap.size #[q.iV, q.nV, q.oV]) := ext_setRow (ext_alloc _ _) _ (Nat.le_refl _)
  have hbq : Blk ((w13.alloc (.cells #[.slice none 0 0, .slice none 0 0, .slice none 0 0] 26)).setRow w13.heap.size #[q.iV, q.nV, q.oV]) w13.heap.size #[q.iV, q.nV, q.oV] 26 := setRow_heap _ _ _ _ _ _ hz
  have HOq := Lib.hid hG.one
  have hgq := (hG.ext hQ).at
  go_upto_region 13 with (refine wpList_store_row rfl 26 _ _ rfl w13.heap.size #[q.iV, q.nV, q.oV] rfl rfl 26 _ hz (by kernel_rfl) rfl HOq.out ?_)
  have hE14 := h13.trans hQ
  clear hG hQ hz h13 HOq
  generalize World.setRow (w13.alloc _) _ _ = w14 at *
  generalize w13.heap.size = bQ at *
  have i14 := i12.ext hE14
  have hwh := whole_calls _ _ w14 i14 hball
  unfold WholePost at hwh
  rw [HTA.out] at hwh
  go_wp2_with fail
  refine hwh.mono ?_
  rintro e w15 ⟨_, hs, h15⟩
  have e1 := hs (fun c hc => by
    simp only [Option.some.injEq, Prod.mk.injEq] at hc
    have := HLEN.out
    omega)
  subst e1
  clear hs hwh
  have hz := Blk.new w15 #[.slice none 0 0, .slice none 0 0, .slice none 0 0] 26
  have hQ : Ext w15 ((w15.alloc (.cells #[.slice none 0 0, .slice none 0 0, .slice none 0 0] 26)).setRow w15.heap.size #[.slice none 0 0, .slice none 0 0, .slice none 0 0]) := ext_setRow (ext_alloc _ _) _ (Nat.le_refl _)
  go_upto_region 14 with (refine wpList_store_row rfl 26 _ _ rfl w15.heap.size #[.slice none 0 0, .slice none 0 0, .slice none 0 0] rfl rfl 26 _ hz (by kernel_rfl) rfl (by simp [Value.oneCell']) ?_)
  have hE16 := h15.trans hQ
  clear hQ hz h15
  generalize World.setRow (w15.alloc _) _ _ = w16 at *
  have hA := (hE12.trans hE14).trans hE16
  have hB1 := hb110.ext hA
  have hB2 := hb210.ext hA
  have hBp := (hbp.ext hE14).ext hE16
  have hBq := hbq.ext hE16
  have hX := hgx10.ext hA
  have hY := hgy10.ext hA
  have hPP := (hgp.ext hE14).ext hE16
  have hQQ := hgq.ext hE16
  have hVx := hox10.ext hA
  have hVy := hoy10.ext hA
  have hEF := hEA.trans hA
  clear hb110 hb210 hbp hbq hgx10 hgy10 hgp hgq hox10 hoy10 hEA hA hE12 hE14 hE16 i10 i12 i14
  have s1 := fun W (e : Ext w16 W) => same_calls p x W (hPP.ext e) (hX.ext e)
  have s2 := fun W (e : Ext w16 W) => same_calls q y W (hQQ.ext e) (hY.ext e)
  have s3 := fun W (e : Ext w16 W) => same_calls x y W (hX.ext e) (hY.ext e)
  rw [decide_eq_true hpc] at s1
  rw [decide_eq_true hqc] at s2
  rw [HEQ.out] at s3
  have aa0 : World.cell? w16 ⟨bP, 0, none⟩ = some p.iV := hBp.cell 0
  have bb0 : World.cell? w16 ⟨w.heap.size, 0, none⟩ = some x.iV := hB1.cell 0
  have aa1 : World.cell? w16 ⟨bP, 1, none⟩ = some p.nV := hBp.cell 1
  have bb1 : World.cell? w16 ⟨w.heap.size, 1, none⟩ = some x.nV := hB1.cell 1
  have aa2 : World.cell? w16 ⟨bP, 2, none⟩ = some p.oV := hBp.cell 2
  have bb2 : World.cell? w16 ⟨w.heap.size, 2, none⟩ = some x.oV := hB1.cell 2
  have s1' := s1 w16 (Ext.refl _)
  go_wp2_with fail
  refine s1'.mono ?_
  rintro e w17 ⟨rfl, hn0⟩
  clear aa0 aa1 aa2 bb0 bb1 bb2 s1 s1'
  have hF := hn0
  have aa0 : World.cell? w17 ⟨bQ, 0, none⟩ = some q.iV := (hBq.ext hF).cell 0
  have bb0 : World.cell? w17 ⟨w.heap.size + 1, 0, none⟩ = some y.iV := (hB2.ext hF).cell 0
  have aa1 : World.cell? w17 ⟨bQ, 1, none⟩ = some q.nV := (hBq.ext hF).cell 1
  have bb1 : World.cell? w17 ⟨w.heap.size + 1, 1, none⟩ = some y.nV := (hB2.ext hF).cell 1
  have aa2 : World.cell? w17 ⟨bQ, 2, none⟩ = some q.oV := (hBq.ext hF).cell 2
  have bb2 : World.cell? w17 ⟨w.heap.size + 1, 2, none⟩ = some y.oV := (hB2.ext hF).cell 2
  have s2' := s2 w17 hF
  go_wp2_with fail
  refine s2'.mono ?_
  rintro e w18 ⟨rfl, hn1⟩
  clear aa0 aa1 aa2 bb0 bb1 bb2 s2 s2'
  replace hF := hF.trans hn1
  have aa0 : World.cell? w18 ⟨w.heap.size, 0, none⟩ = some x.iV := (hB1.ext hF).cell 0
  have bb0 : World.cell? w18 ⟨w.heap.size + 1, 0, none⟩ = some y.iV := (hB2.ext hF).cell 0
  have aa1 : World.cell? w18 ⟨w.heap.size, 1, none⟩ = some x.nV := (hB1.ext hF).cell 1
  have bb1 : World.cell? w18 ⟨w.heap.size + 1, 1, none⟩ = some y.nV := (hB2.ext hF).cell 1
  have aa2 : World.cell? w18 ⟨w.heap.size, 2, none⟩ = some x.oV := (hB1.ext hF).cell 2
  have bb2 : World.cell? w18 ⟨w.heap.size + 1, 2, none⟩ = some y.oV := (hB2.ext hF).cell 2
  have s3' := s3 w18 hF
  go_wp2_with fail
  refine s3'.mono ?_
  rintro e w19 ⟨rfl, hn2⟩
  clear aa0 aa1 aa2 bb0 bb1 bb2 s3 s3'
  replace hF := hF.trans hn2
  have t1 := conv_bytes (P := Try.prog) (hVx.ext hF).ints (src := 29) (e := 5) (dst := 9) Try.underlying29 Try.underlying5 Try.underlying9
  have t2 := conv_bytes (P := Try.prog) (hVy.ext hF).ints (src := 29) (e := 5) (dst := 9) Try.underlying29 Try.underlying5 Try.underlying9
  have t3 := strEq hbx hby
  have hEE := hEF.trans hF
  clear hF hVx hVy
  obtain ⟨z, hz⟩ : ∃ z, decide (bx = bby) = z := ⟨_, rfl⟩
  rw [hz] at t3 ⊢
  go_wp2_with fail
  go_ret
  exact ⟨rfl, hEE⟩

end Go.Proofs.Ytdhdbmfipkppiaa

namespace Go.Proofs.Ytdhdbmfipkppiaa
set_option linter.unusedSimpArgs false
set_option linter.unusedVariables false
set_option linter.unnecessarySimpa false
open Go.RowKit

theorem enc_few {w : World} {x : Gr} (gx : GoodG x) (hgx : GrAt w x) : (encG x.c).length ≤ 1000000 := by
  have h1 := encG_len x.c
  have h2 := gx.il
  have h3 := gx.nl
  have h4 := gx.ol
  have h5 := flat_le x.nodes (fun n hn => long_le (hgx.each n hn))
  have h6 : (x.nodes.flatMap fun n => encN n.c).length = (x.c.nodes.map longN).sum := by
    rw [← nodes_len]
    show _ = ((x.nodes.map Nd.c).flatMap encN).length
    rw [List.flatMap_map]
  have h7 : x.c.ins.length = x.ins.length := rfl
  have h8 : x.c.outs.length = x.outs.length := rfl
  omega

set_option maxRecDepth 20000 in
set_option maxHeartbeats 12800000 in
theorem modelBack_calls (g : Gr) (at_ : Int) (w : World) (hg : GrIn w g) (hat : InK .i64 at_) :
    Calls Try.prog 6 #[.agg #[g.iV, g.nV, g.oV], .int .i64 at_] w fun e w' => e = .returned (.bool true) ∧ Below w.heap.size w w' := by
  have hE1 := ext_alloc w (.cells #[g.iV, g.nV, g.oV] 26)
  have hb1 := Blk.new w #[g.iV, g.nV, g.oV] 26
  have hsh := fun W => shown04_calls W
  have hls := fun W (e : Ext w W) => less_calls g w W hg e
  go_enter Try.func6, Try.ntmps6
  go_upto_region 1 with fail
  generalize World.alloc w _ = w1 at *
  go_upto_region 2 with (go_at_call 14; refine (hsh _).mono ?_; rintro e w2 ⟨rfl, h2⟩)
  replace hb1 := hb1.ext h2
  have hE2 := hE1.trans h2
  clear hsh hE1 h2
  have d0 : World.cell? w2 ⟨w.heap.size, 0, none⟩ = some g.iV := hb1.cell 0
  have d1 : World.cell? w2 ⟨w.heap.size, 1, none⟩ = some g.nV := hb1.cell 1
  have d2 : World.cell? w2 ⟨w.heap.size, 2, none⟩ = some g.oV := hb1.cell 2
  have hlt2 := hb1.lt
  go_wp2_with fail
  refine (hls _ hE2).mono ?_
  rintro e w3 ⟨x, rfl, hL, h3⟩
  clear d0 d1 d2 hls
  replace hb1 := hb1.ext h3
  have hE3 := hE2.trans h3
  have HO := Lib.hid hL.one
  have hL4 := hL.setRow (b := w.heap.size) (Nat.le_refl _) (by omega) #[x.iV, x.nV, x.oV]
  have hb14 : Blk (w3.setRow w.heap.size #[x.iV, x.nV, x.oV]) w.heap.size #[x.iV, x.nV, x.oV] 26 := setRow_heap _ _ _ _ _ _ hb1
  have hE4 : Ext w (w3.setRow w.heap.size #[x.iV, x.nV, x.oV]) := ext_setRow hE3 _ (Nat.le_refl _)
  clear hL hE2 hE3
  go_upto_region 3 with (refine wpList_store_row rfl 26 _ _ rfl w.heap.size #[x.iV, x.nV, x.oV] rfl rfl 26 _ hb1 (by kernel_rfl) rfl HO.out ?_)
  clear hb1 h3 hlt2
  generalize World.setRow w3 _ _ = w4 at *
  have hgx := hL4.at
  clear hL4
  have hgdx : (valuesR x).2 = 0 → GoodG x := fun e => valid_ok e (fun n hn => (hgx.each n hn).isIn)
  have hpx := modelPut_calls x w4 hgx
  unfold PutPost at hpx
  have d0 : World.cell? w4 ⟨w.heap.size, 0, none⟩ = some x.iV := hb14.cell 0
  have d1 : World.cell? w4 ⟨w.heap.size, 1, none⟩ = some x.nV := hb14.cell 1
  have d2 : World.cell? w4 ⟨w.heap.size, 2, none⟩ = some x.oV := hb14.cell 2
  go_wp2_with fail
  refine hpx.mono ?_
  rintro e w5 ⟨hx0, hx1, h5⟩
  clear d0 d1 d2 hpx
  have hb15 := hb14.ext h5
  have hE5 := hE4.trans h5
  clear hE4 hb14
  by_cases zx : (valuesR x).2 = 0
  case neg =>
    have e1 := hx1 zx
    subst e1
    have t1 : ((valuesR x).2 != 0) = true := by simp [zx]
    clear hx0 hx1
    go_wp2_with fail
    go_ret
    exact ⟨rfl, hE5⟩
  obtain ⟨vx, rfl, hox⟩ := hx0 zx
  clear hx0 hx1
  have gx := hgdx zx
  have HT0 := Lib.hid (taken_all zx gx)
  have HTX := Lib.hid (fun t => taken_enc zx gx t)
  have HTC := Lib.hid (fun k hk => taken_cut gx (k := k) hk)
  have HLX := Lib.hid (enc_long x.c)
  have hbx := encG_bytes x.c
  have hlx := enc_few gx hgx
  have hgx5 := hgx.ext h5
  clear hgdx gx hgx h5
  generalize (valuesR x).2 = zxv at *
  subst zx
  generalize hxe : encG x.c = bx at *
  obtain ⟨Ax, cx, ex, hx1, hx2, hxcell⟩ := id hox.ints.form
  unfold maxLen at hx2
  subst ex
  clear hxcell
  have hwh := whole_calls _ _ w5 hox.ints hbx
  unfold WholePost at hwh
  rw [HT0.out] at hwh
  go_wp2_with fail
  refine hwh.mono ?_
  rintro e w6 ⟨hs, _, h6⟩
  obtain ⟨p, hpc, rfl, hG⟩ := hs _ rfl
  clear hs hwh
  have hz := Blk.new w6 #[.slice none 0 0, .slice none 0 0, .slice none 0 0] 26
  have hQ : Ext w6 ((w6.alloc (.cells #[.slice none 0 0, .slice none 0 0, .slice none 0 0] 26)).setRow w6.heap.size #[p.iV, p.nV, p.oV]) := ext_setRow (ext_alloc _ _) _ (Nat.le_refl _)
  have hbp : Blk ((w6.alloc (.cells #[.slice none 0 0, .slice none 0 0, .slice none 0 0] 26)).setRow w6.heap.size #[p.iV, p.nV, p.oV]) w6.heap.size #[p.iV, p.nV, p.oV] 26 := setRow_heap _ _ _ _ _ _ hz
  have HOz := Lib.hid hG.one
  have hgp := (hG.ext hQ).at
  go_upto_region 7 with (refine wpList_store_row rfl 26 _ _ rfl w6.heap.size #[p.iV, p.nV, p.oV] rfl rfl 26 _ hz (by kernel_rfl) rfl HOz.out ?_)
  have hE7 := h6.trans hQ
  clear hG hQ hz h6 HOz
  generalize World.setRow (w6.alloc _) _ _ = w7 at *
  generalize w6.heap.size = bP at *
  have hox7 := hox.ext hE7
  go_wp2_with (at_builtin; refine stopped ?_)
  refine wpList_append_fresh rfl rfl elem_u8 rfl hox7.ints rfl (one_ints _ _) (by omega) (by omega) ?_
  intro va w8 hoa hEa
  have hlit := row_new w8 #[.int .u8 1, .int .u8 2, .int .u8 3] 5 3 1 rfl (by decide)
  have hoa2 := hoa.alloc (.cells #[.int .u8 1, .int .u8 2, .int .u8 3] 5)
  have hEa2 := hEa.trans (Below.mono (ext_alloc w8 (.cells #[.int .u8 1, .int .u8 2, .int .u8 3] 5)) hEa.size)
  go_wp2_with (at_builtin; refine stopped ?_)
  refine wpList_append_row rfl rfl elem_u8 hoa2 rfl hlit rfl (one_ints .u8 [1, 2, 3]) (by omega) (by omega) hEa2.size ?_
  intro v9 w9 hob hgb _
  have hEb : Ext w7 w9 := below_own hEa2 hEa2.size hoa2 (Nat.le_refl _) hgb
  have i9 : Ints .u8 w9 v9 (bx ++ [1, 2, 3]) := ints_of_own (by rw [List.map_append]; exact hob)
  clear hoa hoa2 hEa hEa2 hlit hob hgb
  have hb9 := BytesL.app hbx (b := [1, 2, 3]) (fun z hz => by simp at hz; omega)
  have htk := take_calls v9 _ w9 i9 hb9
  unfold TakePost at htk
  rw [HTX.out [1, 2, 3]] at htk
  go_wp2_with fail
  refine htk.mono ?_
  rintro e w10 ⟨_, hs, h10⟩
  obtain ⟨q, hqc, rfl, hG⟩ := hs _ _ rfl
  clear hs htk
  have hz := Blk.new w10 #[.slice none 0 0, .slice none 0 0, .slice none 0 0] 26
  have hQ : Ext w10 ((w10.alloc (.cells #[.slice none 0 0, .slice none 0 0, .slice none 0 0] 26)).setRow w10.heap.size #[q.iV, q.nV, q.oV]) := ext_setRow (ext_alloc _ _) _ (Nat.le_refl _)
  have hbq : Blk ((w10.alloc (.cells #[.slice none 0 0, .slice none 0 0, .slice none 0 0] 26)).setRow w10.heap.size #[q.iV, q.nV, q.oV]) w10.heap.size #[q.iV, q.nV, q.oV] 26 := setRow_heap _ _ _ _ _ _ hz
  have HOz := Lib.hid hG.one
  have hgq := (hG.ext hQ).at
  go_upto_region 8 with (refine wpList_store_row rfl 26 _ _ rfl w10.heap.size #[q.iV, q.nV, q.oV] rfl rfl 26 _ hz (by kernel_rfl) rfl HOz.out ?_)
  have hE11 := h10.trans hQ
  clear hG hQ hz h10 HOz
  generalize World.setRow (w10.alloc _) _ _ = w11 at *
  generalize w10.heap.size = bQ at *
  have hE711 := hEb.trans hE11
  have hox11 := hox7.ext hE711
  clear hEb hE11 i9 hb9
  go_wp2_with (at_builtin; refine stopped ?_)
  refine wpList_append_fresh rfl rfl elem_u8 rfl hox11.ints rfl (one_ints _ _) (by omega) (by omega) ?_
  intro va w12 hoa hEa
  have hlit := row_new w12 #[.int .u8 0] 5 1 1 rfl (by decide)
  have hoa2 := hoa.alloc (.cells #[.int .u8 0] 5)
  have hEa2 := hEa.trans (Below.mono (ext_alloc w12 (.cells #[.int .u8 0] 5)) hEa.size)
  go_wp2_with (at_builtin; refine stopped ?_)
  refine wpList_append_row rfl rfl elem_u8 hoa2 rfl hlit rfl (one_ints .u8 [0]) (by omega) (by omega) hEa2.size ?_
  intro v13 w13 hob hgb _
  have hEb : Ext w11 w13 := below_own hEa2 hEa2.size hoa2 (Nat.le_refl _) hgb
  have i13 : Ints .u8 w13 v13 (bx ++ [0]) := ints_of_own (by rw [List.map_append]; exact hob)
  clear hoa hoa2 hEa hEa2 hlit hob hgb
  have hb13 := BytesL.app hbx (b := [0]) (fun z hz => by simp at hz; omega)
  have hwh := whole_calls v13 _ w13 i13 hb13
  unfold WholePost at hwh
  rw [HTX.out [0]] at hwh
  go_wp2_with fail
  refine hwh.mono ?_
  rintro e w14 ⟨_, hs, h14⟩
  have e1 := hs (fun c hc => by
    simp only [Option.some.injEq, Prod.mk.injEq, List.length_append, List.length_cons, List.length_nil] at hc
    omega)
  subst e1
  clear hs hwh
  have hz := Blk.new w14 #[.slice none 0 0, .slice none 0 0, .slice none 0 0] 26
  have hQ : Ext w14 ((w14.alloc (.cells #[.slice none 0 0, .slice none 0 0, .slice none 0 0] 26)).setRow w14.heap.size #[.slice none 0 0, .slice none 0 0, .slice none 0 0]) := ext_setRow (ext_alloc _ _) _ (Nat.le_refl _)
  go_upto_region 9 with (refine wpList_store_row rfl 26 _ _ rfl w14.heap.size #[.slice none 0 0, .slice none 0 0, .slice none 0 0] rfl rfl 26 _ hz (by kernel_rfl) rfl (by simp [Value.oneCell']) ?_)
  have hE15 := h14.trans hQ
  clear hQ hz h14
  generalize World.setRow (w14.alloc _) _ _ = w15 at *
  have hE1115 := hEb.trans hE15
  clear hEb hE15 i13 hb13
  have hA := (hE7.trans hE711).trans hE1115
  have hX := hgx5.ext hA
  have hB1 := hb15.ext hA
  have hPP := (hgp.ext hE711).ext hE1115
  have hBp := (hbp.ext hE711).ext hE1115
  have hQQ := hgq.ext hE1115
  have hBq := hbq.ext hE1115
  have hVx := hox11.ext hE1115
  have hEF := hE5.trans hA
  clear hgx5 hb15 hgp hbp hgq hbq hox11 hox7 hox hE5 hA hE7 hE711 hE1115
  have s1 := fun W (e : Ext w15 W) => same_calls p x W (hPP.ext e) (hX.ext e)
  have s2 := fun W (e : Ext w15 W) => same_calls q x W (hQQ.ext e) (hX.ext e)
  rw [decide_eq_true hpc] at s1
  rw [decide_eq_true hqc] at s2
  have aa0 : World.cell? w15 ⟨bP, 0, none⟩ = some p.iV := hBp.cell 0
  have bb0 : World.cell? w15 ⟨w.heap.size, 0, none⟩ = some x.iV := hB1.cell 0
  have aa1 : World.cell? w15 ⟨bP, 1, none⟩ = some p.nV := hBp.cell 1
  have bb1 : World.cell? w15 ⟨w.heap.size, 1, none⟩ = some x.nV := hB1.cell 1
  have aa2 : World.cell? w15 ⟨bP, 2, none⟩ = some p.oV := hBp.cell 2
  have bb2 : World.cell? w15 ⟨w.heap.size, 2, none⟩ = some x.oV := hB1.cell 2
  have s1' := s1 w15 (Ext.refl _)
  go_wp2_with fail
  refine s1'.mono ?_
  rintro e w16 ⟨rfl, hn0⟩
  clear aa0 aa1 aa2 bb0 bb1 bb2 s1 s1'
  have hF := hn0
  have aa0 : World.cell? w16 ⟨bQ, 0, none⟩ = some q.iV := (hBq.ext hF).cell 0
  have bb0 : World.cell? w16 ⟨w.heap.size, 0, none⟩ = some x.iV := (hB1.ext hF).cell 0
  have aa1 : World.cell? w16 ⟨bQ, 1, none⟩ = some q.nV := (hBq.ext hF).cell 1
  have bb1 : World.cell? w16 ⟨w.heap.size, 1, none⟩ = some x.nV := (hB1.ext hF).cell 1
  have aa2 : World.cell? w16 ⟨bQ, 2, none⟩ = some q.oV := (hBq.ext hF).cell 2
  have bb2 : World.cell? w16 ⟨w.heap.size, 2, none⟩ = some x.oV := (hB1.ext hF).cell 2
  have s2' := s2 w16 hF
  go_wp2_with fail
  refine s2'.mono ?_
  rintro e w17 ⟨rfl, hn1⟩
  clear aa0 aa1 aa2 bb0 bb1 bb2 s2 s2'
  replace hF := hF.trans hn1
  have hVx := hVx.ext hF
  have hEE := hEF.trans hF
  clear hF hX hPP hQQ hB1 hBp hBq hEF
  have hl3 := HLX.out
  obtain ⟨a1, a2⟩ := hat
  by_cases hin : 0 ≤ at_ ∧ at_ < bx.length
  · obtain ⟨k, rfl⟩ := Int.eq_ofNat_of_zero_le hin.1
    have hk : k < bx.length := by omega
    have hfst := Ints.first hVx.ints (m := k) (by omega)
    have htk := take_calls _ _ w17 hfst (fun z hz => hbx z (List.mem_of_mem_take hz))
    unfold TakePost at htk
    rw [HTC.out k hk] at htk
    clear hfst hin
    have hk2 : k ≤ cx := by omega
    go_wp2_with fail
    refine htk.mono ?_
    rintro e w18 ⟨hs, _, h18⟩
    have e1 := hs (by trivial)
    subst e1
    clear hs htk
    have hz := Blk.new w18 #[.slice none 0 0, .slice none 0 0, .slice none 0 0] 26
    have hQ : Ext w18 ((w18.alloc (.cells #[.slice none 0 0, .slice none 0 0, .slice none 0 0] 26)).setRow w18.heap.size #[.slice none 0 0, .slice none 0 0, .slice none 0 0]) := ext_setRow (ext_alloc _ _) _ (Nat.le_refl _)
    go_upto_region 13 with (refine wpList_store_row rfl 26 _ _ rfl w18.heap.size #[.slice none 0 0, .slice none 0 0, .slice none 0 0] rfl rfl 26 _ hz (by kernel_rfl) rfl (by simp [Value.oneCell']) ?_)
    have hE19 := h18.trans hQ
    clear hQ hz h18
    generalize World.setRow (w18.alloc _) _ _ = w19 at *
    go_wp2_with fail
    go_ret
    exact ⟨rfl, hEE.trans hE19⟩
  · have hor : at_ < 0 ∨ (0 ≤ at_ ∧ (bx.length : Int) ≤ at_) := by omega
    rcases hor with hn | ⟨hn, hn2⟩
    · clear hin
      go_wp2_with fail
      go_ret
      exact ⟨rfl, hEE⟩
    · clear hin
      go_wp2_with fail
      go_ret
      exact ⟨rfl, hEE⟩

end Go.Proofs.Ytdhdbmfipkppiaa

namespace Go.Proofs.Ytdhdbmfipkppiaa
set_option linter.unusedSimpArgs false
set_option linter.unusedVariables false
set_option linter.unnecessarySimpa false
open Go.RowKit

theorem ints_set {W : World} {b off n c : Nat} {zs : List Int} (h : Ints .u8 W (.slice (some ⟨b, off, none⟩) n c) zs) {k : Nat} (hk : k < zs.length) (x : Int) :
    Ints .u8 (W.setCell ⟨b, off + k, none⟩ (.int .u8 x)) (.slice (some ⟨b, off, none⟩) n c) (zs.set k x) := by
  obtain ⟨A, c', e, h1, h2, h3, h4⟩ := h
  cases e
  refine ⟨_, _, by rw [List.length_set], by rw [List.length_set]; exact h1, h2, by simp, fun j u hj => ⟨b, off, rfl, ?_⟩⟩
  by_cases hjk : j = k
  · subst hjk
    have hu : u = .int .u8 x := by
      rw [List.getElem?_map, List.getElem?_set_self hk] at hj
      simpa using hj.symm
    subst hu
    obtain ⟨b', o', e', hc⟩ := h4 j (.int .u8 zs[j]) (by simp [hk])
    cases e'
    exact World.cell?_setCell_same _ _ _ hc
  · have hu : (zs.map (Value.int .u8))[j]? = some u := by
      rw [List.getElem?_map, List.getElem?_set_ne (by omega)] at hj
      rw [List.getElem?_map]
      exact hj
    obtain ⟨b', o', e', hc⟩ := h4 j u hu
    cases e'
    rw [World.cell?_setCell_other _ _ _ _ (by simp; try omega)]
    exact hc

theorem xor_u8 (a b : Int) (ha : 0 ≤ a ∧ a ≤ 255) (hb : 0 ≤ b ∧ b ≤ 255) : (0 ≤ bits .xor .u8 a b ∧ bits .xor .u8 a b ≤ 255) ∧ (b ≠ 0 → bits .xor .u8 a b ≠ a) := by
  obtain ⟨x, rfl⟩ := Int.eq_ofNat_of_zero_le ha.1
  obtain ⟨y, rfl⟩ := Int.eq_ofNat_of_zero_le hb.1
  have hx : x < 2 ^ 8 := by omega
  have hy : y < 2 ^ 8 := by omega
  have hl := Nat.xor_lt_two_pow hx hy
  have e : bits .xor .u8 (x : Int) (y : Int) = ((x ^^^ y : Nat) : Int) := by
    show IntKind.u8.wrap ((BitVec.ofInt 8 (x : Int) ^^^ BitVec.ofInt 8 (y : Int)).toNat : Int) = _
    rw [BitVec.toNat_xor, BitVec.ofInt_natCast, BitVec.ofInt_natCast, BitVec.toNat_ofNat, BitVec.toNat_ofNat, Nat.mod_eq_of_lt hx, Nat.mod_eq_of_lt hy]
    generalize x ^^^ y = z at *
    simp [IntKind.wrap, IntKind.signed, IntKind.bits]
    omega
  rw [e]
  refine ⟨by omega, fun h0 h => h0 ?_⟩
  have h1 : x ^^^ y = x := by omega
  have h2 : x ^^^ (x ^^^ y) = x ^^^ x := by rw [h1]
  rw [← Nat.xor_assoc, Nat.xor_self, Nat.zero_xor] at h2
  omega

/-- A byte turned makes another graph, or none. -/
theorem once_ne {c : Gc} {k : Nat} {x : Int} (hk : k < (encG c).length) (hx : x ≠ (encG c)[k]) {c2 : Gc} {n2 : Nat} (h : taken ((encG c).set k x) = some (c2, n2)) : c ≠ c2 := by
  rintro rfl
  obtain ⟨_, h1, h2, _⟩ := taken_some h
  rw [List.length_set] at h2
  have h3 := congrArg List.length h1
  rw [List.length_take, List.length_set] at h3
  have h4 : n2 = (encG c).length := by omega
  rw [h4, List.take_of_length_le (by rw [List.length_set]; exact Nat.le_refl _)] at h1
  have h5 := congrArg (fun l : List Int => l[k]?) h1
  simp only [List.getElem?_set_self hk, List.getElem?_eq_getElem hk, Option.some.injEq] at h5
  exact hx h5.symm

theorem OwnG.grownHi {base c : Nat} {W0 W W' : World} {g : Gr} (h0 : OwnG base W0 g) (h : OwnG base W g) (hg : W.grownBy W' (some c)) (hc : W0.heap.size ≤ c) : OwnG base W' g :=
  ⟨⟨fun x hx => World.ownsRow.kept (h.own.own x hx) hg (.inr fun e => by have := ((h0.own.own x hx).lt _ e).2; omega), h.own.sep⟩, h.fit, h.il, h.nl, h.ol⟩

theorem bytes_set {l : List Int} (h : BytesL l) (k : Nat) {x : Int} (hx : 0 ≤ x ∧ x ≤ 255) : BytesL (l.set k x) := fun z hz => by
  rcases List.mem_or_eq_of_mem_set hz with h1 | rfl
  · exact h z h1
  · exact hx

set_option maxRecDepth 20000 in
set_option maxHeartbeats 12800000 in
theorem modelOnce_calls (v : Value) (zs : List Int) (at_ by_ : Int) (w : World) (hv : Ints .u8 w v zs) (hz0 : ∀ z ∈ zs, InK .u8 z) (hat : InK .i64 at_) (hby : InK .u8 by_) :
    Calls Try.prog 4 #[v, .int .i64 at_, .int .u8 by_] w fun e w' => e = .returned (.bool true) ∧ Below w.heap.size w w' := by
  have hsh := fun W => shown04_calls W
  have hst := fun W (e : Ext w W) => short_calls v zs W (hv.ext e)
  go_enter Try.func4, Try.ntmps4
  go_upto_region 2 with (go_at_call 14; refine (hsh _).mono ?_; rintro e w1 ⟨rfl, h1⟩)
  go_upto_region 3 with (go_at_call 18; refine (hst _ h1).mono ?_; rintro e w2 ⟨⟨u, rfl, hu0⟩, rfl⟩)
  clear hsh hst
  have hbs : BytesL (zs.take 20000) := fun z hz => hz0 z (List.mem_of_mem_take hz)
  have hlen : (zs.take 20000).length ≤ 20000 := by rw [List.length_take]; omega
  clear hz0 hv
  generalize zs.take 20000 = bs at *
  obtain ⟨A0, c0, rfl, hl1, hl2, _⟩ := id hu0.form
  unfold maxLen at hl2
  go_wp2_with (at_builtin; refine stopped ?_)
  refine wpList_append_fresh rfl rfl elem_u8 rfl hu0 rfl (one_ints _ _) (by omega) (by omega) ?_
  intro v3 w3 ho3 hE3
  have hE03 : Ext w w3 := h1.trans hE3
  have hu3 := hu0.ext hE3
  have htk := take_calls v3 bs w3 (ints_of_own ho3) hbs
  unfold TakePost at htk
  clear ho3 hE3 h1 hu0
  go_wp2_with fail
  refine htk.mono ?_
  rintro e w4 ⟨hn, hs, h4⟩
  clear htk
  cases ht : taken bs with
  | none =>
    have e1 := hn ht
    subst e1
    have hz := Blk.new w4 #[.slice none 0 0, .slice none 0 0, .slice none 0 0] 26
    have hQ : Ext w4 ((w4.alloc (.cells #[.slice none 0 0, .slice none 0 0, .slice none 0 0] 26)).setRow w4.heap.size #[.slice none 0 0, .slice none 0 0, .slice none 0 0]) := ext_setRow (ext_alloc _ _) _ (Nat.le_refl _)
    have hb4 : Blk ((w4.alloc (.cells #[.slice none 0 0, .slice none 0 0, .slice none 0 0] 26)).setRow w4.heap.size #[.slice none 0 0, .slice none 0 0, .slice none 0 0]) w4.heap.size #[.slice none 0 0, .slice none 0 0, .slice none 0 0] 26 := setRow_heap _ _ _ _ _ _ hz
    clear hn hs
    go_upto_region 4 with (refine wpList_store_row rfl 26 _ _ rfl w4.heap.size #[.slice none 0 0, .slice none 0 0, .slice none 0 0] rfl rfl 26 _ hz (by kernel_rfl) rfl (by simp [Value.oneCell']) ?_)
    have hE5 := (hE03.trans h4).trans hQ
    clear hz hQ h4
    generalize World.setRow (w4.alloc _) _ _ = w5 at *
    generalize w4.heap.size = b8 at *
    have d0 : World.cell? w5 ⟨b8, 0, none⟩ = some (.slice none 0 0) := hb4.cell 0
    go_wp2_with fail
    go_ret
    exact ⟨rfl, hE5⟩
  | some q =>
    obtain ⟨c, n⟩ := q
    obtain ⟨g, hgc, rfl, hG⟩ := hs c n ht
    obtain ⟨herr, henc, hnl, _⟩ := taken_some ht
    have hval : (valuesR g).2 = 0 := by rw [← err_eq, hgc]; exact herr
    have hz := Blk.new w4 #[.slice none 0 0, .slice none 0 0, .slice none 0 0] 26
    have hQ : Ext w4 ((w4.alloc (.cells #[.slice none 0 0, .slice none 0 0, .slice none 0 0] 26)).setRow w4.heap.size #[g.iV, g.nV, g.oV]) := ext_setRow (ext_alloc _ _) _ (Nat.le_refl _)
    have hb4 : Blk ((w4.alloc (.cells #[.slice none 0 0, .slice none 0 0, .slice none 0 0] 26)).setRow w4.heap.size #[g.iV, g.nV, g.oV]) w4.heap.size #[g.iV, g.nV, g.oV] 26 := setRow_heap _ _ _ _ _ _ hz
    have HOz := Lib.hid hG.one
    have hG5 := hG.ext hQ
    clear hn hs herr
    have HENC := Lib.hid henc
    have HTN := Lib.hid ht
    clear henc ht
    go_upto_region 4 with (refine wpList_store_row rfl 26 _ _ rfl w4.heap.size #[g.iV, g.nV, g.oV] rfl rfl 26 _ hz (by kernel_rfl) rfl HOz.out ?_)
    have hE5 := (hE03.trans h4).trans hQ
    have hu5 := (hu3.ext h4).ext hQ
    clear hG hQ hz h4 hE03 hu3 HOz
    generalize World.setRow (w4.alloc _) _ _ = w5 at *
    have HB8 : Hid (w4.heap.size < w5.heap.size) := hb4.lt
    generalize w4.heap.size = b8 at *
    have hpx := modelPut_calls g w5 hG5.at
    unfold PutPost at hpx
    rw [hval, hgc] at hpx
    have d0 : World.cell? w5 ⟨b8, 0, none⟩ = some g.iV := hb4.cell 0
    have d1 : World.cell? w5 ⟨b8, 1, none⟩ = some g.nV := hb4.cell 1
    have d2 : World.cell? w5 ⟨b8, 2, none⟩ = some g.oV := hb4.cell 2
    go_wp2_with fail
    refine hpx.mono ?_
    rintro e w6 ⟨hx0, _, h6⟩
    obtain ⟨vc, rfl, hoc⟩ := hx0 (by trivial)
    clear hx0 hpx d0 d1 d2 hval
    have hbe := encG_bytes c
    have hle : (encG c).length = n := by rw [HENC.out, List.length_take]; omega
    have HLE := Lib.hid hle
    clear hle
    have HON := Lib.hid (fun (k : Nat) (x : Int) (hk : k < (encG c).length) (hx : x ≠ (encG c)[k]) (c2 : Gc) (n2 : Nat) h => once_ne (c2 := c2) (n2 := n2) hk hx h)
    have hE6 := hE5.trans h6
    have hu6 := hu5.ext h6
    have hG6 := hG5.ext h6
    have hb6 := hb4.ext h6
    have hfst := Ints.first hu6 (m := n) hnl
    have hcv := strEq hbe (fun z hz => hbs z (List.mem_of_mem_take hz)) (zs := encG c) (ys := bs.take n)
    rw [decide_eq_true HENC.out] at hcv
    have hgt : decide ((bs.length : Int) < (n : Int)) = false := by simp; omega
    have hgt2 : decide (bs.length < n) = false := by simp; omega
    have hgt3 : decide ((n : Int) > (bs.length : Int)) = false := by simp; omega
    have q1 := conv_ext (P := Try.prog) hoc.ints (src := 29) (e := 5) (dst := 9) Try.underlying29 Try.underlying5 Try.underlying9
    have q2 := conv_ext (P := Try.prog) hfst (src := 29) (e := 5) (dst := 9) Try.underlying29 Try.underlying5 Try.underlying9
    generalize hce : encG c = ec at *
    obtain ⟨Ac, cc, eqc, hc1, hc2, hcc⟩ := id hoc.ints.form
    unfold maxLen at hc2
    subst eqc
    have hn0 : n ≤ c0 := by omega
    go_upto_region 7 with fail
    refine wp_region_X [0, 1, 2, 3, 4, 5, 6, 7, 8, 9, 10, 11, 12, 13, 14, 15, 16] [] (by kernel_rfl) (by kernel_rfl) (fun _ _ d _ _ h => by cases d <;> exact h) (fun w7 hE7 => ?_)
    have q1' := fun (W : World) (e : Ext w7 W) => q1 W (hE7.trans e)
    have q2' := fun (W : World) (e : Ext w7 W) => q2 W (hE7.trans e)
    clear q1 q2
    repeat (first | (refine wpP_pure rfl (by rfl) (fun W hW => by go_simp; with_reducible rfl) ?_; simp only [Act.put, List.setIfInBounds_toArray, List.set_cons_zero, List.set_cons_succ]) | (refine wpP_skip rfl (by rfl) ?_; simp only [Act.put, List.setIfInBounds_toArray, List.set_cons_zero, List.set_cons_succ]))
    refine ⟨trivial, fun W8 hR => ?_⟩
    simp only [rFin, envAt, TP.top, TP.mine, MP.top, MP.mine, MT.mine, MT.tied, MT.done, MT.is, List.map_cons, List.map_nil, true_implies, List.head?_cons, ME.is, MP.is, MP.done, ME.ints, ME.row, phi, dstAt, List.getElem?_cons_zero, List.getElem?_cons_succ, Option.bind_some, Act.put, List.setIfInBounds_toArray, List.set_cons_zero, List.set_cons_succ, and_true, forall_eq, reduceIte, Nat.reduceEqDiff, beq_iff_eq, Option.some.injEq, Bool.false_eq_true, reduceCtorEq, implies_true, true_and]
    have hQ8 := hE7.trans hR
    have hE8 := hE6.trans hQ8
    have hoc8 := hoc.ext hQ8
    have hG8 := hG6.ext hQ8
    have hb88 := hb6.ext hQ8
    clear q1' q2' hcv hgt hgt2 hgt3 hE6 hG6 hb6 hu6 hfst hoc hE7 hR hQ8 hu5 hb4 hcc h6
    obtain ⟨a1, a2⟩ := hat
    obtain ⟨y1, y2⟩ := hby
    have hor : at_ < 0 ∨ (0 ≤ at_ ∧ (n : Int) ≤ at_) ∨ (0 ≤ at_ ∧ at_ < n) := by omega
    rcases hor with hn1 | ⟨hn1, hn2⟩ | ⟨hn1, hn2⟩
    · go_wp2_with fail
      go_ret
      exact ⟨rfl, hE8⟩
    · go_wp2_with fail
      go_ret
      exact ⟨rfl, hE8⟩
    by_cases hy0 : by_ = 0
    · have t1 : (by_ == 0) = true := by simp [hy0]
      clear hy0
      go_wp2_with fail
      go_ret
      exact ⟨rfl, hE8⟩
    have t1 : (by_ == 0) = false := by simp [hy0]
    obtain ⟨k, rfl⟩ := Int.eq_ofNat_of_zero_le hn1
    have hk : k < ec.length := by have := HLE.out; omega
    obtain ⟨_, _, e9, _, _, hcc⟩ := hoc8.ints.form
    cases e9
    obtain ⟨b, off, rfl, x0⟩ := hcc k hk
    rw [show ec[k]?.getD 0 = ec[k] by simp [hk]] at x0
    have hzr := hbe _ (List.getElem_mem hk)
    obtain ⟨hx1, hx2⟩ := xor_u8 ec[k] by_ hzr ⟨y1, y2⟩
    have hx3 := hx2 hy0
    have hbase : w5.heap.size ≤ b := (hoc8.lt b rfl).1
    have hblk : ∃ cur, Blk W8 b cur 5 := by
      rcases hoc8.2 with ⟨h9, _⟩ | ⟨g9, cap, cur, h9, _, h10, _⟩
      · cases h9
      · cases h9
        exact ⟨cur, h10⟩
    obtain ⟨cur, hblk⟩ := hblk
    have hfr := hblk.frozen (off + k)
    have hbl := hblk.lt
    have hI := fun x => ints_set hoc8.ints hk x
    have hE9 := fun x => Below.setCell (p := ⟨b, off + k, none⟩) hE8 (by show w.heap.size ≤ b; exact Nat.le_trans hE5.size hbase) x
    have hG9 := fun x => OwnG.grownHi hG5 hG8 (setCell_grown W8 b (off + k) x) hbase
    have hb8lt : b8 < w5.heap.size := HB8.out
    have hb9 := fun x => hb88.grown (setCell_grown W8 b (off + k) x) (by simp; omega)
    have HON2 := Lib.hid (fun (c2 : Gc) (n2 : Nat) (h : taken (ec.set k (bits .xor .u8 ec[k] by_)) = some (c2, n2)) => HON.out k _ hk hx3 c2 n2 h)
    have hkn : (k : Int) < (ec.length : Int) := by omega
    have hbset := bytes_set hbe k hx1
    replace hI := hI (bits .xor .u8 ec[k] by_)
    replace hE9 := hE9 (.int .u8 (bits .xor .u8 ec[k] by_))
    replace hG9 := hG9 (.int .u8 (bits .xor .u8 ec[k] by_))
    replace hb9 := hb9 (.int .u8 (bits .xor .u8 ec[k] by_))
    clear hcc hx2 hx3 hzr hoc8 hG8 hb88 hblk hE8 hG5 hE5 hy0 hbe HON hbase hb8lt
    go_upto_region 12 with fail
    clear x0 hfr hbl t1 hn1 hn2
    generalize bits .xor .u8 ec[k] by_ = xr at *
    generalize World.setCell W8 _ _ = w9 at *
    have hI' : Ints .u8 w9 (.slice (some ⟨b, off, none⟩) ec.length cc) (ec.set k xr) := hI
    have htk := take_calls _ _ w9 hI' hbset
    unfold TakePost at htk
    have d0 := hb9.cell 0
    clear hI d0
    have hE9' : Ext w w9 := hE9
    go_wp2_with fail
    refine htk.mono ?_
    rintro e w10 ⟨hn, hs, h10⟩
    clear htk hI'
    have hz := Blk.new w10 #[.slice none 0 0, .slice none 0 0, .slice none 0 0] 26
    cases ht : taken (ec.set k xr) with
    | none =>
      have e1 := hn ht
      subst e1
      have hQ : Ext w10 ((w10.alloc (.cells #[.slice none 0 0, .slice none 0 0, .slice none 0 0] 26)).setRow w10.heap.size #[.slice none 0 0, .slice none 0 0, .slice none 0 0]) := ext_setRow (ext_alloc _ _) _ (Nat.le_refl _)
      have hb13 : Blk ((w10.alloc (.cells #[.slice none 0 0, .slice none 0 0, .slice none 0 0] 26)).setRow w10.heap.size #[.slice none 0 0, .slice none 0 0, .slice none 0 0]) w10.heap.size #[.slice none 0 0, .slice none 0 0, .slice none 0 0] 26 := setRow_heap _ _ _ _ _ _ hz
      have hGX := ((hG9.ext h10).ext hQ).at
      have hb8X := (hb9.ext h10).ext hQ
      have hEX := (hE9'.trans h10).trans hQ
      clear hn hs ht HON2
      go_upto_region 13 with (refine wpList_store_row rfl 26 _ _ rfl w10.heap.size #[.slice none 0 0, .slice none 0 0, .slice none 0 0] rfl rfl 26 _ hz (by kernel_rfl) rfl (by simp [Value.oneCell']) ?_)
      clear hz hQ h10 hG9 hb9 hE9 hE9'
      generalize World.setRow (w10.alloc _) _ _ = w11 at *
      generalize w10.heap.size = b13 at *
      have hsm := same_calls g ⟨.slice none 0 0, .slice none 0 0, .slice none 0 0, [], [], []⟩ w11 hGX ⟨row_nil _ _, row_nil _ _, row_nil _ _, (fun n hn => by cases hn), (by show 0 ≤ 255; omega), (by show 0 ≤ 255; omega), (by show 0 ≤ 255; omega)⟩
      simp only at hsm
      have aa0 : World.cell? w11 ⟨b8, 0, none⟩ = some g.iV := hb8X.cell 0
      have aa1 : World.cell? w11 ⟨b8, 1, none⟩ = some g.nV := hb8X.cell 1
      have aa2 : World.cell? w11 ⟨b8, 2, none⟩ = some g.oV := hb8X.cell 2
      have bb0 : World.cell? w11 ⟨b13, 0, none⟩ = some (.slice none 0 0) := hb13.cell 0
      have bb1 : World.cell? w11 ⟨b13, 1, none⟩ = some (.slice none 0 0) := hb13.cell 1
      have bb2 : World.cell? w11 ⟨b13, 2, none⟩ = some (.slice none 0 0) := hb13.cell 2
      go_wp2_with fail
      refine hsm.mono ?_
      rintro e w12 ⟨rfl, h12⟩
      clear hsm aa0 aa1 aa2 bb0 bb1 bb2
      go_wp2_with fail
      go_ret
      exact ⟨rfl, hEX.trans h12⟩
    | some q2 =>
      obtain ⟨c2, n2⟩ := q2
      obtain ⟨h, hhc, rfl, hH⟩ := hs c2 n2 ht
      have hne : decide (g.c = h.c) = false := decide_eq_false (by rw [hgc, hhc]; exact HON2.out c2 n2 ht)
      have hQ : Ext w10 ((w10.alloc (.cells #[.slice none 0 0, .slice none 0 0, .slice none 0 0] 26)).setRow w10.heap.size #[h.iV, h.nV, h.oV]) := ext_setRow (ext_alloc _ _) _ (Nat.le_refl _)
      have hb13 : Blk ((w10.alloc (.cells #[.slice none 0 0, .slice none 0 0, .slice none 0 0] 26)).setRow w10.heap.size #[h.iV, h.nV, h.oV]) w10.heap.size #[h.iV, h.nV, h.oV] 26 := setRow_heap _ _ _ _ _ _ hz
      have HOz := Lib.hid hH.one
      have hHX := (hH.ext hQ).at
      have hGX := ((hG9.ext h10).ext hQ).at
      have hb8X := (hb9.ext h10).ext hQ
      have hEX := (hE9'.trans h10).trans hQ
      clear hn hs ht HON2
      go_upto_region 13 with (refine wpList_store_row rfl 26 _ _ rfl w10.heap.size #[h.iV, h.nV, h.oV] rfl rfl 26 _ hz (by kernel_rfl) rfl HOz.out ?_)
      clear hz hQ h10 hG9 hb9 hE9 hE9' hH
      generalize World.setRow (w10.alloc _) _ _ = w11 at *
      generalize w10.heap.size = b13 at *
      have hsm := same_calls g h w11 hGX hHX
      rw [hne] at hsm
      have aa0 : World.cell? w11 ⟨b8, 0, none⟩ = some g.iV := hb8X.cell 0
      have aa1 : World.cell? w11 ⟨b8, 1, none⟩ = some g.nV := hb8X.cell 1
      have aa2 : World.cell? w11 ⟨b8, 2, none⟩ = some g.oV := hb8X.cell 2
      have bb0 : World.cell? w11 ⟨b13, 0, none⟩ = some h.iV := hb13.cell 0
      have bb1 : World.cell? w11 ⟨b13, 1, none⟩ = some h.nV := hb13.cell 1
      have bb2 : World.cell? w11 ⟨b13, 2, none⟩ = some h.oV := hb13.cell 2
      clear hne
      go_wp2_with fail
      refine hsm.mono ?_
      rintro e w12 ⟨rfl, h12⟩
      clear hsm aa0 aa1 aa2 bb0 bb1 bb2
      go_wp2_with fail
      go_ret
      exact ⟨rfl, hEX.trans h12⟩

end Go.Proofs.Ytdhdbmfipkppiaa
