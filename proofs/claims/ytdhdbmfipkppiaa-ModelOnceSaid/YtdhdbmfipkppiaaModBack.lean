/- The walk of the law ModelBack. -/
import Derived.Test.YtdhdbmfipkppiaaModRows
namespace Go.Proofs.Ytdhdbmfipkppiaa
set_option linter.unusedSimpArgs false
set_option linter.unusedVariables false
set_option linter.unnecessarySimpa false
open Go.RowKit

theorem enc_few {w : World} {x : Gr} (gx : GoodG x) (hgx : GrAt w x) : (encG x.c).length ≤ 1000000 := by
  have h1 := encG_len x.c
  have h2 := gx.il
  have h3 := gx.nl
  have h4 := gx.ol
  have h5 := flat_le x.nodes (fun n hn => long_le (hgx.each n hn))
  have h6 : (x.nodes.flatMap fun n => encN n.c).length = (x.c.nodes.map longN).sum := by
    rw [← nodes_len]
    show _ = ((x.nodes.map Nd.c).flatMap encN).length
    rw [List.flatMap_map]
  have h7 : x.c.ins.length = x.ins.length := rfl
  have h8 : x.c.outs.length = x.outs.length := rfl
  omega

set_option maxRecDepth 20000 in
set_option maxHeartbeats 12800000 in
theorem modelBack_calls (g : Gr) (at_ : Int) (w : World) (hg : GrIn w g) (hat : InK .i64 at_) :
    Calls Try.prog 6 #[.agg #[g.iV, g.nV, g.oV], .int .i64 at_] w fun e w' => e = .returned (.bool true) ∧ Below w.heap.size w w' := by
  have hE1 := ext_alloc w (.cells #[g.iV, g.nV, g.oV] 26)
  have hb1 := Blk.new w #[g.iV, g.nV, g.oV] 26
  have hsh := fun W => shown04_calls W
  have hls := fun W (e : Ext w W) => less_calls g w W hg e
  go_enter Try.func6, Try.ntmps6
  go_upto_region 1 with fail
  generalize World.alloc w _ = w1 at *
  go_upto_region 2 with (go_at_call 14; refine (hsh _).mono ?_; rintro e w2 ⟨rfl, h2⟩)
  replace hb1 := hb1.ext h2
  have hE2 := hE1.trans h2
  clear hsh hE1 h2
  have d0 : World.cell? w2 ⟨w.heap.size, 0, none⟩ = some g.iV := hb1.cell 0
  have d1 : World.cell? w2 ⟨w.heap.size, 1, none⟩ = some g.nV := hb1.cell 1
  have d2 : World.cell? w2 ⟨w.heap.size, 2, none⟩ = some g.oV := hb1.cell 2
  have hlt2 := hb1.lt
  go_wp2_with fail
  refine (hls _ hE2).mono ?_
  rintro e w3 ⟨x, rfl, hL, h3⟩
  clear d0 d1 d2 hls
  replace hb1 := hb1.ext h3
  have hE3 := hE2.trans h3
  have HO := Lib.hid hL.one
  have hL4 := hL.setRow (b := w.heap.size) (Nat.le_refl _) (by omega) #[x.iV, x.nV, x.oV]
  have hb14 : Blk (w3.setRow w.heap.size #[x.iV, x.nV, x.oV]) w.heap.size #[x.iV, x.nV, x.oV] 26 := setRow_heap _ _ _ _ _ _ hb1
  have hE4 : Ext w (w3.setRow w.heap.size #[x.iV, x.nV, x.oV]) := ext_setRow hE3 _ (Nat.le_refl _)
  clear hL hE2 hE3
  go_upto_region 3 with (refine wpList_store_row rfl 26 _ _ rfl w.heap.size #[x.iV, x.nV, x.oV] rfl rfl 26 _ hb1 (by kernel_rfl) rfl HO.out ?_)
  clear hb1 h3 hlt2
  generalize World.setRow w3 _ _ = w4 at *
  have hgx := hL4.at
  clear hL4
  have hgdx : (valuesR x).2 = 0 → GoodG x := fun e => valid_ok e (fun n hn => (hgx.each n hn).isIn)
  have hpx := modelPut_calls x w4 hgx
  unfold PutPost at hpx
  have d0 : World.cell? w4 ⟨w.heap.size, 0, none⟩ = some x.iV := hb14.cell 0
  have d1 : World.cell? w4 ⟨w.heap.size, 1, none⟩ = some x.nV := hb14.cell 1
  have d2 : World.cell? w4 ⟨w.heap.size, 2, none⟩ = some x.oV := hb14.cell 2
  go_wp2_with fail
  refine hpx.mono ?_
  rintro e w5 ⟨hx0, hx1, h5⟩
  clear d0 d1 d2 hpx
  have hb15 := hb14.ext h5
  have hE5 := hE4.trans h5
  clear hE4 hb14
  by_cases zx : (valuesR x).2 = 0
  case neg =>
    have e1 := hx1 zx
    subst e1
    have t1 : ((valuesR x).2 != 0) = true := by simp [zx]
    clear hx0 hx1
    go_wp2_with fail
    go_ret
    exact ⟨rfl, hE5⟩
  obtain ⟨vx, rfl, hox⟩ := hx0 zx
  clear hx0 hx1
  have gx := hgdx zx
  have HT0 := Lib.hid (taken_all zx gx)
  have HTX := Lib.hid (fun t => taken_enc zx gx t)
  have HTC := Lib.hid (fun k hk => taken_cut gx (k := k) hk)
  have HLX := Lib.hid (enc_long x.c)
  have hbx := encG_bytes x.c
  have hlx := enc_few gx hgx
  have hgx5 := hgx.ext h5
  clear hgdx gx hgx h5
  generalize (valuesR x).2 = zxv at *
  subst zx
  generalize hxe : encG x.c = bx at *
  obtain ⟨Ax, cx, ex, hx1, hx2, hxcell⟩ := id hox.ints.form
  unfold maxLen at hx2
  subst ex
  clear hxcell
  have hwh := whole_calls _ _ w5 hox.ints hbx
  unfold WholePost at hwh
  rw [HT0.out] at hwh
  go_wp2_with fail
  refine hwh.mono ?_
  rintro e w6 ⟨hs, _, h6⟩
  obtain ⟨p, hpc, rfl, hG⟩ := hs _ rfl
  clear hs hwh
  have hz := Blk.new w6 #[.slice none 0 0, .slice none 0 0, .slice none 0 0] 26
  have hQ : Ext w6 ((w6.alloc (.cells #[.slice none 0 0, .slice none 0 0, .slice none 0 0] 26)).setRow w6.heap.size #[p.iV, p.nV, p.oV]) := ext_setRow (ext_alloc _ _) _ (Nat.le_refl _)
  have hbp : Blk ((w6.alloc (.cells #[.slice none 0 0, .slice none 0 0, .slice none 0 0] 26)).setRow w6.heap.size #[p.iV, p.nV, p.oV]) w6.heap.size #[p.iV, p.nV, p.oV] 26 := setRow_heap _ _ _ _ _ _ hz
  have HOz := Lib.hid hG.one
  have hgp := (hG.ext hQ).at
  go_upto_region 7 with (refine wpList_store_row rfl 26 _ _ rfl w6.heap.size #[p.iV, p.nV, p.oV] rfl rfl 26 _ hz (by kernel_rfl) rfl HOz.out ?_)
  have hE7 := h6.trans hQ
  clear hG hQ hz h6 HOz
  generalize World.setRow (w6.alloc _) _ _ = w7 at *
  generalize w6.heap.size = bP at *
  have hox7 := hox.ext hE7
  go_wp2_with (at_builtin; refine stopped ?_)
  refine wpList_append_fresh rfl rfl elem_u8 rfl hox7.ints rfl (one_ints _ _) (by omega) (by omega) ?_
  intro va w8 hoa hEa
  have hlit := row_new w8 #[.int .u8 1, .int .u8 2, .int .u8 3] 5 3 1 rfl (by decide)
  have hoa2 := hoa.alloc (.cells #[.int .u8 1, .int .u8 2, .int .u8 3] 5)
  have hEa2 := hEa.trans (Below.mono (ext_alloc w8 (.cells #[.int .u8 1, .int .u8 2, .int .u8 3] 5)) hEa.size)
  go_wp2_with (at_builtin; refine stopped ?_)
  refine wpList_append_row rfl rfl elem_u8 hoa2 rfl hlit rfl (one_ints .u8 [1, 2, 3]) (by omega) (by omega) hEa2.size ?_
  intro v9 w9 hob hgb _
  have hEb : Ext w7 w9 := below_own hEa2 hEa2.size hoa2 (Nat.le_refl _) hgb
  have i9 : Ints .u8 w9 v9 (bx ++ [1, 2, 3]) := ints_of_own (by rw [List.map_append]; exact hob)
  clear hoa hoa2 hEa hEa2 hlit hob hgb
  have hb9 := BytesL.app hbx (b := [1, 2, 3]) (fun z hz => by simp at hz; omega)
  have htk := take_calls v9 _ w9 i9 hb9
  unfold TakePost at htk
  rw [HTX.out [1, 2, 3]] at htk
  go_wp2_with fail
  refine htk.mono ?_
  rintro e w10 ⟨_, hs, h10⟩
  obtain ⟨q, hqc, rfl, hG⟩ := hs _ _ rfl
  clear hs htk
  have hz := Blk.new w10 #[.slice none 0 0, .slice none 0 0, .slice none 0 0] 26
  have hQ : Ext w10 ((w10.alloc (.cells #[.slice none 0 0, .slice none 0 0, .slice none 0 0] 26)).setRow w10.heap.size #[q.iV, q.nV, q.oV]) := ext_setRow (ext_alloc _ _) _ (Nat.le_refl _)
  have hbq : Blk ((w10.alloc (.cells #[.slice none 0 0, .slice none 0 0, .slice none 0 0] 26)).setRow w10.heap.size #[q.iV, q.nV, q.oV]) w10.heap.size #[q.iV, q.nV, q.oV] 26 := setRow_heap _ _ _ _ _ _ hz
  have HOz := Lib.hid hG.one
  have hgq := (hG.ext hQ).at
  go_upto_region 8 with (refine wpList_store_row rfl 26 _ _ rfl w10.heap.size #[q.iV, q.nV, q.oV] rfl rfl 26 _ hz (by kernel_rfl) rfl HOz.out ?_)
  have hE11 := h10.trans hQ
  clear hG hQ hz h10 HOz
  generalize World.setRow (w10.alloc _) _ _ = w11 at *
  generalize w10.heap.size = bQ at *
  have hE711 := hEb.trans hE11
  have hox11 := hox7.ext hE711
  clear hEb hE11 i9 hb9
  go_wp2_with (at_builtin; refine stopped ?_)
  refine wpList_append_fresh rfl rfl elem_u8 rfl hox11.ints rfl (one_ints _ _) (by omega) (by omega) ?_
  intro va w12 hoa hEa
  have hlit := row_new w12 #[.int .u8 0] 5 1 1 rfl (by decide)
  have hoa2 := hoa.alloc (.cells #[.int .u8 0] 5)
  have hEa2 := hEa.trans (Below.mono (ext_alloc w12 (.cells #[.int .u8 0] 5)) hEa.size)
  go_wp2_with (at_builtin; refine stopped ?_)
  refine wpList_append_row rfl rfl elem_u8 hoa2 rfl hlit rfl (one_ints .u8 [0]) (by omega) (by omega) hEa2.size ?_
  intro v13 w13 hob hgb _
  have hEb : Ext w11 w13 := below_own hEa2 hEa2.size hoa2 (Nat.le_refl _) hgb
  have i13 : Ints .u8 w13 v13 (bx ++ [0]) := ints_of_own (by rw [List.map_append]; exact hob)
  clear hoa hoa2 hEa hEa2 hlit hob hgb
  have hb13 := BytesL.app hbx (b := [0]) (fun z hz => by simp at hz; omega)
  have hwh := whole_calls v13 _ w13 i13 hb13
  unfold WholePost at hwh
  rw [HTX.out [0]] at hwh
  go_wp2_with fail
  refine hwh.mono ?_
  rintro e w14 ⟨_, hs, h14⟩
  have e1 := hs (fun c hc => by
    simp only [Option.some.injEq, Prod.mk.injEq, List.length_append, List.length_cons, List.length_nil] at hc
    omega)
  subst e1
  clear hs hwh
  have hz := Blk.new w14 #[.slice none 0 0, .slice none 0 0, .slice none 0 0] 26
  have hQ : Ext w14 ((w14.alloc (.cells #[.slice none 0 0, .slice none 0 0, .slice none 0 0] 26)).setRow w14.heap.size #[.slice none 0 0, .slice none 0 0, .slice none 0 0]) := ext_setRow (ext_alloc _ _) _ (Nat.le_refl _)
  go_upto_region 9 with (refine wpList_store_row rfl 26 _ _ rfl w14.heap.size #[.slice none 0 0, .slice none 0 0, .slice none 0 0] rfl rfl 26 _ hz (by kernel_rfl) rfl (by simp [Value.oneCell']) ?_)
  have hE15 := h14.trans hQ
  clear hQ hz h14
  generalize World.setRow (w14.alloc _) _ _ = w15 at *
  have hE1115 := hEb.trans hE15
  clear hEb hE15 i13 hb13
  have hA := (hE7.trans hE711).trans hE1115
  have hX := hgx5.ext hA
  have hB1 := hb15.ext hA
  have hPP := (hgp.ext hE711).ext hE1115
  have hBp := (hbp.ext hE711).ext hE1115
  have hQQ := hgq.ext hE1115
  have hBq := hbq.ext hE1115
  have hVx := hox11.ext hE1115
  have hEF := hE5.trans hA
  clear hgx5 hb15 hgp hbp hgq hbq hox11 hox7 hox hE5 hA hE7 hE711 hE1115
  have s1 := fun W (e : Ext w15 W) => same_calls p x W (hPP.ext e) (hX.ext e)
  have s2 := fun W (e : Ext w15 W) => same_calls q x W (hQQ.ext e) (hX.ext e)
  rw [decide_eq_true hpc] at s1
  rw [decide_eq_true hqc] at s2
  have aa0 : World.cell? w15 ⟨bP, 0, none⟩ = some p.iV := hBp.cell 0
  have bb0 : World.cell? w15 ⟨w.heap.size, 0, none⟩ = some x.iV := hB1.cell 0
  have aa1 : World.cell? w15 ⟨bP, 1, none⟩ = some p.nV := hBp.cell 1
  have bb1 : World.cell? w15 ⟨w.heap.size, 1, none⟩ = some x.nV := hB1.cell 1
  have aa2 : World.cell? w15 ⟨bP, 2, none⟩ = some p.oV := hBp.cell 2
  have bb2 : World.cell? w15 ⟨w.heap.size, 2, none⟩ = some x.oV := hB1.cell 2
  have s1' := s1 w15 (Ext.refl _)
  go_wp2_with fail
  refine s1'.mono ?_
  rintro e w16 ⟨rfl, hn0⟩
  clear aa0 aa1 aa2 bb0 bb1 bb2 s1 s1'
  have hF := hn0
  have aa0 : World.cell? w16 ⟨bQ, 0, none⟩ = some q.iV := (hBq.ext hF).cell 0
  have bb0 : World.cell? w16 ⟨w.heap.size, 0, none⟩ = some x.iV := (hB1.ext hF).cell 0
  have aa1 : World.cell? w16 ⟨bQ, 1, none⟩ = some q.nV := (hBq.ext hF).cell 1
  have bb1 : World.cell? w16 ⟨w.heap.size, 1, none⟩ = some x.nV := (hB1.ext hF).cell 1
  have aa2 : World.cell? w16 ⟨bQ, 2, none⟩ = some q.oV := (hBq.ext hF).cell 2
  have bb2 : World.cell? w16 ⟨w.heap.size, 2, none⟩ = some x.oV := (hB1.ext hF).cell 2
  have s2' := s2 w16 hF
  go_wp2_with fail
  refine s2'.mono ?_
  rintro e w17 ⟨rfl, hn1⟩
  clear aa0 aa1 aa2 bb0 bb1 bb2 s2 s2'
  replace hF := hF.trans hn1
  have hVx := hVx.ext hF
  have hEE := hEF.trans hF
  clear hF hX hPP hQQ hB1 hBp hBq hEF
  have hl3 := HLX.out
  obtain ⟨a1, a2⟩ := hat
  by_cases hin : 0 ≤ at_ ∧ at_ < bx.length
  · obtain ⟨k, rfl⟩ := Int.eq_ofNat_of_zero_le hin.1
    have hk : k < bx.length := by omega
    have hfst := Ints.first hVx.ints (m := k) (by omega)
    have htk := take_calls _ _ w17 hfst (fun z hz => hbx z (List.mem_of_mem_take hz))
    unfold TakePost at htk
    rw [HTC.out k hk] at htk
    clear hfst hin
    have hk2 : k ≤ cx := by omega
    go_wp2_with fail
    refine htk.mono ?_
    rintro e w18 ⟨hs, _, h18⟩
    have e1 := hs (by trivial)
    subst e1
    clear hs htk
    have hz := Blk.new w18 #[.slice none 0 0, .slice none 0 0, .slice none 0 0] 26
    have hQ : Ext w18 ((w18.alloc (.cells #[.slice none 0 0, .slice none 0 0, .slice none 0 0] 26)).setRow w18.heap.size #[.slice none 0 0, .slice none 0 0, .slice none 0 0]) := ext_setRow (ext_alloc _ _) _ (Nat.le_refl _)
    go_upto_region 13 with (refine wpList_store_row rfl 26 _ _ rfl w18.heap.size #[.slice none 0 0, .slice none 0 0, .slice none 0 0] rfl rfl 26 _ hz (by kernel_rfl) rfl (by simp [Value.oneCell']) ?_)
    have hE19 := h18.trans hQ
    clear hQ hz h18
    generalize World.setRow (w18.alloc _) _ _ = w19 at *
    go_wp2_with fail
    go_ret
    exact ⟨rfl, hEE.trans hE19⟩
  · have hor : at_ < 0 ∨ (0 ≤ at_ ∧ (bx.length : Int) ≤ at_) := by omega
    rcases hor with hn | ⟨hn, hn2⟩
    · clear hin
      go_wp2_with fail
      go_ret
      exact ⟨rfl, hEE⟩
    · clear hin
      go_wp2_with fail
      go_ret
      exact ⟨rfl, hEE⟩

end Go.Proofs.Ytdhdbmfipkppiaa
