/- The walk of the reference's Of: tiles. -/
import Derived.Test.YtmddlhfahfelpaaRgg
set_option linter.unusedSimpArgs false
set_option linter.unusedVariables false
set_option linter.unnecessarySimpa false
namespace Go.Proofs.Ytmddlhfahfelpaa
open Go.RowKit

set_option maxRecDepth 20000 in
set_option maxHeartbeats 12800000 in
theorem rOf_tile (g : Gr) (pV s0 s1 s2 : Value) (pl : List Int) (c : Isa.Cm) (w : World) (hg : GrAt w g) (hp : Ints .i64 w pV pl) (hv0 : (valuesR g).2 = 0) (hm : Isa.mayB c = true) (hl : pl.length = (valuesR g).1.length) (hk : c.k = 3) (n : Nat) (hcn : c.n = (n : Int)) (hn : n < g.nodes.length) :
    Calls Try.prog 27 #[.agg #[g.iV, g.nV, g.oV, pV, s0, s1, s2], .agg #[.int .i64 c.k, .int .i64 c.s, .int .i64 c.n, .int .i64 c.f, .int .i64 c.r, .int .i64 c.o, .int .i64 c.d, .int .i64 c.p, .int .i64 c.i0, .int .i64 c.i1, .int .i64 c.b0, .int .i64 c.b1, .int .i64 c.h0, .int .i64 c.h1]] w (OfPost (ofR g pl c) w) := by
  have HOF : Hid (ofR g pl c = (if (valuesR g).2 ≠ 0 then ([], (valuesR g).2) else
    if Isa.mayB c = false ∨ pl.length ≠ (valuesR g).1.length then ([], 1) else
    if (c.k = 3 ∨ c.k = 4) ∧ (g.nodes.length ≤ c.n ∨ rowsOk c ((valuesR g).1[g.ins.length + c.n.toNat]?.getD default).s = false) then ([], 27) else
    ofR.lookSp (if c.k = 3 ∨ c.k = 4 then nodeSp (valuesR g).1 pl c ((g.nodes[c.n.toNat]?.map Nd.ins).getD []) (g.ins.length + c.n.toNat) else moveSp c))) := rfl
  have HP : Hid (∀ e w', (∃ v, e = .returned (.tuple #[v, .int .i64 (ofR g pl c).2]) ∧ Spans w' v (ofR g pl c).1 ∧ Ext w w') → OfPost (ofR g pl c) w e w') := fun e w' h => h
  generalize OfPost (ofR g pl c) w = PP at *
  have HE : Hid (∀ e w' z, ofR g pl c = ([], z) → e = .returned (.tuple #[.slice none 0 0, .int .i64 z]) → Ext w w' → PP e w') := fun e w' z h1 h2 h3 => HP.out e w' ⟨.slice none 0 0, by rw [h1]; exact h2, by rw [h1]; exact spans_nil _, h3⟩
  obtain ⟨Ap, cp, ep, hp1, hp2, hpcl⟩ := id hp.form
  unfold maxLen at hp2
  have EP := Lib.hid ep
  have HPCL := Lib.hid hpcl
  clear ep hpcl
  have hvok := fun h => vals_ok (g := g) h
  have hvc := fun W (h : Ext w W) => rvalues_calls g W (hg.ext h)
  have hmay := fun W => Isa.refMay_calls c W
  unfold Isa.Cm.v at hmay
  have hb0 := Blk.new w #[g.iV, g.nV, g.oV, pV, s0, s1, s2] 30
  have hE1 := ext_alloc w (.cells #[g.iV, g.nV, g.oV, pV, s0, s1, s2] 30)
  have hE2 := ext_alloc (w.alloc (.cells #[g.iV, g.nV, g.oV, pV, s0, s1, s2] 30)) (.cells #[.int .i64 c.k, .int .i64 c.s, .int .i64 c.n, .int .i64 c.f, .int .i64 c.r, .int .i64 c.o, .int .i64 c.d, .int .i64 c.p, .int .i64 c.i0, .int .i64 c.i1, .int .i64 c.b0, .int .i64 c.b1, .int .i64 c.h0, .int .i64 c.h1] 47)
  have hb1 := Blk.new (w.alloc (.cells #[g.iV, g.nV, g.oV, pV, s0, s1, s2] 30)) #[.int .i64 c.k, .int .i64 c.s, .int .i64 c.n, .int .i64 c.f, .int .i64 c.r, .int .i64 c.o, .int .i64 c.d, .int .i64 c.p, .int .i64 c.i0, .int .i64 c.i1, .int .i64 c.b0, .int .i64 c.b1, .int .i64 c.h0, .int .i64 c.h1] 47
  rw [show (w.alloc (.cells #[g.iV, g.nV, g.oV, pV, s0, s1, s2] 30)).heap.size = w.heap.size + 1 from by simp] at hb1
  replace hb0 := hb0.ext hE2
  have h1 := hE1.trans hE2
  clear hE1 hE2
  have HKK := Lib.hid hk
  have HCN := Lib.hid hcn
  clear hk hcn
  go_enter Try.func27, Try.ntmps27
  go_upto_region 1 with fail
  generalize World.alloc (World.alloc w _) _ = w1 at *
  have q0 : World.cell? w1 ⟨w.heap.size, 0, none⟩ = some g.iV := hb0.cell 0
  have q1 : World.cell? w1 ⟨w.heap.size, 1, none⟩ = some g.nV := hb0.cell 1
  have q2 : World.cell? w1 ⟨w.heap.size, 2, none⟩ = some g.oV := hb0.cell 2
  replace hvc := hvc _ h1
  generalize w.heap.size = b2 at *
  obtain ⟨vr, hvr⟩ : ∃ vr, valuesR g = vr := ⟨_, rfl⟩
  rw [hvr] at hvc HOF hvok hv0 hl
  unfold ValsPost at hvc
  replace hvok := hvok hv0
  go_wp2_with fail
  refine hvc.mono ?_
  rintro e w2 ⟨hA, _, hE2⟩
  obtain ⟨vV, rfl, hown⟩ := hA hv0
  have h2 := h1.trans hE2
  replace hb0 := hb0.ext hE2
  replace hb1 := hb1.ext hE2
  have hvls := row_of_own hown
  clear q0 q1 q2 hE2 hA hvc hown
  have HOF2 := HOF.out
  rw [if_neg (show ¬ (vr.2 ≠ 0) from fun h => h hv0)] at HOF2
  obtain ⟨vs, z⟩ := vr
  simp only at hv0 hvok HOF2 hvls hl
  subst hv0
  replace HOF := Lib.hid HOF2
  clear HOF2 hvr h1
  replace hvls : Vls w2 vV vs := hvls
  obtain ⟨Av, cv, ev, hv1, hv2, hvcl⟩ := id hvls.form
  unfold maxLen at hv2
  have HVCL := Lib.hid hvcl
  clear hvcl
  subst ev
  have hme : Isa.mayE c = 0 := by unfold Isa.mayE; rw [if_pos hm]
  rw [hme] at hmay
  have HM := Lib.hid hm
  clear hme hm
  have p0 : World.cell? w2 ⟨b2 + 1, 0, none⟩ = some (.int .i64 c.k) := hb1.cell 0
  have p1 : World.cell? w2 ⟨b2 + 1, 1, none⟩ = some (.int .i64 c.s) := hb1.cell 1
  have p2 : World.cell? w2 ⟨b2 + 1, 2, none⟩ = some (.int .i64 c.n) := hb1.cell 2
  have p3 : World.cell? w2 ⟨b2 + 1, 3, none⟩ = some (.int .i64 c.f) := hb1.cell 3
  have p4 : World.cell? w2 ⟨b2 + 1, 4, none⟩ = some (.int .i64 c.r) := hb1.cell 4
  have p5 : World.cell? w2 ⟨b2 + 1, 5, none⟩ = some (.int .i64 c.o) := hb1.cell 5
  have p6 : World.cell? w2 ⟨b2 + 1, 6, none⟩ = some (.int .i64 c.d) := hb1.cell 6
  have p7 : World.cell? w2 ⟨b2 + 1, 7, none⟩ = some (.int .i64 c.p) := hb1.cell 7
  have p8 : World.cell? w2 ⟨b2 + 1, 8, none⟩ = some (.int .i64 c.i0) := hb1.cell 8
  have p9 : World.cell? w2 ⟨b2 + 1, 9, none⟩ = some (.int .i64 c.i1) := hb1.cell 9
  have p10 : World.cell? w2 ⟨b2 + 1, 10, none⟩ = some (.int .i64 c.b0) := hb1.cell 10
  have p11 : World.cell? w2 ⟨b2 + 1, 11, none⟩ = some (.int .i64 c.b1) := hb1.cell 11
  have p12 : World.cell? w2 ⟨b2 + 1, 12, none⟩ = some (.int .i64 c.h0) := hb1.cell 12
  have p13 : World.cell? w2 ⟨b2 + 1, 13, none⟩ = some (.int .i64 c.h1) := hb1.cell 13
  have q3 : World.cell? w2 ⟨b2, 3, none⟩ = some (.slice Ap pl.length cp) := by rw [← EP.out]; exact hb0.cell 3
  go_wp2_with fail
  refine (hmay _).mono ?_
  rintro e w3 ⟨rfl, hE3⟩
  have hE3 : Ext w2 w3 := hE3
  clear p0 p1 p2 p3 p4 p5 p6 p7 p8 p9 p10 p11 p12 p13 hmay
  replace q3 : World.cell? w3 ⟨b2, 3, none⟩ = some (.slice Ap pl.length cp) := cell_ext q3 _ hE3
  have h3 := h2.trans hE3
  replace hb0 := hb0.ext hE3
  replace hb1 := hb1.ext hE3
  replace hvls := hvls.ext hE3
  have hE23 := hE3
  clear hE3 h2
  have hln : ((pl.length : Int) != (vs.length : Int)) = false := by rw [bne_eq_false_iff_eq]; exact_mod_cast hl
  have HOF2 := HOF.out
  rw [if_neg (show ¬ (Isa.mayB c = false ∨ pl.length ≠ vs.length) by rw [HM.out]; simp [hl])] at HOF2
  replace HOF := Lib.hid HOF2
  have HL := Lib.hid hl
  clear HOF2 hl
  obtain ⟨An, cn, en, hn1, hn2, hncl⟩ := id (SRow.form hg.nodes (fun _ => rfl) (by omega))
  unfold maxLen at hn2
  have EN := Lib.hid en
  have HNCL := Lib.hid hncl
  clear en hncl
  have g0 : World.cell? w3 ⟨b2, 0, none⟩ = some g.iV := hb0.cell 0
  have g1 : World.cell? w3 ⟨b2, 1, none⟩ = some g.nV := hb0.cell 1
  have g2 : World.cell? w3 ⟨b2, 2, none⟩ = some g.oV := hb0.cell 2
  have hone : Array.all #[g.iV, g.nV, g.oV] (·.oneCell') = true := (hg.ext h3).oneG
  have HO := Lib.hid hone
  have hz := Blk.new w3 #[.slice none 0 0, .slice none 0 0, .slice none 0 0] 26
  have hb8 : Blk ((w3.alloc (.cells #[.slice none 0 0, .slice none 0 0, .slice none 0 0] 26)).setRow w3.heap.size #[g.iV, g.nV, g.oV]) w3.heap.size #[g.iV, g.nV, g.oV] 26 := setRow_heap _ _ _ _ _ _ hz
  have hQ : Ext w3 ((w3.alloc (.cells #[.slice none 0 0, .slice none 0 0, .slice none 0 0] 26)).setRow w3.heap.size #[g.iV, g.nV, g.oV]) := ext_setRow (ext_alloc _ _) _ (Nat.le_refl _)
  have h4 := h3.trans hQ
  replace hb0 := hb0.ext hQ
  replace hb1 := hb1.ext hQ
  replace hvls := hvls.ext hQ
  have hE20 := hE23.trans hQ
  clear hone hQ hE23
  go_upto_region 7 with (refine wpList_store_row rfl 26 _ _ rfl w3.heap.size #[g.iV, g.nV, g.oV] rfl rfl 26 _ hz (by kernel_rfl) rfl HO.out ?_)
  clear g0 g1 g2 hz HO q3 hln h3
  generalize World.setRow (World.alloc w3 _) _ _ = w0 at *
  generalize w3.heap.size = b8 at *
  have p0 : World.cell? w0 ⟨b2 + 1, 0, none⟩ = some (.int .i64 c.k) := hb1.cell 0
  have p2 : World.cell? w0 ⟨b2 + 1, 2, none⟩ = some (.int .i64 c.n) := hb1.cell 2
  have g1 : World.cell? w0 ⟨b8, 1, none⟩ = some (.slice An g.nodes.length cn) := by rw [← EN.out]; exact hb8.cell 1
  rw [HCN.out] at p2
  have hk := HKK.out
  have k3 : (c.k == 3) = true := by rw [beq_iff_eq]; omega
  have k4 : (c.k == 4) = false := by rw [beq_eq_false_iff_ne]; omega
  have k1 : (c.k == 1) = false := by rw [beq_eq_false_iff_ne]; omega
  have k2 : (c.k == 2) = false := by rw [beq_eq_false_iff_ne]; omega
  clear hk
  go_upto_region 9 with fail
  clear g1 p2 p0
  have hS0 := OwnS.new w0
  have p0 : World.cell? (w0.alloc (.cells #[] 85)) ⟨b2 + 1, 0, none⟩ = some (.int .i64 c.k) := (hb1.ext (ext_alloc _ _)).cell 0
  go_upto_block 0 with fail
  clear p0
  generalize World.alloc w0 _ = w4 at *
  generalize Value.slice (some ⟨w0.heap.size, 0, none⟩) 0 0 = v0 at *
  refine cut_code (fun a W => ∃ (v : Value) (l : List Sp), LitA a (fun f => ({ tmps := #[f 0, f 1, f 2, f 3, .slice none 0 0, .int .i64 0, f 6, f 7, f 8, v, f 10, f 11, f 12, f 13, f 14, f 15, f 16, f 17, f 18, f 19, f 20, f 21, f 22, f 23, f 24, f 25, f 26, f 27, f 28, f 29, f 30, f 31, f 32, f 33, f 34, f 35, f 36, f 37, f 38, f 39, f 40, f 41, f 42, f 43, f 44, f 45, f 46, f 47, f 48, f 49, f 50, f 51, f 52, f 53, f 54, f 55, f 56, f 57, f 58, f 59, f 60, f 61, f 62, f 63, f 64, f 65, f 66, f 67, f 68, f 69, f 70, f 71, f 72, f 73, f 74, f 75, f 76, f 77, f 78, f 79, f 80, f 81, f 82, f 83, f 84, f 85, f 86, f 87, f 88, f 89, f 90, f 91, f 92, f 93, f 94, f 95, f 96, f 97, f 98, f 99, f 100, f 101, f 102, f 103, f 104, f 105, f 106, f 107, f 108, f 109, f 110, f 111, f 112, f 113, f 114, f 115, f 116, f 117, f 118, f 119, f 120, f 121, f 122, f 123, f 124, f 125, f 126, f 127, f 128, f 129, f 130, f 131, f 132, f 133, f 134, f 135, f 136, f 137, f 138, f 139, f 140, f 141, f 142, f 143, f 144, f 145, f 146, f 147, f 148, f 149, f 150, f 151, f 152, f 153, f 154, f 155, f 156, f 157, f 158, f 159, f 160, f 161, f 162, f 163, f 164, f 165, f 166, f 167, f 168, f 169, f 170, f 171, f 172, f 173, f 174, f 175, f 176, f 177, f 178, f 179, f 180, f 181, f 182, f 183, f 184, f 185, f 186, f 187, f 188, f 189, f 190, f 191, f 192, f 193, f 194, f 195, f 196, f 197, f 198, f 199, f 200, f 201, f 202, f 203, f 204, f 205, f 206, f 207, f 208, f 209, f 210, f 211, f 212, f 213, f 214, f 215, f 216, f 217, f 218, f 219, f 220, f 221, f 222, f 223, f 224, f 225, f 226, f 227, f 228, f 229, f 230, f 231, f 232, f 233, f 234, f 235, f 236, f 237, f 238], defers := [] } : Act)) ∧ OwnS [] w0 W v l ∧ ofR g pl c = ofR.lookSp l) (fun K hK => ?_) ?_
  rotate_left
  · rintro a wq ⟨v, l, ⟨f, rfl⟩, hS, hof⟩
    have hsp : Spans wq v l := row_of_own hS.own
    obtain ⟨Al, cl, el, hl1, hl2, hlc⟩ := hsp.form
    unfold maxLen at hl2
    subst el
    have h5 := h4.trans hS.ext
    have HSP := Lib.hid hsp
    have HOF3 := Lib.hid hof
    have HLC := Lib.hid hlc
    clear hS hsp hof hlc h4 hb0 hb1 hS0 HL HM HOF hvls hb8
    go_wp2_with fail
    go_loopw [16] (fun i wx => ∃ k : Nat, k ≤ l.length ∧ i = .int .i64 k ∧ Hid (∀ s ∈ l.take k, mayE s = 0) ∧ Ext wq wx) (fun i _ => l.length - (intOf i).toNat)
    case atStart => exact ⟨0, by omega, rfl, (fun s hs => by simp at hs), Ext.refl _⟩
    case round =>
      obtain ⟨k, hk, rfl, HZ, hE⟩ := hrel
      by_cases hlt : k < l.length
      · have hs : l[k]? = some l[k] := by simp [hlt]
        obtain ⟨b, off, rfl, c0, c1, c2, c3⟩ := HLC.out k _ hs
        have HS : Hid (mayE l[k] ≠ 0 → ofR g pl c = ([], mayE l[k])) := fun h => by rw [HOF3.out]; exact lookSp_some hs HZ.out h
        have HN : Hid (mayE l[k] = 0 → ∀ s ∈ l.take (k + 1), mayE s = 0) := fun h s hs2 => by
          rw [List.take_succ_eq_append_getElem hlt] at hs2
          rcases List.mem_append.1 hs2 with h5 | h5
          · exact HZ.out s h5
          · obtain rfl := List.mem_singleton.1 h5; exact h
        generalize l[k] = s at *
        replace c0 := cell_ext c0 _ hE
        replace c1 := cell_ext c1 _ hE
        replace c2 := cell_ext c2 _ hE
        replace c3 := cell_ext c3 _ hE
        have hmy := fun W => refMay_calls s W
        unfold Sp.v at hmy
        generalize mayE s = me at *
        clear hs
        by_cases hme : me = 0
        · have HT := Lib.hid (HN.out hme)
          clear HN HS
          rw [hme] at hmy
          clear hme
          go_wp2_with fail
          refine (hmy _).mono ?_
          rintro e wz ⟨rfl, hEz⟩
          replace hE := hE.trans hEz
          clear hmy c0 c1 c2 c3
          go_wp2_with fail
          go_roundw
          case rel => exact ⟨k + 1, by omega, by go_num, HT, hE⟩
          case measure => simp [intOf]; omega
        · have HV := Lib.hid (HS.out hme)
          have hmz : (me != 0) = true := by simpa using hme
          clear HN HS hme
          go_wp2_with fail
          refine (hmy _).mono ?_
          rintro e wz ⟨rfl, hEz⟩
          replace hE := hE.trans hEz
          clear hmy c0 c1 c2 c3
          go_wp2_with fail
          exact HE.out _ _ _ HV.out rfl (h5.trans hE)
      · have hkk : k = l.length := by omega
        subst hkk
        have HV : Hid (ofR g pl c = (l, 0)) := by
          show _ = _
          rw [HOF3.out]
          have hz := HZ.out
          rw [List.take_length] at hz
          exact lookSp_none hz
        go_wp2_with fail
        exact HP.out _ _ ⟨.slice Al l.length cl, by rw [HV.out]; rfl, by rw [HV.out]; exact HSP.out.below hE, h5.trans hE⟩
  have HK := Lib.hid hK
  clear hK
  have HE20 := Lib.hid hE20
  obtain ⟨Ai, ci, ei, hi1, hi2, _⟩ := id hg.ins.form
  unfold maxLen at hi2
  have EI := Lib.hid ei
  clear hE20 ei
  have hvl := hvok.len
  have hil := hvok.il
  have hto : g.ins.length + n < vs.length := by omega
  have hvl12 : vs.length ≤ 1000 := by have := hvok.nl; omega
  have hmd := fun W (h : Ext w0 W) => made12_calls g (.slice Av vs.length cv) vs n W (hg.ext (h4.trans h)) (hvls.ext h) hto hvl12
  have HVL := Lib.hid hvl
  clear hvl
  have hs : g.nodes[n]? = some g.nodes[n] := by simp [hn]
  have hsv : vs[g.ins.length + n]? = some vs[g.ins.length + n] := by simp [hto]
  obtain ⟨bn, offn, rfl, hbn, hnc⟩ := HNCL.out n _ hs
  have hnode := hg.each _ (List.getElem_mem hn)
  obtain ⟨hin1, hin2⟩ := hvok.ins _ (List.getElem_mem hn)
  have HBD := Lib.hid ((Isa.mayB_tile HKK.out).1 HM.out)
  have HO2 := HOF.out
  rw [HCN.out, Int.toNat_natCast, if_pos (show c.k = 3 ∨ c.k = 4 from Or.inl HKK.out), hs, hsv] at HO2
  rw [hsv] at hmd
  simp only [Option.map_some, Option.getD_some] at HO2 hmd
  have HHI := Lib.hid hin2
  generalize g.nodes[n] = nd at *
  generalize hxv : vs[g.ins.length + n] = xv at *
  clear hxv
  obtain ⟨tt, htt⟩ : ∃ tt, g.ins.length + n = tt := ⟨_, rfl⟩
  rw [htt] at hto hsv HO2
  have hzz : (g.ins.length : Int) + (n : Int) = (tt : Int) := by omega
  have HGI : Hid (∀ i, goIn vs pl c nd.ins i = spz 1 (inOf c i) (haveOf c i * rowZ (getV vs (nd.ins[i]?.getD 0)).s) false) := fun i => by unfold goIn; rw [if_pos HKK.out]
  have HCO : Hid (comeOut vs pl c tt = spz 1 c.p (c.r * rowZ xv.s) true) := by show _ = _; unfold comeOut; rw [if_pos HKK.out, hsv]; rfl
  have HRO : Hid (rowsOk c xv.s = decide (c.f + c.r ≤ xv.s.h)) := by show _ = _; unfold rowsOk; rw [if_pos HKK.out]
  have HGOOD : Hid (rowsOk c xv.s = true → ofR g pl c = ofR.lookSp ((List.range nd.ins.length).map (goIn vs pl c nd.ins) ++ [comeOut vs pl c tt])) := by
    show _ → _
    intro h
    rw [HO2, if_neg (by rintro ⟨_, h5 | h5⟩; omega; (rw [h] at h5; cases h5))]
    rfl
  have HBAD : Hid (rowsOk c xv.s = false → ofR g pl c = ([], 27)) := by
    show _ → _
    intro h
    rw [HO2, if_pos ⟨Or.inl HKK.out, Or.inr h⟩]
  have HN1 := Lib.hid hnode.1
  have HNC := Lib.hid hnc
  clear HO2 HOF hnode hnc hin2 hs HNCL hn
  have g0 : World.cell? w4 ⟨b8, 0, none⟩ = some g.iV := (hb8.ext hS0.ext).cell 0
  have g1 : World.cell? w4 ⟨b8, 1, none⟩ = some g.nV := (hb8.ext hS0.ext).cell 1
  have g2 : World.cell? w4 ⟨b8, 2, none⟩ = some g.oV := (hb8.ext hS0.ext).cell 2
  have p2 : World.cell? w4 ⟨b2 + 1, 2, none⟩ = some (.int .i64 (n : Int)) := by rw [← HCN.out]; exact (hb1.ext hS0.ext).cell 2
  replace hmd := hmd w4 hS0.ext
  go_wp2_with fail
  refine hmd.mono ?_
  rintro e w5 ⟨rfl, hE5⟩
  clear hmd g0 g1 g2 p2
  have hz := Blk.new w5 #[.int .i64 0, .int .i64 0, .int .i64 0] 42
  have hb10 : Blk ((w5.alloc (.cells #[.int .i64 0, .int .i64 0, .int .i64 0] 42)).setRow w5.heap.size #[.int .i64 xv.s.h, .int .i64 xv.s.w, .int .i64 xv.s.c]) w5.heap.size #[.int .i64 xv.s.h, .int .i64 xv.s.w, .int .i64 xv.s.c] 42 := setRow_heap _ _ _ _ _ _ hz
  have hQ : Ext w5 ((w5.alloc (.cells #[.int .i64 0, .int .i64 0, .int .i64 0] 42)).setRow w5.heap.size #[.int .i64 xv.s.h, .int .i64 xv.s.w, .int .i64 xv.s.c]) := ext_setRow (ext_alloc _ _) _ (Nat.le_refl _)
  have hS1 := (hS0.later hE5).more hQ (Nat.le_refl _) hb10
  clear hS0 hE5 hQ hb10
  have HS1 := Lib.hid hS1
  clear hS1
  go_upto_region 17 with (refine wpList_store_row rfl 42 _ _ rfl w5.heap.size #[.int .i64 xv.s.h, .int .i64 xv.s.w, .int .i64 xv.s.c] rfl rfl 42 _ hz (by kernel_rfl) rfl (shape_one xv.s) ?_)
  clear hz
  generalize World.setRow (World.alloc w5 _) _ _ = w6 at *
  generalize w5.heap.size = b10 at *
  obtain ⟨SL, hSL⟩ : ∃ SL : Side, SL = [(b10, #[.int .i64 xv.s.h, .int .i64 xv.s.w, .int .i64 xv.s.c], 42)] := ⟨_, rfl⟩
  rw [← hSL] at HS1
  have qp : ∀ W, SideOk SL w0 W → World.cell? W ⟨b2, 3, none⟩ = some (.slice Ap pl.length cp) := fun W h => by rw [← EP.out]; exact (hb0.ext h.2).cell 3
  have qg0 : ∀ W, SideOk SL w0 W → World.cell? W ⟨b8, 0, none⟩ = some g.iV := fun W h => (hb8.ext h.2).cell 0
  have qg1 : ∀ W, SideOk SL w0 W → World.cell? W ⟨b8, 1, none⟩ = some (.slice (some ⟨bn, offn, none⟩) g.nodes.length cn) := fun W h => by rw [← EN.out]; exact (hb8.ext h.2).cell 1
  have qd : ∀ W, SideOk SL w0 W → World.cell? W ⟨b2 + 1, 2, none⟩ = some (.int .i64 (n : Int)) := fun W h => by rw [← HCN.out]; exact (hb1.ext h.2).cell 2
  have qf : ∀ W, SideOk SL w0 W → World.cell? W ⟨b2 + 1, 3, none⟩ = some (.int .i64 c.f) := fun W h => (hb1.ext h.2).cell 3
  have qr : ∀ W, SideOk SL w0 W → World.cell? W ⟨b2 + 1, 4, none⟩ = some (.int .i64 c.r) := fun W h => (hb1.ext h.2).cell 4
  have qq : ∀ W, SideOk SL w0 W → World.cell? W ⟨b2 + 1, 7, none⟩ = some (.int .i64 c.p) := fun W h => (hb1.ext h.2).cell 7
  have qi0 : ∀ W, SideOk SL w0 W → World.cell? W ⟨b2 + 1, 8, none⟩ = some (.int .i64 c.i0) := fun W h => (hb1.ext h.2).cell 8
  have qi1 : ∀ W, SideOk SL w0 W → World.cell? W ⟨b2 + 1, 9, none⟩ = some (.int .i64 c.i1) := fun W h => (hb1.ext h.2).cell 9
  have qh0 : ∀ W, SideOk SL w0 W → World.cell? W ⟨b2 + 1, 12, none⟩ = some (.int .i64 c.h0) := fun W h => (hb1.ext h.2).cell 12
  have qh1 : ∀ W, SideOk SL w0 W → World.cell? W ⟨b2 + 1, 13, none⟩ = some (.int .i64 c.h1) := fun W h => (hb1.ext h.2).cell 13
  have qm0 : ∀ W, SideOk SL w0 W → World.cell? W ⟨b10, 0, none⟩ = some (.int .i64 xv.s.h) := fun W h => (h.1 (b10, #[.int .i64 xv.s.h, .int .i64 xv.s.w, .int .i64 xv.s.c], 42) (by rw [hSL]; simp)).cell 0
  have qm1 : ∀ W, SideOk SL w0 W → World.cell? W ⟨b10, 1, none⟩ = some (.int .i64 xv.s.w) := fun W h => (h.1 (b10, #[.int .i64 xv.s.h, .int .i64 xv.s.w, .int .i64 xv.s.c], 42) (by rw [hSL]; simp)).cell 1
  have qm2 : ∀ W, SideOk SL w0 W → World.cell? W ⟨b10, 2, none⟩ = some (.int .i64 xv.s.c) := fun W h => (h.1 (b10, #[.int .i64 xv.s.h, .int .i64 xv.s.w, .int .i64 xv.s.c], 42) (by rw [hSL]; simp)).cell 2
  obtain ⟨Aj, cj, ej, hj1, hj2, hjcl⟩ := id HN1.out.form
  unfold maxLen at hj2
  have HJCL := Lib.hid hjcl
  have HHG := Lib.hid hg
  have HHB := Lib.hid (And.intro hb0 (And.intro hb1 hb8))
  have HHV := Lib.hid hvls
  have HHP := Lib.hid hp
  have HOKV := Lib.hid hvok
  clear hjcl hb0 hb1 hb8 hSL hg hvls hp hvok hsv htt
  have m0 : World.cell? w6 ⟨b10, 0, none⟩ = some (.int .i64 xv.s.h) := qm0 _ HS1.out.ok
  have m4 : World.cell? w6 ⟨b2 + 1, 4, none⟩ = some (.int .i64 c.r) := qr _ HS1.out.ok
  have m3 : World.cell? w6 ⟨b2 + 1, 3, none⟩ = some (.int .i64 c.f) := qf _ HS1.out.ok
  have mw : IntKind.i64.wrap (c.f + c.r) = c.f + c.r := by have hbd := HBD.out; exact IntWalk.i64_in _ (by omega)
  by_cases hro : c.f + c.r ≤ xv.s.h
  · have HQ := Lib.hid (HGOOD.out (by rw [HRO.out]; exact decide_eq_true hro))
    
    skip
    go_upto_region 19 with fail
    clear m0 m4 m3 mw hro HGOOD HBAD HRO
    have e1 : World.cell? w6 ⟨b8, 1, none⟩ = some (.slice (some ⟨bn, offn, none⟩) g.nodes.length cn) := qg1 _ HS1.out.ok
    have d2 : World.cell? w6 ⟨b2 + 1, 2, none⟩ = some (.int .i64 (n : Int)) := qd _ HS1.out.ok
    have nc1 : World.cell? w6 ⟨bn, offn + n * 14 + 1, none⟩ = some (.slice Aj nd.ins.length cj) := by rw [← ej]; exact cell_ext (HNC.out 1 _ rfl) _ (h4.trans HS1.out.ext)
    have hnlt : n < g.nodes.length := by have := HVL.out; omega
    clear ej
    go_wp2_with fail
    clear e1 d2 nc1
    go_loopw [9, 12] (fun v i wr => ∃ (k : Nat) (l : List Sp), k ≤ nd.ins.length ∧ i = .int .i64 k ∧ Hid (l = (List.range k).map (goIn vs pl c nd.ins)) ∧ Hid (OwnS SL w0 wr v l)) (fun _ i _ => nd.ins.length - (intOf i).toNat)
    case atStart => exact ⟨0, [], by omega, rfl, (by show _ = _; simp), HS1⟩
    case round =>
      clear HS1
      obtain ⟨k, l, hk, rfl, hl, HS⟩ := hrel
      by_cases hlt : k < nd.ins.length
      · obtain ⟨bj, offj, rfl, y0⟩ := HJCL.out k hlt
        have hzv : nd.ins[k]?.getD 0 = nd.ins[k] := by simp [hlt]
        rw [hzv] at y0
        have hzr := HHI.out _ (List.getElem_mem hlt)
        have HGK := HGI.out k
        rw [hzv] at HGK
        generalize nd.ins[k] = z at *
        clear hzv
        obtain ⟨j, rfl⟩ := Int.eq_ofNat_of_zero_le hzr.1
        have hjl : j < vs.length := by omega
        have hjs : vs[j]? = some vs[j] := by simp [hjl]
        obtain ⟨bv, offv, rfl, _, hvc⟩ := HVCL.out j _ hjs
        have hjp : j < pl.length := by rw [HL.out]; exact hjl
        obtain ⟨bp, offp, rfl, hpc⟩ := HPCL.out j hjp
        have hps : pl[j]? = some pl[j] := by simp [hjp]
        rw [hps] at hpc
        rw [show getV vs (j : Int) = vs[j] by unfold getV; simp [hjs]] at HGK
        simp only [Option.getD_some] at hpc 
        generalize vs[j] = yv at *
        generalize pl[j] = pj at *
        have HGK := Lib.hid HGK
        have hLL : l.length ≤ 1000 := by rw [hl.out]; simp; omega
        have hyc : ∀ i u, (Vl.cs yv)[i]? = some u → World.cell? w0 ⟨bv, offv + j * 4 + i, none⟩ = some u := fun i u h => cell_ext (hvc i u h) _ HE20.out
        have y1 : ∀ W, SideOk SL w0 W → World.cell? W ⟨bv, offv + j * 4, none⟩ = some (.int .i64 yv.s.h) := fun W h => cell_ext (hyc 0 _ rfl) _ h.2
        have y2 : ∀ W, SideOk SL w0 W → World.cell? W ⟨bv, offv + j * 4 + 1, none⟩ = some (.int .i64 yv.s.w) := fun W h => cell_ext (hyc 1 _ rfl) _ h.2
        have y3 : ∀ W, SideOk SL w0 W → World.cell? W ⟨bv, offv + j * 4 + 2, none⟩ = some (.int .i64 yv.s.c) := fun W h => cell_ext (hyc 2 _ rfl) _ h.2
        have yj : ∀ W, SideOk SL w0 W → World.cell? W ⟨bj, offj + k, none⟩ = some (.int .i64 (j : Int)) := fun W h => cell_ext y0 _ (h4.trans h.2)
        have yp : ∀ W, SideOk SL w0 W → World.cell? W ⟨bp, offp + j, none⟩ = some (.int .i64 pj) := fun W h => cell_ext hpc _ (h4.trans h.2)
        have hSd := HS.out.later (Ext.drew wr)
        clear hvc hpc hyc hjs hps y0
        go_upto_region 23 with fail
        have hk2 : k < 2 := by omega
        have hk3 : (k : Int) < 2 := by omega
        have ri : ∀ W, SideOk SL w0 W → World.cell? W ⟨b2 + 1, 8 + k, none⟩ = some (.int .i64 (inOf c k)) := fun W h => by
          rcases (by omega : k = 0 ∨ k = 1) with rfl | rfl
          · exact qi0 W h
          · exact qi1 W h
        have rh : ∀ W, SideOk SL w0 W → World.cell? W ⟨b2 + 1, 12 + k, none⟩ = some (.int .i64 (haveOf c k)) := fun W h => by
          rcases (by omega : k = 0 ∨ k = 1) with rfl | rfl
          · exact qh0 W h
          · exact qh1 W h
        have hhr : 0 ≤ haveOf c k ∧ haveOf c k ≤ 16 := by
          have hbd := HBD.out
          unfold haveOf
          split <;> omega
        generalize haveOf c k = hv at *
        generalize inOf c k = iv at *
        have hrc := fun W => rRow_calls yv.s W
        have hrz := rowZ_range yv.s
        generalize rowZ yv.s = rz at *
        have hpr : 0 ≤ hv * rz ∧ hv * rz ≤ 16 * 128 := ⟨Int.mul_nonneg hhr.1 hrz.1, Int.mul_le_mul hhr.2 hrz.2 hrz.1 (by omega)⟩
        have m1 : IntKind.i64.wrap (hv * rz) = hv * rz := IntWalk.i64_in _ (by omega)
        obtain ⟨pr, hpe⟩ : ∃ x, hv * rz = x := ⟨_, rfl⟩
        rw [hpe] at HGK
        have m1' : IntKind.i64.wrap (hv * rz) = pr := by rw [m1, hpe]
        clear hpr hhr hrz m1 hpe
        have hs1 := fun W => span_calls 1 iv pr false W
        rw [← HGK.out] at hs1
        obtain ⟨sp1, hsp1⟩ : ∃ s, goIn vs pl c nd.ins k = s := ⟨_, rfl⟩
        rw [hsp1] at hs1
        have HSP := Lib.hid hsp1
        clear hsp1 qi0 qi1 qh0 qh1
        refine wp_region_S (SideOk SL w0) [(0, true), (1, true), (2, true), (3, true), (4, true), (5, true), (6, true), (7, true), (8, true), (9, true), (10, true), (11, true), (12, true), (13, true), (14, true), (15, true), (16, true), (17, false), (18, true), (19, false), (20, false), (21, false), (22, true)] (by kernel_rfl) (by kernel_rfl) (fun _ _ d _ _ h => by cases d <;> exact h) hSd.ok ?_
        simp only [pickE, List.getElem?_cons_zero, List.getElem?_cons_succ]
        repeat (first | (refine wpF_pure (by rfl) (fun W hW => by go_simp; with_reducible rfl) ?_; simp only [Act.put, List.setIfInBounds_toArray, List.set_cons_zero, List.set_cons_succ]) | (refine wpF_skip (by rfl) ?_; simp only [Act.put, List.setIfInBounds_toArray, List.set_cons_zero, List.set_cons_succ]))
        generalize World.drew _ = y0 at *
        refine wpF_step (by rfl) (fun K hK => ?_)
        go_simp
        refine (hrc _).mono ?_
        rintro e ya ⟨rfl, hEa⟩
        have hSb := hSd.later hEa
        refine hK _ _ hSb.ok ?_
        clear hK K
        (try simp only [Act.put, List.setIfInBounds_toArray, List.set_cons_zero, List.set_cons_succ])
        repeat (first | (refine wpF_pure (by rfl) (fun W hW => by go_simp; with_reducible rfl) ?_; simp only [Act.put, List.setIfInBounds_toArray, List.set_cons_zero, List.set_cons_succ]) | (refine wpF_skip (by rfl) ?_; simp only [Act.put, List.setIfInBounds_toArray, List.set_cons_zero, List.set_cons_succ]))
        refine wpF_step (by rfl) (fun K hK => ?_)
        go_simp
        refine (hs1 _).mono ?_
        rintro e yy ⟨rfl, hEb⟩
        have hSy := hSb.later hEb
        refine hK _ _ hSy.ok ?_
        clear hK K hs1 hSb hSd hEa hEb
        (try simp only [Act.put, List.setIfInBounds_toArray, List.set_cons_zero, List.set_cons_succ])
        have hnew : Row (World.alloc yy (.cells #[.int .i64 sp1.mem, .int .i64 sp1.frm, .int .i64 sp1.to, .bool sp1.wr] 85)) (.slice (some ⟨yy.heap.size, 0, none⟩) 1 1) 1 4 ([sp1].flatMap Sp.cs) := row_new yy _ 85 1 4 rfl (by unfold maxLen; omega)
        have hEn := ext_alloc yy (.cells #[.int .i64 sp1.mem, .int .i64 sp1.frm, .int .i64 sp1.to, .bool sp1.wr] 85)
        have hSn := hSy.later hEn
        have hown := hSn.own
        have hbase := hSn.ext.size
        have hk1 : (l).length + 1 ≤ 140737488355328 := by omega
        have hk2 : ((l).length + 1) * 32 ≤ 140737488355328 := by omega
        refine wpF_step (by rfl) (fun K hK => ?_)
        go_simp
        refine hK _ _ hSn.ok ?_
        clear hK K
        generalize World.alloc yy _ = yz at *
        (try simp only [Act.put, List.setIfInBounds_toArray, List.set_cons_zero, List.set_cons_succ])
        refine wpF_step (by rfl) (fun K hK => ?_)
        refine wp_append_row rfl elem_sp hown rfl hnew rfl (sps_one _) hk1 hk2 hbase (fun v' w' ho hgr hnr => ?_)
        have hSa : OwnS SL w0 w' v' ((l) ++ [sp1]) := hSn.app ho rfl rfl hgr hnr
        refine hK _ _ hSa.ok ?_
        clear hK K
        (try simp only [Act.put, List.setIfInBounds_toArray, List.set_cons_zero, List.set_cons_succ])
        repeat (first | (refine wpF_pure (by rfl) (fun W hW => by go_simp; with_reducible rfl) ?_; simp only [Act.put, List.setIfInBounds_toArray, List.set_cons_zero, List.set_cons_succ]) | (refine wpF_skip (by rfl) ?_; simp only [Act.put, List.setIfInBounds_toArray, List.set_cons_zero, List.set_cons_succ]))
        refine wpF_nil ?_
        have HSA := Lib.hid hSa
        have hl2 : Hid (l ++ [sp1] = (List.range (k + 1)).map (goIn vs pl c nd.ins)) := by show _ = _; rw [nodeSp_snoc, ← hl.out, HSP.out]
        clear hSa ho hgr hnr hown hnew hSn hSy hEn hbase hk1 hk2 y1 y2 y3 yj yp
        go_wp2_with fail
        go_roundw
        case rel => exact ⟨k + 1, _, by omega, by go_num, hl2, HSA⟩
        case measure => simp [intOf]; omega
      · have hkk : k = nd.ins.length := by omega
        subst hkk
        have hLL : l.length ≤ 1000 := by rw [hl.out]; simp; omega
        have hjp : tt < pl.length := by rw [HL.out]; exact hto
        obtain ⟨bp, offp, rfl, hpc⟩ := HPCL.out tt hjp
        have hps : pl[tt]? = some pl[tt] := by simp [hjp]
        rw [hps] at hpc
        simp only [Option.getD_some] at hpc
        generalize pl[tt] = pj at *
        have yp : ∀ W, SideOk SL w0 W → World.cell? W ⟨bp, offp + tt, none⟩ = some (.int .i64 pj) := fun W h => cell_ext hpc _ (h4.trans h.2)
        have hSd := HS.out.later (Ext.drew wr)
        clear hpc hps
        go_upto_region 24 with fail
        have hbd := HBD.out
        have hrc := fun W => rRow_calls xv.s W
        have hrz := rowZ_range xv.s
        generalize rowZ xv.s = rz at *
        have hpr : 0 ≤ c.r * rz ∧ c.r * rz ≤ 16 * 128 := ⟨Int.mul_nonneg (by omega) hrz.1, Int.mul_le_mul hbd.1.2.2.1.2 hrz.2 hrz.1 (by omega)⟩
        have m1 : IntKind.i64.wrap (c.r * rz) = c.r * rz := IntWalk.i64_in _ (by omega)
        obtain ⟨pr, hpe⟩ : ∃ x, c.r * rz = x := ⟨_, rfl⟩
        rw [hpe] at HCO
        have m1' : IntKind.i64.wrap (c.r * rz) = pr := by rw [m1, hpe]
        clear m1 hpe hpr hrz hbd
        have hs1 := fun W => span_calls 1 c.p pr true W
        rw [← HCO.out] at hs1
        obtain ⟨sp1, hsp1⟩ : ∃ s, comeOut vs pl c tt = s := ⟨_, rfl⟩
        rw [hsp1] at hs1 HQ
        clear hsp1
        refine wp_region_S (SideOk SL w0) [(0, true), (1, true), (2, true), (3, true), (4, true), (5, true), (6, false), (7, true), (8, false), (9, false), (10, false), (11, true)] (by kernel_rfl) (by kernel_rfl) (fun _ _ d _ _ h => by cases d <;> exact h) hSd.ok ?_
        simp only [pickE, List.getElem?_cons_zero, List.getElem?_cons_succ]
        repeat (first | (refine wpF_pure (by rfl) (fun W hW => by go_simp; with_reducible rfl) ?_; simp only [Act.put, List.setIfInBounds_toArray, List.set_cons_zero, List.set_cons_succ]) | (refine wpF_skip (by rfl) ?_; simp only [Act.put, List.setIfInBounds_toArray, List.set_cons_zero, List.set_cons_succ]))
        generalize World.drew _ = y0 at *
        refine wpF_step (by rfl) (fun K hK => ?_)
        go_simp
        refine (hrc _).mono ?_
        rintro e ya ⟨rfl, hEa⟩
        have hSb := hSd.later hEa
        refine hK _ _ hSb.ok ?_
        clear hK K
        (try simp only [Act.put, List.setIfInBounds_toArray, List.set_cons_zero, List.set_cons_succ])
        repeat (first | (refine wpF_pure (by rfl) (fun W hW => by go_simp; with_reducible rfl) ?_; simp only [Act.put, List.setIfInBounds_toArray, List.set_cons_zero, List.set_cons_succ]) | (refine wpF_skip (by rfl) ?_; simp only [Act.put, List.setIfInBounds_toArray, List.set_cons_zero, List.set_cons_succ]))
        refine wpF_step (by rfl) (fun K hK => ?_)
        go_simp
        refine (hs1 _).mono ?_
        rintro e yy ⟨rfl, hEb⟩
        have hSy := hSb.later hEb
        refine hK _ _ hSy.ok ?_
        clear hK K hs1 hSb hSd hEa hEb
        (try simp only [Act.put, List.setIfInBounds_toArray, List.set_cons_zero, List.set_cons_succ])
        have hnew : Row (World.alloc yy (.cells #[.int .i64 sp1.mem, .int .i64 sp1.frm, .int .i64 sp1.to, .bool sp1.wr] 85)) (.slice (some ⟨yy.heap.size, 0, none⟩) 1 1) 1 4 ([sp1].flatMap Sp.cs) := row_new yy _ 85 1 4 rfl (by unfold maxLen; omega)
        have hEn := ext_alloc yy (.cells #[.int .i64 sp1.mem, .int .i64 sp1.frm, .int .i64 sp1.to, .bool sp1.wr] 85)
        have hSn := hSy.later hEn
        have hown := hSn.own
        have hbase := hSn.ext.size
        have hk1 : (l).length + 1 ≤ 140737488355328 := by omega
        have hk2 : ((l).length + 1) * 32 ≤ 140737488355328 := by omega
        refine wpF_step (by rfl) (fun K hK => ?_)
        go_simp
        refine hK _ _ hSn.ok ?_
        clear hK K
        generalize World.alloc yy _ = yz at *
        (try simp only [Act.put, List.setIfInBounds_toArray, List.set_cons_zero, List.set_cons_succ])
        refine wpF_step (by rfl) (fun K hK => ?_)
        refine wp_append_row rfl elem_sp hown rfl hnew rfl (sps_one _) hk1 hk2 hbase (fun v' w' ho hgr hnr => ?_)
        have hSa : OwnS SL w0 w' v' ((l) ++ [sp1]) := hSn.app ho rfl rfl hgr hnr
        refine hK _ _ hSa.ok ?_
        clear hK K
        (try simp only [Act.put, List.setIfInBounds_toArray, List.set_cons_zero, List.set_cons_succ])
        repeat (first | (refine wpF_pure (by rfl) (fun W hW => by go_simp; with_reducible rfl) ?_; simp only [Act.put, List.setIfInBounds_toArray, List.set_cons_zero, List.set_cons_succ]) | (refine wpF_skip (by rfl) ?_; simp only [Act.put, List.setIfInBounds_toArray, List.set_cons_zero, List.set_cons_succ]))
        refine wpF_nil ?_
        have HSA := Lib.hid hSa
        rw [← hl.out] at HQ
        clear hSa ho hgr hnr hown hnew hSn hSy hEn hbase hk1 hk2 yp qp qg1 qd qf qr qq qm0 qm1 qm2
        go_wp2_with fail
        exact HK.out _ _ ⟨v', _, .of rfl, HSA.out.bare, HQ.out⟩
  · have HQ := Lib.hid (HBAD.out (by rw [HRO.out]; exact decide_eq_false hro))
    
    have h9 := h4.trans HS1.out.ext
    clear HGOOD HBAD
    go_wp2_with fail
    exact HE.out _ _ _ HQ.out rfl h9

end Go.Proofs.Ytmddlhfahfelpaa
