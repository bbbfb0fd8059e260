/- The walk of quiltref04.Take. -/
import Derived.Test.YtdhdbmfipkppiaaGreatMtf
import Derived.Test.YtdhdbmfipkppiaaGreatMtb
import Derived.Test.YtdhdbmfipkppiaaGreatDraw5
set_option linter.unusedSimpArgs false
set_option linter.unusedVariables false
set_option linter.unnecessarySimpa false
namespace Go.Proofs.YtdhdbmfipkppiaaGreat
open Go.RowKit

theorem qGraph_eq {r0 r1 r2 r3 r4 r6 : Rd} {c1 c2 : Int} {ins : List Vl} {nodes : List Nc} {outs : List Int} (h1 : nNum 1 r0 = (c1, r1)) (h2 : many qVl c1.toNat r1 = (ins, r2)) (h3 : nNum 1 r2 = (c2, r3)) (h4 : many qNode c2.toNat r3 = (nodes, r4))
    (h5 : qNums r4 = (outs, r6)) : qGraph r0 = (⟨ins, nodes, outs⟩, r6) := by
  simp only [qGraph, pMany, Ps.bind, Ps.ret, h1, h2, h3, h4, h5]

set_option maxRecDepth 8000 in
set_option maxHeartbeats 12800000 in
theorem take4_calls (v : Value) (ys : List Int) (w : World) (hv : Ints .u8 w v ys) (hby : BytesL ys) (hlen : ys.length ≤ 100000) :
    Calls Tryz.prog 14 #[v] w (TakePost ys w) := by
  obtain ⟨⟨c1, r1⟩, h1⟩ : ∃ x, nNum 1 ⟨ys, false⟩ = x := ⟨_, rfl⟩
  obtain ⟨⟨ins, r2⟩, h2⟩ : ∃ x, many qVl c1.toNat r1 = x := ⟨_, rfl⟩
  obtain ⟨⟨c2, r3⟩, h3⟩ : ∃ x, nNum 1 r2 = x := ⟨_, rfl⟩
  obtain ⟨⟨nodes, r4⟩, h4⟩ : ∃ x, many qNode c2.toNat r3 = x := ⟨_, rfl⟩
  obtain ⟨⟨outs, r6⟩, h5⟩ : ∃ x, qNums r4 = x := ⟨_, rfl⟩
  have hpg := qGraph_eq h1 h2 h3 h4 h5
  have HT : Hid (taken ys = if r6.bad = false ∧ (⟨ins, nodes, outs⟩ : Gc).err = 0 ∧ encG ⟨ins, nodes, outs⟩ = ys.take (ys.length - r6.l.length) then some (⟨ins, nodes, outs⟩, ys.length - r6.l.length) else none) := by
    show _ = _
    rw [taken_q, hpg]
  clear hpg
  have HP : Hid (∀ e w', ((taken ys = none → e = .returned (.tuple #[.agg #[.slice none 0 0, .slice none 0 0, .slice none 0 0], .int .i64 0, .int .i64 2])) ∧
    (∀ c n, taken ys = some (c, n) → ∃ g : Gr, g.c = c ∧ e = .returned (.tuple #[.agg #[g.iV, g.nV, g.oV], .int .i64 n, .int .i64 0]) ∧ OwnG w.heap.size w' g) ∧ Ext w w') → TakePost ys w e w') := fun e w' h => h
  have HN : Hid (∀ e w', (r6.bad = true ∨ (⟨ins, nodes, outs⟩ : Gc).err ≠ 0 ∨ encG ⟨ins, nodes, outs⟩ ≠ ys.take (ys.length - r6.l.length)) → e = .returned (.tuple #[.agg #[.slice none 0 0, .slice none 0 0, .slice none 0 0], .int .i64 0, .int .i64 2]) → Ext w w' → TakePost ys w e w') := by
    intro e w' hc he hE
    have : taken ys = none := by
      rw [HT.out, if_neg]
      rintro ⟨k1, k2, k3⟩
      rcases hc with hc | hc | hc
      · rw [k1] at hc; cases hc
      · exact hc k2
      · exact hc k3
    exact HP.out e w' ⟨fun _ => he, (fun c n h => by rw [this] at h; cases h), hE⟩
  generalize TakePost ys w = PP at *
  have hE1 : Ext w (((w.alloc (.cells #[.slice none 0 0, .slice none 0 0, .slice none 0 0] 28)).alloc (.cells #[v, .int .i64 0, .bool false] 85)).alloc (.cells #[.slice none 0 0, .slice none 0 0, .slice none 0 0] 28)) := ((ext_alloc w _).trans (ext_alloc _ _)).trans (ext_alloc _ _)
  have hb0 : Blk (((w.alloc (.cells #[.slice none 0 0, .slice none 0 0, .slice none 0 0] 28)).alloc (.cells #[v, .int .i64 0, .bool false] 85)).alloc (.cells #[.slice none 0 0, .slice none 0 0, .slice none 0 0] 28)) w.heap.size #[.slice none 0 0, .slice none 0 0, .slice none 0 0] 28 := ((Blk.new w _ _).ext (ext_alloc _ _)).ext (ext_alloc _ _)
  have hbB : Blk (((w.alloc (.cells #[.slice none 0 0, .slice none 0 0, .slice none 0 0] 28)).alloc (.cells #[v, .int .i64 0, .bool false] 85)).alloc (.cells #[.slice none 0 0, .slice none 0 0, .slice none 0 0] 28)) (w.heap.size + 1) #[v, .int .i64 0, .bool false] 85 := by
    have := (Blk.new (w.alloc (.cells #[.slice none 0 0, .slice none 0 0, .slice none 0 0] 28)) #[v, .int .i64 0, .bool false] 85).ext (ext_alloc _ (.cells #[.slice none 0 0, .slice none 0 0, .slice none 0 0] 28))
    simpa using this
  have hbg : Blk (((w.alloc (.cells #[.slice none 0 0, .slice none 0 0, .slice none 0 0] 28)).alloc (.cells #[v, .int .i64 0, .bool false] 85)).alloc (.cells #[.slice none 0 0, .slice none 0 0, .slice none 0 0] 28)) (w.heap.size + 1 + 1) #[.slice none 0 0, .slice none 0 0, .slice none 0 0] 28 := by
    have := Blk.new ((w.alloc (.cells #[.slice none 0 0, .slice none 0 0, .slice none 0 0] 28)).alloc (.cells #[v, .int .i64 0, .bool false] 85)) #[.slice none 0 0, .slice none 0 0, .slice none 0 0] 28
    simpa using this
  have hS : C4 w (((w.alloc (.cells #[.slice none 0 0, .slice none 0 0, .slice none 0 0] 28)).alloc (.cells #[v, .int .i64 0, .bool false] 85)).alloc (.cells #[.slice none 0 0, .slice none 0 0, .slice none 0 0] 28)) ys (w.heap.size + 1) w.heap.size (w.heap.size + 1 + 1) ⟨ys, false⟩ #[.slice none 0 0, .slice none 0 0, .slice none 0 0] #[.slice none 0 0, .slice none 0 0, .slice none 0 0] 28 [⟨41, 4, .slice none 0 0, 0, []⟩, ⟨67, 14, .slice none 0 0, 0, []⟩] := by
    refine ⟨⟨⟨v, 0, hbB, hv, rfl, Nat.zero_le _⟩, hE1, by omega, hby, hlen⟩, hb0, hbg, ⟨fun x hx => ?_, ?_⟩, by omega⟩
    · simp only [List.mem_cons, List.not_mem_nil, or_false] at hx
      rcases hx with rfl | rfl <;> exact ⟨rfl, .inl ⟨rfl, rfl⟩⟩
    · refine List.pairwise_cons.2 ⟨fun x _ k hk => by simp [Value.ownBlock] at hk, List.pairwise_singleton _ _⟩
  have HE1 := Lib.hid hE1
  obtain ⟨A0, c0, rfl, hlc, hcm, _⟩ := id hv.form
  unfold maxLen at hcm
  clear hb0 hbB hbg hE1
  go_enter Tryz.func14, Tryz.ntmps14
  go_upto_region 3 with fail
  generalize World.alloc (World.alloc (World.alloc w _) _) _ = w1 at *
  have F : Fr (w.heap.size + 1 + 1) (w.heap.size + 1) w1 w1 := Fr.refl _ _ _
  obtain ⟨B, hB⟩ : ∃ B, w.heap.size + 1 = B := ⟨_, rfl⟩
  obtain ⟨b3, hb3⟩ : ∃ C, B + 1 = C := ⟨_, rfl⟩
  simp only [hB, hb3] at hS F
  simp only [hB, hb3]
  have hrg := nNum_range (n := 1) (r := ⟨ys, false⟩) hS.rd.sub
  have hct := num_calls w w1 ys B 1 ⟨ys, false⟩ hS.rd (by omega)
  unfold P4 at hct
  rw [h1] at hct hrg
  simp only at hct hrg
  obtain ⟨hx1, hx2⟩ := hrg
  obtain ⟨n1, rfl⟩ := Int.eq_ofNat_of_zero_le hx1
  rw [Int.toNat_natCast] at h2
  have hnn1 : n1 < 256 := by have : (n1 : Int) < 256 := hx2; omega
  clear hx1 hx2
  go_upto_region 4 with (go_at_call 40; refine hct.mono ?_; rintro e ya ⟨rfl, hr, hg⟩)
  have hS1 := hS.read hr hg
  have FF := F.trans (Fr.grown (lo := b3) (B := B) hg (fun k hk => .inl (by cases hk; rfl)))
  clear hct hr hg h1 hS F
  have F := FF
  have hS := hS1
  clear hS1 FF
  have HM := Lib.hid h2
  have HW := Lib.hid (many_len qVl n1 r1)
  rw [h2] at HW
  clear h2
  go_upto_region 5 with fail
  have HLI := Lib.hid (show ins.length ≤ 255 by have h9 := HW.out; (try simp only at h9); omega)
  clear HW
  refine cut_loop (fun a W => ∃ (v : Value), LitA a (fun f => ({ tmps := #[.slice A0 ys.length c0, f 1, .pointer (some ⟨w.heap.size, 0, none⟩), .int .i64 0, .int .i64 0, .pointer (some ⟨B, 0, none⟩), .pointer (some ⟨b3, 0, none⟩), f 7, f 8, f 9, f 10, f 11, f 12, f 13, f 14, f 15, f 16, f 17, f 18, f 19, f 20, f 21, f 22, f 23, f 24, f 25, f 26, f 27, f 28, f 29, f 30, f 31, f 32, f 33, f 34, f 35, f 36, f 37, f 38, f 39, f 40, f 41, f 42, f 43, f 44, f 45, f 46, f 47, f 48, f 49, f 50, f 51, f 52, f 53, f 54, f 55, f 56, f 57, f 58, f 59, f 60, f 61, f 62, f 63, f 64, f 65, f 66, f 67, f 68, f 69, f 70, f 71, f 72, f 73, f 74, f 75, f 76, f 77, f 78, f 79, f 80, f 81, f 82, f 83, f 84, f 85, f 86, f 87, f 88, f 89, f 90, f 91, f 92, f 93, f 94, f 95, f 96, f 97, f 98, f 99], defers := [] } : Act)) ∧ C4 w W ys B w.heap.size b3 r2 #[.slice none 0 0, .slice none 0 0, .slice none 0 0] #[v, .slice none 0 0, .slice none 0 0] 28 [⟨41, 4, v, ins.length, ins.flatMap Vl.cs⟩, ⟨67, 14, .slice none 0 0, 0, []⟩] ∧ Fr b3 B w1 W) (fun K hK => ?_) ?_
  rotate_left
  · rintro a wr ⟨iv, ⟨f, rfl⟩, hS, F⟩
    go_upto_region 10 with fail
    have hrg := nNum_range (n := 1) (r := r2) hS.rd.sub
    have hct := num_calls w wr ys B 1 r2 hS.rd (by omega)
    unfold P4 at hct
    rw [h3] at hct hrg
    simp only at hct hrg
    obtain ⟨hx1, hx2⟩ := hrg
    obtain ⟨n2, rfl⟩ := Int.eq_ofNat_of_zero_le hx1
    rw [Int.toNat_natCast] at h4
    have hnn2 : n2 < 256 := by have : (n2 : Int) < 256 := hx2; omega
    clear hx1 hx2
    go_upto_region 11 with (go_at_call 40; refine hct.mono ?_; rintro e yb ⟨rfl, hr, hg⟩)
    have hS1 := hS.read hr hg
    have FF := F.trans (Fr.grown (lo := b3) (B := B) hg (fun k hk => .inl (by cases hk; rfl)))
    clear hct hr hg h3 hS F
    have F := FF
    have hS := hS1.perm (List.Perm.swap _ _ _)
    clear hS1 FF
    have HM := Lib.hid h4
    have HW := Lib.hid (many_len qNode n2 r3)
    rw [h4] at HW
    clear h4
    go_upto_region 12 with fail
    have HLN := Lib.hid (show nodes.length ≤ 255 by have h9 := HW.out; (try simp only at h9); omega)
    clear HW
    refine cut_loop (fun a W => ∃ (v : Value) (ns : List Nd), LitA a (fun f => ({ tmps := #[.slice A0 ys.length c0, f 1, .pointer (some ⟨w.heap.size, 0, none⟩), .int .i64 0, .int .i64 0, .pointer (some ⟨B, 0, none⟩), .pointer (some ⟨b3, 0, none⟩), f 7, f 8, f 9, f 10, f 11, f 12, f 13, f 14, f 15, f 16, f 17, f 18, f 19, f 20, f 21, f 22, f 23, f 24, f 25, f 26, f 27, f 28, f 29, f 30, f 31, f 32, f 33, f 34, f 35, f 36, f 37, f 38, f 39, f 40, f 41, f 42, f 43, f 44, f 45, f 46, f 47, f 48, f 49, f 50, f 51, f 52, f 53, f 54, f 55, f 56, f 57, f 58, f 59, f 60, f 61, f 62, f 63, f 64, f 65, f 66, f 67, f 68, f 69, f 70, f 71, f 72, f 73, f 74, f 75, f 76, f 77, f 78, f 79, f 80, f 81, f 82, f 83, f 84, f 85, f 86, f 87, f 88, f 89, f 90, f 91, f 92, f 93, f 94, f 95, f 96, f 97, f 98, f 99], defers := [] } : Act)) ∧ C4 w W ys B w.heap.size b3 r4 #[.slice none 0 0, .slice none 0 0, .slice none 0 0] #[iv, v, .slice none 0 0] 28 (⟨67, 14, v, ns.length, ns.flatMap Nd.cs⟩ :: (⟨41, 4, iv, ins.length, ins.flatMap Vl.cs⟩ :: ns.flatMap rowsN)) ∧ (∀ n ∈ ns, NdFit n) ∧ ns.map Nd.c = nodes ∧ Fr b3 B w1 W) (fun K hK => ?_) ?_
    rotate_left
    · rintro a W ⟨nv, ns, ⟨f, rfl⟩, hS, hfit, hns, F⟩
      have HFIT := Lib.hid hfit
      clear hfit
      go_upto_region 15 with fail
      have hnl' : ns.length ≤ 255 := by
        have h9 := HLN.out
        rw [← hns, List.length_map] at h9
        exact h9
      have hct := nums_calls w W ys B r4 hS.rd
      unfold NumsPost at hct
      rw [h5] at hct
      go_wp2_with fail
      refine hct.mono ?_
      rintro e w4 ⟨ov, rfl, hown, hr, hg, hol⟩
      have hS1 := (hS.join (hS.read hr hg) (one_own (x := ⟨3, 1, ov, outs.length, outs.map (.int .i64)⟩) hown)).perm (show List.Perm ((⟨67, 14, nv, ns.length, ns.flatMap Nd.cs⟩ :: (⟨41, 4, iv, ins.length, ins.flatMap Vl.cs⟩ :: ns.flatMap rowsN)) ++ [⟨3, 1, ov, outs.length, outs.map (.int .i64)⟩] : List RowF) ([⟨3, 1, ov, outs.length, outs.map (.int .i64)⟩] ++ (⟨67, 14, nv, ns.length, ns.flatMap Nd.cs⟩ :: ⟨41, 4, iv, ins.length, ins.flatMap Vl.cs⟩ :: ns.flatMap rowsN)) from List.perm_append_comm)
      have FF := F.trans (Fr.grown (lo := b3) (B := B) hg (fun k hk => .inl (by cases hk; rfl)))
      obtain ⟨Ao, co, eo, _⟩ := row_of_own hown
      clear hct hr hg h5 hS F hown
      have hlt2 := hS1.nb.lt
      have hfr2 := hS1.nb.frozen 2
      have hcl2 : World.cell? w4 ⟨b3, 2, none⟩ = some (.slice none 0 0) := hS1.nb.cell 2
      obtain ⟨hS2, f2⟩ := hS1.store 2 ov
      have F := FF.trans f2
      clear FF hS1 f2
      have EO := Lib.hid eo
      rw [eo]
      rw [eo] at hS2 F
      go_upto_region 16 with fail
      clear hlt2 hfr2 hcl2
      generalize World.setCell w4 _ _ = w5 at *
      rw [← eo] at hS2
      have hS : C4 w w5 ys B w.heap.size b3 r6 #[.slice none 0 0, .slice none 0 0, .slice none 0 0] #[iv, nv, ov] 28 (⟨3, 1, ov, outs.length, outs.map (.int .i64)⟩ :: (⟨67, 14, nv, ns.length, ns.flatMap Nd.cs⟩ :: ⟨41, 4, iv, ins.length, ins.flatMap Vl.cs⟩ :: ns.flatMap rowsN)) := by simpa using hS2
      clear hS2 eo EO
      have hfit := HFIT.out
      have hil' := HLI.out
      have hgr : ∀ W, OwnAll W (b3 + 1) (⟨3, 1, ov, outs.length, outs.map (.int .i64)⟩ :: (⟨67, 14, nv, ns.length, ns.flatMap Nd.cs⟩ :: ⟨41, 4, iv, ins.length, ins.flatMap Vl.cs⟩ :: ns.flatMap rowsN)) → OwnG w.heap.size W ⟨iv, nv, ov, ins, ns, outs⟩ :=
        fun W hW => ⟨hW.lower (by omega), hfit, hil', hnl', hol⟩
      have hg4 := (hgr w5 hS.own).at
      have hgc : (⟨iv, nv, ov, ins, ns, outs⟩ : Gr).c = ⟨ins, nodes, outs⟩ := by
        show (⟨ins, ns.map Nd.c, outs⟩ : Gc) = _
        rw [hns]
      obtain ⟨⟨bv, a, hbl, hbv, hrl, ha⟩, _, _, _, _⟩ := hS.rd
      have hma : ys.length - r6.l.length = a := by rw [hrl, List.length_drop]; omega
      rw [hma] at HN HT
      have d0 : World.cell? w5 ⟨b3, 0, none⟩ = some iv := hS.nb.cell 0
      have d1 : World.cell? w5 ⟨b3, 1, none⟩ = some nv := hS.nb.cell 1
      have d2 : World.cell? w5 ⟨b3, 2, none⟩ = some ov := hS.nb.cell 2
      have hE5 : Ext w w5 := by
        have k := HE1.out
        exact ⟨F.os.trans k.os, F.tape.trans k.tape, F.output.trans k.output, Nat.le_trans k.size F.size, fun x hx => (F.block x (by omega) (Nat.lt_of_lt_of_le hx k.size) (by omega)).trans (k.block x hx)⟩
      have hput := put04_calls ⟨iv, nv, ov, ins, ns, outs⟩ w5 hg4
      unfold PutPost at hput
      rw [← err_eq, hgc] at hput
      have hrb := hS.rb
      have hnb := hS.nb
      have hown := hS.own
      have HE := Lib.hid hgc
      have HGR := Lib.hid hgr
      have HO := Lib.hid (hgr w5 hS.own).one
      clear F hS hgr hgc hfit hil' hnl' hol hns hrl hma
      generalize (⟨ins, nodes, outs⟩ : Gc).err = z at *
      go_wp2_with fail
      refine hput.mono ?_
      rintro e w6 ⟨hz0, hz1, h6⟩
      clear hput d0 d1 d2
      have HEX := Lib.hid (hE5.trans h6)
      have hbl6 := hbl.ext h6
      have hrb6 := hrb.ext h6
      have hnb6 := hnb.ext h6
      have hown6 := hown.ext h6
      have hv6 := hv.ext HEX.out
      clear hbl hrb hnb hown hE5 h6 hbv hg4
      by_cases hz : z = 0
      case neg =>
        have e1 := hz1 hz
        subst e1
        have t9 : (z != 0) = true := by simp [hz]
        clear hz0 hz1
        cases hbad : r6.bad with
        | true =>
          go_upto_region 17 with fail
          refine wp_region_X [0, 1, 2, 3, 4, 5, 6, 7, 8, 9, 10, 11, 12, 13, 14, 15, 16, 17, 18, 19] [] (by kernel_rfl) (by kernel_rfl) (fun _ _ d _ _ h => by cases d <;> exact h) (fun w7 hE7 => ?_)
          have c0 : ∀ W, Ext w7 W → W.cell? ⟨B, 2, none⟩ = some (.bool true) := fun W e => by rw [← hbad]; exact ((hbl6.ext hE7).ext e).cell 2
          repeat (first | (refine wpP_pure rfl (by rfl) (fun W hW => by go_simp; with_reducible rfl) ?_; simp only [Act.put, List.setIfInBounds_toArray, List.set_cons_zero, List.set_cons_succ]) | (refine wpP_skip rfl (by rfl) ?_; simp only [Act.put, List.setIfInBounds_toArray, List.set_cons_zero, List.set_cons_succ]))
          refine ⟨trivial, fun W8 hR => ?_⟩
          simp only [rFin, envAt, TP.top, TP.mine, MP.top, MP.mine, MT.mine, MT.tied, MT.done, MT.is, List.map_cons, List.map_nil, true_implies, List.head?_cons, ME.is, MP.is, MP.done, ME.ints, ME.row, phi, dstAt, List.getElem?_cons_zero, List.getElem?_cons_succ, Option.bind_some, Act.put, List.setIfInBounds_toArray, List.set_cons_zero, List.set_cons_succ, and_true, forall_eq, reduceIte, Nat.reduceEqDiff, beq_iff_eq, Option.some.injEq, Bool.false_eq_true, reduceCtorEq, implies_true, true_and]
          have hE8 := HEX.out.trans (hE7.trans hR)
          have hz8 := (hrb6.ext hE7).ext hR
          have hx := ext_setRow hE8 #[.slice none 0 0, .slice none 0 0, .slice none 0 0] (Nat.le_refl _)
          go_wp2_with (refine wpList_store_row rfl 28 _ _ rfl w.heap.size #[.slice none 0 0, .slice none 0 0, .slice none 0 0] rfl rfl 28 _ hz8 (by kernel_rfl) rfl (by simp [Value.oneCell']) ?_)
          refine bodyPost_ret (v := .tuple #[.agg _, .int .i64 0, .int .i64 2]) (results_cell_tmp2 Tryz.results14 _ _ w.heap.size 28 _ (0, 0) _ rfl (setRow_heap _ _ _ _ _ _ hz8) (by kernel_rfl : Tryz.prog.underlying 28 = some (.struct (Tryz.prog.fieldsOf 28))) rfl (by kernel_rfl)) rfl ?_
          exact HN.out _ _ (.inl hbad) rfl hx

        | false =>
          go_upto_region 17 with fail
          refine wp_region_X [0, 1, 2, 3, 4, 5, 6, 7, 8, 9, 10, 11, 12, 13, 14, 15, 16, 17, 18, 19] [] (by kernel_rfl) (by kernel_rfl) (fun _ _ d _ _ h => by cases d <;> exact h) (fun w7 hE7 => ?_)
          have c0 : ∀ W, Ext w7 W → W.cell? ⟨B, 2, none⟩ = some (.bool false) := fun W e => by rw [← hbad]; exact ((hbl6.ext hE7).ext e).cell 2
          repeat (first | (refine wpP_pure rfl (by rfl) (fun W hW => by go_simp; with_reducible rfl) ?_; simp only [Act.put, List.setIfInBounds_toArray, List.set_cons_zero, List.set_cons_succ]) | (refine wpP_skip rfl (by rfl) ?_; simp only [Act.put, List.setIfInBounds_toArray, List.set_cons_zero, List.set_cons_succ]))
          refine ⟨trivial, fun W8 hR => ?_⟩
          simp only [rFin, envAt, TP.top, TP.mine, MP.top, MP.mine, MT.mine, MT.tied, MT.done, MT.is, List.map_cons, List.map_nil, true_implies, List.head?_cons, ME.is, MP.is, MP.done, ME.ints, ME.row, phi, dstAt, List.getElem?_cons_zero, List.getElem?_cons_succ, Option.bind_some, Act.put, List.setIfInBounds_toArray, List.set_cons_zero, List.set_cons_succ, and_true, forall_eq, reduceIte, Nat.reduceEqDiff, beq_iff_eq, Option.some.injEq, Bool.false_eq_true, reduceCtorEq, implies_true, true_and]
          have hE8 := HEX.out.trans (hE7.trans hR)
          have hz8 := (hrb6.ext hE7).ext hR
          have hx := ext_setRow hE8 #[.slice none 0 0, .slice none 0 0, .slice none 0 0] (Nat.le_refl _)
          go_wp2_with (refine wpList_store_row rfl 28 _ _ rfl w.heap.size #[.slice none 0 0, .slice none 0 0, .slice none 0 0] rfl rfl 28 _ hz8 (by kernel_rfl) rfl (by simp [Value.oneCell']) ?_)
          refine bodyPost_ret (v := .tuple #[.agg _, .int .i64 0, .int .i64 2]) (results_cell_tmp2 Tryz.results14 _ _ w.heap.size 28 _ (0, 0) _ rfl (setRow_heap _ _ _ _ _ _ hz8) (by kernel_rfl : Tryz.prog.underlying 28 = some (.struct (Tryz.prog.fieldsOf 28))) rfl (by kernel_rfl)) rfl ?_
          exact HN.out _ _ (.inr (.inl hz)) rfl hx

      case pos =>
        obtain ⟨pv, rfl, hop⟩ := hz0 hz
        clear hz0 hz1
        have t9 : (z != 0) = false := by simp [hz]
        cases hbad : r6.bad with
        | true =>
          go_upto_region 17 with fail
          refine wp_region_X [0, 1, 2, 3, 4, 5, 6, 7, 8, 9, 10, 11, 12, 13, 14, 15, 16, 17, 18, 19] [] (by kernel_rfl) (by kernel_rfl) (fun _ _ d _ _ h => by cases d <;> exact h) (fun w7 hE7 => ?_)
          have c0 : ∀ W, Ext w7 W → W.cell? ⟨B, 2, none⟩ = some (.bool true) := fun W e => by rw [← hbad]; exact ((hbl6.ext hE7).ext e).cell 2
          repeat (first | (refine wpP_pure rfl (by rfl) (fun W hW => by go_simp; with_reducible rfl) ?_; simp only [Act.put, List.setIfInBounds_toArray, List.set_cons_zero, List.set_cons_succ]) | (refine wpP_skip rfl (by rfl) ?_; simp only [Act.put, List.setIfInBounds_toArray, List.set_cons_zero, List.set_cons_succ]))
          refine ⟨trivial, fun W8 hR => ?_⟩
          simp only [rFin, envAt, TP.top, TP.mine, MP.top, MP.mine, MT.mine, MT.tied, MT.done, MT.is, List.map_cons, List.map_nil, true_implies, List.head?_cons, ME.is, MP.is, MP.done, ME.ints, ME.row, phi, dstAt, List.getElem?_cons_zero, List.getElem?_cons_succ, Option.bind_some, Act.put, List.setIfInBounds_toArray, List.set_cons_zero, List.set_cons_succ, and_true, forall_eq, reduceIte, Nat.reduceEqDiff, beq_iff_eq, Option.some.injEq, Bool.false_eq_true, reduceCtorEq, implies_true, true_and]
          have hE8 := HEX.out.trans (hE7.trans hR)
          have hz8 := (hrb6.ext hE7).ext hR
          have hx := ext_setRow hE8 #[.slice none 0 0, .slice none 0 0, .slice none 0 0] (Nat.le_refl _)
          go_wp2_with (refine wpList_store_row rfl 28 _ _ rfl w.heap.size #[.slice none 0 0, .slice none 0 0, .slice none 0 0] rfl rfl 28 _ hz8 (by kernel_rfl) rfl (by simp [Value.oneCell']) ?_)
          refine bodyPost_ret (v := .tuple #[.agg _, .int .i64 0, .int .i64 2]) (results_cell_tmp2 Tryz.results14 _ _ w.heap.size 28 _ (0, 0) _ rfl (setRow_heap _ _ _ _ _ _ hz8) (by kernel_rfl : Tryz.prog.underlying 28 = some (.struct (Tryz.prog.fieldsOf 28))) rfl (by kernel_rfl)) rfl ?_
          exact HN.out _ _ (.inl hbad) rfl hx

        | false =>
          have hsl := Ints.first hv6 ha
          have hcv := strEq (encG_bytes ⟨ins, nodes, outs⟩) (fun z hz => hby z (List.mem_of_mem_take hz)) (ys := ys.take a)
          have q1 := conv_ext (P := Tryz.prog) hop.ints (src := 22) (e := 5) (dst := 9) Tryz.underlying22 Tryz.underlying5 Tryz.underlying9
          have q2 := conv_ext (P := Tryz.prog) hsl (src := 22) (e := 5) (dst := 9) Tryz.underlying22 Tryz.underlying5 Tryz.underlying9
          have hac : a ≤ c0 := by omega
          clear hop hsl
          by_cases hq : encG ⟨ins, nodes, outs⟩ = ys.take a
          case neg =>
            rw [decide_eq_false hq] at hcv
            go_upto_region 17 with fail
            refine wp_region_X [0, 1, 2, 3, 4, 5, 6, 7, 8, 9, 10, 11, 12, 13, 14, 15, 16, 17, 18, 19] [] (by kernel_rfl) (by kernel_rfl) (fun _ _ d _ _ h => by cases d <;> exact h) (fun w7 hE7 => ?_)
            have c0 : ∀ W, Ext w7 W → W.cell? ⟨B, 2, none⟩ = some (.bool false) := fun W e => by rw [← hbad]; exact ((hbl6.ext hE7).ext e).cell 2
            have c1 : ∀ W, Ext w7 W → W.cell? ⟨B, 1, none⟩ = some (.int .i64 a) := fun W e => ((hbl6.ext hE7).ext e).cell 1
            have q1' := fun (W : World) (e : Ext w7 W) => q1 W (hE7.trans e)
            have q2' := fun (W : World) (e : Ext w7 W) => q2 W (hE7.trans e)
            clear q1 q2
            repeat (first | (refine wpP_pure rfl (by rfl) (fun W hW => by go_simp; with_reducible rfl) ?_; simp only [Act.put, List.setIfInBounds_toArray, List.set_cons_zero, List.set_cons_succ]) | (refine wpP_skip rfl (by rfl) ?_; simp only [Act.put, List.setIfInBounds_toArray, List.set_cons_zero, List.set_cons_succ]))
            refine ⟨trivial, fun W8 hR => ?_⟩
            simp only [rFin, envAt, TP.top, TP.mine, MP.top, MP.mine, MT.mine, MT.tied, MT.done, MT.is, List.map_cons, List.map_nil, true_implies, List.head?_cons, ME.is, MP.is, MP.done, ME.ints, ME.row, phi, dstAt, List.getElem?_cons_zero, List.getElem?_cons_succ, Option.bind_some, Act.put, List.setIfInBounds_toArray, List.set_cons_zero, List.set_cons_succ, and_true, forall_eq, reduceIte, Nat.reduceEqDiff, beq_iff_eq, Option.some.injEq, Bool.false_eq_true, reduceCtorEq, implies_true, true_and]
            have hE8 := HEX.out.trans (hE7.trans hR)
            have hz8 := (hrb6.ext hE7).ext hR
            clear q1' q2' hcv c0 c1
            have hx := ext_setRow hE8 #[.slice none 0 0, .slice none 0 0, .slice none 0 0] (Nat.le_refl _)
            go_wp2_with (refine wpList_store_row rfl 28 _ _ rfl w.heap.size #[.slice none 0 0, .slice none 0 0, .slice none 0 0] rfl rfl 28 _ hz8 (by kernel_rfl) rfl (by simp [Value.oneCell']) ?_)
            refine bodyPost_ret (v := .tuple #[.agg _, .int .i64 0, .int .i64 2]) (results_cell_tmp2 Tryz.results14 _ _ w.heap.size 28 _ (0, 0) _ rfl (setRow_heap _ _ _ _ _ _ hz8) (by kernel_rfl : Tryz.prog.underlying 28 = some (.struct (Tryz.prog.fieldsOf 28))) rfl (by kernel_rfl)) rfl ?_
            exact HN.out _ _ (.inr (.inr hq)) rfl hx

          case pos =>
            rw [decide_eq_true hq] at hcv
            go_upto_region 17 with fail
            refine wp_region_X [0, 1, 2, 3, 4, 5, 6, 7, 8, 9, 10, 11, 12, 13, 14, 15, 16, 17, 18, 19] [] (by kernel_rfl) (by kernel_rfl) (fun _ _ d _ _ h => by cases d <;> exact h) (fun w7 hE7 => ?_)
            have c0 : ∀ W, Ext w7 W → W.cell? ⟨B, 2, none⟩ = some (.bool false) := fun W e => by rw [← hbad]; exact ((hbl6.ext hE7).ext e).cell 2
            have c1 : ∀ W, Ext w7 W → W.cell? ⟨B, 1, none⟩ = some (.int .i64 a) := fun W e => ((hbl6.ext hE7).ext e).cell 1
            have q1' := fun (W : World) (e : Ext w7 W) => q1 W (hE7.trans e)
            have q2' := fun (W : World) (e : Ext w7 W) => q2 W (hE7.trans e)
            clear q1 q2
            repeat (first | (refine wpP_pure rfl (by rfl) (fun W hW => by go_simp; with_reducible rfl) ?_; simp only [Act.put, List.setIfInBounds_toArray, List.set_cons_zero, List.set_cons_succ]) | (refine wpP_skip rfl (by rfl) ?_; simp only [Act.put, List.setIfInBounds_toArray, List.set_cons_zero, List.set_cons_succ]))
            refine ⟨trivial, fun W8 hR => ?_⟩
            simp only [rFin, envAt, TP.top, TP.mine, MP.top, MP.mine, MT.mine, MT.tied, MT.done, MT.is, List.map_cons, List.map_nil, true_implies, List.head?_cons, ME.is, MP.is, MP.done, ME.ints, ME.row, phi, dstAt, List.getElem?_cons_zero, List.getElem?_cons_succ, Option.bind_some, Act.put, List.setIfInBounds_toArray, List.set_cons_zero, List.set_cons_succ, and_true, forall_eq, reduceIte, Nat.reduceEqDiff, beq_iff_eq, Option.some.injEq, Bool.false_eq_true, reduceCtorEq, implies_true, true_and]
            have hE8 := HEX.out.trans (hE7.trans hR)
            have hz8 := (hrb6.ext hE7).ext hR
            have hnb8 := (hnb6.ext hE7).ext hR
            have hbl8 := (hbl6.ext hE7).ext hR
            have hown8 := (hown6.ext hE7).ext hR
            have hltB := hbl8.lt
            have hlt3 := hnb8.lt
            clear q1' q2' hcv c0 c1 hnb6 hbl6 hown6 hrb6 hE7 hR hv6
            have hPX : ∀ e w', e = .returned (.tuple #[.agg #[iv, nv, ov], .int .i64 a, .int .i64 0]) → OwnG w.heap.size w' ⟨iv, nv, ov, ins, ns, outs⟩ → Ext w w' → PP e w' := by
              intro e w' he hg hE
              have ht : taken ys = some (⟨ins, nodes, outs⟩, a) := by rw [HT.out, if_pos ⟨hbad, hz, hq⟩]
              refine HP.out e w' ⟨fun h => (by rw [ht] at h; cases h), fun c n h => ?_, hE⟩
              rw [ht] at h
              cases h
              exact ⟨_, HE.out, he, hg⟩
            have HPX := Lib.hid hPX
            clear hPX HP HN HT hbad hz hq t9
            go_upto_region 19 with fail
            have k0 : ∀ W, Keeps [b3, B] W8 W → W.cell? ⟨b3, 0, none⟩ = some iv := fun W hW => (hW.cell (by simp)).trans (hnb8.cell 0)
            have k1 : ∀ W, Keeps [b3, B] W8 W → W.cell? ⟨b3, 1, none⟩ = some nv := fun W hW => (hW.cell (by simp)).trans (hnb8.cell 1)
            have k2 : ∀ W, Keeps [b3, B] W8 W → W.cell? ⟨b3, 2, none⟩ = some ov := fun W hW => (hW.cell (by simp)).trans (hnb8.cell 2)
            have k3 : ∀ W, Keeps [b3, B] W8 W → W.cell? ⟨B, 1, none⟩ = some (.int .i64 a) := fun W hW => (hW.cell (by simp)).trans (hbl8.cell 1)
            refine wp_region_S (Keeps [b3, B] W8) [(0, true), (1, true), (2, true), (3, true), (4, true), (5, false), (6, true), (7, true)] (by kernel_rfl) (by kernel_rfl) (fun _ _ d _ _ h => by cases d <;> exact h) (Keeps.drew _ _) ?_
            simp only [pickE, List.getElem?_cons_zero, List.getElem?_cons_succ]
            repeat (first | (refine wpF_pure (by rfl) (fun W hW => by go_simp; with_reducible rfl) ?_; simp only [Act.put, List.setIfInBounds_toArray, List.set_cons_zero, List.set_cons_succ]) | (refine wpF_skip (by rfl) ?_; simp only [Act.put, List.setIfInBounds_toArray, List.set_cons_zero, List.set_cons_succ]))
            have hz9 := hz8.ext (Ext.drew W8)
            have hE9 := hE8.trans (Ext.drew W8)
            have hown9 := hown8.ext (Ext.drew W8)
            have KD : Keeps [b3, B] W8 W8.drew := Keeps.drew _ _
            generalize W8.drew = W9 at *
            refine wpF_step (by rfl) (fun K hK => ?_)
            refine wp_store_row 28 _ _ rfl w.heap.size #[iv, nv, ov] rfl rfl 28 _ hz9 (by kernel_rfl) rfl HO.out ?_
            refine hK _ _ (KD.trans (Keeps.grown (setRow_grown W9 w.heap.size #[iv, nv, ov]) (fun k hk => by
              have hsz := KD.1
              simp only [List.mem_cons, List.not_mem_nil, or_false] at hk
              rcases hk with rfl | rfl
              · exact ⟨by omega, by simp; omega⟩
              · exact ⟨by omega, by simp; omega⟩))) ?_
            clear hK K
            have hx := ext_setRow hE9 #[iv, nv, ov] (Nat.le_refl _)
            have hgF := HGR.out _ (hown9.grown (setRow_grown W9 w.heap.size #[iv, nv, ov]) (by omega))
            have HRS := Lib.hid (setRow_heap _ _ _ #[iv, nv, ov] _ _ hz9)
            clear hown9 hown8 hE9 hE8 hz8 hnb8 hbl8 KD hz9
            try simp only [Act.put, List.setIfInBounds_toArray, List.set_cons_zero, List.set_cons_succ]
            repeat (first | (refine wpF_pure (by rfl) (fun W hW => by go_simp; with_reducible rfl) ?_; simp only [Act.put, List.setIfInBounds_toArray, List.set_cons_zero, List.set_cons_succ]) | (refine wpF_skip (by rfl) ?_; simp only [Act.put, List.setIfInBounds_toArray, List.set_cons_zero, List.set_cons_succ]))
            refine wpF_nil ?_
            clear k0 k1 k2 k3
            go_wp2_with fail
            refine bodyPost_ret (v := .tuple #[.agg #[iv, nv, ov], .int .i64 a, .int .i64 0]) (results_cell_tmp2 Tryz.results14 _ _ w.heap.size 28 _ (0, 0) _ rfl HRS.out (by kernel_rfl : Tryz.prog.underlying 28 = some (.struct (Tryz.prog.fieldsOf 28))) rfl (by kernel_rfl)) rfl ?_
            exact HPX.out _ _ rfl hgF hx
    have HK := Lib.hid hK
    clear hK
    go_loopw [12] (fun i wr => ∃ (v : Value) (k9 : Nat) (ns : List Nd) (r' : Rd), k9 ≤ n2 ∧ i = .int .i64 k9 ∧ C4 w wr ys B w.heap.size b3 r' #[.slice none 0 0, .slice none 0 0, .slice none 0 0] #[iv, v, .slice none 0 0] 28 (⟨67, 14, v, k9, ns.flatMap Nd.cs⟩ :: (⟨41, 4, iv, ins.length, ins.flatMap Vl.cs⟩ :: ns.flatMap rowsN)) ∧ ns.length = k9 ∧ (∀ n ∈ ns, NdFit n) ∧ Fr b3 B w1 wr ∧ many qNode n2 r3 = (ns.map Nd.c ++ (many qNode (n2 - k9) r').1, (many qNode (n2 - k9) r').2)) (fun i _ => n2 - (intOf i).toNat)
    case atStart => exact ⟨.slice none 0 0, 0, [], r3, by omega, rfl, hS, rfl, (fun n hn => by cases hn), F, by simp⟩
    case round =>
      clear hS F
      obtain ⟨v, k9, ns, r', hk, rfl, hS, hzl, hfit, F, hm⟩ := hrel
      have hbad := hS.rd.bad
      have HMM := Lib.hid hm
      have HFIT := Lib.hid hfit
      clear hm hfit
      by_cases hlt : k9 < n2
      · cases hb : r'.bad with
        | true =>
          rw [hb] at hbad
          obtain ⟨hz9, hr9⟩ := many_stop HMM.out (.inr hb) HM.out
          replace hr9 := hr9.symm
          subst hr9
          clear hb
          subst hzl
          have HS := Lib.hid hS
          have HF := Lib.hid F
          clear hS F
          go_wp2_with fail
          exact HK.out _ _ ⟨v, ns, .of rfl, HS.out, HFIT.out, hz9, HF.out⟩
        | false =>
          rw [hb] at hbad
          have HM2 := Lib.hid (many_more HMM.out hlt hb)
          have c1 : ∀ W', Keeps [b3] wr W' → W'.cell? ⟨b3, 1, none⟩ = some v := fun W' hW => (hW.cell (by simp)).trans (hS.nb.cell 1)
          have hD := hS.ext (Ext.drew wr)
          have F0 := F.trans (Fr.ext (lo := b3) (B := B) (Ext.drew wr))
          have K0 : Keeps [b3] wr wr.drew := Keeps.drew _ _
          have hrd := node4_calls w wr.drew ys B r' hD.rd
          clear hS F HMM
          go_upto_region 14 with fail
          clear hbad
          refine wp_region_Z (Keeps [b3] wr) 7 [(0, true), (1, true), (2, true), (3, false), (4, false), (5, false), (6, true), (7, false)] (by kernel_rfl) (by kernel_rfl) (fun _ _ d _ _ h => by cases d <;> exact h) K0 ?_
          simp only [pickE, List.getElem?_cons_zero, List.getElem?_cons_succ]
          repeat (refine wpZ_pure (by rfl) (fun W hW => by go_simp; with_reducible rfl) ?_; simp only [Act.put, List.setIfInBounds_toArray, List.set_cons_zero, List.set_cons_succ])
          generalize wr.drew = y0 at *
          refine wpZ_step (by rfl) (fun K hK => ?_)
          go_simp
          refine hrd.mono ?_
          rintro e y1 ⟨n, rfl, hnc, hr1, hg1, hon, hfn⟩
          have h1 := C4.join hD (hD.read hr1 hg1) hon
          have K1 := K0.trans (hD.keeps hg1)
          have F1 := F0.trans (Fr.grown (lo := b3) (B := B) hg1 (fun k hk => .inl (by cases hk; rfl)))
          have hone := rowsN_one hon
          refine hK _ _ K1 ?_
          clear hK K hrd hr1 hg1 hD K0 F0 hon
          have HNC := Lib.hid hnc
          have HFN := Lib.hid hfn
          clear hnc hfn
          try simp only [Act.put, List.setIfInBounds_toArray, List.set_cons_zero, List.set_cons_succ]
          repeat (refine wpZ_pure (by rfl) (fun W hW => by go_simp; with_reducible rfl) ?_; simp only [Act.put, List.setIfInBounds_toArray, List.set_cons_zero, List.set_cons_succ])
          have hE2 := ext_alloc y1 (.cells (#[.int .i64 n.op, n.inV, .int .i64 n.k, .int .i64 n.st, .int .i64 n.pad, .int .i64 n.out, .int .i64 n.mul, .int .i64 n.sh, .int .i64 n.zero, .int .i64 n.th, .int .i64 n.tw, .int .i64 n.tc, n.wV, n.bV] : Array Value) 67)
          have hnew := row_new y1 (#[.int .i64 n.op, n.inV, .int .i64 n.k, .int .i64 n.st, .int .i64 n.pad, .int .i64 n.out, .int .i64 n.mul, .int .i64 n.sh, .int .i64 n.zero, .int .i64 n.th, .int .i64 n.tw, .int .i64 n.tc, n.wV, n.bV] : Array Value) 67 1 14 rfl (by decide)
          have h2 := h1.ext hE2
          have K2 := K1.trans (h1.keepsE hE2)
          have F2 := F1.trans (Fr.ext (lo := b3) (B := B) hE2)
          refine wpZ_step (by rfl) (fun K hK => ?_)
          go_simp
          refine hK _ _ K2 ?_
          clear hK K h1 K1 F1 hE2
          generalize y1.alloc _ = y2 at *
          try simp only [Act.put, List.setIfInBounds_toArray, List.set_cons_zero, List.set_cons_succ]
          repeat (refine wpZ_pure (by rfl) (fun W hW => by go_simp; with_reducible rfl) ?_; simp only [Act.put, List.setIfInBounds_toArray, List.set_cons_zero, List.set_cons_succ])
          have hown := h2.own.own _ (List.mem_cons_self ..)
          have hbase : b3 + 1 ≤ y2.heap.size := h2.nb.lt
          have hk1 : k9 + 1 ≤ 140737488355328 := by omega
          have hk2 : (k9 + 1) * 160 ≤ 140737488355328 := by omega
          refine wpZ_step (by rfl) (fun K hK => ?_)
          refine wp_append_row rfl elem_nd hown rfl hnew rfl hone hk1 hk2 hbase (fun v' y3 ho hgr hnr => ?_)
          have K3 := K2.trans (h2.keepsR hgr)
          refine hK _ _ K3 ?_
          clear hK K
          obtain ⟨p1, p2, p3, p4, p5⟩ := h2.push ho hgr hnr 1
          have p5' : World.cell? y3 ⟨b3, 1, none⟩ = some v := p5
          obtain ⟨A, c, ev, _⟩ := row_of_own ho
          clear ho hgr hnr hnew hown K2 h2 p5
          have F3 := F2.trans p2
          clear p2 F2
          try simp only [Act.put, List.setIfInBounds_toArray, List.set_cons_zero, List.set_cons_succ]
          repeat (refine wpZ_pure (by rfl) (fun W hW => by go_simp; with_reducible rfl) ?_; simp only [Act.put, List.setIfInBounds_toArray, List.set_cons_zero, List.set_cons_succ])
          subst ev
          refine wpZ_last (by rfl) (fun K hK => ?_)
          go_simp
          refine hK _ _ ?_
          clear hK K
          try simp only [Act.put, List.setIfInBounds_toArray, List.set_cons_zero, List.set_cons_succ]
          clear p3 p4 p5'
          have hSn : C4 w (World.setCell y3 ⟨b3, 1, none⟩ (.slice A (k9 + 1) c)) ys B w.heap.size b3 (qNode r').2 #[.slice none 0 0, .slice none 0 0, .slice none 0 0] #[iv, (.slice A (k9 + 1) c), .slice none 0 0] 28 (⟨67, 14, (.slice A (k9 + 1) c), (k9 + 1), (ns ++ [n]).flatMap Nd.cs⟩ :: (⟨41, 4, iv, ins.length, ins.flatMap Vl.cs⟩ :: (ns ++ [n]).flatMap rowsN)) := by
            rw [List.flatMap_append, List.flatMap_append]
            simpa [Nd.cs] using p1
          clear p1
          generalize World.setCell y3 _ _ = y4 at *
          go_wp2_with fail
          go_roundw
          case rel => exact ⟨_, k9 + 1, ns ++ [n], _, by omega, by go_num, hSn, by simp [hzl], (fun m hm => by
            rcases List.mem_append.1 hm with hm | hm
            · exact HFIT.out m hm
            · obtain rfl := List.mem_singleton.1 hm
              exact HFN.out), F3, by rw [HM2.out, List.map_append, List.map_cons, HNC.out]; rfl⟩
          case measure => simp [intOf]; omega
      · obtain ⟨hz9, hr9⟩ := many_stop HMM.out (.inl (by omega)) HM.out
        replace hr9 := hr9.symm
        subst hr9
        subst hzl
        have HS := Lib.hid hS
        have HF := Lib.hid F
        clear hS F hbad
        go_wp2_with fail
        exact HK.out _ _ ⟨v, ns, .of rfl, HS.out, HFIT.out, hz9, HF.out⟩
  have HK := Lib.hid hK
  clear hK
  go_loopw [8] (fun i wr => ∃ (v : Value) (k9 : Nat) (zs : List Vl) (r' : Rd), k9 ≤ n1 ∧ i = .int .i64 k9 ∧ C4 w wr ys B w.heap.size b3 r' #[.slice none 0 0, .slice none 0 0, .slice none 0 0] #[v, .slice none 0 0, .slice none 0 0] 28 [⟨41, 4, v, k9, zs.flatMap Vl.cs⟩, ⟨67, 14, .slice none 0 0, 0, []⟩] ∧ zs.length = k9 ∧ Fr b3 B w1 wr ∧ many qVl n1 r1 = (zs ++ (many qVl (n1 - k9) r').1, (many qVl (n1 - k9) r').2)) (fun i _ => n1 - (intOf i).toNat)
  case atStart => exact ⟨.slice none 0 0, 0, [], r1, by omega, rfl, hS, rfl, F, by simp⟩
  case round =>
    clear hS F
    obtain ⟨v, k9, zs, r', hk, rfl, hS, hzl, F, hm⟩ := hrel
    have hbad := hS.rd.bad
    have HMM := Lib.hid hm
    clear hm
    by_cases hlt : k9 < n1
    · cases hb : r'.bad with
      | true =>
        rw [hb] at hbad
        obtain ⟨hz9, hr9⟩ := many_stop HMM.out (.inr hb) HM.out
        replace hz9 := hz9.symm
        replace hr9 := hr9.symm
        subst hz9 hr9
        clear hb
        subst hzl
        have HS := Lib.hid hS
        have HF := Lib.hid F
        clear hS F
        go_wp2_with fail
        exact HK.out _ _ ⟨v, .of rfl, HS.out, HF.out⟩
      | false =>
        rw [hb] at hbad
        have HM2 := Lib.hid (many_more HMM.out hlt hb)
        obtain ⟨⟨⟨a1, a2, a3⟩, ra⟩, ea⟩ : ∃ x, qShape r' = x := ⟨_, rfl⟩
        obtain ⟨⟨z, rb⟩, eb⟩ : ∃ x, qS 1 ra = x := ⟨_, rfl⟩
        have HV : qVl r' = (⟨⟨a1, a2, a3⟩, z⟩, rb) := by simp only [qVl, Ps.bind, Ps.ret, ea, eb]
        rw [HV] at HM2
        have hrd := shape4_calls w wr ys B r' hS.rd
        unfold P4 at hrd
        rw [ea] at hrd
        simp only [Sz.v] at hrd
        clear HMM HV ea
        go_upto_region 7 with fail
        clear hbad
        go_wp2_with fail
        refine hrd.mono ?_
        rintro e y1 ⟨rfl, hr1, hg1⟩
        have hE2 := ext_alloc y1 (.cells #[.int .i64 a1, .int .i64 a2, .int .i64 a3] 39)
        have hsb := Blk.new y1 #[.int .i64 a1, .int .i64 a2, .int .i64 a3] 39
        have h1 := hS.read hr1 hg1
        have hBs : B < y1.heap.size := h1.rd.lt
        have h2 := h1.ext hE2
        have F2 := (F.trans (Fr.grown (lo := b3) (B := B) hg1 (fun k hk => .inl (by cases hk; rfl)))).trans (Fr.ext (lo := b3) (B := B) hE2)
        clear hrd hr1 hg1 hE2 h1 hS F
        go_upto_region 8 with fail
        generalize y1.alloc _ = y2 at *
        generalize y1.heap.size = sb at *
        have hrd := signed_calls w y2 ys B 1 ra h2.rd (.inl rfl)
        unfold P4 at hrd
        rw [eb] at hrd
        simp only at hrd
        go_wp2_with fail
        refine hrd.mono ?_
        rintro e y3 ⟨rfl, hr1, hg1⟩
        have h3x := h2.read hr1 hg1
        have hs3 := hsb.grown hg1 (by simp; omega)
        have F3 := F2.trans (Fr.grown (lo := b3) (B := B) hg1 (fun k hk => .inl (by cases hk; rfl)))
        clear hrd hr1 hg1 h2 F2 hsb eb
        have s0 : World.cell? y3 ⟨sb, 0, none⟩ = some (.int .i64 a1) := hs3.cell 0
        have s1 : World.cell? y3 ⟨sb, 1, none⟩ = some (.int .i64 a2) := hs3.cell 1
        have s2 : World.cell? y3 ⟨sb, 2, none⟩ = some (.int .i64 a3) := hs3.cell 2
        have g0 : World.cell? y3 ⟨b3, 0, none⟩ = some v := h3x.nb.cell 0
        have hE4 := ext_alloc y3 (.cells (#[.int .i64 a1, .int .i64 a2, .int .i64 a3, .int .i64 z] : Array Value) 41)
        have hnew := row_new y3 (#[.int .i64 a1, .int .i64 a2, .int .i64 a3, .int .i64 z] : Array Value) 41 1 4 rfl (by decide)
        have hone : ∀ u ∈ (#[.int .i64 a1, .int .i64 a2, .int .i64 a3, .int .i64 z] : Array Value).toList, u.oneCell' = true := by intro u hu; simp at hu; rcases hu with rfl | rfl | rfl | rfl <;> rfl
        have h4x := h3x.ext hE4
        have F4 := F3.trans (Fr.ext (lo := b3) (B := B) hE4)
        have hown := h4x.own.own _ (List.mem_cons_self ..)
        have hbase : b3 + 1 ≤ (y3.alloc (.cells (#[.int .i64 a1, .int .i64 a2, .int .i64 a3, .int .i64 z] : Array Value) 41)).heap.size := h4x.nb.lt
        have hk1 : k9 + 1 ≤ 140737488355328 := by omega
        have hk2 : (k9 + 1) * 32 ≤ 140737488355328 := by omega
        clear h3x F3 hs3 hE4
        go_wp2_with (at_builtin; refine stopped ?_)
        refine wpList_append_row rfl rfl elem_vl hown rfl hnew rfl hone hk1 hk2 hbase ?_
        intro v' y5 ho hgr hnr
        obtain ⟨p1, p2, p3, p4, p5⟩ := h4x.push ho hgr hnr 0
        have p5' : World.cell? y5 ⟨b3, 0, none⟩ = some v := p5
        obtain ⟨A, c, ev, _⟩ := row_of_own ho
        have F5 := F4.trans p2
        clear ho hgr hnr hnew hown h4x p5 p2 F4 s0 s1 s2 g0 hbase hone
        subst ev
        have hSn : C4 w (World.setCell y5 ⟨b3, 0, none⟩ (.slice A (k9 + 1) c)) ys B w.heap.size b3 rb #[.slice none 0 0, .slice none 0 0, .slice none 0 0] #[(.slice A (k9 + 1) c), .slice none 0 0, .slice none 0 0] 28 [⟨41, 4, (.slice A (k9 + 1) c), (k9 + 1), (zs ++ [(⟨⟨a1, a2, a3⟩, z⟩ : Vl)]).flatMap Vl.cs⟩, ⟨67, 14, .slice none 0 0, 0, []⟩] := by
          rw [List.flatMap_append]
          simpa [Vl.cs] using p1
        clear p1
        go_upto_region 6 with fail
        clear p3 p4 p5'
        generalize World.setCell y5 _ _ = y6 at *
        go_wp2_with fail
        go_roundw
        case rel => exact ⟨_, k9 + 1, zs ++ [⟨⟨a1, a2, a3⟩, z⟩], rb, by omega, by go_num, hSn, by simp [hzl], F5, HM2.out⟩
        case measure => simp [intOf]; omega
    · obtain ⟨hz9, hr9⟩ := many_stop HMM.out (.inl (by omega)) HM.out
      replace hz9 := hz9.symm
      replace hr9 := hr9.symm
      subst hz9 hr9
      subst hzl
      have HS := Lib.hid hS
      have HF := Lib.hid F
      clear hS F hbad
      go_wp2_with fail
      exact HK.out _ _ ⟨v, .of rfl, HS.out, HF.out⟩

end Go.Proofs.YtdhdbmfipkppiaaGreat
