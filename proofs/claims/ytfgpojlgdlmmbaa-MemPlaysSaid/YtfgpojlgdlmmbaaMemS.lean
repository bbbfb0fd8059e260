/- The walk of the law MemPlays. -/
import Derived.Test.YtfgpojlgdlmmbaaMemR
import Derived.Test.YtfgpojlgdlmmbaaDraw4
import Derived.Deep.Cut
import Derived.Deep.CutBlock
import Derived.Deep.DeepCutAuto
import Derived.BigRegion
namespace Go.Proofs.Ytfgpojlgdlmmbaa
set_option linter.unusedSimpArgs false
set_option linter.unusedVariables false
set_option linter.unnecessarySimpa false
open Go.RowKit

set_option maxRecDepth 20000 in
set_option maxHeartbeats 12800000 in
theorem memPlays_calls (size : Int) (vl : Value) (l : List OpW) (w : World) (hsz : InK .i64 size) (hl : Ops w vl l) :
    Calls Try.prog 3 #[.int .i64 size, vl] w fun e w' => e = .returned (.bool true) ∧ Below w.heap.size w w' := by
  obtain ⟨L, d, rfl, hld, hlm, _⟩ := id hl.form
  unfold maxLen at hlm
  have HL := Lib.hid hl
  clear hl
  go_enter Try.func3, Try.ntmps3
  go_wp2_with fail
  refine (shown11_calls w).mono ?_
  rintro e w1 ⟨rfl, hE1⟩
  go_wp2_with fail
  refine (new_calls _ _ hsz).mono ?_
  rintro e w2 ⟨p, v, rfl, hm, hp1, hE2⟩
  have hE2 : Below w.heap.size w w2 := hE1.trans (hE2.mono hE1.size)
  go_wp2_with fail
  refine (refNew_calls _ _ hsz).mono ?_
  rintro e w3 ⟨rfl, hR, hE3⟩
  have hms : memSize size ≤ 65536 := by unfold memSize; omega
  have hst : St w w3 w2.heap.size (memSize size) 0 p v (List.replicate (memSize size) 0) (fun b => b = w2.heap.size) (.slice none 0 0) [] := by
    obtain ⟨k1, k2⟩ := hm.lt
    exact ⟨(hm.below hE3 (Nat.le_refl _)).lower hE1.size, hR, by omega, Nat.le_trans hE1.size hp1, hE2.size, fun b hb e => by have := k2 b hb; omega, Nat.le_refl _, agree_start _, hE2.trans (hE3.mono hE2.size)⟩
  generalize memSize size = N at *
  generalize (List.replicate N 0 : List Int) = zs0 at *
  generalize (fun b => b = w2.heap.size) = S0 at *
  generalize w2.heap.size = r at *
  clear hm hR hE3 hE2 hE1 hp1
  have HS0 := Lib.hid hst
  have hm := hst.mem
  have hc0 := hst.ref.cells.1
  have hzl := hst.agree.length
  have HZ := Lib.hid hzl
  clear hst hzl
  go_wp2_with fail
  refine wp_region_R [(0, true), (1, true), (2, true), (3, true), (4, true), (5, true), (6, true), (7, true), (9, true), (10, true), (11, true), (12, true), (8, false), (13, true), (14, true)] (by kernel_rfl) (by kernel_rfl) (fun _ _ d _ _ h => by cases d <;> exact h) ?_
  simp only [pickE, List.getElem?_cons_zero, List.getElem?_cons_succ]
  repeat (first | (refine wpF_skip (by rfl) ?_; simp only [Act.put, List.setIfInBounds_toArray, List.set_cons_zero, List.set_cons_succ]) | (refine wpF_pure (by rfl) (fun W hW => by subst hW; go_simp; with_reducible rfl) ?_; simp only [Act.put, List.setIfInBounds_toArray, List.set_cons_zero, List.set_cons_succ]))
  refine wpF_step (by rfl) (fun K hK => ?_)
  go_simp
  refine (size_calls _ p v zs0 _ (show MemAt w3.drew _ p v zs0 from hm)).mono ?_
  rintro e w4 ⟨rfl, rfl⟩
  rw [HZ.out]
  refine hK _ _ rfl ?_
  try simp only [Act.put, List.setIfInBounds_toArray, List.set_cons_zero, List.set_cons_succ]
  repeat (first | (refine wpF_skip (by rfl) ?_; simp only [Act.put, List.setIfInBounds_toArray, List.set_cons_zero, List.set_cons_succ]) | (refine wpF_pure (by rfl) (fun W hW => by subst hW; go_simp; with_reducible rfl) ?_; simp only [Act.put, List.setIfInBounds_toArray, List.set_cons_zero, List.set_cons_succ]))
  refine wpF_nil ?_
  clear hK K hm hc0 HZ
  have HS1 := Lib.hid (HS0.out.ext (Ext.drew _))
  clear HS0
  generalize w3.drew = w4 at *
  go_wp2_with fail
  go_loopw [6, 8] (fun m0 i wr => ∃ (p : Nat) (v : Value) (zs : List Int) (S : Nat → Prop) (rv : Value) (ps : List PutM) (j : Nat), m0 = .pointer (some ⟨p, 0, none⟩) ∧ i = .int .i64 j ∧ j ≤ l.length ∧ j ≤ 60 ∧ Hid (St w wr r N j p v zs S rv ps)) (fun _ i _ => 60 - (intOf i).toNat)
  case atStart => exact ⟨p, v, zs0, S0, _, [], 0, rfl, rfl, by omega, by omega, HS1⟩
  case round =>
    clear HS1
    obtain ⟨p, v, zs, S, rv, ps, j, rfl, rfl, hj, hj60, HS⟩ := hrel
    by_cases hlt : j < l.length ∧ j < 60
    · obtain ⟨hlt, hlt60⟩ := hlt
      have hs : l[j]? = some l[j] := by simp [hlt]
      have hl' := HL.out.below HS.out.bel
      obtain ⟨hy, hb1, hb2, hb3⟩ := HL.out.2 l[j] (List.getElem_mem hlt)
      obtain ⟨_, _, e1, _, _, hc⟩ := hl'.form
      cases e1
      obtain ⟨bo, oo, rfl, x0, x1, x2, x3⟩ := hc j _ hs
      have hl1 : bo < wr.heap.size := World.block_lt_of_cell? _ _ x0
      clear hc hs hl'
      generalize l[j] = o at *
      obtain ⟨at_, frm, n, lv, ys⟩ := o
      simp only at hy hb1 hb2 hb3 x0 x1 x2 x3
      obtain ⟨Y, cy, rfl, hyc, hym, _⟩ := id hy
      unfold maxLen at hym
      have HY := Lib.hid hy
      clear hy
      have hb9 := Blk.new wr #[.int .i64 at_, .int .i64 frm, .int .i64 n, .slice Y ys.length cy] 34
      have hE := ext_alloc wr (.cells #[.int .i64 at_, .int .i64 frm, .int .i64 n, .slice Y ys.length cy] 34)
      have HO9 := Lib.hid (HS.out.off (Nat.le_refl wr.heap.size))
      have HS5 := Lib.hid (HS.out.ext hE)
      clear hE HS
      go_upto_region 10 with fail
      generalize wr.alloc _ = w5 at *
      generalize wr.heap.size = b9 at *
      clear x0 x1 x2 x3 hl1
      have z3 : w5.cell? ⟨b9, 3, none⟩ = some (.slice Y ys.length cy) := hb9.cell 3
      go_upto_if 56 with fail
      go_cut [] (fun wx => ∃ y1 : List Int, y1.length ≤ 100 ∧ Blk wx b9 #[.int .i64 at_, .int .i64 frm, .int .i64 n, .slice Y y1.length cy] 34 ∧ Hid (Ints .i8 w (.slice Y y1.length cy) y1) ∧ y1.length ≤ cy ∧ Hid (St w wx r N j p v zs S rv ps))
      case first =>
        by_cases hY : 100 < ys.length
        · have hf := hb9.frozen 3
          have hl9 := hb9.lt
          have hX : ∃ y1 : List Int, y1.length ≤ 100 ∧ Blk (w5.setCell ⟨b9, 3, none⟩ (.slice Y 100 cy)) b9 #[.int .i64 at_, .int .i64 frm, .int .i64 n, .slice Y y1.length cy] 34 ∧ Hid (Ints .i8 w (.slice Y y1.length cy) y1) ∧ y1.length ≤ cy ∧ Hid (St w (w5.setCell ⟨b9, 3, none⟩ (.slice Y 100 cy)) r N j p v zs S rv ps) := by
            have h1 := HY.out.first (m := 100) (by omega)
            have hl := List.length_take (i := 100) (l := ys)
            rw [show min 100 ys.length = 100 by omega] at hl
            refine ⟨ys.take 100, by omega, ?_, ?_, by omega, HS5.out.grown (setCell_grown w5 b9 3 _) fun b hb => by obtain rfl := Option.some.inj hb; exact HO9.out⟩
            · rw [hl]
              simpa using hb9.set 3 (.slice Y 100 cy)
            · rw [hl]; exact h1
          have HX := Lib.hid hX
          clear hX hb9 HS5
          go_wp2_with fail
          go_meet
          exact HX.out
        · go_wp2_with fail
          go_meet
          exact ⟨ys, by omega, hb9, HY, by omega, HS5⟩
      clear HS5 HY hb9 z3 hyc
      obtain ⟨y1, hy1, hb9, HY, hyc, HS⟩ := hcut
      obtain ⟨bt, hbt⟩ : ∃ b : Int, bits .and .i64 n 3 = b ∧ 0 ≤ b ∧ b ≤ 3 := ⟨_, rfl, i64_and_le n 3 (by omega)⟩
      obtain ⟨hbt, hbt2⟩ := hbt
      have z2 : wc.cell? ⟨b9, 2, none⟩ = some (.int .i64 n) := hb9.cell 2
      go_upto_if 63 with fail
      go_cut [] (fun wx => ∃ n' : Int, Hid (InK .i64 n') ∧ Blk wx b9 #[.int .i64 at_, .int .i64 frm, .int .i64 n', .slice Y y1.length cy] 34 ∧ Hid (St w wx r N j p v zs S rv ps))
      case first =>
        by_cases hn : 100 < n
        · have hrz : wc.cell? ⟨r, 0, none⟩ = some (.int .i64 N) := HS.out.ref.cells.1
          have hf := hb9.frozen 2
          have hl9 := hb9.lt
          have hw1 : IntKind.i64.wrap ((N : Int) + 1) = (N : Int) + 1 := IntWalk.i64_in _ (by omega)
          have hw2 : IntKind.i64.wrap ((N : Int) + 1 + bt) = (N : Int) + 1 + bt := IntWalk.i64_in _ (by omega)
          have hX : ∃ n' : Int, Hid (InK .i64 n') ∧ Blk (wc.drew.setCell ⟨b9, 2, none⟩ (.int .i64 ((N : Int) + 1 + bt))) b9 #[.int .i64 at_, .int .i64 frm, .int .i64 n', .slice Y y1.length cy] 34 ∧ Hid (St w (wc.drew.setCell ⟨b9, 2, none⟩ (.int .i64 ((N : Int) + 1 + bt))) r N j p v zs S rv ps) := by
            refine ⟨(N : Int) + 1 + bt, (show _ ≤ _ ∧ _ ≤ _ by omega), ?_, (HS.out.ext (Ext.drew _)).grown (setCell_grown _ b9 2 _) fun b hb => by obtain rfl := Option.some.inj hb; exact HO9.out⟩
            simpa using (show Blk wc.drew b9 _ _ from hb9).set 2 (.int .i64 ((N : Int) + 1 + bt))
          have HX := Lib.hid hX
          clear hX hb9 HS
          go_wp2_with fail
          refine wp_region_Z (fun W => W = wc.drew) 10 [(0, true), (1, true), (2, true), (3, true), (4, true), (5, true), (6, true), (7, true), (8, true), (9, true), (10, false)] (by kernel_rfl) (by kernel_rfl) (fun _ _ d _ _ h => by cases d <;> exact h) rfl ?_
          simp only [pickE, List.getElem?_cons_zero, List.getElem?_cons_succ]
          repeat (refine wpZ_pure (by rfl) (fun W hW => by subst hW; go_simp; with_reducible rfl) ?_; simp only [Act.put, List.setIfInBounds_toArray, List.set_cons_zero, List.set_cons_succ])
          refine wpZ_last (by rfl) (fun K hK => ?_)
          go_simp
          refine hK _ _ ?_
          clear hK K
          go_wp2_with fail
          go_meet
          exact HX.out
        · go_wp2_with fail
          go_meet
          exact ⟨n, hb3, hb9, HS⟩
      clear HS hb9 z2 hbt hbt2 hb3
      obtain ⟨n', hb3, hb9, HS⟩ := hcut
      go_upto_if 76 with fail
      go_cut [6] (fun m0 wx => ∃ (p' : Nat) (v' : Value), m0 = .pointer (some ⟨p', 0, none⟩) ∧ Blk wx b9 #[.int .i64 at_, .int .i64 frm, .int .i64 n', .slice Y y1.length cy] 34 ∧ Hid (Off w p' v' S b9) ∧ Hid (St w wx r N j p' v' zs S rv ps))
      case first =>
        have hm := HS.out.mem
        by_cases h9 : j % 9 = 8
        · have d9 : ((j : Int) % 9 == 8) = true := by rw [beq_iff_eq]; omega
          have H9 := Lib.hid h9
          clear h9
          go_wp2_with fail
          refine (clone_calls _ p v zs _ hm).mono ?_
          rintro e w6 ⟨q, u, rfl, hq, hq2, hE6⟩
          obtain ⟨hSN, hOp, hOv⟩ := HS.out.clone hq hq2 hE6
          have hmo := hm.below hE6 (Nat.le_refl _)
          have hb96 := hb9.ext (Ext.below hE6 (Nat.le_refl _))
          have hO96 : Off w q u S b9 := by
            obtain ⟨k1, k2, k3, k4⟩ := HO9.out
            have hlt := hb9.lt
            refine ⟨k1, by omega, fun e => ?_, k4⟩
            have := (hq.2.1.lt b9 e).1
            omega
          have hvne : ∀ b, v.ownBlock = some b → b ≠ b9 := fun b hb e => HO9.out.2.2.1 (by rw [hb, e])
          have HSN := Lib.hid hSN
          have HOV := Lib.hid hOv
          have HVN := Lib.hid hvne
          clear hm HS hq hSN hOp hOv hvne HO9 hb9 hE6 hq2
          have hlit : Ints .i8 (w6.alloc (.cells #[.int .i8 9] 38)) (.slice (some ⟨w6.heap.size, 0, none⟩) 1 1) [9] := row_new w6 _ _ 1 1 rfl (by decide)
          have hma := hmo.below (below_alloc (Below.refl _ _) (Nat.le_refl _) (.cells #[.int .i8 9] 38)) (Nat.le_refl _)
          have HE7 := Lib.hid (ext_alloc w6 (.cells #[.int .i8 9] 38))
          go_wp2_with fail
          refine (write_calls _ p v zs 0 _ [9] _ hma (by simp only [InK]; omega) hlit).mono ?_
          rintro e w7 ⟨rfl, hm7, hg⟩
          have hS7 := (HSN.out.ext HE7.out).grown hg HOV.out
          have hb7 := (hb96.ext HE7.out).grown hg (fun e => HVN.out b9 e.symm rfl)
          have HS7 := Lib.hid hS7
          have HO7 := Lib.hid hO96
          clear hS7 hO96 hm7 hg hlit hma hmo hb96 HSN HOV HVN HE7
          go_wp2_with fail
          go_meet
          exact ⟨q, u, rfl, hb7, HO7, HS7⟩
        · have d9 : ((j : Int) % 9 == 8) = false := by rw [beq_eq_false_iff_ne]; omega
          have H9 := Lib.hid h9
          clear h9
          go_wp2_with fail
          go_meet
          exact ⟨p, v, rfl, hb9, HO9, HS⟩
      clear HS hb9 HO9
      obtain ⟨p', v', rfl, hb9, HO9, HS⟩ := hcut
      have z3 : wc.cell? ⟨b9, 3, none⟩ = some (.slice Y y1.length cy) := hb9.cell 3
      have hyc1 := HY.out.below HS.out.bel
      have hl9 := hb9.lt
      go_wp2_with (at_builtin; refine stopped ?_)
      refine wpList_append_fresh rfl rfl elem_i8 rfl hyc1 rfl (one_ints _ _) (by omega) (by omega) ?_
      intro vo wo hown hEo
      obtain ⟨B, cb, rfl, hoc, hocm, hB⟩ := own_slice hown
      unfold maxLen at hocm
      have hSo := HS.out.ext (wy := wo) hEo
      have hb9o := hb9.ext (W := wo) hEo
      have hGo : ∀ b, (Value.slice B y1.length cb).ownBlock = some b → Off w p' v' S b ∧ b < wo.heap.size ∧ b ≠ b9 := fun b hb => by
        have h1 := hown.lt b hb
        have h2 := hb9.lt
        exact ⟨HS.out.off h1.1, h1.2, by omega⟩
      have HSo := Lib.hid hSo
      have HGo := Lib.hid hGo
      have HO := Lib.hid hown
      have c0 : ∀ W, Blk W b9 #[.int .i64 at_, .int .i64 frm, .int .i64 n', .slice Y y1.length cy] 34 → W.cell? ⟨b9, 0, none⟩ = some (.int .i64 at_) := fun W h => h.cell 0
      have c3 : ∀ W, Blk W b9 #[.int .i64 at_, .int .i64 frm, .int .i64 n', .slice Y y1.length cy] 34 → W.cell? ⟨b9, 3, none⟩ = some (.slice Y y1.length cy) := fun W h => h.cell 3
      clear z3 hyc1 HS hb9 hSo hGo hown hEo hl9
      go_wp2_with fail
      refine wp_region_S (fun W => Blk W b9 #[.int .i64 at_, .int .i64 frm, .int .i64 n', .slice Y y1.length cy] 34) [(0, true), (1, true), (2, true), (3, true), (5, true), (6, true), (7, true), (8, true), (9, true), (4, false), (10, false), (11, true)] (by kernel_rfl) (by kernel_rfl) (fun _ _ d _ _ h => by cases d <;> exact h) hb9o ?_
      simp only [pickE, List.getElem?_cons_zero, List.getElem?_cons_succ]
      repeat (first | (refine wpF_skip (by rfl) ?_; simp only [Act.put, List.setIfInBounds_toArray, List.set_cons_zero, List.set_cons_succ]) | (refine wpF_pure (by rfl) (fun W hW => by go_simp; with_reducible rfl) ?_; simp only [Act.put, List.setIfInBounds_toArray, List.set_cons_zero, List.set_cons_succ]))
      have hSd := HSo.out.ext (Ext.drew wo)
      have hmd := hSd.mem
      have hod : Ints .i8 wo.drew (.slice B y1.length cb) y1 := ints_of_own (ownsRow_drew HO.out)
      have hbd : Blk wo.drew b9 #[.int .i64 at_, .int .i64 frm, .int .i64 n', .slice Y y1.length cy] 34 := hb9o
      have HOD := Lib.hid (ownsRow_drew HO.out)
      have HSD := Lib.hid hSd
      have hsd : wo.drew.heap.size = wo.heap.size := rfl
      have HGD : Hid (∀ b, (Value.slice B y1.length cb).ownBlock = some b → Off w p' v' S b ∧ b < wo.drew.heap.size ∧ b ≠ b9) := HGo.out
      clear HSo HO HGo hSd hb9o hsd
      generalize wo.drew = wd at *
      refine wpF_step (by rfl) (fun K hK => ?_)
      go_simp
      refine (write_calls _ p' v' zs at_ _ y1 _ hmd hb1 hod).mono ?_
      rintro e wy ⟨rfl, hmy, hg⟩
      have hzl := HSD.out.agree.length
      rw [hzl]
      have hby := hbd.grown hg (fun e => HO9.out.2.2.1 e.symm)
      have hvd : v'.ownBlock = none ∨ v'.ownBlock ≠ v'.ownBlock ∨ True := Or.inr (Or.inr trivial)
      have hown2 := World.ownsRow.kept HOD.out hg (or_ne fun b hb e => (HGD.out b hb).1.2.2.1 e)
      refine hK _ _ hby ?_
      clear hK K hmd hod hbd hvd hzl
      try simp only [Act.put, List.setIfInBounds_toArray, List.set_cons_zero, List.set_cons_succ]
      repeat (first | (refine wpF_skip (by rfl) ?_; simp only [Act.put, List.setIfInBounds_toArray, List.set_cons_zero, List.set_cons_succ]) | (refine wpF_pure (by rfl) (fun W hW => by go_simp; with_reducible rfl) ?_; simp only [Act.put, List.setIfInBounds_toArray, List.set_cons_zero, List.set_cons_succ]))
      have hRy := HSD.out.ref.grown hg (fun b hb e => HSD.out.vS b e hb)
      have hyy := HY.out.below (HSD.out.mem.wrote HSD.out.bel (Nat.le_refl _) HSD.out.bel.size hg)
      have hps : ps.length ≤ 60 := by have := HSD.out.len; omega
      refine wpF_step (by rfl) (fun K hK => ?_)
      go_simp
      refine (refWrite_calls S r N rv ps at_ _ y1 _ hRy hps hb1 hyy hy1).mono ?_
      intro e wz hpost
      obtain ⟨rfl, hgz, rv', ps', hSz⟩ := HSD.out.wrote hmy hg hpost
      have hbz := hby.grown hgz (fun e => (HO9.out.ne HSD.out.ref.ins) (Option.some.inj e))
      have hown3 := World.ownsRow.kept hown2 hgz (or_ne fun b hb e => ((HGD.out b hb).1.ne HSD.out.ref.ins) (Option.some.inj e).symm)
      refine hK _ _ hbz ?_
      clear hK K hpost hRy hyy hps
      try simp only [Act.put, List.setIfInBounds_toArray, List.set_cons_zero, List.set_cons_succ]
      generalize memErr (N : Int) at_ y1.length = em at *
      repeat (first | (refine wpF_skip (by rfl) ?_; simp only [Act.put, List.setIfInBounds_toArray, List.set_cons_zero, List.set_cons_succ]) | (refine wpF_pure (by rfl) (fun W hW => by go_simp; with_reducible rfl) ?_; simp only [Act.put, List.setIfInBounds_toArray, List.set_cons_zero, List.set_cons_succ]))
      refine wpF_nil ?_
      have HO9z : Hid (Off w p' v' (Wid S wy wz) b9) := HO9.out.wide hby.lt
      have HGz : Hid (∀ b, (Value.slice B y1.length cb).ownBlock = some b → Off w p' v' (Wid S wy wz) b ∧ b < wz.heap.size ∧ b ≠ b9) := fun b hb => by
        obtain ⟨g1, g2, g3⟩ := HGD.out b hb
        have := hg.size
        have := hgz.size
        exact ⟨g1.wide (by omega), by omega, g3⟩
      have HSz := Lib.hid hSz
      generalize writeAt zs at_ y1 = zs2 at *
      generalize Wid S wy wz = S2 at *
      have hem : (em != em) = false := by simp
      have hem : (em != em) = false := by simp
      have hem : (em != em) = false := by simp
      clear HSD HGD HOD hown2 hby hgz hSz hmy hg HO9 c0 c3 HY
      have HOZ := Lib.hid hown3
      clear hown3
      go_wp2_with fail
      go_loopw [12] (fun k wr => ∃ (i : Nat) (xs : List Int), i ≤ y1.length ∧ k = .int .i64 i ∧ Hid (wr.ownsRow wc.heap.size 38 1 (.slice B y1.length cb) y1.length (xs.map (.int .i8))) ∧ Hid (wz.grownBy wr (Value.slice B y1.length cb).ownBlock)) (fun k _ => y1.length - (intOf k).toNat)
      case atStart => exact ⟨0, y1, by omega, rfl, HOZ, World.grownBy.refl _ _⟩
      case round =>
        clear HOZ
        obtain ⟨i, xs, hi, rfl, ho, hgr⟩ := hrel
        by_cases hlt3 : i < y1.length
        · obtain ⟨g, rfl, hgB⟩ := hB (by omega)
          have hxl : xs.length = y1.length := by have := ho.out.1; simpa using this
          have hx1 : wr.cell? ⟨g, i, none⟩ = some (.int .i8 (xs[i]?.getD 0)) := by
            have h := ho.out.cells (g := g) rfl i (.int .i8 (xs[i]?.getD 0)) (by
              rw [List.getElem?_map]
              have : i < xs.length := by omega
              simp [this])
            rwa [add_lit, Nat.zero_add] at h
          have hx3 := ho.out.frozenAt i
          have hst := ho.out.stored i (.int .i8 77)
          have hs1 := hst.1
          rw [← List.map_set] at hs1
          have HS1 := Lib.hid hs1
          have HG7 := Lib.hid (grown_trans hgr.out hst.2)
          clear hst hs1 ho hgr hxl
          go_wp2_with fail
          go_roundw
          case rel => exact ⟨i + 1, _, by omega, by go_num, HS1, HG7⟩
          case measure => simp [intOf]; omega
        · have hSw := HSz.out.grown hgr.out (fun b hb => (HGz.out b hb).1)
          have hbw := hbz.grown hgr.out (fun e => (HGz.out b9 e.symm).2.2 rfl)
          have HSW := Lib.hid hSw
          have hmw := hSw.mem
          have hzl := hSw.agree.length
          have q1 : wr.cell? ⟨b9, 1, none⟩ = some (.int .i64 frm) := hbw.cell 1
          have q2 : wr.cell? ⟨b9, 2, none⟩ = some (.int .i64 n') := hbw.cell 2
          have HZL := Lib.hid hzl
          clear hSw hgr ho hzl HSz hbz HGz hB
          go_wp2_with fail
          refine (read_calls _ p' v' zs2 frm n' _ hmw hb2 hb3.out).mono ?_
          rintro e wA ⟨va, rfl, hoa, hEa⟩
          have hrl := readAt_le zs2 frm n'
          obtain ⟨A, ca, rfl, hac, hacm, hA⟩ := own_slice hoa
          unfold maxLen at hacm
          have HSA := Lib.hid (HSW.out.ext (wy := wA) hEa)
          have hba := hbw.ext (W := wA) hEa
          have hGA : ∀ b, (Value.slice A (readAt zs2 frm n').length ca).ownBlock = some b → Off w p' v' S2 b ∧ b < wA.heap.size := fun b hb => ⟨HSW.out.off (hoa.lt b hb).1, (hoa.lt b hb).2⟩
          have HGA := Lib.hid hGA
          have HOA := Lib.hid (own_lower hoa HSW.out.bel.size)
          have HRR := Lib.hid (HSW.out.agree.read frm n')
          have q1 : wA.cell? ⟨b9, 1, none⟩ = some (.int .i64 frm) := hba.cell 1
          have q2 : wA.cell? ⟨b9, 2, none⟩ = some (.int .i64 n') := hba.cell 2
          have hps : ps'.length ≤ 60 := by have := HSA.out.len; omega
          have hrlen : (readAt zs2 frm n').length ≤ 65536 := by have := HZL.out; omega
          rw [HZL.out]
          clear hGA hoa hEa hmw hbw HSW hrl
          generalize readAt zs2 frm n' = ra at *
          obtain ⟨em2, hem2⟩ : ∃ em2, memErr (N : Int) frm n' = em2 := ⟨_, rfl⟩
          rw [hem2]
          have HEM := Lib.hid hem2
          clear hem2
          go_wp2_with fail
          refine (refRead_calls S2 r N rv' ps' frm n' _ HSA.out.ref hps hb2 hb3.out).mono ?_
          rintro e wB ⟨vb, rfl, hib, hEb⟩
          rw [HEM.out]
          rw [← HRR.out] at hib
          have hia := (ints_of_own HOA.out).below hEb
          have hoB := World.ownsRow.kept (row := none) HOA.out (grown_of_ext (Ext.below hEb (Nat.le_refl _))) (by cases (Value.slice A ra.length ca).ownBlock <;> simp)
          have hSB := HSA.out.ext (wy := wB) hEb
          obtain ⟨A', c', rfl, _⟩ := id hib
          have HOB := Lib.hid hoB
          have HSB := Lib.hid hSB
          have HEB := Lib.hid hEb
          clear hoB hSB hEb HSA HOA hba q1 q2 HRR HEM
          go_wp2_with fail
          refine (same_calls _ _ ra ra _ hia hib).mono ?_
          rintro e wC ⟨rfl, hEc⟩
          rw [decide_eq_true (rfl : ra = ra)]
          have hoC := World.ownsRow.kept (row := none) HOB.out (grown_of_ext hEc) (by cases (Value.slice A ra.length ca).ownBlock <;> simp)
          have HOC := Lib.hid hoC
          have HSC := Lib.hid (HSB.out.ext (wy := wC) hEc)
          have HGC : Hid (∀ b, (Value.slice A ra.length ca).ownBlock = some b → Off w p' v' S2 b) := fun b hb => (HGA.out b hb).1
          have hem3 : (em2 != em2) = false := by simp
          clear hoC hEc HSB HOB HEB HGA hia hib
          go_wp2_with fail
          go_loopw [18] (fun k wr => ∃ (i : Nat) (xs : List Int), i ≤ ra.length ∧ k = .int .i64 i ∧ Hid (wr.ownsRow w.heap.size 38 1 (.slice A ra.length ca) ra.length (xs.map (.int .i8))) ∧ Hid (St w wr r N (j + 1) p' v' zs2 S2 rv' ps')) (fun k _ => ra.length - (intOf k).toNat)
          case atStart => exact ⟨0, ra, by omega, rfl, HOC, HSC⟩
          case round =>
            clear HOC HSC
            obtain ⟨i, xs, hi, rfl, ho, HS⟩ := hrel
            by_cases hlt4 : i < ra.length
            · obtain ⟨g, rfl, hgB⟩ := hA (by omega)
              have hxl : xs.length = ra.length := by have := ho.out.1; simpa using this
              have hx1 : wr.cell? ⟨g, i, none⟩ = some (.int .i8 (xs[i]?.getD 0)) := by
                have h := ho.out.cells (g := g) rfl i (.int .i8 (xs[i]?.getD 0)) (by
                  rw [List.getElem?_map]
                  have : i < xs.length := by omega
                  simp [this])
                rwa [add_lit, Nat.zero_add] at h
              have hx3 := ho.out.frozenAt i
              have hst := ho.out.stored i (.int .i8 88)
              have hs1 := hst.1
              rw [← List.map_set] at hs1
              have HS1 := Lib.hid hs1
              have HG7 := Lib.hid (HS.out.grown hst.2 (fun b hb => HGC.out b hb))
              clear hst hs1 ho HS hxl
              go_wp2_with fail
              go_roundw
              case rel => exact ⟨i + 1, _, by omega, by go_num, HS1, HG7⟩
              case measure => simp [intOf]; omega
            · clear ho hA
              go_wp2_with fail
              go_roundw
              case rel => exact ⟨p', v', zs2, S2, rv', ps', j + 1, rfl, by go_num, by omega, by omega, HS⟩
              case measure => simp [intOf]; omega
    · have hend : ¬ (j < l.length) ∨ (j < l.length ∧ ¬ j < 60) := by omega
      clear hlt
      rcases hend with h1 | ⟨h1, h2⟩
      all_goals
        go_wp2_with fail
        go_ret
        exact ⟨rfl, HS.out.bel⟩

end Go.Proofs.Ytfgpojlgdlmmbaa
