/- The walk of the reference's Balance of layer 20. -/
import Derived.Test.YtmddlhfahfelpaaVfd
set_option linter.unusedSimpArgs false
set_option linter.unusedVariables false
set_option linter.unnecessarySimpa false
namespace Go.Proofs.Ytmddlhfahfelpaa
set_option maxRecDepth 10000
open Go.RowKit

theorem Blk.other {w : World} {b : Nat} {cs : Array Value} {T : TypeId} (h : Blk w b cs T) {B : Nat} (hne : b ≠ B) (i : Nat) (v : Value) : Blk (w.setCell ⟨B, i, none⟩ v) b cs T :=
  h.grown (setCell_grown w B i v) (by simpa using hne)

set_option maxRecDepth 20000 in
set_option maxHeartbeats 6400000 in
theorem rbalance_calls (g : Gr) (pV s0 s1 s2 : Value) (L0 L1 L2 : List Isa.Cm) (w : World) (h0 : Isa.Cmds w s0 L0) (h1 : Isa.Cmds w s1 L1) (h2 : Isa.Cmds w s2 L2) (l0 : L0.length ≤ 100000) (l1 : L1.length ≤ 100000) (l2 : L2.length ≤ 100000) :
    Calls Try.prog 11 #[.agg #[g.iV, g.nV, g.oV, pV, s0, s1, s2]] w (BalP (balZ L0 L1 L2) w) := by
  have HP : Hid (∀ v w', Ints .i64 w' v (balZ L0 L1 L2) → Ext w w' → BalP (balZ L0 L1 L2) w (.returned v) w') := fun v w' h1 h2 => ⟨v, rfl, h1, h2⟩
  have HZ : Hid (balZ L0 L1 L2 = ([] ++ L0 ++ L1 ++ L2).foldl addB noughts) := rfl
  generalize BalP (balZ L0 L1 L2) w = PP at *
  have HL0 := Lib.hid l0
  have HL1 := Lib.hid l1
  have HL2 := Lib.hid l2
  clear l0 l1 l2
  obtain ⟨A0, d0, e0, m0, n0, _⟩ := id h0.form
  have HC0 := Lib.hid h0
  obtain ⟨A1, d1, e1, m1, n1, _⟩ := id h1.form
  have HC1 := Lib.hid h1
  obtain ⟨A2, d2, e2, m2, n2, _⟩ := id h2.form
  have HC2 := Lib.hid h2
  unfold maxLen at n0 n1 n2
  subst e0 e1 e2
  have hb1 := Blk.new w #[g.iV, g.nV, g.oV, pV, .slice A0 L0.length d0, .slice A1 L1.length d1, .slice A2 L2.length d2] 30
  have hE1 := ext_alloc w (.cells #[g.iV, g.nV, g.oV, pV, .slice A0 L0.length d0, .slice A1 L1.length d1, .slice A2 L2.length d2] 30)
  clear h0 h1 h2
  go_enter Try.func11, Try.ntmps11
  go_upto_region 1 with fail
  have HW0 := Lib.hid (Nat.le_refl w.heap.size)
  generalize World.alloc w _ = w1 at *
  obtain ⟨B1, hBe⟩ : ∃ B, w.heap.size = B := ⟨_, rfl⟩
  rw [hBe] at hb1 ⊢
  have HBe := Lib.hid hBe
  clear hBe HW0
  go_upto_region 2 with (refine wpList_mk8 rfl rfl elem_i64 (z := .int .i64 0) (by kernel_rfl) rfl 8 rfl rfl rfl rfl (by omega) (by unfold maxLen; omega) ?_; intro w2 hown hbel)
  have hB0 : Blk w2 w1.heap.size (cnt noughts) 3 := (blk_of_own hown).1
  have hE2 : Ext w w2 := hE1.trans hbel
  have hlt : w.heap.size ≤ w1.heap.size := hE1.size
  have hne1 : B1 ≠ w1.heap.size := by have := hb1.lt; omega
  replace hb1 := hb1.ext hbel
  clear hown hbel hE1
  generalize w1.heap.size = B at *
  have HLT := Lib.hid hlt
  clear hlt
  go_wp2_with fail
  go_loopw [4] (fun i wr => ∃ (k : Nat) (cs : List Int), k ≤ 3 ∧ i = .int .i64 k ∧ CsAt cs L0 L1 L2 k ∧ Blk wr B (cnt cs) 3 ∧ Blk wr B1 #[g.iV, g.nV, g.oV, pV, .slice A0 L0.length d0, .slice A1 L1.length d1, .slice A2 L2.length d2] 30 ∧ Ext w wr) (fun i _ => 3 - (intOf i).toNat)
  case atStart => exact ⟨0, noughts, by omega, rfl, rfl, hB0, hb1, hE2⟩
  case round =>
    clear hB0 hE2 hb1
    obtain ⟨k, cs, hk, rfl, HC0, hB, hb1, hE⟩ := hrel
    have HC := Lib.hid (show cs = (([] : List Isa.Cm) ++ (if 0 < k then L0 else []) ++ (if 1 < k then L1 else []) ++ (if 2 < k then L2 else [])).foldl addB noughts from HC0)
    clear HC0
    rcases (by omega : k = 0 ∨ k = 1 ∨ k = 2 ∨ k = 3) with rfl | rfl | rfl | rfl
    · rw [show ((0 : Nat) : Int) = 0 from rfl]
      have HD : Hid (cs = (([] : List Isa.Cm)).foldl addB noughts) := by
        show _ = _
        rw [HC.out]
        simp
      clear HC
      have HS : Hid (Isa.Cmds w (.slice A0 L0.length d0) L0) := HC0.out
      have hdl : (([] : List Isa.Cm)).length ≤ 200000 := by have := HL0.out; have := HL1.out; simp <;> omega
      obtain ⟨D, hD⟩ : ∃ D, ([] : List Isa.Cm) = D := ⟨_, rfl⟩
      have HDD := Lib.hid hD
      rw [hD] at HD hdl
      have hll := HL0.out
      clear hD
      go_wp2_with fail
      go_loopw [5] (fun i wr => ∃ (j : Nat) (cs : List Int), j ≤ L0.length ∧ i = .int .i64 j ∧ CsIs cs D L0 j ∧ Blk wr B (cnt cs) 3 ∧ Blk wr B1 #[g.iV, g.nV, g.oV, pV, .slice A0 L0.length d0, .slice A1 L1.length d1, .slice A2 L2.length d2] 30 ∧ Ext w wr) (fun i _ => L0.length - (intOf i).toNat)
      case atStart => exact ⟨0, cs, by omega, rfl, by show cs = _; rw [HD.out]; simp, hB, hb1, hE⟩
      case round =>
        clear HD hB hE hb1
        obtain ⟨j, cs, hj, rfl, HD0, hB, hb1, hE⟩ := hrel
        have HD := Lib.hid (show cs = (D ++ L0.take j).foldl addB noughts from HD0)
        clear HD0
        have yk : World.cell? wr ⟨B1, 4, none⟩ = some (.slice A0 L0.length d0) := hb1.cell 4
        by_cases hlt2 : j < L0.length
        · obtain ⟨_, _, e9, _, _, hcl⟩ := (HS.out.below hE (Nat.le_refl _)).form
          cases e9
          have hs : L0[j]? = some L0[j] := by simp [hlt2]
          obtain ⟨b, off, rfl, _, c0, c1, c2, c3, c4, c5, c6, c7, c8, c9, c10, c11, c12, c13⟩ := hcl j _ hs
          have HT : Hid (L0.take (j + 1) = L0.take j ++ [L0[j]]) := by show _ = _; rw [List.take_succ_eq_append_getElem hlt2]
          have hj2 : (L0.take j).length ≤ 100000 := by rw [List.length_take]; omega
          have HJ2 := Lib.hid hj2
          clear hcl hs hj2
          generalize L0[j] = c at *
          have hz7 := Blk.new wr #[.int .i64 0, .int .i64 0, .int .i64 0, .int .i64 0, .int .i64 0, .int .i64 0, .int .i64 0, .int .i64 0, .int .i64 0, .int .i64 0, .int .i64 0, .int .i64 0, .int .i64 0, .int .i64 0] 47
          have hb7 : Blk ((wr.alloc (.cells #[.int .i64 0, .int .i64 0, .int .i64 0, .int .i64 0, .int .i64 0, .int .i64 0, .int .i64 0, .int .i64 0, .int .i64 0, .int .i64 0, .int .i64 0, .int .i64 0, .int .i64 0, .int .i64 0] 47)).setRow wr.heap.size #[.int .i64 c.k, .int .i64 c.s, .int .i64 c.n, .int .i64 c.f, .int .i64 c.r, .int .i64 c.o, .int .i64 c.d, .int .i64 c.p, .int .i64 c.i0, .int .i64 c.i1, .int .i64 c.b0, .int .i64 c.b1, .int .i64 c.h0, .int .i64 c.h1]) wr.heap.size #[.int .i64 c.k, .int .i64 c.s, .int .i64 c.n, .int .i64 c.f, .int .i64 c.r, .int .i64 c.o, .int .i64 c.d, .int .i64 c.p, .int .i64 c.i0, .int .i64 c.i1, .int .i64 c.b0, .int .i64 c.b1, .int .i64 c.h0, .int .i64 c.h1] 47 := setRow_heap _ _ _ _ _ _ hz7
          have hQ : Ext wr ((wr.alloc (.cells #[.int .i64 0, .int .i64 0, .int .i64 0, .int .i64 0, .int .i64 0, .int .i64 0, .int .i64 0, .int .i64 0, .int .i64 0, .int .i64 0, .int .i64 0, .int .i64 0, .int .i64 0, .int .i64 0] 47)).setRow wr.heap.size #[.int .i64 c.k, .int .i64 c.s, .int .i64 c.n, .int .i64 c.f, .int .i64 c.r, .int .i64 c.o, .int .i64 c.d, .int .i64 c.p, .int .i64 c.i0, .int .i64 c.i1, .int .i64 c.b0, .int .i64 c.b1, .int .i64 c.h0, .int .i64 c.h1]) := ext_setRow (ext_alloc _ _) _ (Nat.le_refl _)
          have hne : B ≠ wr.heap.size := by have := hB.lt; omega
          go_upto_region 9 with (refine wpList_store_row rfl 47 _ _ rfl wr.heap.size #[.int .i64 c.k, .int .i64 c.s, .int .i64 c.n, .int .i64 c.f, .int .i64 c.r, .int .i64 c.o, .int .i64 c.d, .int .i64 c.p, .int .i64 c.i0, .int .i64 c.i1, .int .i64 c.b0, .int .i64 c.b1, .int .i64 c.h0, .int .i64 c.h1] rfl rfl 47 _ hz7 (by kernel_rfl) rfl (by simp [Value.oneCell']) ?_)
          clear c0 c1 c2 c3 c4 c5 c6 c7 c8 c9 c10 c11 c12 c13 hz7 yk
          replace hB := hB.ext hQ
          replace hb1 := hb1.ext hQ
          replace hE := hE.trans hQ
          clear hQ
          generalize World.setRow (wr.alloc _) _ _ = w5 at *
          generalize wr.heap.size = b7 at *
          have hl8 : cs.length = 8 := by rw [HD.out, foldB_len]; rfl
          have HL8 := Lib.hid hl8
          have r0 : World.cell? w5 ⟨b7, 0, none⟩ = some (.int .i64 c.k) := hb7.cell 0
          have r1 : World.cell? w5 ⟨b7, 1, none⟩ = some (.int .i64 c.s) := hb7.cell 1
          by_cases hin : 0 ≤ c.s ∧ c.s < 8
          · have hxb := foldB_abs (D ++ L0.take j) c.s.toNat
            rw [← HD.out, List.length_append] at hxb
            have hj2 := HJ2.out
            have hxb2 : -300000 ≤ cs[c.s.toNat]?.getD 0 ∧ cs[c.s.toNat]?.getD 0 ≤ 300000 := by omega
            have HN : CsIs (addB cs c) D L0 (j + 1) := by
              show addB cs c = (D ++ L0.take (j + 1)).foldl addB noughts
              rw [HT.out, ← List.append_assoc, List.foldl_append, ← HD.out]
              rfl
            have HA : Hid (addB cs c = cs.set c.s.toNat (cs[c.s.toNat]?.getD 0 + movZ c)) := by show _ = _; unfold addB; rw [if_pos hin]
            have hid0 : cs.set c.s.toNat (cs[c.s.toNat]?.getD 0) = cs := by
              have h8 : c.s.toNat < cs.length := by omega
              rw [List.getElem?_eq_getElem h8]
              simp
            have HID := Lib.hid hid0
            have q0 : World.cell? w5 ⟨B, c.s.toNat, none⟩ = some (.int .i64 (cs[c.s.toNat]?.getD 0)) := by rw [hB.cell]; exact cnt_get cs _ (by omega)
            generalize cs[c.s.toNat]?.getD 0 = x at *
            have hi1 := hin.1
            have hi2 := hin.2
            have d1 : decide (c.s < 0) = false := decide_eq_false (by omega)
            have d2 : decide (8 ≤ c.s) = false := decide_eq_false (by omega)
            have hmc := movZ_cases c
            have hf := hB.frozen c.s.toNat
            have hBl := hB.lt
            clear hxb hin HD HT hj2 hl8 hid0
            rcases hmc with ⟨ck, cm⟩ | ⟨ck, cm⟩ | ⟨ck, ck6, cm⟩
            · have g6 : (c.k == 6) = false := by rw [beq_eq_false_iff_ne]; omega
              have g5 : (c.k == 5) = true := by rw [beq_iff_eq]; exact ck
              have mw : IntKind.i64.wrap (x - 1) = x - 1 := IntWalk.i64_in _ (by omega)
              have hBn := hB.set c.s.toNat (.int .i64 (x - 1))
              rw [cnt_set, show x - 1 = x + -1 from rfl, ← cm, ← HA.out] at hBn
              have hb1n := hb1.other hne1 c.s.toNat (.int .i64 (x + movZ c))
              have hEn := Below.setCell hE (p := ⟨B, c.s.toNat, none⟩) (by show w.heap.size ≤ B; exact HLT.out) (.int .i64 (x + movZ c))
              rw [cm, show x + -1 = x - 1 from rfl] at hBn hb1n hEn
              clear cm ck hB hb1 hE HA
              go_wp2_with fail
              go_roundw
              case rel => exact ⟨j + 1, addB cs c, by omega, by go_num, HN, hBn, hb1n, hEn⟩
              case measure => simp [intOf]; omega
            · have g6 : (c.k == 6) = true := by rw [beq_iff_eq]; exact ck
              have g5 : (c.k == 5) = false := by rw [beq_eq_false_iff_ne]; omega
              have mw : IntKind.i64.wrap (x + 1) = x + 1 := IntWalk.i64_in _ (by omega)
              have hBn := hB.set c.s.toNat (.int .i64 (x + 1))
              rw [cnt_set, ← cm, ← HA.out] at hBn
              have hb1n := hb1.other hne1 c.s.toNat (.int .i64 (x + movZ c))
              have hEn := Below.setCell hE (p := ⟨B, c.s.toNat, none⟩) (by show w.heap.size ≤ B; exact HLT.out) (.int .i64 (x + movZ c))
              have r0n : World.cell? (w5.setCell ⟨B, c.s.toNat, none⟩ (.int .i64 (x + movZ c))) ⟨b7, 0, none⟩ = some (.int .i64 c.k) := (hb7.other (Ne.symm hne) c.s.toNat _).cell 0
              rw [cm] at hBn hb1n hEn r0n
              clear cm ck hB hb1 hE HA
              go_upto_region 12 with fail
              generalize World.setCell w5 _ _ = w6 at *
              clear r0 r1 q0
              go_wp2_with fail
              go_roundw
              case rel => exact ⟨j + 1, addB cs c, by omega, by go_num, HN, hBn, hb1n, hEn⟩
              case measure => simp [intOf]; omega
            · have g6 : (c.k == 6) = false := by rw [beq_eq_false_iff_ne]; exact ck6
              have g5 : (c.k == 5) = false := by rw [beq_eq_false_iff_ne]; exact ck
              have HN2 : CsIs cs D L0 (j + 1) := by rw [show cs = addB cs c by rw [HA.out, cm, Int.add_zero, HID.out]]; exact HN
              clear cm ck ck6 HA HN
              go_wp2_with fail
              go_roundw
              case rel => exact ⟨j + 1, cs, by omega, by go_num, HN2, hB, hb1, hE⟩
              case measure => simp [intOf]; omega
          · have HN : CsIs cs D L0 (j + 1) := by
              show cs = (D ++ L0.take (j + 1)).foldl addB noughts
              rw [HT.out, ← List.append_assoc, List.foldl_append, ← HD.out]
              show cs = addB cs c
              unfold addB
              rw [if_neg hin]
            clear HD HT hl8
            by_cases hi1 : 0 ≤ c.s
            · have d1 : decide (c.s < 0) = false := decide_eq_false (by omega)
              have d2 : decide (8 ≤ c.s) = true := decide_eq_true (by omega)
              clear hi1 hin
              go_wp2_with fail
              go_roundw
              case rel => exact ⟨j + 1, cs, by omega, by go_num, HN, hB, hb1, hE⟩
              case measure => simp [intOf]; omega
            · have d1 : decide (c.s < 0) = true := decide_eq_true (by omega)
              clear hi1 hin
              go_wp2_with fail
              go_roundw
              case rel => exact ⟨j + 1, cs, by omega, by go_num, HN, hB, hb1, hE⟩
              case measure => simp [intOf]; omega
        · have hjl : j = L0.length := by omega
          have HN : Hid (cs = (D ++ L0).foldl addB noughts) := by
            show _ = _
            rw [HD.out, hjl, List.take_length]
          clear HD hjl
          go_upto_block 1 with fail
          go_wp2_with fail
          go_roundw
          case rel => exact ⟨1, cs, by omega, by go_num, by show cs = _; rw [HN.out, ← HDD.out]; simp, hB, hb1, hE⟩
          case measure => simp [intOf]
    · rw [show ((1 : Nat) : Int) = 1 from rfl]
      have HD : Hid (cs = ((([] : List Isa.Cm) ++ L0)).foldl addB noughts) := by
        show _ = _
        rw [HC.out]
        simp
      clear HC
      have HS : Hid (Isa.Cmds w (.slice A1 L1.length d1) L1) := HC1.out
      have hdl : ((([] : List Isa.Cm) ++ L0)).length ≤ 200000 := by have := HL0.out; have := HL1.out; simp <;> omega
      obtain ⟨D, hD⟩ : ∃ D, (([] : List Isa.Cm) ++ L0) = D := ⟨_, rfl⟩
      have HDD := Lib.hid hD
      rw [hD] at HD hdl
      have hll := HL1.out
      clear hD
      go_wp2_with fail
      go_loopw [5] (fun i wr => ∃ (j : Nat) (cs : List Int), j ≤ L1.length ∧ i = .int .i64 j ∧ CsIs cs D L1 j ∧ Blk wr B (cnt cs) 3 ∧ Blk wr B1 #[g.iV, g.nV, g.oV, pV, .slice A0 L0.length d0, .slice A1 L1.length d1, .slice A2 L2.length d2] 30 ∧ Ext w wr) (fun i _ => L1.length - (intOf i).toNat)
      case atStart => exact ⟨0, cs, by omega, rfl, by show cs = _; rw [HD.out]; simp, hB, hb1, hE⟩
      case round =>
        clear HD hB hE hb1
        obtain ⟨j, cs, hj, rfl, HD0, hB, hb1, hE⟩ := hrel
        have HD := Lib.hid (show cs = (D ++ L1.take j).foldl addB noughts from HD0)
        clear HD0
        have yk : World.cell? wr ⟨B1, 5, none⟩ = some (.slice A1 L1.length d1) := hb1.cell 5
        by_cases hlt2 : j < L1.length
        · obtain ⟨_, _, e9, _, _, hcl⟩ := (HS.out.below hE (Nat.le_refl _)).form
          cases e9
          have hs : L1[j]? = some L1[j] := by simp [hlt2]
          obtain ⟨b, off, rfl, _, c0, c1, c2, c3, c4, c5, c6, c7, c8, c9, c10, c11, c12, c13⟩ := hcl j _ hs
          have HT : Hid (L1.take (j + 1) = L1.take j ++ [L1[j]]) := by show _ = _; rw [List.take_succ_eq_append_getElem hlt2]
          have hj2 : (L1.take j).length ≤ 100000 := by rw [List.length_take]; omega
          have HJ2 := Lib.hid hj2
          clear hcl hs hj2
          generalize L1[j] = c at *
          have hz7 := Blk.new wr #[.int .i64 0, .int .i64 0, .int .i64 0, .int .i64 0, .int .i64 0, .int .i64 0, .int .i64 0, .int .i64 0, .int .i64 0, .int .i64 0, .int .i64 0, .int .i64 0, .int .i64 0, .int .i64 0] 47
          have hb7 : Blk ((wr.alloc (.cells #[.int .i64 0, .int .i64 0, .int .i64 0, .int .i64 0, .int .i64 0, .int .i64 0, .int .i64 0, .int .i64 0, .int .i64 0, .int .i64 0, .int .i64 0, .int .i64 0, .int .i64 0, .int .i64 0] 47)).setRow wr.heap.size #[.int .i64 c.k, .int .i64 c.s, .int .i64 c.n, .int .i64 c.f, .int .i64 c.r, .int .i64 c.o, .int .i64 c.d, .int .i64 c.p, .int .i64 c.i0, .int .i64 c.i1, .int .i64 c.b0, .int .i64 c.b1, .int .i64 c.h0, .int .i64 c.h1]) wr.heap.size #[.int .i64 c.k, .int .i64 c.s, .int .i64 c.n, .int .i64 c.f, .int .i64 c.r, .int .i64 c.o, .int .i64 c.d, .int .i64 c.p, .int .i64 c.i0, .int .i64 c.i1, .int .i64 c.b0, .int .i64 c.b1, .int .i64 c.h0, .int .i64 c.h1] 47 := setRow_heap _ _ _ _ _ _ hz7
          have hQ : Ext wr ((wr.alloc (.cells #[.int .i64 0, .int .i64 0, .int .i64 0, .int .i64 0, .int .i64 0, .int .i64 0, .int .i64 0, .int .i64 0, .int .i64 0, .int .i64 0, .int .i64 0, .int .i64 0, .int .i64 0, .int .i64 0] 47)).setRow wr.heap.size #[.int .i64 c.k, .int .i64 c.s, .int .i64 c.n, .int .i64 c.f, .int .i64 c.r, .int .i64 c.o, .int .i64 c.d, .int .i64 c.p, .int .i64 c.i0, .int .i64 c.i1, .int .i64 c.b0, .int .i64 c.b1, .int .i64 c.h0, .int .i64 c.h1]) := ext_setRow (ext_alloc _ _) _ (Nat.le_refl _)
          have hne : B ≠ wr.heap.size := by have := hB.lt; omega
          go_upto_region 9 with (refine wpList_store_row rfl 47 _ _ rfl wr.heap.size #[.int .i64 c.k, .int .i64 c.s, .int .i64 c.n, .int .i64 c.f, .int .i64 c.r, .int .i64 c.o, .int .i64 c.d, .int .i64 c.p, .int .i64 c.i0, .int .i64 c.i1, .int .i64 c.b0, .int .i64 c.b1, .int .i64 c.h0, .int .i64 c.h1] rfl rfl 47 _ hz7 (by kernel_rfl) rfl (by simp [Value.oneCell']) ?_)
          clear c0 c1 c2 c3 c4 c5 c6 c7 c8 c9 c10 c11 c12 c13 hz7 yk
          replace hB := hB.ext hQ
          replace hb1 := hb1.ext hQ
          replace hE := hE.trans hQ
          clear hQ
          generalize World.setRow (wr.alloc _) _ _ = w5 at *
          generalize wr.heap.size = b7 at *
          have hl8 : cs.length = 8 := by rw [HD.out, foldB_len]; rfl
          have HL8 := Lib.hid hl8
          have r0 : World.cell? w5 ⟨b7, 0, none⟩ = some (.int .i64 c.k) := hb7.cell 0
          have r1 : World.cell? w5 ⟨b7, 1, none⟩ = some (.int .i64 c.s) := hb7.cell 1
          by_cases hin : 0 ≤ c.s ∧ c.s < 8
          · have hxb := foldB_abs (D ++ L1.take j) c.s.toNat
            rw [← HD.out, List.length_append] at hxb
            have hj2 := HJ2.out
            have hxb2 : -300000 ≤ cs[c.s.toNat]?.getD 0 ∧ cs[c.s.toNat]?.getD 0 ≤ 300000 := by omega
            have HN : CsIs (addB cs c) D L1 (j + 1) := by
              show addB cs c = (D ++ L1.take (j + 1)).foldl addB noughts
              rw [HT.out, ← List.append_assoc, List.foldl_append, ← HD.out]
              rfl
            have HA : Hid (addB cs c = cs.set c.s.toNat (cs[c.s.toNat]?.getD 0 + movZ c)) := by show _ = _; unfold addB; rw [if_pos hin]
            have hid0 : cs.set c.s.toNat (cs[c.s.toNat]?.getD 0) = cs := by
              have h8 : c.s.toNat < cs.length := by omega
              rw [List.getElem?_eq_getElem h8]
              simp
            have HID := Lib.hid hid0
            have q0 : World.cell? w5 ⟨B, c.s.toNat, none⟩ = some (.int .i64 (cs[c.s.toNat]?.getD 0)) := by rw [hB.cell]; exact cnt_get cs _ (by omega)
            generalize cs[c.s.toNat]?.getD 0 = x at *
            have hi1 := hin.1
            have hi2 := hin.2
            have d1 : decide (c.s < 0) = false := decide_eq_false (by omega)
            have d2 : decide (8 ≤ c.s) = false := decide_eq_false (by omega)
            have hmc := movZ_cases c
            have hf := hB.frozen c.s.toNat
            have hBl := hB.lt
            clear hxb hin HD HT hj2 hl8 hid0
            rcases hmc with ⟨ck, cm⟩ | ⟨ck, cm⟩ | ⟨ck, ck6, cm⟩
            · have g6 : (c.k == 6) = false := by rw [beq_eq_false_iff_ne]; omega
              have g5 : (c.k == 5) = true := by rw [beq_iff_eq]; exact ck
              have mw : IntKind.i64.wrap (x - 1) = x - 1 := IntWalk.i64_in _ (by omega)
              have hBn := hB.set c.s.toNat (.int .i64 (x - 1))
              rw [cnt_set, show x - 1 = x + -1 from rfl, ← cm, ← HA.out] at hBn
              have hb1n := hb1.other hne1 c.s.toNat (.int .i64 (x + movZ c))
              have hEn := Below.setCell hE (p := ⟨B, c.s.toNat, none⟩) (by show w.heap.size ≤ B; exact HLT.out) (.int .i64 (x + movZ c))
              rw [cm, show x + -1 = x - 1 from rfl] at hBn hb1n hEn
              clear cm ck hB hb1 hE HA
              go_wp2_with fail
              go_roundw
              case rel => exact ⟨j + 1, addB cs c, by omega, by go_num, HN, hBn, hb1n, hEn⟩
              case measure => simp [intOf]; omega
            · have g6 : (c.k == 6) = true := by rw [beq_iff_eq]; exact ck
              have g5 : (c.k == 5) = false := by rw [beq_eq_false_iff_ne]; omega
              have mw : IntKind.i64.wrap (x + 1) = x + 1 := IntWalk.i64_in _ (by omega)
              have hBn := hB.set c.s.toNat (.int .i64 (x + 1))
              rw [cnt_set, ← cm, ← HA.out] at hBn
              have hb1n := hb1.other hne1 c.s.toNat (.int .i64 (x + movZ c))
              have hEn := Below.setCell hE (p := ⟨B, c.s.toNat, none⟩) (by show w.heap.size ≤ B; exact HLT.out) (.int .i64 (x + movZ c))
              have r0n : World.cell? (w5.setCell ⟨B, c.s.toNat, none⟩ (.int .i64 (x + movZ c))) ⟨b7, 0, none⟩ = some (.int .i64 c.k) := (hb7.other (Ne.symm hne) c.s.toNat _).cell 0
              rw [cm] at hBn hb1n hEn r0n
              clear cm ck hB hb1 hE HA
              go_upto_region 12 with fail
              generalize World.setCell w5 _ _ = w6 at *
              clear r0 r1 q0
              go_wp2_with fail
              go_roundw
              case rel => exact ⟨j + 1, addB cs c, by omega, by go_num, HN, hBn, hb1n, hEn⟩
              case measure => simp [intOf]; omega
            · have g6 : (c.k == 6) = false := by rw [beq_eq_false_iff_ne]; exact ck6
              have g5 : (c.k == 5) = false := by rw [beq_eq_false_iff_ne]; exact ck
              have HN2 : CsIs cs D L1 (j + 1) := by rw [show cs = addB cs c by rw [HA.out, cm, Int.add_zero, HID.out]]; exact HN
              clear cm ck ck6 HA HN
              go_wp2_with fail
              go_roundw
              case rel => exact ⟨j + 1, cs, by omega, by go_num, HN2, hB, hb1, hE⟩
              case measure => simp [intOf]; omega
          · have HN : CsIs cs D L1 (j + 1) := by
              show cs = (D ++ L1.take (j + 1)).foldl addB noughts
              rw [HT.out, ← List.append_assoc, List.foldl_append, ← HD.out]
              show cs = addB cs c
              unfold addB
              rw [if_neg hin]
            clear HD HT hl8
            by_cases hi1 : 0 ≤ c.s
            · have d1 : decide (c.s < 0) = false := decide_eq_false (by omega)
              have d2 : decide (8 ≤ c.s) = true := decide_eq_true (by omega)
              clear hi1 hin
              go_wp2_with fail
              go_roundw
              case rel => exact ⟨j + 1, cs, by omega, by go_num, HN, hB, hb1, hE⟩
              case measure => simp [intOf]; omega
            · have d1 : decide (c.s < 0) = true := decide_eq_true (by omega)
              clear hi1 hin
              go_wp2_with fail
              go_roundw
              case rel => exact ⟨j + 1, cs, by omega, by go_num, HN, hB, hb1, hE⟩
              case measure => simp [intOf]; omega
        · have hjl : j = L1.length := by omega
          have HN : Hid (cs = (D ++ L1).foldl addB noughts) := by
            show _ = _
            rw [HD.out, hjl, List.take_length]
          clear HD hjl
          go_upto_block 1 with fail
          go_wp2_with fail
          go_roundw
          case rel => exact ⟨2, cs, by omega, by go_num, by show cs = _; rw [HN.out, ← HDD.out]; simp, hB, hb1, hE⟩
          case measure => simp [intOf]
    · rw [show ((2 : Nat) : Int) = 2 from rfl]
      have HD : Hid (cs = ((([] : List Isa.Cm) ++ L0 ++ L1)).foldl addB noughts) := by
        show _ = _
        rw [HC.out]
        simp
      clear HC
      have HS : Hid (Isa.Cmds w (.slice A2 L2.length d2) L2) := HC2.out
      have hdl : ((([] : List Isa.Cm) ++ L0 ++ L1)).length ≤ 200000 := by have := HL0.out; have := HL1.out; simp <;> omega
      obtain ⟨D, hD⟩ : ∃ D, (([] : List Isa.Cm) ++ L0 ++ L1) = D := ⟨_, rfl⟩
      have HDD := Lib.hid hD
      rw [hD] at HD hdl
      have hll := HL2.out
      clear hD
      go_wp2_with fail
      go_loopw [5] (fun i wr => ∃ (j : Nat) (cs : List Int), j ≤ L2.length ∧ i = .int .i64 j ∧ CsIs cs D L2 j ∧ Blk wr B (cnt cs) 3 ∧ Blk wr B1 #[g.iV, g.nV, g.oV, pV, .slice A0 L0.length d0, .slice A1 L1.length d1, .slice A2 L2.length d2] 30 ∧ Ext w wr) (fun i _ => L2.length - (intOf i).toNat)
      case atStart => exact ⟨0, cs, by omega, rfl, by show cs = _; rw [HD.out]; simp, hB, hb1, hE⟩
      case round =>
        clear HD hB hE hb1
        obtain ⟨j, cs, hj, rfl, HD0, hB, hb1, hE⟩ := hrel
        have HD := Lib.hid (show cs = (D ++ L2.take j).foldl addB noughts from HD0)
        clear HD0
        have yk : World.cell? wr ⟨B1, 6, none⟩ = some (.slice A2 L2.length d2) := hb1.cell 6
        by_cases hlt2 : j < L2.length
        · obtain ⟨_, _, e9, _, _, hcl⟩ := (HS.out.below hE (Nat.le_refl _)).form
          cases e9
          have hs : L2[j]? = some L2[j] := by simp [hlt2]
          obtain ⟨b, off, rfl, _, c0, c1, c2, c3, c4, c5, c6, c7, c8, c9, c10, c11, c12, c13⟩ := hcl j _ hs
          have HT : Hid (L2.take (j + 1) = L2.take j ++ [L2[j]]) := by show _ = _; rw [List.take_succ_eq_append_getElem hlt2]
          have hj2 : (L2.take j).length ≤ 100000 := by rw [List.length_take]; omega
          have HJ2 := Lib.hid hj2
          clear hcl hs hj2
          generalize L2[j] = c at *
          have hz7 := Blk.new wr #[.int .i64 0, .int .i64 0, .int .i64 0, .int .i64 0, .int .i64 0, .int .i64 0, .int .i64 0, .int .i64 0, .int .i64 0, .int .i64 0, .int .i64 0, .int .i64 0, .int .i64 0, .int .i64 0] 47
          have hb7 : Blk ((wr.alloc (.cells #[.int .i64 0, .int .i64 0, .int .i64 0, .int .i64 0, .int .i64 0, .int .i64 0, .int .i64 0, .int .i64 0, .int .i64 0, .int .i64 0, .int .i64 0, .int .i64 0, .int .i64 0, .int .i64 0] 47)).setRow wr.heap.size #[.int .i64 c.k, .int .i64 c.s, .int .i64 c.n, .int .i64 c.f, .int .i64 c.r, .int .i64 c.o, .int .i64 c.d, .int .i64 c.p, .int .i64 c.i0, .int .i64 c.i1, .int .i64 c.b0, .int .i64 c.b1, .int .i64 c.h0, .int .i64 c.h1]) wr.heap.size #[.int .i64 c.k, .int .i64 c.s, .int .i64 c.n, .int .i64 c.f, .int .i64 c.r, .int .i64 c.o, .int .i64 c.d, .int .i64 c.p, .int .i64 c.i0, .int .i64 c.i1, .int .i64 c.b0, .int .i64 c.b1, .int .i64 c.h0, .int .i64 c.h1] 47 := setRow_heap _ _ _ _ _ _ hz7
          have hQ : Ext wr ((wr.alloc (.cells #[.int .i64 0, .int .i64 0, .int .i64 0, .int .i64 0, .int .i64 0, .int .i64 0, .int .i64 0, .int .i64 0, .int .i64 0, .int .i64 0, .int .i64 0, .int .i64 0, .int .i64 0, .int .i64 0] 47)).setRow wr.heap.size #[.int .i64 c.k, .int .i64 c.s, .int .i64 c.n, .int .i64 c.f, .int .i64 c.r, .int .i64 c.o, .int .i64 c.d, .int .i64 c.p, .int .i64 c.i0, .int .i64 c.i1, .int .i64 c.b0, .int .i64 c.b1, .int .i64 c.h0, .int .i64 c.h1]) := ext_setRow (ext_alloc _ _) _ (Nat.le_refl _)
          have hne : B ≠ wr.heap.size := by have := hB.lt; omega
          go_upto_region 9 with (refine wpList_store_row rfl 47 _ _ rfl wr.heap.size #[.int .i64 c.k, .int .i64 c.s, .int .i64 c.n, .int .i64 c.f, .int .i64 c.r, .int .i64 c.o, .int .i64 c.d, .int .i64 c.p, .int .i64 c.i0, .int .i64 c.i1, .int .i64 c.b0, .int .i64 c.b1, .int .i64 c.h0, .int .i64 c.h1] rfl rfl 47 _ hz7 (by kernel_rfl) rfl (by simp [Value.oneCell']) ?_)
          clear c0 c1 c2 c3 c4 c5 c6 c7 c8 c9 c10 c11 c12 c13 hz7 yk
          replace hB := hB.ext hQ
          replace hb1 := hb1.ext hQ
          replace hE := hE.trans hQ
          clear hQ
          generalize World.setRow (wr.alloc _) _ _ = w5 at *
          generalize wr.heap.size = b7 at *
          have hl8 : cs.length = 8 := by rw [HD.out, foldB_len]; rfl
          have HL8 := Lib.hid hl8
          have r0 : World.cell? w5 ⟨b7, 0, none⟩ = some (.int .i64 c.k) := hb7.cell 0
          have r1 : World.cell? w5 ⟨b7, 1, none⟩ = some (.int .i64 c.s) := hb7.cell 1
          by_cases hin : 0 ≤ c.s ∧ c.s < 8
          · have hxb := foldB_abs (D ++ L2.take j) c.s.toNat
            rw [← HD.out, List.length_append] at hxb
            have hj2 := HJ2.out
            have hxb2 : -300000 ≤ cs[c.s.toNat]?.getD 0 ∧ cs[c.s.toNat]?.getD 0 ≤ 300000 := by omega
            have HN : CsIs (addB cs c) D L2 (j + 1) := by
              show addB cs c = (D ++ L2.take (j + 1)).foldl addB noughts
              rw [HT.out, ← List.append_assoc, List.foldl_append, ← HD.out]
              rfl
            have HA : Hid (addB cs c = cs.set c.s.toNat (cs[c.s.toNat]?.getD 0 + movZ c)) := by show _ = _; unfold addB; rw [if_pos hin]
            have hid0 : cs.set c.s.toNat (cs[c.s.toNat]?.getD 0) = cs := by
              have h8 : c.s.toNat < cs.length := by omega
              rw [List.getElem?_eq_getElem h8]
              simp
            have HID := Lib.hid hid0
            have q0 : World.cell? w5 ⟨B, c.s.toNat, none⟩ = some (.int .i64 (cs[c.s.toNat]?.getD 0)) := by rw [hB.cell]; exact cnt_get cs _ (by omega)
            generalize cs[c.s.toNat]?.getD 0 = x at *
            have hi1 := hin.1
            have hi2 := hin.2
            have d1 : decide (c.s < 0) = false := decide_eq_false (by omega)
            have d2 : decide (8 ≤ c.s) = false := decide_eq_false (by omega)
            have hmc := movZ_cases c
            have hf := hB.frozen c.s.toNat
            have hBl := hB.lt
            clear hxb hin HD HT hj2 hl8 hid0
            rcases hmc with ⟨ck, cm⟩ | ⟨ck, cm⟩ | ⟨ck, ck6, cm⟩
            · have g6 : (c.k == 6) = false := by rw [beq_eq_false_iff_ne]; omega
              have g5 : (c.k == 5) = true := by rw [beq_iff_eq]; exact ck
              have mw : IntKind.i64.wrap (x - 1) = x - 1 := IntWalk.i64_in _ (by omega)
              have hBn := hB.set c.s.toNat (.int .i64 (x - 1))
              rw [cnt_set, show x - 1 = x + -1 from rfl, ← cm, ← HA.out] at hBn
              have hb1n := hb1.other hne1 c.s.toNat (.int .i64 (x + movZ c))
              have hEn := Below.setCell hE (p := ⟨B, c.s.toNat, none⟩) (by show w.heap.size ≤ B; exact HLT.out) (.int .i64 (x + movZ c))
              rw [cm, show x + -1 = x - 1 from rfl] at hBn hb1n hEn
              clear cm ck hB hb1 hE HA
              go_wp2_with fail
              go_roundw
              case rel => exact ⟨j + 1, addB cs c, by omega, by go_num, HN, hBn, hb1n, hEn⟩
              case measure => simp [intOf]; omega
            · have g6 : (c.k == 6) = true := by rw [beq_iff_eq]; exact ck
              have g5 : (c.k == 5) = false := by rw [beq_eq_false_iff_ne]; omega
              have mw : IntKind.i64.wrap (x + 1) = x + 1 := IntWalk.i64_in _ (by omega)
              have hBn := hB.set c.s.toNat (.int .i64 (x + 1))
              rw [cnt_set, ← cm, ← HA.out] at hBn
              have hb1n := hb1.other hne1 c.s.toNat (.int .i64 (x + movZ c))
              have hEn := Below.setCell hE (p := ⟨B, c.s.toNat, none⟩) (by show w.heap.size ≤ B; exact HLT.out) (.int .i64 (x + movZ c))
              have r0n : World.cell? (w5.setCell ⟨B, c.s.toNat, none⟩ (.int .i64 (x + movZ c))) ⟨b7, 0, none⟩ = some (.int .i64 c.k) := (hb7.other (Ne.symm hne) c.s.toNat _).cell 0
              rw [cm] at hBn hb1n hEn r0n
              clear cm ck hB hb1 hE HA
              go_upto_region 12 with fail
              generalize World.setCell w5 _ _ = w6 at *
              clear r0 r1 q0
              go_wp2_with fail
              go_roundw
              case rel => exact ⟨j + 1, addB cs c, by omega, by go_num, HN, hBn, hb1n, hEn⟩
              case measure => simp [intOf]; omega
            · have g6 : (c.k == 6) = false := by rw [beq_eq_false_iff_ne]; exact ck6
              have g5 : (c.k == 5) = false := by rw [beq_eq_false_iff_ne]; exact ck
              have HN2 : CsIs cs D L2 (j + 1) := by rw [show cs = addB cs c by rw [HA.out, cm, Int.add_zero, HID.out]]; exact HN
              clear cm ck ck6 HA HN
              go_wp2_with fail
              go_roundw
              case rel => exact ⟨j + 1, cs, by omega, by go_num, HN2, hB, hb1, hE⟩
              case measure => simp [intOf]; omega
          · have HN : CsIs cs D L2 (j + 1) := by
              show cs = (D ++ L2.take (j + 1)).foldl addB noughts
              rw [HT.out, ← List.append_assoc, List.foldl_append, ← HD.out]
              show cs = addB cs c
              unfold addB
              rw [if_neg hin]
            clear HD HT hl8
            by_cases hi1 : 0 ≤ c.s
            · have d1 : decide (c.s < 0) = false := decide_eq_false (by omega)
              have d2 : decide (8 ≤ c.s) = true := decide_eq_true (by omega)
              clear hi1 hin
              go_wp2_with fail
              go_roundw
              case rel => exact ⟨j + 1, cs, by omega, by go_num, HN, hB, hb1, hE⟩
              case measure => simp [intOf]; omega
            · have d1 : decide (c.s < 0) = true := decide_eq_true (by omega)
              clear hi1 hin
              go_wp2_with fail
              go_roundw
              case rel => exact ⟨j + 1, cs, by omega, by go_num, HN, hB, hb1, hE⟩
              case measure => simp [intOf]; omega
        · have hjl : j = L2.length := by omega
          have HN : Hid (cs = (D ++ L2).foldl addB noughts) := by
            show _ = _
            rw [HD.out, hjl, List.take_length]
          clear HD hjl
          go_upto_block 1 with fail
          go_wp2_with fail
          go_roundw
          case rel => exact ⟨3, cs, by omega, by go_num, by show cs = _; rw [HN.out, ← HDD.out]; simp, hB, hb1, hE⟩
          case measure => simp [intOf]
    · have HN : Hid (cs = ([] ++ L0 ++ L1 ++ L2).foldl addB noughts) := by
        show _ = _
        rw [HC.out]
        rfl
      rw [← HZ.out] at HN
      have hl8 : cs.length = 8 := by rw [HN.out, HZ.out, foldB_len]; rfl
      have hI := ints_of_blk hB (by rw [hl8]; unfold maxLen; omega)
      rw [hl8] at hI
      rw [HN.out] at hI
      have HX := Lib.hid (HP.out _ _ hI hE)
      clear HC hl8 hI
      go_wp2_with fail
      exact HX.out

end Go.Proofs.Ytmddlhfahfelpaa
