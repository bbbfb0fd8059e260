/- The walk of verify.Balance. -/
import Derived.Test.YtmddlhfahfelpaaVfe
import Derived.Test.YtmddlhfahfelpaaCut
set_option linter.unusedSimpArgs false
set_option linter.unusedVariables false
set_option linter.unnecessarySimpa false
namespace Go.Proofs.Ytmddlhfahfelpaa
set_option maxRecDepth 10000
open Go.RowKit

/-- 'make([]T, n)' in a list of operations. -/
theorem wpList_mk8 {P : Program} {w : World} {ops : Array Oper} {rest : List Oper} {o : Oper} {a : Act} {Q : Exit → Act → World → Prop} (hgd : o.guard = Option.none) {l c : Operand} {t e : TypeId} {bytes : Nat}
    (ho : o.op = .makeSlice t l c) (HT : ElemT P t e 1 bytes) {z : Value} (hz : (P.info? e).map (·.zero) = some (some z)) (hz1 : z.cells = #[z]) {kl kc : IntKind} {L C : Int} (n : Nat) (hl : a.eval l = .int kl L) (hc : a.eval c = .int kc C) (hL : L = n) (hC : C = n)
    (b2 : bytes * n ≤ 281474976710656) (b3 : n ≤ maxLen)
    (h : ∀ w', w'.ownsRow w.heap.size e 1 (.slice (some ⟨w.heap.size, 0, Option.none⟩) n n) n (List.replicate n z) → Below w.heap.size w w' → wpList P ops Q rest (a.put o.dst (.slice (some ⟨w.heap.size, 0, Option.none⟩) n n)) w') : wpList P ops Q (o :: rest) a w := by
  obtain ⟨i, z', hi, hz', hs, hby, _⟩ := HT.info
  rw [hi] at hz
  simp only [Option.map_some, Option.some.injEq] at hz
  rw [hz'] at hz
  cases hz
  refine wpList_make_full w hgd l c t ho w.heap.size e i z 1 HT.slice hi hz' hs kl kc L C n hl hc hL hC (by rw [hby]; exact b2) b3 (Nat.le_refl _) fun w' h1 h2 => h w' ?_ ?_
  · rw [Nat.mul_one, hz1, toList_madeCells_one] at h1; exact h1
  · exact (Below.refl _ w).grown h2 (Nat.le_refl _) (fun k hk => by cases hk)

def cnt (cs : List Int) : Array Value := (cs.map (.int .i64)).toArray
theorem blk_of_own {w : World} {base B n : Nat} {xs : List Value} {T : TypeId} (h : w.ownsRow base T 1 (.slice (some ⟨B, 0, none⟩) n n) n xs) : Blk w B xs.toArray T ∧ base ≤ B := by
  obtain ⟨hl, h | ⟨g, cap, cur, e, hb, hc, _, _, h5, h6⟩⟩ := h
  · cases h.1
  · cases e
    refine ⟨?_, hb⟩
    have : cur.toList = xs := by rw [← h6, List.take_of_length_le]; simp [h5]
    rw [← this]
    exact hc
theorem ints_of_blk {w : World} {B : Nat} {cs : List Int} (h : Blk w B (cnt cs) 3) (hl : cs.length ≤ maxLen) : Ints .i64 w (.slice (some ⟨B, 0, none⟩) cs.length cs.length) cs :=
  ⟨_, _, rfl, Nat.le_refl _, hl, by simp, fun j u hj => ⟨B, 0, rfl, by rw [Nat.zero_add, h.cell]; simpa [cnt] using hj⟩⟩
theorem cnt_set (cs : List Int) (i : Nat) (z : Int) : (cnt cs).setIfInBounds i (.int .i64 z) = cnt (cs.set i z) := by simp [cnt, List.map_set]
theorem cnt_get (cs : List Int) (i : Nat) (h : i < cs.length) : (cnt cs)[i]? = some (.int .i64 (cs[i]?.getD 0)) := by simp [cnt, h]
theorem foldB_abs (l : List Isa.Cm) (i : Nat) : -(l.length : Int) ≤ (l.foldl addB noughts)[i]?.getD 0 ∧ (l.foldl addB noughts)[i]?.getD 0 ≤ l.length := by
  by_cases h : i < 8
  · rw [foldB_get i h _ _ rfl]
    have := semSum_abs i l
    have h0 : noughts[i]?.getD 0 = 0 := by unfold noughts; rw [List.getElem?_replicate]; split <;> rfl
    omega
  · rw [List.getElem?_eq_none (by rw [foldB_len]; show 8 ≤ i; omega)]
    show -(l.length : Int) ≤ 0 ∧ (0 : Int) ≤ l.length
    omega

def CsIs (cs : List Int) (D L : List Isa.Cm) (j : Nat) : Prop := cs = (D ++ L.take j).foldl addB noughts
def CsAt (cs : List Int) (L0 L1 L2 : List Isa.Cm) (k : Nat) : Prop := cs = ([] ++ (if 0 < k then L0 else []) ++ (if 1 < k then L1 else []) ++ (if 2 < k then L2 else [])).foldl addB noughts

def BalP (z : List Int) (w : World) (e : Ending) (w' : World) : Prop := ∃ v, e = .returned v ∧ Ints .i64 w' v z ∧ Ext w w'

set_option maxRecDepth 20000 in
set_option maxHeartbeats 6400000 in
theorem balance_calls (g : Gr) (pV s0 s1 s2 : Value) (L0 L1 L2 : List Isa.Cm) (w : World) (h0 : Isa.Cmds w s0 L0) (h1 : Isa.Cmds w s1 L1) (h2 : Isa.Cmds w s2 L2) (l0 : L0.length ≤ 100000) (l1 : L1.length ≤ 100000) (l2 : L2.length ≤ 100000) :
    Calls Try.prog 10 #[.agg #[g.iV, g.nV, g.oV, pV, s0, s1, s2]] w (BalP (balZ L0 L1 L2) w) := by
  have HP : Hid (∀ v w', Ints .i64 w' v (balZ L0 L1 L2) → Ext w w' → BalP (balZ L0 L1 L2) w (.returned v) w') := fun v w' h1 h2 => ⟨v, rfl, h1, h2⟩
  have HZ : Hid (balZ L0 L1 L2 = ([] ++ L0 ++ L1 ++ L2).foldl addB noughts) := rfl
  generalize BalP (balZ L0 L1 L2) w = PP at *
  have hb1 := Blk.new w #[g.iV, g.nV, g.oV, pV, s0, s1, s2] 30
  have hE1 := ext_alloc w (.cells #[g.iV, g.nV, g.oV, pV, s0, s1, s2] 30)
  have HL0 := Lib.hid l0
  have HL1 := Lib.hid l1
  have HL2 := Lib.hid l2
  clear l0 l1 l2
  obtain ⟨A0, d0, e0, m0, n0, _⟩ := id h0.form
  have HC0 := Lib.hid h0
  obtain ⟨A1, d1, e1, m1, n1, _⟩ := id h1.form
  have HC1 := Lib.hid h1
  obtain ⟨A2, d2, e2, m2, n2, _⟩ := id h2.form
  have HC2 := Lib.hid h2
  unfold maxLen at n0 n1 n2
  subst e0 e1 e2
  clear h0 h1 h2
  go_enter Try.func10, Try.ntmps10
  go_upto_region 1 with fail
  generalize World.alloc w _ = w1 at *
  have y4 : World.cell? w1 ⟨w.heap.size, 4, none⟩ = some (.slice A0 L0.length d0) := hb1.cell 4
  have y5 : World.cell? w1 ⟨w.heap.size, 5, none⟩ = some (.slice A1 L1.length d1) := hb1.cell 5
  have y6 : World.cell? w1 ⟨w.heap.size, 6, none⟩ = some (.slice A2 L2.length d2) := hb1.cell 6
  go_upto_region 2 with (refine wpList_mk8 rfl rfl elem_i64 (z := .int .i64 0) (by kernel_rfl) rfl 8 rfl rfl rfl rfl (by omega) (by unfold maxLen; omega) ?_; intro w2 hown hbel)
  have hB0 : Blk w2 w1.heap.size (cnt noughts) 3 := (blk_of_own hown).1
  have hE2 : Ext w w2 := hE1.trans hbel
  have hlt : w.heap.size ≤ w1.heap.size := hE1.size
  replace y4 : World.cell? w2 ⟨w.heap.size, 4, none⟩ = some (.slice A0 L0.length d0) := (hb1.ext hbel).cell 4
  replace y5 : World.cell? w2 ⟨w.heap.size, 5, none⟩ = some (.slice A1 L1.length d1) := (hb1.ext hbel).cell 5
  replace y6 : World.cell? w2 ⟨w.heap.size, 6, none⟩ = some (.slice A2 L2.length d2) := (hb1.ext hbel).cell 6
  clear hown hbel hb1 hE1
  generalize w1.heap.size = B at *
  go_wp2_with fail
  clear y4 y5 y6
  have x0 : ∀ W : World, (Instr.index 28 (.agg #[.slice A0 L0.length d0, .slice A1 L1.length d1, .slice A2 L2.length d2]) (.int .i64 0)).run Try.prog W = .ok (.slice A0 L0.length d0) W := fun _ => by kernel_rfl
  have x1 : ∀ W : World, (Instr.index 28 (.agg #[.slice A0 L0.length d0, .slice A1 L1.length d1, .slice A2 L2.length d2]) (.int .i64 1)).run Try.prog W = .ok (.slice A1 L1.length d1) W := fun _ => by kernel_rfl
  have x2 : ∀ W : World, (Instr.index 28 (.agg #[.slice A0 L0.length d0, .slice A1 L1.length d1, .slice A2 L2.length d2]) (.int .i64 2)).run Try.prog W = .ok (.slice A2 L2.length d2) W := fun _ => by kernel_rfl
  go_loopw [11] (fun i wr => ∃ (k : Nat) (cs : List Int), k ≤ 3 ∧ i = .int .i64 k ∧ CsAt cs L0 L1 L2 k ∧ Blk wr B (cnt cs) 3 ∧ Ext w wr) (fun i _ => 3 - (intOf i).toNat)
  case atStart => exact ⟨0, noughts, by omega, rfl, rfl, hB0, hE2⟩
  case round =>
    clear hB0 hE2
    obtain ⟨k, cs, hk, rfl, HC0, hB, hE⟩ := hrel
    have HC := Lib.hid (show cs = (([] : List Isa.Cm) ++ (if 0 < k then L0 else []) ++ (if 1 < k then L1 else []) ++ (if 2 < k then L2 else [])).foldl addB noughts from HC0)
    clear HC0
    rcases (by omega : k = 0 ∨ k = 1 ∨ k = 2 ∨ k = 3) with rfl | rfl | rfl | rfl
    · rw [show ((0 : Nat) : Int) = 0 from rfl]
      have HD : Hid (cs = (([] : List Isa.Cm)).foldl addB noughts) := by
        show _ = _
        rw [HC.out]
        simp
      clear HC
      have HS : Hid (Isa.Cmds w (.slice A0 L0.length d0) L0) := HC0.out
      have hdl : (([] : List Isa.Cm)).length ≤ 200000 := by have := HL0.out; have := HL1.out; simp <;> omega
      obtain ⟨D, hD⟩ : ∃ D, ([] : List Isa.Cm) = D := ⟨_, rfl⟩
      have HDD := Lib.hid hD
      rw [hD] at HD hdl
      have hll := HL0.out
      clear hD
      go_wp2_with fail
      go_loopw [16] (fun i wr => ∃ (j : Nat) (cs : List Int), j ≤ L0.length ∧ i = .int .i64 j ∧ CsIs cs D L0 j ∧ Blk wr B (cnt cs) 3 ∧ Ext w wr) (fun i _ => L0.length - (intOf i).toNat)
      case atStart => exact ⟨0, cs, by omega, rfl, by show cs = _; rw [HD.out]; simp, hB, hE⟩
      case round =>
        clear HD hB hE
        obtain ⟨j, cs, hj, rfl, HD0, hB, hE⟩ := hrel
        have HD := Lib.hid (show cs = (D ++ L0.take j).foldl addB noughts from HD0)
        clear HD0
        by_cases hlt2 : j < L0.length
        · obtain ⟨_, _, e9, _, _, hcl⟩ := (HS.out.below hE (Nat.le_refl _)).form
          cases e9
          have hs : L0[j]? = some L0[j] := by simp [hlt2]
          obtain ⟨b, off, rfl, _, c0, c1, c2, c3, c4, c5, c6, c7, c8, c9, c10, c11, c12, c13⟩ := hcl j _ hs
          have HT : Hid (L0.take (j + 1) = L0.take j ++ [L0[j]]) := by show _ = _; rw [List.take_succ_eq_append_getElem hlt2]
          have hj2 : (L0.take j).length ≤ 100000 := by rw [List.length_take]; omega
          have HJ2 := Lib.hid hj2
          clear hcl hs hj2
          generalize L0[j] = c at *
          have hz7 := Blk.new wr #[.int .i64 0, .int .i64 0, .int .i64 0, .int .i64 0, .int .i64 0, .int .i64 0, .int .i64 0, .int .i64 0, .int .i64 0, .int .i64 0, .int .i64 0, .int .i64 0, .int .i64 0, .int .i64 0] 47
          have hb7 : Blk ((wr.alloc (.cells #[.int .i64 0, .int .i64 0, .int .i64 0, .int .i64 0, .int .i64 0, .int .i64 0, .int .i64 0, .int .i64 0, .int .i64 0, .int .i64 0, .int .i64 0, .int .i64 0, .int .i64 0, .int .i64 0] 47)).setRow wr.heap.size #[.int .i64 c.k, .int .i64 c.s, .int .i64 c.n, .int .i64 c.f, .int .i64 c.r, .int .i64 c.o, .int .i64 c.d, .int .i64 c.p, .int .i64 c.i0, .int .i64 c.i1, .int .i64 c.b0, .int .i64 c.b1, .int .i64 c.h0, .int .i64 c.h1]) wr.heap.size #[.int .i64 c.k, .int .i64 c.s, .int .i64 c.n, .int .i64 c.f, .int .i64 c.r, .int .i64 c.o, .int .i64 c.d, .int .i64 c.p, .int .i64 c.i0, .int .i64 c.i1, .int .i64 c.b0, .int .i64 c.b1, .int .i64 c.h0, .int .i64 c.h1] 47 := setRow_heap _ _ _ _ _ _ hz7
          have hQ : Ext wr ((wr.alloc (.cells #[.int .i64 0, .int .i64 0, .int .i64 0, .int .i64 0, .int .i64 0, .int .i64 0, .int .i64 0, .int .i64 0, .int .i64 0, .int .i64 0, .int .i64 0, .int .i64 0, .int .i64 0, .int .i64 0] 47)).setRow wr.heap.size #[.int .i64 c.k, .int .i64 c.s, .int .i64 c.n, .int .i64 c.f, .int .i64 c.r, .int .i64 c.o, .int .i64 c.d, .int .i64 c.p, .int .i64 c.i0, .int .i64 c.i1, .int .i64 c.b0, .int .i64 c.b1, .int .i64 c.h0, .int .i64 c.h1]) := ext_setRow (ext_alloc _ _) _ (Nat.le_refl _)
          have hne : B ≠ wr.heap.size := by have := hB.lt; omega
          go_upto_region 8 with (refine wpList_store_row rfl 47 _ _ rfl wr.heap.size #[.int .i64 c.k, .int .i64 c.s, .int .i64 c.n, .int .i64 c.f, .int .i64 c.r, .int .i64 c.o, .int .i64 c.d, .int .i64 c.p, .int .i64 c.i0, .int .i64 c.i1, .int .i64 c.b0, .int .i64 c.b1, .int .i64 c.h0, .int .i64 c.h1] rfl rfl 47 _ hz7 (by kernel_rfl) rfl (by simp [Value.oneCell']) ?_)
          clear c0 c1 c2 c3 c4 c5 c6 c7 c8 c9 c10 c11 c12 c13 hz7
          replace hB := hB.ext hQ
          replace hE := hE.trans hQ
          clear hQ
          generalize World.setRow (wr.alloc _) _ _ = w5 at *
          generalize wr.heap.size = b7 at *
          have hl8 : cs.length = 8 := by rw [HD.out, foldB_len]; rfl
          have HL8 := Lib.hid hl8
          have z1 : World.cell? w5 ⟨b7, 1, none⟩ = some (.int .i64 c.s) := hb7.cell 1
          by_cases hin : 0 ≤ c.s ∧ c.s < 8
          · have hxb := foldB_abs (D ++ L0.take j) c.s.toNat
            rw [← HD.out, List.length_append] at hxb
            have hmv : -1 ≤ movZ c ∧ movZ c ≤ 1 := by unfold movZ; split <;> (try split) <;> omega
            have hj2 := HJ2.out
            have hxb2 : -300000 ≤ cs[c.s.toNat]?.getD 0 ∧ cs[c.s.toNat]?.getD 0 ≤ 300000 := by omega
            have HN : CsIs (addB cs c) D L0 (j + 1) := by
              show addB cs c = (D ++ L0.take (j + 1)).foldl addB noughts
              rw [HT.out, ← List.append_assoc, List.foldl_append, ← HD.out]
              rfl
            have HA : Hid (addB cs c = cs.set c.s.toNat (cs[c.s.toNat]?.getD 0 + movZ c)) := by show _ = _; unfold addB; rw [if_pos hin]
            have q0 : World.cell? w5 ⟨B, c.s.toNat, none⟩ = some (.int .i64 (cs[c.s.toNat]?.getD 0)) := by rw [hB.cell]; exact cnt_get cs _ (by omega)
            have hmc := fun W => moves_calls c W
            have HXM : Hid (IntKind.i64.wrap (cs[c.s.toNat]?.getD 0 + movZ c) = cs[c.s.toNat]?.getD 0 + movZ c) := IntWalk.i64_in _ (by omega)
            generalize cs[c.s.toNat]?.getD 0 = x at *
            generalize movZ c = mv at *
            have hi1 := hin.1
            have hi2 := hin.2
            clear hxb hmv hxb2 hin HD HT hj2 hl8
            go_upto_region 9 with fail
            clear z1
            have K0 : Keeps [B, b7] w5 w5.drew := Keeps.drew _ _
            have hBd := hB.ext (Ext.drew w5)
            have hEd := hE.trans (Ext.drew w5)
            have q : ∀ W, Keeps [B, b7] w5 W → World.cell? W ⟨B, c.s.toNat, none⟩ = some (.int .i64 x) := fun W hW => (hW.cell (by simp)).trans q0
            have r0 : ∀ W, Keeps [B, b7] w5 W → World.cell? W ⟨b7, 0, none⟩ = some (.int .i64 c.k) := fun W hW => (hW.cell (by simp)).trans (hb7.cell 0)
            have r1 : ∀ W, Keeps [B, b7] w5 W → World.cell? W ⟨b7, 1, none⟩ = some (.int .i64 c.s) := fun W hW => (hW.cell (by simp)).trans (hb7.cell 1)
            have r2 : ∀ W, Keeps [B, b7] w5 W → World.cell? W ⟨b7, 2, none⟩ = some (.int .i64 c.n) := fun W hW => (hW.cell (by simp)).trans (hb7.cell 2)
            have r3 : ∀ W, Keeps [B, b7] w5 W → World.cell? W ⟨b7, 3, none⟩ = some (.int .i64 c.f) := fun W hW => (hW.cell (by simp)).trans (hb7.cell 3)
            have r4 : ∀ W, Keeps [B, b7] w5 W → World.cell? W ⟨b7, 4, none⟩ = some (.int .i64 c.r) := fun W hW => (hW.cell (by simp)).trans (hb7.cell 4)
            have r5 : ∀ W, Keeps [B, b7] w5 W → World.cell? W ⟨b7, 5, none⟩ = some (.int .i64 c.o) := fun W hW => (hW.cell (by simp)).trans (hb7.cell 5)
            have r6 : ∀ W, Keeps [B, b7] w5 W → World.cell? W ⟨b7, 6, none⟩ = some (.int .i64 c.d) := fun W hW => (hW.cell (by simp)).trans (hb7.cell 6)
            have r7 : ∀ W, Keeps [B, b7] w5 W → World.cell? W ⟨b7, 7, none⟩ = some (.int .i64 c.p) := fun W hW => (hW.cell (by simp)).trans (hb7.cell 7)
            have r8 : ∀ W, Keeps [B, b7] w5 W → World.cell? W ⟨b7, 8, none⟩ = some (.int .i64 c.i0) := fun W hW => (hW.cell (by simp)).trans (hb7.cell 8)
            have r9 : ∀ W, Keeps [B, b7] w5 W → World.cell? W ⟨b7, 9, none⟩ = some (.int .i64 c.i1) := fun W hW => (hW.cell (by simp)).trans (hb7.cell 9)
            have r10 : ∀ W, Keeps [B, b7] w5 W → World.cell? W ⟨b7, 10, none⟩ = some (.int .i64 c.b0) := fun W hW => (hW.cell (by simp)).trans (hb7.cell 10)
            have r11 : ∀ W, Keeps [B, b7] w5 W → World.cell? W ⟨b7, 11, none⟩ = some (.int .i64 c.b1) := fun W hW => (hW.cell (by simp)).trans (hb7.cell 11)
            have r12 : ∀ W, Keeps [B, b7] w5 W → World.cell? W ⟨b7, 12, none⟩ = some (.int .i64 c.h0) := fun W hW => (hW.cell (by simp)).trans (hb7.cell 12)
            have r13 : ∀ W, Keeps [B, b7] w5 W → World.cell? W ⟨b7, 13, none⟩ = some (.int .i64 c.h1) := fun W hW => (hW.cell (by simp)).trans (hb7.cell 13)
            have hb7l := hb7.lt
            have hBl := hB.lt
            refine wp_region_Z (Keeps [B, b7] w5) 9 [(0, true), (1, true), (2, true), (3, true), (4, true), (5, true), (6, false), (7, true), (8, true), (9, false)] (by kernel_rfl) (by kernel_rfl) (fun _ _ d _ _ h => by cases d <;> exact h) K0 ?_
            simp only [pickE, List.getElem?_cons_zero, List.getElem?_cons_succ]
            repeat (refine wpZ_pure (by rfl) (fun W hW => by go_simp; with_reducible rfl) ?_; simp only [Act.put, List.setIfInBounds_toArray, List.set_cons_zero, List.set_cons_succ])
            generalize w5.drew = wd at *
            refine wpZ_step (by rfl) (fun K hK => ?_)
            go_simp
            refine (hmc wd).mono ?_
            rintro e w6 ⟨rfl, hE6⟩
            have hE6 : Ext wd w6 := hE6
            have K1 : Keeps [B, b7] w5 w6 := K0.trans (Keeps.below hE6 (fun q hq => by simp at hq; rcases hq with rfl | rfl <;> exact Nat.lt_of_lt_of_le (by assumption) K0.1))
            refine hK _ _ K1 ?_
            clear hK K hmc
            try simp only [Act.put, List.setIfInBounds_toArray, List.set_cons_zero, List.set_cons_succ]
            repeat (refine wpZ_pure (by rfl) (fun W hW => by go_simp; with_reducible rfl) ?_; simp only [Act.put, List.setIfInBounds_toArray, List.set_cons_zero, List.set_cons_succ])
            have hq6 := q w6 K1
            replace hBd := hBd.ext hE6
            have hf6 := hBd.frozen c.s.toNat
            have hl6 := hBd.lt
            have hBn := hBd.set c.s.toNat (.int .i64 (x + mv))
            rw [cnt_set, ← HA.out] at hBn
            have hEn := Below.setCell (hEd.trans hE6) (p := ⟨B, c.s.toNat, none⟩) (by show w.heap.size ≤ B; exact hlt) (.int .i64 (x + mv))
            have mw := HXM.out
            refine wpZ_last (by rfl) (fun K hK => ?_)
            go_simp
            refine hK _ _ ?_
            clear hK K q hq6 hf6 hl6 mw K0 K1 hBd hE6 hEd
            try simp only [Act.put, List.setIfInBounds_toArray, List.set_cons_zero, List.set_cons_succ]
            go_wp2_with fail
            go_roundw
            case rel => exact ⟨j + 1, addB cs c, by omega, by go_num, HN, hBn, hEn⟩
            case measure => simp [intOf]; omega
          · have HN : CsIs cs D L0 (j + 1) := by
              show cs = (D ++ L0.take (j + 1)).foldl addB noughts
              rw [HT.out, ← List.append_assoc, List.foldl_append, ← HD.out]
              show cs = addB cs c
              unfold addB
              rw [if_neg hin]
            clear HD HT hl8
            by_cases hi1 : 0 ≤ c.s
            · have hi2 : ¬ c.s < 8 := by omega
              go_wp2_with fail
              go_roundw
              case rel => exact ⟨j + 1, cs, by omega, by go_num, HN, hB, hE⟩
              case measure => simp [intOf]; omega
            · go_wp2_with fail
              go_roundw
              case rel => exact ⟨j + 1, cs, by omega, by go_num, HN, hB, hE⟩
              case measure => simp [intOf]; omega
        · have hjl : j = L0.length := by omega
          have HN : Hid (cs = (D ++ L0).foldl addB noughts) := by
            show _ = _
            rw [HD.out, hjl, List.take_length]
          clear HD hjl
          go_upto_block 1 with fail
          go_wp2_with fail
          go_roundw
          case rel => exact ⟨1, cs, by omega, by go_num, by show cs = _; rw [HN.out, ← HDD.out]; simp, hB, hE⟩
          case measure => simp [intOf]
    · rw [show ((1 : Nat) : Int) = 1 from rfl]
      have HD : Hid (cs = ((([] : List Isa.Cm) ++ L0)).foldl addB noughts) := by
        show _ = _
        rw [HC.out]
        simp
      clear HC
      have HS : Hid (Isa.Cmds w (.slice A1 L1.length d1) L1) := HC1.out
      have hdl : ((([] : List Isa.Cm) ++ L0)).length ≤ 200000 := by have := HL0.out; have := HL1.out; simp <;> omega
      obtain ⟨D, hD⟩ : ∃ D, (([] : List Isa.Cm) ++ L0) = D := ⟨_, rfl⟩
      have HDD := Lib.hid hD
      rw [hD] at HD hdl
      have hll := HL1.out
      clear hD
      go_wp2_with fail
      go_loopw [16] (fun i wr => ∃ (j : Nat) (cs : List Int), j ≤ L1.length ∧ i = .int .i64 j ∧ CsIs cs D L1 j ∧ Blk wr B (cnt cs) 3 ∧ Ext w wr) (fun i _ => L1.length - (intOf i).toNat)
      case atStart => exact ⟨0, cs, by omega, rfl, by show cs = _; rw [HD.out]; simp, hB, hE⟩
      case round =>
        clear HD hB hE
        obtain ⟨j, cs, hj, rfl, HD0, hB, hE⟩ := hrel
        have HD := Lib.hid (show cs = (D ++ L1.take j).foldl addB noughts from HD0)
        clear HD0
        by_cases hlt2 : j < L1.length
        · obtain ⟨_, _, e9, _, _, hcl⟩ := (HS.out.below hE (Nat.le_refl _)).form
          cases e9
          have hs : L1[j]? = some L1[j] := by simp [hlt2]
          obtain ⟨b, off, rfl, _, c0, c1, c2, c3, c4, c5, c6, c7, c8, c9, c10, c11, c12, c13⟩ := hcl j _ hs
          have HT : Hid (L1.take (j + 1) = L1.take j ++ [L1[j]]) := by show _ = _; rw [List.take_succ_eq_append_getElem hlt2]
          have hj2 : (L1.take j).length ≤ 100000 := by rw [List.length_take]; omega
          have HJ2 := Lib.hid hj2
          clear hcl hs hj2
          generalize L1[j] = c at *
          have hz7 := Blk.new wr #[.int .i64 0, .int .i64 0, .int .i64 0, .int .i64 0, .int .i64 0, .int .i64 0, .int .i64 0, .int .i64 0, .int .i64 0, .int .i64 0, .int .i64 0, .int .i64 0, .int .i64 0, .int .i64 0] 47
          have hb7 : Blk ((wr.alloc (.cells #[.int .i64 0, .int .i64 0, .int .i64 0, .int .i64 0, .int .i64 0, .int .i64 0, .int .i64 0, .int .i64 0, .int .i64 0, .int .i64 0, .int .i64 0, .int .i64 0, .int .i64 0, .int .i64 0] 47)).setRow wr.heap.size #[.int .i64 c.k, .int .i64 c.s, .int .i64 c.n, .int .i64 c.f, .int .i64 c.r, .int .i64 c.o, .int .i64 c.d, .int .i64 c.p, .int .i64 c.i0, .int .i64 c.i1, .int .i64 c.b0, .int .i64 c.b1, .int .i64 c.h0, .int .i64 c.h1]) wr.heap.size #[.int .i64 c.k, .int .i64 c.s, .int .i64 c.n, .int .i64 c.f, .int .i64 c.r, .int .i64 c.o, .int .i64 c.d, .int .i64 c.p, .int .i64 c.i0, .int .i64 c.i1, .int .i64 c.b0, .int .i64 c.b1, .int .i64 c.h0, .int .i64 c.h1] 47 := setRow_heap _ _ _ _ _ _ hz7
          have hQ : Ext wr ((wr.alloc (.cells #[.int .i64 0, .int .i64 0, .int .i64 0, .int .i64 0, .int .i64 0, .int .i64 0, .int .i64 0, .int .i64 0, .int .i64 0, .int .i64 0, .int .i64 0, .int .i64 0, .int .i64 0, .int .i64 0] 47)).setRow wr.heap.size #[.int .i64 c.k, .int .i64 c.s, .int .i64 c.n, .int .i64 c.f, .int .i64 c.r, .int .i64 c.o, .int .i64 c.d, .int .i64 c.p, .int .i64 c.i0, .int .i64 c.i1, .int .i64 c.b0, .int .i64 c.b1, .int .i64 c.h0, .int .i64 c.h1]) := ext_setRow (ext_alloc _ _) _ (Nat.le_refl _)
          have hne : B ≠ wr.heap.size := by have := hB.lt; omega
          go_upto_region 8 with (refine wpList_store_row rfl 47 _ _ rfl wr.heap.size #[.int .i64 c.k, .int .i64 c.s, .int .i64 c.n, .int .i64 c.f, .int .i64 c.r, .int .i64 c.o, .int .i64 c.d, .int .i64 c.p, .int .i64 c.i0, .int .i64 c.i1, .int .i64 c.b0, .int .i64 c.b1, .int .i64 c.h0, .int .i64 c.h1] rfl rfl 47 _ hz7 (by kernel_rfl) rfl (by simp [Value.oneCell']) ?_)
          clear c0 c1 c2 c3 c4 c5 c6 c7 c8 c9 c10 c11 c12 c13 hz7
          replace hB := hB.ext hQ
          replace hE := hE.trans hQ
          clear hQ
          generalize World.setRow (wr.alloc _) _ _ = w5 at *
          generalize wr.heap.size = b7 at *
          have hl8 : cs.length = 8 := by rw [HD.out, foldB_len]; rfl
          have HL8 := Lib.hid hl8
          have z1 : World.cell? w5 ⟨b7, 1, none⟩ = some (.int .i64 c.s) := hb7.cell 1
          by_cases hin : 0 ≤ c.s ∧ c.s < 8
          · have hxb := foldB_abs (D ++ L1.take j) c.s.toNat
            rw [← HD.out, List.length_append] at hxb
            have hmv : -1 ≤ movZ c ∧ movZ c ≤ 1 := by unfold movZ; split <;> (try split) <;> omega
            have hj2 := HJ2.out
            have hxb2 : -300000 ≤ cs[c.s.toNat]?.getD 0 ∧ cs[c.s.toNat]?.getD 0 ≤ 300000 := by omega
            have HN : CsIs (addB cs c) D L1 (j + 1) := by
              show addB cs c = (D ++ L1.take (j + 1)).foldl addB noughts
              rw [HT.out, ← List.append_assoc, List.foldl_append, ← HD.out]
              rfl
            have HA : Hid (addB cs c = cs.set c.s.toNat (cs[c.s.toNat]?.getD 0 + movZ c)) := by show _ = _; unfold addB; rw [if_pos hin]
            have q0 : World.cell? w5 ⟨B, c.s.toNat, none⟩ = some (.int .i64 (cs[c.s.toNat]?.getD 0)) := by rw [hB.cell]; exact cnt_get cs _ (by omega)
            have hmc := fun W => moves_calls c W
            have HXM : Hid (IntKind.i64.wrap (cs[c.s.toNat]?.getD 0 + movZ c) = cs[c.s.toNat]?.getD 0 + movZ c) := IntWalk.i64_in _ (by omega)
            generalize cs[c.s.toNat]?.getD 0 = x at *
            generalize movZ c = mv at *
            have hi1 := hin.1
            have hi2 := hin.2
            clear hxb hmv hxb2 hin HD HT hj2 hl8
            go_upto_region 9 with fail
            clear z1
            have K0 : Keeps [B, b7] w5 w5.drew := Keeps.drew _ _
            have hBd := hB.ext (Ext.drew w5)
            have hEd := hE.trans (Ext.drew w5)
            have q : ∀ W, Keeps [B, b7] w5 W → World.cell? W ⟨B, c.s.toNat, none⟩ = some (.int .i64 x) := fun W hW => (hW.cell (by simp)).trans q0
            have r0 : ∀ W, Keeps [B, b7] w5 W → World.cell? W ⟨b7, 0, none⟩ = some (.int .i64 c.k) := fun W hW => (hW.cell (by simp)).trans (hb7.cell 0)
            have r1 : ∀ W, Keeps [B, b7] w5 W → World.cell? W ⟨b7, 1, none⟩ = some (.int .i64 c.s) := fun W hW => (hW.cell (by simp)).trans (hb7.cell 1)
            have r2 : ∀ W, Keeps [B, b7] w5 W → World.cell? W ⟨b7, 2, none⟩ = some (.int .i64 c.n) := fun W hW => (hW.cell (by simp)).trans (hb7.cell 2)
            have r3 : ∀ W, Keeps [B, b7] w5 W → World.cell? W ⟨b7, 3, none⟩ = some (.int .i64 c.f) := fun W hW => (hW.cell (by simp)).trans (hb7.cell 3)
            have r4 : ∀ W, Keeps [B, b7] w5 W → World.cell? W ⟨b7, 4, none⟩ = some (.int .i64 c.r) := fun W hW => (hW.cell (by simp)).trans (hb7.cell 4)
            have r5 : ∀ W, Keeps [B, b7] w5 W → World.cell? W ⟨b7, 5, none⟩ = some (.int .i64 c.o) := fun W hW => (hW.cell (by simp)).trans (hb7.cell 5)
            have r6 : ∀ W, Keeps [B, b7] w5 W → World.cell? W ⟨b7, 6, none⟩ = some (.int .i64 c.d) := fun W hW => (hW.cell (by simp)).trans (hb7.cell 6)
            have r7 : ∀ W, Keeps [B, b7] w5 W → World.cell? W ⟨b7, 7, none⟩ = some (.int .i64 c.p) := fun W hW => (hW.cell (by simp)).trans (hb7.cell 7)
            have r8 : ∀ W, Keeps [B, b7] w5 W → World.cell? W ⟨b7, 8, none⟩ = some (.int .i64 c.i0) := fun W hW => (hW.cell (by simp)).trans (hb7.cell 8)
            have r9 : ∀ W, Keeps [B, b7] w5 W → World.cell? W ⟨b7, 9, none⟩ = some (.int .i64 c.i1) := fun W hW => (hW.cell (by simp)).trans (hb7.cell 9)
            have r10 : ∀ W, Keeps [B, b7] w5 W → World.cell? W ⟨b7, 10, none⟩ = some (.int .i64 c.b0) := fun W hW => (hW.cell (by simp)).trans (hb7.cell 10)
            have r11 : ∀ W, Keeps [B, b7] w5 W → World.cell? W ⟨b7, 11, none⟩ = some (.int .i64 c.b1) := fun W hW => (hW.cell (by simp)).trans (hb7.cell 11)
            have r12 : ∀ W, Keeps [B, b7] w5 W → World.cell? W ⟨b7, 12, none⟩ = some (.int .i64 c.h0) := fun W hW => (hW.cell (by simp)).trans (hb7.cell 12)
            have r13 : ∀ W, Keeps [B, b7] w5 W → World.cell? W ⟨b7, 13, none⟩ = some (.int .i64 c.h1) := fun W hW => (hW.cell (by simp)).trans (hb7.cell 13)
            have hb7l := hb7.lt
            have hBl := hB.lt
            refine wp_region_Z (Keeps [B, b7] w5) 9 [(0, true), (1, true), (2, true), (3, true), (4, true), (5, true), (6, false), (7, true), (8, true), (9, false)] (by kernel_rfl) (by kernel_rfl) (fun _ _ d _ _ h => by cases d <;> exact h) K0 ?_
            simp only [pickE, List.getElem?_cons_zero, List.getElem?_cons_succ]
            repeat (refine wpZ_pure (by rfl) (fun W hW => by go_simp; with_reducible rfl) ?_; simp only [Act.put, List.setIfInBounds_toArray, List.set_cons_zero, List.set_cons_succ])
            generalize w5.drew = wd at *
            refine wpZ_step (by rfl) (fun K hK => ?_)
            go_simp
            refine (hmc wd).mono ?_
            rintro e w6 ⟨rfl, hE6⟩
            have hE6 : Ext wd w6 := hE6
            have K1 : Keeps [B, b7] w5 w6 := K0.trans (Keeps.below hE6 (fun q hq => by simp at hq; rcases hq with rfl | rfl <;> exact Nat.lt_of_lt_of_le (by assumption) K0.1))
            refine hK _ _ K1 ?_
            clear hK K hmc
            try simp only [Act.put, List.setIfInBounds_toArray, List.set_cons_zero, List.set_cons_succ]
            repeat (refine wpZ_pure (by rfl) (fun W hW => by go_simp; with_reducible rfl) ?_; simp only [Act.put, List.setIfInBounds_toArray, List.set_cons_zero, List.set_cons_succ])
            have hq6 := q w6 K1
            replace hBd := hBd.ext hE6
            have hf6 := hBd.frozen c.s.toNat
            have hl6 := hBd.lt
            have hBn := hBd.set c.s.toNat (.int .i64 (x + mv))
            rw [cnt_set, ← HA.out] at hBn
            have hEn := Below.setCell (hEd.trans hE6) (p := ⟨B, c.s.toNat, none⟩) (by show w.heap.size ≤ B; exact hlt) (.int .i64 (x + mv))
            have mw := HXM.out
            refine wpZ_last (by rfl) (fun K hK => ?_)
            go_simp
            refine hK _ _ ?_
            clear hK K q hq6 hf6 hl6 mw K0 K1 hBd hE6 hEd
            try simp only [Act.put, List.setIfInBounds_toArray, List.set_cons_zero, List.set_cons_succ]
            go_wp2_with fail
            go_roundw
            case rel => exact ⟨j + 1, addB cs c, by omega, by go_num, HN, hBn, hEn⟩
            case measure => simp [intOf]; omega
          · have HN : CsIs cs D L1 (j + 1) := by
              show cs = (D ++ L1.take (j + 1)).foldl addB noughts
              rw [HT.out, ← List.append_assoc, List.foldl_append, ← HD.out]
              show cs = addB cs c
              unfold addB
              rw [if_neg hin]
            clear HD HT hl8
            by_cases hi1 : 0 ≤ c.s
            · have hi2 : ¬ c.s < 8 := by omega
              go_wp2_with fail
              go_roundw
              case rel => exact ⟨j + 1, cs, by omega, by go_num, HN, hB, hE⟩
              case measure => simp [intOf]; omega
            · go_wp2_with fail
              go_roundw
              case rel => exact ⟨j + 1, cs, by omega, by go_num, HN, hB, hE⟩
              case measure => simp [intOf]; omega
        · have hjl : j = L1.length := by omega
          have HN : Hid (cs = (D ++ L1).foldl addB noughts) := by
            show _ = _
            rw [HD.out, hjl, List.take_length]
          clear HD hjl
          go_upto_block 1 with fail
          go_wp2_with fail
          go_roundw
          case rel => exact ⟨2, cs, by omega, by go_num, by show cs = _; rw [HN.out, ← HDD.out]; simp, hB, hE⟩
          case measure => simp [intOf]
    · rw [show ((2 : Nat) : Int) = 2 from rfl]
      have HD : Hid (cs = ((([] : List Isa.Cm) ++ L0 ++ L1)).foldl addB noughts) := by
        show _ = _
        rw [HC.out]
        simp
      clear HC
      have HS : Hid (Isa.Cmds w (.slice A2 L2.length d2) L2) := HC2.out
      have hdl : ((([] : List Isa.Cm) ++ L0 ++ L1)).length ≤ 200000 := by have := HL0.out; have := HL1.out; simp <;> omega
      obtain ⟨D, hD⟩ : ∃ D, (([] : List Isa.Cm) ++ L0 ++ L1) = D := ⟨_, rfl⟩
      have HDD := Lib.hid hD
      rw [hD] at HD hdl
      have hll := HL2.out
      clear hD
      go_wp2_with fail
      go_loopw [16] (fun i wr => ∃ (j : Nat) (cs : List Int), j ≤ L2.length ∧ i = .int .i64 j ∧ CsIs cs D L2 j ∧ Blk wr B (cnt cs) 3 ∧ Ext w wr) (fun i _ => L2.length - (intOf i).toNat)
      case atStart => exact ⟨0, cs, by omega, rfl, by show cs = _; rw [HD.out]; simp, hB, hE⟩
      case round =>
        clear HD hB hE
        obtain ⟨j, cs, hj, rfl, HD0, hB, hE⟩ := hrel
        have HD := Lib.hid (show cs = (D ++ L2.take j).foldl addB noughts from HD0)
        clear HD0
        by_cases hlt2 : j < L2.length
        · obtain ⟨_, _, e9, _, _, hcl⟩ := (HS.out.below hE (Nat.le_refl _)).form
          cases e9
          have hs : L2[j]? = some L2[j] := by simp [hlt2]
          obtain ⟨b, off, rfl, _, c0, c1, c2, c3, c4, c5, c6, c7, c8, c9, c10, c11, c12, c13⟩ := hcl j _ hs
          have HT : Hid (L2.take (j + 1) = L2.take j ++ [L2[j]]) := by show _ = _; rw [List.take_succ_eq_append_getElem hlt2]
          have hj2 : (L2.take j).length ≤ 100000 := by rw [List.length_take]; omega
          have HJ2 := Lib.hid hj2
          clear hcl hs hj2
          generalize L2[j] = c at *
          have hz7 := Blk.new wr #[.int .i64 0, .int .i64 0, .int .i64 0, .int .i64 0, .int .i64 0, .int .i64 0, .int .i64 0, .int .i64 0, .int .i64 0, .int .i64 0, .int .i64 0, .int .i64 0, .int .i64 0, .int .i64 0] 47
          have hb7 : Blk ((wr.alloc (.cells #[.int .i64 0, .int .i64 0, .int .i64 0, .int .i64 0, .int .i64 0, .int .i64 0, .int .i64 0, .int .i64 0, .int .i64 0, .int .i64 0, .int .i64 0, .int .i64 0, .int .i64 0, .int .i64 0] 47)).setRow wr.heap.size #[.int .i64 c.k, .int .i64 c.s, .int .i64 c.n, .int .i64 c.f, .int .i64 c.r, .int .i64 c.o, .int .i64 c.d, .int .i64 c.p, .int .i64 c.i0, .int .i64 c.i1, .int .i64 c.b0, .int .i64 c.b1, .int .i64 c.h0, .int .i64 c.h1]) wr.heap.size #[.int .i64 c.k, .int .i64 c.s, .int .i64 c.n, .int .i64 c.f, .int .i64 c.r, .int .i64 c.o, .int .i64 c.d, .int .i64 c.p, .int .i64 c.i0, .int .i64 c.i1, .int .i64 c.b0, .int .i64 c.b1, .int .i64 c.h0, .int .i64 c.h1] 47 := setRow_heap _ _ _ _ _ _ hz7
          have hQ : Ext wr ((wr.alloc (.cells #[.int .i64 0, .int .i64 0, .int .i64 0, .int .i64 0, .int .i64 0, .int .i64 0, .int .i64 0, .int .i64 0, .int .i64 0, .int .i64 0, .int .i64 0, .int .i64 0, .int .i64 0, .int .i64 0] 47)).setRow wr.heap.size #[.int .i64 c.k, .int .i64 c.s, .int .i64 c.n, .int .i64 c.f, .int .i64 c.r, .int .i64 c.o, .int .i64 c.d, .int .i64 c.p, .int .i64 c.i0, .int .i64 c.i1, .int .i64 c.b0, .int .i64 c.b1, .int .i64 c.h0, .int .i64 c.h1]) := ext_setRow (ext_alloc _ _) _ (Nat.le_refl _)
          have hne : B ≠ wr.heap.size := by have := hB.lt; omega
          go_upto_region 8 with (refine wpList_store_row rfl 47 _ _ rfl wr.heap.size #[.int .i64 c.k, .int .i64 c.s, .int .i64 c.n, .int .i64 c.f, .int .i64 c.r, .int .i64 c.o, .int .i64 c.d, .int .i64 c.p, .int .i64 c.i0, .int .i64 c.i1, .int .i64 c.b0, .int .i64 c.b1, .int .i64 c.h0, .int .i64 c.h1] rfl rfl 47 _ hz7 (by kernel_rfl) rfl (by simp [Value.oneCell']) ?_)
          clear c0 c1 c2 c3 c4 c5 c6 c7 c8 c9 c10 c11 c12 c13 hz7
          replace hB := hB.ext hQ
          replace hE := hE.trans hQ
          clear hQ
          generalize World.setRow (wr.alloc _) _ _ = w5 at *
          generalize wr.heap.size = b7 at *
          have hl8 : cs.length = 8 := by rw [HD.out, foldB_len]; rfl
          have HL8 := Lib.hid hl8
          have z1 : World.cell? w5 ⟨b7, 1, none⟩ = some (.int .i64 c.s) := hb7.cell 1
          by_cases hin : 0 ≤ c.s ∧ c.s < 8
          · have hxb := foldB_abs (D ++ L2.take j) c.s.toNat
            rw [← HD.out, List.length_append] at hxb
            have hmv : -1 ≤ movZ c ∧ movZ c ≤ 1 := by unfold movZ; split <;> (try split) <;> omega
            have hj2 := HJ2.out
            have hxb2 : -300000 ≤ cs[c.s.toNat]?.getD 0 ∧ cs[c.s.toNat]?.getD 0 ≤ 300000 := by omega
            have HN : CsIs (addB cs c) D L2 (j + 1) := by
              show addB cs c = (D ++ L2.take (j + 1)).foldl addB noughts
              rw [HT.out, ← List.append_assoc, List.foldl_append, ← HD.out]
              rfl
            have HA : Hid (addB cs c = cs.set c.s.toNat (cs[c.s.toNat]?.getD 0 + movZ c)) := by show _ = _; unfold addB; rw [if_pos hin]
            have q0 : World.cell? w5 ⟨B, c.s.toNat, none⟩ = some (.int .i64 (cs[c.s.toNat]?.getD 0)) := by rw [hB.cell]; exact cnt_get cs _ (by omega)
            have hmc := fun W => moves_calls c W
            have HXM : Hid (IntKind.i64.wrap (cs[c.s.toNat]?.getD 0 + movZ c) = cs[c.s.toNat]?.getD 0 + movZ c) := IntWalk.i64_in _ (by omega)
            generalize cs[c.s.toNat]?.getD 0 = x at *
            generalize movZ c = mv at *
            have hi1 := hin.1
            have hi2 := hin.2
            clear hxb hmv hxb2 hin HD HT hj2 hl8
            go_upto_region 9 with fail
            clear z1
            have K0 : Keeps [B, b7] w5 w5.drew := Keeps.drew _ _
            have hBd := hB.ext (Ext.drew w5)
            have hEd := hE.trans (Ext.drew w5)
            have q : ∀ W, Keeps [B, b7] w5 W → World.cell? W ⟨B, c.s.toNat, none⟩ = some (.int .i64 x) := fun W hW => (hW.cell (by simp)).trans q0
            have r0 : ∀ W, Keeps [B, b7] w5 W → World.cell? W ⟨b7, 0, none⟩ = some (.int .i64 c.k) := fun W hW => (hW.cell (by simp)).trans (hb7.cell 0)
            have r1 : ∀ W, Keeps [B, b7] w5 W → World.cell? W ⟨b7, 1, none⟩ = some (.int .i64 c.s) := fun W hW => (hW.cell (by simp)).trans (hb7.cell 1)
            have r2 : ∀ W, Keeps [B, b7] w5 W → World.cell? W ⟨b7, 2, none⟩ = some (.int .i64 c.n) := fun W hW => (hW.cell (by simp)).trans (hb7.cell 2)
            have r3 : ∀ W, Keeps [B, b7] w5 W → World.cell? W ⟨b7, 3, none⟩ = some (.int .i64 c.f) := fun W hW => (hW.cell (by simp)).trans (hb7.cell 3)
            have r4 : ∀ W, Keeps [B, b7] w5 W → World.cell? W ⟨b7, 4, none⟩ = some (.int .i64 c.r) := fun W hW => (hW.cell (by simp)).trans (hb7.cell 4)
            have r5 : ∀ W, Keeps [B, b7] w5 W → World.cell? W ⟨b7, 5, none⟩ = some (.int .i64 c.o) := fun W hW => (hW.cell (by simp)).trans (hb7.cell 5)
            have r6 : ∀ W, Keeps [B, b7] w5 W → World.cell? W ⟨b7, 6, none⟩ = some (.int .i64 c.d) := fun W hW => (hW.cell (by simp)).trans (hb7.cell 6)
            have r7 : ∀ W, Keeps [B, b7] w5 W → World.cell? W ⟨b7, 7, none⟩ = some (.int .i64 c.p) := fun W hW => (hW.cell (by simp)).trans (hb7.cell 7)
            have r8 : ∀ W, Keeps [B, b7] w5 W → World.cell? W ⟨b7, 8, none⟩ = some (.int .i64 c.i0) := fun W hW => (hW.cell (by simp)).trans (hb7.cell 8)
            have r9 : ∀ W, Keeps [B, b7] w5 W → World.cell? W ⟨b7, 9, none⟩ = some (.int .i64 c.i1) := fun W hW => (hW.cell (by simp)).trans (hb7.cell 9)
            have r10 : ∀ W, Keeps [B, b7] w5 W → World.cell? W ⟨b7, 10, none⟩ = some (.int .i64 c.b0) := fun W hW => (hW.cell (by simp)).trans (hb7.cell 10)
            have r11 : ∀ W, Keeps [B, b7] w5 W → World.cell? W ⟨b7, 11, none⟩ = some (.int .i64 c.b1) := fun W hW => (hW.cell (by simp)).trans (hb7.cell 11)
            have r12 : ∀ W, Keeps [B, b7] w5 W → World.cell? W ⟨b7, 12, none⟩ = some (.int .i64 c.h0) := fun W hW => (hW.cell (by simp)).trans (hb7.cell 12)
            have r13 : ∀ W, Keeps [B, b7] w5 W → World.cell? W ⟨b7, 13, none⟩ = some (.int .i64 c.h1) := fun W hW => (hW.cell (by simp)).trans (hb7.cell 13)
            have hb7l := hb7.lt
            have hBl := hB.lt
            refine wp_region_Z (Keeps [B, b7] w5) 9 [(0, true), (1, true), (2, true), (3, true), (4, true), (5, true), (6, false), (7, true), (8, true), (9, false)] (by kernel_rfl) (by kernel_rfl) (fun _ _ d _ _ h => by cases d <;> exact h) K0 ?_
            simp only [pickE, List.getElem?_cons_zero, List.getElem?_cons_succ]
            repeat (refine wpZ_pure (by rfl) (fun W hW => by go_simp; with_reducible rfl) ?_; simp only [Act.put, List.setIfInBounds_toArray, List.set_cons_zero, List.set_cons_succ])
            generalize w5.drew = wd at *
            refine wpZ_step (by rfl) (fun K hK => ?_)
            go_simp
            refine (hmc wd).mono ?_
            rintro e w6 ⟨rfl, hE6⟩
            have hE6 : Ext wd w6 := hE6
            have K1 : Keeps [B, b7] w5 w6 := K0.trans (Keeps.below hE6 (fun q hq => by simp at hq; rcases hq with rfl | rfl <;> exact Nat.lt_of_lt_of_le (by assumption) K0.1))
            refine hK _ _ K1 ?_
            clear hK K hmc
            try simp only [Act.put, List.setIfInBounds_toArray, List.set_cons_zero, List.set_cons_succ]
            repeat (refine wpZ_pure (by rfl) (fun W hW => by go_simp; with_reducible rfl) ?_; simp only [Act.put, List.setIfInBounds_toArray, List.set_cons_zero, List.set_cons_succ])
            have hq6 := q w6 K1
            replace hBd := hBd.ext hE6
            have hf6 := hBd.frozen c.s.toNat
            have hl6 := hBd.lt
            have hBn := hBd.set c.s.toNat (.int .i64 (x + mv))
            rw [cnt_set, ← HA.out] at hBn
            have hEn := Below.setCell (hEd.trans hE6) (p := ⟨B, c.s.toNat, none⟩) (by show w.heap.size ≤ B; exact hlt) (.int .i64 (x + mv))
            have mw := HXM.out
            refine wpZ_last (by rfl) (fun K hK => ?_)
            go_simp
            refine hK _ _ ?_
            clear hK K q hq6 hf6 hl6 mw K0 K1 hBd hE6 hEd
            try simp only [Act.put, List.setIfInBounds_toArray, List.set_cons_zero, List.set_cons_succ]
            go_wp2_with fail
            go_roundw
            case rel => exact ⟨j + 1, addB cs c, by omega, by go_num, HN, hBn, hEn⟩
            case measure => simp [intOf]; omega
          · have HN : CsIs cs D L2 (j + 1) := by
              show cs = (D ++ L2.take (j + 1)).foldl addB noughts
              rw [HT.out, ← List.append_assoc, List.foldl_append, ← HD.out]
              show cs = addB cs c
              unfold addB
              rw [if_neg hin]
            clear HD HT hl8
            by_cases hi1 : 0 ≤ c.s
            · have hi2 : ¬ c.s < 8 := by omega
              go_wp2_with fail
              go_roundw
              case rel => exact ⟨j + 1, cs, by omega, by go_num, HN, hB, hE⟩
              case measure => simp [intOf]; omega
            · go_wp2_with fail
              go_roundw
              case rel => exact ⟨j + 1, cs, by omega, by go_num, HN, hB, hE⟩
              case measure => simp [intOf]; omega
        · have hjl : j = L2.length := by omega
          have HN : Hid (cs = (D ++ L2).foldl addB noughts) := by
            show _ = _
            rw [HD.out, hjl, List.take_length]
          clear HD hjl
          go_upto_block 1 with fail
          go_wp2_with fail
          go_roundw
          case rel => exact ⟨3, cs, by omega, by go_num, by show cs = _; rw [HN.out, ← HDD.out]; simp, hB, hE⟩
          case measure => simp [intOf]
    · have HN : Hid (cs = ([] ++ L0 ++ L1 ++ L2).foldl addB noughts) := by
        show _ = _
        rw [HC.out]
        rfl
      rw [← HZ.out] at HN
      have hl8 : cs.length = 8 := by rw [HN.out, HZ.out, foldB_len]; rfl
      have hI := ints_of_blk hB (by rw [hl8]; unfold maxLen; omega)
      rw [hl8] at hI
      rw [HN.out] at hI
      have HX := Lib.hid (HP.out _ _ hI hE)
      clear HC hl8 hI
      go_wp2_with fail
      exact HX.out

end Go.Proofs.Ytmddlhfahfelpaa
