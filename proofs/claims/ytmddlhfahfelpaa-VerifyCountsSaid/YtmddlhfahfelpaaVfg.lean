/- The walk of verify.Streams. -/
import Derived.Test.YtmddlhfahfelpaaVfe
import Derived.Test.YtmddlhfahfelpaaRgk
set_option linter.unusedSimpArgs false
set_option linter.unusedVariables false
set_option linter.unnecessarySimpa false
namespace Go.Proofs.Ytmddlhfahfelpaa
set_option maxRecDepth 10000
open Go.RowKit

theorem streams1_calls (v : Value) (l : List Isa.Cm) (w : World) (hv : Isa.Cmds w v l) : Calls Try.prog 21 #[v] w fun e w' => e = .returned (.bool (!haltB l)) ∧ Ext w w' := by
  have hc := halts_calls v l w hv
  go_enter Try.func21, Try.ntmps21
  go_wp2_with fail
  refine hc.mono ?_
  rintro e w1 ⟨rfl, hE⟩
  have HE := Lib.hid hE
  go_wp2_with fail
  go_ret
  exact ⟨rfl, HE.out⟩

/-- What is still to be found, from stream k on. -/
def restE (g : Gr) (pl : List Int) (A B C : List Isa.Cm) (k : Nat) : Int :=
  if k = 0 then (if rowErr g pl 0 A ≠ 0 then rowErr g pl 0 A else if rowErr g pl 1 B ≠ 0 then rowErr g pl 1 B else rowErr g pl 2 C)
  else if k = 1 then (if rowErr g pl 1 B ≠ 0 then rowErr g pl 1 B else rowErr g pl 2 C)
  else if k = 2 then rowErr g pl 2 C else 0
theorem restE_0 (g : Gr) (pl : List Int) (A B C : List Isa.Cm) : restE g pl A B C 0 = if rowErr g pl 0 A ≠ 0 then rowErr g pl 0 A else restE g pl A B C 1 := rfl
theorem restE_1 (g : Gr) (pl : List Int) (A B C : List Isa.Cm) : restE g pl A B C 1 = if rowErr g pl 1 B ≠ 0 then rowErr g pl 1 B else restE g pl A B C 2 := rfl
theorem restE_2 (g : Gr) (pl : List Int) (A B C : List Isa.Cm) : restE g pl A B C 2 = if rowErr g pl 2 C ≠ 0 then rowErr g pl 2 C else restE g pl A B C 3 := by
  show rowErr g pl 2 C = if rowErr g pl 2 C ≠ 0 then rowErr g pl 2 C else 0
  split
  · rfl
  · rename_i h; simpa using h
theorem restE_3 (g : Gr) (pl : List Int) (A B C : List Isa.Cm) : restE g pl A B C 3 = 0 := rfl
/-- The same within a stream. -/
def inE (g : Gr) (pl : List Int) (k : Int) (z0 : Int) (l : List Isa.Cm) : Int := if rowErr g pl k l ≠ 0 then rowErr g pl k l else z0
theorem inE_nil (g : Gr) (pl : List Int) (k z0 : Int) : inE g pl k z0 [] = z0 := rfl
theorem inE_bad (g : Gr) (pl : List Int) (k z0 : Int) (L : List Isa.Cm) (j : Nat) (h : j < L.length) (hb : cmErr g pl k L[j] ≠ 0) : inE g pl k z0 (L.drop j) = cmErr g pl k L[j] := by
  rw [List.drop_eq_getElem_cons h, inE, rowErr_cons, if_pos hb, if_pos hb]
theorem inE_good (g : Gr) (pl : List Int) (k z0 : Int) (L : List Isa.Cm) (j : Nat) (h : j < L.length) (hb : cmErr g pl k L[j] = 0) : inE g pl k z0 (L.drop j) = inE g pl k z0 (L.drop (j + 1)) := by
  rw [List.drop_eq_getElem_cons h, inE, rowErr_cons, if_neg (show ¬ cmErr g pl k L[j] ≠ 0 from fun h => h hb)]
  rfl
theorem cmErr_eng {g : Gr} {pl : List Int} {k : Int} {c : Isa.Cm} (h0 : 0 ≤ engineZ c) (h : engineZ c ≠ k) : cmErr g pl k c = 27 := by unfold cmErr; rw [if_pos ⟨h0, h⟩]
theorem cmErr_of {g : Gr} {pl : List Int} {k : Int} {c : Isa.Cm} (h : ¬ (0 ≤ engineZ c ∧ engineZ c ≠ k)) : cmErr g pl k c = (ofR g pl c).2 := by unfold cmErr; rw [if_neg h]

set_option maxRecDepth 20000 in
set_option maxHeartbeats 6400000 in
theorem streams_calls (g : Gr) (pV s0 s1 s2 : Value) (pl : List Int) (L0 L1 L2 : List Isa.Cm) (w : World) (hg : GrAt w g) (hp : Ints .i64 w pV pl) (hpk : ∀ z ∈ pl, InK .i64 z)
    (h0 : Isa.Cmds w s0 L0) (h1 : Isa.Cmds w s1 L1) (h2 : Isa.Cmds w s2 L2) :
    Calls Try.prog 12 #[.agg #[g.iV, g.nV, g.oV, pV, s0, s1, s2]] w (MayP (streamsZ g pl L0 L1 L2) w) := by
  have HZ : Hid (streamsZ g pl L0 L1 L2 = if mayI g pl L0 L1 L2 ≠ 0 then mayI g pl L0 L1 L2 else if (haltB L0 && haltB L1 && haltB L2) = false then 27 else restE g pl L0 L1 L2 0) := rfl
  generalize streamsZ g pl L0 L1 L2 = mz at *
  have HP : Hid (∀ (z : Int) w', z = mz → Ext w w' → MayP mz w (.returned (.int .i64 z)) w') := fun z w' h1 h2 => ⟨by rw [h1], h2⟩
  generalize MayP mz w = PP at *
  have HG := Lib.hid (And.intro hg (And.intro hp hpk))
  obtain ⟨A0, d0, e0, m0, n0, _⟩ := id h0.form
  have HC0 := Lib.hid h0
  obtain ⟨A1, d1, e1, m1, n1, _⟩ := id h1.form
  have HC1 := Lib.hid h1
  obtain ⟨A2, d2, e2, m2, n2, _⟩ := id h2.form
  have HC2 := Lib.hid h2
  unfold maxLen at n0 n1 n2
  subst e0 e1 e2
  clear h0 h1 h2 hg hp hpk
  have hb1 := Blk.new w #[g.iV, g.nV, g.oV, pV, .slice A0 L0.length d0, .slice A1 L1.length d1, .slice A2 L2.length d2] 30
  have hE1 := ext_alloc w (.cells #[g.iV, g.nV, g.oV, pV, .slice A0 L0.length d0, .slice A1 L1.length d1, .slice A2 L2.length d2] 30)
  have HB : Hid (w.heap.size ≤ w.heap.size) := Nat.le_refl _
  go_enter Try.func12, Try.ntmps12
  go_upto_region 1 with fail
  generalize World.alloc w _ = w1 at *
  obtain ⟨B, hBe⟩ : ∃ B, w.heap.size = B := ⟨_, rfl⟩
  rw [hBe] at hb1 ⊢
  clear hBe HB
  have y0 : World.cell? w1 ⟨B, 0, none⟩ = some (g.iV) := hb1.cell 0
  have y1 : World.cell? w1 ⟨B, 1, none⟩ = some (g.nV) := hb1.cell 1
  have y2 : World.cell? w1 ⟨B, 2, none⟩ = some (g.oV) := hb1.cell 2
  have y3 : World.cell? w1 ⟨B, 3, none⟩ = some (pV) := hb1.cell 3
  have y4 : World.cell? w1 ⟨B, 4, none⟩ = some (.slice A0 L0.length d0) := hb1.cell 4
  have y5 : World.cell? w1 ⟨B, 5, none⟩ = some (.slice A1 L1.length d1) := hb1.cell 5
  have y6 : World.cell? w1 ⟨B, 6, none⟩ = some (.slice A2 L2.length d2) := hb1.cell 6
  have hmay := imay_calls g pV (.slice A0 L0.length d0) (.slice A1 L1.length d1) (.slice A2 L2.length d2) pl L0 L1 L2 w1 (HG.out.1.ext hE1) (HG.out.2.1.ext hE1) HG.out.2.2 (HC0.out.below hE1 (Nat.le_refl _)) (HC1.out.below hE1 (Nat.le_refl _)) (HC2.out.below hE1 (Nat.le_refl _))
  unfold MayP at hmay
  go_wp2_with fail
  refine hmay.mono ?_
  rintro e w2 ⟨rfl, hE2⟩
  have hE2 : Ext w1 w2 := hE2
  replace hb1 := hb1.ext hE2
  replace hE1 := hE1.trans hE2
  clear y0 y1 y2 y3 y4 y5 y6 hmay hE2
  by_cases hm : mayI g pl L0 L1 L2 = 0
  case neg =>
    have hnz : (mayI g pl L0 L1 L2 != 0) = true := by simpa using hm
    have HZ1 : Hid (mayI g pl L0 L1 L2 = mz) := by show _ = _; rw [HZ.out, if_pos hm]
    generalize mayI g pl L0 L1 L2 = z at *
    clear hm
    have HE := Lib.hid hE1
    clear hb1 hE1
    go_wp2_with fail
    exact HP.out _ _ HZ1.out HE.out
  rw [if_neg (by rw [hm]; simp)] at HZ
  rw [hm]
  clear hm
  have y0 : World.cell? w2 ⟨B, 0, none⟩ = some (g.iV) := hb1.cell 0
  have y1 : World.cell? w2 ⟨B, 1, none⟩ = some (g.nV) := hb1.cell 1
  have y2 : World.cell? w2 ⟨B, 2, none⟩ = some (g.oV) := hb1.cell 2
  have y3 : World.cell? w2 ⟨B, 3, none⟩ = some (pV) := hb1.cell 3
  have y4 : World.cell? w2 ⟨B, 4, none⟩ = some (.slice A0 L0.length d0) := hb1.cell 4
  have y5 : World.cell? w2 ⟨B, 5, none⟩ = some (.slice A1 L1.length d1) := hb1.cell 5
  have y6 : World.cell? w2 ⟨B, 6, none⟩ = some (.slice A2 L2.length d2) := hb1.cell 6
  have hcn := contains3_calls 21 #[] B 4 (.slice A0 L0.length d0) (.slice A1 L1.length d1) (.slice A2 L2.length d2) (!haltB L0) (!haltB L1) (!haltB L2) w2 y4 y5 y6 (enters_of Try.func21 (by kernel_rfl) rfl)
    (fun W e => streams1_calls _ L0 W (HC0.out.below (hE1.trans e) (Nat.le_refl _))) (fun W e => streams1_calls _ L1 W (HC1.out.below (hE1.trans e) (Nat.le_refl _))) (fun W e => streams1_calls _ L2 W (HC2.out.below (hE1.trans e) (Nat.le_refl _)))
  have hhb : (!haltB L0 || !haltB L1 || !haltB L2) = !(haltB L0 && haltB L1 && haltB L2) := by cases haltB L0 <;> cases haltB L1 <;> cases haltB L2 <;> rfl
  rw [hhb] at hcn
  clear hhb y0 y1 y2 y3 y4 y5 y6
  go_wp2_with fail
  refine hcn.mono ?_
  rintro e w3 ⟨rfl, hE3⟩
  have hE3 : Ext w2 w3 := hE3
  replace hb1 := hb1.ext hE3
  replace hE1 := hE1.trans hE3
  clear hcn hE3
  generalize (haltB L0 && haltB L1 && haltB L2) = hq at *
  cases hq with
  | false =>
    have HZ1 := Lib.hid (show 27 = mz by rw [HZ.out, if_pos rfl])
    have HE := Lib.hid hE1
    clear hb1 hE1 HZ
    go_wp2_with fail
    exact HP.out _ _ HZ1.out HE.out
  | true =>
    rw [if_neg (by simp)] at HZ
    have y0 : World.cell? w3 ⟨B, 0, none⟩ = some (g.iV) := hb1.cell 0
    have y1 : World.cell? w3 ⟨B, 1, none⟩ = some (g.nV) := hb1.cell 1
    have y2 : World.cell? w3 ⟨B, 2, none⟩ = some (g.oV) := hb1.cell 2
    have y3 : World.cell? w3 ⟨B, 3, none⟩ = some (pV) := hb1.cell 3
    have y4 : World.cell? w3 ⟨B, 4, none⟩ = some (.slice A0 L0.length d0) := hb1.cell 4
    have y5 : World.cell? w3 ⟨B, 5, none⟩ = some (.slice A1 L1.length d1) := hb1.cell 5
    have y6 : World.cell? w3 ⟨B, 6, none⟩ = some (.slice A2 L2.length d2) := hb1.cell 6
    go_wp2_with fail
    clear y0 y1 y2 y3 y4 y5 y6
    have HE1 := Lib.hid hE1
    have HB1 := Lib.hid hb1
    clear hE1 hb1
    have x0 : ∀ W : World, (Instr.index 28 (.agg #[.slice A0 L0.length d0, .slice A1 L1.length d1, .slice A2 L2.length d2]) (.int .i64 0)).run Try.prog W = .ok (.slice A0 L0.length d0) W := fun _ => by kernel_rfl
    have x1 : ∀ W : World, (Instr.index 28 (.agg #[.slice A0 L0.length d0, .slice A1 L1.length d1, .slice A2 L2.length d2]) (.int .i64 1)).run Try.prog W = .ok (.slice A1 L1.length d1) W := fun _ => by kernel_rfl
    have x2 : ∀ W : World, (Instr.index 28 (.agg #[.slice A0 L0.length d0, .slice A1 L1.length d1, .slice A2 L2.length d2]) (.int .i64 2)).run Try.prog W = .ok (.slice A2 L2.length d2) W := fun _ => by kernel_rfl
    go_loopw [21] (fun i wr => ∃ k : Nat, k ≤ 3 ∧ i = .int .i64 k ∧ Hid (mz = restE g pl L0 L1 L2 k) ∧ Ext w3 wr) (fun i _ => 3 - (intOf i).toNat)
    case atStart => exact ⟨0, by omega, rfl, HZ, Ext.refl _⟩
    case round =>
      clear HZ
      obtain ⟨k, hk, rfl, HZ, hE⟩ := hrel
      rcases (by omega : k = 0 ∨ k = 1 ∨ k = 2 ∨ k = 3) with rfl | rfl | rfl | rfl
      · rw [show ((0 : Nat) : Int) = 0 from rfl]
        rw [restE_0] at HZ
        have HI0 : Hid (mz = inE g pl 0 (restE g pl L0 L1 L2 1) L0) := HZ.out
        clear HZ
        obtain ⟨z0, hz0⟩ : ∃ z, restE g pl L0 L1 L2 1 = z := ⟨_, rfl⟩
        rw [hz0] at HI0
        have HZ0 := Lib.hid hz0
        have HS : Hid (Isa.Cmds w (.slice A0 L0.length d0) L0) := HC0.out
        clear hz0
        go_wp2_with fail
        go_loopw [27] (fun i wr => ∃ j : Nat, j ≤ L0.length ∧ i = .int .i64 j ∧ Hid (mz = inE g pl 0 z0 (L0.drop j)) ∧ Ext w3 wr) (fun i _ => L0.length - (intOf i).toNat)
        case atStart => exact ⟨0, by omega, rfl, by rw [List.drop_zero]; exact HI0, hE⟩
        case round =>
          clear HI0 hE
          obtain ⟨j, hj, rfl, HI, hEr⟩ := hrel
          by_cases hlt2 : j < L0.length
          case neg =>
            have hjl : j = L0.length := by omega
            have HN : Hid (mz = restE g pl L0 L1 L2 1) := by
              show _ = _
              rw [HI.out, hjl, List.drop_length, inE_nil, HZ0.out]
            clear hjl HI
            go_upto_block 1 with fail
            go_wp2_with fail
            go_roundw
            case rel => exact ⟨1, by omega, by go_num, HN, hEr⟩
            case measure => simp [intOf]
          obtain ⟨_, _, e9, _, _, hcl⟩ := (HS.out.below (HE1.out.trans hEr) (Nat.le_refl _)).form
          cases e9
          have hs : L0[j]? = some L0[j] := by simp [hlt2]
          obtain ⟨b, off, rfl, _, c0, c1, c2, c3, c4, c5, c6, c7, c8, c9, c10, c11, c12, c13⟩ := hcl j _ hs
          have HBad := Lib.hid (fun hb => inE_bad g pl 0 z0 L0 j hlt2 hb)
          have HGood := Lib.hid (fun hb => inE_good g pl 0 z0 L0 j hlt2 hb)
          rw [← HI.out] at HBad HGood
          clear hcl hs
          generalize L0[j] = c at *
          have hz7 := Blk.new wr #[.int .i64 0, .int .i64 0, .int .i64 0, .int .i64 0, .int .i64 0, .int .i64 0, .int .i64 0, .int .i64 0, .int .i64 0, .int .i64 0, .int .i64 0, .int .i64 0, .int .i64 0, .int .i64 0] 47
          have hb7 : Blk ((wr.alloc (.cells #[.int .i64 0, .int .i64 0, .int .i64 0, .int .i64 0, .int .i64 0, .int .i64 0, .int .i64 0, .int .i64 0, .int .i64 0, .int .i64 0, .int .i64 0, .int .i64 0, .int .i64 0, .int .i64 0] 47)).setRow wr.heap.size #[.int .i64 c.k, .int .i64 c.s, .int .i64 c.n, .int .i64 c.f, .int .i64 c.r, .int .i64 c.o, .int .i64 c.d, .int .i64 c.p, .int .i64 c.i0, .int .i64 c.i1, .int .i64 c.b0, .int .i64 c.b1, .int .i64 c.h0, .int .i64 c.h1]) wr.heap.size #[.int .i64 c.k, .int .i64 c.s, .int .i64 c.n, .int .i64 c.f, .int .i64 c.r, .int .i64 c.o, .int .i64 c.d, .int .i64 c.p, .int .i64 c.i0, .int .i64 c.i1, .int .i64 c.b0, .int .i64 c.b1, .int .i64 c.h0, .int .i64 c.h1] 47 := setRow_heap _ _ _ _ _ _ hz7
          have hQ : Ext wr ((wr.alloc (.cells #[.int .i64 0, .int .i64 0, .int .i64 0, .int .i64 0, .int .i64 0, .int .i64 0, .int .i64 0, .int .i64 0, .int .i64 0, .int .i64 0, .int .i64 0, .int .i64 0, .int .i64 0, .int .i64 0] 47)).setRow wr.heap.size #[.int .i64 c.k, .int .i64 c.s, .int .i64 c.n, .int .i64 c.f, .int .i64 c.r, .int .i64 c.o, .int .i64 c.d, .int .i64 c.p, .int .i64 c.i0, .int .i64 c.i1, .int .i64 c.b0, .int .i64 c.b1, .int .i64 c.h0, .int .i64 c.h1]) := ext_setRow (ext_alloc _ _) _ (Nat.le_refl _)
          go_upto_region 12 with (refine wpList_store_row rfl 47 _ _ rfl wr.heap.size #[.int .i64 c.k, .int .i64 c.s, .int .i64 c.n, .int .i64 c.f, .int .i64 c.r, .int .i64 c.o, .int .i64 c.d, .int .i64 c.p, .int .i64 c.i0, .int .i64 c.i1, .int .i64 c.b0, .int .i64 c.b1, .int .i64 c.h0, .int .i64 c.h1] rfl rfl 47 _ hz7 (by kernel_rfl) rfl (by simp [Value.oneCell']) ?_)
          clear c0 c1 c2 c3 c4 c5 c6 c7 c8 c9 c10 c11 c12 c13 hz7
          have hE5 := hEr.trans hQ
          clear hQ hEr
          generalize World.setRow (wr.alloc _) _ _ = w5 at *
          generalize wr.heap.size = b7 at *
          have r0 : World.cell? w5 ⟨b7, 0, none⟩ = some (.int .i64 c.k) := hb7.cell 0
          have r1 : World.cell? w5 ⟨b7, 1, none⟩ = some (.int .i64 c.s) := hb7.cell 1
          have r2 : World.cell? w5 ⟨b7, 2, none⟩ = some (.int .i64 c.n) := hb7.cell 2
          have r3 : World.cell? w5 ⟨b7, 3, none⟩ = some (.int .i64 c.f) := hb7.cell 3
          have r4 : World.cell? w5 ⟨b7, 4, none⟩ = some (.int .i64 c.r) := hb7.cell 4
          have r5 : World.cell? w5 ⟨b7, 5, none⟩ = some (.int .i64 c.o) := hb7.cell 5
          have r6 : World.cell? w5 ⟨b7, 6, none⟩ = some (.int .i64 c.d) := hb7.cell 6
          have r7 : World.cell? w5 ⟨b7, 7, none⟩ = some (.int .i64 c.p) := hb7.cell 7
          have r8 : World.cell? w5 ⟨b7, 8, none⟩ = some (.int .i64 c.i0) := hb7.cell 8
          have r9 : World.cell? w5 ⟨b7, 9, none⟩ = some (.int .i64 c.i1) := hb7.cell 9
          have r10 : World.cell? w5 ⟨b7, 10, none⟩ = some (.int .i64 c.b0) := hb7.cell 10
          have r11 : World.cell? w5 ⟨b7, 11, none⟩ = some (.int .i64 c.b1) := hb7.cell 11
          have r12 : World.cell? w5 ⟨b7, 12, none⟩ = some (.int .i64 c.h0) := hb7.cell 12
          have r13 : World.cell? w5 ⟨b7, 13, none⟩ = some (.int .i64 c.h1) := hb7.cell 13
          have heng := engine_calls c w5
          go_wp2_with fail
          refine heng.mono ?_
          rintro e w6 ⟨rfl, hE6⟩
          have hE6 : Ext w5 w6 := hE6
          replace hE5 := hE5.trans hE6
          replace hb7 := hb7.ext hE6
          clear r0 r1 r2 r3 r4 r5 r6 r7 r8 r9 r10 r11 r12 r13 heng hE6
          have hofc := regOf_calls g pV (.slice (some ⟨b, off, none⟩) L0.length d0) (.slice A1 L1.length d1) (.slice A2 L2.length d2) pl c w6 (HG.out.1.ext (HE1.out.trans hE5)) (HG.out.2.1.ext (HE1.out.trans hE5))
          unfold OfPost at hofc
          have HEng := Lib.hid (fun h0 h => cmErr_eng (g := g) (pl := pl) (k := 0) (c := c) h0 h)
          have HOf := Lib.hid (fun h => cmErr_of (g := g) (pl := pl) (k := 0) (c := c) h)
          have hb6 := HB1.out.ext hE5
          have r0 : World.cell? w6 ⟨b7, 0, none⟩ = some (.int .i64 c.k) := hb7.cell 0
          have r1 : World.cell? w6 ⟨b7, 1, none⟩ = some (.int .i64 c.s) := hb7.cell 1
          have r2 : World.cell? w6 ⟨b7, 2, none⟩ = some (.int .i64 c.n) := hb7.cell 2
          have r3 : World.cell? w6 ⟨b7, 3, none⟩ = some (.int .i64 c.f) := hb7.cell 3
          have r4 : World.cell? w6 ⟨b7, 4, none⟩ = some (.int .i64 c.r) := hb7.cell 4
          have r5 : World.cell? w6 ⟨b7, 5, none⟩ = some (.int .i64 c.o) := hb7.cell 5
          have r6 : World.cell? w6 ⟨b7, 6, none⟩ = some (.int .i64 c.d) := hb7.cell 6
          have r7 : World.cell? w6 ⟨b7, 7, none⟩ = some (.int .i64 c.p) := hb7.cell 7
          have r8 : World.cell? w6 ⟨b7, 8, none⟩ = some (.int .i64 c.i0) := hb7.cell 8
          have r9 : World.cell? w6 ⟨b7, 9, none⟩ = some (.int .i64 c.i1) := hb7.cell 9
          have r10 : World.cell? w6 ⟨b7, 10, none⟩ = some (.int .i64 c.b0) := hb7.cell 10
          have r11 : World.cell? w6 ⟨b7, 11, none⟩ = some (.int .i64 c.b1) := hb7.cell 11
          have r12 : World.cell? w6 ⟨b7, 12, none⟩ = some (.int .i64 c.h0) := hb7.cell 12
          have r13 : World.cell? w6 ⟨b7, 13, none⟩ = some (.int .i64 c.h1) := hb7.cell 13
          have y0 : World.cell? w6 ⟨B, 0, none⟩ = some (g.iV) := hb6.cell 0
          have y1 : World.cell? w6 ⟨B, 1, none⟩ = some (g.nV) := hb6.cell 1
          have y2 : World.cell? w6 ⟨B, 2, none⟩ = some (g.oV) := hb6.cell 2
          have y3 : World.cell? w6 ⟨B, 3, none⟩ = some (pV) := hb6.cell 3
          have y4 : World.cell? w6 ⟨B, 4, none⟩ = some (.slice (some ⟨b, off, none⟩) L0.length d0) := hb6.cell 4
          have y5 : World.cell? w6 ⟨B, 5, none⟩ = some (.slice A1 L1.length d1) := hb6.cell 5
          have y6 : World.cell? w6 ⟨B, 6, none⟩ = some (.slice A2 L2.length d2) := hb6.cell 6
          clear hb6 hb7
          generalize engineZ c = ez at *
          obtain ⟨rr, hrr⟩ : ∃ rr, ofR g pl c = rr := ⟨_, rfl⟩
          rw [hrr] at hofc HOf
          clear hrr
          generalize cmErr g pl 0 c = ce at *
          have HE5 := Lib.hid hE5
          clear hE5
          by_cases hq : 0 ≤ ez ∧ ez ≠ 0
          case pos =>
            have q1 : decide (0 ≤ ez) = true := decide_eq_true hq.1
            have q2 : (ez != 0) = true := by rw [bne_iff_ne]; exact hq.2
            have HZ1 := Lib.hid (show 27 = mz by have h := HEng.out hq.1 hq.2; rw [HBad.out (by rw [h]; decide), h])
            clear hq HBad HGood HEng HOf hofc
            go_wp2_with fail
            exact HP.out _ _ HZ1.out (HE1.out.trans HE5.out)
          have HOf1 := Lib.hid (HOf.out hq)
          clear HOf HEng
          have HNext : Hid (rr.2 ≠ 0 → rr.2 = mz) := by
            show _ → _
            intro h
            rw [HBad.out (by rw [HOf1.out]; exact h), HOf1.out]
          have HGo : Hid (rr.2 = 0 → mz = inE g pl 0 z0 (L0.drop (j + 1))) := by
            show _ → _
            intro h
            exact HGood.out (by rw [HOf1.out]; exact h)
          clear HBad HGood HOf1
          have hgo : ∀ (q : Bool), decide (0 ≤ ez) = q → (q = true → (ez != 0) = false) := by
            intro q h1 h2
            rw [bne_eq_false_iff_eq]
            exact Decidable.byContradiction fun h => hq ⟨of_decide_eq_true (by rw [h1, h2]), h⟩
          have HQ := Lib.hid hgo
          clear hgo hq
          cases q1 : decide (0 ≤ ez)
          all_goals
            first | have q2 := HQ.out _ q1 rfl | skip
            go_wp2_with fail
            refine hofc.mono ?_
            rintro e w7 ⟨vv, rfl, _, hE7⟩
            have HE7 := Lib.hid (HE5.out.trans hE7)
            clear hE7 hofc r0 r1 r2 r3 r4 r5 r6 r7 r8 r9 r10 r11 r12 r13 y0 y1 y2 y3 y4 y5 y6 HQ
            by_cases hz : rr.2 = 0
            · have HN := Lib.hid (HGo.out hz)
              rw [hz]
              clear hz HNext HGo
              go_wp2_with fail
              go_roundw
              case rel => exact ⟨j + 1, by omega, by go_num, HN, HE7.out⟩
              case measure => simp [intOf]; omega
            · have hnz : (rr.2 != 0) = true := by simpa using hz
              have HZ1 := Lib.hid (HNext.out hz)
              generalize rr.2 = rz at *
              clear hz HNext HGo
              go_wp2_with fail
              exact HP.out _ _ HZ1.out (HE1.out.trans HE7.out)
      · rw [show ((1 : Nat) : Int) = 1 from rfl]
        rw [restE_1] at HZ
        have HI0 : Hid (mz = inE g pl 1 (restE g pl L0 L1 L2 2) L1) := HZ.out
        clear HZ
        obtain ⟨z0, hz0⟩ : ∃ z, restE g pl L0 L1 L2 2 = z := ⟨_, rfl⟩
        rw [hz0] at HI0
        have HZ0 := Lib.hid hz0
        have HS : Hid (Isa.Cmds w (.slice A1 L1.length d1) L1) := HC1.out
        clear hz0
        go_wp2_with fail
        go_loopw [27] (fun i wr => ∃ j : Nat, j ≤ L1.length ∧ i = .int .i64 j ∧ Hid (mz = inE g pl 1 z0 (L1.drop j)) ∧ Ext w3 wr) (fun i _ => L1.length - (intOf i).toNat)
        case atStart => exact ⟨0, by omega, rfl, by rw [List.drop_zero]; exact HI0, hE⟩
        case round =>
          clear HI0 hE
          obtain ⟨j, hj, rfl, HI, hEr⟩ := hrel
          by_cases hlt2 : j < L1.length
          case neg =>
            have hjl : j = L1.length := by omega
            have HN : Hid (mz = restE g pl L0 L1 L2 2) := by
              show _ = _
              rw [HI.out, hjl, List.drop_length, inE_nil, HZ0.out]
            clear hjl HI
            go_upto_block 1 with fail
            go_wp2_with fail
            go_roundw
            case rel => exact ⟨2, by omega, by go_num, HN, hEr⟩
            case measure => simp [intOf]
          obtain ⟨_, _, e9, _, _, hcl⟩ := (HS.out.below (HE1.out.trans hEr) (Nat.le_refl _)).form
          cases e9
          have hs : L1[j]? = some L1[j] := by simp [hlt2]
          obtain ⟨b, off, rfl, _, c0, c1, c2, c3, c4, c5, c6, c7, c8, c9, c10, c11, c12, c13⟩ := hcl j _ hs
          have HBad := Lib.hid (fun hb => inE_bad g pl 1 z0 L1 j hlt2 hb)
          have HGood := Lib.hid (fun hb => inE_good g pl 1 z0 L1 j hlt2 hb)
          rw [← HI.out] at HBad HGood
          clear hcl hs
          generalize L1[j] = c at *
          have hz7 := Blk.new wr #[.int .i64 0, .int .i64 0, .int .i64 0, .int .i64 0, .int .i64 0, .int .i64 0, .int .i64 0, .int .i64 0, .int .i64 0, .int .i64 0, .int .i64 0, .int .i64 0, .int .i64 0, .int .i64 0] 47
          have hb7 : Blk ((wr.alloc (.cells #[.int .i64 0, .int .i64 0, .int .i64 0, .int .i64 0, .int .i64 0, .int .i64 0, .int .i64 0, .int .i64 0, .int .i64 0, .int .i64 0, .int .i64 0, .int .i64 0, .int .i64 0, .int .i64 0] 47)).setRow wr.heap.size #[.int .i64 c.k, .int .i64 c.s, .int .i64 c.n, .int .i64 c.f, .int .i64 c.r, .int .i64 c.o, .int .i64 c.d, .int .i64 c.p, .int .i64 c.i0, .int .i64 c.i1, .int .i64 c.b0, .int .i64 c.b1, .int .i64 c.h0, .int .i64 c.h1]) wr.heap.size #[.int .i64 c.k, .int .i64 c.s, .int .i64 c.n, .int .i64 c.f, .int .i64 c.r, .int .i64 c.o, .int .i64 c.d, .int .i64 c.p, .int .i64 c.i0, .int .i64 c.i1, .int .i64 c.b0, .int .i64 c.b1, .int .i64 c.h0, .int .i64 c.h1] 47 := setRow_heap _ _ _ _ _ _ hz7
          have hQ : Ext wr ((wr.alloc (.cells #[.int .i64 0, .int .i64 0, .int .i64 0, .int .i64 0, .int .i64 0, .int .i64 0, .int .i64 0, .int .i64 0, .int .i64 0, .int .i64 0, .int .i64 0, .int .i64 0, .int .i64 0, .int .i64 0] 47)).setRow wr.heap.size #[.int .i64 c.k, .int .i64 c.s, .int .i64 c.n, .int .i64 c.f, .int .i64 c.r, .int .i64 c.o, .int .i64 c.d, .int .i64 c.p, .int .i64 c.i0, .int .i64 c.i1, .int .i64 c.b0, .int .i64 c.b1, .int .i64 c.h0, .int .i64 c.h1]) := ext_setRow (ext_alloc _ _) _ (Nat.le_refl _)
          go_upto_region 12 with (refine wpList_store_row rfl 47 _ _ rfl wr.heap.size #[.int .i64 c.k, .int .i64 c.s, .int .i64 c.n, .int .i64 c.f, .int .i64 c.r, .int .i64 c.o, .int .i64 c.d, .int .i64 c.p, .int .i64 c.i0, .int .i64 c.i1, .int .i64 c.b0, .int .i64 c.b1, .int .i64 c.h0, .int .i64 c.h1] rfl rfl 47 _ hz7 (by kernel_rfl) rfl (by simp [Value.oneCell']) ?_)
          clear c0 c1 c2 c3 c4 c5 c6 c7 c8 c9 c10 c11 c12 c13 hz7
          have hE5 := hEr.trans hQ
          clear hQ hEr
          generalize World.setRow (wr.alloc _) _ _ = w5 at *
          generalize wr.heap.size = b7 at *
          have r0 : World.cell? w5 ⟨b7, 0, none⟩ = some (.int .i64 c.k) := hb7.cell 0
          have r1 : World.cell? w5 ⟨b7, 1, none⟩ = some (.int .i64 c.s) := hb7.cell 1
          have r2 : World.cell? w5 ⟨b7, 2, none⟩ = some (.int .i64 c.n) := hb7.cell 2
          have r3 : World.cell? w5 ⟨b7, 3, none⟩ = some (.int .i64 c.f) := hb7.cell 3
          have r4 : World.cell? w5 ⟨b7, 4, none⟩ = some (.int .i64 c.r) := hb7.cell 4
          have r5 : World.cell? w5 ⟨b7, 5, none⟩ = some (.int .i64 c.o) := hb7.cell 5
          have r6 : World.cell? w5 ⟨b7, 6, none⟩ = some (.int .i64 c.d) := hb7.cell 6
          have r7 : World.cell? w5 ⟨b7, 7, none⟩ = some (.int .i64 c.p) := hb7.cell 7
          have r8 : World.cell? w5 ⟨b7, 8, none⟩ = some (.int .i64 c.i0) := hb7.cell 8
          have r9 : World.cell? w5 ⟨b7, 9, none⟩ = some (.int .i64 c.i1) := hb7.cell 9
          have r10 : World.cell? w5 ⟨b7, 10, none⟩ = some (.int .i64 c.b0) := hb7.cell 10
          have r11 : World.cell? w5 ⟨b7, 11, none⟩ = some (.int .i64 c.b1) := hb7.cell 11
          have r12 : World.cell? w5 ⟨b7, 12, none⟩ = some (.int .i64 c.h0) := hb7.cell 12
          have r13 : World.cell? w5 ⟨b7, 13, none⟩ = some (.int .i64 c.h1) := hb7.cell 13
          have heng := engine_calls c w5
          go_wp2_with fail
          refine heng.mono ?_
          rintro e w6 ⟨rfl, hE6⟩
          have hE6 : Ext w5 w6 := hE6
          replace hE5 := hE5.trans hE6
          replace hb7 := hb7.ext hE6
          clear r0 r1 r2 r3 r4 r5 r6 r7 r8 r9 r10 r11 r12 r13 heng hE6
          have hofc := regOf_calls g pV (.slice A0 L0.length d0) (.slice (some ⟨b, off, none⟩) L1.length d1) (.slice A2 L2.length d2) pl c w6 (HG.out.1.ext (HE1.out.trans hE5)) (HG.out.2.1.ext (HE1.out.trans hE5))
          unfold OfPost at hofc
          have HEng := Lib.hid (fun h0 h => cmErr_eng (g := g) (pl := pl) (k := 1) (c := c) h0 h)
          have HOf := Lib.hid (fun h => cmErr_of (g := g) (pl := pl) (k := 1) (c := c) h)
          have hb6 := HB1.out.ext hE5
          have r0 : World.cell? w6 ⟨b7, 0, none⟩ = some (.int .i64 c.k) := hb7.cell 0
          have r1 : World.cell? w6 ⟨b7, 1, none⟩ = some (.int .i64 c.s) := hb7.cell 1
          have r2 : World.cell? w6 ⟨b7, 2, none⟩ = some (.int .i64 c.n) := hb7.cell 2
          have r3 : World.cell? w6 ⟨b7, 3, none⟩ = some (.int .i64 c.f) := hb7.cell 3
          have r4 : World.cell? w6 ⟨b7, 4, none⟩ = some (.int .i64 c.r) := hb7.cell 4
          have r5 : World.cell? w6 ⟨b7, 5, none⟩ = some (.int .i64 c.o) := hb7.cell 5
          have r6 : World.cell? w6 ⟨b7, 6, none⟩ = some (.int .i64 c.d) := hb7.cell 6
          have r7 : World.cell? w6 ⟨b7, 7, none⟩ = some (.int .i64 c.p) := hb7.cell 7
          have r8 : World.cell? w6 ⟨b7, 8, none⟩ = some (.int .i64 c.i0) := hb7.cell 8
          have r9 : World.cell? w6 ⟨b7, 9, none⟩ = some (.int .i64 c.i1) := hb7.cell 9
          have r10 : World.cell? w6 ⟨b7, 10, none⟩ = some (.int .i64 c.b0) := hb7.cell 10
          have r11 : World.cell? w6 ⟨b7, 11, none⟩ = some (.int .i64 c.b1) := hb7.cell 11
          have r12 : World.cell? w6 ⟨b7, 12, none⟩ = some (.int .i64 c.h0) := hb7.cell 12
          have r13 : World.cell? w6 ⟨b7, 13, none⟩ = some (.int .i64 c.h1) := hb7.cell 13
          have y0 : World.cell? w6 ⟨B, 0, none⟩ = some (g.iV) := hb6.cell 0
          have y1 : World.cell? w6 ⟨B, 1, none⟩ = some (g.nV) := hb6.cell 1
          have y2 : World.cell? w6 ⟨B, 2, none⟩ = some (g.oV) := hb6.cell 2
          have y3 : World.cell? w6 ⟨B, 3, none⟩ = some (pV) := hb6.cell 3
          have y4 : World.cell? w6 ⟨B, 4, none⟩ = some (.slice A0 L0.length d0) := hb6.cell 4
          have y5 : World.cell? w6 ⟨B, 5, none⟩ = some (.slice (some ⟨b, off, none⟩) L1.length d1) := hb6.cell 5
          have y6 : World.cell? w6 ⟨B, 6, none⟩ = some (.slice A2 L2.length d2) := hb6.cell 6
          clear hb6 hb7
          generalize engineZ c = ez at *
          obtain ⟨rr, hrr⟩ : ∃ rr, ofR g pl c = rr := ⟨_, rfl⟩
          rw [hrr] at hofc HOf
          clear hrr
          generalize cmErr g pl 1 c = ce at *
          have HE5 := Lib.hid hE5
          clear hE5
          by_cases hq : 0 ≤ ez ∧ ez ≠ 1
          case pos =>
            have q1 : decide (0 ≤ ez) = true := decide_eq_true hq.1
            have q2 : (ez != 1) = true := by rw [bne_iff_ne]; exact hq.2
            have HZ1 := Lib.hid (show 27 = mz by have h := HEng.out hq.1 hq.2; rw [HBad.out (by rw [h]; decide), h])
            clear hq HBad HGood HEng HOf hofc
            go_wp2_with fail
            exact HP.out _ _ HZ1.out (HE1.out.trans HE5.out)
          have HOf1 := Lib.hid (HOf.out hq)
          clear HOf HEng
          have HNext : Hid (rr.2 ≠ 0 → rr.2 = mz) := by
            show _ → _
            intro h
            rw [HBad.out (by rw [HOf1.out]; exact h), HOf1.out]
          have HGo : Hid (rr.2 = 0 → mz = inE g pl 1 z0 (L1.drop (j + 1))) := by
            show _ → _
            intro h
            exact HGood.out (by rw [HOf1.out]; exact h)
          clear HBad HGood HOf1
          have hgo : ∀ (q : Bool), decide (0 ≤ ez) = q → (q = true → (ez != 1) = false) := by
            intro q h1 h2
            rw [bne_eq_false_iff_eq]
            exact Decidable.byContradiction fun h => hq ⟨of_decide_eq_true (by rw [h1, h2]), h⟩
          have HQ := Lib.hid hgo
          clear hgo hq
          cases q1 : decide (0 ≤ ez)
          all_goals
            first | have q2 := HQ.out _ q1 rfl | skip
            go_wp2_with fail
            refine hofc.mono ?_
            rintro e w7 ⟨vv, rfl, _, hE7⟩
            have HE7 := Lib.hid (HE5.out.trans hE7)
            clear hE7 hofc r0 r1 r2 r3 r4 r5 r6 r7 r8 r9 r10 r11 r12 r13 y0 y1 y2 y3 y4 y5 y6 HQ
            by_cases hz : rr.2 = 0
            · have HN := Lib.hid (HGo.out hz)
              rw [hz]
              clear hz HNext HGo
              go_wp2_with fail
              go_roundw
              case rel => exact ⟨j + 1, by omega, by go_num, HN, HE7.out⟩
              case measure => simp [intOf]; omega
            · have hnz : (rr.2 != 0) = true := by simpa using hz
              have HZ1 := Lib.hid (HNext.out hz)
              generalize rr.2 = rz at *
              clear hz HNext HGo
              go_wp2_with fail
              exact HP.out _ _ HZ1.out (HE1.out.trans HE7.out)
      · rw [show ((2 : Nat) : Int) = 2 from rfl]
        rw [restE_2] at HZ
        have HI0 : Hid (mz = inE g pl 2 (restE g pl L0 L1 L2 3) L2) := HZ.out
        clear HZ
        obtain ⟨z0, hz0⟩ : ∃ z, restE g pl L0 L1 L2 3 = z := ⟨_, rfl⟩
        rw [hz0] at HI0
        have HZ0 := Lib.hid hz0
        have HS : Hid (Isa.Cmds w (.slice A2 L2.length d2) L2) := HC2.out
        clear hz0
        go_wp2_with fail
        go_loopw [27] (fun i wr => ∃ j : Nat, j ≤ L2.length ∧ i = .int .i64 j ∧ Hid (mz = inE g pl 2 z0 (L2.drop j)) ∧ Ext w3 wr) (fun i _ => L2.length - (intOf i).toNat)
        case atStart => exact ⟨0, by omega, rfl, by rw [List.drop_zero]; exact HI0, hE⟩
        case round =>
          clear HI0 hE
          obtain ⟨j, hj, rfl, HI, hEr⟩ := hrel
          by_cases hlt2 : j < L2.length
          case neg =>
            have hjl : j = L2.length := by omega
            have HN : Hid (mz = restE g pl L0 L1 L2 3) := by
              show _ = _
              rw [HI.out, hjl, List.drop_length, inE_nil, HZ0.out]
            clear hjl HI
            go_upto_block 1 with fail
            go_wp2_with fail
            go_roundw
            case rel => exact ⟨3, by omega, by go_num, HN, hEr⟩
            case measure => simp [intOf]
          obtain ⟨_, _, e9, _, _, hcl⟩ := (HS.out.below (HE1.out.trans hEr) (Nat.le_refl _)).form
          cases e9
          have hs : L2[j]? = some L2[j] := by simp [hlt2]
          obtain ⟨b, off, rfl, _, c0, c1, c2, c3, c4, c5, c6, c7, c8, c9, c10, c11, c12, c13⟩ := hcl j _ hs
          have HBad := Lib.hid (fun hb => inE_bad g pl 2 z0 L2 j hlt2 hb)
          have HGood := Lib.hid (fun hb => inE_good g pl 2 z0 L2 j hlt2 hb)
          rw [← HI.out] at HBad HGood
          clear hcl hs
          generalize L2[j] = c at *
          have hz7 := Blk.new wr #[.int .i64 0, .int .i64 0, .int .i64 0, .int .i64 0, .int .i64 0, .int .i64 0, .int .i64 0, .int .i64 0, .int .i64 0, .int .i64 0, .int .i64 0, .int .i64 0, .int .i64 0, .int .i64 0] 47
          have hb7 : Blk ((wr.alloc (.cells #[.int .i64 0, .int .i64 0, .int .i64 0, .int .i64 0, .int .i64 0, .int .i64 0, .int .i64 0, .int .i64 0, .int .i64 0, .int .i64 0, .int .i64 0, .int .i64 0, .int .i64 0, .int .i64 0] 47)).setRow wr.heap.size #[.int .i64 c.k, .int .i64 c.s, .int .i64 c.n, .int .i64 c.f, .int .i64 c.r, .int .i64 c.o, .int .i64 c.d, .int .i64 c.p, .int .i64 c.i0, .int .i64 c.i1, .int .i64 c.b0, .int .i64 c.b1, .int .i64 c.h0, .int .i64 c.h1]) wr.heap.size #[.int .i64 c.k, .int .i64 c.s, .int .i64 c.n, .int .i64 c.f, .int .i64 c.r, .int .i64 c.o, .int .i64 c.d, .int .i64 c.p, .int .i64 c.i0, .int .i64 c.i1, .int .i64 c.b0, .int .i64 c.b1, .int .i64 c.h0, .int .i64 c.h1] 47 := setRow_heap _ _ _ _ _ _ hz7
          have hQ : Ext wr ((wr.alloc (.cells #[.int .i64 0, .int .i64 0, .int .i64 0, .int .i64 0, .int .i64 0, .int .i64 0, .int .i64 0, .int .i64 0, .int .i64 0, .int .i64 0, .int .i64 0, .int .i64 0, .int .i64 0, .int .i64 0] 47)).setRow wr.heap.size #[.int .i64 c.k, .int .i64 c.s, .int .i64 c.n, .int .i64 c.f, .int .i64 c.r, .int .i64 c.o, .int .i64 c.d, .int .i64 c.p, .int .i64 c.i0, .int .i64 c.i1, .int .i64 c.b0, .int .i64 c.b1, .int .i64 c.h0, .int .i64 c.h1]) := ext_setRow (ext_alloc _ _) _ (Nat.le_refl _)
          go_upto_region 12 with (refine wpList_store_row rfl 47 _ _ rfl wr.heap.size #[.int .i64 c.k, .int .i64 c.s, .int .i64 c.n, .int .i64 c.f, .int .i64 c.r, .int .i64 c.o, .int .i64 c.d, .int .i64 c.p, .int .i64 c.i0, .int .i64 c.i1, .int .i64 c.b0, .int .i64 c.b1, .int .i64 c.h0, .int .i64 c.h1] rfl rfl 47 _ hz7 (by kernel_rfl) rfl (by simp [Value.oneCell']) ?_)
          clear c0 c1 c2 c3 c4 c5 c6 c7 c8 c9 c10 c11 c12 c13 hz7
          have hE5 := hEr.trans hQ
          clear hQ hEr
          generalize World.setRow (wr.alloc _) _ _ = w5 at *
          generalize wr.heap.size = b7 at *
          have r0 : World.cell? w5 ⟨b7, 0, none⟩ = some (.int .i64 c.k) := hb7.cell 0
          have r1 : World.cell? w5 ⟨b7, 1, none⟩ = some (.int .i64 c.s) := hb7.cell 1
          have r2 : World.cell? w5 ⟨b7, 2, none⟩ = some (.int .i64 c.n) := hb7.cell 2
          have r3 : World.cell? w5 ⟨b7, 3, none⟩ = some (.int .i64 c.f) := hb7.cell 3
          have r4 : World.cell? w5 ⟨b7, 4, none⟩ = some (.int .i64 c.r) := hb7.cell 4
          have r5 : World.cell? w5 ⟨b7, 5, none⟩ = some (.int .i64 c.o) := hb7.cell 5
          have r6 : World.cell? w5 ⟨b7, 6, none⟩ = some (.int .i64 c.d) := hb7.cell 6
          have r7 : World.cell? w5 ⟨b7, 7, none⟩ = some (.int .i64 c.p) := hb7.cell 7
          have r8 : World.cell? w5 ⟨b7, 8, none⟩ = some (.int .i64 c.i0) := hb7.cell 8
          have r9 : World.cell? w5 ⟨b7, 9, none⟩ = some (.int .i64 c.i1) := hb7.cell 9
          have r10 : World.cell? w5 ⟨b7, 10, none⟩ = some (.int .i64 c.b0) := hb7.cell 10
          have r11 : World.cell? w5 ⟨b7, 11, none⟩ = some (.int .i64 c.b1) := hb7.cell 11
          have r12 : World.cell? w5 ⟨b7, 12, none⟩ = some (.int .i64 c.h0) := hb7.cell 12
          have r13 : World.cell? w5 ⟨b7, 13, none⟩ = some (.int .i64 c.h1) := hb7.cell 13
          have heng := engine_calls c w5
          go_wp2_with fail
          refine heng.mono ?_
          rintro e w6 ⟨rfl, hE6⟩
          have hE6 : Ext w5 w6 := hE6
          replace hE5 := hE5.trans hE6
          replace hb7 := hb7.ext hE6
          clear r0 r1 r2 r3 r4 r5 r6 r7 r8 r9 r10 r11 r12 r13 heng hE6
          have hofc := regOf_calls g pV (.slice A0 L0.length d0) (.slice A1 L1.length d1) (.slice (some ⟨b, off, none⟩) L2.length d2) pl c w6 (HG.out.1.ext (HE1.out.trans hE5)) (HG.out.2.1.ext (HE1.out.trans hE5))
          unfold OfPost at hofc
          have HEng := Lib.hid (fun h0 h => cmErr_eng (g := g) (pl := pl) (k := 2) (c := c) h0 h)
          have HOf := Lib.hid (fun h => cmErr_of (g := g) (pl := pl) (k := 2) (c := c) h)
          have hb6 := HB1.out.ext hE5
          have r0 : World.cell? w6 ⟨b7, 0, none⟩ = some (.int .i64 c.k) := hb7.cell 0
          have r1 : World.cell? w6 ⟨b7, 1, none⟩ = some (.int .i64 c.s) := hb7.cell 1
          have r2 : World.cell? w6 ⟨b7, 2, none⟩ = some (.int .i64 c.n) := hb7.cell 2
          have r3 : World.cell? w6 ⟨b7, 3, none⟩ = some (.int .i64 c.f) := hb7.cell 3
          have r4 : World.cell? w6 ⟨b7, 4, none⟩ = some (.int .i64 c.r) := hb7.cell 4
          have r5 : World.cell? w6 ⟨b7, 5, none⟩ = some (.int .i64 c.o) := hb7.cell 5
          have r6 : World.cell? w6 ⟨b7, 6, none⟩ = some (.int .i64 c.d) := hb7.cell 6
          have r7 : World.cell? w6 ⟨b7, 7, none⟩ = some (.int .i64 c.p) := hb7.cell 7
          have r8 : World.cell? w6 ⟨b7, 8, none⟩ = some (.int .i64 c.i0) := hb7.cell 8
          have r9 : World.cell? w6 ⟨b7, 9, none⟩ = some (.int .i64 c.i1) := hb7.cell 9
          have r10 : World.cell? w6 ⟨b7, 10, none⟩ = some (.int .i64 c.b0) := hb7.cell 10
          have r11 : World.cell? w6 ⟨b7, 11, none⟩ = some (.int .i64 c.b1) := hb7.cell 11
          have r12 : World.cell? w6 ⟨b7, 12, none⟩ = some (.int .i64 c.h0) := hb7.cell 12
          have r13 : World.cell? w6 ⟨b7, 13, none⟩ = some (.int .i64 c.h1) := hb7.cell 13
          have y0 : World.cell? w6 ⟨B, 0, none⟩ = some (g.iV) := hb6.cell 0
          have y1 : World.cell? w6 ⟨B, 1, none⟩ = some (g.nV) := hb6.cell 1
          have y2 : World.cell? w6 ⟨B, 2, none⟩ = some (g.oV) := hb6.cell 2
          have y3 : World.cell? w6 ⟨B, 3, none⟩ = some (pV) := hb6.cell 3
          have y4 : World.cell? w6 ⟨B, 4, none⟩ = some (.slice A0 L0.length d0) := hb6.cell 4
          have y5 : World.cell? w6 ⟨B, 5, none⟩ = some (.slice A1 L1.length d1) := hb6.cell 5
          have y6 : World.cell? w6 ⟨B, 6, none⟩ = some (.slice (some ⟨b, off, none⟩) L2.length d2) := hb6.cell 6
          clear hb6 hb7
          generalize engineZ c = ez at *
          obtain ⟨rr, hrr⟩ : ∃ rr, ofR g pl c = rr := ⟨_, rfl⟩
          rw [hrr] at hofc HOf
          clear hrr
          generalize cmErr g pl 2 c = ce at *
          have HE5 := Lib.hid hE5
          clear hE5
          by_cases hq : 0 ≤ ez ∧ ez ≠ 2
          case pos =>
            have q1 : decide (0 ≤ ez) = true := decide_eq_true hq.1
            have q2 : (ez != 2) = true := by rw [bne_iff_ne]; exact hq.2
            have HZ1 := Lib.hid (show 27 = mz by have h := HEng.out hq.1 hq.2; rw [HBad.out (by rw [h]; decide), h])
            clear hq HBad HGood HEng HOf hofc
            go_wp2_with fail
            exact HP.out _ _ HZ1.out (HE1.out.trans HE5.out)
          have HOf1 := Lib.hid (HOf.out hq)
          clear HOf HEng
          have HNext : Hid (rr.2 ≠ 0 → rr.2 = mz) := by
            show _ → _
            intro h
            rw [HBad.out (by rw [HOf1.out]; exact h), HOf1.out]
          have HGo : Hid (rr.2 = 0 → mz = inE g pl 2 z0 (L2.drop (j + 1))) := by
            show _ → _
            intro h
            exact HGood.out (by rw [HOf1.out]; exact h)
          clear HBad HGood HOf1
          have hgo : ∀ (q : Bool), decide (0 ≤ ez) = q → (q = true → (ez != 2) = false) := by
            intro q h1 h2
            rw [bne_eq_false_iff_eq]
            exact Decidable.byContradiction fun h => hq ⟨of_decide_eq_true (by rw [h1, h2]), h⟩
          have HQ := Lib.hid hgo
          clear hgo hq
          cases q1 : decide (0 ≤ ez)
          all_goals
            first | have q2 := HQ.out _ q1 rfl | skip
            go_wp2_with fail
            refine hofc.mono ?_
            rintro e w7 ⟨vv, rfl, _, hE7⟩
            have HE7 := Lib.hid (HE5.out.trans hE7)
            clear hE7 hofc r0 r1 r2 r3 r4 r5 r6 r7 r8 r9 r10 r11 r12 r13 y0 y1 y2 y3 y4 y5 y6 HQ
            by_cases hz : rr.2 = 0
            · have HN := Lib.hid (HGo.out hz)
              rw [hz]
              clear hz HNext HGo
              go_wp2_with fail
              go_roundw
              case rel => exact ⟨j + 1, by omega, by go_num, HN, HE7.out⟩
              case measure => simp [intOf]; omega
            · have hnz : (rr.2 != 0) = true := by simpa using hz
              have HZ1 := Lib.hid (HNext.out hz)
              generalize rr.2 = rz at *
              clear hz HNext HGo
              go_wp2_with fail
              exact HP.out _ _ HZ1.out (HE1.out.trans HE7.out)
      · have HZ1 := Lib.hid (show 0 = mz by rw [HZ.out, restE_3])
        have HE := Lib.hid (HE1.out.trans hE)
        clear HZ
        go_wp2_with fail
        exact HP.out _ _ HZ1.out HE.out

end Go.Proofs.Ytmddlhfahfelpaa
