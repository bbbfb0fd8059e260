/- The walks of the reference's Same: rows of values, of numbers. -/
/- The walk of the law VerifyAll. -/
/- How an image and a command that came in are opened. -/
import Derived.Test.YtmddlhfahfelpaaVok
import Derived.DeepKeys
import Derived.Deep.CutBlock
import Derived.Deep.DeepCutAuto
import Derived.Test.YtmddlhfahfelpaaNsaR
import Derived.Test.YtmddlhfahfelpaaVfn
import Derived.Test.YtmddlhfahfelpaaVfl
import Derived.Test.YtmddlhfahfelpaaRgk
import Derived.Test.YtmddlhfahfelpaaNsaN
set_option linter.unusedSimpArgs false
set_option linter.unusedVariables false
set_option linter.unnecessarySimpa false
namespace Go.Proofs.Ytmddlhfahfelpaa
open Go.RowKit

section
variable {P : Program} {d : Nat} {xs ys : Array Value} {a b : Value} {r s : Bool} {w : World}

theorem eqFields_step {f : Field} {fs : List Field} (hn : f.name ≠ "_") (ha : (part f.type xs f.offset).run P w = .ok a w) (hb : (part f.type ys f.offset).run P w = .ok b w) (he : (Op.equalIn d f.type a b).run P w = .ok r w)
    (hr : (Op.eqFields d xs ys fs).run P w = .ok s w) : (Op.eqFields d xs ys (f :: fs)).run P w = .ok (r && s) w := by
  rw [Op.eqFields]
  simp only [if_pos hn, Sem.run_bind, ha, hb, he, Result.andThen_ok]
  cases r
  · simp
  · simpa using hr
end

theorem eq_i64 (d : Nat) (w : World) (x y : Int) : (Op.equalIn (d + 1) 3 (.int .i64 x) (.int .i64 y)).run Try.prog w = .ok (x == y) w := run_equalIn_int w d _ _ _ _ _ Try.underlying3

theorem take_ne {α : Type} {a b : List α} {k : Nat} {x y : α} (hx : a[k]? = some x) (hy : b[k]? = some y) (h : x ≠ y) : a ≠ b := fun e => by
  subst e
  rw [hx] at hy
  exact h (Option.some.inj hy)
theorem take_eq {α : Type} {a b : List α} {k : Nat} {x y : α} (ht : a.take k = b.take k) (hx : a[k]? = some x) (hy : b[k]? = some y) (h : x = y) : a.take (k + 1) = b.take (k + 1) := by
  rw [List.take_add_one, List.take_add_one, ht, hx, hy, h]

set_option maxHeartbeats 1600000 in
theorem sameInts_calls (u v : Value) (a b : List Int) (w : World) (hu : Ints .i64 w u a) (hv : Ints .i64 w v b) :
    Calls Try.prog 17 #[u, v] w fun e w' => e = .returned (.bool (decide (a = b))) ∧ Ext w w' := by
  obtain ⟨A, c, rfl, hlc, hcm, _⟩ := id hu.form
  obtain ⟨B, d, rfl, hld, hdm, _⟩ := id hv.form
  unfold maxLen at hcm hdm
  by_cases hl : a.length = b.length
  · have t1 : ((a.length : Int) != (b.length : Int)) = false := by simp [hl]
    have HL := Lib.hid hl
    clear hl
    go_enter Try.func17, Try.ntmps17
    go_wp2_with fail
    go_loopw [5] (fun i wr => ∃ k : Nat, k ≤ a.length ∧ i = .int .i64 k ∧ Hid (a.take k = b.take k) ∧ Ext w wr) (fun i _ => a.length - (intOf i).toNat)
    case atStart => exact ⟨0, by omega, rfl, rfl, Ext.refl _⟩
    case round =>
      obtain ⟨k, hk, rfl, ht, hE⟩ := hrel
      by_cases hlt : k < a.length
      · have hlt2 : k < b.length := by have := HL.out; omega
        obtain ⟨_, _, e1, _, _, hc1⟩ := (hu.ext hE).form
        cases e1
        obtain ⟨_, _, e2, _, _, hc2⟩ := (hv.ext hE).form
        cases e2
        obtain ⟨p, o, rfl, x0⟩ := hc1 k hlt
        obtain ⟨q, o2, rfl, y0⟩ := hc2 k hlt2
        rw [show a[k]?.getD 0 = a[k] by simp [hlt]] at x0
        rw [show b[k]?.getD 0 = b[k] by simp [hlt2]] at y0
        have HX := Lib.hid (show a[k]? = some a[k] by simp [hlt])
        have HY := Lib.hid (show b[k]? = some b[k] by simp [hlt2])
        clear hc1 hc2
        generalize a[k] = x at *
        generalize b[k] = y at *
        go_upto_region 6 with fail
        refine wp_region_X [0, 1, 2, 3, 4, 5, 6, 7, 8] [] (by kernel_rfl) (by kernel_rfl) (fun _ _ d _ _ h => by cases d <;> exact h) (fun w2 hE2 => ?_)
        have x1 : ∀ W, Ext w2 W → W.cell? ⟨p, o + k, none⟩ = some (.int .i64 x) := cell_ext (cell_ext x0 _ hE2)
        have y1 : ∀ W, Ext w2 W → W.cell? ⟨q, o2 + k, none⟩ = some (.int .i64 y) := cell_ext (cell_ext y0 _ hE2)
        clear x0 y0
        repeat (first | (refine wpP_pure rfl (by rfl) (fun W hW => by go_simp; with_reducible rfl) ?_; simp only [Act.put, List.setIfInBounds_toArray, List.set_cons_zero, List.set_cons_succ]) | (refine wpP_skip rfl (by rfl) ?_; simp only [Act.put, List.setIfInBounds_toArray, List.set_cons_zero, List.set_cons_succ]))
        refine ⟨trivial, fun W hR => ?_⟩
        simp only [rFin, envAt, TP.top, TP.mine, MP.top, MP.mine, MT.mine, MT.tied, MT.done, MT.is, List.map_cons, List.map_nil, true_implies, List.head?_cons, ME.is, MP.is, MP.done, ME.ints, ME.row, phi, dstAt, List.getElem?_cons_zero, List.getElem?_cons_succ, Option.bind_some, Act.put, List.setIfInBounds_toArray, List.set_cons_zero, List.set_cons_succ, and_true, forall_eq, reduceIte, Nat.reduceEqDiff, beq_iff_eq, Option.some.injEq, Bool.false_eq_true, reduceCtorEq, implies_true, true_and]
        have hEW := hE.trans (hE2.trans hR)
        clear x1 y1
        by_cases hxy : x = y
        · have t2 : (x != y) = false := by simp [hxy]
          have HT := Lib.hid (take_eq ht.out HX.out HY.out hxy)
          clear hxy
          go_wp2_with fail
          go_roundw
          case rel => exact ⟨k + 1, by omega, by go_num, HT, hEW⟩
          case measure => simp [intOf]; omega
        · have t2 : (x != y) = true := by simp [hxy]
          have HT := Lib.hid (take_ne HX.out HY.out hxy)
          clear hxy
          go_wp2_with fail
          go_ret
          exact ⟨ret_bool (by rw [decide_eq_false HT.out]), hEW⟩
      · have hab : a = b := by
          have h1 := ht.out
          have h2 := HL.out
          rw [List.take_of_length_le (by omega), List.take_of_length_le (by omega)] at h1
          exact h1
        have HAB := Lib.hid hab
        clear hab
        go_wp2_with fail
        go_ret
        exact ⟨ret_bool (by rw [decide_eq_true HAB.out]), hE⟩
  · have t1 : ((a.length : Int) != (b.length : Int)) = true := by rw [bne_iff_ne]; omega
    have hab : a ≠ b := fun e => hl (by rw [e])
    have HAB := Lib.hid hab
    clear hab hl
    go_enter Try.func17, Try.ntmps17
    go_wp2_with fail
    go_ret
    exact ⟨ret_bool (by rw [decide_eq_false HAB.out]), Ext.refl _⟩

end Go.Proofs.Ytmddlhfahfelpaa

namespace Go.Proofs.Ytmddlhfahfelpaa
set_option maxRecDepth 10000
open Go.RowKit

theorem img_oneV {w0 W : World} {base : Nat} {x : Gr} {pX t0 t1 t2 : Value} {pl : List Int} {L0 L1 L2 : List Isa.Cm} (hL : GrL w0 base W x) (hp : Ints .i64 w0 pX pl) (h0 : Isa.Cmds w0 t0 L0) (h1 : Isa.Cmds w0 t1 L1) (h2 : Isa.Cmds w0 t2 L2) :
    Array.all #[x.iV, x.nV, x.oV, pX, t0, t1, t2] (·.oneCell') = true := by
  obtain ⟨_, _, e1, _⟩ := hL.ins.form
  obtain ⟨_, _, e2, _⟩ := row_of_own hL.own
  obtain ⟨_, _, e3, _⟩ := hL.outs.form
  obtain ⟨_, _, e4, _⟩ := hp.form
  obtain ⟨_, _, e5, _⟩ := id (show Row _ _ _ _ _ from h0)
  obtain ⟨_, _, e6, _⟩ := id (show Row _ _ _ _ _ from h1)
  obtain ⟨_, _, e7, _⟩ := id (show Row _ _ _ _ _ from h2)
  rw [e1, e2, e3, e4, e5, e6, e7]
  simp [Value.oneCell']

theorem rIntsV_calls (u v : Value) (a : List Int) (w : World) (hu : Ints .i64 w u a) (hv : Ints .i64 w v a) :
    Calls Try.prog 9 #[u, v] w fun e w' => e = .returned (.bool true) ∧ Ext w w' := by
  have hc := sameInts_calls u v a a w hu hv
  rw [decide_eq_true (rfl : a = a)] at hc
  first
    | exact hc
    | (go_enter Try.func9, Try.ntmps9
       go_wp2_with fail
       refine hc.mono ?_
       rintro e w1 ⟨rfl, hE⟩
       go_wp2_with fail
       go_ret
       exact ⟨rfl, hE⟩)

def AllVP (w : World) (e : Ending) (w' : World) : Prop := e = .returned (.bool true) ∧ Below w.heap.size w w'

set_option maxRecDepth 20000 in
set_option maxHeartbeats 12800000 in
theorem verifyAll_calls (g : Gr) (pV s0 s1 s2 : Value) (pl : List Int) (L0 L1 L2 : List Isa.Cm) (w : World) (hg : GrIn w g) (hp : Ints .i64 w pV pl) (hpk : ∀ z ∈ pl, InK .i64 z)
    (hs0 : Isa.Cmds w s0 L0) (hs1 : Isa.Cmds w s1 L1) (hs2 : Isa.Cmds w s2 L2) :
    Calls Try.prog 3 #[.agg #[g.iV, g.nV, g.oV, pV, s0, s1, s2]] w (AllVP w) := by
  have HP : Hid (∀ e w', e = .returned (.bool true) → Ext w w' → AllVP w e w') := fun e w' h1 h2 => ⟨h1, h2⟩
  generalize AllVP w = PP at *
  have hE1 := ext_alloc w (.cells #[g.iV, g.nV, g.oV, pV, s0, s1, s2] 30)
  have hb1 := Blk.new w #[g.iV, g.nV, g.oV, pV, s0, s1, s2] 30
  have hla := fun W (e : Ext w W) => less20_calls g pV s0 s1 s2 pl L0 L1 L2 w W hg hp hs0 hs1 hs2 e
  unfold LessJPost at hla
  have hsh := fun W => shown20_calls W
  have HPK := Lib.hid hpk
  clear hpk
  go_enter Try.func3, Try.ntmps3
  go_upto_region 1 with fail
  generalize World.alloc w _ = w1 at *
  go_upto_region 2 with (go_at_call 5; refine (hsh _).mono ?_; rintro e w2 ⟨rfl, h2⟩)
  have h2 : Ext w1 w2 := h2
  replace hb1 := hb1.ext h2
  replace hE1 := hE1.trans h2
  have hsz2 : w.heap.size < w2.heap.size := hb1.lt
  clear hsh h2
  have q0 : World.cell? w2 ⟨w.heap.size, 0, none⟩ = some g.iV := hb1.cell 0
  have q1 : World.cell? w2 ⟨w.heap.size, 1, none⟩ = some g.nV := hb1.cell 1
  have q2 : World.cell? w2 ⟨w.heap.size, 2, none⟩ = some g.oV := hb1.cell 2
  have q3 : World.cell? w2 ⟨w.heap.size, 3, none⟩ = some pV := hb1.cell 3
  have q4 : World.cell? w2 ⟨w.heap.size, 4, none⟩ = some s0 := hb1.cell 4
  have q5 : World.cell? w2 ⟨w.heap.size, 5, none⟩ = some s1 := hb1.cell 5
  have q6 : World.cell? w2 ⟨w.heap.size, 6, none⟩ = some s2 := hb1.cell 6
  have hc := hla _ hE1
  clear hla
  go_wp2_with fail
  refine hc.mono ?_
  rintro e w3 ⟨x, pX, t0, t1, t2, pl', rfl, hL, hpx, hpm, hpl, hT0, hT1, hT2, h3⟩
  clear q0 q1 q2 q3 q4 q5 q6
  clear hc
  replace hb1 := hb1.ext h3
  have hE3 := hE1.trans h3
  have HO := Lib.hid (img_oneV hL hpx hT0 hT1 hT2)
  have hL4 := (hL.setRow (b := w.heap.size) (Nat.le_refl _) (by omega) #[x.iV, x.nV, x.oV, pX, t0, t1, t2]).at
  have hb4 : Blk (w3.setRow w.heap.size #[x.iV, x.nV, x.oV, pX, t0, t1, t2]) w.heap.size #[x.iV, x.nV, x.oV, pX, t0, t1, t2] 30 := setRow_heap _ _ _ _ _ _ hb1
  have hE4 : Ext w (w3.setRow w.heap.size #[x.iV, x.nV, x.oV, pX, t0, t1, t2]) := ext_setRow hE3 _ (Nat.le_refl _)
  clear hL hE1 hE3 h3
  go_upto_region 3 with (refine wpList_store_row rfl 30 _ _ rfl w.heap.size #[x.iV, x.nV, x.oV, pX, t0, t1, t2] rfl rfl 30 _ hb1 (by kernel_rfl) rfl HO.out ?_)
  clear hb1 HO
  generalize World.setRow w3 _ _ = w4 at *
  generalize w.heap.size = B at *
  have hkA : ∀ z ∈ pl', InK .i64 z := fun z hz => HPK.out z (hpm z hz)
  have l0 : (L0.take 40).length ≤ 100000 := by rw [List.length_take]; omega
  have l1 : (L1.take 40).length ≤ 100000 := by rw [List.length_take]; omega
  have l2 : (L2.take 40).length ≤ 100000 := by rw [List.length_take]; omega
  generalize L0.take 40 = A0 at *
  generalize L1.take 40 = A1 at *
  generalize L2.take 40 = A2 at *
  have HTu := Lib.hid (fun W (e : Ext w4 W) => turns_calls x pX t0 t1 t2 pl' A0 A1 A2 W (hL4.ext e) (hpx.ext (hE4.trans e)) hkA (hT0.below (hE4.trans e) (Nat.le_refl _)) (hT1.below (hE4.trans e) (Nat.le_refl _)) (hT2.below (hE4.trans e) (Nat.le_refl _)))
  have HRTu := Lib.hid (fun W (e : Ext w4 W) => rturns_calls x pX t0 t1 t2 pl' A0 A1 A2 W (hL4.ext e) (hpx.ext (hE4.trans e)) hkA (hT0.below (hE4.trans e) (Nat.le_refl _)) (hT1.below (hE4.trans e) (Nat.le_refl _)) (hT2.below (hE4.trans e) (Nat.le_refl _)))
  have HSt := Lib.hid (fun W (e : Ext w4 W) => streams_calls x pX t0 t1 t2 pl' A0 A1 A2 W (hL4.ext e) (hpx.ext (hE4.trans e)) hkA (hT0.below (hE4.trans e) (Nat.le_refl _)) (hT1.below (hE4.trans e) (Nat.le_refl _)) (hT2.below (hE4.trans e) (Nat.le_refl _)))
  have HRSt := Lib.hid (fun W (e : Ext w4 W) => rstreams_calls x pX t0 t1 t2 pl' A0 A1 A2 W (hL4.ext e) (hpx.ext (hE4.trans e)) hkA (hT0.below (hE4.trans e) (Nat.le_refl _)) (hT1.below (hE4.trans e) (Nat.le_refl _)) (hT2.below (hE4.trans e) (Nat.le_refl _)))
  have HCh := Lib.hid (fun W (e : Ext w4 W) => vcheck_calls x pX t0 t1 t2 pl' A0 A1 A2 W (hL4.ext e) (hpx.ext (hE4.trans e)) hkA (hT0.below (hE4.trans e) (Nat.le_refl _)) (hT1.below (hE4.trans e) (Nat.le_refl _)) (hT2.below (hE4.trans e) (Nat.le_refl _)))
  have HRCh := Lib.hid (fun W (e : Ext w4 W) => rcheck_calls x pX t0 t1 t2 pl' A0 A1 A2 W (hL4.ext e) (hpx.ext (hE4.trans e)) hkA (hT0.below (hE4.trans e) (Nat.le_refl _)) (hT1.below (hE4.trans e) (Nat.le_refl _)) (hT2.below (hE4.trans e) (Nat.le_refl _)))
  have HBa := Lib.hid (fun W (e : Ext w4 W) => balance_calls x pX t0 t1 t2 A0 A1 A2 W (hT0.below (hE4.trans e) (Nat.le_refl _)) (hT1.below (hE4.trans e) (Nat.le_refl _)) (hT2.below (hE4.trans e) (Nat.le_refl _)) l0 l1 l2)
  have HRBa := Lib.hid (fun W (e : Ext w4 W) => rbalance_calls x pX t0 t1 t2 A0 A1 A2 W (hT0.below (hE4.trans e) (Nat.le_refl _)) (hT1.below (hE4.trans e) (Nat.le_refl _)) (hT2.below (hE4.trans e) (Nat.le_refl _)) l0 l1 l2)
  unfold TurnP at HTu HRTu
  unfold MayP at HSt HRSt HCh HRCh
  unfold BalP at HBa HRBa
  have HE := Lib.hid hE4
  clear hL4 hpx hT0 hT1 hT2 hpm hpl l0 l1 l2 hkA hE4
  generalize turnsZ x pl' A0 A1 A2 = tz at *
  generalize streamsZ x pl' A0 A1 A2 = sz at *
  generalize checkZ x pl' A0 A1 A2 = cz at *
  generalize balZ A0 A1 A2 = bz at *
  obtain ⟨t1z, t2z⟩ := tz
  dsimp only at HTu HRTu
  have q0 : World.cell? w4 ⟨B, 0, none⟩ = some x.iV := hb4.cell 0
  have q1 : World.cell? w4 ⟨B, 1, none⟩ = some x.nV := hb4.cell 1
  have q2 : World.cell? w4 ⟨B, 2, none⟩ = some x.oV := hb4.cell 2
  have q3 : World.cell? w4 ⟨B, 3, none⟩ = some pX := hb4.cell 3
  have q4 : World.cell? w4 ⟨B, 4, none⟩ = some t0 := hb4.cell 4
  have q5 : World.cell? w4 ⟨B, 5, none⟩ = some t1 := hb4.cell 5
  have q6 : World.cell? w4 ⟨B, 6, none⟩ = some t2 := hb4.cell 6
  go_wp2_with fail
  refine (HTu.out w4 (Ext.refl _)).mono ?_
  rintro e w5 ⟨rfl, hX5⟩
  have hX5 : Ext w4 w5 := hX5
  clear q0 q1 q2 q3 q4 q5 q6
  have hb5 := hb4.ext hX5
  have q0 : World.cell? w5 ⟨B, 0, none⟩ = some x.iV := hb5.cell 0
  have q1 : World.cell? w5 ⟨B, 1, none⟩ = some x.nV := hb5.cell 1
  have q2 : World.cell? w5 ⟨B, 2, none⟩ = some x.oV := hb5.cell 2
  have q3 : World.cell? w5 ⟨B, 3, none⟩ = some pX := hb5.cell 3
  have q4 : World.cell? w5 ⟨B, 4, none⟩ = some t0 := hb5.cell 4
  have q5 : World.cell? w5 ⟨B, 5, none⟩ = some t1 := hb5.cell 5
  have q6 : World.cell? w5 ⟨B, 6, none⟩ = some t2 := hb5.cell 6
  go_wp2_with fail
  refine (HRTu.out w5 hX5).mono ?_
  rintro e w6 ⟨rfl, hX6⟩
  have hX6 : Ext w4 w6 := hX5.trans hX6
  clear q0 q1 q2 q3 q4 q5 q6
  clear hb5
  have q0 : ∀ W, Ext w4 W → World.cell? W ⟨B, 0, none⟩ = some x.iV := fun W e => (hb4.ext e).cell 0
  have q1 : ∀ W, Ext w4 W → World.cell? W ⟨B, 1, none⟩ = some x.nV := fun W e => (hb4.ext e).cell 1
  have q2 : ∀ W, Ext w4 W → World.cell? W ⟨B, 2, none⟩ = some x.oV := fun W e => (hb4.ext e).cell 2
  have q3 : ∀ W, Ext w4 W → World.cell? W ⟨B, 3, none⟩ = some pX := fun W e => (hb4.ext e).cell 3
  have q4 : ∀ W, Ext w4 W → World.cell? W ⟨B, 4, none⟩ = some t0 := fun W e => (hb4.ext e).cell 4
  have q5 : ∀ W, Ext w4 W → World.cell? W ⟨B, 5, none⟩ = some t1 := fun W e => (hb4.ext e).cell 5
  have q6 : ∀ W, Ext w4 W → World.cell? W ⟨B, 6, none⟩ = some t2 := fun W e => (hb4.ext e).cell 6
  go_wp2_with fail
  have hd := hX6.trans (Ext.drew w6)
  refine wp_region_S (fun W => Ext w4 W) [(0, true), (2, true), (1, false), (3, false), (4, false), (5, true)] (by kernel_rfl) (by kernel_rfl) (fun _ _ d _ _ h => by cases d <;> exact h) hd ?_
  simp only [pickE, List.getElem?_cons_zero, List.getElem?_cons_succ]
  generalize w6.drew = wd at *
  repeat (first | (refine wpF_pure (by rfl) (fun W hW => by go_simp; with_reducible rfl) ?_; simp only [Act.put, List.setIfInBounds_toArray, List.set_cons_zero, List.set_cons_succ]) | (refine wpF_skip (by rfl) ?_; simp only [Act.put, List.setIfInBounds_toArray, List.set_cons_zero, List.set_cons_succ]))
  refine wpF_step (by rfl) (fun K hK => ?_)
  go_simp
  refine (HBa.out wd hd).mono ?_
  rintro e v7 ⟨u1, rfl, hu1, hx7⟩
  refine hK _ _ (hd.trans hx7) ?_
  clear hK K
  try simp only [Act.put, List.setIfInBounds_toArray, List.set_cons_zero, List.set_cons_succ]
  have hd7 : Ext w4 v7 := hd.trans hx7
  try repeat (first | (refine wpF_pure (by rfl) (fun W hW => by go_simp; with_reducible rfl) ?_; simp only [Act.put, List.setIfInBounds_toArray, List.set_cons_zero, List.set_cons_succ]) | (refine wpF_skip (by rfl) ?_; simp only [Act.put, List.setIfInBounds_toArray, List.set_cons_zero, List.set_cons_succ]))
  refine wpF_step (by rfl) (fun K hK => ?_)
  go_simp
  refine (HRBa.out v7 hd7).mono ?_
  rintro e v8 ⟨u2, rfl, hu2, hx8⟩
  refine hK _ _ (hd7.trans hx8) ?_
  clear hK K
  try simp only [Act.put, List.setIfInBounds_toArray, List.set_cons_zero, List.set_cons_succ]
  have hd8 : Ext w4 v8 := hd7.trans hx8
  have hx8 : Ext v7 v8 := hx8
  try repeat (first | (refine wpF_pure (by rfl) (fun W hW => by go_simp; with_reducible rfl) ?_; simp only [Act.put, List.setIfInBounds_toArray, List.set_cons_zero, List.set_cons_succ]) | (refine wpF_skip (by rfl) ?_; simp only [Act.put, List.setIfInBounds_toArray, List.set_cons_zero, List.set_cons_succ]))
  refine wpF_step (by rfl) (fun K hK => ?_)
  go_simp
  refine (rIntsV_calls u1 u2 bz v8 (hu1.ext hx8) hu2).mono ?_
  rintro e v9 ⟨rfl, hx9⟩
  refine hK _ _ (hd8.trans hx9) ?_
  clear hK K
  try simp only [Act.put, List.setIfInBounds_toArray, List.set_cons_zero, List.set_cons_succ]
  have hd9 : Ext w4 v9 := hd8.trans hx9
  repeat (first | (refine wpF_pure (by rfl) (fun W hW => by go_simp; with_reducible rfl) ?_; simp only [Act.put, List.setIfInBounds_toArray, List.set_cons_zero, List.set_cons_succ]) | (refine wpF_skip (by rfl) ?_; simp only [Act.put, List.setIfInBounds_toArray, List.set_cons_zero, List.set_cons_succ]))
  refine wpF_nil ?_
  clear hd hd7 hd8 hx7 hx8 hx9 hu1 hu2 hX5 hX6
  go_wp2_with fail
  have hd := hd9.trans (Ext.drew v9)
  refine wp_region_S (fun W => Ext w4 W) [(0, true), (1, true), (2, true), (4, true), (3, false), (5, false), (6, true), (7, true), (8, true), (9, true), (10, true), (11, true), (12, true), (13, true), (14, true), (15, true), (16, true), (17, true), (18, true), (19, true), (20, true), (21, true), (22, true), (24, true), (23, false), (25, false), (26, true), (27, true), (28, true)] (by kernel_rfl) (by kernel_rfl) (fun _ _ d _ _ h => by cases d <;> exact h) hd ?_
  simp only [pickE, List.getElem?_cons_zero, List.getElem?_cons_succ]
  generalize v9.drew = wd2 at *
  repeat (first | (refine wpF_pure (by rfl) (fun W hW => by go_simp; with_reducible rfl) ?_; simp only [Act.put, List.setIfInBounds_toArray, List.set_cons_zero, List.set_cons_succ]) | (refine wpF_skip (by rfl) ?_; simp only [Act.put, List.setIfInBounds_toArray, List.set_cons_zero, List.set_cons_succ]))
  refine wpF_step (by rfl) (fun K hK => ?_)
  go_simp
  refine (HSt.out wd2 hd).mono ?_
  rintro e v10 ⟨rfl, hx10⟩
  refine hK _ _ (hd.trans hx10) ?_
  clear hK K
  try simp only [Act.put, List.setIfInBounds_toArray, List.set_cons_zero, List.set_cons_succ]
  have hd10 : Ext w4 v10 := hd.trans hx10
  try repeat (first | (refine wpF_pure (by rfl) (fun W hW => by go_simp; with_reducible rfl) ?_; simp only [Act.put, List.setIfInBounds_toArray, List.set_cons_zero, List.set_cons_succ]) | (refine wpF_skip (by rfl) ?_; simp only [Act.put, List.setIfInBounds_toArray, List.set_cons_zero, List.set_cons_succ]))
  refine wpF_step (by rfl) (fun K hK => ?_)
  go_simp
  refine (HRSt.out v10 hd10).mono ?_
  rintro e v11 ⟨rfl, hx11⟩
  refine hK _ _ (hd10.trans hx11) ?_
  clear hK K
  try simp only [Act.put, List.setIfInBounds_toArray, List.set_cons_zero, List.set_cons_succ]
  have hd11 : Ext w4 v11 := hd10.trans hx11
  repeat (first | (refine wpF_pure (by rfl) (fun W hW => by go_simp; with_reducible rfl) ?_; simp only [Act.put, List.setIfInBounds_toArray, List.set_cons_zero, List.set_cons_succ]) | (refine wpF_skip (by rfl) ?_; simp only [Act.put, List.setIfInBounds_toArray, List.set_cons_zero, List.set_cons_succ]))
  refine wpF_step (by rfl) (fun K hK => ?_)
  go_simp
  refine (HCh.out v11 hd11).mono ?_
  rintro e v12 ⟨rfl, hx12⟩
  refine hK _ _ (hd11.trans hx12) ?_
  clear hK K
  try simp only [Act.put, List.setIfInBounds_toArray, List.set_cons_zero, List.set_cons_succ]
  have hd12 : Ext w4 v12 := hd11.trans hx12
  try repeat (first | (refine wpF_pure (by rfl) (fun W hW => by go_simp; with_reducible rfl) ?_; simp only [Act.put, List.setIfInBounds_toArray, List.set_cons_zero, List.set_cons_succ]) | (refine wpF_skip (by rfl) ?_; simp only [Act.put, List.setIfInBounds_toArray, List.set_cons_zero, List.set_cons_succ]))
  refine wpF_step (by rfl) (fun K hK => ?_)
  go_simp
  refine (HRCh.out v12 hd12).mono ?_
  rintro e v13 ⟨rfl, hx13⟩
  refine hK _ _ (hd12.trans hx13) ?_
  clear hK K
  try simp only [Act.put, List.setIfInBounds_toArray, List.set_cons_zero, List.set_cons_succ]
  have hd13 : Ext w4 v13 := hd12.trans hx13
  repeat (first | (refine wpF_pure (by rfl) (fun W hW => by go_simp; with_reducible rfl) ?_; simp only [Act.put, List.setIfInBounds_toArray, List.set_cons_zero, List.set_cons_succ]) | (refine wpF_skip (by rfl) ?_; simp only [Act.put, List.setIfInBounds_toArray, List.set_cons_zero, List.set_cons_succ]))
  refine wpF_nil ?_
  have HF := Lib.hid (HE.out.trans hd13)
  clear hd hd9 hd10 hd11 hd12 hd13 hx10 hx11 hx12 hx13 q0 q1 q2 q3 q4 q5 q6
  go_wp2_with fail
  exact HP.out _ _ (by first | rfl | simp) HF.out

end Go.Proofs.Ytmddlhfahfelpaa

namespace Go.Proofs.Ytmddlhfahfelpaa
open Go.RowKit

def cmdTy : Ty := .st (i64x 8 (.pair (.st (i64x 2 .unit)) (.pair (.st (i64x 2 .unit)) (.pair (.st (i64x 2 .unit)) .unit))))
def imageTy : Ty := .st (.pair graphTy (.pair (.sl (.int .i64)) (.pair (.st (.pair (.sl cmdTy) (.pair (.sl cmdTy) (.pair (.sl cmdTy) .unit)))) .unit)))

end Go.Proofs.Ytmddlhfahfelpaa
