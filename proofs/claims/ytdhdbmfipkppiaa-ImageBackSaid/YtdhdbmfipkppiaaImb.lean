/- The walk of image.May. -/
import Derived.Test.YtdhdbmfipkppiaaIma
import Derived.Test.YtdhdbmfipkppiaaNsaP
namespace Go.Proofs.Ytdhdbmfipkppiaa
set_option linter.unusedSimpArgs false
set_option linter.unusedVariables false
set_option linter.unnecessarySimpa false
open Go.RowKit

/-- What image.May answers. -/
def mayI (g : Gr) (pl : List Int) (L0 L1 L2 : List Isa.Cm) : Int :=
  if (valuesR g).2 ≠ 0 then (valuesR g).2 else
  if fitsB (valuesR g).1 pl = false then 1 else
  if Isa.putErr L0 ≠ 0 then Isa.putErr L0 else
  if Isa.putErr L1 ≠ 0 then Isa.putErr L1 else Isa.putErr L2
def pick3 {α : Type} (a b c : α) (j : Nat) : α := if j = 0 then a else if j = 1 then b else c

def MayP (z : Int) (w : World) (e : Ending) (w' : World) : Prop := e = .returned (.int .i64 z) ∧ Ext w w'

set_option maxRecDepth 8000 in
set_option maxHeartbeats 6400000 in
theorem imay_calls (g : Gr) (pV s0 s1 s2 : Value) (pl : List Int) (L0 L1 L2 : List Isa.Cm) (w : World) (hg : GrAt w g) (hp : Ints .i64 w pV pl) (hpk : ∀ z ∈ pl, InK .i64 z)
    (h0 : Isa.Cmds w s0 L0) (h1 : Isa.Cmds w s1 L1) (h2 : Isa.Cmds w s2 L2) :
    Calls Try.prog 35 #[.agg #[g.iV, g.nV, g.oV, pV, s0, s1, s2]] w (MayP (mayI g pl L0 L1 L2) w) := by
  have HM0 : Hid (mayI g pl L0 L1 L2 = if (valuesR g).2 ≠ 0 then (valuesR g).2 else if fitsB (valuesR g).1 pl = false then 1 else if Isa.putErr L0 ≠ 0 then Isa.putErr L0 else if Isa.putErr L1 ≠ 0 then Isa.putErr L1 else Isa.putErr L2) := rfl
  have HP : Hid (∀ e w', e = .returned (.int .i64 (mayI g pl L0 L1 L2)) → Ext w w' → MayP (mayI g pl L0 L1 L2) w e w') := fun e w' h1 h2 => ⟨h1, h2⟩
  generalize MayP (mayI g pl L0 L1 L2) w = PP at *
  have hvc := fun W (h : Ext w W) => values_calls g W (hg.ext h)
  have hb0 := Blk.new w #[g.iV, g.nV, g.oV, pV, s0, s1, s2] 54
  have hE1 := ext_alloc w (.cells #[g.iV, g.nV, g.oV, pV, s0, s1, s2] 54)
  go_enter Try.func35, Try.ntmps35
  go_upto_region 1 with fail
  generalize World.alloc w _ = w1 at *
  replace hvc := hvc _ hE1
  unfold ValsPost at hvc
  have q0 : World.cell? w1 ⟨w.heap.size, 0, none⟩ = some g.iV := hb0.cell 0
  have q1 : World.cell? w1 ⟨w.heap.size, 1, none⟩ = some g.nV := hb0.cell 1
  have q2 : World.cell? w1 ⟨w.heap.size, 2, none⟩ = some g.oV := hb0.cell 2
  by_cases hv0 : (valuesR g).2 = 0
  · have HM1 := HM0.out
    rw [if_neg (show ¬ ((valuesR g).2 ≠ 0) from fun h => h hv0)] at HM1
    go_wp2_with fail
    refine hvc.mono ?_
    rintro e w2 ⟨hA, _, hE2⟩
    obtain ⟨vV, rfl, hown⟩ := hA hv0
    have hEw := hE1.trans hE2
    replace hb0 := hb0.ext hE2
    clear q0 q1 q2 hvc hA hv0 HM0
    generalize (valuesR g).1 = vs at *
    have hvls : Vls w2 vV vs := row_of_own hown
    have heq := fun W (h : Ext w2 W) => eqVP_calls vV pV vs pl W (hvls.ext h) ((hp.ext hEw).ext h) hpk
    replace heq := heq w2 (Ext.refl _)
    have q3 : World.cell? w2 ⟨w.heap.size, 3, none⟩ = some pV := hb0.cell 3
    by_cases hf : fitsB vs pl = true
    · rw [if_neg (by rw [hf]; simp)] at HM1
      have HM := Lib.hid HM1
      rw [hf] at heq
      clear HM1 hf
      go_wp2_with fail
      refine heq.mono ?_
      rintro e w3 ⟨rfl, hE3⟩
      replace hEw := hEw.trans hE3
      replace hb0 := hb0.ext hE3
      clear q3 heq hE1 hE2 hown hvls hE3
      have q4 : World.cell? w3 ⟨w.heap.size, 4, none⟩ = some s0 := hb0.cell 4
      have q5 : World.cell? w3 ⟨w.heap.size, 5, none⟩ = some s1 := hb0.cell 5
      have q6 : World.cell? w3 ⟨w.heap.size, 6, none⟩ = some s2 := hb0.cell 6
      replace h0 := h0.below hEw (Nat.le_refl _)
      replace h1 := h1.below hEw (Nat.le_refl _)
      replace h2 := h2.below hEw (Nat.le_refl _)
      have x0 : ∀ W : World, (Instr.index 52 (.agg #[s0, s1, s2]) (.int .i64 0)).run Try.prog W = .ok s0 W := fun _ => by kernel_rfl
      have x1 : ∀ W : World, (Instr.index 52 (.agg #[s0, s1, s2]) (.int .i64 1)).run Try.prog W = .ok s1 W := fun _ => by kernel_rfl
      have x2 : ∀ W : World, (Instr.index 52 (.agg #[s0, s1, s2]) (.int .i64 2)).run Try.prog W = .ok s2 W := fun _ => by kernel_rfl
      go_wp2_with fail
      clear q4 q5 q6
      go_loopw [27] (fun i wr => ∃ k : Nat, k ≤ 3 ∧ i = .int .i64 k ∧ Hid (∀ j, j < k → Isa.putErr (pick3 L0 L1 L2 j) = 0) ∧ Ext w3 wr) (fun i _ => 3 - (intOf i).toNat)
      case atStart => exact ⟨0, by omega, rfl, (fun j hj => by omega), Ext.refl _⟩
      case round =>
        obtain ⟨k, hk, rfl, HA, hE⟩ := hrel
        rcases (by omega : k = 0 ∨ k = 1 ∨ k = 2 ∨ k = 3) with rfl | rfl | rfl | rfl
        · have hput := Isa.put_calls s0 L0 wr (h0.below hE (Nat.le_refl _))
          unfold Isa.PutPost at hput
          by_cases he : Isa.putErr L0 = 0
          · rw [he] at hput
            have HN : Hid (∀ j, j < 1 → Isa.putErr (pick3 L0 L1 L2 j) = 0) := by
              intro j hj
              rcases Nat.lt_or_ge j 0 with h | h
              · exact HA.out j h
              · obtain rfl : j = 0 := by omega
                exact he
            clear he HA
            go_wp2_with fail
            refine hput.mono ?_
            rintro e wa ⟨vb, rfl, _, hEa⟩
            have hE2 := hE.trans hEa
            clear hput hEa hE
            go_wp2_with fail
            go_roundw
            case rel => exact ⟨1, by omega, rfl, HN, hE2⟩
            case measure => simp [intOf]
          · have HV : Hid (mayI g pl L0 L1 L2 = Isa.putErr L0) := by
              show _ = _
              rw [HM.out, if_pos he]
            have hne : (Isa.putErr L0 != 0) = true := by simpa using he
            have hEr := hEw.trans hE
            clear he HA
            generalize Isa.putErr L0 = z at *
            go_wp2_with fail
            refine hput.mono ?_
            rintro e wa ⟨vb, rfl, _, hEa⟩
            have HH := Lib.hid (hEr.trans hEa)
            clear hput hEa hE hEr
            go_wp2_with fail
            exact HP.out _ _ (by rw [HV.out]; (try rfl)) HH.out
        · have hput := Isa.put_calls s1 L1 wr (h1.below hE (Nat.le_refl _))
          unfold Isa.PutPost at hput
          by_cases he : Isa.putErr L1 = 0
          · rw [he] at hput
            have HN : Hid (∀ j, j < 2 → Isa.putErr (pick3 L0 L1 L2 j) = 0) := by
              intro j hj
              rcases Nat.lt_or_ge j 1 with h | h
              · exact HA.out j h
              · obtain rfl : j = 1 := by omega
                exact he
            clear he HA
            go_wp2_with fail
            refine hput.mono ?_
            rintro e wa ⟨vb, rfl, _, hEa⟩
            have hE2 := hE.trans hEa
            clear hput hEa hE
            go_wp2_with fail
            go_roundw
            case rel => exact ⟨2, by omega, rfl, HN, hE2⟩
            case measure => simp [intOf]
          · have HV : Hid (mayI g pl L0 L1 L2 = Isa.putErr L1) := by
              show _ = _
              rw [HM.out, if_neg (show ¬ (Isa.putErr L0 ≠ 0) from fun h => h (HA.out 0 (by omega))), if_pos he]
            have hne : (Isa.putErr L1 != 0) = true := by simpa using he
            have hEr := hEw.trans hE
            clear he HA
            generalize Isa.putErr L1 = z at *
            go_wp2_with fail
            refine hput.mono ?_
            rintro e wa ⟨vb, rfl, _, hEa⟩
            have HH := Lib.hid (hEr.trans hEa)
            clear hput hEa hE hEr
            go_wp2_with fail
            exact HP.out _ _ (by rw [HV.out]; (try rfl)) HH.out
        · have hput := Isa.put_calls s2 L2 wr (h2.below hE (Nat.le_refl _))
          unfold Isa.PutPost at hput
          by_cases he : Isa.putErr L2 = 0
          · rw [he] at hput
            have HN : Hid (∀ j, j < 3 → Isa.putErr (pick3 L0 L1 L2 j) = 0) := by
              intro j hj
              rcases Nat.lt_or_ge j 2 with h | h
              · exact HA.out j h
              · obtain rfl : j = 2 := by omega
                exact he
            clear he HA
            go_wp2_with fail
            refine hput.mono ?_
            rintro e wa ⟨vb, rfl, _, hEa⟩
            have hE2 := hE.trans hEa
            clear hput hEa hE
            go_wp2_with fail
            go_roundw
            case rel => exact ⟨3, by omega, rfl, HN, hE2⟩
            case measure => simp [intOf]
          · have HV : Hid (mayI g pl L0 L1 L2 = Isa.putErr L2) := by
              show _ = _
              rw [HM.out, if_neg (show ¬ (Isa.putErr L0 ≠ 0) from fun h => h (HA.out 0 (by omega))), if_neg (show ¬ (Isa.putErr L1 ≠ 0) from fun h => h (HA.out 1 (by omega)))]
            have hne : (Isa.putErr L2 != 0) = true := by simpa using he
            have hEr := hEw.trans hE
            clear he HA
            generalize Isa.putErr L2 = z at *
            go_wp2_with fail
            refine hput.mono ?_
            rintro e wa ⟨vb, rfl, _, hEa⟩
            have HH := Lib.hid (hEr.trans hEa)
            clear hput hEa hE hEr
            go_wp2_with fail
            exact HP.out _ _ (by rw [HV.out]; (try rfl)) HH.out
        · have HV : Hid (mayI g pl L0 L1 L2 = 0) := by
            show _ = _
            rw [HM.out, if_neg (show ¬ (Isa.putErr L0 ≠ 0) from fun h => h (HA.out 0 (by omega))), if_neg (show ¬ (Isa.putErr L1 ≠ 0) from fun h => h (HA.out 1 (by omega)))]
            exact HA.out 2 (by omega)
          have HH := Lib.hid (hEw.trans hE)
          go_wp2_with fail
          exact HP.out _ _ (by rw [HV.out]; (try rfl)) HH.out
    · have hf' : fitsB vs pl = false := by simpa using hf
      rw [if_pos hf'] at HM1
      have HM := Lib.hid HM1
      rw [hf'] at heq
      clear HM1 hf hf'
      go_wp2_with fail
      refine heq.mono ?_
      rintro e w3 ⟨rfl, hE3⟩
      have HH := Lib.hid (hEw.trans hE3)
      clear heq q3
      go_wp2_with fail
      exact HP.out _ _ (by rw [HM.out]; (try rfl)) HH.out
  · have HM : Hid (mayI g pl L0 L1 L2 = (valuesR g).2) := by show _ = _; rw [HM0.out, if_pos hv0]
    have hz1 : ((valuesR g).2 != 0) = true := by simpa using hv0
    go_wp2_with fail
    refine hvc.mono ?_
    rintro e w2 ⟨_, hA, hE2⟩
    obtain rfl := hA hv0
    have HH := Lib.hid (hE1.trans hE2)
    clear hvc hA hv0 q0 q1 q2 HM0
    generalize (valuesR g).2 = z at *
    go_wp2_with fail
    exact HP.out _ _ (by rw [HM.out]; (try rfl)) HH.out

end Go.Proofs.Ytdhdbmfipkppiaa
