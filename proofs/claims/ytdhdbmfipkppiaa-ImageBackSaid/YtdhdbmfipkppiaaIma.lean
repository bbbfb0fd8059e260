/- image.May's look at the places: the function value, and slices.EqualFunc over values and places. -/
import Derived.Test.YtdhdbmfipkppiaaGrk
namespace Go.Proofs.Ytdhdbmfipkppiaa
set_option linter.unusedSimpArgs false
set_option linter.unusedVariables false
set_option linter.unnecessarySimpa false
open Go.RowKit

/-- Does a value fit at a place? -/
def fitB (v : Vl) (p : Int) : Bool := decide (0 ≤ p) && decide (p ≤ 65536 - sizeZ v.s)
def fitsB (vs : List Vl) (pl : List Int) : Bool := decide (vs.length = pl.length) && (List.range vs.length).all fun j => fitB (vs[j]?.getD default) (pl[j]?.getD 0)

set_option maxHeartbeats 1600000 in
theorem fit1_calls (x : Vl) (p : Int) (w : World) (hp : InK .i64 p) : Calls Try.prog 76 #[.agg #[.int .i64 x.s.h, .int .i64 x.s.w, .int .i64 x.s.c, .int .i64 x.z], .int .i64 p] w fun e w' => e = .returned (.bool (fitB x p)) ∧ Ext w w' := by
  have HF : Hid (fitB x p = (decide (0 ≤ p) && decide (p ≤ 65536 - sizeZ x.s))) := rfl
  have hsz := sizeZ_range x.s
  have hs := fun W => size_calls x.s W
  have hE := ext_alloc w (.cells #[.int .i64 x.s.h, .int .i64 x.s.w, .int .i64 x.s.c, .int .i64 x.z] 67)
  have hb := Blk.new w #[.int .i64 x.s.h, .int .i64 x.s.w, .int .i64 x.s.c, .int .i64 x.z] 67
  generalize fitB x p = q at *
  generalize sizeZ x.s = sz at *
  simp only [InK] at hp
  by_cases h0 : 0 ≤ p
  · have HQ : Hid (q = decide (p ≤ 65536 - sz)) := by show _ = _; rw [HF.out, decide_eq_true h0]; rfl
    have hw1 : IntKind.i64.wrap (65536 - sz) = 65536 - sz := IntWalk.i64_in _ (by omega)
    clear HF
    go_enter Try.func76, Try.ntmps76
    go_upto_region 1 with fail
    generalize World.alloc w _ = w1 at *
    have c0 : World.cell? w1 ⟨w.heap.size, 0, none⟩ = some (.int .i64 x.s.h) := hb.cell 0
    have c1 : World.cell? w1 ⟨w.heap.size, 1, none⟩ = some (.int .i64 x.s.w) := hb.cell 1
    have c2 : World.cell? w1 ⟨w.heap.size, 2, none⟩ = some (.int .i64 x.s.c) := hb.cell 2
    go_wp2_with fail
    refine (hs _).mono ?_
    rintro e w2 ⟨rfl, h2⟩
    clear c0 c1 c2 hs hb
    go_wp2_with fail
    go_ret
    exact ⟨ret_bool HQ.out.symm, hE.trans h2⟩
  · have HQ : Hid (q = false) := by show _ = _; rw [HF.out, decide_eq_false h0]; rfl
    clear HF
    go_enter Try.func76, Try.ntmps76
    go_wp2_with fail
    go_ret
    exact ⟨ret_bool HQ.out.symm, hE⟩

set_option maxRecDepth 8000 in
set_option maxHeartbeats 3200000 in
theorem eqVP_calls (vV pV : Value) (vs : List Vl) (pl : List Int) (w : World) (hv : Vls w vV vs) (hp : Ints .i64 w pV pl) (hpk : ∀ z ∈ pl, InK .i64 z) :
    Calls Try.prog 75 #[vV, pV, .func (.func 76) #[] #[]] w fun e w' => e = .returned (.bool (fitsB vs pl)) ∧ Ext w w' := by
  obtain ⟨Av, cv, rfl, hv1, hv2, hvc⟩ := id hv.form
  obtain ⟨Ap, cp, rfl, hp1, hp2, hpc⟩ := id hp.form
  unfold maxLen at hv2 hp2
  have HVC := Lib.hid hvc
  have HPC := Lib.hid hpc
  have eg := enters_of Try.func76 (by kernel_rfl) rfl
  have HF : Hid (fitsB vs pl = (decide (vs.length = pl.length) && (List.range vs.length).all fun j => fitB (vs[j]?.getD default) (pl[j]?.getD 0))) := rfl
  generalize fitsB vs pl = q at *
  clear hvc hpc hv hp
  by_cases hl : vs.length = pl.length
  · have HL := Lib.hid hl
    have hln : ((vs.length : Int) != (pl.length : Int)) = false := by rw [bne_eq_false_iff_eq]; exact_mod_cast hl
    have HT : Hid ((∀ j, j < vs.length → fitB (vs[j]?.getD default) (pl[j]?.getD 0) = true) → q = true) := by
      show _ → _
      intro h
      rw [HF.out, decide_eq_true hl, Bool.true_and, List.all_eq_true]
      intro j hj
      exact h j (by simpa using hj)
    have HX : Hid (∀ j, j < vs.length → fitB (vs[j]?.getD default) (pl[j]?.getD 0) = false → q = false) := by
      intro j hj h
      rw [HF.out, decide_eq_true hl, Bool.true_and, Bool.eq_false_iff]
      intro ha
      have := List.all_eq_true.1 ha j (by simpa using hj)
      rw [h] at this
      cases this
    clear HF hl
    go_enter Try.func75, Try.ntmps75
    go_wp2_with fail
    go_loopw [17] (fun i wr => ∃ k : Nat, k ≤ vs.length ∧ i = .int .i64 k ∧ Hid (∀ j, j < k → fitB (vs[j]?.getD default) (pl[j]?.getD 0) = true) ∧ Ext w wr) (fun i _ => vs.length - (intOf i).toNat)
    case atStart => exact ⟨0, by omega, rfl, (fun j hj => by omega), Ext.refl _⟩
    case round =>
      obtain ⟨k, hk, rfl, HA, hE⟩ := hrel
      by_cases hlt : k < vs.length
      · have hlp : k < pl.length := by have := HL.out; omega
        have hvs : vs[k]? = some vs[k] := by simp [hlt]
        have hps : pl[k]? = some pl[k] := by simp [hlp]
        obtain ⟨bv, offv, rfl, hbv, hc⟩ := HVC.out k _ hvs
        obtain ⟨bp, offp, rfl, d0⟩ := HPC.out k hlp
        have hk0 := HX.out k hlt
        have hkp := hpk _ (List.getElem_mem hlp)
        have HK1 : Hid (fitB (vs[k]?.getD default) (pl[k]?.getD 0) = true → ∀ j, j < k + 1 → fitB (vs[j]?.getD default) (pl[j]?.getD 0) = true) := by
          show _ → _
          intro h j hj
          rcases Nat.lt_or_ge j k with h1 | h1
          · exact HA.out j h1
          · obtain rfl : j = k := by omega
            exact h
        rw [hvs, hps] at hk0 HK1
        rw [hps] at d0
        simp only [Option.getD_some] at hk0 HK1 d0
        generalize vs[k] = x at *
        generalize pl[k] = p at *
        have hfc := fun W => fit1_calls x p W hkp
        have v0 : World.cell? wr ⟨bv, offv + k * 4, none⟩ = some (.int .i64 x.s.h) := cell_ext (hc 0 _ rfl) _ hE
        have v1 : World.cell? wr ⟨bv, offv + k * 4 + 1, none⟩ = some (.int .i64 x.s.w) := cell_ext (hc 1 _ rfl) _ hE
        have v2 : World.cell? wr ⟨bv, offv + k * 4 + 2, none⟩ = some (.int .i64 x.s.c) := cell_ext (hc 2 _ rfl) _ hE
        have v3 : World.cell? wr ⟨bv, offv + k * 4 + 3, none⟩ = some (.int .i64 x.z) := cell_ext (hc 3 _ rfl) _ hE
        replace d0 := cell_ext d0 _ hE
        have hz := Blk.new wr #[.int .i64 0, .int .i64 0, .int .i64 0, .int .i64 0] 67
        have hb8 : Blk ((wr.alloc (.cells #[.int .i64 0, .int .i64 0, .int .i64 0, .int .i64 0] 67)).setRow wr.heap.size #[.int .i64 x.s.h, .int .i64 x.s.w, .int .i64 x.s.c, .int .i64 x.z]) wr.heap.size #[.int .i64 x.s.h, .int .i64 x.s.w, .int .i64 x.s.c, .int .i64 x.z] 67 := setRow_heap _ _ _ _ _ _ hz
        have hQ : Ext wr ((wr.alloc (.cells #[.int .i64 0, .int .i64 0, .int .i64 0, .int .i64 0] 67)).setRow wr.heap.size #[.int .i64 x.s.h, .int .i64 x.s.w, .int .i64 x.s.c, .int .i64 x.z]) := ext_setRow (ext_alloc _ _) _ (Nat.le_refl _)
        have d1 := cell_ext d0 _ hQ
        have hE2 := hE.trans hQ
        clear hvs hps hc hQ d0 hkp HA
        go_upto_region 6 with (refine wpList_store_row rfl 67 _ _ rfl wr.heap.size #[.int .i64 x.s.h, .int .i64 x.s.w, .int .i64 x.s.c, .int .i64 x.z] rfl rfl 67 _ hz (by kernel_rfl) rfl (by simp [Value.oneCell']) ?_)
        clear v0 v1 v2 v3 hz
        generalize World.setRow (World.alloc wr _) _ _ = w1 at *
        generalize wr.heap.size = b8 at *
        have u0 : World.cell? w1 ⟨b8, 0, none⟩ = some (.int .i64 x.s.h) := hb8.cell 0
        have u1 : World.cell? w1 ⟨b8, 1, none⟩ = some (.int .i64 x.s.w) := hb8.cell 1
        have u2 : World.cell? w1 ⟨b8, 2, none⟩ = some (.int .i64 x.s.c) := hb8.cell 2
        have u3 : World.cell? w1 ⟨b8, 3, none⟩ = some (.int .i64 x.z) := hb8.cell 3
        replace hfc := hfc w1
        cases hq : fitB x p with
        | true =>
          have HT1 := Lib.hid (HK1.out hq)
          rw [hq] at hfc
          clear HK1 hq hk0
          go_wp2_with fail
          refine hfc.mono ?_
          rintro e w2 ⟨rfl, h2⟩
          clear u0 u1 u2 u3 d1 hfc
          go_wp2_with fail
          go_roundw
          case rel => exact ⟨k + 1, by omega, by go_num, HT1, hE2.trans h2⟩
          case measure => simp [intOf]; omega
        | false =>
          have HT1 := Lib.hid (hk0 hq)
          rw [hq] at hfc
          clear HK1 hq hk0
          go_wp2_with fail
          refine hfc.mono ?_
          rintro e w2 ⟨rfl, h2⟩
          clear u0 u1 u2 u3 d1 hfc
          go_wp2_with fail
          go_ret
          exact ⟨ret_bool HT1.out.symm, hE2.trans h2⟩
      · have hkk : k = vs.length := by omega
        subst hkk
        have HT1 := Lib.hid (HT.out HA.out)
        go_wp2_with fail
        go_ret
        exact ⟨ret_bool HT1.out.symm, hE⟩
  · have hln : ((vs.length : Int) != (pl.length : Int)) = true := by rw [bne_iff_ne]; exact_mod_cast hl
    have HQ : Hid (q = false) := by show _ = _; rw [HF.out, decide_eq_false hl]; rfl
    clear HF hl
    go_enter Try.func75, Try.ntmps75
    go_wp2_with fail
    go_ret
    exact ⟨ret_bool HQ.out.symm, Ext.refl _⟩

end Go.Proofs.Ytdhdbmfipkppiaa
