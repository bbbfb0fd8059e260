/- image.May's look at the places: the function value, and slices.EqualFunc over values and places. -/
/- The walk of isa.fields. -/
/- Commands compared: a whole command against another. -/
import Derived.Test.YtmddlhfahfelpaaGrk
import Derived.Test.YtmddlhfahfelpaaRga
import Derived.Deep.CutBlock
import Derived.DeepKeys
set_option linter.unusedSimpArgs false
set_option linter.unusedVariables false
set_option linter.unnecessarySimpa false
namespace Go.Proofs.Ytmddlhfahfelpaa
open Go.RowKit

/-- Does a value fit at a place? -/
def fitB (v : Vl) (p : Int) : Bool := decide (0 ≤ p) && decide (p ≤ 65536 - sizeZ v.s)
def fitsB (vs : List Vl) (pl : List Int) : Bool := decide (vs.length = pl.length) && (List.range vs.length).all fun j => fitB (vs[j]?.getD default) (pl[j]?.getD 0)

set_option maxHeartbeats 1600000 in
theorem fit1_calls (x : Vl) (p : Int) (w : World) (hp : InK .i64 p) : Calls Try.prog 32 #[.agg #[.int .i64 x.s.h, .int .i64 x.s.w, .int .i64 x.s.c, .int .i64 x.z], .int .i64 p] w fun e w' => e = .returned (.bool (fitB x p)) ∧ Ext w w' := by
  have HF : Hid (fitB x p = (decide (0 ≤ p) && decide (p ≤ 65536 - sizeZ x.s))) := rfl
  have hsz := sizeZ_range x.s
  have hs := fun W => size_calls x.s W
  have hE := ext_alloc w (.cells #[.int .i64 x.s.h, .int .i64 x.s.w, .int .i64 x.s.c, .int .i64 x.z] 44)
  have hb := Blk.new w #[.int .i64 x.s.h, .int .i64 x.s.w, .int .i64 x.s.c, .int .i64 x.z] 44
  generalize fitB x p = q at *
  generalize sizeZ x.s = sz at *
  simp only [InK] at hp
  by_cases h0 : 0 ≤ p
  · have HQ : Hid (q = decide (p ≤ 65536 - sz)) := by show _ = _; rw [HF.out, decide_eq_true h0]; rfl
    have hw1 : IntKind.i64.wrap (65536 - sz) = 65536 - sz := IntWalk.i64_in _ (by omega)
    clear HF
    go_enter Try.func32, Try.ntmps32
    go_upto_region 1 with fail
    generalize World.alloc w _ = w1 at *
    have c0 : World.cell? w1 ⟨w.heap.size, 0, none⟩ = some (.int .i64 x.s.h) := hb.cell 0
    have c1 : World.cell? w1 ⟨w.heap.size, 1, none⟩ = some (.int .i64 x.s.w) := hb.cell 1
    have c2 : World.cell? w1 ⟨w.heap.size, 2, none⟩ = some (.int .i64 x.s.c) := hb.cell 2
    go_wp2_with fail
    refine (hs _).mono ?_
    rintro e w2 ⟨rfl, h2⟩
    clear c0 c1 c2 hs hb
    go_wp2_with fail
    go_ret
    exact ⟨ret_bool HQ.out.symm, hE.trans h2⟩
  · have HQ : Hid (q = false) := by show _ = _; rw [HF.out, decide_eq_false h0]; rfl
    clear HF
    go_enter Try.func32, Try.ntmps32
    go_wp2_with fail
    go_ret
    exact ⟨ret_bool HQ.out.symm, hE⟩

set_option maxRecDepth 8000 in
set_option maxHeartbeats 3200000 in
theorem eqVP_calls (vV pV : Value) (vs : List Vl) (pl : List Int) (w : World) (hv : Vls w vV vs) (hp : Ints .i64 w pV pl) (hpk : ∀ z ∈ pl, InK .i64 z) :
    Calls Try.prog 31 #[vV, pV, .func (.func 32) #[] #[]] w fun e w' => e = .returned (.bool (fitsB vs pl)) ∧ Ext w w' := by
  obtain ⟨Av, cv, rfl, hv1, hv2, hvc⟩ := id hv.form
  obtain ⟨Ap, cp, rfl, hp1, hp2, hpc⟩ := id hp.form
  unfold maxLen at hv2 hp2
  have HVC := Lib.hid hvc
  have HPC := Lib.hid hpc
  have eg := enters_of Try.func32 (by kernel_rfl) rfl
  have HF : Hid (fitsB vs pl = (decide (vs.length = pl.length) && (List.range vs.length).all fun j => fitB (vs[j]?.getD default) (pl[j]?.getD 0))) := rfl
  generalize fitsB vs pl = q at *
  clear hvc hpc hv hp
  by_cases hl : vs.length = pl.length
  · have HL := Lib.hid hl
    have hln : ((vs.length : Int) != (pl.length : Int)) = false := by rw [bne_eq_false_iff_eq]; exact_mod_cast hl
    have HT : Hid ((∀ j, j < vs.length → fitB (vs[j]?.getD default) (pl[j]?.getD 0) = true) → q = true) := by
      show _ → _
      intro h
      rw [HF.out, decide_eq_true hl, Bool.true_and, List.all_eq_true]
      intro j hj
      exact h j (by simpa using hj)
    have HX : Hid (∀ j, j < vs.length → fitB (vs[j]?.getD default) (pl[j]?.getD 0) = false → q = false) := by
      intro j hj h
      rw [HF.out, decide_eq_true hl, Bool.true_and, Bool.eq_false_iff]
      intro ha
      have := List.all_eq_true.1 ha j (by simpa using hj)
      rw [h] at this
      cases this
    clear HF hl
    go_enter Try.func31, Try.ntmps31
    go_wp2_with fail
    go_loopw [17] (fun i wr => ∃ k : Nat, k ≤ vs.length ∧ i = .int .i64 k ∧ Hid (∀ j, j < k → fitB (vs[j]?.getD default) (pl[j]?.getD 0) = true) ∧ Ext w wr) (fun i _ => vs.length - (intOf i).toNat)
    case atStart => exact ⟨0, by omega, rfl, (fun j hj => by omega), Ext.refl _⟩
    case round =>
      obtain ⟨k, hk, rfl, HA, hE⟩ := hrel
      by_cases hlt : k < vs.length
      · have hlp : k < pl.length := by have := HL.out; omega
        have hvs : vs[k]? = some vs[k] := by simp [hlt]
        have hps : pl[k]? = some pl[k] := by simp [hlp]
        obtain ⟨bv, offv, rfl, hbv, hc⟩ := HVC.out k _ hvs
        obtain ⟨bp, offp, rfl, d0⟩ := HPC.out k hlp
        have hk0 := HX.out k hlt
        have hkp := hpk _ (List.getElem_mem hlp)
        have HK1 : Hid (fitB (vs[k]?.getD default) (pl[k]?.getD 0) = true → ∀ j, j < k + 1 → fitB (vs[j]?.getD default) (pl[j]?.getD 0) = true) := by
          show _ → _
          intro h j hj
          rcases Nat.lt_or_ge j k with h1 | h1
          · exact HA.out j h1
          · obtain rfl : j = k := by omega
            exact h
        rw [hvs, hps] at hk0 HK1
        rw [hps] at d0
        simp only [Option.getD_some] at hk0 HK1 d0
        generalize vs[k] = x at *
        generalize pl[k] = p at *
        have hfc := fun W => fit1_calls x p W hkp
        have v0 : World.cell? wr ⟨bv, offv + k * 4, none⟩ = some (.int .i64 x.s.h) := cell_ext (hc 0 _ rfl) _ hE
        have v1 : World.cell? wr ⟨bv, offv + k * 4 + 1, none⟩ = some (.int .i64 x.s.w) := cell_ext (hc 1 _ rfl) _ hE
        have v2 : World.cell? wr ⟨bv, offv + k * 4 + 2, none⟩ = some (.int .i64 x.s.c) := cell_ext (hc 2 _ rfl) _ hE
        have v3 : World.cell? wr ⟨bv, offv + k * 4 + 3, none⟩ = some (.int .i64 x.z) := cell_ext (hc 3 _ rfl) _ hE
        replace d0 := cell_ext d0 _ hE
        have hz := Blk.new wr #[.int .i64 0, .int .i64 0, .int .i64 0, .int .i64 0] 44
        have hb8 : Blk ((wr.alloc (.cells #[.int .i64 0, .int .i64 0, .int .i64 0, .int .i64 0] 44)).setRow wr.heap.size #[.int .i64 x.s.h, .int .i64 x.s.w, .int .i64 x.s.c, .int .i64 x.z]) wr.heap.size #[.int .i64 x.s.h, .int .i64 x.s.w, .int .i64 x.s.c, .int .i64 x.z] 44 := setRow_heap _ _ _ _ _ _ hz
        have hQ : Ext wr ((wr.alloc (.cells #[.int .i64 0, .int .i64 0, .int .i64 0, .int .i64 0] 44)).setRow wr.heap.size #[.int .i64 x.s.h, .int .i64 x.s.w, .int .i64 x.s.c, .int .i64 x.z]) := ext_setRow (ext_alloc _ _) _ (Nat.le_refl _)
        have d1 := cell_ext d0 _ hQ
        have hE2 := hE.trans hQ
        clear hvs hps hc hQ d0 hkp HA
        go_upto_region 6 with (refine wpList_store_row rfl 44 _ _ rfl wr.heap.size #[.int .i64 x.s.h, .int .i64 x.s.w, .int .i64 x.s.c, .int .i64 x.z] rfl rfl 44 _ hz (by kernel_rfl) rfl (by simp [Value.oneCell']) ?_)
        clear v0 v1 v2 v3 hz
        generalize World.setRow (World.alloc wr _) _ _ = w1 at *
        generalize wr.heap.size = b8 at *
        have u0 : World.cell? w1 ⟨b8, 0, none⟩ = some (.int .i64 x.s.h) := hb8.cell 0
        have u1 : World.cell? w1 ⟨b8, 1, none⟩ = some (.int .i64 x.s.w) := hb8.cell 1
        have u2 : World.cell? w1 ⟨b8, 2, none⟩ = some (.int .i64 x.s.c) := hb8.cell 2
        have u3 : World.cell? w1 ⟨b8, 3, none⟩ = some (.int .i64 x.z) := hb8.cell 3
        replace hfc := hfc w1
        cases hq : fitB x p with
        | true =>
          have HT1 := Lib.hid (HK1.out hq)
          rw [hq] at hfc
          clear HK1 hq hk0
          go_wp2_with fail
          refine hfc.mono ?_
          rintro e w2 ⟨rfl, h2⟩
          clear u0 u1 u2 u3 d1 hfc
          go_wp2_with fail
          go_roundw
          case rel => exact ⟨k + 1, by omega, by go_num, HT1, hE2.trans h2⟩
          case measure => simp [intOf]; omega
        | false =>
          have HT1 := Lib.hid (hk0 hq)
          rw [hq] at hfc
          clear HK1 hq hk0
          go_wp2_with fail
          refine hfc.mono ?_
          rintro e w2 ⟨rfl, h2⟩
          clear u0 u1 u2 u3 d1 hfc
          go_wp2_with fail
          go_ret
          exact ⟨ret_bool HT1.out.symm, hE2.trans h2⟩
      · have hkk : k = vs.length := by omega
        subst hkk
        have HT1 := Lib.hid (HT.out HA.out)
        go_wp2_with fail
        go_ret
        exact ⟨ret_bool HT1.out.symm, hE⟩
  · have hln : ((vs.length : Int) != (pl.length : Int)) = true := by rw [bne_iff_ne]; exact_mod_cast hl
    have HQ : Hid (q = false) := by show _ = _; rw [HF.out, decide_eq_false hl]; rfl
    clear HF hl
    go_enter Try.func31, Try.ntmps31
    go_wp2_with fail
    go_ret
    exact ⟨ret_bool HQ.out.symm, Ext.refl _⟩

end Go.Proofs.Ytmddlhfahfelpaa

namespace Go.Proofs.Ytmddlhfahfelpaa.Isa
set_option maxRecDepth 10000
open Go.RowKit

theorem row_lit (W : World) (cs : Array Value) (e : TypeId) (n sz g : Nat) (hg : W.heap.size = g) (h : cs.size = n * sz) (hn : n ≤ maxLen) : Row (W.alloc (.cells cs e)) (.slice (some ⟨g, 0, none⟩) n n) n sz cs.toList := by
  subst hg
  exact row_new W cs e n sz h hn
theorem own_lit (W : World) (cs : Array Value) (e : TypeId) (n sz g base : Nat) (hg : W.heap.size = g) (hb : base ≤ g) (h : cs.size = n * sz) (hn : n ≤ maxLen) : (W.alloc (.cells cs e)).ownsRow base e sz (.slice (some ⟨g, 0, none⟩) n n) n cs.toList := by
  subst hg
  exact ⟨by simpa using h, .inr ⟨W.heap.size, n, cs, rfl, hb, heap_alloc_new W _, Nat.le_refl _, hn, h, List.take_of_length_le (by rw [Array.length_toList, h]; exact Nat.le_refl _)⟩⟩

theorem heap_old (w : World) (o : Obj) (k : Nat) (h : k < w.heap.size) : (w.alloc o).heap[k]? = w.heap[k]? := (below_alloc (Below.refl _ _) (Nat.le_refl _) o).block k h
theorem heap_new (w : World) (o : Obj) (k : Nat) (h : w.heap.size = k) : (w.alloc o).heap[k]? = some o := by subst h; exact heap_alloc_new w o

/-- The cells of one field that stand in a block. -/
def FdBox (w : World) (g b : Nat) (x : Fd) : Prop := w.heap[g]? = some (.cells #[.pointer (some ⟨b, x.at_, none⟩), .int .i64 x.wide, .int .i64 x.low, .int .i64 x.high] 101 (0, 0))
theorem FdBox.cells {w : World} {g b : Nat} {x : Fd} (h : FdBox w g b x) : w.cell? ⟨g, 0, none⟩ = some (.pointer (some ⟨b, x.at_, none⟩)) ∧ w.cell? ⟨g, 1, none⟩ = some (.int .i64 x.wide) ∧ w.cell? ⟨g, 2, none⟩ = some (.int .i64 x.low) ∧ w.cell? ⟨g, 3, none⟩ = some (.int .i64 x.high) := by
  unfold FdBox at h
  refine ⟨?_, ?_, ?_, ?_⟩ <;> simp [World.cell?, h]

theorem three_boxes (w : World) (b : Nat) : ∀ W, W = ((w.alloc (.cells #[.pointer (some ⟨b, 4, none⟩), .int .i64 1, .int .i64 1, .int .i64 16] 101)).alloc (.cells #[.pointer (some ⟨b, 2, none⟩), .int .i64 1, .int .i64 0, .int .i64 11] 101)).alloc (.cells #[.pointer (some ⟨b, 7, none⟩), .int .i64 2, .int .i64 0, .int .i64 1023] 101) →
    Below w.heap.size w W ∧ W.heap.size = w.heap.size + 1 + 1 + 1 ∧ FdBox W w.heap.size b ⟨4, 1, 1, 16⟩ ∧ FdBox W (w.heap.size + 1) b ⟨2, 1, 0, 11⟩ ∧ FdBox W (w.heap.size + 1 + 1) b ⟨7, 2, 0, 1023⟩ := by
  rintro W rfl
  refine ⟨below_alloc (below_alloc (below_alloc (Below.refl _ _) (Nat.le_refl _) _) (by simp) _) (by simp; omega) _, by simp, ?_, ?_, ?_⟩
  · unfold FdBox
    rw [heap_old _ _ _ (by simp; omega), heap_old _ _ _ (by simp), heap_alloc_new]
    rfl
  · unfold FdBox
    rw [heap_old _ _ _ (by simp)]
    exact heap_new _ _ _ (by simp)
  · unfold FdBox
    exact heap_new _ _ _ (by simp)

set_option maxHeartbeats 3200000 in
theorem fields_calls (b : Nat) (z : Int) (w : World) (hc : w.cell? ⟨b, 0, none⟩ = some (.int .i64 z)) :
    Calls Try.prog 56 #[.pointer (some ⟨b, 0, none⟩)] w (FieldsPost b z w) := by
  have hb := World.block_lt_of_cell? w _ hc
  simp only at hb
  go_enter Try.func56, Try.ntmps56
  have hb1 : b < w.heap.size + 1 := by omega
  have hb2 : b < w.heap.size + 1 + 1 := by omega
  go_upto_block 0 with fail
  clear hb1 hb2
  obtain ⟨hB, hsz, f4, f5, f6⟩ := three_boxes w b _ rfl
  generalize ((w.alloc _).alloc _).alloc _ = W at *
  have z0 := hc
  rw [← hB.cell (p := ⟨b, 0, none⟩) hb] at z0
  obtain ⟨x40, x41, x42, x43⟩ := f4.cells
  obtain ⟨x50, x51, x52, x53⟩ := f5.cells
  obtain ⟨x60, x61, x62, x63⟩ := f6.cells
  have HS := Lib.hid hsz
  clear f4 f5 f6 hc hsz
  by_cases h1 : z = 1 ∨ z = 2
  · rcases h1 with rfl | rfl
    all_goals
      go_wp2_with fail
      go_region
      go_wp2_with fail
      go_ret2
      exact ⟨_, rfl, (row_lit _ _ _ 4 4 _ rfl rfl (by unfold maxLen; omega)).drew, fun k hk => by cases hk; exact hB.size, (below_alloc hB hB.size _).drew⟩
  · by_cases h3 : z = 3
    · subst h3
      go_wp2_with fail
      go_region
      have hown := ownsRow_drew (own_lit W #[.pointer (some ⟨b, 2, none⟩), .int .i64 1, .int .i64 0, .int .i64 11, .pointer (some ⟨b, 3, none⟩), .int .i64 1, .int .i64 0, .int .i64 15, .pointer (some ⟨b, 4, none⟩), .int .i64 1, .int .i64 1, .int .i64 16, .pointer (some ⟨b, 7, none⟩), .int .i64 2, .int .i64 0, .int .i64 1023] 101 4 4 W.heap.size w.heap.size rfl hB.size rfl (by unfold maxLen; omega))
      have hbel := (below_alloc hB hB.size (.cells #[.pointer (some ⟨b, 2, none⟩), .int .i64 1, .int .i64 0, .int .i64 11, .pointer (some ⟨b, 3, none⟩), .int .i64 1, .int .i64 0, .int .i64 15, .pointer (some ⟨b, 4, none⟩), .int .i64 1, .int .i64 1, .int .i64 16, .pointer (some ⟨b, 7, none⟩), .int .i64 2, .int .i64 0, .int .i64 1023] 101)).drew
      clear z0 x40 x41 x42 x43 x50 x51 x52 x53 x60 x61 x62 x63
      go_upto_block 1 with fail
      go_wp2_with fail
      go_loopw [7, 49] (fun v i wr => ∃ k : Nat, k ≤ 2 ∧ i = .int .i64 k ∧ wr.ownsRow w.heap.size 101 4 v (4 + 3 * k) (Fds b (tileN k)) ∧ Below w.heap.size w wr) (fun _ i _ => 2 - (intOf i).toNat)
      case atStart => exact ⟨0, by omega, rfl, hown, hbel⟩
      case round =>
        clear hown hbel
        obtain ⟨k, hk, rfl, hown, hbel⟩ := hrel
        by_cases hlt : k < 2
        · go_wp2_with fail
          refine wp_region_S (fun _ => True) [(0, true), (1, true), (2, true), (3, true), (4, true), (5, true), (6, true), (7, true), (8, true), (9, true), (10, true), (11, true), (12, true), (13, true), (14, true), (15, true), (16, true), (17, true), (18, true), (19, false), (20, false), (21, true)] (by kernel_rfl) (by kernel_rfl) (fun _ _ d _ _ h => by cases d <;> exact h) trivial ?_
          simp only [pickE, List.getElem?_cons_zero, List.getElem?_cons_succ]
          repeat (refine wpF_pure (by rfl) (fun W _ => by go_simp; with_reducible rfl) ?_; simp only [Act.put, List.setIfInBounds_toArray, List.set_cons_zero, List.set_cons_succ])
          refine wpF_step (by rfl) (fun K hK => ?_)
          go_simp
          refine hK _ _ trivial ?_
          clear hK K
          have hnew := row_lit wr.drew #[.pointer (some ⟨b, 8 + k, none⟩), .int .i64 2, .int .i64 0, .int .i64 1023, .pointer (some ⟨b, 10 + k, none⟩), .int .i64 1, .int .i64 0, .int .i64 15, .pointer (some ⟨b, 12 + k, none⟩), .int .i64 1, .int .i64 0, .int .i64 16] 101 3 4 wr.heap.size rfl rfl (by unfold maxLen; omega)
          have hown1 := (ownsRow_drew hown).alloc (.cells #[.pointer (some ⟨b, 8 + k, none⟩), .int .i64 2, .int .i64 0, .int .i64 1023, .pointer (some ⟨b, 10 + k, none⟩), .int .i64 1, .int .i64 0, .int .i64 15, .pointer (some ⟨b, 12 + k, none⟩), .int .i64 1, .int .i64 0, .int .i64 16] 101 (0, 0))
          have hbel1 := below_alloc hbel.drew hbel.drew.size (.cells #[.pointer (some ⟨b, 8 + k, none⟩), .int .i64 2, .int .i64 0, .int .i64 1023, .pointer (some ⟨b, 10 + k, none⟩), .int .i64 1, .int .i64 0, .int .i64 15, .pointer (some ⟨b, 12 + k, none⟩), .int .i64 1, .int .i64 0, .int .i64 16] 101 (0, 0))
          refine wpF_step (by rfl) (fun K hK => ?_)
          refine wp_append_row rfl elem_fd hown1 rfl hnew rfl (fds_one b (tileIn k)) (by omega) (by omega) hbel1.size (fun v' w' ho hg hn => hK _ _ trivial ?_)
          clear hK K
          have hown2 : w'.ownsRow w.heap.size 101 4 v' (4 + 3 * (k + 1)) (Fds b (tileN (k + 1))) := by
            have e : Fds b (tileN (k + 1)) = Fds b (tileN k) ++ Fds b (tileIn k) := fds_append b _ _
            rw [e, show 4 + 3 * (k + 1) = 4 + 3 * k + 3 from by omega]
            exact ho
          have hbel2 := below_own hbel1 hbel1.size hown1 (Nat.le_refl _) hg
          clear hown1 hbel1 ho hg hn hnew
          simp only [Act.put, List.setIfInBounds_toArray, List.set_cons_zero, List.set_cons_succ]
          repeat (refine wpF_pure (by rfl) (fun W _ => by go_simp; with_reducible rfl) ?_; simp only [Act.put, List.setIfInBounds_toArray, List.set_cons_zero, List.set_cons_succ])
          refine wpF_nil ?_
          go_wp2_with fail
          go_roundw
          case rel => exact ⟨k + 1, by omega, by go_num, hown2, hbel2⟩
          case measure => simp [intOf]; omega
        · obtain rfl : k = 2 := by omega
          go_wp2_with fail
          go_ret2
          exact ⟨_, rfl, row_of_own hown, fun k hk => (hown.lt k hk).1, hbel⟩
    · by_cases h4 : z = 4
      · subst h4
        go_wp2_with fail
        go_ret2
        exact ⟨_, rfl, row_lit _ _ _ 2 4 _ rfl rfl (by unfold maxLen; omega), fun k hk => by cases hk; exact hB.size, below_alloc hB hB.size _⟩
      · by_cases h5 : z = 5 ∨ z = 6
        · rcases h5 with rfl | rfl
          all_goals
            go_wp2_with fail
            go_ret2
            exact ⟨_, rfl, row_lit _ _ _ 1 4 _ rfl rfl (by unfold maxLen; omega), fun k hk => by cases hk; exact hB.size, below_alloc hB hB.size _⟩
        · have h12 : ¬ z = 1 ∧ ¬ z = 2 ∧ ¬ z = 3 ∧ ¬ z = 4 ∧ ¬ z = 5 ∧ ¬ z = 6 := by omega
          obtain ⟨g1, g2, g3, g4, g5, g6⟩ := h12
          have HT : Hid (tbl z = []) := by
            show _ = _
            unfold tbl
            rw [if_neg (by omega), if_neg (by omega), if_neg (by omega), if_neg (by omega)]
          have HO : Hid (okK z = (z == 7)) := by
            show _ = _
            unfold okK
            rw [Bool.eq_iff_iff, decide_eq_true_iff, beq_iff_eq]
            omega
          go_wp2_with fail
          go_region
          go_wp2_with fail
          go_ret2
          refine ⟨.slice none 0 0, by rw [HO.out]; rfl, ?_, (fun k hk => by cases hk), hB.drew⟩
          rw [HT.out]
          exact row_nil _ _

end Go.Proofs.Ytmddlhfahfelpaa.Isa

namespace Go.Proofs.Ytmddlhfahfelpaa.Isa
set_option maxRecDepth 10000
open Go.RowKit

section
variable {P : Program} {d : Nat} {xs ys : Array Value} {a b : Value} {r s : Bool} {w : World}

theorem eqFields_step {f : Field} {fs : List Field} (hn : f.name ≠ "_") (ha : (part f.type xs f.offset).run P w = .ok a w) (hb : (part f.type ys f.offset).run P w = .ok b w) (he : (Op.equalIn d f.type a b).run P w = .ok r w)
    (hr : (Op.eqFields d xs ys fs).run P w = .ok s w) : (Op.eqFields d xs ys (f :: fs)).run P w = .ok (r && s) w := by
  rw [Op.eqFields]
  simp only [if_pos hn, Sem.run_bind, ha, hb, he, Result.andThen_ok]
  cases r
  · simp
  · simpa using hr

theorem eqItems_step {e : TypeId} {c i : Nat} {is : List Nat} (ha : (part e xs (i * c)).run P w = .ok a w) (hb : (part e ys (i * c)).run P w = .ok b w) (he : (Op.equalIn d e a b).run P w = .ok r w)
    (hr : (Op.eqItems d e c xs ys is).run P w = .ok s w) : (Op.eqItems d e c xs ys (i :: is)).run P w = .ok (r && s) w := by
  rw [Op.eqItems]
  simp only [Sem.run_bind, ha, hb, he, Result.andThen_ok]
  cases r
  · simp
  · simpa using hr
end

theorem eq_i64 (d : Nat) (w : World) (x y : Int) : (Op.equalIn (d + 1) 3 (.int .i64 x) (.int .i64 y)).run Try.prog w = .ok (x == y) w := run_equalIn_int w d _ _ _ _ _ Try.underlying3

theorem eq_pair (d : Nat) (w : World) (x0 x1 y0 y1 : Int) : (Op.equalIn (d + 2) 45 (.agg #[.int .i64 x0, .int .i64 x1]) (.agg #[.int .i64 y0, .int .i64 y1])).run Try.prog w = .ok ((x0 == y0) && ((x1 == y1) && true)) w := by
  obtain ⟨i, hi⟩ := info_of_underlying (P := Try.prog) Try.underlying3
  rw [run_equalIn_array w (d + 1) _ _ Try.underlying45 hi]
  have hc : Try.prog.cellsOf 3 = 1 := by kernel_rfl
  rw [hc]
  refine eqItems_step (by kernel_rfl) (by kernel_rfl) (eq_i64 _ _ _ _) ?_
  refine eqItems_step (by kernel_rfl) (by kernel_rfl) (eq_i64 _ _ _ _) ?_
  simp [Op.eqItems]

theorem l_inj {c c' : Cm} (h : c.l = c'.l) : c = c' := by
  obtain ⟨k, s, n, f, r, o, d, p, i0, i1, b0, b1, h0, h1⟩ := c
  obtain ⟨k', s', n', f', r', o', d', p', i0', i1', b0', b1', h0', h1'⟩ := c'
  simp only [Cm.l, List.cons.injEq, and_true] at h
  obtain ⟨rfl, rfl, rfl, rfl, rfl, rfl, rfl, rfl, rfl, rfl, rfl, rfl, rfl, rfl⟩ := h
  rfl

theorem cmd_equal (c c' : Cm) (w : World) : (Op.equalIn 10000 47 c.v c'.v).run Try.prog w = .ok (decide (c = c')) w := by
  have h : (Op.equalIn (9999 + 1) 47 c.v c'.v).run Try.prog w = .ok ((c.k == c'.k) && ((c.s == c'.s) && ((c.n == c'.n) && ((c.f == c'.f) && ((c.r == c'.r) && ((c.o == c'.o) && ((c.d == c'.d) && ((c.p == c'.p) &&
      (((c.i0 == c'.i0) && ((c.i1 == c'.i1) && true)) && (((c.b0 == c'.b0) && ((c.b1 == c'.b1) && true)) && (((c.h0 == c'.h0) && ((c.h1 == c'.h1) && true)) && true))))))))))) w := by
    unfold Cm.v
    rw [run_equalIn_agg w 9999 _ _ _ (by kernel_rfl) (by kernel_rfl)]
    refine eqFields_step (by decide) (by kernel_rfl) (by kernel_rfl) (eq_i64 9998 _ _ _) ?_
    refine eqFields_step (by decide) (by kernel_rfl) (by kernel_rfl) (eq_i64 9998 _ _ _) ?_
    refine eqFields_step (by decide) (by kernel_rfl) (by kernel_rfl) (eq_i64 9998 _ _ _) ?_
    refine eqFields_step (by decide) (by kernel_rfl) (by kernel_rfl) (eq_i64 9998 _ _ _) ?_
    refine eqFields_step (by decide) (by kernel_rfl) (by kernel_rfl) (eq_i64 9998 _ _ _) ?_
    refine eqFields_step (by decide) (by kernel_rfl) (by kernel_rfl) (eq_i64 9998 _ _ _) ?_
    refine eqFields_step (by decide) (by kernel_rfl) (by kernel_rfl) (eq_i64 9998 _ _ _) ?_
    refine eqFields_step (by decide) (by kernel_rfl) (by kernel_rfl) (eq_i64 9998 _ _ _) ?_
    refine eqFields_step (by decide) (by kernel_rfl) (by kernel_rfl) (eq_pair 9997 _ _ _ _ _) ?_
    refine eqFields_step (by decide) (by kernel_rfl) (by kernel_rfl) (eq_pair 9997 _ _ _ _ _) ?_
    refine eqFields_step (by decide) (by kernel_rfl) (by kernel_rfl) (eq_pair 9997 _ _ _ _ _) ?_
    simp [Op.eqFields]
  rw [show (10000 : Nat) = 9999 + 1 from rfl, h]
  congr 1
  rw [Bool.eq_iff_iff, decide_eq_true_iff]
  simp only [Bool.and_eq_true, beq_iff_eq, and_true]
  constructor
  · rintro ⟨h1, h2, h3, h4, h5, h6, h7, h8, ⟨h9, h10⟩, ⟨h11, h12⟩, h13, h14⟩
    refine l_inj ?_
    unfold Cm.l
    rw [h1, h2, h3, h4, h5, h6, h7, h8, h9, h10, h11, h12, h13, h14]
  · rintro rfl
    simp

theorem cmd_neq (c c' : Cm) (w : World) : (binOp .neq 47 c.v c'.v).run Try.prog w = .ok (.bool (!decide (c = c'))) w := by
  have := cmd_equal c c' w
  unfold Cm.v at this ⊢
  rw [run_neq_struct, this]
  rfl

end Go.Proofs.Ytmddlhfahfelpaa.Isa
