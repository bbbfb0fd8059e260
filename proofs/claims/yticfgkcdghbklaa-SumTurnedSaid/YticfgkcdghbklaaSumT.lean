/- The walk of the law SumTurned. -/
import Derived.Test.YticfgkcdghbklaaSumB
import Derived.Test.YticfgkcdghbklaaSumU
import Derived.Deep.AppendLies
import Derived.BigRegion
namespace Go.Proofs.Yticfgkcdghbklaa
open Go.RowKit

def anyNZ (l : List Int) : Bool := l.any fun z => z != 0

theorem openErr_burst {p by_ : List Int} {q : Nat} (hb : Bytes by_) (h4 : by_.length ≤ 4) (hq : q + by_.length ≤ (seal_ p).length) :
    openErr (xorL (seal_ p) (burst (seal_ p).length q by_)) = if anyNZ by_ = true then 2 else 0 := by
  have hl : (seal_ p).length = p.length + 4 := by simp [seal_, le4_length]
  have ht := burst_told (p := p) (a := q) hb h4 (by omega)
  rw [← hl] at ht
  have ht : openOk (xorL (seal_ p) (burst (seal_ p).length q by_)) ↔ ∀ z ∈ by_, z = 0 := ht
  unfold openErr
  by_cases h : ∀ z ∈ by_, z = 0
  · rw [if_pos (ht.2 h), if_neg]
    simp only [anyNZ, List.any_eq_true, bne_iff_ne, ne_eq, not_exists, not_and, Decidable.not_not]
    exact h
  · rw [if_neg (fun e => h (ht.1 e)), if_pos]
    simp only [anyNZ, List.any_eq_true, bne_iff_ne, ne_eq]
    exact Classical.byContradiction fun hc => h fun z hz => Classical.byContradiction fun h0 => hc ⟨z, hz, h0⟩

theorem openErr_short {zs : List Int} (h : zs.length < 4) : openErr zs = 2 := by
  unfold openErr
  rw [if_neg]
  intro hk
  have := openOk_len hk
  omega

theorem anyNZ_snoc {l : List Int} {k : Nat} (h : k < l.length) : anyNZ (l.take (k + 1)) = (anyNZ (l.take k) || l[k]?.getD 0 != 0) := by
  unfold anyNZ
  rw [List.take_succ_eq_append_getElem h, List.any_append]
  simp [h]

set_option maxHeartbeats 3200000 in
theorem sumTurned_calls (v : Value) (a : List Int) (at_ b0 b1 b2 b3 : Int) (w : World) (hv : Ints .u8 w v a) (ha : Bytes a) (hat : -9223372036854775808 ≤ at_ ∧ at_ ≤ 9223372036854775807)
    (h0 : 0 ≤ b0 ∧ b0 ≤ 255) (h1 : 0 ≤ b1 ∧ b1 ≤ 255) (h2 : 0 ≤ b2 ∧ b2 ≤ 255) (h3 : 0 ≤ b3 ∧ b3 ≤ 255) :
    Calls Try.prog 11 #[v, .int .i64 at_, .agg #[.int .u8 b0, .int .u8 b1, .int .u8 b2, .int .u8 b3]] w fun e w' => e = .returned (.bool true) ∧ Below w.heap.size w w' := by
  obtain ⟨A, c, rfl, hlc, hcm, _, hA⟩ := id hv
  clear hA
  have hW : Below w.heap.size w (w.alloc (.cells #[.int .u8 b0, .int .u8 b1, .int .u8 b2, .int .u8 b3] 62)) := below_alloc (Below.refl _ _) (Nat.le_refl _) _
  have hcell : ∀ j, j < 4 → (w.alloc (.cells #[.int .u8 b0, .int .u8 b1, .int .u8 b2, .int .u8 b3] 62)).cell? ⟨w.heap.size, j, none⟩ = some (.int .u8 ([b0, b1, b2, b3][j]?.getD 0)) := by
    intro j hj
    rw [cell_of_row _ _ j _ _ _ (heap_alloc_new w _)]
    obtain rfl | rfl | rfl | rfl : j = 0 ∨ j = 1 ∨ j = 2 ∨ j = 3 := by omega
    all_goals rfl
  have hbz : Bytes [b0, b1, b2, b3] := by intro z hz; simp at hz; omega
  have hwl : w.heap.size < (w.alloc (.cells #[.int .u8 b0, .int .u8 b1, .int .u8 b2, .int .u8 b3] 62)).heap.size := by simp
  have hp := hv.first (m := min a.length 2000) (by omega)
  have hpl : (a.take (min a.length 2000)).length ≤ 2000 := by rw [List.length_take]; omega
  have hpe : (a.take (min a.length 2000)).length = min a.length 2000 := by rw [List.length_take]; omega
  have hpz : Bytes (a.take (min a.length 2000)) := bytes_take ha _
  generalize a.take (min a.length 2000) = p at *
  have HPE := Lib.hid hpe
  clear hpe
  go_enter Try.func11, Try.ntmps11
  go_wp2_with fail
  generalize w.alloc (.cells #[.int .u8 b0, .int .u8 b1, .int .u8 b2, .int .u8 b3] 62) = w1 at *
  refine (shown07_calls w1).mono ?_
  rintro e w2 ⟨rfl, hE2⟩
  have hE2 : Ext w1 w2 := hE2
  go_wp2_with fail
  refine (short_calls _ _ _ _ hlc hcm).mono ?_
  rintro e w' ⟨rfl, rfl⟩
  rw [← HPE.out] at hp ⊢
  have hp2 : Ints .u8 w2 (.slice A p.length c) p := (hp.below hW).ext hE2
  have hpc : p.length ≤ c := by have := HPE.out; omega
  clear hp hv
  go_wp2_with fail
  with_reducible refine (seal_calls _ p _ hp2 hpz (by omega)).mono ?_
  rintro e w3 ⟨v3, rfl, hown3, hE3⟩
  have hE3 : Ext w2 w3 := hE3
  have HSL := Lib.hid (show (seal_ p).length = p.length + 4 by simp [seal_, le4_length])
  have sl1 : (seal_ p).length ≤ p.length + 4 := by have := HSL.out; omega
  have sl2 : p.length + 4 ≤ (seal_ p).length := by have := HSL.out; omega
  have hsz := bytes_seal hpz
  obtain ⟨g, cap, rfl, hg2, hg3⟩ := hown3.form (by omega)
  have hi3 := ints_of_own hown3
  go_wp2_with (at_builtin; refine stopped ?_)
  refine wpList_append_fresh rfl rfl elem_u8 rfl hi3 rfl (one_ints _ _) (by omega) (by omega) ?_
  intro v4 w4 hown4 hE4
  have hE4 : Ext w3 w4 := hE4
  go_wp2_with fail
  with_reducible refine (open_calls _ _ _ (ints_of_own hown4) hsz (by omega)).mono ?_
  intro e w5 h
  obtain ⟨v5, rfl, hE5, hi5⟩ := h.ints
  have hE5 : Ext w4 w5 := hE5
  rw [openErr_seal]
  rw [openOut_seal] at hi5
  clear h hown4
  have hE35 := hE4.trans hE5
  have hi5' := hi5
  have k5 := conv_ext (P := Try.prog) hi5 Try.underlying22 Try.underlying5 Try.underlying9
  have e1 : Ext w2 w5 := hE3.trans hE35
  have kp := conv_ext (P := Try.prog) (hp2.ext e1) Try.underlying22 Try.underlying5 Try.underlying9
  have hip : Ints .u8 w3 (.slice (some ⟨g, 0, none⟩) p.length cap) p := by
    have := hi3.first (m := p.length) (by omega)
    rwa [show (seal_ p).take p.length = p by simp [seal_]] at this
  have k3 := conv_ext (P := Try.prog) (hip.ext hE35) Try.underlying22 Try.underlying5 Try.underlying9
  obtain ⟨_, hcap, hcm2⟩ : True ∧ (seal_ p).length ≤ cap ∧ cap ≤ maxLen := by
    obtain ⟨A', c', e', h1, h2, _⟩ := row_of_own hown3
    cases e'
    exact ⟨trivial, h1, h2⟩
  unfold maxLen at hcm2
  have hpcap : (p.length : Int) ≤ (cap : Int) := by omega
  have hlen : ((seal_ p).length : Int) = (p.length : Int) + 4 := by omega
  have hl1 : (((seal_ p).length : Int) != (p.length : Int) + 4) = false := by simp; omega
  have hl2 : IntKind.i64.wrap ((p.length : Int) + 4) = (p.length : Int) + 4 := IntWalk.i64_in _ (by omega)
  clear hlen
  go_wp2_with fail
  refine wp_region_D [(0, true), (1, true), (2, true), (3, true), (4, true), (5, true), (6, true), (7, true), (8, true), (9, true), (10, true), (11, true), (12, true), (13, true), (14, true), (15, true), (16, true), (17, true), (18, true), (19, true), (20, true), (21, true), (22, true), (23, true), (24, true), (25, true), (26, true)] (by kernel_rfl) (by kernel_rfl) (fun _ _ d _ _ h => by cases d <;> exact h) (fun w6 hE6 => ?_)
  simp only [pickE, List.getElem?_cons_zero, List.getElem?_cons_succ]
  repeat (first
    | (refine wpD_skip (by rfl) ?_; simp only [Act.put, List.setIfInBounds_toArray, List.set_cons_zero, List.set_cons_succ])
    | (refine wpD_pure (by rfl) (fun W hW => by (dsimp only [Exts] at hW; go_simp; with_reducible rfl)) ?_; simp only [Act.put, List.setIfInBounds_toArray, List.set_cons_zero, List.set_cons_succ]))
  refine wpD_nil ?_
  clear k5 kp k3 hi5 hi5' hl1 hl2 hip
  have hE26 : Ext w2 w6 := e1.trans hE6
  have hE36 : Ext w3 w6 := hE35.trans hE6
  have hE16 : Ext w1 w6 := hE2.trans hE26
  have hbF : Below w.heap.size w w6 := hW.trans (Below.mono hE16 hW.size)
  have hc6 : ∀ j, j < 4 → w6.cell? ⟨w.heap.size, j, none⟩ = some (.int .u8 ([b0, b1, b2, b3][j]?.getD 0)) := fun j hj => (hE16.cell hwl).trans (hcell j hj)
  have ho6 := (hown3.kept (grown_of_ext hE36) (by simp [Value.ownBlock]))
  rcases Int.lt_or_le at_ 0 with hn | hn
  · go_wp2_with fail
    go_ret
    exact ⟨rfl, hbF⟩
  obtain ⟨q, rfl⟩ := Int.eq_ofNat_of_zero_le hn
  rcases Nat.lt_or_ge q (seal_ p).length with hq | hq
  case inr =>
    have hq1 : ¬ ((q : Int) < 0) := by omega
    go_wp2_with fail
    go_ret
    exact ⟨rfl, hbF⟩
  go_wp2_with fail
  have e0 := turn_none (by_ := [b0, b1, b2, b3]) (a := q) hsz (by omega)
  have hsl2 : Hid ((seal_ p).length = p.length + 4) := HSL
  generalize hbb : [b0, b1, b2, b3] = bb at *
  have hbl : bb.length ≤ 4 := by rw [← hbb]; simp
  have hbl' : 4 ≤ bb.length := by rw [← hbb]; simp
  clear hbb
  have ho6' : w6.ownsRow w2.heap.size 5 1 (.slice (some ⟨g, 0, none⟩) (seal_ p).length cap) (seal_ p).length ((xorL (seal_ p) (burst (seal_ p).length q (bb.take 0))).map (.int .u8)) := by rw [e0]; exact ho6
  have hgw : w.heap.size ≠ g := by have := hE2.size; omega
  have hgB : w.heap.size ≤ g := by have := hE2.size; omega
  clear ho6 e0 hown3 hcell hE2 hE3 hE4 hE5 hE6 e1 hE26 hE36 hE16 hE35 hp2 hi3
  go_loopw [11, 12] (fun t i wr => ∃ k : Nat, k ≤ 4 ∧ q + k ≤ (seal_ p).length ∧ i = .int .i64 k ∧ t = .bool (anyNZ (bb.take k)) ∧
      wr.ownsRow w2.heap.size 5 1 (.slice (some ⟨g, 0, none⟩) (seal_ p).length cap) (seal_ p).length ((xorL (seal_ p) (burst (seal_ p).length q (bb.take k))).map (.int .u8)) ∧
      (∀ j, j < 4 → wr.cell? ⟨w.heap.size, j, none⟩ = some (.int .u8 (bb[j]?.getD 0))) ∧ Below w.heap.size w wr)
    (fun _ i _ => 4 - (intOf i).toNat)
  case atStart => exact ⟨0, by omega, by omega, rfl, rfl, ho6', hc6, hbF⟩
  case round =>
    obtain ⟨k, hk, hqk, rfl, rfl, ho, hc, hb⟩ := hrel
    clear ho6' hc6 hbF
    by_cases hin : k < 4 ∧ q + k < (seal_ p).length
    · obtain ⟨hk4, hqk4⟩ := hin
      have hlen : (xorL (seal_ p) (burst (seal_ p).length q (bb.take k))).length = (seal_ p).length := turn_length (by rw [List.length_take]; omega)
      have hx1 : wr.cell? ⟨g, q + k, none⟩ = some (.int .u8 ((seal_ p)[q + k]?.getD 0)) := by
        have h := ho.cells (g := g) rfl (q + k) (.int .u8 ((seal_ p)[q + k]?.getD 0)) (by
          rw [List.getElem?_map, ← turn_at hsz hqk4 (show k < bb.length by omega)]
          have : q + k < (xorL (seal_ p) (burst (seal_ p).length q (bb.take k))).length := by omega
          simp [this])
        rwa [add_lit, Nat.zero_add] at h
      have hx2 := hc k hk4
      have hx3 := ho.frozenAt (q + k)
      have hy1 := bytes_at hsz hqk4
      have hy2 := bytes_at hbz (k := k) (by omega)
      have HST := Lib.hid (turn_step hqk4 (show k < bb.length by omega))
      have HAN := Lib.hid (anyNZ_snoc (show k < bb.length by omega))
      have HX := Lib.hid (u8_xor ((seal_ p)[q + k]?.getD 0) (bb[k]?.getD 0) hy1.1 (by omega) hy2.1 (by omega))
      clear hlen
      have hk0 : (0 : Int) ≤ (k : Int) := by omega
      have hq0 : (0 : Int) ≤ (q : Int) + (k : Int) := by omega
      have hk44 : (k : Int) < 4 := by omega
      have hqkc : (q : Int) + (k : Int) < ((seal_ p).length : Int) := by omega
      have hqw : IntKind.i64.wrap ((q : Int) + (k : Int)) = (q : Int) + (k : Int) := IntWalk.i64_in _ (by omega)
      have hqn : ((q : Int) + (k : Int)).toNat = q + k := by omega
      generalize (seal_ p)[q + k]?.getD 0 = x at *
      go_wp2_with fail
      go_region
      have hst := ho.stored (q + k) (.int .u8 (bits .xor .u8 x (bb[k]?.getD 0)))
      have hs1 := ownsRow_drew hst.1
      have hb7 : Below w.heap.size w (wr.setCell ⟨g, q + k, none⟩ (.int .u8 (bits .xor .u8 x (bb[k]?.getD 0)))).drew := (hb.setCell hgB _).drew
      have hc7 : ∀ j, j < 4 → (wr.setCell ⟨g, q + k, none⟩ (.int .u8 (bits .xor .u8 x (bb[k]?.getD 0)))).drew.cell? ⟨w.heap.size, j, none⟩ = some (.int .u8 (bb[j]?.getD 0)) := fun j hj => by
        rw [World.cell?_drew, World.cell?_setCell_other]
        · exact hc j hj
        · intro e; injection e with e1 _; exact hgw e1.symm
      clear hst ho hb hc hx1 hx2 hx3
      generalize (wr.setCell ⟨g, q + k, none⟩ (.int .u8 (bits .xor .u8 x (bb[k]?.getD 0)))).drew = w7 at *
      rw [HX.out, ← List.map_set] at hs1
      have hx2 := hc7 k hk4
      cases hA : anyNZ (bb.take k)
      all_goals
        rw [hA] at HAN
        go_wp2_with fail
        go_roundw
        case measure => simp [intOf]; omega
        case rel => exact ⟨k + 1, by omega, by omega, by go_num, by rw [HAN.out]; rfl, by rw [← HST.out]; exact hs1, hc7, hb7⟩
    · have hend : Hid (k = 4 ∨ q + k = (seal_ p).length) := by show _ ∨ _; omega
      clear hc
      have hbk : Bytes (bb.take k) := bytes_take hbz k
      have hlk : (bb.take k).length = k := by rw [List.length_take]; omega
      have herr := openErr_burst (p := p) (q := q) hbk (by omega) (by omega)
      have hlen : (xorL (seal_ p) (burst (seal_ p).length q (bb.take k))).length = (seal_ p).length := turn_length (by omega)
      have hbt : Bytes (xorL (seal_ p) (burst (seal_ p).length q (bb.take k))) := xorL_bytes hsz (burst_bytes hbk)
      have hi := ints_of_own ho
      have HE := Lib.hid herr
      have HL := Lib.hid hlen
      clear herr hlen hlk
      generalize xorL (seal_ p) (burst (seal_ p).length q (bb.take k)) = t at *
      have hfst := hi.first (m := min (seal_ p).length 3) (by have := HL.out; omega)
      have he3 := openErr_short (zs := t.take (min (seal_ p).length 3)) (by rw [List.length_take]; omega)
      have hl3 : (t.take (min (seal_ p).length 3)).length ≤ 3 := by rw [List.length_take]; omega
      have hz3 : Bytes (t.take (min (seal_ p).length 3)) := bytes_take hbt _
      rw [show min (seal_ p).length 3 = 3 by omega] at hfst he3 hl3 hz3
      have hwlk : (k < 4 ∧ q + k = (seal_ p).length) ∨ k = 4 := by have := hend.out; omega
      clear hend
      cases hA : anyNZ (bb.take k) <;> rcases hwlk with ⟨hk4, hqe⟩ | rfl
      all_goals
        rw [hA] at HE
        have HE := Lib.hid (HE.out.trans (show _ = (_ : Int) from by first | exact if_pos rfl | exact if_neg (by simp)))
        try have hqe' : (q : Int) + (k : Int) = ((seal_ p).length : Int) := by omega
        try have hqn : ¬ ((q : Int) + (k : Int) < ((seal_ p).length : Int)) := by omega
        try have HQE := Lib.hid hqe
        try clear hqe
        try have HQE' := Lib.hid hqe'
        try clear hqe'
        go_wp2_with fail
        with_reducible refine (open_calls _ t _ hi hbt (by have := HL.out; omega)).mono ?_
        intro e w8 h
        obtain ⟨v8, rfl, hE8, hi8⟩ := h.ints
        have hE8 : Ext wr w8 := hE8
        rw [HE.out]
        clear h hi8
        go_wp2_with fail
        rw [show (min ((seal_ p).length : Int) 3).toNat = 3 from by omega]
        with_reducible refine (open_calls _ _ _ (hfst.ext hE8) hz3 (by omega)).mono ?_
        intro e w9 h
        obtain ⟨v9, rfl, hE9, hi9⟩ := h.ints
        have hE9 : Ext w8 w9 := hE9
        rw [he3]
        clear h hi9
        go_wp2_with fail
        go_ret
        exact ⟨rfl, hb.trans (Below.mono (hE8.trans hE9) hb.size)⟩

end Go.Proofs.Yticfgkcdghbklaa
