/- The walks of at, wide and take of the reference of commands. -/
/- The reference's commands against the program's: plain words on lists. -/
import Derived.Test.YtdhdbmfipkppiaaGreatNsaC
import Derived.Test.YtdhdbmfipkppiaaGreatNsaZ
import Derived.Deep.CutBlock
import Derived.Deep.DeepCutAuto
set_option linter.unusedSimpArgs false
set_option linter.unusedVariables false
set_option linter.unnecessarySimpa false
namespace Go.Proofs.YtdhdbmfipkppiaaGreat.Isa
set_option maxRecDepth 10000
open Go.RowKit

/-- The number of so many bytes at a place. -/
def atZ (zs : List Int) (k n : Nat) : Int := numOf ((zs.drop k).take n)

theorem atZ_succ {zs : List Int} {k j : Nat} (h : k + j < zs.length) : atZ zs k (j + 1) = 256 * atZ zs k j + zs[k + j] := by
  unfold atZ
  rw [List.take_succ_eq_append_getElem (by rw [List.length_drop]; omega), numOf_snoc]
  simp

theorem atZ_range {zs : List Int} (hz : Bytes zs) {k n : Nat} (h : k + n ≤ zs.length) : 0 ≤ atZ zs k n ∧ atZ zs k n < 256 ^ n :=
  numOf_range n _ (by rw [List.length_take, List.length_drop]; omega) ((hz.drop k).take n)

set_option maxHeartbeats 1600000 in
theorem at_calls (v : Value) (zs : List Int) (k n : Nat) (w : World) (hv : Ints .u8 w v zs) (hz : Bytes zs) (hn : n ≤ 4) (hk : k + n ≤ zs.length) :
    Calls Tryz.prog 46 #[v, .int .i64 k, .int .i64 n] w fun e w' => e = .returned (.int .i64 (atZ zs k n)) ∧ w = w' := by
  obtain ⟨A, c, rfl, hlc, hcm, hcell⟩ := hv.form
  unfold maxLen at hcm
  have h0 : (0 : Int) = atZ zs k 0 := rfl
  have H0 := Lib.hid h0
  clear h0
  go_enter Tryz.func46, Tryz.ntmps46
  go_wp2_with fail
  go_loop [7, 8] (fun x i => ∃ j : Nat, j ≤ n ∧ i = .int .i64 j ∧ x = .int .i64 (atZ zs k j)) (fun _ i => n - (intOf i).toNat)
  case atStart => exact ⟨0, by omega, rfl, rfl⟩
  case round =>
    obtain ⟨j, hj, rfl, rfl⟩ := hrel
    by_cases hlt : j < n
    · have hkj : k + j < zs.length := by omega
      obtain ⟨g, off, rfl, x0⟩ := hcell (k + j) hkj
      have hx : zs[k + j]?.getD 0 = zs[k + j] := by simp [hkj]
      rw [hx] at x0
      have HS := Lib.hid (atZ_succ hkj)
      have hr := atZ_range hz (show k + j ≤ zs.length by omega)
      have hb : atZ zs k j < 4294967296 := by
        have : (256 : Int) ^ j ≤ 16777216 := by rcases (by omega : j = 0 ∨ j = 1 ∨ j = 2 ∨ j = 3) with e | e | e | e <;> rw [e] <;> decide
        omega
      have hr0 := hr.1
      have hzz := hz zs[k + j] (List.getElem_mem hkj)
      have hkn : (0 : Int) ≤ (k : Int) + (j : Int) := by omega
      have hkn2 : ((k : Int) + (j : Int)).toNat = k + j := by omega
      have hkn3 : (k : Int) + (j : Int) < zs.length := by omega
      clear hx hr hcell
      generalize atZ zs k j = x at *
      generalize zs[k + j] = z at *
      go_wp2_with fail
      go_round
      case rel => exact ⟨j + 1, by omega, by go_num, by rw [HS.out]⟩
      case measure => simp [intOf]; omega
    · obtain rfl : j = n := by omega
      go_wp2_with fail
      go_ret
      exact ⟨rfl, rfl⟩

def wideZ (b : Int) : Nat := if b = 1 ∨ b = 2 then 9 else if b = 3 then 14 else if b = 4 then 3 else if b = 5 ∨ b = 6 then 2 else if b = 7 then 1 else 0

set_option maxHeartbeats 1600000 in
theorem wide_calls (b : Int) (w : World) (hb : 0 ≤ b ∧ b ≤ 255) : Calls Tryz.prog 47 #[.int .u8 b] w fun e w' => e = .returned (.int .i64 (wideZ b)) ∧ w = w' := by
  obtain ⟨hb0, hb1⟩ := hb
  by_cases hk : 1 ≤ b ∧ b ≤ 7
  · rcases (by omega : b = 1 ∨ b = 2 ∨ b = 3 ∨ b = 4 ∨ b = 5 ∨ b = 6 ∨ b = 7) with rfl | rfl | rfl | rfl | rfl | rfl | rfl
    all_goals
      clear hk hb0 hb1
      go_enter Tryz.func47, Tryz.ntmps47
      go_wp2
      go_ret
      exact ⟨rfl, rfl⟩
  · have n1 : ¬ b = 1 := by omega
    have n2 : ¬ b = 2 := by omega
    have n3 : ¬ b = 3 := by omega
    have n4 : ¬ b = 4 := by omega
    have n5 : ¬ b = 5 := by omega
    have n6 : ¬ b = 6 := by omega
    have n7 : ¬ b = 7 := by omega
    have HW : Hid (wideZ b = 0) := by
      show _ = _
      unfold wideZ
      rw [if_neg (by omega), if_neg n3, if_neg n4, if_neg (by omega), if_neg n7]
    go_enter Tryz.func47, Tryz.ntmps47
    go_wp2
    go_ret
    exact ⟨ret_int (by rw [HW.out]; rfl), rfl⟩

/-- The cells of the command that so many bytes are. -/
def refCs (zs : List Int) : List Int :=
  let k := zs[0]?.getD 0
  if k = 1 ∨ k = 2 then [k, 0, 0, 0, atZ zs 1 1, atZ zs 2 2, atZ zs 4 3, atZ zs 7 2, 0, 0, 0, 0, 0, 0]
  else if k = 3 then [k, 0, atZ zs 1 1, atZ zs 2 1, atZ zs 3 1, 0, 0, atZ zs 4 2, atZ zs 6 2, atZ zs 10 2, atZ zs 8 1, atZ zs 12 1, atZ zs 9 1, atZ zs 13 1]
  else if k = 4 then [k, 0, atZ zs 1 1, 0, atZ zs 2 1, 0, 0, 0, 0, 0, 0, 0, 0, 0]
  else if k = 5 ∨ k = 6 then [k, atZ zs 1 1, 0, 0, 0, 0, 0, 0, 0, 0, 0, 0, 0, 0]
  else [k, 0, 0, 0, 0, 0, 0, 0, 0, 0, 0, 0, 0, 0]

def tileC (zs : List Int) : Nat → List Int
  | 0 => [3, 0, atZ zs 1 1, atZ zs 2 1, atZ zs 3 1, 0, 0, atZ zs 4 2, 0, 0, 0, 0, 0, 0]
  | 1 => [3, 0, atZ zs 1 1, atZ zs 2 1, atZ zs 3 1, 0, 0, atZ zs 4 2, atZ zs 6 2, 0, atZ zs 8 1, 0, atZ zs 9 1, 0]
  | _ => [3, 0, atZ zs 1 1, atZ zs 2 1, atZ zs 3 1, 0, 0, atZ zs 4 2, atZ zs 6 2, atZ zs 10 2, atZ zs 8 1, atZ zs 12 1, atZ zs 9 1, atZ zs 13 1]

def refCm (zs : List Int) : Cm := toCm (refCs zs)

/-- What stands while take reads. -/
structure TInv (w : World) (v : Value) (zs : List Int) (cs : List Int) (W : World) : Prop where
  box : CBox W (w.heap.size + 1) cs
  res : CBox W w.heap.size [0, 0, 0, 0, 0, 0, 0, 0, 0, 0, 0, 0, 0, 0]
  row : Ints .u8 W v zs
  bel : Below w.heap.size w W

theorem TInv.set {w : World} {v : Value} {zs cs : List Int} {W : World} (h : TInv w v zs cs W) (hv : Ints .u8 w v zs) (i : Nat) (z : Int) : TInv w v zs (cs.set i z) (W.setCell ⟨w.heap.size + 1, i, none⟩ (.int .i64 z)) :=
  have hb := h.bel.setCell (p := ⟨w.heap.size + 1, i, none⟩) (by simp) (.int .i64 z)
  ⟨h.box.set i z, h.res.other (by omega) i _, hv.exts hb (Nat.le_refl _), hb⟩

set_option maxRecDepth 20000 in
set_option maxHeartbeats 6400000 in
theorem refTake1_calls (v : Value) (zs : List Int) (w : World) (hv : Ints .u8 w v zs) (hz : Bytes zs) (h0 : 0 < zs.length) (hlen : wideZ (zs[0]?.getD 0) ≤ zs.length) :
    Calls Tryz.prog 48 #[v] w fun e w' => e = .returned (refCm zs).v ∧ Below w.heap.size w w' := by
  obtain ⟨A, c, rfl, hlc, hcm, hcell⟩ := id hv.form
  unfold maxLen at hcm
  obtain ⟨g, off, rfl, x0⟩ := hcell 0 h0
  have hg := World.block_lt_of_cell? w _ x0
  simp only at hg
  have hg1 : g < w.heap.size + 1 := by omega
  rw [Nat.add_zero] at x0
  clear hcell
  obtain ⟨K, hK⟩ : ∃ K, zs[0]?.getD 0 = K := ⟨_, rfl⟩
  have hK0 : 0 ≤ K ∧ K ≤ 255 := by
    rw [← hK]
    have : zs[0]?.getD 0 = zs[0] := by simp [h0]
    rw [this]
    exact hz _ (List.getElem_mem h0)
  have HR : Hid (refCs zs = if K = 1 ∨ K = 2 then [K, 0, 0, 0, atZ zs 1 1, atZ zs 2 2, atZ zs 4 3, atZ zs 7 2, 0, 0, 0, 0, 0, 0]
    else if K = 3 then [K, 0, atZ zs 1 1, atZ zs 2 1, atZ zs 3 1, 0, 0, atZ zs 4 2, atZ zs 6 2, atZ zs 10 2, atZ zs 8 1, atZ zs 12 1, atZ zs 9 1, atZ zs 13 1]
    else if K = 4 then [K, 0, atZ zs 1 1, 0, atZ zs 2 1, 0, 0, 0, 0, 0, 0, 0, 0, 0]
    else if K = 5 ∨ K = 6 then [K, atZ zs 1 1, 0, 0, 0, 0, 0, 0, 0, 0, 0, 0, 0, 0]
    else [K, 0, 0, 0, 0, 0, 0, 0, 0, 0, 0, 0, 0, 0]) := by
    show _ = _
    unfold refCs
    simp only [hK]
  rw [hK] at x0 hlen
  clear hK
  obtain ⟨kk, hkk⟩ := hK0
  go_enter Tryz.func48, Tryz.ntmps48
  go_upto_block 0 with fail
  have hb1 := below_alloc (Below.refl w.heap.size w) (Nat.le_refl _) (.cells #[.int .i64 0, .int .i64 0, .int .i64 0, .int .i64 0, .int .i64 0, .int .i64 0, .int .i64 0, .int .i64 0, .int .i64 0, .int .i64 0, .int .i64 0, .int .i64 0, .int .i64 0, .int .i64 0] 75)
  have inv : TInv w (.slice (some ⟨g, off, none⟩) zs.length c) zs [K, 0, 0, 0, 0, 0, 0, 0, 0, 0, 0, 0, 0, 0] ((w.alloc (.cells #[.int .i64 0, .int .i64 0, .int .i64 0, .int .i64 0, .int .i64 0, .int .i64 0, .int .i64 0, .int .i64 0, .int .i64 0, .int .i64 0, .int .i64 0, .int .i64 0, .int .i64 0, .int .i64 0] 75)).alloc (.cells #[.int .i64 K, .int .i64 0, .int .i64 0, .int .i64 0, .int .i64 0, .int .i64 0, .int .i64 0, .int .i64 0, .int .i64 0, .int .i64 0, .int .i64 0, .int .i64 0, .int .i64 0, .int .i64 0] 75)) := by
    have hb2 := below_alloc hb1 hb1.size (.cells #[.int .i64 K, .int .i64 0, .int .i64 0, .int .i64 0, .int .i64 0, .int .i64 0, .int .i64 0, .int .i64 0, .int .i64 0, .int .i64 0, .int .i64 0, .int .i64 0, .int .i64 0, .int .i64 0] 75)
    refine ⟨heap_new _ _ _ (by simp), ?_, hv.exts hb2 (Nat.le_refl _), hb2⟩
    unfold CBox
    rw [heap_old _ _ _ (by simp), heap_new _ _ _ rfl]
    rfl
  generalize (w.alloc _).alloc _ = w0 at *
  clear hb1 x0 hg hg1
  go_cut [2] (fun s2 wx => s2 = .pointer (some ⟨w.heap.size, 0, none⟩) ∧ TInv w (.slice (some ⟨g, off, none⟩) zs.length c) zs (refCs zs) wx)
  case first =>
    by_cases h12 : K = 1 ∨ K = 2
    · have HC := Lib.hid (HR.out.trans (if_pos h12))
      have hl9 : 9 ≤ zs.length := by unfold wideZ at hlen; rw [if_pos h12] at hlen; exact hlen
      clear hlen HR
      rcases h12 with rfl | rfl
      all_goals
        have hta0 := at_calls _ zs 1 1 w0 inv.row hz (by omega) (by omega)
        go_wp2_with fail
        refine hta0.mono ?_
        rintro e w' ⟨rfl, rfl⟩
        have cc := inv.box.cell (i := 4) (by simp)
        have ff := inv.box.frozen 4
        replace inv := inv.set hv 4 (atZ zs 1 1)
        clear hta0
        go_wp2_with fail
        clear cc ff
        generalize World.setCell w0 _ _ = ua0 at *
        have hta1 := at_calls _ zs 2 2 ua0 inv.row hz (by omega) (by omega)
        refine hta1.mono ?_
        rintro e w' ⟨rfl, rfl⟩
        have cc := inv.box.cell (i := 5) (by simp)
        have ff := inv.box.frozen 5
        replace inv := inv.set hv 5 (atZ zs 2 2)
        clear hta1
        go_wp2_with fail
        clear cc ff
        generalize World.setCell ua0 _ _ = ua1 at *
        have hta2 := at_calls _ zs 4 3 ua1 inv.row hz (by omega) (by omega)
        refine hta2.mono ?_
        rintro e w' ⟨rfl, rfl⟩
        have cc := inv.box.cell (i := 6) (by simp)
        have ff := inv.box.frozen 6
        replace inv := inv.set hv 6 (atZ zs 4 3)
        clear hta2
        go_wp2_with fail
        clear cc ff
        generalize World.setCell ua1 _ _ = ua2 at *
        have hta3 := at_calls _ zs 7 2 ua2 inv.row hz (by omega) (by omega)
        refine hta3.mono ?_
        rintro e w' ⟨rfl, rfl⟩
        have cc := inv.box.cell (i := 7) (by simp)
        have ff := inv.box.frozen 7
        replace inv := inv.set hv 7 (atZ zs 7 2)
        clear hta3
        go_wp2_with fail
        clear cc ff
        go_meet
        exact ⟨rfl, by rw [HC.out]; exact inv⟩
    · by_cases h3 : K = 3
      · have HC := Lib.hid (HR.out.trans ((if_neg h12).trans (if_pos h3)))
        have hl9 : 14 ≤ zs.length := by unfold wideZ at hlen; rw [if_neg h12, if_pos h3] at hlen; exact hlen
        clear hlen HR h12
        subst h3
        have htt0 := at_calls _ zs 1 1 w0 inv.row hz (by omega) (by omega)
        go_wp2_with fail
        refine htt0.mono ?_
        rintro e w' ⟨rfl, rfl⟩
        have cc := inv.box.cell (i := 2) (by simp)
        have ff := inv.box.frozen 2
        replace inv := inv.set hv 2 (atZ zs 1 1)
        clear htt0
        go_wp2_with fail
        clear cc ff
        generalize World.setCell w0 _ _ = ut0 at *
        have htt1 := at_calls _ zs 2 1 ut0 inv.row hz (by omega) (by omega)
        refine htt1.mono ?_
        rintro e w' ⟨rfl, rfl⟩
        have cc := inv.box.cell (i := 3) (by simp)
        have ff := inv.box.frozen 3
        replace inv := inv.set hv 3 (atZ zs 2 1)
        clear htt1
        go_wp2_with fail
        clear cc ff
        generalize World.setCell ut0 _ _ = ut1 at *
        have htt2 := at_calls _ zs 3 1 ut1 inv.row hz (by omega) (by omega)
        refine htt2.mono ?_
        rintro e w' ⟨rfl, rfl⟩
        have cc := inv.box.cell (i := 4) (by simp)
        have ff := inv.box.frozen 4
        replace inv := inv.set hv 4 (atZ zs 3 1)
        clear htt2
        go_wp2_with fail
        clear cc ff
        generalize World.setCell ut1 _ _ = ut2 at *
        have htt3 := at_calls _ zs 4 2 ut2 inv.row hz (by omega) (by omega)
        refine htt3.mono ?_
        rintro e w' ⟨rfl, rfl⟩
        have cc := inv.box.cell (i := 7) (by simp)
        have ff := inv.box.frozen 7
        replace inv := inv.set hv 7 (atZ zs 4 2)
        clear htt3
        go_wp2_with fail
        clear cc ff
        generalize World.setCell ut2 _ _ = ut3 at *
        go_loopw [4] (fun i wr => ∃ j : Nat, j ≤ 2 ∧ i = .int .i64 j ∧ TInv w (.slice (some ⟨g, off, none⟩) zs.length c) zs (tileC zs j) wr) (fun i _ => 2 - (intOf i).toNat)
        case atStart => exact ⟨0, by omega, rfl, inv⟩
        case round =>
          clear inv
          obtain ⟨j, hj, rfl, inv⟩ := hrel
          rcases (by omega : j = 0 ∨ j = 1 ∨ j = 2) with rfl | rfl | rfl
          · rw [show ((0 : Nat) : Int) = 0 from rfl]
            unfold tileC at inv
            have htr00 := at_calls _ zs 6 2 wr inv.row hz (by omega) (by omega)
            go_wp2_with fail
            refine htr00.mono ?_
            rintro e w' ⟨rfl, rfl⟩
            have cc := inv.box.cell (i := 8) (by simp)
            have ff := inv.box.frozen 8
            replace inv := inv.set hv 8 (atZ zs 6 2)
            clear htr00
            go_wp2_with fail
            clear cc ff
            generalize World.setCell wr _ _ = ur00 at *
            have htr01 := at_calls _ zs 8 1 ur00 inv.row hz (by omega) (by omega)
            refine htr01.mono ?_
            rintro e w' ⟨rfl, rfl⟩
            have cc := inv.box.cell (i := 10) (by simp)
            have ff := inv.box.frozen 10
            replace inv := inv.set hv 10 (atZ zs 8 1)
            clear htr01
            go_wp2_with fail
            clear cc ff
            generalize World.setCell ur00 _ _ = ur01 at *
            have htr02 := at_calls _ zs 9 1 ur01 inv.row hz (by omega) (by omega)
            refine htr02.mono ?_
            rintro e w' ⟨rfl, rfl⟩
            have cc := inv.box.cell (i := 12) (by simp)
            have ff := inv.box.frozen 12
            replace inv := inv.set hv 12 (atZ zs 9 1)
            clear htr02
            go_wp2_with fail
            clear cc ff
            go_roundw
            case rel => exact ⟨1, by omega, rfl, inv⟩
            case measure => simp [intOf]
          · rw [show ((1 : Nat) : Int) = 1 from rfl]
            unfold tileC at inv
            have htr10 := at_calls _ zs 10 2 wr inv.row hz (by omega) (by omega)
            go_wp2_with fail
            refine htr10.mono ?_
            rintro e w' ⟨rfl, rfl⟩
            have cc := inv.box.cell (i := 9) (by simp)
            have ff := inv.box.frozen 9
            replace inv := inv.set hv 9 (atZ zs 10 2)
            clear htr10
            go_wp2_with fail
            clear cc ff
            generalize World.setCell wr _ _ = ur10 at *
            have htr11 := at_calls _ zs 12 1 ur10 inv.row hz (by omega) (by omega)
            refine htr11.mono ?_
            rintro e w' ⟨rfl, rfl⟩
            have cc := inv.box.cell (i := 11) (by simp)
            have ff := inv.box.frozen 11
            replace inv := inv.set hv 11 (atZ zs 12 1)
            clear htr11
            go_wp2_with fail
            clear cc ff
            generalize World.setCell ur10 _ _ = ur11 at *
            have htr12 := at_calls _ zs 13 1 ur11 inv.row hz (by omega) (by omega)
            refine htr12.mono ?_
            rintro e w' ⟨rfl, rfl⟩
            have cc := inv.box.cell (i := 13) (by simp)
            have ff := inv.box.frozen 13
            replace inv := inv.set hv 13 (atZ zs 13 1)
            clear htr12
            go_wp2_with fail
            clear cc ff
            go_roundw
            case rel => exact ⟨2, by omega, rfl, inv⟩
            case measure => simp [intOf]
          · rw [show ((2 : Nat) : Int) = 2 from rfl]
            go_wp2_with fail
            go_meet
            exact ⟨rfl, by rw [HC.out]; exact inv⟩
      · by_cases h4 : K = 4
        · have HC := Lib.hid (HR.out.trans ((if_neg h12).trans ((if_neg h3).trans (if_pos h4))))
          have hl9 : 3 ≤ zs.length := by unfold wideZ at hlen; rw [if_neg h12, if_neg h3, if_pos h4] at hlen; exact hlen
          clear hlen HR h12 h3
          subst h4
          have htk0 := at_calls _ zs 1 1 w0 inv.row hz (by omega) (by omega)
          go_wp2_with fail
          refine htk0.mono ?_
          rintro e w' ⟨rfl, rfl⟩
          have cc := inv.box.cell (i := 2) (by simp)
          have ff := inv.box.frozen 2
          replace inv := inv.set hv 2 (atZ zs 1 1)
          clear htk0
          go_wp2_with fail
          clear cc ff
          generalize World.setCell w0 _ _ = uk0 at *
          have htk1 := at_calls _ zs 2 1 uk0 inv.row hz (by omega) (by omega)
          refine htk1.mono ?_
          rintro e w' ⟨rfl, rfl⟩
          have cc := inv.box.cell (i := 4) (by simp)
          have ff := inv.box.frozen 4
          replace inv := inv.set hv 4 (atZ zs 2 1)
          clear htk1
          go_wp2_with fail
          clear cc ff
          go_meet
          exact ⟨rfl, by rw [HC.out]; exact inv⟩
        · by_cases h5 : K = 5 ∨ K = 6
          · have HC := Lib.hid (HR.out.trans ((if_neg h12).trans ((if_neg h3).trans ((if_neg h4).trans (if_pos h5)))))
            have hl9 : 2 ≤ zs.length := by unfold wideZ at hlen; rw [if_neg h12, if_neg h3, if_neg h4, if_pos h5] at hlen; exact hlen
            clear hlen HR h12 h3 h4
            rcases h5 with rfl | rfl
            all_goals
              have hts0 := at_calls _ zs 1 1 w0 inv.row hz (by omega) (by omega)
              go_wp2_with fail
              refine hts0.mono ?_
              rintro e w' ⟨rfl, rfl⟩
              have cc := inv.box.cell (i := 1) (by simp)
              have ff := inv.box.frozen 1
              replace inv := inv.set hv 1 (atZ zs 1 1)
              clear hts0
              go_wp2_with fail
              clear cc ff
              go_meet
              exact ⟨rfl, by rw [HC.out]; exact inv⟩
          · have HC := Lib.hid (HR.out.trans ((if_neg h12).trans ((if_neg h3).trans ((if_neg h4).trans (if_neg h5)))))
            have n1 : ¬ K = 1 := by omega
            have n2 : ¬ K = 2 := by omega
            have n5 : ¬ K = 5 := by omega
            have n6 : ¬ K = 6 := by omega
            clear hlen HR
            have cc := inv.box.cell (i := 0) (by simp)
            go_wp2_with fail
            all_goals
              go_meet
              exact ⟨rfl, by rw [HC.out]; exact inv⟩
  obtain ⟨rfl, inv⟩ := hcut
  have hlenC : (refCs zs).length = 14 := by
    rw [HR.out]
    split
    · rfl
    · split
      · rfl
      · split
        · rfl
        · split <;> rfl
  obtain ⟨x, hx⟩ := cm_of_list _ hlenC
  have hxc : refCm zs = x := by unfold refCm; rw [hx]; rfl
  have HXC := Lib.hid hxc
  rw [hx] at inv
  clear hlenC hx hxc HR hlen
  obtain ⟨y0, y1, y2, y3, y4, y5, y6, y7, y8, y9, y10, y11, y12, y13⟩ := inv.box.all
  have hst := setRow_grown wc w.heap.size #[.int .i64 x.k, .int .i64 x.s, .int .i64 x.n, .int .i64 x.f, .int .i64 x.r, .int .i64 x.o, .int .i64 x.d, .int .i64 x.p, .int .i64 x.i0, .int .i64 x.i1, .int .i64 x.b0, .int .i64 x.b1, .int .i64 x.h0, .int .i64 x.h1]
  have hE : Below w.heap.size w (wc.setRow w.heap.size #[.int .i64 x.k, .int .i64 x.s, .int .i64 x.n, .int .i64 x.f, .int .i64 x.r, .int .i64 x.o, .int .i64 x.d, .int .i64 x.p, .int .i64 x.i0, .int .i64 x.i1, .int .i64 x.b0, .int .i64 x.b1, .int .i64 x.h0, .int .i64 x.h1]) := Below.grown inv.bel hst inv.bel.size (fun k hk => by cases hk; exact Nat.le_refl _)
  have hres : CBox (wc.setRow w.heap.size #[.int .i64 x.k, .int .i64 x.s, .int .i64 x.n, .int .i64 x.f, .int .i64 x.r, .int .i64 x.o, .int .i64 x.d, .int .i64 x.p, .int .i64 x.i0, .int .i64 x.i1, .int .i64 x.b0, .int .i64 x.b1, .int .i64 x.h0, .int .i64 x.h1]) w.heap.size x.l := setRow_heap wc w.heap.size _ _ _ _ inv.res
  have hresI := inv.res
  go_wp2_with (refine wpList_store_row rfl 75 _ _ rfl w.heap.size #[.int .i64 x.k, .int .i64 x.s, .int .i64 x.n, .int .i64 x.f, .int .i64 x.r, .int .i64 x.o, .int .i64 x.d, .int .i64 x.p, .int .i64 x.i0, .int .i64 x.i1, .int .i64 x.b0, .int .i64 x.b1, .int .i64 x.h0, .int .i64 x.h1] rfl rfl 75 _ hresI (by kernel_rfl) rfl (cm_one x) ?_)
  have hu : Tryz.prog.underlying 75 = some (.struct (Tryz.prog.fieldsOf 75)) := by kernel_rfl
  refine bodyPost_ret (v := x.v) (results_cell_row Tryz.results48 _ _ w.heap.size 75 _ (0, 0) _ rfl hres hu rfl (by kernel_rfl)) rfl ?_
  exact ⟨by rw [HXC.out], hE⟩

end Go.Proofs.YtdhdbmfipkppiaaGreat.Isa

namespace Go.Proofs.YtdhdbmfipkppiaaGreat.Isa
set_option maxRecDepth 10000
open Go.RowKit

theorem numStep_pos {zs : List Int} {bad : Bool} {n : Nat} (h : n ≤ zs.length) : numStep zs bad n = (numOf (zs.take n), zs.drop n, bad) := by unfold numStep; rw [if_pos h]

theorem readF_cons_pos {zs cs : List Int} {bad : Bool} {x : Fd} {l : List Fd} (h : x.wide ≤ zs.length) : readF zs bad cs (x :: l) = readF (zs.drop x.wide) bad (cs.set x.at_ (numOf (zs.take x.wide))) l := by
  rw [readF, numStep_pos h]

theorem readF_short : ∀ (T : List Fd) (zs cs : List Int), zs.length < (T.map (·.wide)).sum → (readF zs false cs T).2.1 = true
  | [], zs, cs, h => by simp at h
  | x :: T, zs, cs, h => by
    rw [readF]
    by_cases hx : x.wide ≤ zs.length
    · rw [numStep_pos hx]
      refine readF_short T _ _ ?_
      simp only [List.map_cons, List.sum_cons] at h
      rw [List.length_drop]
      omega
    · have e : (numStep zs false x.wide).2.2 = true := by unfold numStep; rw [if_neg hx]
      rw [e]
      exact readF_bad T _ _

theorem wide_tbl {K : Int} (h1 : 1 ≤ K) (h7 : K ≤ 7) : wideZ K = 1 + ((tbl K).map (·.wide)).sum := by
  rcases (by omega : K = 1 ∨ K = 2 ∨ K = 3 ∨ K = 4 ∨ K = 5 ∨ K = 6 ∨ K = 7) with rfl | rfl | rfl | rfl | rfl | rfl | rfl <;> rfl

theorem wideZ_none {K : Int} (h : ¬ (1 ≤ K ∧ K ≤ 7)) : wideZ K = 0 := by
  unfold wideZ
  rw [if_neg (by omega), if_neg (by omega), if_neg (by omega), if_neg (by omega), if_neg (by omega)]

theorem wideZ_pos {K : Int} (h1 : 1 ≤ K) (h7 : K ≤ 7) : 1 ≤ wideZ K ∧ wideZ K ≤ 14 := by
  rcases (by omega : K = 1 ∨ K = 2 ∨ K = 3 ∨ K = 4 ∨ K = 5 ∨ K = 6 ∨ K = 7) with rfl | rfl | rfl | rfl | rfl | rfl | rfl <;> decide

theorem take1 {zs : List Int} (h : 0 < zs.length) : numOf (zs.take 1) = zs[0]?.getD 0 := by
  cases zs with
  | nil => cases h
  | cons z zs => simp [numOf]

theorem step_none {zs : List Int} (h : zs.length = 0 ∨ wideZ (zs[0]?.getD 0) = 0 ∨ zs.length < wideZ (zs[0]?.getD 0)) : stepOk (cmdStep zs false) = false := by
  by_cases h0 : zs.length = 0
  · have e : (numStep zs false 1).2.2 = true := by unfold numStep; rw [if_neg (by omega)]
    unfold stepOk cmdStep
    simp only [e, readF_bad]
    simp
  · have e := numStep_pos (zs := zs) (bad := false) (n := 1) (by omega)
    unfold stepOk cmdStep
    rw [e]
    simp only
    rw [take1 (by omega)]
    by_cases hk : (1 : Int) ≤ zs[0]?.getD 0 ∧ zs[0]?.getD 0 ≤ 7
    · have hw := wide_tbl hk.1 hk.2
      have hp := wideZ_pos hk.1 hk.2
      have hs := readF_short (tbl (zs[0]?.getD 0)) (zs.drop 1) (Cm.of (zs[0]?.getD 0)).l (by rw [List.length_drop]; omega)
      rw [hs]
      simp
    · have ho : okK (zs[0]?.getD 0) = false := by unfold okK; rw [decide_eq_false_iff_not]; exact hk
      rw [ho]
      rfl

theorem atZ_take {zs : List Int} {m k n : Nat} (h : k + n ≤ m) : atZ (zs.take m) k n = atZ zs k n := by
  unfold atZ
  rw [List.drop_take, List.take_take, Nat.min_eq_left (by omega)]

theorem step_some {zs : List Int} (h0 : 0 < zs.length) (hk : (1 : Int) ≤ zs[0]?.getD 0 ∧ zs[0]?.getD 0 ≤ 7) (hl : wideZ (zs[0]?.getD 0) ≤ zs.length) :
    cmdStep zs false = (zs.drop (wideZ (zs[0]?.getD 0)), false, refCs (zs.take (wideZ (zs[0]?.getD 0))), zs[0]?.getD 0) := by
  have hp := wideZ_pos hk.1 hk.2
  have ez : (zs.take (wideZ (zs[0]?.getD 0)))[0]?.getD 0 = zs[0]?.getD 0 := by rw [List.getElem?_take_of_lt (by omega)]
  unfold cmdStep refCs
  rw [numStep_pos (by omega), take1 h0]
  simp only [ez]
  generalize zs[0]?.getD 0 = K at *
  rcases (by omega : K = 1 ∨ K = 2 ∨ K = 3 ∨ K = 4 ∨ K = 5 ∨ K = 6 ∨ K = 7) with rfl | rfl | rfl | rfl | rfl | rfl | rfl
  · have hl' : 9 ≤ zs.length := hl
    simp only [show tbl 1 = [⟨4, 1, 1, 16⟩, ⟨5, 2, 1, 128⟩, ⟨6, 3, 0, 65535⟩, ⟨7, 2, 0, 1023⟩] from rfl, show wideZ 1 = 9 from rfl]
    rw [readF_cons_pos (by simp; omega), readF_cons_pos (by simp; omega), readF_cons_pos (by simp; omega), readF_cons_pos (by simp; omega)]
    simp (discharger := omega) only [atZ_take]
    simp [readF, List.drop_drop, Cm.of, Cm.l, atZ]
  · have hl' : 9 ≤ zs.length := hl
    simp only [show tbl 2 = [⟨4, 1, 1, 16⟩, ⟨5, 2, 1, 128⟩, ⟨6, 3, 0, 65535⟩, ⟨7, 2, 0, 1023⟩] from rfl, show wideZ 2 = 9 from rfl]
    rw [readF_cons_pos (by simp; omega), readF_cons_pos (by simp; omega), readF_cons_pos (by simp; omega), readF_cons_pos (by simp; omega)]
    simp (discharger := omega) only [atZ_take]
    simp [readF, List.drop_drop, Cm.of, Cm.l, atZ]
  · have hl' : 14 ≤ zs.length := hl
    simp only [show tbl 3 = [⟨2, 1, 0, 11⟩, ⟨3, 1, 0, 15⟩, ⟨4, 1, 1, 16⟩, ⟨7, 2, 0, 1023⟩, ⟨8, 2, 0, 1023⟩, ⟨10, 1, 0, 15⟩, ⟨12, 1, 0, 16⟩, ⟨9, 2, 0, 1023⟩, ⟨11, 1, 0, 15⟩, ⟨13, 1, 0, 16⟩] from rfl, show wideZ 3 = 14 from rfl]
    rw [readF_cons_pos (by simp; omega), readF_cons_pos (by simp; omega), readF_cons_pos (by simp; omega), readF_cons_pos (by simp; omega), readF_cons_pos (by simp; omega), readF_cons_pos (by simp; omega), readF_cons_pos (by simp; omega), readF_cons_pos (by simp; omega), readF_cons_pos (by simp; omega), readF_cons_pos (by simp; omega)]
    simp (discharger := omega) only [atZ_take]
    simp [readF, List.drop_drop, Cm.of, Cm.l, atZ]
  · have hl' : 3 ≤ zs.length := hl
    simp only [show tbl 4 = [⟨2, 1, 0, 11⟩, ⟨4, 1, 1, 16⟩] from rfl, show wideZ 4 = 3 from rfl]
    rw [readF_cons_pos (by simp; omega), readF_cons_pos (by simp; omega)]
    simp (discharger := omega) only [atZ_take]
    simp [readF, List.drop_drop, Cm.of, Cm.l, atZ]
  · have hl' : 2 ≤ zs.length := hl
    simp only [show tbl 5 = [⟨1, 1, 0, 7⟩] from rfl, show wideZ 5 = 2 from rfl]
    rw [readF_cons_pos (by simp; omega)]
    simp (discharger := omega) only [atZ_take]
    simp [readF, Cm.of, Cm.l, atZ]
  · have hl' : 2 ≤ zs.length := hl
    simp only [show tbl 6 = [⟨1, 1, 0, 7⟩] from rfl, show wideZ 6 = 2 from rfl]
    rw [readF_cons_pos (by simp; omega)]
    simp (discharger := omega) only [atZ_take]
    simp [readF, Cm.of, Cm.l, atZ]
  · simp only [show tbl 7 = [] from rfl, show wideZ 7 = 1 from rfl]
    simp [readF, Cm.of, Cm.l]

end Go.Proofs.YtdhdbmfipkppiaaGreat.Isa
