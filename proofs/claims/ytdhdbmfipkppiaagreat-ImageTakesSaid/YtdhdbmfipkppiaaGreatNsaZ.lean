/- The walks of the laws of package sum: what stands at their heads. -/
/- The walks of the reference of package sum. -/
/- Commands as bytes: what was laid down is taken, and what is taken was laid down so. It speaks of no program's text. -/
import Derived.Test.YtdhdbmfipkppiaaGreatVok
import Derived.Lib.SlBytesConst
import Derived.Test.YtdhdbmfipkppiaaGreatDraw
import Derived.Test.YtdhdbmfipkppiaaGreatIma
set_option linter.unusedSimpArgs false
set_option linter.unusedVariables false
set_option linter.unnecessarySimpa false
namespace Go.Proofs.YtdhdbmfipkppiaaGreat
open Go.RowKit

end Go.Proofs.YtdhdbmfipkppiaaGreat

namespace Go.Proofs.YtdhdbmfipkppiaaGreat
open Go.RowKit

theorem rnd_odd {y : Nat} (h : y < 4294967296) (h1 : y % 2 = 1) : bits .xor .u32 ((y : Int) / 2) 3988292384 = (rnd y : Nat) := by
  have := u32_xor_nat (y / 2) 3988292384 (by omega) (by omega)
  rw [show ((y : Int) / 2) = ((y / 2 : Nat) : Int) from by omega]
  unfold rnd
  rw [h1, Nat.one_mul]
  exact this

theorem rnd_even {y : Nat} (h1 : y % 2 = 0) : ((y : Int) / 2) = (rnd y : Nat) := by
  unfold rnd
  rw [h1, Nat.zero_mul, Nat.xor_zero]
  omega

theorem not_walk' (x : Nat) (h : x < 4294967296) : bits .xor .u32 (x : Int) 4294967295 = ((4294967295 ^^^ x : Nat) : Int) := by
  have := u32_xor_nat x 4294967295 h (by omega)
  rw [Nat.xor_comm x] at this
  exact this

set_option maxHeartbeats 400000 in
theorem refSum_calls (v : Value) (zs : List Int) (w : World) (hv : Ints .u8 w v zs) (hz : Bytes zs) :
    Calls Tryz.prog 73 #[v] w fun e w' => e = .returned (.int .u32 (crc zs : Nat)) ∧ w = w' := by
  obtain ⟨A, c, rfl, hlc, hcm, hc⟩ := hv.form
  unfold maxLen at hcm
  clear hv
  go_enter Tryz.func73, Tryz.ntmps73
  go_wp2
  go_loop [3, 4] (fun r i => ∃ k : Nat, k ≤ zs.length ∧ i = .int .i64 k ∧ r = .int .u32 (raw 4294967295 (zs.take k) : Nat))
    (fun _ i => zs.length - (intOf i).toNat)
  case atStart => exact ⟨0, by omega, rfl, rfl⟩
  case round =>
    obtain ⟨k, hk, rfl, rfl⟩ := hrel
    have hx : raw 4294967295 (zs.take k) < 4294967296 := raw_lt (by omega) (bytes_take hz k)
    by_cases hlt : k < zs.length
    · obtain ⟨b, off, rfl, hcell⟩ := hc k hlt
      have hzk := bytes_at hz hlt
      have HS := Lib.hid (raw_snoc 4294967295 zs k hlt)
      generalize raw 4294967295 (zs.take k) = x at *
      generalize zs[k]?.getD 0 = z at *
      have hxz : x ^^^ z.toNat < 4294967296 := xor_lt hx (by omega)
      have HX := Lib.hid (xor_walk x z hx hzk)
      go_wp2
      go_loop [3, 5] (fun r i => ∃ m : Nat, m ≤ 8 ∧ i = .int .i64 m ∧ r = .int .u32 (rounds m (x ^^^ z.toNat) : Nat))
        (fun _ i => 8 - (intOf i).toNat)
      case atStart => exact ⟨0, by omega, rfl, HX.out⟩
      case round =>
        obtain ⟨m, hm, rfl, rfl⟩ := hrel
        have hr := rounds_lt hxz m
        have e : (rounds (m + 1) (x ^^^ z.toNat)) = rnd (rounds m (x ^^^ z.toNat)) := rfl
        have HE := Lib.hid e
        clear e
        by_cases h8 : m < 8
        · rcases Nat.mod_two_eq_zero_or_one (rounds m (x ^^^ z.toNat)) with h2 | h2
          · have h3 : (((rounds m (x ^^^ z.toNat) : Nat) : Int) % 2 == 1) = false := by simp; omega
            have HR := Lib.hid (rnd_even h2)
            clear h2
            go_wp2
            go_round
            case rel => exact ⟨m + 1, by omega, by go_num, by rw [HE.out, ← HR.out]⟩
            case measure => simp [intOf]; omega
          · have h3 : (((rounds m (x ^^^ z.toNat) : Nat) : Int) % 2 == 1) = true := by simp; omega
            have HR := Lib.hid (rnd_odd hr h2)
            clear h2
            go_wp2
            go_round
            case rel => exact ⟨m + 1, by omega, by go_num, by rw [HE.out, ← HR.out]⟩
            case measure => simp [intOf]; omega
        · have h9 : m = 8 := by omega
          subst h9
          go_wp2
          go_round
          case rel => exact ⟨k + 1, by omega, by go_num, by rw [HS.out]; rfl⟩
          case measure => simp [intOf]; omega
    · have hkk : k = zs.length := by omega
      subst hkk
      have HN := Lib.hid (not_walk' _ hx)
      go_wp2
      go_ret
      refine ⟨ret_int ?_, rfl⟩
      rw [List.take_length] at HN
      exact HN.out

set_option maxHeartbeats 800000 in
theorem refSeal_calls (v : Value) (zs : List Int) (w : World) (hv : Ints .u8 w v zs) (hz : Bytes zs) (hl : zs.length ≤ 100000) :
    Calls Tryz.prog 39 #[v] w (Made 5 1 (seal_ zs).length ((seal_ zs).map (.int .u8)) w) := by
  have hs := crc_lt hz
  have HS : Hid (seal_ zs = zs ++ le4 (crc zs)) := rfl
  have hown := World.ownsRow_made (base := w.heap.size) (e := 5) (size := 1) w #[] 0 (Nat.le_refl _) (Nat.zero_le _) rfl
  have hrow := Row.below hv (below_alloc (Below.refl _ _) (Nat.le_refl _) (.cells #[] 5))
  go_enter Tryz.func39, Tryz.ntmps39
  go_wp2_with fail
  refine (refSum_calls _ zs _ hv hz).mono ?_
  rintro e w' ⟨rfl, rfl⟩
  generalize crc zs = s at *
  have hd := Lib.hid (show s / 16777216 % 256 = s / 16777216 by omega)
  go_wp2_with (at_builtin; refine stopped ?_)
  refine wpList_append_row rfl rfl elem_u8 hown rfl hrow rfl (one_ints _ _) (by omega) (by omega) (by simp) ?_
  intro v1 w1 hown1 hg1 _
  have hb1 := below_own (below_alloc (Below.refl _ _) (Nat.le_refl _) _) (by simp) hown (Nat.le_refl _) hg1
  have hsz := hb1.size
  clear hown hrow hg1
  go_wp2_with (at_builtin; refine stopped ?_)
  refine wpList_append_row rfl rfl elem_u8 (hown1.alloc _) rfl (row_new w1 _ 5 4 1 rfl (by decide)) rfl (by intro u hu; simp at hu; rcases hu with rfl | rfl | rfl | rfl <;> rfl) (by omega) (by omega) (by simp; omega) ?_
  intro v2 w2 hown2 hg2 _
  have hb2 := below_own (below_alloc hb1 hsz _) (by simp; omega) (hown1.alloc _) (Nat.le_refl _) hg2
  go_wp2_with fail
  go_ret
  have hd := hd.out
  refine ⟨_, rfl, ?_, hb2⟩
  rw [HS.out]
  simpa [le4, hd, Nat.add_assoc] using hown2

theorem openOk_len {zs : List Int} (h : openOk zs) : 4 ≤ zs.length := by
  have := congrArg List.length h
  simp [seal_, le4_length] at this
  omega

set_option maxRecDepth 20000 in
set_option maxHeartbeats 1600000 in
theorem refOpen_calls (v : Value) (zs : List Int) (w : World) (hv : Ints .u8 w v zs) (hz : Bytes zs) (hl : zs.length ≤ 100000) :
    Calls Tryz.prog 13 #[v] w (OpenPost zs w) := by
  have hv0 := hv
  obtain ⟨A, c, rfl, hlc, hcm, _, hA⟩ := hv
  unfold maxLen at hcm
  clear hA
  have hp := hv0.first (m := zs.length - 4) (by omega)
  have hpl : (zs.take (zs.length - 4)).length = zs.length - 4 := by rw [List.length_take]; omega
  have hpz : Bytes (zs.take (zs.length - 4)) := bytes_take hz _
  have hok : Hid (openOk zs ↔ seal_ (zs.take (zs.length - 4)) = zs) := Iff.rfl
  obtain ⟨p, HE⟩ : ∃ p, Hid (zs.take (zs.length - 4) = p) := ⟨_, rfl⟩
  rw [HE.out] at hp hpl hpz hok
  have HP := Lib.hid hpl
  clear hpl
  rcases Nat.lt_or_ge zs.length 4 with h4 | h4
  · have hlt : decide ((zs.length : Int) - 4 < 0) = true := by simp; omega
    have hk' : ¬ openOk zs := fun h => by have := openOk_len h; omega
    go_enter Tryz.func13, Tryz.ntmps13
    go_wp2_with fail
    have h1 := conv_ext (P := Tryz.prog) hv0 Tryz.underlying22 Tryz.underlying5 Tryz.underlying9
    refine wp_region_D [(0, true), (1, true), (2, true), (3, true), (4, true), (5, true), (8, true), (9, true), (6, false), (7, true), (10, true), (11, true)] (by kernel_rfl) (by kernel_rfl) (fun _ _ d _ _ h => by cases d <;> exact h) (fun w2 hE => ?_)
    simp only [pickE, List.getElem?_cons_zero, List.getElem?_cons_succ]
    repeat (first
      | (refine wpD_skip (by rfl) ?_; simp only [Act.put, List.setIfInBounds_toArray, List.set_cons_zero, List.set_cons_succ])
      | (refine wpD_pure (by rfl) (fun W hW => by (dsimp only [Exts] at hW; go_simp; with_reducible rfl)) ?_; simp only [Act.put, List.setIfInBounds_toArray, List.set_cons_zero, List.set_cons_succ]))
    refine wpD_nil ?_
    go_wp2_with fail
    go_ret2
    exact ⟨_, by rw [if_neg hk']; rfl, hE, fun h => absurd h hk', fun _ => rfl⟩
  · have hlt : ¬ ((zs.length : Int) - 4 < 0) := by omega
    have hlt' : decide ((zs.length : Int) - 4 < 0) = false := by simp; omega
    have hs0 : (4 : Int) ≤ (zs.length : Int) := by omega
    have hs1 : (zs.length : Int) - 4 ≤ (c : Int) := by omega
    have h1 := conv_ext (P := Tryz.prog) hv0 Tryz.underlying22 Tryz.underlying5 Tryz.underlying9
    go_enter Tryz.func13, Tryz.ntmps13
    go_wp2_with fail
    refine wp_region_D [(0, true), (1, true), (2, true), (3, true), (4, true), (5, true), (8, true), (9, true), (6, false), (7, true), (10, true), (11, true)] (by kernel_rfl) (by kernel_rfl) (fun _ _ d _ _ h => by cases d <;> exact h) (fun w2 hE => ?_)
    simp only [pickE, List.getElem?_cons_zero, List.getElem?_cons_succ]
    repeat (first
      | (refine wpD_skip (by rfl) ?_; simp only [Act.put, List.setIfInBounds_toArray, List.set_cons_zero, List.set_cons_succ])
      | (refine wpD_pure (by rfl) (fun W hW => by (dsimp only [Exts] at hW; go_simp; with_reducible rfl)) ?_; simp only [Act.put, List.setIfInBounds_toArray, List.set_cons_zero, List.set_cons_succ]))
    refine wpD_step (by rfl) (fun K hK => ?_)
    go_simp
    rw [show ((zs.length : Int) - 4).toNat = zs.length - 4 from by omega]
    with_reducible refine (refSeal_calls _ p _ (hp.ext hE) hpz (by have := HP.out; omega)).mono ?_
    rintro e w3 ⟨v3, rfl, hown3, hbel3⟩
    refine hK _ _ hbel3 ?_
    clear hK K
    have hc3 := conv_ext (P := Tryz.prog) (ints_of_own hown3) Tryz.underlying22 Tryz.underlying5 Tryz.underlying9
    have hne := strEq (bytes_seal hpz) hz
    have hb3 : Below w.heap.size w w3 := hE.trans hbel3
    by_cases hk : seal_ p = zs
    · have hk' : openOk zs := hok.out.2 hk
      have hd : decide (seal_ p = zs) = true := decide_eq_true hk
      rw [hd] at hne
      clear hk hd
      repeat (first
      | (refine wpD_skip (by rfl) ?_; simp only [Act.put, List.setIfInBounds_toArray, List.set_cons_zero, List.set_cons_succ])
      | (refine wpD_pure (by rfl) (fun W hW => by (dsimp only [Exts] at hW; go_simp; with_reducible rfl)) ?_; simp only [Act.put, List.setIfInBounds_toArray, List.set_cons_zero, List.set_cons_succ]))
      refine wpD_nil ?_
      clear h1 hc3 hne
      go_wp2_with (at_builtin; refine stopped ?_)
      have hown := World.ownsRow_made (base := w3.heap.size) (e := 5) (size := 1) w3 #[] 0 (Nat.le_refl _) (Nat.zero_le _) rfl
      have hrow := Row.below (hp.below hb3) (below_alloc (Below.refl _ _) (Nat.le_refl _) (.cells #[] 5))
      refine wpList_append_row rfl rfl elem_u8 hown rfl hrow rfl (one_ints _ _) (by have := HP.out; omega) (by have := HP.out; omega) (by simp) ?_
      intro v4 w4 hown4 hg4 _
      have hb4 := below_own (below_alloc hb3 hb3.size _) (by have := hb3.size; simp; omega) hown hb3.size hg4
      go_wp2_with fail
      go_ret2
      refine ⟨v4, by rw [if_pos hk']; rfl, hb4, fun _ => ?_, fun h => absurd hk' h⟩
      rw [Nat.zero_add, List.nil_append, HP.out] at hown4
      rw [HE.out]
      exact ownsRow_base hown4 hb3.size
    · have hk' : ¬ openOk zs := fun h => hk (hok.out.1 h)
      have hd : decide (seal_ p = zs) = false := decide_eq_false hk
      rw [hd] at hne
      clear hk hd
      repeat (first
      | (refine wpD_skip (by rfl) ?_; simp only [Act.put, List.setIfInBounds_toArray, List.set_cons_zero, List.set_cons_succ])
      | (refine wpD_pure (by rfl) (fun W hW => by (dsimp only [Exts] at hW; go_simp; with_reducible rfl)) ?_; simp only [Act.put, List.setIfInBounds_toArray, List.set_cons_zero, List.set_cons_succ]))
      refine wpD_nil ?_
      go_wp2_with fail
      go_ret2
      exact ⟨_, by rw [if_neg hk']; rfl, hb3, fun h => absurd h hk', fun _ => rfl⟩

end Go.Proofs.YtdhdbmfipkppiaaGreat

namespace Go.Proofs.YtdhdbmfipkppiaaGreat.Isa
set_option maxRecDepth 10000
open Go.RowKit

def Bytes (zs : List Int) : Prop := ∀ z ∈ zs, 0 ≤ z ∧ z ≤ 255
theorem Bytes.take {zs : List Int} (h : Bytes zs) (n : Nat) : Bytes (zs.take n) := fun z hz => h z (List.mem_of_mem_take hz)
theorem Bytes.drop {zs : List Int} (h : Bytes zs) (n : Nat) : Bytes (zs.drop n) := fun z hz => h z (List.mem_of_mem_drop hz)

theorem readF_bad : ∀ (T : List Fd) (zs cs : List Int), (readF zs true cs T).2.1 = true
  | [], zs, cs => rfl
  | x :: T, zs, cs => by
    rw [readF]
    have : (numStep zs true x.wide).2.2 = true := by unfold numStep; split <;> rfl
    rw [this]
    exact readF_bad T _ _

end Go.Proofs.YtdhdbmfipkppiaaGreat.Isa
