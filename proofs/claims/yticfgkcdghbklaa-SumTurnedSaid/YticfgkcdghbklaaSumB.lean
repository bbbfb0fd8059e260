/- The walk of the law SumParts. -/
import Derived.Test.YticfgkcdghbklaaSumA
import Derived.Test.YticfgkcdghbklaaSumQ
namespace Go.Proofs.Yticfgkcdghbklaa
open Go.RowKit

theorem openOk_seal (zs : List Int) : openOk (seal_ zs) := by
  unfold openOk
  have h : (seal_ zs).length - 4 = zs.length := by simp [seal_, le4_length]
  rw [h]
  simp [seal_]

theorem openOut_seal (zs : List Int) : openOut (seal_ zs) = zs := by
  unfold openOut
  rw [if_pos (openOk_seal zs)]
  have h : (seal_ zs).length - 4 = zs.length := by simp [seal_, le4_length]
  rw [h]
  simp [seal_]

theorem openErr_seal (zs : List Int) : openErr (seal_ zs) = 0 := if_pos (openOk_seal zs)

theorem raw_append (r : Nat) (a b : List Int) : raw r (a ++ b) = raw (raw r a) b := List.foldl_append

theorem xor_self_left (a b c : Nat) (h : a ^^^ b = a ^^^ c) : b = c := by
  have := congrArg (a ^^^ ·) h
  simpa [← Nat.xor_assoc] using this

theorem crc_other (zs : List Int) (z : Nat) : crc (zs ++ [(z : Int)]) ≠ crc (zs ++ [((z ^^^ 1 : Nat) : Int)]) := by
  intro h
  unfold crc at h
  have h := xor_self_left _ _ _ h
  rw [raw_append, raw_append] at h
  generalize raw 4294967295 zs = r at h
  simp only [raw, List.foldl_cons, List.foldl_nil, upd, Int.toNat_natCast] at h
  have e : rounds 8 1 = 0 := by
    have h2 := rounds_xor (r ^^^ z) 1 8
    rw [Nat.xor_assoc, ← h] at h2
    have h3 := congrArg (rounds 8 (r ^^^ z) ^^^ ·) h2
    simp only [← Nat.xor_assoc, Nat.xor_self, Nat.zero_xor] at h3
    exact h3.symm
  have := rounds_zero (r := 1) (by omega) 8 e
  omega

set_option maxHeartbeats 3200000 in
theorem sumParts_calls (v u : Value) (a b : List Int) (z : Int) (w : World) (hv : Ints .u8 w v a) (hu : Ints .u8 w u b) (ha : Bytes a) (hb : Bytes b) (hz : 0 ≤ z ∧ z ≤ 255) :
    Calls Try.prog 12 #[v, u, .int .u8 z] w fun e w' => e = .returned (.bool true) ∧ Below w.heap.size w w' := by
  obtain ⟨z, rfl⟩ := Int.eq_ofNat_of_zero_le hz.1
  obtain ⟨A, c, rfl, hlc, hcm, _, hA⟩ := id hv
  obtain ⟨B, d, rfl, hld, hdm, _, hB⟩ := id hu
  clear hA hB
  unfold maxLen at hcm hdm
  go_enter Try.func12, Try.ntmps12
  go_wp2_with fail
  refine (shown07_calls w).mono ?_
  rintro e w1 ⟨rfl, hb1⟩
  have hv := hv.below hb1
  have hu := hu.below hb1
  -- the two rows, cut
  have hc1 : ∃ m : Nat, ∃ p : List Int, Hid (m = min a.length 1000) ∧ Ints .u8 w1 (.slice A m c) p ∧ Bytes p ∧ p.length ≤ 1000 :=
    ⟨_, _, rfl, hv.first (m := min a.length 1000) (by omega), bytes_take ha _, by rw [List.length_take]; omega⟩
  have hc2 : ∃ m : Nat, ∃ p : List Int, Hid (m = min b.length 1000) ∧ Ints .u8 w1 (.slice B m d) p ∧ Bytes p ∧ p.length ≤ 1000 :=
    ⟨_, _, rfl, hu.first (m := min b.length 1000) (by omega), bytes_take hb _, by rw [List.length_take]; omega⟩
  obtain ⟨m, p, hm, hp, hpz, hpl⟩ := hc1
  obtain ⟨n, q, hn, hq, hqz, hql⟩ := hc2
  clear hv hu
  rcases Nat.lt_or_ge 1000 a.length with h1 | h1 <;> rcases Nat.lt_or_ge 1000 b.length with h2 | h2
  all_goals
    try have hm := (show m = 1000 by have := hm.out; omega)
    try have hm := (show m = a.length by have := hm.out; omega)
    try have hn := (show n = 1000 by have := hn.out; omega)
    try have hn := (show n = b.length by have := hn.out; omega)
    subst hm
    subst hn
    go_wp2_with (at_builtin; refine stopped ?_)
    refine wpList_append_fresh rfl rfl elem_u8 rfl hp rfl (one_ints _ _) (by omega) (by omega) ?_
    intro v2 w2 hown2 hb2
    go_wp2_with (at_builtin; refine stopped ?_)
    refine wpList_append_row rfl rfl elem_u8 hown2 rfl (hq.below hb2) rfl (one_ints _ _) (by omega) (by omega) hb2.size ?_
    intro v3 w3 hown3 hg3 _
    have hE3 : Ext w1 w3 := below_own hb2 hb2.size hown2 (Nat.le_refl _) hg3
    clear hb2 hg3 hown2
    rw [← List.map_append] at hown3
    have hi3 := ints_of_own hown3
    have hrz : Bytes (p ++ q) := fun z hz => (List.mem_append.1 hz).elim (hpz z) (hqz z)
    have hrl : (p ++ q).length ≤ 2000 := by rw [List.length_append]; omega
    clear hown3 hp hq hpz hqz
    generalize p ++ q = r at *
    have l1 : (seal_ r).length ≤ 2004 := by simp [seal_, le4_length]; omega
    have l2 : (seal_ (seal_ r)).length ≤ 2008 := by rw [seal_, List.length_append, le4_length]; omega
    have z1 := bytes_seal hrz
    have z2 := bytes_seal z1
    go_wp2_with fail
    with_reducible refine (seal_calls _ r _ hi3 hrz (by omega)).mono ?_
    rintro e w4 ⟨v4, rfl, hown4, hE4⟩
    have hE4 : Ext w3 w4 := hE4
    go_wp2_with fail
    with_reducible refine (seal_calls _ _ _ (ints_of_own hown4) z1 (by omega)).mono ?_
    rintro e w5 ⟨v5, rfl, hown5, hE5⟩
    have hE5 : Ext w4 w5 := hE5
    go_wp2_with fail
    with_reducible refine (open_calls _ _ _ (ints_of_own hown5) z2 (by omega)).mono ?_
    intro e w6 h
    obtain ⟨v6, rfl, hE6, hi6⟩ := h.ints
    have hE6 : Ext w5 w6 := hE6
    rw [openErr_seal]
    rw [openOut_seal] at hi6
    clear h hown4 hown5
    go_wp2_with fail
    with_reducible refine (open_calls _ _ _ hi6 z1 (by omega)).mono ?_
    intro e w7 h
    obtain ⟨v7, rfl, hE7, hi7⟩ := h.ints
    have hE7 : Ext w6 w7 := hE7
    rw [openErr_seal]
    rw [openOut_seal] at hi7
    clear h hi6
    have hE37 : Ext w3 w7 := ((hE4.trans hE5).trans hE6).trans hE7
    clear hE4 hE5 hE6 hE7
    go_wp2_with (at_builtin; refine stopped ?_)
    refine wpList_append_fresh rfl rfl elem_u8 rfl (hi3.ext hE37) rfl (one_ints _ _) (by omega) (by omega) ?_
    intro v8 w8 hown8 hE8
    have hE8 : Ext w7 w8 := hE8
    have hi8 := ints_of_own hown8
    have hE38 := hE37.trans hE8
    go_wp2_with fail
    with_reducible refine (sum_calls _ _ _ hi8 hrz).mono ?_
    rintro e w' ⟨rfl, rfl⟩
    go_wp2_with (at_builtin; refine stopped ?_)
    refine wpList_append_fresh rfl rfl elem_u8 rfl (hi3.ext hE38) rfl (one_ints _ _) (by omega) (by omega) ?_
    intro v9 w9 hown9 hb9
    have hs9 := hb9.size
    go_wp2_with (at_builtin; refine stopped ?_)
    refine wpList_append_row rfl rfl elem_u8 (hown9.alloc _) rfl (row_new w9 _ 5 1 1 rfl (by decide)) rfl (by intro u hu; simp at hu; subst hu; rfl) (by omega) (by omega) (by simp; omega) ?_
    intro v10 w10 hown10 hg10 _
    have hE10 : Ext w8 w10 := below_own (below_alloc hb9 hs9 _) (by simp; omega) (hown9.alloc _) (Nat.le_refl _) hg10
    have hi10 : Ints .u8 w10 v10 (r ++ [(z : Int)]) := ints_of_own (by rw [List.map_append]; exact hown10)
    clear hown9 hb9 hs9 hg10 hown10
    have hE310 := hE38.trans hE10
    go_wp2_with (at_builtin; refine stopped ?_)
    refine wpList_append_fresh rfl rfl elem_u8 rfl (hi3.ext hE310) rfl (one_ints _ _) (by omega) (by omega) ?_
    intro v11 w11 hown11 hb11
    have hs11 := hb11.size
    go_wp2_with (at_builtin; refine stopped ?_)
    refine wpList_append_row rfl rfl elem_u8 (hown11.alloc _) rfl (row_new w11 _ 5 1 1 rfl (by decide)) rfl (by intro u hu; simp at hu; subst hu; rfl) (by omega) (by omega) (by simp; omega) ?_
    intro v12 w12 hown12 hg12 _
    have hE12 : Ext w10 w12 := below_own (below_alloc hb11 hs11 _) (by simp; omega) (hown11.alloc _) (Nat.le_refl _) hg12
    rw [show bits .xor .u8 (z : Int) 1 = ((z ^^^ 1 : Nat) : Int) from u8_xor_nat z 1 (by omega) (by omega)] at hown12
    have hi12 : Ints .u8 w12 v12 (r ++ [((z ^^^ 1 : Nat) : Int)]) := ints_of_own (by rw [List.map_append]; exact hown12)
    clear hown11 hb11 hs11 hg12 hown12
    have hx : z ^^^ 1 < 256 := Nat.xor_lt_two_pow (n := 8) (by omega) (by omega)
    have za : Bytes (r ++ [(z : Int)]) := fun y hy => (List.mem_append.1 hy).elim (hrz y) (fun h => by simp at h; omega)
    have zb : Bytes (r ++ [((z ^^^ 1 : Nat) : Int)]) := fun y hy => (List.mem_append.1 hy).elim (hrz y) (fun h => by simp at h; omega)
    have hne := crc_other r z
    have hne' := Lib.hid (show ((crc (r ++ [(z : Int)]) : Int) != (crc (r ++ [((z ^^^ 1 : Nat) : Int)]) : Int)) = true by simp; omega)
    clear hne
    have k3 := conv_ext (P := Try.prog) hi3 Try.underlying22 Try.underlying5 Try.underlying9
    have k7 := conv_ext (P := Try.prog) hi7 Try.underlying22 Try.underlying5 Try.underlying9
    have k8 := conv_ext (P := Try.prog) hi8 Try.underlying22 Try.underlying5 Try.underlying9
    have e8 : Ext w8 w12 := hE10.trans hE12
    have e7 : Ext w7 w12 := hE8.trans e8
    have e3 : Ext w3 w12 := hE310.trans hE12
    have hi3 := hi3.ext e3
    have hi10 := hi10.ext hE12
    clear hE12 hE10 hE310 hE38 hE37 hE8 hi7 hi8 hown8
    go_wp2_with fail
    with_reducible refine (sum_calls _ _ _ hi3 hrz).mono ?_
    rintro e w' ⟨rfl, rfl⟩
    go_wp2_with fail
    with_reducible refine (sum_calls _ _ _ hi10 za).mono ?_
    rintro e w' ⟨rfl, rfl⟩
    go_wp2_with fail
    with_reducible refine (sum_calls _ _ _ hi12 zb).mono ?_
    rintro e w' ⟨rfl, rfl⟩
    go_wp2_with fail
    go_ret
    exact ⟨ret_bool hne'.out, hb1.trans (Below.mono (hE3.trans e3) hb1.size)⟩

end Go.Proofs.Yticfgkcdghbklaa
