/- The walk of the law IsaLong. -/
import Derived.Test.YtgchdgnephbafaaIsaE
import Derived.Test.YtgchdgnephbafaaIsaZ
import Derived.Test.YtgchdgnephbafaaIsaS
namespace Go.Proofs.Ytgchdgnephbafaa
open Go.RowKit

def wides : List Int := [0, 9, 9, 14, 3, 2, 2, 1]

theorem enc_wide {c : Cm} (h1 : 1 ≤ c.k) (h2 : c.k ≤ 7) : wides[c.k.toNat]? = some ((enc c).length : Int) := by
  have hl : (enc c).length = 1 + ((tbl c.k).map (·.wide)).sum := by
    unfold enc
    rw [List.length_append, be_len]
    congr 1
    induction tbl c.k with
    | nil => rfl
    | cons x T ih => rw [List.flatMap_cons, List.length_append, be_len, ih]; rfl
  rw [hl]
  have hk : c.k = 1 ∨ c.k = 2 ∨ c.k = 3 ∨ c.k = 4 ∨ c.k = 5 ∨ c.k = 6 ∨ c.k = 7 := by omega
  rcases hk with hk | hk | hk | hk | hk | hk | hk <;> rw [hk] <;> rfl

theorem and7 {x : Int} (h1 : 1 ≤ x) (h2 : x ≤ 7) : bits .and .i64 x 7 = x := by
  have hk : x = 1 ∨ x = 2 ∨ x = 3 ∨ x = 4 ∨ x = 5 ∨ x = 6 ∨ x = 7 := by omega
  rcases hk with rfl | rfl | rfl | rfl | rfl | rfl | rfl <;> rfl

theorem put_ok {l : List Cm} (h : l.all mayB = true) (hl : l.length ≤ 4096) : putErr l = 0 ∧ putB l = encs l := by
  refine ⟨?_, ?_⟩
  · unfold putErr
    rw [if_neg (by omega), h]
    rfl
  · unfold putB
    rw [if_neg (by omega), h]
    rfl

theorem encs_len_lt {l : List Cm} (hl : l.length ≤ 200) : (encs l).length ≤ 2 + 200 * 14 ∧ 2 ≤ (encs l).length := by
  unfold encs
  rw [List.length_append, be_len]
  have : ∀ l : List Cm, (l.flatMap enc).length ≤ l.length * 14 := by
    intro l
    induction l with
    | nil => simp
    | cons x l ih => rw [List.flatMap_cons, List.length_append, List.length_cons]; have := enc_len x; omega
  have := this l
  omega

set_option maxRecDepth 20000 in
set_option maxHeartbeats 6400000 in
theorem isaLong_calls (va vb : Value) (a b : List Cm) (w : World) (ha : Cmds w va a) (hb : Cmds w vb b) :
    Calls Try.prog 8 #[va, vb] w fun e w' => e = .returned (.bool true) ∧ Below w.heap.size w w' := by
  obtain ⟨A, ca, rfl, _⟩ := id ha.form
  obtain ⟨B, cb, rfl, _⟩ := id hb.form
  go_enter Try.func8, Try.ntmps8
  go_wp2_with fail
  refine (shown08_calls w).mono ?_
  rintro e w1 ⟨rfl, hE1⟩
  go_wp2_with fail
  refine (own_calls _ a w1 (ha.below hE1 (Nat.le_refl _))).mono ?_
  rintro e w2 ⟨v6, rfl, hown6, hb2⟩
  have hE2 := hE1.trans (hb2.mono hE1.size)
  go_wp2_with fail
  refine (own_calls _ b w2 (hb.below hE2 (Nat.le_refl _))).mono ?_
  rintro e w3 ⟨v7, rfl, hown7, hb3⟩
  have hE3 := hE2.trans (hb3.mono hE2.size)
  have hl : Hid ((ownL a).all mayB = true ∧ (ownL a).length ≤ 200) := ⟨ownL_all a, ownL_len a⟩
  have hm : Hid ((ownL b).all mayB = true ∧ (ownL b).length ≤ 200) := ⟨ownL_all b, ownL_len b⟩
  have c6 : Cmds w3 v6 (ownL a) := Cmds.below (w := w2) (row_of_own hown6) hb3 (Nat.le_refl _)
  have c7 : Cmds w3 v7 (ownL b) := row_of_own hown7
  generalize ownL a = l at *
  generalize ownL b = m at *
  clear hown6 hown7 hb2 hb3 hE1 hE2 ha hb
  have pl := put_ok hl.out.1 (by have := hl.out.2; omega)
  have pm := put_ok hm.out.1 (by have := hm.out.2; omega)
  go_wp2_with fail
  refine (put_calls _ l w3 c6).mono ?_
  rintro e w4 ⟨v8, rfl, hown8, hb4⟩
  rw [pl.1]
  rw [pl.2] at hown8
  have c6 := c6.below hb4 (Nat.le_refl _)
  have c7 := c7.below hb4 (Nat.le_refl _)
  have hE4 := hE3.trans (hb4.mono hE3.size)
  go_wp2_with fail
  refine (put_calls _ m w4 c7).mono ?_
  rintro e w5 ⟨v10, rfl, hown10, hb5⟩
  rw [pm.1]
  rw [pm.2] at hown10
  have c6 := c6.below hb5 (Nat.le_refl _)
  have c7 := c7.below hb5 (Nat.le_refl _)
  have i8 : Ints .u8 w5 v8 (encs l) := Ints.exts (ints_of_own hown8) hb5 (Nat.le_refl _)
  have i10 : Ints .u8 w5 v10 (encs m) := ints_of_own hown10
  have hE5 := hE4.trans (hb5.mono hE4.size)
  clear hb4 hb5 hown8 hown10 hE3 hE4 pl pm
  obtain ⟨A6, k6, rfl, hk6, hm6, _⟩ := id c6.form
  obtain ⟨A7, k7, rfl, hk7, hm7, _⟩ := id c7.form
  obtain ⟨A8, k8, rfl, hk8, hm8, _⟩ := id i8.form
  obtain ⟨A10, k10, rfl, hk10, hm10, _⟩ := id i10.form
  have LL := Lib.hid (encs_len_lt hl.out.2)
  have LM := Lib.hid (encs_len_lt hm.out.2)
  obtain ⟨nl, hnl⟩ : ∃ nl, (encs l).length = nl := ⟨_, rfl⟩
  obtain ⟨nm, hnm⟩ : ∃ nm, (encs m).length = nm := ⟨_, rfl⟩
  rw [hnl] at hk8 LL i8 ⊢
  rw [hnm] at hk10 LM i10 ⊢
  have HNL := Lib.hid hnl
  have HNM := Lib.hid hnm
  clear hnl hnm
  unfold maxLen at hm6 hm7 hm8 hm10
  have hal := below_alloc (Below.refl w5.heap.size w5) (Nat.le_refl _) (.cells #[.int .i64 0, .int .i64 9, .int .i64 9, .int .i64 14, .int .i64 3, .int .i64 2, .int .i64 2, .int .i64 1] 3)
  have ct : ∀ (i : Nat) (z : Int), wides[i]? = some z → (w5.alloc (.cells #[.int .i64 0, .int .i64 9, .int .i64 9, .int .i64 14, .int .i64 3, .int .i64 2, .int .i64 2, .int .i64 1] 3)).cell? ⟨w5.heap.size, i, none⟩ = some (.int .i64 z) := fun i z h => by
    rw [cell_of_row _ _ i _ _ _ (heap_alloc_new w5 _)]
    have : (wides.map (Value.int .i64))[i]? = some (.int .i64 z) := by rw [List.getElem?_map, h]; rfl
    simpa [wides] using this
  have c6 := c6.below hal (Nat.le_refl _)
  have c7 := c7.below hal (Nat.le_refl _)
  have i8 := i8.exts hal (Nat.le_refl _)
  have i10 := i10.exts hal (Nat.le_refl _)
  have hE6 := hE5.trans (hal.mono hE5.size)
  have hG : w5.heap.size < (w5.alloc (.cells #[.int .i64 0, .int .i64 9, .int .i64 9, .int .i64 14, .int .i64 3, .int .i64 2, .int .i64 2, .int .i64 1] 3)).heap.size := by simp
  clear hal hE5
  go_wp2_with fail
  generalize w5.alloc _ = w6 at *
  generalize w5.heap.size = G at *
  go_loop [13, 14] (fun n i => ∃ k : Nat, k ≤ l.length ∧ i = .int .i64 k ∧ n = .int .i64 (2 + ((l.take k).flatMap enc).length)) (fun _ i => l.length - (intOf i).toNat)
  case atStart => exact ⟨0, by omega, rfl, rfl⟩
  case round =>
    obtain ⟨k, hk, rfl, rfl⟩ := hrel
    by_cases hlt : k < l.length
    · obtain ⟨_, _, e1, _, _, hc1⟩ := c6.form
      injection e1 with e3 e4 e5
      subst e3 e5
      clear e4
      obtain ⟨g, off, rfl, hg, x0, x1, x2, x3, x4, x5, x6, x7, x8, x9, x10, x11, x12, x13⟩ := hc1 k l[k] (by simp [hlt])
      have hmk := mayB_kind (List.all_eq_true.1 hl.out.1 _ (List.getElem_mem hlt))
      have HS : Hid (((l.take (k + 1)).flatMap enc).length = ((l.take k).flatMap enc).length + (enc l[k]).length) := by
        show _ = _
        rw [List.take_succ_eq_append_getElem hlt, List.flatMap_append, List.length_append]
        simp
      have hsm : ((l.take k).flatMap enc).length ≤ 2 + 200 * 14 := by
        have h1 := encs_len_lt (l := l.take k) (by rw [List.length_take]; have := hl.out.2; omega)
        unfold encs at h1
        rw [List.length_append, be_len] at h1
        omega
      have hew := enc_len l[k]
      clear hc1 x1 x2 x3 x4 x5 x6 x7 x8 x9 x10 x11 x12 x13
      generalize l[k] = x at *
      obtain ⟨hk1, hk2⟩ := hmk
      have h7 := and7 hk1 hk2
      have hcell := ct _ _ (enc_wide hk1 hk2)
      have hk0 : (0 : Int) ≤ x.k := by omega
      have hk8' : x.k < 8 := by omega
      generalize (enc x).length = ew at *
      generalize ((l.take k).flatMap enc).length = sm at *
      go_wp2_with fail
      go_round
      case rel => exact ⟨k + 1, by omega, by go_num, congrArg (Value.int .i64) (by rw [HS.out]; omega)⟩
      case measure => simp [intOf]; omega
    · obtain rfl : k = l.length := by omega
      have hnn : (2 : Int) + ((l.take l.length).flatMap enc).length = (nl : Int) := by
        rw [List.take_length, ← HNL.out]
        unfold encs
        rw [List.length_append, be_len]
        omega
      rw [hnn]
      clear hnn ct hG
      have hnl2 : (encs l).length ≤ 2802 := by rw [HNL.out]; exact LL.out.1
      have hnm2 : (encs m).length ≤ 2802 := by rw [HNM.out]; exact LM.out.1
      go_wp2_with (at_builtin; refine stopped ?_)
      refine wpList_append_fresh rfl rfl elem_u8 rfl i8 rfl (one_ints _ _) (by omega) (by omega) ?_
      intro v60 w7 hown60 hb7
      go_wp2_with (at_builtin; refine stopped ?_)
      refine wpList_append_row rfl rfl elem_u8 hown60 rfl (i10.exts hb7 (Nat.le_refl _)) rfl (one_ints _ _) (by omega) (by omega) hb7.size ?_
      intro v15 w8 hown15 hgr hnr
      have hb8 := below_own hb7 hb7.size hown60 (Nat.le_refl _) hgr
      have hE8 := hE6.trans (hb8.mono hE6.size)
      have c6 := c6.below hb8 (Nat.le_refl _)
      have c7 := c7.below hb8 (Nat.le_refl _)
      have i8 := i8.exts hb8 (Nat.le_refl _)
      have i10 := i10.exts hb8 (Nat.le_refl _)
      have i15 : Ints .u8 w8 v15 (encs l ++ encs m) := ints_of_own (by rw [List.map_append]; exact hown15)
      have T1 := takeL_encs l (encs m) hl.out.1 (by have := hl.out.2; omega)
      rw [HNL.out] at T1
      have hz15 : Bytes (encs l ++ encs m) := fun z hz => (List.mem_append.1 hz).elim (bytes_encs l z) (bytes_encs m z)
      obtain ⟨A15, k15, rfl, hk15, hm15, hc15⟩ := id i15.form
      obtain ⟨g15, o15, rfl, _⟩ := hc15 0 (by rw [List.length_append, HNL.out]; have := LL.out.2; omega)
      clear hc15
      have hln : (encs l ++ encs m).length = nl + nm := by rw [List.length_append, HNL.out, HNM.out]
      rw [hln] at hk15 i15 ⊢
      clear hb7 hb8 hgr hnr hown60 hown15 hE6 hnl2 hnm2 hln
      unfold maxLen at hm15
      go_wp2_with fail
      refine (take_calls _ _ w8 i15 hz15).mono ?_
      rintro e w9 ⟨_, hok, hb9⟩
      obtain ⟨v16, rfl, hown16⟩ := hok _ _ T1
      have hE9 := hE8.trans (hb9.mono hE8.size)
      have c6 := c6.below hb9 (Nat.le_refl _)
      have c7 := c7.below hb9 (Nat.le_refl _)
      have c16 : Cmds w9 v16 l := row_of_own hown16
      have i8 := i8.exts hb9 (Nat.le_refl _)
      have i10 := i10.exts hb9 (Nat.le_refl _)
      have i15 := i15.exts hb9 (Nat.le_refl _)
      clear hok hown16 hb9 hE8 T1 hz15
      have i19 : Ints .u8 w9 (.slice (some ⟨g15, o15 + nl, none⟩) nm (k15 - nl)) (encs m) := by
        obtain ⟨_, _, e1, _, h2, _, h4⟩ := i15
        injection e1 with e3 e4 e5
        subst e3 e5
        refine ⟨some ⟨g15, o15 + nl, none⟩, k15 - nl, by rw [HNM.out], by rw [HNM.out]; omega, by unfold maxLen; omega, by simp, ?_⟩
        have h5 := h4.drop nl
        rw [← List.map_drop, List.drop_append_of_le_length (by rw [HNL.out]; exact Nat.le_refl _), List.drop_of_length_le (by rw [HNL.out]; exact Nat.le_refl _), List.nil_append] at h5
        exact h5
      have T2 := takeL_encs m [] hm.out.1 (by have := hm.out.2; omega)
      rw [List.append_nil, HNM.out] at T2
      have hz19 : Bytes (encs m) := bytes_encs m
      clear i15
      have ht := take_calls _ _ w9 i19 hz19
      have hkn1 : ¬ k15 = nl := by have := LM.out.2; omega
      have hkn2 : ¬ nl = k15 := by have := LM.out.2; omega
      have hkn3 : ¬ k15 ≤ nl := by have := LM.out.2; omega
      have hkn4 : nl < k15 := by omega
      go_wp2_with fail
      refine ht.mono ?_
      rintro e w10 ⟨_, hok, hb10⟩
      obtain ⟨v19, rfl, hown19⟩ := hok _ _ T2
      have hE10 := hE9.trans (hb10.mono hE9.size)
      have c6 := c6.below hb10 (Nat.le_refl _)
      have c7 := c7.below hb10 (Nat.le_refl _)
      have c16 := c16.below hb10 (Nat.le_refl _)
      have c19 : Cmds w10 v19 m := row_of_own hown19
      have i8 := i8.exts hb10 (Nat.le_refl _)
      have i10 := i10.exts hb10 (Nat.le_refl _)
      clear hok hown19 hb10 hE9 T2 hz19 ht i19 hkn1 hkn2 hkn3 hkn4
      go_wp2_with fail
      refine (same_calls _ _ l l w10 c16 c6).mono ?_
      rintro e w11 ⟨rfl, hb11⟩
      rw [show decide (l = l) = true from decide_eq_true rfl]
      have hE11 := hE10.trans (hb11.mono hE10.size)
      have c6 := c6.below hb11 (Nat.le_refl _)
      have c7 := c7.below hb11 (Nat.le_refl _)
      have c19 := c19.below hb11 (Nat.le_refl _)
      have i8 := i8.exts hb11 (Nat.le_refl _)
      have i10 := i10.exts hb11 (Nat.le_refl _)
      clear hb11 hE10 c16
      go_wp2_with fail
      refine (same_calls _ _ m m w11 c19 c7).mono ?_
      rintro e w12 ⟨rfl, hb12⟩
      rw [show decide (m = m) = true from decide_eq_true rfl]
      have hE12 := hE11.trans (hb12.mono hE11.size)
      have c6 := c6.below hb12 (Nat.le_refl _)
      have c7 := c7.below hb12 (Nat.le_refl _)
      have i8 := i8.exts hb12 (Nat.le_refl _)
      have i10 := i10.exts hb12 (Nat.le_refl _)
      clear hb12 hE11 c19
      go_wp2_with fail
      refine (same_calls _ _ l m w12 c6 c7).mono ?_
      rintro e w13 ⟨rfl, hb13⟩
      have hE13 := hE12.trans (hb13.mono hE12.size)
      have i8 := i8.exts hb13 (Nat.le_refl _)
      have i10 := i10.exts hb13 (Nat.le_refl _)
      have s8 := conv_bytes (P := Try.prog) i8 (src := 32) (e := 5) (dst := 9) Try.underlying32 Try.underlying5 Try.underlying9
      have s10 := conv_bytes (P := Try.prog) i10 (src := 32) (e := 5) (dst := 9) Try.underlying32 Try.underlying5 Try.underlying9
      have hstr : ((strOfNums (encs l)).toList == (strOfNums (encs m)).toList) = decide (l = m) := by
        rw [strEq (bytes_encs l) (bytes_encs m), Bool.eq_iff_iff, decide_eq_true_iff, decide_eq_true_iff]
        exact ⟨fun h => encs_inj hl.out.1 hm.out.1 (by have := hl.out.2; omega) (by have := hm.out.2; omega) h, fun h => by rw [h]⟩
      generalize decide (l = m) = q at *
      clear hb13 hE12 c6 c7 i8 i10
      go_wp2_with fail
      go_ret
      exact ⟨rfl, hE13⟩

end Go.Proofs.Ytgchdgnephbafaa
