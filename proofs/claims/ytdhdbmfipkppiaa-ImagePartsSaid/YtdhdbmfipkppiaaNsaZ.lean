/- Commands as bytes: what was laid down is taken, and what is taken was laid down so. It speaks of no program's text. -/
import Derived.Test.YtdhdbmfipkppiaaNsaK
namespace Go.Proofs.Ytdhdbmfipkppiaa.Isa
set_option linter.unusedSimpArgs false
set_option linter.unusedVariables false
set_option linter.unnecessarySimpa false
set_option maxRecDepth 10000
open Go.RowKit

def Bytes (zs : List Int) : Prop := ∀ z ∈ zs, 0 ≤ z ∧ z ≤ 255
theorem Bytes.take {zs : List Int} (h : Bytes zs) (n : Nat) : Bytes (zs.take n) := fun z hz => h z (List.mem_of_mem_take hz)
theorem Bytes.drop {zs : List Int} (h : Bytes zs) (n : Nat) : Bytes (zs.drop n) := fun z hz => h z (List.mem_of_mem_drop hz)

theorem be_succ (x : Int) (n : Nat) : be x (n + 1) = be (x / 256) n ++ [x % 256] := by
  unfold be
  rw [List.range_succ, List.map_append]
  congr 1
  · apply List.map_congr_left
    intro i hi
    have hi' := List.mem_range.1 hi
    unfold byteAt
    rw [show 8 * (n + 1 - 1 - i) = 8 + 8 * (n - 1 - i) from by omega, Int.pow_add, ← Int.ediv_ediv_of_nonneg (by decide)]
    rfl
  · simp [byteAt]

theorem numOf_be : ∀ (n : Nat) (x : Int), 0 ≤ x → x < 256 ^ n → numOf (be x n) = x
  | 0, x, h1, h2 => by
    rw [Int.pow_zero] at h2
    have : x = 0 := by omega
    subst this
    rfl
  | n + 1, x, h1, h2 => by
    rw [be_succ, numOf_snoc, numOf_be n (x / 256) (by omega) (by rw [Int.pow_succ] at h2; omega)]
    omega

theorem be_numOf : ∀ (n : Nat) (zs : List Int), zs.length = n → Bytes zs → be (numOf zs) n = zs
  | 0, zs, h, _ => by
    obtain rfl := List.eq_nil_of_length_eq_zero h
    rfl
  | n + 1, zs, h, hb => by
    have hne : zs ≠ [] := by intro e; rw [e] at h; cases h
    have e := List.dropLast_concat_getLast hne
    have h1 := hb _ (List.getLast_mem hne)
    have hd : zs.dropLast.length = n := by rw [List.length_dropLast, h]; rfl
    have hbd : Bytes zs.dropLast := fun z hm => hb z (List.dropLast_subset zs hm)
    rw [be_succ]
    have hn : numOf zs = 256 * numOf zs.dropLast + zs.getLast hne := by
      conv => lhs; rw [← e]
      rw [numOf_snoc]
    rw [hn, show (256 * numOf zs.dropLast + zs.getLast hne) / 256 = numOf zs.dropLast from by omega, show (256 * numOf zs.dropLast + zs.getLast hne) % 256 = zs.getLast hne from by omega, be_numOf n _ hd hbd, e]

theorem numStep_be (x : Int) (n : Nat) (rest : List Int) (bad : Bool) (h1 : 0 ≤ x) (h2 : x < 256 ^ n) : numStep (be x n ++ rest) bad n = (x, rest, bad) := by
  unfold numStep
  rw [if_pos (by rw [List.length_append, be_len]; omega), List.take_append_of_le_length (by rw [be_len]; exact Nat.le_refl _), List.take_of_length_le (by rw [be_len]; exact Nat.le_refl _), numOf_be n x h1 h2, List.drop_append_of_le_length (by rw [be_len]; exact Nat.le_refl _), List.drop_of_length_le (by rw [be_len]; exact Nat.le_refl _)]
  rfl

theorem readF_be (L : List Int) (rest : List Int) : ∀ (T : List Fd) (cs : List Int), (∀ x ∈ T, 0 ≤ L[x.at_]?.getD 0 ∧ L[x.at_]?.getD 0 < 256 ^ x.wide) →
    readF ((T.flatMap fun x => be (L[x.at_]?.getD 0) x.wide) ++ rest) false cs T = (rest, false, T.foldl (fun cs x => cs.set x.at_ (L[x.at_]?.getD 0)) cs)
  | [], cs, _ => rfl
  | x :: T, cs, h => by
    obtain ⟨h1, h2⟩ := h x (by simp)
    rw [readF, List.flatMap_cons, List.append_assoc, numStep_be _ _ _ _ h1 h2]
    exact readF_be L rest T _ (fun y hy => h y (by simp [hy]))

theorem range_of_may {c : Cm} (h : mayB c = true) : (∀ x ∈ tbl c.k, 0 ≤ c.l[x.at_]?.getD 0 ∧ c.l[x.at_]?.getD 0 < 256 ^ x.wide) ∧ (tbl c.k).foldl (fun cs x => cs.set x.at_ (c.l[x.at_]?.getD 0)) (Cm.of c.k).l = c.l := by
  obtain ⟨h1, h2⟩ := mayB_kind h
  have hk : (c.k = 1 ∨ c.k = 2) ∨ c.k = 3 ∨ c.k = 4 ∨ (c.k = 5 ∨ c.k = 6) ∨ c.k = 7 := by omega
  rcases hk with hk | hk | hk | hk | hk
  · have hm := (mayB_load hk).1 h
    have e : tbl c.k = [⟨4, 1, 1, 16⟩, ⟨5, 2, 1, 128⟩, ⟨6, 3, 0, 65535⟩, ⟨7, 2, 0, 1023⟩] := if_pos hk
    rw [e]
    obtain ⟨hb, z1, z2, z3, z4, z5, z6, z7, z8, z9⟩ := hm
    refine ⟨?_, ?_⟩
    · intro x hx
      simp only [List.mem_cons, List.not_mem_nil, or_false] at hx
      rcases hx with rfl | rfl | rfl | rfl <;> simp [Cm.l] <;> omega
    · simp [Cm.l, Cm.of, z1, z2, z3, z4, z5, z6, z7, z8, z9]
  · have hm := (mayB_tile hk).1 h
    have e : tbl c.k = [⟨2, 1, 0, 11⟩, ⟨3, 1, 0, 15⟩, ⟨4, 1, 1, 16⟩, ⟨7, 2, 0, 1023⟩, ⟨8, 2, 0, 1023⟩, ⟨10, 1, 0, 15⟩, ⟨12, 1, 0, 16⟩, ⟨9, 2, 0, 1023⟩, ⟨11, 1, 0, 15⟩, ⟨13, 1, 0, 16⟩] := by
      unfold tbl
      rw [if_neg (by omega), if_pos hk]
      rfl
    rw [e]
    obtain ⟨hb, z1, z2, z3⟩ := hm
    refine ⟨?_, ?_⟩
    · intro x hx
      simp only [List.mem_cons, List.not_mem_nil, or_false] at hx
      rcases hx with rfl | rfl | rfl | rfl | rfl | rfl | rfl | rfl | rfl | rfl <;> simp [Cm.l] <;> omega
    · simp [Cm.l, Cm.of, z1, z2, z3]
  · have hm := (mayB_kernel hk).1 h
    have e : tbl c.k = [⟨2, 1, 0, 11⟩, ⟨4, 1, 1, 16⟩] := by
      unfold tbl
      rw [if_neg (by omega), if_neg (by omega), if_pos hk]
    rw [e]
    obtain ⟨hb, z1, z2, z3, z4, z5, z6, z7, z8, z9, z10, z11⟩ := hm
    refine ⟨?_, ?_⟩
    · intro x hx
      simp only [List.mem_cons, List.not_mem_nil, or_false] at hx
      rcases hx with rfl | rfl <;> simp [Cm.l] <;> omega
    · simp [Cm.l, Cm.of, z1, z2, z3, z4, z5, z6, z7, z8, z9, z10, z11]
  · have hm := (mayB_sem hk).1 h
    have e : tbl c.k = [⟨1, 1, 0, 7⟩] := by
      unfold tbl
      rw [if_neg (by omega), if_neg (by omega), if_neg (by omega), if_pos hk]
    rw [e]
    obtain ⟨hb, z1, z2, z3, z4, z5, z6, z7, z8, z9, z10, z11, z12⟩ := hm
    refine ⟨?_, ?_⟩
    · intro x hx
      simp only [List.mem_cons, List.not_mem_nil, or_false] at hx
      rcases hx with rfl; simp [Cm.l]; omega
    · simp [Cm.l, Cm.of, z1, z2, z3, z4, z5, z6, z7, z8, z9, z10, z11, z12]
  · have hm := (mayB_halt hk).1 h
    have e : tbl c.k = [] := by
      unfold tbl
      rw [if_neg (by omega), if_neg (by omega), if_neg (by omega), if_neg (by omega)]
    rw [e]
    obtain ⟨z1, z2, z3, z4, z5, z6, z7, z8, z9, z10, z11, z12, z13⟩ := hm
    refine ⟨(fun x hx => by cases hx), ?_⟩
    simp [Cm.l, Cm.of, z1, z2, z3, z4, z5, z6, z7, z8, z9, z10, z11, z12, z13]

theorem cmdStep_enc {c : Cm} (h : mayB c = true) (rest : List Int) : cmdStep (enc c ++ rest) false = (rest, false, c.l, c.k) := by
  obtain ⟨h1, h2⟩ := mayB_kind h
  obtain ⟨h3, h4⟩ := range_of_may h
  unfold cmdStep enc
  rw [List.append_assoc, numStep_be c.k 1 _ false (by omega) (by omega)]
  simp only
  rw [readF_be c.l rest _ _ h3, h4]

theorem stepOk_enc {c : Cm} (h : mayB c = true) (rest : List Int) : stepOk (cmdStep (enc c ++ rest) false) = true := by
  rw [cmdStep_enc h]
  unfold stepOk
  simp only [toCm_l, h]
  have := mayB_kind h
  have ho : okK c.k = true := by unfold okK; rw [decide_eq_true_iff]; exact this
  rw [ho]
  rfl

theorem goTake_enc : ∀ (l : List Cm) (rest : List Int), l.all mayB = true → goTake l.length (l.flatMap enc ++ rest) = some (l, rest)
  | [], rest, _ => rfl
  | c :: l, rest, h => by
    simp only [List.all_cons, Bool.and_eq_true] at h
    rw [List.length_cons, goTake, List.flatMap_cons, List.append_assoc, stepOk_enc h.1, cmdStep_enc h.1, goTake_enc l rest h.2, if_pos rfl]
    simp [toCm_l]

theorem takeL_encs (l : List Cm) (rest : List Int) (h : l.all mayB = true) (hl : l.length ≤ 4096) : takeL (encs l ++ rest) = some (l, (encs l).length) := by
  have e : (encs l ++ rest).take 2 = be l.length 2 := by
    unfold encs
    rw [List.append_assoc, List.take_append_of_le_length (by rw [be_len]; exact Nat.le_refl _), List.take_of_length_le (by rw [be_len]; exact Nat.le_refl _)]
  have e2 : (encs l ++ rest).drop 2 = l.flatMap enc ++ rest := by
    unfold encs
    rw [List.append_assoc, List.drop_append_of_le_length (by rw [be_len]; exact Nat.le_refl _), List.drop_of_length_le (by rw [be_len]; exact Nat.le_refl _)]
    rfl
  have hn : numOf (be l.length 2) = l.length := numOf_be 2 _ (by omega) (by omega)
  have hlen : 2 ≤ (encs l).length := by unfold encs; rw [List.length_append, be_len]; omega
  unfold takeL
  rw [e, e2, hn, if_neg (by rw [List.length_append]; omega), Int.toNat_natCast, goTake_enc l rest h]
  simp

theorem numStep_ok {zs : List Int} {n : Nat} (hb : Bytes zs) (hf : (numStep zs false n).2.2 = false) : zs = be (numStep zs false n).1 n ++ (numStep zs false n).2.1 ∧ Bytes (numStep zs false n).2.1 := by
  unfold numStep at hf ⊢
  split at hf
  · rename_i hn
    rw [if_pos hn]
    refine ⟨?_, hb.drop n⟩
    rw [be_numOf n _ (by rw [List.length_take]; omega) (hb.take n), List.take_append_drop]
  · cases hf

theorem readF_bad : ∀ (T : List Fd) (zs cs : List Int), (readF zs true cs T).2.1 = true
  | [], zs, cs => rfl
  | x :: T, zs, cs => by
    rw [readF]
    have : (numStep zs true x.wide).2.2 = true := by unfold numStep; split <;> rfl
    rw [this]
    exact readF_bad T _ _

theorem readF_keeps : ∀ (T : List Fd) (zs : List Int) (bad : Bool) (cs : List Int) (i : Nat), (∀ x ∈ T, x.at_ ≠ i) → (readF zs bad cs T).2.2[i]? = cs[i]?
  | [], zs, bad, cs, i, _ => rfl
  | x :: T, zs, bad, cs, i, h => by
    rw [readF, readF_keeps T _ _ _ i (fun y hy => h y (by simp [hy])), List.getElem?_set_ne (h x (by simp))]

theorem readF_len : ∀ (T : List Fd) (zs : List Int) (bad : Bool) (cs : List Int), (readF zs bad cs T).2.2.length = cs.length
  | [], zs, bad, cs => rfl
  | x :: T, zs, bad, cs => by
    rw [readF, readF_len T, List.length_set]

theorem readF_ok : ∀ (T : List Fd) (zs cs : List Int), (T.map (·.at_)).Nodup → (∀ x ∈ T, x.at_ < cs.length) → Bytes zs → (readF zs false cs T).2.1 = false →
    zs = (T.flatMap fun x => be ((readF zs false cs T).2.2[x.at_]?.getD 0) x.wide) ++ (readF zs false cs T).1
  | [], zs, cs, _, _, _, _ => rfl
  | x :: T, zs, cs, hn, hl, hb, hf => by
    rw [readF] at hf ⊢
    cases hq : (numStep zs false x.wide).2.2 with
    | true => rw [hq, readF_bad] at hf; cases hf
    | false =>
      obtain ⟨e1, e2⟩ := numStep_ok hb hq
      rw [hq] at hf
      simp only [List.map_cons, List.nodup_cons] at hn
      have hlx := hl x (by simp)
      have ih := readF_ok T (numStep zs false x.wide).2.1 (cs.set x.at_ (numStep zs false x.wide).1) hn.2 (fun y hy => by rw [List.length_set]; exact hl y (by simp [hy])) e2 hf
      have ek : (readF (numStep zs false x.wide).2.1 false (cs.set x.at_ (numStep zs false x.wide).1) T).2.2[x.at_]?.getD 0 = (numStep zs false x.wide).1 := by
        rw [readF_keeps T _ _ _ _ (fun y hy e => hn.1 (by rw [← e]; exact List.mem_map_of_mem hy))]
        simp [hlx]
      rw [List.flatMap_cons, ek, List.append_assoc, ← ih]
      exact e1

theorem tbl_nodup (z : Int) : ((tbl z).map (·.at_)).Nodup := by
  unfold tbl
  split
  · decide
  · split
    · decide
    · split
      · decide
      · split <;> decide

theorem cmdStep_ok {zs : List Int} (hb : Bytes zs) (h : stepOk (cmdStep zs false) = true) :
    zs = enc (toCm (cmdStep zs false).2.2.1) ++ (cmdStep zs false).1 ∧ mayB (toCm (cmdStep zs false).2.2.1) = true := by
  unfold stepOk at h
  simp only [Bool.and_eq_true, Bool.not_eq_true'] at h
  obtain ⟨⟨h1, h2⟩, h3⟩ := h
  refine ⟨?_, h3⟩
  unfold cmdStep at h2 ⊢
  simp only at h2 ⊢
  cases hq : (numStep zs false 1).2.2 with
  | true => rw [hq, readF_bad] at h2; cases h2
  | false =>
    obtain ⟨e1, e2⟩ := numStep_ok hb hq
    rw [hq] at h2
    have hz := tbl_at (numStep zs false 1).1
    have hr := readF_ok (tbl (numStep zs false 1).1) (numStep zs false 1).2.1 (Cm.of (numStep zs false 1).1).l (tbl_nodup _) (fun x hx => (hz x hx).1) e2 h2
    have h0 := readF_keeps (tbl (numStep zs false 1).1) (numStep zs false 1).2.1 false (Cm.of (numStep zs false 1).1).l 0 (fun x hx e => by have := (hz x hx).2.1; omega)
    have hlen := readF_len (tbl (numStep zs false 1).1) (numStep zs false 1).2.1 false (Cm.of (numStep zs false 1).1).l
    generalize (numStep zs false 1).1 = z at *
    generalize (numStep zs false 1).2.1 = r1 at *
    generalize readF r1 false (Cm.of z).l (tbl z) = q at *
    obtain ⟨c, hc⟩ := cm_of_list q.2.2 hlen
    rw [hc, toCm_l]
    rw [hc] at hr h0
    have hk : c.k = z := by
      have : c.l[0]? = some c.k := rfl
      rw [this] at h0
      simpa [Cm.of, Cm.l] using h0
    rw [e1]
    unfold enc
    rw [hk, List.append_assoc, ← hr]

theorem goTake_ok : ∀ (n : Nat) (zs : List Int) (l : List Cm) (r : List Int), Bytes zs → goTake n zs = some (l, r) → l.length = n ∧ l.all mayB = true ∧ zs = l.flatMap enc ++ r
  | 0, zs, l, r, _, h => by
    simp only [goTake, Option.some.injEq, Prod.mk.injEq] at h
    obtain ⟨rfl, rfl⟩ := h
    exact ⟨rfl, rfl, rfl⟩
  | n + 1, zs, l, r, hb, h => by
    rw [goTake] at h
    split at h
    · rename_i hs
      obtain ⟨e1, e2⟩ := cmdStep_ok hb hs
      cases hg : goTake n (cmdStep zs false).1 with
      | none => rw [hg] at h; cases h
      | some p =>
        obtain ⟨l', r'⟩ := p
        rw [hg] at h
        simp only [Option.map_some, Option.some.injEq, Prod.mk.injEq] at h
        obtain ⟨rfl, rfl⟩ := h
        have hb1 : Bytes (cmdStep zs false).1 := fun z hz => hb z (by rw [e1]; exact List.mem_append_right _ hz)
        obtain ⟨i1, i2, i3⟩ := goTake_ok n _ l' r' hb1 hg
        refine ⟨by rw [List.length_cons, i1], by rw [List.all_cons, e2, i2]; rfl, ?_⟩
        rw [List.flatMap_cons, List.append_assoc, ← i3]
        exact e1
    · cases h

theorem takeL_ok {zs : List Int} {l : List Cm} {n : Nat} (hb : Bytes zs) (h : takeL zs = some (l, n)) : l.length ≤ 4096 ∧ l.all mayB = true ∧ n ≤ zs.length ∧ encs l = zs.take n := by
  unfold takeL at h
  split at h
  · cases h
  · rename_i hc
    cases hg : goTake (numOf (zs.take 2)).toNat (zs.drop 2) with
    | none => rw [hg] at h; cases h
    | some p =>
      obtain ⟨l', r⟩ := p
      rw [hg] at h
      simp only [Option.map_some, Option.some.injEq, Prod.mk.injEq] at h
      obtain ⟨rfl, rfl⟩ := h
      obtain ⟨i1, i2, i3⟩ := goTake_ok _ _ _ _ (hb.drop 2) hg
      have hr := numOf_range 2 (zs.take 2) (by rw [List.length_take]; omega) (hb.take 2)
      have h2 : (zs.take 2).length = 2 := by rw [List.length_take]; omega
      have hl : ((l'.length : Nat) : Int) = numOf (zs.take 2) := by rw [i1]; omega
      refine ⟨by omega, i2, by omega, ?_⟩
      have e : zs = (zs.take 2 ++ l'.flatMap enc) ++ r := by rw [List.append_assoc, ← i3, List.take_append_drop]
      have e2 : encs l' = zs.take 2 ++ l'.flatMap enc := by
        unfold encs
        rw [hl, be_numOf 2 _ h2 (hb.take 2)]
      rw [e2]
      clear e2 hl h2 hr i3
      generalize zs.take 2 ++ l'.flatMap enc = Q at e ⊢
      rw [e, List.length_append, Nat.add_sub_cancel, List.take_left]

theorem bytes_enc (c : Cm) : Bytes (enc c) := by
  intro z hz
  unfold enc at hz
  rcases List.mem_append.1 hz with h | h
  · exact be_range _ _ z h
  · obtain ⟨x, _, hx⟩ := List.mem_flatMap.1 h
    exact be_range _ _ z hx
theorem bytes_encs (l : List Cm) : Bytes (encs l) := by
  intro z hz
  unfold encs at hz
  rcases List.mem_append.1 hz with h | h
  · exact be_range _ _ z h
  · obtain ⟨x, _, hx⟩ := List.mem_flatMap.1 h
    exact bytes_enc x z hx

/-- What is cut is none. -/
theorem takeL_cut {l : List Cm} (h : l.all mayB = true) (hl : l.length ≤ 4096) {k : Nat} (hk : k < (encs l).length) : takeL ((encs l).take k) = none := by
  cases hq : takeL ((encs l).take k) with
  | none => rfl
  | some p =>
    obtain ⟨l', n⟩ := p
    obtain ⟨a1, a2, a3, a4⟩ := takeL_ok ((bytes_encs l).take k) hq
    rw [List.length_take] at a3
    have e1 := takeL_encs l [] h hl
    have e2 := takeL_encs l' ((encs l).drop n) a2 a1
    have e3 : encs l' ++ (encs l).drop n = encs l := by
      rw [a4, List.take_take, Nat.min_eq_left (by omega), List.take_append_drop]
    rw [List.append_nil] at e1
    rw [e3, e1] at e2
    simp only [Option.some.injEq, Prod.mk.injEq] at e2
    have : (encs l').length = n := by rw [a4, List.length_take, List.length_take]; omega
    omega

theorem encs_inj {l m : List Cm} (hl : l.all mayB = true) (hm : m.all mayB = true) (h1 : l.length ≤ 4096) (h2 : m.length ≤ 4096) (h : encs l = encs m) : l = m := by
  have e1 := takeL_encs l [] hl h1
  have e2 := takeL_encs m [] hm h2
  rw [h, e2] at e1
  simp only [Option.some.injEq, Prod.mk.injEq] at e1
  exact e1.1.symm

end Go.Proofs.Ytdhdbmfipkppiaa.Isa
