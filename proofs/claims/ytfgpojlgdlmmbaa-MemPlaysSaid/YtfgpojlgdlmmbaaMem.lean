/- The walks of package mem: New, part, Write, Read, Size, and what they call. -/
import Derived.Test.YtfgpojlgdlmmbaaTypes
import Derived.Test.YtfgpojlgdlmmbaaDraw
import Derived.Laws.CopyOwn
import Derived.Laws.MakeOwn
import Derived.Laws.OwnMore
import Derived.OwnWalk
namespace Go.Proofs.Ytfgpojlgdlmmbaa
set_option linter.unusedSimpArgs false
set_option linter.unusedVariables false
set_option linter.unnecessarySimpa false
open Go.RowKit

/-- So many numbers from a place on are there. -/
def Fits (n at_ k : Int) : Prop := 0 ≤ k ∧ k ≤ n ∧ 0 ≤ at_ ∧ at_ ≤ n - k
instance (n at_ k : Int) : Decidable (Fits n at_ k) := by unfold Fits; infer_instance

def fitsB (n at_ k : Int) : Bool := decide (Fits n at_ k)

/-- A memory: a box that holds one row of numbers. -/
def MemAt (w : World) (base p : Nat) (v : Value) (zs : List Int) : Prop :=
  w.heap[p]? = some (.cells #[v] 44 (0, 0)) ∧ w.ownsRow base 38 1 v zs.length (zs.map (.int .i8)) ∧ zs.length ≤ 65536 ∧ v.ownBlock ≠ some p

/-- A part of it. -/
def PartIs (v : Value) (zs : List Int) (at_ k : Int) (q : Value) : Prop :=
  if Fits zs.length at_ k then ∃ A c, q = .slice A k.toNat c ∧ k.toNat ≤ c ∧ c ≤ maxLen ∧ (0 < k → ∃ g cap, v = .slice (some ⟨g, 0, none⟩) zs.length cap ∧ A = some ⟨g, at_.toNat, none⟩) else q = .slice none 0 0

theorem MemAt.cell {w : World} {base p : Nat} {v : Value} {zs : List Int} (h : MemAt w base p v zs) : w.cell? ⟨p, 0, none⟩ = some v := by simp [World.cell?, h.1]

theorem MemAt.slice {w : World} {base p : Nat} {v : Value} {zs : List Int} (h : MemAt w base p v zs) : ∃ A c, v = .slice A zs.length c ∧ zs.length ≤ c ∧ c ≤ maxLen ∧ (zs.length > 0 → ∃ g, A = some ⟨g, 0, none⟩) ∧ (∀ a, A = some a → ∃ g, a = ⟨g, 0, none⟩) := by
  rcases h.2.1.2 with ⟨rfl, h0⟩ | ⟨g, cap, cur, rfl, h1, h2, h3, h4, _⟩
  · exact ⟨none, 0, by rw [h0], by omega, by unfold maxLen; omega, fun h => by omega, fun a ha => by cases ha⟩
  · exact ⟨_, cap, rfl, h3, h4, fun _ => ⟨g, rfl⟩, fun a ha => by cases ha; exact ⟨g, rfl⟩⟩

set_option maxHeartbeats 800000 in
theorem part_calls (base p : Nat) (v : Value) (zs : List Int) (at_ k : Int) (w : World) (hm : MemAt w base p v zs) (hat : InK .i64 at_) (hk : InK .i64 k) :
    Calls Try.prog 15 #[.pointer (some ⟨p, 0, none⟩), .int .i64 at_, .int .i64 k] w fun e w' => (∃ q, e = .returned (.tuple #[q, .bool (fitsB zs.length at_ k)]) ∧ PartIs v zs at_ k q) ∧ w = w' := by
  have hcell := hm.cell
  have hlen := hm.2.2.1
  obtain ⟨A, c, rfl, hlc, hcm, hA, hA'⟩ := hm.slice
  unfold maxLen at hcm
  clear hm
  simp only [InK] at hat hk
  by_cases hf : Fits zs.length at_ k
  · have hd := Lib.hid (show fitsB zs.length at_ k = true from decide_eq_true hf)
    have hP : ∀ q, Hid ((∃ A' c', q = .slice A' k.toNat c' ∧ k.toNat ≤ c' ∧ c' ≤ maxLen ∧ (0 < k → ∃ g cap, Value.slice A zs.length c = .slice (some ⟨g, 0, none⟩) zs.length cap ∧ A' = some ⟨g, at_.toNat, none⟩)) → PartIs (.slice A zs.length c) zs at_ k q) := fun q h => by unfold PartIs; rw [if_pos hf]; exact h
    obtain ⟨h1, h2, h3, h4⟩ := hf
    have e1 : (at_ + k).toNat - at_.toNat = k.toNat := by omega
    by_cases hc : c = at_.toNat
    · go_enter Try.func15, Try.ntmps15
      go_wp2
      go_ret2
      refine ⟨⟨.slice A k.toNat 0, ?_, ?_⟩, rfl⟩
      · rw [hd.out]; rfl
      · exact (hP _).out ⟨A, 0, rfl, by omega, by unfold maxLen; omega, fun _ => by omega⟩
    · go_enter Try.func15, Try.ntmps15
      go_wp2
      go_ret2
      refine ⟨⟨.slice (A.map fun a => a.add (at_.toNat)) k.toNat (c - at_.toNat), ?_, ?_⟩, rfl⟩
      · rw [hd.out]; rfl
      · refine (hP _).out ⟨A.map fun a => a.add (at_.toNat), c - at_.toNat, rfl, by omega, by unfold maxLen; omega, fun h0 => ?_⟩
        obtain ⟨g, rfl⟩ := hA (by omega)
        exact ⟨g, c, rfl, by simp [add_lit]⟩
  · have hd := Lib.hid (show fitsB zs.length at_ k = false from decide_eq_false hf)
    have hP : Hid (PartIs (.slice A zs.length c) zs at_ k (.slice none 0 0)) := by show PartIs _ _ _ _ _; unfold PartIs; rw [if_neg hf]
    have hf : k < 0 ∨ zs.length < k ∨ at_ < 0 ∨ zs.length - k < at_ := by unfold Fits at hf; omega
    go_enter Try.func15, Try.ntmps15
    go_wp2
    all_goals
      go_ret2
      refine ⟨⟨.slice none 0 0, ?_, hP.out⟩, rfl⟩
      rw [hd.out]; rfl

def memErr (n at_ k : Int) : Int := if Fits n at_ k then 0 else 23
def readAt (zs : List Int) (at_ k : Int) : List Int := if Fits zs.length at_ k then (zs.drop at_.toNat).take k.toNat else []
def writeAt (zs : List Int) (at_ : Int) (ys : List Int) : List Int := if Fits zs.length at_ ys.length then splice zs at_.toNat ys else zs

theorem length_writeAt (zs : List Int) (at_ : Int) (ys : List Int) : (writeAt zs at_ ys).length = zs.length := by
  unfold writeAt
  split
  · rename_i h
    obtain ⟨h1, h2, h3, h4⟩ := h
    exact length_splice _ _ _ (by omega)
  · rfl

theorem length_readAt {zs : List Int} {at_ k : Int} (h : Fits zs.length at_ k) : (readAt zs at_ k).length = k.toNat := by
  unfold readAt
  rw [if_pos h]
  obtain ⟨h1, h2, h3, h4⟩ := h
  simp; omega

theorem readAt_le (zs : List Int) (at_ k : Int) : (readAt zs at_ k).length ≤ zs.length := by
  unfold readAt
  split
  · simp; omega
  · simp

theorem PartIs.ints {w : World} {base p : Nat} {v : Value} {zs : List Int} {at_ k : Int} {q : Value} (hm : MemAt w base p v zs) (hq : PartIs v zs at_ k q) : Ints .i8 w q (readAt zs at_ k) := by
  unfold PartIs at hq
  unfold readAt
  by_cases hf : Fits zs.length at_ k
  · rw [if_pos hf] at hq ⊢
    obtain ⟨h1, h2, h3, h4⟩ := hf
    obtain ⟨A, c, rfl, hc, hm', hp⟩ := hq
    have hl : ((zs.drop at_.toNat).take k.toNat).length = k.toNat := by simp; omega
    refine ⟨A, c, by rw [hl], by omega, hm', by simp, fun j u hj => ?_⟩
    have hjl : j < k.toNat := by
      rcases Nat.lt_or_ge j k.toNat with h | h
      · exact h
      · rw [List.getElem?_eq_none (by simp; omega)] at hj; cases hj
    obtain ⟨g, cap, rfl, rfl⟩ := hp (by omega)
    refine ⟨g, at_.toNat, rfl, ?_⟩
    have := hm.2.1.cells (g := g) rfl (at_.toNat + j) u (by
      rw [List.map_take, List.map_drop, List.getElem?_take_of_lt hjl, List.getElem?_drop] at hj
      exact hj)
    rwa [add_lit, Nat.zero_add] at this
  · rw [if_neg hf] at hq ⊢
    subst hq
    exact row_nil _ _

set_option maxHeartbeats 400000 in
theorem cloneI8_calls (v : Value) (zs : List Int) (w : World) (hv : Ints .i8 w v zs) (hl : zs.length ≤ 1000000) :
    Calls Try.prog 14 #[v] w (Made 38 1 zs.length (zs.map (.int .i8)) w) := by
  have hv' := hv
  obtain ⟨A, c, rfl, hlc, hcm, _, hA⟩ := hv
  have hq := fun w : World => Lib.run_eql_slice_nil (P := Try.prog) w 32 38 A zs.length c 0 0 Try.underlying32
  cases A with
  | none =>
    have h0 := Lib.hid (show zs = [] by simpa using hA.none)
    clear hA
    go_enter Try.func14, Try.ntmps14
    go_wp2
    go_ret
    have h0 := h0.out
    subst h0
    exact ⟨_, rfl, World.ownsRow_nil _ _ _ _, Below.refl _ _⟩
  | some ad =>
    clear hA
    have hown := World.ownsRow_made (base := w.heap.size) (e := 38) (size := 1) w #[] 0 (Nat.le_refl _) (Nat.zero_le _) rfl
    go_enter Try.func14, Try.ntmps14
    go_wp2_with (at_builtin; refine wpList_append_row rfl rfl elem_i8 hown rfl (Row.below hv' (below_alloc (Below.refl _ _) (Nat.le_refl _) _)) rfl (one_ints _ _) (by omega) (by omega) (by simp) ?_; intro v1 w1 hown1 hg1 _)
    go_ret
    exact ⟨_, rfl, by simpa using hown1, below_own (below_alloc (Below.refl _ _) (Nat.le_refl _) _) (by simp) hown (Nat.le_refl _) hg1⟩

theorem MemAt.below {w w' : World} {base p : Nat} {v : Value} {zs : List Int} {B : Nat} (h : MemAt w base p v zs) (hb : Below B w w') (hB : w.heap.size ≤ B) : MemAt w' base p v zs := by
  obtain ⟨h1, h2, h3, h4⟩ := h
  refine ⟨?_, h2.kept (row := none) (grown_of_ext (hb.mono hB)) (by cases h : v.ownBlock <;> simp), h3, h4⟩
  rw [hb.block p (by have := (Array.getElem?_eq_some_iff.1 h1).1; omega)]
  exact h1

/-- What Read answers. -/
def ReadPost (zs : List Int) (at_ k : Int) (w : World) (e : Ending) (w' : World) : Prop :=
  ∃ v', e = .returned (.tuple #[v', .int .i64 (memErr zs.length at_ k)]) ∧ w'.ownsRow w.heap.size 38 1 v' (readAt zs at_ k).length ((readAt zs at_ k).map (.int .i8)) ∧ Below w.heap.size w w'

set_option maxHeartbeats 800000 in
theorem read_calls (base p : Nat) (v : Value) (zs : List Int) (at_ k : Int) (w : World) (hm : MemAt w base p v zs) (hat : InK .i64 at_) (hk : InK .i64 k) :
    Calls Try.prog 11 #[.pointer (some ⟨p, 0, none⟩), .int .i64 at_, .int .i64 k] w (ReadPost zs at_ k w) := by
  have hrl := readAt_le zs at_ k
  have hzl := hm.2.2.1
  go_enter Try.func11, Try.ntmps11
  go_wp2_with fail
  refine (part_calls base p v zs at_ k _ hm hat hk).mono ?_
  rintro e w' ⟨⟨q, rfl, hq⟩, rfl⟩
  have hi := hq.ints hm
  by_cases hf : Fits zs.length at_ k
  · have he := Lib.hid (show memErr zs.length at_ k = 0 from if_pos hf)
    have hd := Lib.hid (show fitsB zs.length at_ k = true from decide_eq_true hf)
    clear hq hm hf
    rw [hd.out]
    go_wp2_with fail
    refine (cloneI8_calls _ _ _ hi (by omega)).mono ?_
    rintro e w1 ⟨v1, rfl, hown, hb⟩
    go_wp2_with fail
    go_ret2
    exact ⟨v1, by rw [he.out]; rfl, hown, hb⟩
  · have he := Lib.hid (show memErr zs.length at_ k = 23 from if_neg hf)
    have hd := Lib.hid (show fitsB zs.length at_ k = false from decide_eq_false hf)
    have hr := Lib.hid (show readAt zs at_ k = [] from if_neg hf)
    clear hq hm hf hi
    rw [hd.out]
    go_wp2_with fail
    go_ret2
    refine ⟨.slice none 0 0, by rw [he.out]; rfl, ?_, Below.refl _ _⟩
    rw [hr.out]
    exact World.ownsRow_nil _ _ _ _

/-- What Size answers. -/
theorem size_calls (base p : Nat) (v : Value) (zs : List Int) (w : World) (hm : MemAt w base p v zs) :
    Calls Try.prog 7 #[.pointer (some ⟨p, 0, none⟩)] w fun e w' => e = .returned (.int .i64 zs.length) ∧ w = w' := by
  have hcell := hm.cell
  obtain ⟨A, c, rfl, _⟩ := hm.slice
  clear hm
  go_enter Try.func7, Try.ntmps7
  go_wp2
  go_ret
  exact ⟨rfl, rfl⟩

/-- 'copy(to, from)', to a part of a row that is known whole: as many as both have. -/
theorem wpList_copy_part {P : Program} {w : World} {ops : Array Oper} {rest : List Oper} {o : Oper} {a : Act} {Q : Exit → Act → World → Prop} (hgd : o.guard = Option.none) {d s : Operand} {dT sT elem : TypeId}
    (ho : o.op = .call { callee := .builtin .copy, args := #[d, s], argTypes := #[dT, sT] }) (hu : P.underlying dT = some (.slice elem)) (hsz : (P.info? elem).map (·.size) = some 1)
    {A : Option Addr} {n c : Nat} (hd : a.eval d = .slice A n c) {y : Value} {news : List Value} (hy : Row w y n 1 news) (hs : a.eval s = y) (h1 : ∀ u ∈ news, u.oneCell' = true)
    {g off : Nat} {cur : Array Value} {t : TypeId} (hpos : 0 < n → A = some ⟨g, off, Option.none⟩ ∧ w.heap[g]? = some (.cells cur t (0, 0)) ∧ off + n ≤ cur.size)
    (h : ∀ w', (n = 0 → w' = w) → (0 < n → w'.heap[g]? = some (.cells (splice cur.toList off news).toArray t (0, 0))) → w.grownBy w' (some g) → wpList P ops Q rest (a.put o.dst (.int .i64 n)) w') :
    wpList P ops Q (o :: rest) a w := by
  obtain ⟨A', c', rfl, h2, h3, h4, h5⟩ := hy
  rcases Nat.eq_zero_or_pos n with h0 | h0
  · subst h0
    exact wpList_copy_nothing hgd d s dT sT ho elem hu hsz _ _ 0 c 0 c' hd hs rfl (h w (fun _ => rfl) (fun h => absurd h (by omega)) (World.grownBy.refl _ _))
  · obtain ⟨rfl, hg, hfit⟩ := hpos h0
    have hnl : news.length = n := by omega
    obtain ⟨u, us, hnews⟩ : ∃ u us, news = u :: us := by
      cases news with
      | nil => simp at hnl; omega
      | cons u us => exact ⟨u, us, rfl⟩
    obtain ⟨b, o', rfl, _⟩ := h5 0 u (by rw [hnews]; rfl)
    refine wpList_copy_own hgd d s dT sT ho elem hu hsz g off n c ⟨b, o', Option.none⟩ n c' hd hs cur t hg news (by rw [hnl]; exact (Nat.min_self n).symm) (fun j v hj => ?_) (by omega) h1 ?_
    · obtain ⟨b', off', e, hc⟩ := h5 j v hj
      cases e
      have : (⟨b, o', Option.none⟩ : Addr).add j = ⟨b, o' + j, Option.none⟩ := by unfold Addr.add; split <;> simp_all
      rw [this]; exact hc
    · rw [hnl]
      have e : goInt (n : Int) = .int .i64 n := rfl
      refine h _ (fun h => absurd h (by omega)) (fun _ => ?_) ⟨rfl, rfl, rfl, by simp, fun k _ hk => setRow_other w g k _ (fun e => hk (by rw [e]))⟩
      rw [setRow_heap w g cur _ t _ hg]
      unfold splice
      rw [hnl]

theorem splice_get {α : Type} (L : List α) (off : Nat) (cs : List α) (h : off + cs.length ≤ L.length) (j : Nat) : (splice L off cs)[j]? = if off ≤ j ∧ j < off + cs.length then cs[j - off]? else L[j]? := by
  unfold splice
  rcases Nat.lt_or_ge j off with h1 | h1
  · rw [if_neg (by omega), List.getElem?_append_left (by simp; omega), List.getElem?_take_of_lt h1]
  · rw [List.getElem?_append_right (by simp; omega)]
    have e : j - (L.take off).length = j - off := by simp; omega
    rw [e]
    rcases Nat.lt_or_ge j (off + cs.length) with h2 | h2
    · rw [if_pos ⟨h1, h2⟩, List.getElem?_append_left (by omega)]
    · rw [if_neg (by omega), List.getElem?_append_right (by omega), List.getElem?_drop]
      congr 1
      omega

theorem splice_take {α : Type} (L : List α) (off n : Nat) (cs : List α) (h : off + cs.length ≤ n) (hn : n ≤ L.length) : (splice L off cs).take n = splice (L.take n) off cs := by
  apply List.ext_getElem?
  intro j
  rw [splice_get _ _ _ (by simp; omega), List.getElem?_take, List.getElem?_take, splice_get _ _ _ (by omega)]
  split <;> split <;> first | rfl | omega

theorem splice_none {α : Type} (L : List α) (off : Nat) : splice L off [] = L := by simp [splice]

theorem splice_map {α β : Type} (f : α → β) (L : List α) (off : Nat) (cs : List α) : (splice L off cs).map f = splice (L.map f) off (cs.map f) := by
  simp [splice, List.map_take, List.map_drop]

set_option maxHeartbeats 800000 in
theorem write_calls (base p : Nat) (v : Value) (zs : List Int) (at_ : Int) (y : Value) (ys : List Int) (w : World) (hm : MemAt w base p v zs) (hat : InK .i64 at_) (hy : Ints .i8 w y ys) :
    Calls Try.prog 9 #[.pointer (some ⟨p, 0, none⟩), .int .i64 at_, y] w fun e w' => e = .returned (.int .i64 (memErr zs.length at_ ys.length)) ∧ MemAt w' base p v (writeAt zs at_ ys) ∧ w.grownBy w' v.ownBlock := by
  obtain ⟨A, c, rfl, hlc, hcm, hc⟩ := id hy
  clear hc
  unfold maxLen at hcm
  go_enter Try.func9, Try.ntmps9
  go_wp2_with fail
  refine (part_calls base p v zs at_ ys.length _ hm hat ⟨by omega, by omega⟩).mono ?_
  rintro e w' ⟨⟨q, rfl, hq⟩, rfl⟩
  by_cases hf : Fits zs.length at_ ys.length
  · have he := Lib.hid (show memErr zs.length at_ ys.length = 0 from if_pos hf)
    have hd := Lib.hid (show fitsB zs.length at_ ys.length = true from decide_eq_true hf)
    have hr := Lib.hid (show writeAt zs at_ ys = splice zs at_.toNat ys from if_pos hf)
    unfold PartIs at hq
    rw [if_pos hf] at hq
    obtain ⟨A', c', rfl, hc', hm', hp⟩ := hq
    rw [hd.out]
    simp only [Int.toNat_natCast] at hp hc'
    have hf' := hf
    obtain ⟨f1, f2, f3, f4⟩ := hf'
    have hlen := hm.2.2.1
    have hex : ∃ g cur, (0 < ys.length → (A' = some ⟨g, at_.toNat, none⟩ ∧ w.heap[g]? = some (.cells cur 38 (0, 0)) ∧ at_.toNat + ys.length ≤ cur.size) ∧
        ∃ cap, v = .slice (some ⟨g, 0, none⟩) zs.length cap ∧ base ≤ g ∧ zs.length ≤ cap ∧ cap ≤ maxLen ∧ cur.size = cap ∧ cur.toList.take zs.length = zs.map (.int .i8)) := by
      rcases Nat.eq_zero_or_pos ys.length with h0 | h0
      · exact ⟨0, #[], fun h => absurd h (by omega)⟩
      · obtain ⟨g, cap, rfl, rfl⟩ := hp (by omega)
        rcases hm.2.1.2 with ⟨h1, h2⟩ | ⟨g', cap', cur, h1, h2, h3, h4, h5, h6, h7⟩
        · cases h1
        · cases h1
          rw [Nat.mul_one] at h6 h7
          exact ⟨g, cur, fun _ => ⟨⟨rfl, h3, by omega⟩, cap, rfl, h2, h4, h5, h6, h7⟩⟩
    obtain ⟨g, cur, hex⟩ := hex
    have hpos := fun h => (hex h).1
    have HEX : Hid _ := hex
    have HP : Hid _ := hp
    clear hex hp hf
    have HM : Hid _ := hm
    clear hm
    go_wp2_with (refine wpList_copy_part (g := g) (off := at_.toNat) (cur := cur) (t := 38) rfl rfl Try.underlying32 (by kernel_rfl) rfl hy rfl (one_ints _ _) hpos ?_; intro w2 hw2 hg2 hgr2)
    have HG : Hid _ := hg2
    clear hg2 hpos
    go_wp2
    go_ret
    have hm := HM.out
    refine ⟨by rw [he.out]; rfl, ?_, ?_⟩
    · rw [hr.out]
      rcases Nat.eq_zero_or_pos ys.length with h0 | h0
      · rw [hw2 h0, List.eq_nil_of_length_eq_zero h0, splice_none]
        exact hm
      · obtain ⟨_, cap, rfl, k1, k2, k3, k4, k5⟩ := HEX.out h0
        have hls : (splice zs at_.toNat ys).length = zs.length := length_splice _ _ _ (by omega)
        have hg := HG.out h0
        refine ⟨?_, ⟨by simp, .inr ⟨g, cap, _, by rw [hls], k1, hg, by omega, k3, ?_, ?_⟩⟩, by omega, hm.2.2.2⟩
        · rw [hgr2.block p (by have := (Array.getElem?_eq_some_iff.1 hm.1).1; omega) (fun e => hm.2.2.2 e.symm)]
          exact hm.1
        · rw [List.size_toArray, length_splice _ _ _ (by simp; omega)]; simp; omega
        · rw [List.toList_toArray, Nat.mul_one, hls, splice_take _ _ _ _ (by simp; omega) (by simp; omega), k5, splice_map]
    · rcases Nat.eq_zero_or_pos ys.length with h0 | h0
      · rw [hw2 h0]; exact World.grownBy.refl _ _
      · obtain ⟨_, cap, rfl, _⟩ := HEX.out h0
        exact hgr2
  · have he := Lib.hid (show memErr zs.length at_ ys.length = 23 from if_neg hf)
    have hd := Lib.hid (show fitsB zs.length at_ ys.length = false from decide_eq_false hf)
    have hr := Lib.hid (show writeAt zs at_ ys = zs from if_neg hf)
    have HM : Hid _ := hm
    clear hq hm hf
    rw [hd.out]
    go_wp2_with fail
    go_ret
    exact ⟨by rw [he.out]; rfl, by rw [hr.out]; exact HM.out, World.grownBy.refl _ _⟩

/-- 'make([]T, n)'. -/
theorem wpList_make_row {P : Program} {w : World} {ops : Array Oper} {rest : List Oper} {o : Oper} {a : Act} {Q : Exit → Act → World → Prop} (hgd : o.guard = Option.none) {l c : Operand} {t e : TypeId} {bytes : Nat}
    (ho : o.op = .makeSlice t l c) (HT : ElemT P t e 1 bytes) {z : Value} (hz : (P.info? e).map (·.zero) = some (some z)) (hz1 : z.cells = #[z]) {kl kc : IntKind} {L C : Int} (n : Nat) (hl : a.eval l = .int kl L) (hc : a.eval c = .int kc C) (hL : L = n) (hC : C = n)
    (b2 : bytes * n ≤ 281474976710656) (b3 : n ≤ maxLen)
    (h : ∀ w', w'.ownsRow w.heap.size e 1 (.slice (some ⟨w.heap.size, 0, Option.none⟩) n n) n (List.replicate n z) → Below w.heap.size w w' → wpList P ops Q rest (a.put o.dst (.slice (some ⟨w.heap.size, 0, Option.none⟩) n n)) w') : wpList P ops Q (o :: rest) a w := by
  obtain ⟨i, z', hi, hz', hs, hby, _⟩ := HT.info
  rw [hi] at hz
  simp only [Option.map_some, Option.some.injEq] at hz
  rw [hz'] at hz
  cases hz
  refine wpList_make_full w hgd l c t ho w.heap.size e i z 1 HT.slice hi hz' hs kl kc L C n hl hc hL hC (by rw [hby]; exact b2) b3 (Nat.le_refl _) fun w' h1 h2 => h w' ?_ ?_
  · rw [Nat.mul_one, hz1, toList_madeCells_one] at h1; exact h1
  · exact (Below.refl _ w).grown h2 (Nat.le_refl _) (fun k hk => by cases hk)

def memSize (n : Int) : Nat := (min (max n 0) 65536).toNat

/-- What New answers. -/
def NewPost (m : Nat) (w : World) (e : Ending) (w' : World) : Prop :=
  ∃ p v, e = .returned (.pointer (some ⟨p, 0, none⟩)) ∧ MemAt w' w.heap.size p v (List.replicate m 0) ∧ w.heap.size ≤ p ∧ Below w.heap.size w w'

set_option maxHeartbeats 800000 in
theorem new_calls (n : Int) (w : World) (hn : InK .i64 n) :
    Calls Try.prog 5 #[.int .i64 n] w (NewPost (memSize n) w) := by
  simp only [InK] at hn
  have hS : Hid (memSize n = (min (max n 0) 65536).toNat) := rfl
  have hs : min (max n 0) 65536 = (memSize n : Int) := by unfold memSize; omega
  have hs1 : memSize n ≤ 65536 := by unfold memSize; omega
  generalize memSize n = m at *
  clear hS
  go_enter Try.func5, Try.ntmps5
  go_wp2_with (refine wpList_make_row rfl rfl elem_i8 (z := .int .i8 0) (by kernel_rfl) rfl m rfl rfl (by first | rfl | omega) (by first | rfl | omega) (by omega) (by unfold maxLen; omega) ?_; intro w1 hown hb)
  go_ret
  have hl := (hown.lt w.heap.size rfl).2
  refine ⟨w1.heap.size, _, rfl, ⟨heap_alloc_new _ _, ?_, by simpa using hs1, ?_⟩, hb.size, hb.alloc hb.size _⟩
  · have := hown.alloc (.cells #[.slice (some ⟨w.heap.size, 0, none⟩) m m] 44 (0, 0))
    simpa using this
  · simp only [Value.ownBlock, ne_eq, Option.some.injEq]; omega

set_option maxHeartbeats 400000 in
theorem same_calls (v u : Value) (zs ys : List Int) (w : World) (hv : Ints .i8 w v zs) (hu : Ints .i8 w u ys) :
    Calls Try.prog 13 #[v, u] w fun e w' => e = .returned (.bool (decide (zs = ys))) ∧ Below w.heap.size w w' := by
  have hv0 := hv
  have hu0 := hu
  obtain ⟨A, c, rfl, hlc, hcm, hc⟩ := hv.form
  obtain ⟨B, d, rfl, hld, hdm, hd⟩ := hu.form
  unfold maxLen at hcm hdm
  clear hv hu hc hd
  by_cases hl : zs.length = ys.length
  · have HL := Lib.hid hl
    rw [hl] at hlc ⊢
    clear hl
    go_enter Try.func13, Try.ntmps13
    go_wp2
    go_loopw [5] (fun i wr => ∃ k : Nat, k ≤ ys.length ∧ i = .int .i64 k ∧ Hid (zs.take k = ys.take k) ∧ Below w.heap.size w wr) (fun i _ => ys.length - (intOf i).toNat)
    case atStart => exact ⟨0, by omega, rfl, rfl, Below.refl _ _⟩
    case round =>
      obtain ⟨k, hk, rfl, heq, hbel⟩ := hrel
      by_cases hlt : k < ys.length
      · obtain ⟨_, _, e1, _, _, hc⟩ := (hv0.below hbel).form
        obtain ⟨_, _, e2, _, _, hd⟩ := (hu0.below hbel).form
        cases e1
        cases e2
        obtain ⟨b, off, rfl, hcell⟩ := hc k (by rw [HL.out]; exact hlt)
        obtain ⟨b', off', rfl, hcell'⟩ := hd k hlt
        clear hc hd
        have hlz : k < zs.length := by rw [HL.out]; exact hlt
        have HZ : Hid (zs[k]?.getD 0 = zs[k]) := by show _ = _; simp [hlz]
        have HY : Hid (ys[k]?.getD 0 = ys[k]) := by show _ = _; simp [hlt]
        have HS : Hid (zs[k]?.getD 0 = ys[k]?.getD 0 → zs.take (k + 1) = ys.take (k + 1)) := by
          show _ → _
          intro e
          rw [HZ.out, HY.out] at e
          rw [List.take_succ_eq_append_getElem hlz, List.take_succ_eq_append_getElem hlt, heq.out, e]
        have HN : Hid (zs[k]?.getD 0 ≠ ys[k]?.getD 0 → decide (zs = ys) = false) := by
          show _ → _
          intro e
          exact decide_eq_false (fun h => e (by rw [h]))
        generalize zs[k]?.getD 0 = z at *
        generalize ys[k]?.getD 0 = y at *
        clear HZ HY hlz
        by_cases hzy : z = y
        · subst hzy
          have HS1 := Lib.hid (HS.out rfl)
          clear HS
          go_wp2_with fail
          go_region
          go_wp2
          go_roundw
          case rel => exact ⟨k + 1, by omega, by go_num, HS1, hbel.drew⟩
          case measure => simp [intOf]; omega
        · have hq : (z != y) = true := by simpa using hzy
          have HN1 := Lib.hid (HN.out hzy)
          clear HN
          go_wp2_with fail
          go_region
          go_wp2
          go_ret
          exact ⟨by rw [HN1.out]; rfl, hbel.drew⟩
      · have hkk : k = ys.length := by omega
        have HE : Hid (decide (zs = ys) = true) := by
          show _ = _
          have h1 := heq.out
          rw [hkk, List.take_length, ← HL.out, List.take_length] at h1
          exact decide_eq_true h1
        go_wp2
        go_ret
        exact ⟨by rw [HE.out]; rfl, hbel⟩
  · have HN : Hid (decide (zs = ys) = false) := decide_eq_false (fun h => hl (by rw [h]))
    go_enter Try.func13, Try.ntmps13
    go_wp2
    go_ret
    exact ⟨by rw [HN.out]; rfl, Below.refl _ _⟩

end Go.Proofs.Ytfgpojlgdlmmbaa
