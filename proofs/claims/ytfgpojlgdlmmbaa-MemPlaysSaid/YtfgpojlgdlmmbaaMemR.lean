/- What holds in each round of the law MemPlays, and the plain law: a memory is what was written last at each place. -/
import Derived.Test.YtfgpojlgdlmmbaaMemP
namespace Go.Proofs.Ytfgpojlgdlmmbaa
set_option linter.unusedSimpArgs false
set_option linter.unusedVariables false
set_option linter.unnecessarySimpa false
open Go.RowKit

theorem ext_alloc (w : World) (o : Obj) : Ext w (w.alloc o) := below_alloc (Below.refl _ _) (Nat.le_refl _) o

/-- A memory's numbers are those that were written last. -/
def Agree (N : Nat) (zs : List Int) (ps : List (Int × List Int)) : Prop := zs = (List.range N).map fun i => lastAt ps (i : Nat)

theorem Agree.length {N : Nat} {zs : List Int} {ps : List (Int × List Int)} (h : Agree N zs ps) : zs.length = N := by rw [h]; simp
theorem Agree.get {N : Nat} {zs : List Int} {ps : List (Int × List Int)} (h : Agree N zs ps) (j : Nat) : zs[j]? = if j < N then some (lastAt ps j) else none := by
  rw [h, List.getElem?_map]
  by_cases hj : j < N
  · rw [if_pos hj, List.getElem?_range hj]; rfl
  · rw [if_neg hj, List.getElem?_eq_none (by simpa using hj)]; rfl
theorem agree_start (N : Nat) : Agree N (List.replicate N 0) [] := by
  unfold Agree
  apply List.ext_getElem?
  intro j
  rw [List.getElem?_map, List.getElem?_replicate]
  by_cases hj : j < N
  · rw [if_pos hj, List.getElem?_range hj]; rfl
  · rw [if_neg hj, List.getElem?_eq_none (by simpa using hj)]; rfl

theorem Agree.write {N : Nat} {zs : List Int} {ps : List (Int × List Int)} (h : Agree N zs ps) (at_ : Int) (ys : List Int) :
    Agree N (writeAt zs at_ ys) (if Fits N at_ ys.length then ps ++ [(at_, ys)] else ps) := by
  by_cases hf : Fits N at_ ys.length
  · rw [if_pos hf]
    obtain ⟨f1, f2, f3, f4⟩ := hf
    obtain ⟨q, rfl⟩ := Int.eq_ofNat_of_zero_le f3
    have hl := h.length
    unfold Agree
    apply List.ext_getElem?
    intro j
    rw [write_get (by omega), List.getElem?_map, h.get]
    by_cases hj : j < N
    · rw [List.getElem?_range hj, Option.map_some, lastAt_snoc, if_pos hj]
      by_cases hc : q ≤ j ∧ j < q + ys.length
      · rw [if_pos hc, if_pos ⟨by simp only; omega, by simp only; omega⟩]
        simp only
        rw [show ((j : Int) - (q : Int)).toNat = j - q by omega]
        have : j - q < ys.length := by omega
        simp [this]
      · rw [if_neg hc, if_neg (by rintro ⟨h1, h2⟩; simp only at h1 h2; omega)]
    · rw [List.getElem?_eq_none (l := List.range N) (by simpa using hj), if_neg hj, if_neg (by omega)]
      rfl
  · rw [if_neg hf]
    unfold writeAt
    rw [h.length, if_neg hf]
    exact h

theorem Agree.read {N : Nat} {zs : List Int} {ps : List (Int × List Int)} (h : Agree N zs ps) (at_ k : Int) : readAt zs at_ k = refRead N ps at_ k := by
  unfold readAt refRead
  rw [h.length]
  by_cases hf : Fits N at_ k
  · rw [if_pos hf, if_pos hf]
    obtain ⟨f1, f2, f3, f4⟩ := hf
    obtain ⟨q, rfl⟩ := Int.eq_ofNat_of_zero_le f3
    obtain ⟨n, rfl⟩ := Int.eq_ofNat_of_zero_le f1
    apply List.ext_getElem?
    intro j
    rw [List.getElem?_take, List.getElem?_drop, List.getElem?_map, h.get]
    simp only [Int.toNat_natCast]
    by_cases hj : j < n
    · rw [if_pos hj, if_pos (by omega), List.getElem?_range hj]
      simp
    · rw [if_neg hj, List.getElem?_eq_none (by simpa using hj)]
      rfl
  · rw [if_neg hf, if_neg hf]

/-- What holds in each round. -/
structure St (w wx : World) (r N j p : Nat) (v : Value) (zs : List Int) (S : Nat → Prop) (rv : Value) (ps : List PutM) : Prop where
  mem : MemAt wx w.heap.size p v zs
  ref : RefAt wx S r N rv ps
  pS : ¬ S p
  pB : w.heap.size ≤ p
  rB : w.heap.size ≤ r
  vS : ∀ b, v.ownBlock = some b → ¬ S b
  len : ps.length ≤ j
  agree : Agree N zs (ps.map PutM.dat)
  bel : Below w.heap.size w wx

/-- A block that is none of theirs. -/
def Off (w : World) (p : Nat) (v : Value) (S : Nat → Prop) (b : Nat) : Prop := w.heap.size ≤ b ∧ b ≠ p ∧ v.ownBlock ≠ some b ∧ ¬ S b

section
variable {w wx wy : World} {r N j p : Nat} {v : Value} {zs : List Int} {S : Nat → Prop} {rv : Value} {ps : List PutM}

theorem St.off (h : St w wx r N j p v zs S rv ps) {b : Nat} (hb : wx.heap.size ≤ b) : Off w p v S b := by
  obtain ⟨h1, h2⟩ := h.mem.lt
  refine ⟨Nat.le_trans h.bel.size hb, by omega, fun e => by have := h2 b e; omega, fun e => by have := h.ref.lt b e; omega⟩

theorem St.grown (h : St w wx r N j p v zs S rv ps) {row : Option Nat} (hg : wx.grownBy wy row) (hr : ∀ b, row = some b → Off w p v S b) : St w wy r N j p v zs S rv ps := by
  refine ⟨h.mem.grown hg (fun e => (hr p e).2.1 rfl) ?_, h.ref.grown hg (fun b hb e => (hr b e).2.2.2 hb), h.pS, h.pB, h.rB, h.vS, h.len, h.agree, h.bel.grown hg h.bel.size fun b hb => (hr b hb).1⟩
  cases e : v.ownBlock with
  | none => exact Or.inl rfl
  | some b => exact Or.inr fun e2 => (hr b e2.symm).2.2.1 e

theorem St.ext (h : St w wx r N j p v zs S rv ps) (hE : Ext wx wy) : St w wy r N j p v zs S rv ps := h.grown (row := none) (grown_of_ext hE) (fun b hb => by cases hb)

theorem St.wrote {wz : World} {at_ : Int} {ys : List Int} {e : Ending} (h : St w wx r N j p v zs S rv ps) (hm : MemAt wy w.heap.size p v (writeAt zs at_ ys)) (hg : wx.grownBy wy v.ownBlock) (hp : RefWPost S r N ps at_ ys wy e wz) :
    e = .returned (.int .i64 (memErr N at_ ys.length)) ∧ wy.grownBy wz (some r) ∧ ∃ rv' ps', St w wz r N (j + 1) p v (writeAt zs at_ ys) (Wid S wy wz) rv' ps' := by
  obtain ⟨rv', l', rfl, hd, hl, hR, hg2⟩ := hp
  have hrS := h.ref.ins
  obtain ⟨k1, k2⟩ := hm.lt
  refine ⟨rfl, hg2, rv', l', hm.grown hg2 (fun e => h.pS (by have := Option.some.inj e; rw [← this]; exact hrS)) ?_, hR, ?_, h.pB, h.rB, ?_, Nat.le_trans hl (Nat.succ_le_succ h.len), ?_, ?_⟩
  · cases e : v.ownBlock with
    | none => exact Or.inl rfl
    | some b => exact Or.inr fun e2 => h.vS b e (by have := Option.some.inj e2; rw [this]; exact hrS)
  · rintro (hs | ⟨hs, _⟩)
    · exact h.pS hs
    · omega
  · rintro b hb (hs | ⟨hs, _⟩)
    · exact h.vS b hb hs
    · have := k2 b hb; omega
  · rw [hd]
    exact h.agree.write at_ ys
  · have h1 := h.mem.wrote h.bel (Nat.le_refl _) h.bel.size hg
    exact h1.grown hg2 h1.size fun b hb => by
      obtain rfl := Option.some.inj hb
      exact h.rB

theorem own_lower {W : World} {base base' : Nat} {e : TypeId} {sz : Nat} {u : Value} {n : Nat} {xs : List Value} (h : W.ownsRow base e sz u n xs) (hb : base' ≤ base) : W.ownsRow base' e sz u n xs := by
  refine ⟨h.1, ?_⟩
  rcases h.2 with h2 | ⟨g, cap, cur, h1, h2, h3⟩
  · exact .inl h2
  · exact .inr ⟨g, cap, cur, h1, Nat.le_trans hb h2, h3⟩

theorem MemAt.lower {W : World} {base base' q : Nat} {u : Value} {ys : List Int} (h : MemAt W base q u ys) (hb : base' ≤ base) : MemAt W base' q u ys := ⟨h.1, own_lower h.2.1 hb, h.2.2⟩

/-- The memory is changed for a copy of it. -/
theorem St.clone {q : Nat} {u : Value} (h : St w wx r N j p v zs S rv ps) (hm : MemAt wy wx.heap.size q u zs) (hq : wx.heap.size ≤ q) (hE : Below wx.heap.size wx wy) : St w wy r N j q u zs S rv ps ∧ Off w q u S p ∧ (∀ b, v.ownBlock = some b → Off w q u S b) := by
  have h1 := h.ext (wy := wy) hE
  have hB := h.bel.size
  obtain ⟨k1, k2⟩ := h.mem.lt
  have hu := fun b hb => (hm.2.1.lt b hb).1
  refine ⟨⟨hm.lower hB, h1.ref, fun e => by have := h.ref.lt q e; omega, Nat.le_trans hB hq, h.rB, fun b hb e => by have := h.ref.lt b e; have := hu b hb; omega, h.len, h.agree, h1.bel⟩, ⟨?_, by omega, fun e => by have := hu p e; omega, h.pS⟩, fun b hb => ?_⟩
  · exact h.pB
  · have h5 := k2 b hb
    exact ⟨(h.mem.2.1.lt b hb).1, by omega, fun e => by have := hu b e; omega, h.vS b hb⟩

theorem Off.wide {b : Nat} {wz : World} (h : Off w p v S b) (hb : b < wy.heap.size) : Off w p v (Wid S wy wz) b := ⟨h.1, h.2.1, h.2.2.1, fun e => e.elim h.2.2.2 fun e => by omega⟩
theorem Off.ne {b : Nat} (h : Off w p v S b) (hr : S r) : b ≠ r := fun e => h.2.2.2 (e ▸ hr)
theorem or_ne {u : Value} {row : Option Nat} (h : ∀ b, u.ownBlock = some b → row ≠ some b) : u.ownBlock = none ∨ u.ownBlock ≠ row := by
  cases e : u.ownBlock with
  | none => exact Or.inl rfl
  | some b => exact Or.inr fun e2 => h b e e2.symm
end

theorem clone_calls (base p : Nat) (v : Value) (zs : List Int) (w : World) (hm : MemAt w base p v zs) :
    Calls Try.prog 8 #[.pointer (some ⟨p, 0, none⟩)] w fun e w' => ∃ p' v', e = .returned (.pointer (some ⟨p', 0, none⟩)) ∧ MemAt w' w.heap.size p' v' zs ∧ w.heap.size ≤ p' ∧ Below w.heap.size w w' := by
  have hcell := hm.cell
  have hlen := hm.2.2.1
  have hi := ints_of_own hm.2.1
  obtain ⟨A, c, rfl, _⟩ := hm.slice
  clear hm
  go_enter Try.func8, Try.ntmps8
  go_wp2_with fail
  refine (cloneI8_calls _ _ _ hi (by omega)).mono ?_
  rintro e w1 ⟨v1, rfl, hown, hb⟩
  obtain ⟨A1, c1, rfl, _⟩ := row_of_own hown
  have hlt := fun b hb => (hown.lt b hb).2
  go_wp2_with fail
  go_ret
  refine ⟨w1.heap.size, _, rfl, ⟨heap_alloc_new _ _, hown.alloc _, hlen, fun e => ?_⟩, hb.size, hb.alloc hb.size _⟩
  have := hlt _ e
  omega

end Go.Proofs.Ytfgpojlgdlmmbaa
