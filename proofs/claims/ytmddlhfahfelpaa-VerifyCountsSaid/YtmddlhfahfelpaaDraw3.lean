/- Regions that draw their order, walked in one order under a condition on the world that each of them keeps. -/
import Derived.Test.YtmddlhfahfelpaaRegM
set_option linter.unusedSimpArgs false
set_option linter.unusedVariables false
set_option linter.unnecessarySimpa false
namespace Go.Proofs.Ytmddlhfahfelpaa
open Go.RowKit

/-- These blocks are as they were. -/
def Keeps (bs : List Nat) (w W : World) : Prop := w.heap.size ≤ W.heap.size ∧ ∀ k ∈ bs, W.heap[k]? = w.heap[k]?
theorem Keeps.refl (bs : List Nat) (w : World) : Keeps bs w w := ⟨Nat.le_refl _, fun _ _ => rfl⟩
theorem Keeps.drew (bs : List Nat) (w : World) : Keeps bs w w.drew := ⟨Nat.le_refl _, fun _ _ => rfl⟩
theorem Keeps.trans {bs : List Nat} {a b c : World} (h : Keeps bs a b) (k : Keeps bs b c) : Keeps bs a c := ⟨Nat.le_trans h.1 k.1, fun j hj => (k.2 j hj).trans (h.2 j hj)⟩
theorem Keeps.below {bs : List Nat} {w W : World} {B : Nat} (h : Below B w W) (hb : ∀ k ∈ bs, k < B) : Keeps bs w W := ⟨h.size, fun k hk => h.block k (hb k hk)⟩
theorem Keeps.grown {bs : List Nat} {w W : World} {row : Option Nat} (h : w.grownBy W row) (hb : ∀ k ∈ bs, k < w.heap.size ∧ some k ≠ row) : Keeps bs w W := ⟨h.size, fun k hk => h.block k (hb k hk).1 (hb k hk).2⟩
theorem Keeps.cell {bs : List Nat} {w W : World} (h : Keeps bs w W) {b o : Nat} (hb : b ∈ bs) : W.cell? ⟨b, o, none⟩ = w.cell? ⟨b, o, none⟩ := World.cell?_of_block (h.2 b hb)

section
variable {P : Program} {ops : Array Oper} {Q : Exit → Act → World → Prop} {md : Region.Mode} {S : World → Prop}

/-- The walk in that order. -/
def wpS (P : Program) (ops : Array Oper) (Q : Exit → Act → World → Prop) (S : World → Prop) : List (Nat × Bool) → Act → World → Prop
  | [], a, w => Q .normal a w
  | (i, true) :: r, a, w => ∃ o v, ops[i]? = some o ∧ YieldsIf P ops S o v a ∧ wpS P ops Q S r (a.put o.dst v) w
  | (i, false) :: r, a, w => ∃ o, ops[i]? = some o ∧ if Region.wanted o (yielded ops a.tmps) = true then o.wp P a w (fun a' w' => S w' ∧ wpS P ops Q S r a' w') Q else wpS P ops Q S r (a.put o.dst undef) w

theorem wpS_sound (hsel : Region.noSelect ops = true) (hQ : ∀ c a d v w, Q (.panic c) (Act.put a d v) w → Q (.panic c) a w) : ∀ (r : List (Nat × Bool)) (fuel : Nat) (listed : Array Bool) (a : Act) (w : World),
    checkE md ops r listed = true → r.length ≤ fuel → S w → wpS P ops Q S r a w → wpAnyH P md ops Q S fuel listed a w
  | [], fuel, listed, a, w, hc, _, _, h => by
    simp only [checkE, beq_iff_eq] at hc
    exact wpAnyH_done hc h fuel
  | (i, true) :: r, 0, listed, a, w, _, hf, _, _ => by simp at hf
  | (i, false) :: r, 0, listed, a, w, _, hf, _, _ => by simp at hf
  | (i, true) :: r, fuel + 1, listed, a, w, hc, hf, hu, h => by
    simp only [checkE, Bool.and_eq_true] at hc
    obtain ⟨⟨⟨h1, h2⟩, _⟩, h3⟩ := hc
    obtain ⟨o, v, ho, hy, hr⟩ := h
    exact wpAnyH_take ho hsel h2 h1 (fun c a w => hQ c a _ v w) hy hu (wpS_sound hsel hQ r fuel _ _ w h3 (by simpa using hf) hu hr)
  | (i, false) :: r, fuel + 1, listed, a, w, hc, hf, hu, h => by
    simp only [checkE, Bool.and_eq_true, beq_iff_eq] at hc
    obtain ⟨⟨h1, _⟩, h3⟩ := hc
    obtain ⟨o, ho, hr⟩ := h
    refine wpAnyH_all h1 (by simp) fun j hj => ?_
    obtain rfl : j = i := by simpa using hj
    unfold wpOp
    simp only [ho]
    split
    · rename_i hw
      rw [if_pos hw] at hr
      refine .inl (Oper.wp_mono (fun a' w' ⟨he, hk⟩ => ?_) hr)
      exact ⟨he, wpS_sound hsel hQ r fuel _ a' w' h3 (by simpa using hf) he hk⟩
    · rename_i hw
      rw [if_neg hw] at hr
      exact ⟨hu, wpS_sound hsel hQ r fuel _ _ w h3 (by simpa using hf) hu hr⟩

def wpF (P : Program) (ops : Array Oper) (Q : Exit → Act → World → Prop) (S : World → Prop) : List (Oper × Bool) → Act → World → Prop
  | [], a, w => Q .normal a w
  | (o, true) :: r, a, w => ∃ v, YieldsIf P ops S o v a ∧ wpF P ops Q S r (a.put o.dst v) w
  | (o, false) :: r, a, w => if Region.wanted o (yielded ops a.tmps) = true then o.wp P a w (fun a' w' => S w' ∧ wpF P ops Q S r a' w') Q else wpF P ops Q S r (a.put o.dst undef) w

theorem wpS_of_wpF {l : List Oper} : ∀ (r : List (Nat × Bool)) (a : Act) (w : World), (r.all fun p => (l[p.1]?).isSome) = true → wpF P l.toArray Q S (pickE l r) a w → wpS P l.toArray Q S r a w
  | [], _, _, _, h => h
  | (i, b) :: r, a, w, hs, h => by
    simp only [List.all_cons, Bool.and_eq_true] at hs
    obtain ⟨o, ho⟩ := Option.isSome_iff_exists.1 hs.1
    have ho' : l.toArray[i]? = some o := by simpa using ho
    simp only [pickE, ho] at h
    cases b with
    | true =>
      obtain ⟨v, hy, hr⟩ := h
      exact ⟨o, v, ho', hy, wpS_of_wpF r _ _ hs.2 hr⟩
    | false =>
      refine ⟨o, ho', ?_⟩
      simp only [wpF] at h
      split
      · rename_i hw
        rw [if_pos hw] at h
        exact Oper.wp_mono (fun a' w' ⟨he, hk⟩ => ⟨he, wpS_of_wpF r _ _ hs.2 hk⟩) h
      · rename_i hw
        rw [if_neg hw] at h
        exact wpS_of_wpF r _ _ hs.2 h

/-- The beginning. -/
theorem wp_region_S {id : Nat} {a : Act} {w : World} {l : List Oper} (S : World → Prop) (r : List (Nat × Bool)) (hm : P.follows .mixedOrders = true)
    (hc : (Region.noSelect l.toArray && decide (r.length ≤ l.toArray.size) && checkE .any l.toArray r (Array.replicate l.toArray.size false) && r.all fun p => (l[p.1]?).isSome) = true)
    (hQ : ∀ c a d v w, Q (.panic c) (Act.put a d v) w → Q (.panic c) a w) (hS : S w.drew)
    (h : wpF P l.toArray Q S (pickE l r) a w.drew) : (Code.region id l.toArray true).wp P Q a w := by
  simp only [Bool.and_eq_true, decide_eq_true_eq] at hc
  exact wp_region_held hm (wpS_sound (md := .any) hc.1.1.1 hQ r _ _ a w.drew hc.1.2 hc.1.1.2 hS (wpS_of_wpF r _ _ hc.2 h))

/-- The same, where nothing is written. -/
theorem wp_region_R {id : Nat} {a : Act} {w : World} {l : List Oper} (r : List (Nat × Bool)) (hm : P.follows .mixedOrders = true)
    (hc : (Region.noSelect l.toArray && decide (r.length ≤ l.toArray.size) && checkE .any l.toArray r (Array.replicate l.toArray.size false) && r.all fun p => (l[p.1]?).isSome) = true)
    (hQ : ∀ c a d v w, Q (.panic c) (Act.put a d v) w → Q (.panic c) a w)
    (h : wpF P l.toArray Q (fun W => W = w.drew) (pickE l r) a w.drew) : (Code.region id l.toArray true).wp P Q a w := wp_region_S (fun W => W = w.drew) r hm hc hQ rfl h

theorem wpF_nil {a : Act} {w : World} (h : Q .normal a w) : wpF P ops Q S [] a w := h

theorem wpF_pure {r : List (Oper × Bool)} {a : Act} {w : World} {o : Oper} {v : Value} (hw : Region.wanted o (yielded ops a.tmps) = true)
    (hy : ∀ W, S W → (execOp a.eval o).run P W = .ok (.value v) W) (h : wpF P ops Q S r (a.put o.dst v) w) : wpF P ops Q S ((o, true) :: r) a w :=
  ⟨v, .inl ⟨hw, hy⟩, h⟩

theorem wpF_skip {r : List (Oper × Bool)} {a : Act} {w : World} {o : Oper} (hw : Region.wanted o (yielded ops a.tmps) = false)
    (h : wpF P ops Q S r (a.put o.dst undef) w) : wpF P ops Q S ((o, true) :: r) a w :=
  ⟨undef, .inr ⟨hw, rfl⟩, h⟩

theorem wpF_step {r : List (Oper × Bool)} {a : Act} {w : World} {o : Oper} (hw : Region.wanted o (yielded ops a.tmps) = true)
    (h : ∀ K : Act → World → Prop, (∀ a' w', S w' → wpF P ops Q S r a' w' → K a' w') → o.wp P a w K Q) : wpF P ops Q S ((o, false) :: r) a w := by
  simp only [wpF]
  rw [if_pos hw]
  exact h _ fun a' w' he hk => ⟨he, hk⟩
end

end Go.Proofs.Ytmddlhfahfelpaa
