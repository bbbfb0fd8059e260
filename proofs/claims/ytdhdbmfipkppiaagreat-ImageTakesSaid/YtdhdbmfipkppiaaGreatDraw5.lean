/- A loop that has more than one exit, or code that has more than one end: what stands behind it is walked once. -/
/- Regions that draw their order, where at some places either of two operations may come up first. -/
/- Regions that draw their order, where at some places either of two operations may come up first, under a condition on the world that each keeps. -/
import Derived.Test.YtdhdbmfipkppiaaGreatDraw4
import Derived.Test.YtdhdbmfipkppiaaGreatDraw
import Derived.Test.YtdhdbmfipkppiaaGreatDraw3
set_option linter.unusedSimpArgs false
set_option linter.unusedVariables false
set_option linter.unnecessarySimpa false
namespace Go.Proofs.YtdhdbmfipkppiaaGreat
open Go.RowKit

section
variable {P : Program} {c : Code} {Q : Exit → Act → World → Prop} {a : Act} {w : World}

/-- What stands behind a loop is shown once, of whatever all its exits bring about. -/
theorem cut_loop {id : Nat} {K0 : Act → World → Prop} (R : Act → World → Prop) (h1 : ∀ K : Act → World → Prop, (∀ a w, R a w → K a w) → c.wp P (Exit.inBlock id (Exit.then K Q)) a w) (h2 : ∀ a w, R a w → K0 a w) :
    c.wp P (Exit.inBlock id (Exit.then K0 Q)) a w := by
  refine Code.wp_mono ?_ (h1 R fun _ _ h => h)
  intro e a w h
  cases e with
  | normal => exact h2 _ _ h
  | exit i =>
    simp only [Exit.inBlock] at h ⊢
    split at h
    · rename_i hi
      rw [if_pos hi]
      exact h2 _ _ h
    · rename_i hi
      rw [if_neg hi]
      exact h
  | goto l => exact h
  | ret => exact h
  | panic ch => exact h
  | outgrown => exact h

/-- The same behind any code. -/
theorem cut_code {K0 : Act → World → Prop} (R : Act → World → Prop) (h1 : ∀ K : Act → World → Prop, (∀ a w, R a w → K a w) → c.wp P (Exit.then K Q) a w) (h2 : ∀ a w, R a w → K0 a w) :
    c.wp P (Exit.then K0 Q) a w := by
  refine Code.wp_mono ?_ (h1 R fun _ _ h => h)
  intro e a w h
  cases e with
  | normal => exact h2 _ _ h
  | exit i => exact h
  | goto l => exact h
  | ret => exact h
  | panic ch => exact h
  | outgrown => exact h
end

/-- A frame some of whose slots are known; the others hold whatever they hold. -/
def LitA (a : Act) (G : (Nat → Value) → Act) : Prop := ∃ f, a = G f
theorem LitA.of {a : Act} {G : (Nat → Value) → Act} (h : a = G fun i => a.tmps.getD i undef) : LitA a G := ⟨_, h⟩

end Go.Proofs.YtdhdbmfipkppiaaGreat

namespace Go.Proofs.YtdhdbmfipkppiaaGreat
open Go.RowKit

/-- The orders that are walked. -/
inductive Tree where
  | nil
  | pure (i : Nat) (r : Tree)
  | eff (i : Nat) (r : Tree)
  | two (i : Nat) (r : Tree) (j : Nat) (s : Tree)

def Tree.long : Tree → Nat
  | .nil => 0
  | .pure _ r | .eff _ r => r.long + 1
  | .two _ r _ s => max r.long s.long + 1

section
variable {P : Program} {ops : Array Oper} {Q : Exit → Act → World → Prop} {md : Region.Mode}

def checkT (md : Region.Mode) (ops : Array Oper) : Tree → Array Bool → Bool
  | .nil, listed => Region.ready md ops listed == []
  | .pure i r, listed => (Region.ready md ops listed).contains i && Region.free md ops listed i && (ops[i]?).isSome && checkT md ops r (listed.setIfInBounds i true)
  | .eff i r, listed => Region.ready md ops listed == [i] && (ops[i]?).isSome && checkT md ops r (listed.setIfInBounds i true)
  | .two i r j s, listed => Region.ready md ops listed == [i, j] && (ops[i]?).isSome && (ops[j]?).isSome && checkT md ops r (listed.setIfInBounds i true) && checkT md ops s (listed.setIfInBounds j true)

/-- One operation, and what is to be shown behind it. -/
def wpOne (P : Program) (ops : Array Oper) (Q : Exit → Act → World → Prop) (o : Oper) (a : Act) (w : World) (K K0 : Act → World → Prop) : Prop :=
  if Region.wanted o (yielded ops a.tmps) = true then o.wp P a w (fun a' w' => Ext w w' ∧ K a' w') Q else K0 (a.put o.dst undef) w

def wpT (P : Program) (ops : Array Oper) (Q : Exit → Act → World → Prop) : Tree → List World → Act → World → Prop
  | .nil, _, a, w => Q .normal a w
  | .pure i r, us, a, w => ∃ o v, ops[i]? = some o ∧ YieldsIf P ops (Exts (w :: us)) o v a ∧ wpT P ops Q r us (a.put o.dst v) w
  | .eff i r, us, a, w => ∃ o, ops[i]? = some o ∧ wpOne P ops Q o a w (wpT P ops Q r (w :: us)) (wpT P ops Q r us)
  | .two i r j s, us, a, w => (∃ o, ops[i]? = some o ∧ wpOne P ops Q o a w (wpT P ops Q r (w :: us)) (wpT P ops Q r us)) ∧ (∃ o, ops[j]? = some o ∧ wpOne P ops Q o a w (wpT P ops Q s (w :: us)) (wpT P ops Q s us))

/-- The same over the operations themselves. -/
inductive TreeO where
  | nil
  | pure (o : Oper) (r : TreeO)
  | eff (o : Oper) (r : TreeO)
  | two (o : Oper) (r : TreeO) (o' : Oper) (s : TreeO)

def pickT (l : List Oper) : Tree → TreeO
  | .nil => .nil
  | .pure i r => match l[i]? with
    | some o => .pure o (pickT l r)
    | none => .nil
  | .eff i r => match l[i]? with
    | some o => .eff o (pickT l r)
    | none => .nil
  | .two i r j s => match l[i]?, l[j]? with
    | some o, some o' => .two o (pickT l r) o' (pickT l s)
    | _, _ => .nil

def hasT (l : List Oper) : Tree → Bool
  | .nil => true
  | .pure i r | .eff i r => (l[i]?).isSome && hasT l r
  | .two i r j s => (l[i]?).isSome && (l[j]?).isSome && hasT l r && hasT l s

def wpTO (P : Program) (ops : Array Oper) (Q : Exit → Act → World → Prop) : TreeO → List World → Act → World → Prop
  | .nil, _, a, w => Q .normal a w
  | .pure o r, us, a, w => ∃ v, YieldsIf P ops (Exts (w :: us)) o v a ∧ wpTO P ops Q r us (a.put o.dst v) w
  | .eff o r, us, a, w => wpOne P ops Q o a w (wpTO P ops Q r (w :: us)) (wpTO P ops Q r us)
  | .two o r o' s, us, a, w => wpOne P ops Q o a w (wpTO P ops Q r (w :: us)) (wpTO P ops Q r us) ∧ wpOne P ops Q o' a w (wpTO P ops Q s (w :: us)) (wpTO P ops Q s us)

end

end Go.Proofs.YtdhdbmfipkppiaaGreat

namespace Go.Proofs.YtdhdbmfipkppiaaGreat
open Go.RowKit

section
variable {P : Program} {ops : Array Oper} {Q : Exit → Act → World → Prop} {md : Region.Mode} {S : World → Prop}

def wpOneS (P : Program) (ops : Array Oper) (Q : Exit → Act → World → Prop) (S : World → Prop) (o : Oper) (a : Act) (w : World) (K : Act → World → Prop) : Prop :=
  if Region.wanted o (yielded ops a.tmps) = true then o.wp P a w (fun a' w' => S w' ∧ K a' w') Q else K (a.put o.dst undef) w

def wpV (P : Program) (ops : Array Oper) (Q : Exit → Act → World → Prop) (S : World → Prop) : Tree → Act → World → Prop
  | .nil, a, w => Q .normal a w
  | .pure i r, a, w => ∃ o v, ops[i]? = some o ∧ YieldsIf P ops S o v a ∧ wpV P ops Q S r (a.put o.dst v) w
  | .eff i r, a, w => ∃ o, ops[i]? = some o ∧ wpOneS P ops Q S o a w (wpV P ops Q S r)
  | .two i r j s, a, w => (∃ o, ops[i]? = some o ∧ wpOneS P ops Q S o a w (wpV P ops Q S r)) ∧ (∃ o, ops[j]? = some o ∧ wpOneS P ops Q S o a w (wpV P ops Q S s))

theorem wpV_sound (hsel : Region.noSelect ops = true) (hQ : ∀ c a d v w, Q (.panic c) (Act.put a d v) w → Q (.panic c) a w) : ∀ (t : Tree) (fuel : Nat) (listed : Array Bool) (a : Act) (w : World),
    checkT md ops t listed = true → t.long ≤ fuel → S w → wpV P ops Q S t a w → wpAnyH P md ops Q S fuel listed a w := by
  have one : ∀ (i : Nat) (r : Tree) (fuel : Nat) (listed : Array Bool) (a : Act) (w : World) (_ : ∀ (a : Act) (w : World), S w → wpV P ops Q S r a w → wpAnyH P md ops Q S fuel (listed.setIfInBounds i true) a w),
      S w → (∃ o, ops[i]? = some o ∧ wpOneS P ops Q S o a w (wpV P ops Q S r)) →
      wpOp P ops Q i (fun a' w' => S w' ∧ wpAnyH P md ops Q S fuel (listed.setIfInBounds i true) a' w') a w := by
    intro i r fuel listed a w ih hu h
    obtain ⟨o, ho, hr⟩ := h
    unfold wpOneS at hr
    unfold wpOp
    simp only [ho]
    split
    · rename_i hw
      rw [if_pos hw] at hr
      exact .inl (Oper.wp_mono (fun a' w' ⟨he, hk⟩ => ⟨he, ih a' w' he hk⟩) hr)
    · rename_i hw
      rw [if_neg hw] at hr
      exact ⟨hu, ih _ w hu hr⟩
  intro t
  induction t with
  | nil =>
    intro fuel listed a w hc _ _ h
    simp only [checkT, beq_iff_eq] at hc
    exact wpAnyH_done hc h fuel
  | pure i r ih =>
    intro fuel listed a w hc hf hu h
    cases fuel with
    | zero => simp [Tree.long] at hf
    | succ fuel =>
      simp only [checkT, Bool.and_eq_true] at hc
      obtain ⟨⟨⟨h1, h2⟩, _⟩, h3⟩ := hc
      obtain ⟨o, v, ho, hy, hr⟩ := h
      exact wpAnyH_take ho hsel h2 h1 (fun c a w => hQ c a _ v w) hy hu (ih fuel _ _ w h3 (by simpa [Tree.long] using hf) hu hr)
  | eff i r ih =>
    intro fuel listed a w hc hf hu h
    cases fuel with
    | zero => simp [Tree.long] at hf
    | succ fuel =>
      simp only [checkT, Bool.and_eq_true, beq_iff_eq] at hc
      obtain ⟨⟨h1, _⟩, h3⟩ := hc
      refine wpAnyH_all h1 (by simp) fun j hj => ?_
      obtain rfl : j = i := by simpa using hj
      exact one j r fuel listed a w (fun a w hu h => ih fuel _ a w h3 (by simpa [Tree.long] using hf) hu h) hu h
  | two i r j s ihr ihs =>
    intro fuel listed a w hc hf hu h
    cases fuel with
    | zero => simp [Tree.long] at hf
    | succ fuel =>
      simp only [checkT, Bool.and_eq_true, beq_iff_eq] at hc
      obtain ⟨⟨⟨⟨h1, _⟩, _⟩, h3⟩, h4⟩ := hc
      simp only [Tree.long] at hf
      refine wpAnyH_all h1 (by simp) fun x hx => ?_
      rcases (by simpa using hx : x = i ∨ x = j) with rfl | rfl
      · exact one x r fuel listed a w (fun a w hu h => ihr fuel _ a w h3 (by omega) hu h) hu h.1
      · exact one x s fuel listed a w (fun a w hu h => ihs fuel _ a w h4 (by omega) hu h) hu h.2

def wpVO (P : Program) (ops : Array Oper) (Q : Exit → Act → World → Prop) (S : World → Prop) : TreeO → Act → World → Prop
  | .nil, a, w => Q .normal a w
  | .pure o r, a, w => ∃ v, YieldsIf P ops S o v a ∧ wpVO P ops Q S r (a.put o.dst v) w
  | .eff o r, a, w => wpOneS P ops Q S o a w (wpVO P ops Q S r)
  | .two o r o' s, a, w => wpOneS P ops Q S o a w (wpVO P ops Q S r) ∧ wpOneS P ops Q S o' a w (wpVO P ops Q S s)

theorem wpOneS_mono {o : Oper} {a : Act} {w : World} {K K' : Act → World → Prop} (h : ∀ a w, K a w → K' a w) (hw : wpOneS P ops Q S o a w K) : wpOneS P ops Q S o a w K' := by
  unfold wpOneS at *
  split
  · rename_i hq
    rw [if_pos hq] at hw
    exact Oper.wp_mono (fun a' w' ⟨he, hk⟩ => ⟨he, h _ _ hk⟩) hw
  · rename_i hq
    rw [if_neg hq] at hw
    exact h _ _ hw

theorem wpV_of_wpVO {l : List Oper} : ∀ (t : Tree) (a : Act) (w : World), hasT l t = true → wpVO P l.toArray Q S (pickT l t) a w → wpV P l.toArray Q S t a w := by
  intro t
  induction t with
  | nil => intro a w _ h; exact h
  | pure i r ih =>
    intro a w hs h
    simp only [hasT, Bool.and_eq_true] at hs
    obtain ⟨o, ho⟩ := Option.isSome_iff_exists.1 hs.1
    simp only [pickT, ho] at h
    obtain ⟨v, hy, hr⟩ := h
    exact ⟨o, v, by simpa using ho, hy, ih _ _ hs.2 hr⟩
  | eff i r ih =>
    intro a w hs h
    simp only [hasT, Bool.and_eq_true] at hs
    obtain ⟨o, ho⟩ := Option.isSome_iff_exists.1 hs.1
    simp only [pickT, ho] at h
    exact ⟨o, by simpa using ho, wpOneS_mono (fun _ _ h => ih _ _ hs.2 h) h⟩
  | two i r j s ihr ihs =>
    intro a w hs h
    simp only [hasT, Bool.and_eq_true] at hs
    obtain ⟨o, ho⟩ := Option.isSome_iff_exists.1 hs.1.1.1
    obtain ⟨o', ho'⟩ := Option.isSome_iff_exists.1 hs.1.1.2
    simp only [pickT, ho, ho'] at h
    exact ⟨⟨o, by simpa using ho, wpOneS_mono (fun _ _ h => ihr _ _ hs.1.2 h) h.1⟩, ⟨o', by simpa using ho', wpOneS_mono (fun _ _ h => ihs _ _ hs.2 h) h.2⟩⟩

/-- The beginning. -/
theorem wp_region_V {id : Nat} {a : Act} {w : World} {l : List Oper} (S : World → Prop) (t : Tree) (hm : P.follows .mixedOrders = true)
    (hc : (Region.noSelect l.toArray && decide (t.long ≤ l.toArray.size) && checkT .any l.toArray t (Array.replicate l.toArray.size false) && hasT l t) = true)
    (hQ : ∀ c a d v w, Q (.panic c) (Act.put a d v) w → Q (.panic c) a w) (hS : S w.drew)
    (h : wpVO P l.toArray Q S (pickT l t) a w.drew) : (Code.region id l.toArray true).wp P Q a w := by
  simp only [Bool.and_eq_true, decide_eq_true_eq] at hc
  exact wp_region_held hm (wpV_sound (md := .any) hc.1.1.1 hQ t _ _ a w.drew hc.1.2 hc.1.1.2 hS (wpV_of_wpVO t _ _ hc.2 h))

theorem wpV_nil {a : Act} {w : World} (h : Q .normal a w) : wpVO P ops Q S .nil a w := h
theorem wpV_pure {r : TreeO} {a : Act} {w : World} {o : Oper} {v : Value} (hw : Region.wanted o (yielded ops a.tmps) = true)
    (hy : ∀ W, S W → (execOp a.eval o).run P W = .ok (.value v) W) (h : wpVO P ops Q S r (a.put o.dst v) w) : wpVO P ops Q S (.pure o r) a w :=
  ⟨v, .inl ⟨hw, hy⟩, h⟩
theorem wpV_skip {r : TreeO} {a : Act} {w : World} {o : Oper} (hw : Region.wanted o (yielded ops a.tmps) = false)
    (h : wpVO P ops Q S r (a.put o.dst undef) w) : wpVO P ops Q S (.pure o r) a w :=
  ⟨undef, .inr ⟨hw, rfl⟩, h⟩
theorem wpOneS_step {K : Act → World → Prop} {a : Act} {w : World} {o : Oper} (hw : Region.wanted o (yielded ops a.tmps) = true)
    (h : ∀ K' : Act → World → Prop, (∀ a' w', S w' → K a' w' → K' a' w') → o.wp P a w K' Q) : wpOneS P ops Q S o a w K := by
  unfold wpOneS
  rw [if_pos hw]
  exact h _ fun a' w' he hk => ⟨he, hk⟩
theorem wpV_step {r : TreeO} {a : Act} {w : World} {o : Oper} (hw : Region.wanted o (yielded ops a.tmps) = true)
    (h : ∀ K' : Act → World → Prop, (∀ a' w', S w' → wpVO P ops Q S r a' w' → K' a' w') → o.wp P a w K' Q) : wpVO P ops Q S (.eff o r) a w := wpOneS_step hw h
theorem wpV_two {r s : TreeO} {a : Act} {w : World} {o o' : Oper} (h : wpVO P ops Q S (.eff o r) a w) (h' : wpVO P ops Q S (.eff o' s) a w) : wpVO P ops Q S (.two o r o' s) a w := ⟨h, h'⟩
end

end Go.Proofs.YtdhdbmfipkppiaaGreat
