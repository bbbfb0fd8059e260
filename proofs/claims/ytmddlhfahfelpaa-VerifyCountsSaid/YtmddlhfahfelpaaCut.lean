/- Regions that draw their order, walked in one order under a condition on the world that each of them keeps, but for the last of all. -/
/- A loop that has more than one exit, or code that has more than one end: what stands behind it is walked once. -/
import Derived.Test.YtmddlhfahfelpaaDraw3
set_option linter.unusedSimpArgs false
set_option linter.unusedVariables false
set_option linter.unnecessarySimpa false
namespace Go.Proofs.Ytmddlhfahfelpaa
open Go.RowKit

section
variable {P : Program} {ops : Array Oper} {Q : Exit → Act → World → Prop} {md : Region.Mode} {S : World → Prop} {L : Nat}

/-- Whatever order is picked: the condition holds behind each but number L. -/
def wpAnyL (P : Program) (md : Region.Mode) (ops : Array Oper) (Q : Exit → Act → World → Prop) (S : World → Prop) (L : Nat) : Nat → Array Bool → Act → World → Prop
  | 0, seen, a, w => Region.ready md ops seen = [] ∧ Q .normal a w
  | n + 1, seen, a, w => (Region.ready md ops seen = [] → Q .normal a w) ∧
    ∀ i ∈ Region.ready md ops seen, wpOp P ops Q i (fun b u => (i = L ∨ S u) ∧ wpAnyL P md ops Q S L n (seen.setIfInBounds i true) b u) a w

theorem wpAnyL_any : ∀ (n : Nat) (seen : Array Bool) (a : Act) (w : World), wpAnyL P md ops Q S L n seen a w → wpAny P md ops Q n seen a w
  | 0, _, _, _, h => h
  | n + 1, _, _, _, h => ⟨h.1, fun i hi => wpOp_mono (fun b u k => wpAnyL_any n _ b u k.2) (h.2 i hi)⟩

theorem wpAnyL_end {seen : Array Bool} {a : Act} {w : World} (hr : Region.ready md ops seen = []) (h : Q .normal a w) : ∀ n, wpAnyL P md ops Q S L n seen a w
  | 0 => ⟨hr, h⟩
  | n + 1 => ⟨fun _ => h, fun i hi => by rw [hr] at hi; cases hi⟩

theorem wpAnyL_one {i : Nat} {n : Nat} {seen : Array Bool} {a : Act} {w : World} (hr : Region.ready md ops seen = [i])
    (h : wpOp P ops Q i (fun b u => (i = L ∨ S u) ∧ wpAnyL P md ops Q S L n (seen.setIfInBounds i true) b u) a w) : wpAnyL P md ops Q S L (n + 1) seen a w :=
  ⟨fun h0 => (by rw [hr] at h0; cases h0), fun j hj => by
    rw [hr] at hj
    obtain rfl : j = i := by simpa using hj
    exact h⟩

/-- One that may come up, and yields the same wherever the condition holds, may be taken ahead. -/
theorem wpAnyL_ahead {i : Nat} {o : Oper} {v : Value} (ho : ops[i]? = some o) (hsel : ∀ (j : Nat) (o : Oper) cs b, ops[j]? = some o → o.op ≠ .select cs b)
    (hQ : ∀ c a w, Q (.panic c) (a.put o.dst v) w → Q (.panic c) a w) (hL : ∀ oL, ops[L]? = some oL → ∃ e ∈ oL.after, Region.binds md e = true ∧ e.on = i) : ∀ (n : Nat) (seen : Array Bool) (a : Act) (w : World),
      (∀ j oj, ops[j]? = some oj → j ≠ i → seen.getD j true = false → (∀ e ∈ oj.after, Region.binds md e = true → e.on ≠ i) → o.apart ops oj = true) →
      i ∈ Region.ready md ops seen → YieldsIf P ops S o v a → S w → wpAnyL P md ops Q S L n (seen.setIfInBounds i true) (a.put o.dst v) w → wpAnyL P md ops Q S L (n + 1) seen a w := by
  intro n
  induction n with
  | zero =>
    intro seen a w _ hi hy hS hw
    refine ⟨fun h0 => (by rw [h0] at hi; cases hi), fun j hj => ?_⟩
    by_cases hne : j ≠ i
    · exact absurd (ready_mono hj hne) (by rw [hw.1]; simp)
    · obtain rfl : j = i := by simpa using hne
      exact hy.wpOp ho hS ⟨.inr hS, hw⟩
  | succ n ih =>
    intro seen a w hap hi hy hS hw
    refine ⟨fun h0 => (by rw [h0] at hi; cases hi), fun j hj => ?_⟩
    by_cases hne : j ≠ i
    · obtain ⟨hjs, oj, hoj, hal⟩ := mem_ready.1 hj
      have his := (mem_ready.1 hi).1
      have hwait : ∀ e ∈ oj.after, Region.binds md e = true → e.on ≠ i := by
        intro e he hb heq
        have h1 := hal e he hb
        rw [heq] at h1
        rcases Nat.lt_or_ge i seen.size with h' | h'
        · simp [h'] at his h1; rw [his] at h1; cases h1
        · simp [Array.getElem?_eq_none h'] at h1
      have hstep := wpOp_putIf hoj (hap j oj hoj hne hjs hwait) (fun cs b => hsel i o cs b ho) (fun cs b => hsel j oj cs b hoj) hQ hy (hw.2 j (ready_mono hj hne))
      have hi' := ready_mono hi (Ne.symm hne)
      refine wpOp_mono (fun b u k => ?_) hstep
      have hSu : S u := by
        rcases k.2.1 with h0 | h0
        · exfalso
          subst h0
          obtain ⟨e, he, hb, heq⟩ := hL oj hoj
          exact hwait e he hb heq
        · exact h0
      refine ⟨.inr hSu, ih _ b u ?_ hi' k.1 hSu ?_⟩
      · intro m om hm hmi hms hno
        refine hap m om hm hmi ?_ hno
        by_cases hjm : j = m
        · subst hjm; exact hjs
        · rw [getD_set_ne true hjm] at hms; exact hms
      · rw [Array.setIfInBounds_comm _ _ hne]
        exact k.2.2
    · obtain rfl : j = i := by simpa using hne
      exact hy.wpOp ho hS ⟨.inr hS, hw⟩

/-- The walk in an order; number L, the last, need not keep the condition. -/
def wpZ (P : Program) (ops : Array Oper) (Q : Exit → Act → World → Prop) (S : World → Prop) : List (Oper × Bool) → Act → World → Prop
  | [], a, w => Q .normal a w
  | (o, true) :: r, a, w => ∃ v, YieldsIf P ops S o v a ∧ wpZ P ops Q S r (a.put o.dst v) w
  | (o, false) :: r, a, w => if Region.wanted o (yielded ops a.tmps) = true then o.wp P a w (fun b u => (r = [] ∨ S u) ∧ wpZ P ops Q S r b u) Q else wpZ P ops Q S r (a.put o.dst undef) w

def lastOk (ops : Array Oper) (L : Nat) : List (Nat × Bool) → Bool
  | [] => true
  | (i, true) :: r => ((ops[L]?).any fun o => o.after.any fun e => e.on == i && Region.binds .any e) && lastOk ops L r
  | [(i, false)] => i == L
  | (_, false) :: r => lastOk ops L r

theorem wpZ_sound {l : List Oper} (hsel : Region.noSelect l.toArray = true) (hQ : ∀ c a d v w, Q (.panic c) (Act.put a d v) w → Q (.panic c) a w) : ∀ (r : List (Nat × Bool)) (n : Nat) (seen : Array Bool) (a : Act) (w : World),
    checkE .any l.toArray r seen = true → lastOk l.toArray L r = true → (r.all fun p => (l[p.1]?).isSome) = true → r.length ≤ n → (r = [] ∨ S w) → wpZ P l.toArray Q S (pickE l r) a w → wpAnyL P .any l.toArray Q S L n seen a w
  | [], n, seen, a, w, hc, _, _, _, _, h => by
    simp only [checkE, beq_iff_eq] at hc
    exact wpAnyL_end hc h n
  | (i, true) :: r, 0, _, _, _, _, _, _, hn, _, _ => by simp at hn
  | (i, false) :: r, 0, _, _, _, _, _, _, hn, _, _ => by simp at hn
  | (i, true) :: r, n + 1, seen, a, w, hc, hl, hs, hn, hS, h => by
    simp only [checkE, Bool.and_eq_true] at hc
    obtain ⟨⟨⟨h1, h2⟩, _⟩, h3⟩ := hc
    simp only [lastOk, Bool.and_eq_true] at hl
    simp only [List.all_cons, Bool.and_eq_true] at hs
    obtain ⟨o, ho⟩ := Option.isSome_iff_exists.1 hs.1
    have ho' : l.toArray[i]? = some o := by simpa using ho
    simp only [pickE, ho] at h
    obtain ⟨v, hy, hr⟩ := h
    have hSw : S w := by
      rcases hS with h | h
      · cases h
      · exact h
    refine wpAnyL_ahead ho' (Region.noSelect_spec hsel) (fun c a w => hQ c a _ v w) (fun oL hoL => ?_) n seen a w (Region.free_spec ho' h2) (by simpa using h1) hy hSw (wpZ_sound hsel hQ r n _ _ w h3 hl.2 hs.2 (by simpa using hn) (.inr hSw) hr)
    have := hl.1
    rw [hoL] at this
    simp only [Option.any_some, Array.any_eq_true'] at this
    obtain ⟨e, he, h5⟩ := this
    simp only [Bool.and_eq_true, beq_iff_eq] at h5
    exact ⟨e, he, h5.2, h5.1⟩
  | (i, false) :: r, n + 1, seen, a, w, hc, hl, hs, hn, hS, h => by
    simp only [checkE, Bool.and_eq_true, beq_iff_eq] at hc
    obtain ⟨⟨h1, _⟩, h3⟩ := hc
    simp only [List.all_cons, Bool.and_eq_true] at hs
    obtain ⟨o, ho⟩ := Option.isSome_iff_exists.1 hs.1
    have ho' : l.toArray[i]? = some o := by simpa using ho
    simp only [pickE, ho, wpZ] at h
    have hl2 : lastOk l.toArray L r = true ∧ (r = [] → i = L) := by
      cases r with
      | nil => simp only [lastOk, beq_iff_eq] at hl; exact ⟨rfl, fun _ => hl⟩
      | cons p r => exact ⟨by simpa only [lastOk] using hl, fun h => by cases h⟩
    have hnil : pickE l r = [] → r = [] := by
      cases r with
      | nil => intro _; rfl
      | cons p r =>
        intro h
        obtain ⟨j, b⟩ := p
        have h7 := hs.2
        simp only [List.all_cons, Bool.and_eq_true] at h7
        obtain ⟨o2, ho2⟩ := Option.isSome_iff_exists.1 h7.1
        simp only [pickE, ho2] at h
        cases h
    refine wpAnyL_one h1 ?_
    unfold wpOp
    simp only [ho']
    split
    · rename_i hw
      rw [if_pos hw] at h
      refine .inl (Oper.wp_mono (fun b u ⟨he, hk⟩ => ?_) h)
      rcases he with he | he
      · have hr := hnil he
        exact ⟨.inl (hl2.2 hr), wpZ_sound hsel hQ r n _ b u h3 hl2.1 hs.2 (by simpa using hn) (.inl hr) hk⟩
      · exact ⟨.inr he, wpZ_sound hsel hQ r n _ b u h3 hl2.1 hs.2 (by simpa using hn) (.inr he) hk⟩
    · rename_i hw
      rw [if_neg hw] at h
      have hSw : S w := by
        rcases hS with h | h
        · cases h
        · exact h
      exact ⟨.inr hSw, wpZ_sound hsel hQ r n _ _ w h3 hl2.1 hs.2 (by simpa using hn) (.inr hSw) h⟩

theorem wp_region_Z {id : Nat} {a : Act} {w : World} {l : List Oper} (S : World → Prop) (L : Nat) (r : List (Nat × Bool)) (hm : P.follows .mixedOrders = true)
    (hc : (Region.noSelect l.toArray && decide (r.length ≤ l.toArray.size) && checkE .any l.toArray r (Array.replicate l.toArray.size false) && (r.all fun p => (l[p.1]?).isSome) && lastOk l.toArray L r) = true)
    (hQ : ∀ c a d v w, Q (.panic c) (Act.put a d v) w → Q (.panic c) a w) (hS : S w.drew)
    (h : wpZ P l.toArray Q S (pickE l r) a w.drew) : (Code.region id l.toArray true).wp P Q a w := by
  simp only [Bool.and_eq_true, decide_eq_true_eq] at hc
  exact wp_region_any hm (wpAnyL_any _ _ _ _ (wpZ_sound hc.1.1.1.1 hQ r _ _ a w.drew hc.1.1.2 hc.2 hc.1.2 hc.1.1.1.2 (.inr hS) h))

theorem wpZ_pure {r : List (Oper × Bool)} {a : Act} {w : World} {o : Oper} {v : Value} (hw : Region.wanted o (yielded ops a.tmps) = true)
    (hy : ∀ W, S W → (execOp a.eval o).run P W = .ok (.value v) W) (h : wpZ P ops Q S r (a.put o.dst v) w) : wpZ P ops Q S ((o, true) :: r) a w :=
  ⟨v, .inl ⟨hw, hy⟩, h⟩
theorem wpZ_step {r : List (Oper × Bool)} {a : Act} {w : World} {o : Oper} (hw : Region.wanted o (yielded ops a.tmps) = true)
    (h : ∀ K : Act → World → Prop, (∀ a' w', S w' → wpZ P ops Q S r a' w' → K a' w') → o.wp P a w K Q) : wpZ P ops Q S ((o, false) :: r) a w := by
  simp only [wpZ]
  rw [if_pos hw]
  exact h _ fun a' w' he hk => ⟨.inr he, hk⟩
theorem wpZ_last {a : Act} {w : World} {o : Oper} (hw : Region.wanted o (yielded ops a.tmps) = true)
    (h : ∀ K : Act → World → Prop, (∀ a' w', Q .normal a' w' → K a' w') → o.wp P a w K Q) : wpZ P ops Q S [(o, false)] a w := by
  simp only [wpZ]
  rw [if_pos hw]
  exact h _ fun a' w' hk => ⟨.inl trivial, hk⟩
end

end Go.Proofs.Ytmddlhfahfelpaa

namespace Go.Proofs.Ytmddlhfahfelpaa
open Go.RowKit

section
variable {P : Program} {c : Code} {Q : Exit → Act → World → Prop} {a : Act} {w : World}

/-- What stands behind a loop is shown once, of whatever all its exits bring about. -/
theorem cut_loop {id : Nat} {K0 : Act → World → Prop} (R : Act → World → Prop) (h1 : ∀ K : Act → World → Prop, (∀ a w, R a w → K a w) → c.wp P (Exit.inBlock id (Exit.then K Q)) a w) (h2 : ∀ a w, R a w → K0 a w) :
    c.wp P (Exit.inBlock id (Exit.then K0 Q)) a w := by
  refine Code.wp_mono ?_ (h1 R fun _ _ h => h)
  intro e a w h
  cases e with
  | normal => exact h2 _ _ h
  | exit i =>
    simp only [Exit.inBlock] at h ⊢
    split at h
    · rename_i hi
      rw [if_pos hi]
      exact h2 _ _ h
    · rename_i hi
      rw [if_neg hi]
      exact h
  | goto l => exact h
  | ret => exact h
  | panic ch => exact h
  | outgrown => exact h

/-- The same behind any code. -/
theorem cut_code {K0 : Act → World → Prop} (R : Act → World → Prop) (h1 : ∀ K : Act → World → Prop, (∀ a w, R a w → K a w) → c.wp P (Exit.then K Q) a w) (h2 : ∀ a w, R a w → K0 a w) :
    c.wp P (Exit.then K0 Q) a w := by
  refine Code.wp_mono ?_ (h1 R fun _ _ h => h)
  intro e a w h
  cases e with
  | normal => exact h2 _ _ h
  | exit i => exact h
  | goto l => exact h
  | ret => exact h
  | panic ch => exact h
  | outgrown => exact h
end

/-- A frame some of whose slots are known; the others hold whatever they hold. -/
def LitA (a : Act) (G : (Nat → Value) → Act) : Prop := ∃ f, a = G f
theorem LitA.of {a : Act} {G : (Nat → Value) → Act} (h : a = G fun i => a.tmps.getD i undef) : LitA a G := ⟨_, h⟩

end Go.Proofs.Ytmddlhfahfelpaa
