/- A loop that has more than one exit, or code that has more than one end: what stands behind it is walked once. -/
import Derived.Test.YtdhdbmfipkppiaaDraw4
namespace Go.Proofs.Ytdhdbmfipkppiaa
set_option linter.unusedSimpArgs false
set_option linter.unusedVariables false
set_option linter.unnecessarySimpa false
open Go.RowKit

section
variable {P : Program} {c : Code} {Q : Exit → Act → World → Prop} {a : Act} {w : World}

/-- What stands behind a loop is shown once, of whatever all its exits bring about. -/
theorem cut_loop {id : Nat} {K0 : Act → World → Prop} (R : Act → World → Prop) (h1 : ∀ K : Act → World → Prop, (∀ a w, R a w → K a w) → c.wp P (Exit.inBlock id (Exit.then K Q)) a w) (h2 : ∀ a w, R a w → K0 a w) :
    c.wp P (Exit.inBlock id (Exit.then K0 Q)) a w := by
  refine Code.wp_mono ?_ (h1 R fun _ _ h => h)
  intro e a w h
  cases e with
  | normal => exact h2 _ _ h
  | exit i =>
    simp only [Exit.inBlock] at h ⊢
    split at h
    · rename_i hi
      rw [if_pos hi]
      exact h2 _ _ h
    · rename_i hi
      rw [if_neg hi]
      exact h
  | goto l => exact h
  | ret => exact h
  | panic ch => exact h
  | outgrown => exact h

/-- The same behind any code. -/
theorem cut_code {K0 : Act → World → Prop} (R : Act → World → Prop) (h1 : ∀ K : Act → World → Prop, (∀ a w, R a w → K a w) → c.wp P (Exit.then K Q) a w) (h2 : ∀ a w, R a w → K0 a w) :
    c.wp P (Exit.then K0 Q) a w := by
  refine Code.wp_mono ?_ (h1 R fun _ _ h => h)
  intro e a w h
  cases e with
  | normal => exact h2 _ _ h
  | exit i => exact h
  | goto l => exact h
  | ret => exact h
  | panic ch => exact h
  | outgrown => exact h
end

/-- A frame some of whose slots are known; the others hold whatever they hold. -/
def LitA (a : Act) (G : (Nat → Value) → Act) : Prop := ∃ f, a = G f
theorem LitA.of {a : Act} {G : (Nat → Value) → Act} (h : a = G fun i => a.tmps.getD i undef) : LitA a G := ⟨_, h⟩

end Go.Proofs.Ytdhdbmfipkppiaa
