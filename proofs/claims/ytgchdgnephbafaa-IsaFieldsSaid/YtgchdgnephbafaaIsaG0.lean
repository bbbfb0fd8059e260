/- Words for the walk of the law IsaFields. -/
import Derived.Test.YtgchdgnephbafaaIsaS
import Derived.Test.YtgchdgnephbafaaIsaB
import Derived.Deep.DeepCutAuto
import Derived.Test.YtgchdgnephbafaaRead
namespace Go.Proofs.Ytgchdgnephbafaa
open Go.RowKit

def i64x4 : Ty := .st (.pair (.int .i64) (.pair (.int .i64) (.pair (.int .i64) (.pair (.int .i64) .unit))))

theorem read_i64x4 {w : World} {cs : Array Value} {d : D} (h : i64x4.reads w (Value.agg cs).cells.toList d) : ∃ b0 b1 b2 b3, cs = #[.int .i64 b0, .int .i64 b1, .int .i64 b2, .int .i64 b3] := by
  simp only [i64x4, Ty.reads, Value.cells] at h
  obtain ⟨_, _, _, _, e, _, ⟨b0, rfl, k0, _⟩, ⟨_, _, _, _, rfl, _, ⟨b1, rfl, k1, _⟩, ⟨_, _, _, _, rfl, _, ⟨b2, rfl, k2, _⟩, ⟨_, _, _, _, rfl, _, ⟨b3, rfl, k3, _⟩, ⟨rfl, _⟩, _⟩, _⟩, _⟩, _⟩ := h
  exact ⟨b0, b1, b2, b3, by apply Array.ext'; simpa using e⟩

/-- A box of four numbers. -/
def QBox (w : World) (b : Nat) (x0 x1 x2 x3 : Int) : Prop := w.heap[b]? = some (.cells #[.int .i64 x0, .int .i64 x1, .int .i64 x2, .int .i64 x3] 22 (0, 0))
theorem QBox.lt {w : World} {b : Nat} {x0 x1 x2 x3 : Int} (h : QBox w b x0 x1 x2 x3) : b < w.heap.size := (Array.getElem?_eq_some_iff.1 h).1
theorem QBox.below {w w' : World} {b : Nat} {x0 x1 x2 x3 : Int} (h : QBox w b x0 x1 x2 x3) (hb : Below w.heap.size w w') : QBox w' b x0 x1 x2 x3 := (hb.block b h.lt).trans h
theorem QBox.cells {w : World} {b : Nat} {x0 x1 x2 x3 : Int} (h : QBox w b x0 x1 x2 x3) : w.cell? ⟨b, 0, none⟩ = some (.int .i64 x0) ∧ w.cell? ⟨b, 1, none⟩ = some (.int .i64 x1) ∧ w.cell? ⟨b, 2, none⟩ = some (.int .i64 x2) ∧ w.cell? ⟨b, 3, none⟩ = some (.int .i64 x3) := by
  unfold QBox at h
  refine ⟨?_, ?_, ?_, ?_⟩ <;> simp [World.cell?, h]
theorem CBox.later {w w' : World} {b : Nat} {cs : List Int} (h : CBox w b cs) (hb : Below w.heap.size w w') : CBox w' b cs := h.below hb h.lt

/-- The answer of May against what it should be. -/
theorem mayE_eq {c : Cm} {q : Bool} (h : mayB c = true ↔ q = true) : ((mayE c == 0) == q) = true := by
  have e : mayB c = q := by rw [Bool.eq_iff_iff]; exact h
  unfold mayE
  rw [e]
  cases q <;> rfl

theorem mayE_if {c : Cm} {q : Bool} (h : mayB c = true ↔ q = true) : mayE c = if q then 0 else 1 := by
  have e : mayB c = q := by rw [Bool.eq_iff_iff]; exact h
  unfold mayE
  rw [e]

def loadOk (rows row x0 x1 : Int) : Bool := decide (((((1 ≤ rows ∧ rows ≤ 16) ∧ 1 ≤ row) ∧ row ≤ 128) ∧ 0 ≤ x0) ∧ x0 < 65536 ∧ 0 ≤ x1 ∧ x1 < 1024)

end Go.Proofs.Ytgchdgnephbafaa
