/- The law RegionNodes, as it is walked; three bytes that came in. -/
import Derived.Test.YtdhdbmfipkppiaaRgr
import Derived.Test.YtdhdbmfipkppiaaRgn
namespace Go.Proofs.Ytdhdbmfipkppiaa
set_option linter.unusedSimpArgs false
set_option linter.unusedVariables false
set_option linter.unnecessarySimpa false
open Go.RowKit

theorem regionNodes_law (g : Gr) (pV s0 s1 s2 : Value) (pl : List Int) (a0 a1 a2 : Int) (w : World) (hg : GrIn w g) (hp : Ints .i64 w pV pl) (h0 : InK .u8 a0) (h1 : InK .u8 a1) (h2 : InK .u8 a2) :
    Calls Try.prog 9 #[.agg #[g.iV, g.nV, g.oV, pV, s0, s1, s2], .agg #[.int .u8 a0, .int .u8 a1, .int .u8 a2]] w fun e w' => e = .returned (.bool true) ∧ Below w.heap.size w w' :=
  regionNodes_calls g pV s0 s1 s2 pl a0 a1 a2 w hg hp h0 h1 h2

def u8x3 : Ty := .st (.pair (.int .u8) (.pair (.int .u8) (.pair (.int .u8) .unit)))

theorem read_u8x3 {w : World} {cs : Array Value} {d : D} (h : u8x3.reads w (Value.agg cs).cells.toList d) : ∃ b0 b1 b2, cs = #[.int .u8 b0, .int .u8 b1, .int .u8 b2] ∧ InK .u8 b0 ∧ InK .u8 b1 ∧ InK .u8 b2 := by
  simp only [u8x3, Ty.reads, Value.cells] at h
  obtain ⟨_, _, _, _, e, _, ⟨b0, rfl, k0, _⟩, ⟨_, _, _, _, rfl, _, ⟨b1, rfl, k1, _⟩, ⟨_, _, _, _, rfl, _, ⟨b2, rfl, k2, _⟩, ⟨rfl, _⟩, _⟩, _⟩, _⟩ := h
  exact ⟨b0, b1, b2, by apply Array.ext'; simpa using e, k0, k1, k2⟩

end Go.Proofs.Ytdhdbmfipkppiaa
