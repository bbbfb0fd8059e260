/- How an image that came in is opened whole: with its streams. -/
import Derived.Test.YtmddlhfahfelpaaRgp
import Derived.Test.YtmddlhfahfelpaaNsaP
set_option linter.unusedSimpArgs false
set_option linter.unusedVariables false
set_option linter.unnecessarySimpa false
namespace Go.Proofs.Ytmddlhfahfelpaa
open Go.RowKit

theorem read_cmdL {w : World} {cs : List Value} {d : D} (h : cmdTy.reads w cs d) : ∃ s : Isa.Cm, cs = s.cs ∧ True := by
  obtain ⟨zs, rfl, hl, _⟩ := reads_ints (k := .i64) cmdTy cs d (by decide) h
  obtain ⟨c, rfl⟩ := Isa.cm_of_list zs hl
  exact ⟨c, rfl, trivial⟩

theorem read_cmdsL {w : World} {cs : List Value} {d : D} (h : (Ty.sl cmdTy).reads w cs d) : ∃ (v : Value) (l : List Isa.Cm), cs = [v] ∧ Isa.Cmds w v l := by
  obtain ⟨v, l, e, hr, _⟩ := read_row (f := Isa.Cm.cs) (p := fun _ => True) h (fun _ _ h => read_cmdL h)
  exact ⟨v, l, e, hr⟩

theorem read_imageL {w : World} {cs : Array Value} {d : D} (h : imageTy.reads w (Value.agg cs).cells.toList d) : ∃ (g : Gr) (pV s0 s1 s2 : Value) (pl : List Int) (L0 L1 L2 : List Isa.Cm), cs = #[g.iV, g.nV, g.oV, pV, s0, s1, s2] ∧ GrIn w g ∧ Ints .i64 w pV pl ∧ (∀ z ∈ pl, InK .i64 z) ∧ Isa.Cmds w s0 L0 ∧ Isa.Cmds w s1 L1 ∧ Isa.Cmds w s2 L2 := by
  simp only [Value.cells] at h
  obtain ⟨c1, c2, _, _, e, _, h1, ⟨c3, c4, _, _, rfl, _, h2, ⟨c5, c6, _, _, rfl, _, h3, ⟨rfl, _⟩, _⟩, _⟩, _⟩ := h
  obtain ⟨g, hg, hgi⟩ := read_graph (cs := c1.toArray) (by simpa [Value.cells] using h1)
  obtain ⟨pV, pl, rfl, hp, hpk⟩ := read_ints h2
  obtain ⟨d1, d2, _, _, rfl, _, k1, ⟨d3, d4, _, _, rfl, _, k2, ⟨d5, d6, _, _, rfl, _, k3, ⟨rfl, _⟩, _⟩, _⟩, _⟩ := h3
  obtain ⟨s0, L0, rfl, q0⟩ := read_cmdsL k1
  obtain ⟨s1, L1, rfl, q1⟩ := read_cmdsL k2
  obtain ⟨s2, L2, rfl, q2⟩ := read_cmdsL k3
  have hc1 : c1 = [g.iV, g.nV, g.oV] := by
    have := congrArg Array.toList hg
    simpa using this
  subst hc1
  refine ⟨g, pV, s0, s1, s2, pl, L0, L1, L2, ?_, hgi, hp, hpk, q0, q1, q2⟩
  apply Array.ext'
  simpa using e

end Go.Proofs.Ytmddlhfahfelpaa
