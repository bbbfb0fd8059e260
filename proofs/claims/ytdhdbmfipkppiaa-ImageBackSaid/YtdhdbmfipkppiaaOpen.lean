/- How the arguments of a law are opened: a slice of numbers that came in. -/
import Derived.Test.YtdhdbmfipkppiaaVoc
import Derived.ProofKit
namespace Go.Proofs.Ytdhdbmfipkppiaa
set_option linter.unusedSimpArgs false
set_option linter.unusedVariables false
set_option linter.unnecessarySimpa false
open Go.ChangeShapes Go.WideShapes Go.ChangeAt Go.RowKit

theorem row_of_cells {w : World} {a : Addr} {n c sz : Nat} {xs : List Value} (hl : n ≤ c) (hm : c ≤ maxLen) (hx : xs.length = n * sz) (h : ∀ j u, xs[j]? = some u → w.cell? (a.add j) = some u) : Row w (.slice (some a) n c) n sz xs := by
  obtain ⟨b, off, spot⟩ := a
  refine ⟨_, _, rfl, hl, hm, hx, fun j u hj => ?_⟩
  have h0 : 0 < xs.length := by
    rcases Nat.eq_zero_or_pos xs.length with h | h
    · have : xs = [] := List.eq_nil_of_length_eq_zero h
      subst this
      simp at hj
    · exact h
  have hc0 := h 0 xs[0] (by simp [h0])
  have hs : spot = none := by simpa [Addr.add] using World.cell?_spot hc0
  subst hs
  have := h j u hj
  refine ⟨b, off, rfl, ?_⟩
  have e : (⟨b, off, none⟩ : Addr).add j = ⟨b, off + j, none⟩ := by unfold Addr.add; split <;> simp_all
  rwa [e] at this

theorem open_intsV {H : Type} {enc : TypeId × Value → H} {P : Program} {W : World} {base : Nat} {spare : Nat → Bool} {held : Bool} {t e : TypeId} {k : IntKind} {a : Option Addr} {len cap : Nat} {d : DataW H} {p : List MemPlace}
    (ht : P.underlying t = some (.slice e)) (he : P.underlying e = some (.int k)) (hc : P.cellsOf e = 1) (h : DataW.Trod enc P W base spare held t (.slice a len cap) d p) :
    ∃ zs, Ints k W (.slice a len cap) zs ∧ ∀ z ∈ zs, InK k z := by
  obtain ⟨fuel, hf⟩ := h
  rcases open_ints ht he hc hf with ⟨hcs, _⟩ | ⟨x, l, c, zs, hcs, _, hl, hm, hz, _, hcell, hwz⟩
  · simp [Value.cells] at hcs
    obtain ⟨rfl, rfl, rfl⟩ := hcs
    exact ⟨[], row_nil _ _, fun z h => by cases h⟩
  · simp [Value.cells] at hcs
    obtain ⟨rfl, rfl, rfl⟩ := hcs
    have hlen : len ≤ zs.length := by rw [hz]; split <;> omega
    have htl : (zs.take len).length = len := by rw [List.length_take]; omega
    refine ⟨zs.take len, ?_, fun z hz' => inK_of_wf (hwz z (List.mem_of_mem_take hz'))⟩
    show Row W (.slice (some x) len cap) (zs.take len).length 1 _
    rw [htl]
    refine row_of_cells hl hm (by simp; omega) fun j u hj => ?_
    have hj' : j < len := by
      rcases Nat.lt_or_ge j len with h | h
      · exact h
      · rw [List.getElem?_eq_none (by simp; omega)] at hj; cases hj
    rw [hcell j (by omega)]
    simp [hj', show j < zs.length by omega] at hj
    simp [← hj, show j < zs.length by omega]

end Go.Proofs.Ytdhdbmfipkppiaa
