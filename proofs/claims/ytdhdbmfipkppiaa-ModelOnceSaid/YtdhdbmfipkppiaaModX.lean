/- Graphs as bytes: what is put is taken; the plain laws. -/
import Derived.Test.YtdhdbmfipkppiaaModH
namespace Go.Proofs.Ytdhdbmfipkppiaa
set_option linter.unusedSimpArgs false
set_option linter.unusedVariables false
set_option linter.unnecessarySimpa false
open Go.RowKit

theorem taken_enc {g : Gr} (h : (valuesR g).2 = 0) (hok : GoodG g) (t : List Int) : taken (encG g.c ++ t) = some (g.c, (encG g.c).length) := by
  have he := enc_graph hok.ok t
  unfold taken
  rw [he]
  have h2 : (encG g.c ++ t).length - t.length = (encG g.c).length := by simp
  simp only [h2]
  rw [if_pos ⟨trivial, by rw [err_eq]; exact h, by simp⟩]

theorem taken_all {g : Gr} (h : (valuesR g).2 = 0) (hok : GoodG g) : taken (encG g.c) = some (g.c, (encG g.c).length) := by
  have := taken_enc h hok []
  rwa [List.append_nil] at this

theorem enc_inj {g g' : Gr} (h : (valuesR g).2 = 0) (hok : GoodG g) (h' : (valuesR g').2 = 0) (hok' : GoodG g') (e : encG g.c = encG g'.c) : g.c = g'.c := by
  have h1 := taken_all h hok
  have h2 := taken_all h' hok'
  rw [e, h2] at h1
  simp only [Option.some.injEq, Prod.mk.injEq] at h1
  exact h1.1.symm

theorem taken_some {bs : List Int} {c : Gc} {n : Nat} (h : taken bs = some (c, n)) : c.err = 0 ∧ encG c = bs.take n ∧ n ≤ bs.length ∧ ∃ r, pGraph ⟨bs, false⟩ = (c, r) ∧ r.bad = false ∧ n = bs.length - r.l.length := by
  unfold taken at h
  generalize pGraph ⟨bs, false⟩ = q at *
  obtain ⟨gc, r⟩ := q
  simp only at h
  by_cases hc : r.bad = false ∧ gc.err = 0 ∧ encG gc = bs.take (bs.length - r.l.length)
  · rw [if_pos hc] at h
    simp only [Option.some.injEq, Prod.mk.injEq] at h
    obtain ⟨rfl, rfl⟩ := h
    exact ⟨hc.2.1, hc.2.2, by omega, r, rfl, hc.1, rfl⟩
  · rw [if_neg hc] at h
    cases h

/-- Cut, it is none. -/
theorem taken_cut {g : Gr} (hok : GoodG g) {k : Nat} (hk : k < (encG g.c).length) : taken ((encG g.c).take k) = none := by
  cases ht : taken ((encG g.c).take k) with
  | none => rfl
  | some q =>
    obtain ⟨c, n⟩ := q
    obtain ⟨_, _, _, r, hp, hb, _⟩ := taken_some ht
    exfalso
    have h1 := ext_graph.more ⟨(encG g.c).take k, false⟩ ((encG g.c).drop k) (by rw [hp]; exact hb)
    have h2 := enc_graph hok.ok []
    rw [List.append_nil] at h2
    rw [List.take_append_drop, h2, hp] at h1
    simp only [Prod.mk.injEq, Rd.mk.injEq] at h1
    have h3 := h1.2.1
    have h4 : (encG g.c).drop k = [] := (List.append_eq_nil_iff.1 h3.symm).2
    have := List.drop_eq_nil_iff.1 h4
    omega

theorem enc_long (c : Gc) : 3 ≤ (encG c).length := by rw [encG_len]; omega

end Go.Proofs.Ytdhdbmfipkppiaa
