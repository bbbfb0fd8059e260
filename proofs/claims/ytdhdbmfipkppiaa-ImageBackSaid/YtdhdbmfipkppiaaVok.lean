/- What is known of a graph that may be. -/
import Derived.Test.YtdhdbmfipkppiaaModV
namespace Go.Proofs.Ytdhdbmfipkppiaa
set_option linter.unusedSimpArgs false
set_option linter.unusedVariables false
set_option linter.unnecessarySimpa false
open Go.RowKit

theorem valueR_ok {n : Nd} {l : List Vl} (h : (valueR n l).2 = 0) : (1 ≤ l.length ∧ l.length ≤ 2) ∧ (valueR n l).1.s.ok = true := by
  unfold valueR at h ⊢
  cases hk : kindOf n.op with
  | none => rw [hk] at h; simp at h
  | some k =>
    rw [hk] at h
    simp only at h ⊢
    by_cases h1 : nodeOk k n l.length = false
    · rw [if_pos h1] at h; simp at h
    rw [if_neg h1] at h ⊢
    by_cases h2 : (k.keeps && l.any fun x => !decide (x.z = n.zero)) = true
    · rw [if_pos h2] at h; simp at h
    rw [if_neg h2] at h ⊢
    by_cases h3 : (l.any fun x => !x.s.ok) = true
    · rw [if_pos h3] at h; simp at h
    rw [if_neg h3] at h ⊢
    by_cases h4 : (madeZ n (l[0]?.getD default).s (l[l.length - 1]?.getD default).s).ok = false
    · rw [if_pos h4] at h; simp at h
    rw [if_neg h4] at h ⊢
    by_cases h5 : ((n.ws.length : Int) ≠ (wbZ n (l[0]?.getD default).s).1 ∨ (n.bs.length : Int) ≠ (wbZ n (l[0]?.getD default).s).2) ∨ (n.bs.any fun x => !inB (-16777216) 16777216 x) = true
    · rw [if_pos h5] at h; simp at h
    rw [if_neg h5]
    refine ⟨?_, by simpa using h4⟩
    have h1' : nodeOk k n l.length = true := by simpa using h1
    simp only [nodeOk, ok1, Bool.and_eq_true, decide_eq_true_eq] at h1'
    have hm : (l.length : Int) = k.many := h1'.1.1.1.1.1.1.1
    have hk2 : k.many = 1 ∨ k.many = 2 := by
      have hr := kind_range hk
      rcases (by omega : n.op = 1 ∨ n.op = 2 ∨ n.op = 3 ∨ n.op = 4 ∨ n.op = 5 ∨ n.op = 6 ∨ n.op = 7 ∨ n.op = 8 ∨ n.op = 9 ∨ n.op = 10 ∨ n.op = 11 ∨ n.op = 12) with ho | ho | ho | ho | ho | ho | ho | ho | ho | ho | ho | ho
      all_goals
        rw [ho] at hk
        simp only [kindOf, reduceIte, Int.reduceEq, Option.some.injEq] at hk
        subst hk
        simp
    omega

theorem goNodes_more : ∀ (ns : List Nd) (vals : List Vl) (t : Nat), (goNodes ns vals t).2 = 0 → (∀ v ∈ vals, v.s.ok = true) →
    (∀ v ∈ (goNodes ns vals t).1.1, v.s.ok = true) ∧ (∀ n ∈ ns, 1 ≤ n.ins.length ∧ n.ins.length ≤ 2) ∧ (goNodes ns vals t).1.1.take vals.length = vals
  | [], vals, t, _, hv => ⟨(by simpa [goNodes] using hv), (fun n hn => by cases hn), (by simp [goNodes])⟩
  | n :: ns, vals, t, h, hv => by
    unfold goNodes at h ⊢
    by_cases h1 : n.ins.all (okI vals) = false
    · rw [if_pos h1] at h; simp at h
    rw [if_neg h1] at h ⊢
    by_cases h2 : (valueR n (n.ins.map (getV vals))).2 ≠ 0
    · rw [if_pos h2] at h; exact absurd h h2
    rw [if_neg h2] at h ⊢
    have hok := valueR_ok (n := n) (l := n.ins.map (getV vals)) (by simpa using h2)
    obtain ⟨k1, k2, k3⟩ := goNodes_more ns _ _ h (fun v hm => by
      rcases List.mem_append.1 hm with hm | hm
      · exact hv v hm
      · obtain rfl := List.mem_singleton.1 hm; exact hok.2)
    refine ⟨k1, fun m hm => ?_, ?_⟩
    · rcases List.mem_cons.1 hm with rfl | hm
      · simpa using hok.1
      · exact k2 m hm
    · have := congrArg (List.take vals.length) k3
      rw [List.take_take, List.length_append, Nat.min_eq_left (by omega)] at this
      rw [this]; simp

/-- What is known of a graph that may be. -/
structure ValsOk (g : Gr) (vs : List Vl) : Prop where
  len : vs.length = g.ins.length + g.nodes.length
  il : g.ins.length ≤ 4
  nl : g.nodes.length ≤ 12
  ok : ∀ v ∈ vs, v.s.ok = true
  ins : ∀ n ∈ g.nodes, (1 ≤ n.ins.length ∧ n.ins.length ≤ 2) ∧ ∀ z ∈ n.ins, 0 ≤ z ∧ z < vs.length

theorem vals_ok {g : Gr} (h : (valuesR g).2 = 0) : ValsOk g (valuesR g).1 := by
  unfold valuesR at h ⊢
  by_cases h1 : goesInR g ≠ 0
  · rw [if_pos h1] at h; exact absurd h h1
  rw [if_neg h1] at h ⊢
  by_cases h2 : (goNodes g.nodes g.ins 0).2 ≠ 0
  · rw [if_pos h2] at h; exact absurd h h2
  rw [if_neg h2] at h ⊢
  by_cases h3 : 4096 < (goNodes g.nodes g.ins 0).1.2
  · rw [if_pos h3] at h; simp at h
  rw [if_neg h3] at h ⊢
  by_cases h4 : g.outs.all (okI (goNodes g.nodes g.ins 0).1.1) = false
  · rw [if_pos h4] at h; simp at h
  rw [if_neg h4]
  simp only [ne_eq, Decidable.not_not] at h1 h2
  unfold goesInR at h1
  by_cases h5 : 4 < g.ins.length ∨ 12 < g.nodes.length ∨ 4 < g.outs.length
  · rw [if_pos h5] at h1; cases h1
  rw [if_neg h5] at h1
  by_cases h6 : g.ins.length = 0 ∨ g.outs.length = 0
  · rw [if_pos h6] at h1; cases h1
  rw [if_neg h6] at h1
  obtain ⟨k1, _, k3⟩ := goNodes_ok _ _ _ h2
  obtain ⟨j1, j2, _⟩ := goNodes_more _ _ _ h2 (fun v hv => (insR_ok _ h1 v hv).1)
  exact ⟨k1, by omega, by omega, j1, fun n hn => ⟨j2 n hn, fun z hz => by have := (k3 n hn).2.2 z hz; simp only; rw [k1]; omega⟩⟩

end Go.Proofs.Ytdhdbmfipkppiaa
