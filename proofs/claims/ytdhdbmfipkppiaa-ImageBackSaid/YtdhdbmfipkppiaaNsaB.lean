/- Which commands may be, kind by kind. -/
import Derived.Test.YtdhdbmfipkppiaaNsaM
namespace Go.Proofs.Ytdhdbmfipkppiaa.Isa
set_option linter.unusedSimpArgs false
set_option linter.unusedVariables false
set_option linter.unnecessarySimpa false
set_option maxRecDepth 10000

theorem mayB_load {c : Cm} (h : c.k = 1 ∨ c.k = 2) : mayB c = true ↔ ((1 ≤ c.r ∧ c.r ≤ 16) ∧ (1 ≤ c.o ∧ c.o ≤ 128) ∧ (0 ≤ c.d ∧ c.d ≤ 65535) ∧ (0 ≤ c.p ∧ c.p ≤ 1023)) ∧ c.s = 0 ∧ c.n = 0 ∧ c.f = 0 ∧ c.i0 = 0 ∧ c.i1 = 0 ∧ c.b0 = 0 ∧ c.b1 = 0 ∧ c.h0 = 0 ∧ c.h1 = 0 := by
  have e : tbl c.k = [⟨4, 1, 1, 16⟩, ⟨5, 2, 1, 128⟩, ⟨6, 3, 0, 65535⟩, ⟨7, 2, 0, 1023⟩] := if_pos h
  have o : okK c.k = true := by unfold okK; rw [decide_eq_true_iff]; omega
  unfold mayB
  rw [e, o]
  simp [runF, Cm.l, Cm.of, and_assoc]

theorem mayB_tile {c : Cm} (h : c.k = 3) : mayB c = true ↔ ((0 ≤ c.n ∧ c.n ≤ 11) ∧ (0 ≤ c.f ∧ c.f ≤ 15) ∧ (1 ≤ c.r ∧ c.r ≤ 16) ∧ (0 ≤ c.p ∧ c.p ≤ 1023) ∧ (0 ≤ c.i0 ∧ c.i0 ≤ 1023) ∧ (0 ≤ c.b0 ∧ c.b0 ≤ 15) ∧ (0 ≤ c.h0 ∧ c.h0 ≤ 16) ∧ (0 ≤ c.i1 ∧ c.i1 ≤ 1023) ∧ (0 ≤ c.b1 ∧ c.b1 ≤ 15) ∧ (0 ≤ c.h1 ∧ c.h1 ≤ 16)) ∧ c.s = 0 ∧ c.o = 0 ∧ c.d = 0 := by
  have e : tbl c.k = [⟨2, 1, 0, 11⟩, ⟨3, 1, 0, 15⟩, ⟨4, 1, 1, 16⟩, ⟨7, 2, 0, 1023⟩, ⟨8, 2, 0, 1023⟩, ⟨10, 1, 0, 15⟩, ⟨12, 1, 0, 16⟩, ⟨9, 2, 0, 1023⟩, ⟨11, 1, 0, 15⟩, ⟨13, 1, 0, 16⟩] := by
    unfold tbl
    rw [if_neg (by omega), if_pos h]
    rfl
  have o : okK c.k = true := by unfold okK; rw [decide_eq_true_iff]; omega
  unfold mayB
  rw [e, o]
  simp [runF, Cm.l, Cm.of, and_assoc]

theorem mayB_kernel {c : Cm} (h : c.k = 4) : mayB c = true ↔ ((0 ≤ c.n ∧ c.n ≤ 11) ∧ (1 ≤ c.r ∧ c.r ≤ 16)) ∧ c.s = 0 ∧ c.f = 0 ∧ c.o = 0 ∧ c.d = 0 ∧ c.p = 0 ∧ c.i0 = 0 ∧ c.i1 = 0 ∧ c.b0 = 0 ∧ c.b1 = 0 ∧ c.h0 = 0 ∧ c.h1 = 0 := by
  have e : tbl c.k = [⟨2, 1, 0, 11⟩, ⟨4, 1, 1, 16⟩] := by
    unfold tbl
    rw [if_neg (by omega), if_neg (by omega), if_pos h]
  have o : okK c.k = true := by unfold okK; rw [decide_eq_true_iff]; omega
  unfold mayB
  rw [e, o]
  simp [runF, Cm.l, Cm.of, and_assoc]

theorem mayB_sem {c : Cm} (h : c.k = 5 ∨ c.k = 6) : mayB c = true ↔ (0 ≤ c.s ∧ c.s ≤ 7) ∧ c.n = 0 ∧ c.f = 0 ∧ c.r = 0 ∧ c.o = 0 ∧ c.d = 0 ∧ c.p = 0 ∧ c.i0 = 0 ∧ c.i1 = 0 ∧ c.b0 = 0 ∧ c.b1 = 0 ∧ c.h0 = 0 ∧ c.h1 = 0 := by
  have e : tbl c.k = [⟨1, 1, 0, 7⟩] := by
    unfold tbl
    rw [if_neg (by omega), if_neg (by omega), if_neg (by omega), if_pos h]
  have o : okK c.k = true := by unfold okK; rw [decide_eq_true_iff]; omega
  unfold mayB
  rw [e, o]
  simp [runF, Cm.l, Cm.of, and_assoc]

theorem mayB_halt {c : Cm} (h : c.k = 7) : mayB c = true ↔ c.s = 0 ∧ c.n = 0 ∧ c.f = 0 ∧ c.r = 0 ∧ c.o = 0 ∧ c.d = 0 ∧ c.p = 0 ∧ c.i0 = 0 ∧ c.i1 = 0 ∧ c.b0 = 0 ∧ c.b1 = 0 ∧ c.h0 = 0 ∧ c.h1 = 0 := by
  have e : tbl c.k = [] := by
    unfold tbl
    rw [if_neg (by omega), if_neg (by omega), if_neg (by omega), if_neg (by omega)]
  have o : okK c.k = true := by unfold okK; rw [decide_eq_true_iff]; omega
  unfold mayB
  rw [e, o]
  simp [runF, Cm.l, Cm.of]

theorem mayB_none {c : Cm} (h : c.k < 1 ∨ 7 < c.k) : mayB c = false := by
  have e : tbl c.k = [] := by
    unfold tbl
    rw [if_neg (by omega), if_neg (by omega), if_neg (by omega), if_neg (by omega)]
  have o : okK c.k = false := by unfold okK; rw [decide_eq_false_iff_not]; omega
  unfold mayB
  rw [e, o]
  rfl

theorem mayB_kind {c : Cm} (h : mayB c = true) : 1 ≤ c.k ∧ c.k ≤ 7 := by
  rcases Int.lt_or_le c.k 1 with h1 | h1
  · rw [mayB_none (Or.inl h1)] at h; cases h
  · rcases Int.lt_or_le 7 c.k with h2 | h2
    · rw [mayB_none (Or.inr h2)] at h; cases h
    · exact ⟨h1, h2⟩

/-- The rows of a command that may be. -/
theorem mayB_rows {c : Cm} (h : mayB c = true) : (1 ≤ c.k ∧ c.k ≤ 4 ∧ 1 ≤ c.r ∧ c.r ≤ 16) ∨ (5 ≤ c.k ∧ c.k ≤ 7) := by
  obtain ⟨h1, h2⟩ := mayB_kind h
  have hk : (c.k = 1 ∨ c.k = 2) ∨ c.k = 3 ∨ c.k = 4 ∨ 5 ≤ c.k := by omega
  rcases hk with hk | hk | hk | hk
  · have := ((mayB_load hk).1 h).1.1; exact Or.inl ⟨h1, by omega, this⟩
  · have := ((mayB_tile hk).1 h).1.2.2.1; exact Or.inl ⟨h1, by omega, this⟩
  · have := ((mayB_kernel hk).1 h).1.2; exact Or.inl ⟨h1, by omega, this⟩
  · exact Or.inr ⟨hk, h2⟩

end Go.Proofs.Ytdhdbmfipkppiaa.Isa
