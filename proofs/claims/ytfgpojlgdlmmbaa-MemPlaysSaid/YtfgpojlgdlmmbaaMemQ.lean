/- How rows of writes and reads that came in are opened. -/
import Derived.Test.YtfgpojlgdlmmbaaMemC
import Derived.Test.YtfgpojlgdlmmbaaRead
namespace Go.Proofs.Ytfgpojlgdlmmbaa
set_option linter.unusedSimpArgs false
set_option linter.unusedVariables false
set_option linter.unnecessarySimpa false
open Go.RowKit

def opTy : Ty := .st (.pair (.int .i64) (.pair (.int .i64) (.pair (.int .i64) (.pair (.sl (.int .i8)) .unit))))

theorem ints_of_reads {w : World} {k : IntKind} {cs : List Value} {d : D} (h : (Ty.sl (.int k)).reads w cs d) : ∃ v zs, cs = [v] ∧ Ints k w v zs := by
  simp only [Ty.reads] at h
  obtain ⟨v, n, xs, ds, rfl, hr, _, hl, hx⟩ := h
  have hsz : (Ty.int k).cells = 1 := rfl
  rw [hsz] at hr hx
  have hlen : xs.length = n := by obtain ⟨_, _, _, _, _, h3, _⟩ := hr; omega
  have hall : ∀ j, j < n → ∃ z, xs[j]? = some (.int k z) := fun j hj => by
    obtain ⟨z, hz, _⟩ := hx j ds[j] (by simp [hl, hj])
    refine ⟨z, ?_⟩
    have h0 : ((xs.drop (j * 1)).take 1)[0]? = some (.int k z) := by rw [hz]; rfl
    rw [List.getElem?_take_of_lt (by omega), List.getElem?_drop] at h0
    simpa using h0
  obtain ⟨zs, hzl, hz⟩ := choose_list hall
  refine ⟨v, zs, rfl, ?_⟩
  have e : xs = zs.map (.int k) := by
    apply List.ext_getElem?
    intro j
    rcases Nat.lt_or_ge j n with hj | hj
    · rw [hz j zs[j] (by simp [hzl, hj])]
      simp [hzl, hj]
    · rw [List.getElem?_eq_none (by omega), List.getElem?_eq_none (by simp; omega)]
  show Row w v zs.length 1 _
  rw [hzl, ← e]
  exact hr

theorem read_op {w : World} {cs : List Value} {d : D} (h : opTy.reads w cs d) : ∃ s : OpW, cs = s.cs ∧ Ints .i8 w s.lv s.zs ∧ InK .i64 s.at_ ∧ InK .i64 s.frm ∧ InK .i64 s.n := by
  unfold opTy at h
  obtain ⟨_, _, _, _, e, _, ⟨b0, rfl, k0, _⟩, ⟨_, _, _, _, rfl, _, ⟨b1, rfl, k1, _⟩, ⟨_, _, _, _, rfl, _, ⟨b2, rfl, k2, _⟩, ⟨_, _, _, _, rfl, _, hs, ⟨rfl, _⟩, _⟩, _⟩, _⟩, _⟩ := h
  obtain ⟨v, zs, rfl, hi⟩ := ints_of_reads hs
  exact ⟨⟨b0, b1, b2, v, zs⟩, by simpa [OpW.cs] using e, hi, k0, k1, k2⟩

theorem ops_of {w : World} : ∀ (n : Nat) (xs : List Value), xs.length = n * 4 → (∀ j, j < n → ∃ s : OpW, (xs.drop (j * 4)).take 4 = s.cs ∧ Ints .i8 w s.lv s.zs ∧ InK .i64 s.at_ ∧ InK .i64 s.frm ∧ InK .i64 s.n) →
    ∃ l : List OpW, l.length = n ∧ xs = l.flatMap OpW.cs ∧ ∀ s ∈ l, Ints .i8 w s.lv s.zs ∧ InK .i64 s.at_ ∧ InK .i64 s.frm ∧ InK .i64 s.n
  | 0, xs, hl, _ => ⟨[], rfl, by simpa using List.eq_nil_of_length_eq_zero (by simpa using hl), fun s h => by cases h⟩
  | n + 1, xs, hl, h => by
    obtain ⟨s, hs, hp⟩ := h 0 (by omega)
    obtain ⟨l, h1, h2, h3⟩ := ops_of n (xs.drop 4) (by simp; omega) (fun j hj => by
      obtain ⟨s', hs', hp'⟩ := h (j + 1) (by omega)
      exact ⟨s', by rw [List.drop_drop, show 4 + j * 4 = (j + 1) * 4 by omega]; exact hs', hp'⟩)
    refine ⟨s :: l, by simp [h1], ?_, ?_⟩
    · rw [List.flatMap_cons, ← h2, ← hs]
      simp
    · intro x hx
      rcases List.mem_cons.1 hx with rfl | hx
      · exact hp
      · exact h3 x hx

theorem read_ops {w : World} {A : Option Addr} {n c : Nat} {d : D} (h : (Ty.sl opTy).reads w [.slice A n c] d) : ∃ l : List OpW, Ops w (.slice A n c) l := by
  simp only [Ty.reads] at h
  obtain ⟨v, m, xs, ds, e, hr, _, hl, hx⟩ := h
  obtain rfl : Value.slice A n c = v := by simpa using e
  have hsz : opTy.cells = 4 := rfl
  rw [hsz] at hr hx
  have hlen := hr
  obtain ⟨_, _, _, _, _, h3, _⟩ := hlen
  obtain ⟨l, h1, h2, h4⟩ := ops_of m xs h3 (fun j hj => read_op (hx j ds[j] (by simp [hl, hj])))
  refine ⟨l, ?_, h4⟩
  rw [h1, ← h2]
  exact hr

end Go.Proofs.Ytfgpojlgdlmmbaa
