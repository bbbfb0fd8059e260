/- How rows of spans that came in are opened. -/
import Derived.Test.YticfgkcdghbklaaRegW
import Derived.Test.YticfgkcdghbklaaRead
namespace Go.Proofs.Yticfgkcdghbklaa
open Go.RowKit

def spanTy : Ty := .st (.pair (.int .i64) (.pair (.int .i64) (.pair (.int .i64) (.pair .bool .unit))))

theorem read_span {w : World} {cs : List Value} {d : D} (h : spanTy.reads w cs d) : ∃ s : Sp, cs = s.cs ∧ InK .i64 s.mem ∧ InK .i64 s.frm ∧ InK .i64 s.to := by
  simp only [spanTy, Ty.reads] at h
  obtain ⟨_, _, _, _, e, _, ⟨b0, rfl, k0, _⟩, ⟨_, _, _, _, rfl, _, ⟨b1, rfl, k1, _⟩, ⟨_, _, _, _, rfl, _, ⟨b2, rfl, k2, _⟩, ⟨_, _, _, _, rfl, _, ⟨b3, rfl, _⟩, ⟨rfl, _⟩, _⟩, _⟩, _⟩, _⟩ := h
  exact ⟨⟨b0, b1, b2, b3⟩, by simpa [Sp.cs] using e, k0, k1, k2⟩

theorem spans_of : ∀ (n : Nat) (xs : List Value), xs.length = n * 4 → (∀ j, j < n → ∃ s : Sp, (xs.drop (j * 4)).take 4 = s.cs) → ∃ l : List Sp, l.length = n ∧ xs = l.flatMap Sp.cs
  | 0, xs, hl, _ => ⟨[], rfl, by simpa using List.eq_nil_of_length_eq_zero (by simpa using hl)⟩
  | n + 1, xs, hl, h => by
    obtain ⟨s, hs⟩ := h 0 (by omega)
    obtain ⟨l, h1, h2⟩ := spans_of n (xs.drop 4) (by simp; omega) (fun j hj => by
      obtain ⟨s', hs'⟩ := h (j + 1) (by omega)
      exact ⟨s', by rw [List.drop_drop, show 4 + j * 4 = (j + 1) * 4 by omega]; exact hs'⟩)
    refine ⟨s :: l, by simp [h1], ?_⟩
    rw [List.flatMap_cons, ← h2, ← hs]
    simp

theorem read_spans {w : World} {A : Option Addr} {n c : Nat} {d : D} (h : (Ty.sl spanTy).reads w [.slice A n c] d) : ∃ l : List Sp, Spans w (.slice A n c) l := by
  simp only [Ty.reads] at h
  obtain ⟨v, m, xs, ds, e, hr, _, hl, hx⟩ := h
  obtain rfl : Value.slice A n c = v := by simpa using e
  have hsz : spanTy.cells = 4 := rfl
  rw [hsz] at hr hx
  have hlen := hr
  obtain ⟨_, _, _, _, _, h3, _⟩ := hlen
  obtain ⟨l, h1, h2⟩ := spans_of m xs h3 (fun j hj => by
    obtain ⟨s, hs, _⟩ := read_span (hx j ds[j] (by simp [hl, hj]))
    exact ⟨s, hs⟩)
  refine ⟨l, ?_⟩
  unfold Spans
  rw [h1, ← h2]
  exact hr

end Go.Proofs.Yticfgkcdghbklaa
