/- How commands that came in are opened. -/
import Derived.Test.YtgchdgnephbafaaIsaL
import Derived.Test.YtgchdgnephbafaaRead
namespace Go.Proofs.Ytgchdgnephbafaa
open Go.RowKit

def CmIn (c : Cm) : Prop := ∀ z ∈ c.l, InK .i64 z

/-- A shape of numbers of one kind alone. -/
def Ty.allInts (k : IntKind) : Ty → Bool
  | .int k' => decide (k' = k)
  | .st b => b.allInts k
  | .unit => true
  | .pair a b => a.allInts k && b.allInts k
  | _ => false

theorem reads_ints {w : World} {k : IntKind} : ∀ (T : Ty) (cs : List Value) (d : D), T.allInts k = true → T.reads w cs d → ∃ zs : List Int, cs = zs.map (.int k) ∧ zs.length = T.cells ∧ ∀ z ∈ zs, InK k z := by
  intro T
  induction T with
  | int k' =>
    intro cs d h hr
    obtain rfl : k' = k := of_decide_eq_true h
    obtain ⟨z, rfl, hz, _⟩ := hr
    exact ⟨[z], rfl, rfl, by simpa using hz⟩
  | bool => intro cs d h; cases h
  | sl e => intro cs d h; cases h
  | st b ih => intro cs d h hr; exact ih cs d h hr
  | unit =>
    intro cs d _ hr
    obtain ⟨rfl, _⟩ := hr
    exact ⟨[], rfl, rfl, by simp⟩
  | pair a b iha ihb =>
    intro cs d h hr
    simp only [Ty.allInts, Bool.and_eq_true] at h
    obtain ⟨c1, c2, x, y, rfl, _, h1, h2, _⟩ := hr
    obtain ⟨z1, rfl, l1, b1⟩ := iha c1 x h.1 h1
    obtain ⟨z2, rfl, l2, b2⟩ := ihb c2 y h.2 h2
    exact ⟨z1 ++ z2, by rw [List.map_append], by rw [List.length_append, l1, l2]; rfl, fun z hz => by
      rcases List.mem_append.1 hz with h | h
      · exact b1 z h
      · exact b2 z h⟩

def cmdTy : Ty := .st (.pair (.int .i64) (.pair (.int .i64) (.pair (.int .i64) (.pair (.int .i64) (.pair (.int .i64) (.pair (.int .i64) (.pair (.int .i64) (.pair (.int .i64)
  (.pair (.st (.pair (.int .i64) (.pair (.int .i64) .unit))) (.pair (.st (.pair (.int .i64) (.pair (.int .i64) .unit))) (.pair (.st (.pair (.int .i64) (.pair (.int .i64) .unit))) .unit)))))))))))

theorem read_cmd {w : World} {cs : List Value} {d : D} (h : cmdTy.reads w cs d) : ∃ s : Cm, cs = s.cs ∧ CmIn s := by
  obtain ⟨zs, rfl, hl, hz⟩ := reads_ints (k := .i64) cmdTy cs d (by decide) h
  obtain ⟨c, rfl⟩ := cm_of_list zs hl
  exact ⟨c, rfl, hz⟩

theorem read_cmd_v {w : World} {cs : Array Value} {d : D} (h : cmdTy.reads w (Value.agg cs).cells.toList d) : ∃ s : Cm, cs = #[.int .i64 s.k, .int .i64 s.s, .int .i64 s.n, .int .i64 s.f, .int .i64 s.r, .int .i64 s.o, .int .i64 s.d, .int .i64 s.p, .int .i64 s.i0, .int .i64 s.i1, .int .i64 s.b0, .int .i64 s.b1, .int .i64 s.h0, .int .i64 s.h1] := by
  obtain ⟨s, e, _⟩ := read_cmd h
  refine ⟨s, ?_⟩
  apply Array.ext'
  exact e

theorem cmds_of {w : World} : ∀ (n : Nat) (xs : List Value), xs.length = n * 14 → (∀ j, j < n → ∃ s : Cm, (xs.drop (j * 14)).take 14 = s.cs ∧ CmIn s) → ∃ l : List Cm, l.length = n ∧ xs = l.flatMap Cm.cs ∧ ∀ c ∈ l, CmIn c
  | 0, xs, hl, _ => ⟨[], rfl, by simpa using List.eq_nil_of_length_eq_zero (by simpa using hl), fun c h => by cases h⟩
  | n + 1, xs, hl, h => by
    obtain ⟨s, hs, hi⟩ := h 0 (by omega)
    obtain ⟨l, h1, h2, h3⟩ := cmds_of (w := w) n (xs.drop 14) (by simp; omega) (fun j hj => by
      obtain ⟨s', hs', hi'⟩ := h (j + 1) (by omega)
      exact ⟨s', by rw [List.drop_drop, show 14 + j * 14 = (j + 1) * 14 by omega]; exact hs', hi'⟩)
    refine ⟨s :: l, by simp [h1], ?_, fun c hc => ?_⟩
    · rw [List.flatMap_cons, ← h2, ← hs]
      simp
    · rcases List.mem_cons.1 hc with rfl | hc
      · exact hi
      · exact h3 c hc

theorem read_cmds {w : World} {A : Option Addr} {n c : Nat} {d : D} (h : (Ty.sl cmdTy).reads w [.slice A n c] d) : ∃ l : List Cm, Cmds w (.slice A n c) l ∧ ∀ c ∈ l, CmIn c := by
  simp only [Ty.reads] at h
  obtain ⟨v, m, xs, ds, e, hr, _, hl, hx⟩ := h
  obtain rfl : Value.slice A n c = v := by simpa using e
  have hsz : cmdTy.cells = 14 := rfl
  rw [hsz] at hr hx
  have hlen := hr
  obtain ⟨_, _, _, _, _, h3, _⟩ := hlen
  obtain ⟨l, h1, h2, h4⟩ := cmds_of (w := w) m xs h3 (fun j hj => read_cmd (hx j ds[j] (by simp [hl, hj])))
  refine ⟨l, ?_, h4⟩
  unfold Cmds
  rw [h1, ← h2]
  exact hr

end Go.Proofs.Ytgchdgnephbafaa
