/- Words on commands of package isa: their numbers, and the fields of each kind. -/
import Derived.Test.YtgchdgnephbafaaTypes
import Derived.Test.YtgchdgnephbafaaDraw3
import Derived.Deep.Cut
namespace Go.Proofs.Ytgchdgnephbafaa
open Go.RowKit

/-- A command, number by number. -/
structure Cm where
  k : Int
  s : Int
  n : Int
  f : Int
  r : Int
  o : Int
  d : Int
  p : Int
  i0 : Int
  i1 : Int
  b0 : Int
  b1 : Int
  h0 : Int
  h1 : Int
deriving DecidableEq, Inhabited

def Cm.l (c : Cm) : List Int := [c.k, c.s, c.n, c.f, c.r, c.o, c.d, c.p, c.i0, c.i1, c.b0, c.b1, c.h0, c.h1]
def Cm.cs (c : Cm) : List Value := c.l.map (.int .i64)
def Cm.v (c : Cm) : Value := .agg #[.int .i64 c.k, .int .i64 c.s, .int .i64 c.n, .int .i64 c.f, .int .i64 c.r, .int .i64 c.o, .int .i64 c.d, .int .i64 c.p, .int .i64 c.i0, .int .i64 c.i1, .int .i64 c.b0, .int .i64 c.b1, .int .i64 c.h0, .int .i64 c.h1]
def Cm.of (k : Int) : Cm := ⟨k, 0, 0, 0, 0, 0, 0, 0, 0, 0, 0, 0, 0, 0⟩

theorem Cm.l_len (c : Cm) : c.l.length = 14 := rfl
theorem Cm.cs_len (c : Cm) : c.cs.length = 14 := rfl

/-- A number of a command: which of its cells, how many bytes, its bounds. -/
structure Fd where
  at_ : Nat
  wide : Nat
  low : Int
  high : Int

def Fd.cs (b : Nat) (x : Fd) : List Value := [.pointer (some ⟨b, x.at_, none⟩), .int .i64 x.wide, .int .i64 x.low, .int .i64 x.high]
def Fds (b : Nat) (l : List Fd) : List Value := l.flatMap (Fd.cs b)

def tile4 : List Fd := [⟨2, 1, 0, 11⟩, ⟨3, 1, 0, 15⟩, ⟨4, 1, 1, 16⟩, ⟨7, 2, 0, 1023⟩]
def tileIn (i : Nat) : List Fd := [⟨8 + i, 2, 0, 1023⟩, ⟨10 + i, 1, 0, 15⟩, ⟨12 + i, 1, 0, 16⟩]
def tileN : Nat → List Fd
  | 0 => tile4
  | i + 1 => tileN i ++ tileIn i

/-- The numbers of a kind. -/
def tbl (z : Int) : List Fd :=
  if z = 1 ∨ z = 2 then [⟨4, 1, 1, 16⟩, ⟨5, 2, 1, 128⟩, ⟨6, 3, 0, 65535⟩, ⟨7, 2, 0, 1023⟩]
  else if z = 3 then tileN 2
  else if z = 4 then [⟨2, 1, 0, 11⟩, ⟨4, 1, 1, 16⟩]
  else if z = 5 ∨ z = 6 then [⟨1, 1, 0, 7⟩]
  else []
def okK (z : Int) : Bool := decide (1 ≤ z ∧ z ≤ 7)

theorem fds_get (b : Nat) : ∀ (l : List Fd) (j i : Nat), i < 4 → (Fds b l)[j * 4 + i]? = (l[j]?).bind fun x => (x.cs b)[i]?
  | [], j, i, _ => by simp [Fds]
  | s :: l, 0, i, hi => by
    unfold Fds
    rw [List.flatMap_cons, Nat.zero_mul, Nat.zero_add, List.getElem?_append_left (by simp [Fd.cs]; omega)]
    rfl
  | s :: l, j + 1, i, hi => by
    have ih := fds_get b l j i hi
    unfold Fds at ih ⊢
    rw [List.flatMap_cons, List.getElem?_append_right (by simp [Fd.cs]; omega), show (j + 1) * 4 + i - (s.cs b).length = j * 4 + i from by simp [Fd.cs]; omega, ih]
    rfl

theorem fds_len (b : Nat) (l : List Fd) : (Fds b l).length = l.length * 4 := by
  induction l with
  | nil => rfl
  | cons x l ih => unfold Fds at ih ⊢; rw [List.flatMap_cons, List.length_append, ih]; simp [Fd.cs]; omega

theorem fds_append (b : Nat) (l m : List Fd) : Fds b (l ++ m) = Fds b l ++ Fds b m := by unfold Fds; rw [List.flatMap_append]

theorem fds_one (b : Nat) (l : List Fd) : ∀ u ∈ Fds b l, u.oneCell' = true := by
  intro u hu
  unfold Fds at hu
  obtain ⟨x, _, hx⟩ := List.mem_flatMap.1 hu
  simp only [Fd.cs, List.mem_cons, List.not_mem_nil, or_false] at hx
  rcases hx with rfl | rfl | rfl | rfl <;> rfl

/-- A row of numbers of a command, cell by cell. -/
theorem fds_form {w : World} {b : Nat} {v : Value} {l : List Fd} (h : Row w v l.length 4 (Fds b l)) : ∃ A c, v = .slice A l.length c ∧ l.length ≤ c ∧ c ≤ maxLen ∧
    (∀ j x, l[j]? = some x → ∃ g off, A = some ⟨g, off, none⟩ ∧ w.cell? ⟨g, off + j * 4, none⟩ = some (.pointer (some ⟨b, x.at_, none⟩)) ∧ w.cell? ⟨g, off + j * 4 + 1, none⟩ = some (.int .i64 x.wide) ∧
      w.cell? ⟨g, off + j * 4 + 2, none⟩ = some (.int .i64 x.low) ∧ w.cell? ⟨g, off + j * 4 + 3, none⟩ = some (.int .i64 x.high)) := by
  obtain ⟨A, c, e, h1, h2, h3, h4⟩ := h
  refine ⟨A, c, e, h1, h2, fun j s hj => ?_⟩
  have g := fun i u (hi : i < 4) (hu : (s.cs b)[i]? = some u) => h4 (j * 4 + i) u (by rw [fds_get _ _ _ _ hi, hj]; exact hu)
  obtain ⟨b, off, rfl, k0⟩ := g 0 _ (by omega) rfl
  obtain ⟨_, _, e1, k1⟩ := g 1 _ (by omega) rfl
  obtain ⟨_, _, e2, k2⟩ := g 2 _ (by omega) rfl
  obtain ⟨_, _, e3, k3⟩ := g 3 _ (by omega) rfl
  cases e1; cases e2; cases e3
  exact ⟨b, off, rfl, by simpa using k0, by simpa [Nat.add_assoc] using k1, by simpa [Nat.add_assoc] using k2, by simpa [Nat.add_assoc] using k3⟩

theorem elem_fd : ElemT Try.prog 44 50 4 32 := elemT_of (z := .agg #[.pointer none, .int .i64 0, .int .i64 0, .int .i64 0]) Try.underlying44 (by kernel_rfl) rfl (by omega)

/-- The numbers of a command, one field after the other: is each within its bounds? Then it is taken away. -/
def runF (cs : List Int) (ok : Bool) : List Fd → List Int × Bool
  | [] => (cs, ok)
  | x :: l => runF (cs.set x.at_ 0) (ok && decide (x.low ≤ cs[x.at_]?.getD 0) && decide (cs[x.at_]?.getD 0 ≤ x.high)) l

/-- May a command be? -/
def mayB (c : Cm) : Bool := (runF c.l (okK c.k) (tbl c.k)).2 && decide ((runF c.l (okK c.k) (tbl c.k)).1 = (Cm.of c.k).l)
def mayE (c : Cm) : Int := if mayB c then 0 else 1

theorem tbl_at (z : Int) : ∀ x ∈ tbl z, x.at_ < 14 ∧ 1 ≤ x.at_ ∧ 1 ≤ x.wide ∧ x.wide ≤ 3 := by
  have go : ∀ l : List Fd, (l.all fun x => decide (x.at_ < 14) && decide (1 ≤ x.at_) && decide (1 ≤ x.wide) && decide (x.wide ≤ 3)) = true → ∀ x ∈ l, x.at_ < 14 ∧ 1 ≤ x.at_ ∧ 1 ≤ x.wide ∧ x.wide ≤ 3 := by
    intro l hl x hx
    have := List.all_eq_true.1 hl x hx
    simpa [and_assoc] using this
  refine go _ ?_
  unfold tbl
  split
  · decide
  · split
    · decide
    · split
      · decide
      · split <;> decide

theorem tbl_len (z : Int) : (tbl z).length ≤ 10 := by
  unfold tbl
  split
  · decide
  · split
    · decide
    · split
      · decide
      · split <;> decide

theorem runF_len (l : List Fd) : ∀ (cs : List Int) (ok : Bool), (runF cs ok l).1.length = cs.length := by
  induction l with
  | nil => intro cs ok; rfl
  | cons x l ih => intro cs ok; rw [runF, ih]; simp

/-- The cells of a command that stand in a block. -/
def CBox (w : World) (b : Nat) (cs : List Int) : Prop := w.heap[b]? = some (.cells (cs.map (Value.int .i64)).toArray 26 (0, 0))
theorem CBox.lt {w : World} {b : Nat} {cs : List Int} (h : CBox w b cs) : b < w.heap.size := (Array.getElem?_eq_some_iff.1 h).1
theorem CBox.below {w w' : World} {b : Nat} {cs : List Int} {B : Nat} (h : CBox w b cs) (hb : Below B w w') (hB : b < B) : CBox w' b cs := (hb.block b hB).trans h
theorem CBox.cell {w : World} {b : Nat} {cs : List Int} (h : CBox w b cs) {i : Nat} (hi : i < cs.length) : w.cell? ⟨b, i, none⟩ = some (.int .i64 (cs[i]?.getD 0)) := by
  unfold CBox at h
  simp [World.cell?, h, hi]
theorem CBox.frozen {w : World} {b : Nat} {cs : List Int} (h : CBox w b cs) (o : Nat) : w.frozen? ⟨b, o, none⟩ = false := by
  unfold CBox at h
  simp [World.frozen?, h]
theorem CBox.set {w : World} {b : Nat} {cs : List Int} (h : CBox w b cs) (i : Nat) (z : Int) : CBox (w.setCell ⟨b, i, none⟩ (.int .i64 z)) b (cs.set i z) := by
  unfold CBox at h ⊢
  simp [World.setCell, Array.getElem?_modify, h, List.map_set]
theorem CBox.other {w : World} {b b' : Nat} {cs : List Int} (h : CBox w b cs) (hne : b' ≠ b) (o : Nat) (v : Value) : CBox (w.setCell ⟨b', o, none⟩ v) b cs := by
  unfold CBox at h ⊢
  simp [World.setCell, Array.getElem?_modify, h, hne]
theorem CBox.drew {w : World} {b : Nat} {cs : List Int} (h : CBox w b cs) : CBox w.drew b cs := h
theorem cbox_new (w : World) (c : Cm) : CBox (w.alloc (.cells #[.int .i64 c.k, .int .i64 c.s, .int .i64 c.n, .int .i64 c.f, .int .i64 c.r, .int .i64 c.o, .int .i64 c.d, .int .i64 c.p, .int .i64 c.i0, .int .i64 c.i1, .int .i64 c.b0, .int .i64 c.b1, .int .i64 c.h0, .int .i64 c.h1] 26)) w.heap.size c.l := heap_alloc_new w _
theorem CBox.all {w : World} {b : Nat} {c : Cm} (h : CBox w b c.l) :
    w.cell? ⟨b, 0, none⟩ = some (.int .i64 c.k) ∧ w.cell? ⟨b, 1, none⟩ = some (.int .i64 c.s) ∧ w.cell? ⟨b, 2, none⟩ = some (.int .i64 c.n) ∧ w.cell? ⟨b, 3, none⟩ = some (.int .i64 c.f) ∧ w.cell? ⟨b, 4, none⟩ = some (.int .i64 c.r) ∧
    w.cell? ⟨b, 5, none⟩ = some (.int .i64 c.o) ∧ w.cell? ⟨b, 6, none⟩ = some (.int .i64 c.d) ∧ w.cell? ⟨b, 7, none⟩ = some (.int .i64 c.p) ∧ w.cell? ⟨b, 8, none⟩ = some (.int .i64 c.i0) ∧ w.cell? ⟨b, 9, none⟩ = some (.int .i64 c.i1) ∧
    w.cell? ⟨b, 10, none⟩ = some (.int .i64 c.b0) ∧ w.cell? ⟨b, 11, none⟩ = some (.int .i64 c.b1) ∧ w.cell? ⟨b, 12, none⟩ = some (.int .i64 c.h0) ∧ w.cell? ⟨b, 13, none⟩ = some (.int .i64 c.h1) := by
  unfold CBox Cm.l at h
  refine ⟨?_, ?_, ?_, ?_, ?_, ?_, ?_, ?_, ?_, ?_, ?_, ?_, ?_, ?_⟩ <;> simp [World.cell?, h]

theorem Row.setCell {w : World} {v : Value} {n sz : Nat} {xs : List Value} (h : Row w v n sz xs) {b : Nat} (hb : v.ownBlock ≠ some b) (o : Nat) (u : Value) : Row (w.setCell ⟨b, o, none⟩ u) v n sz xs := by
  obtain ⟨A, c, rfl, h1, h2, h3, h4⟩ := h
  refine ⟨A, c, rfl, h1, h2, h3, h4.same fun b' off e _ => ?_⟩
  subst e
  exact Below.heap_setCell w _ _ _ (fun e => hb (by simp only at e; rw [← e]; rfl))

/-- What fields answers. -/
def FieldsPost (b : Nat) (z : Int) (w : World) (e : Ending) (w' : World) : Prop := ∃ v, e = .returned (.tuple #[v, .bool (okK z)]) ∧ Row w' v (tbl z).length 4 (Fds b (tbl z)) ∧ (∀ k, v.ownBlock = some k → w.heap.size ≤ k) ∧ Below w.heap.size w w'

end Go.Proofs.Ytgchdgnephbafaa
