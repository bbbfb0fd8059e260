/- Words on commands of package isa: their numbers, and the fields of each kind. -/
/- Which commands may be, kind by kind. -/
/- What a command reads and writes, as plain lists. -/
import Derived.Test.YtmddlhfahfelpaaRegW
import Derived.Test.YtmddlhfahfelpaaDraw3
import Derived.Deep.Cut
import Derived.Test.YtmddlhfahfelpaaRegM
import Derived.Test.YtmddlhfahfelpaaVok
set_option linter.unusedSimpArgs false
set_option linter.unusedVariables false
set_option linter.unnecessarySimpa false
namespace Go.Proofs.Ytmddlhfahfelpaa.Isa
set_option maxRecDepth 10000
open Go.RowKit

/-- A command, number by number. -/
structure Cm where
  k : Int
  s : Int
  n : Int
  f : Int
  r : Int
  o : Int
  d : Int
  p : Int
  i0 : Int
  i1 : Int
  b0 : Int
  b1 : Int
  h0 : Int
  h1 : Int
deriving DecidableEq, Inhabited

def Cm.l (c : Cm) : List Int := [c.k, c.s, c.n, c.f, c.r, c.o, c.d, c.p, c.i0, c.i1, c.b0, c.b1, c.h0, c.h1]
def Cm.cs (c : Cm) : List Value := c.l.map (.int .i64)
def Cm.v (c : Cm) : Value := .agg #[.int .i64 c.k, .int .i64 c.s, .int .i64 c.n, .int .i64 c.f, .int .i64 c.r, .int .i64 c.o, .int .i64 c.d, .int .i64 c.p, .int .i64 c.i0, .int .i64 c.i1, .int .i64 c.b0, .int .i64 c.b1, .int .i64 c.h0, .int .i64 c.h1]
def Cm.of (k : Int) : Cm := ⟨k, 0, 0, 0, 0, 0, 0, 0, 0, 0, 0, 0, 0, 0⟩

theorem Cm.cs_len (c : Cm) : c.cs.length = 14 := rfl

/-- A number of a command: which of its cells, how many bytes, its bounds. -/
structure Fd where
  at_ : Nat
  wide : Nat
  low : Int
  high : Int

def Fd.cs (b : Nat) (x : Fd) : List Value := [.pointer (some ⟨b, x.at_, none⟩), .int .i64 x.wide, .int .i64 x.low, .int .i64 x.high]
def Fds (b : Nat) (l : List Fd) : List Value := l.flatMap (Fd.cs b)

def tile4 : List Fd := [⟨2, 1, 0, 11⟩, ⟨3, 1, 0, 15⟩, ⟨4, 1, 1, 16⟩, ⟨7, 2, 0, 1023⟩]
def tileIn (i : Nat) : List Fd := [⟨8 + i, 2, 0, 1023⟩, ⟨10 + i, 1, 0, 15⟩, ⟨12 + i, 1, 0, 16⟩]
def tileN : Nat → List Fd
  | 0 => tile4
  | i + 1 => tileN i ++ tileIn i

/-- The numbers of a kind. -/
def tbl (z : Int) : List Fd :=
  if z = 1 ∨ z = 2 then [⟨4, 1, 1, 16⟩, ⟨5, 2, 1, 128⟩, ⟨6, 3, 0, 65535⟩, ⟨7, 2, 0, 1023⟩]
  else if z = 3 then tileN 2
  else if z = 4 then [⟨2, 1, 0, 11⟩, ⟨4, 1, 1, 16⟩]
  else if z = 5 ∨ z = 6 then [⟨1, 1, 0, 7⟩]
  else []
def okK (z : Int) : Bool := decide (1 ≤ z ∧ z ≤ 7)

theorem fds_get (b : Nat) : ∀ (l : List Fd) (j i : Nat), i < 4 → (Fds b l)[j * 4 + i]? = (l[j]?).bind fun x => (x.cs b)[i]?
  | [], j, i, _ => by simp [Fds]
  | s :: l, 0, i, hi => by
    unfold Fds
    rw [List.flatMap_cons, Nat.zero_mul, Nat.zero_add, List.getElem?_append_left (by simp [Fd.cs]; omega)]
    rfl
  | s :: l, j + 1, i, hi => by
    have ih := fds_get b l j i hi
    unfold Fds at ih ⊢
    rw [List.flatMap_cons, List.getElem?_append_right (by simp [Fd.cs]; omega), show (j + 1) * 4 + i - (s.cs b).length = j * 4 + i from by simp [Fd.cs]; omega, ih]
    rfl

theorem fds_append (b : Nat) (l m : List Fd) : Fds b (l ++ m) = Fds b l ++ Fds b m := by unfold Fds; rw [List.flatMap_append]

theorem fds_one (b : Nat) (l : List Fd) : ∀ u ∈ Fds b l, u.oneCell' = true := by
  intro u hu
  unfold Fds at hu
  obtain ⟨x, _, hx⟩ := List.mem_flatMap.1 hu
  simp only [Fd.cs, List.mem_cons, List.not_mem_nil, or_false] at hx
  rcases hx with rfl | rfl | rfl | rfl <;> rfl

/-- A row of numbers of a command, cell by cell. -/
theorem fds_form {w : World} {b : Nat} {v : Value} {l : List Fd} (h : Row w v l.length 4 (Fds b l)) : ∃ A c, v = .slice A l.length c ∧ l.length ≤ c ∧ c ≤ maxLen ∧
    (∀ j x, l[j]? = some x → ∃ g off, A = some ⟨g, off, none⟩ ∧ w.cell? ⟨g, off + j * 4, none⟩ = some (.pointer (some ⟨b, x.at_, none⟩)) ∧ w.cell? ⟨g, off + j * 4 + 1, none⟩ = some (.int .i64 x.wide) ∧
      w.cell? ⟨g, off + j * 4 + 2, none⟩ = some (.int .i64 x.low) ∧ w.cell? ⟨g, off + j * 4 + 3, none⟩ = some (.int .i64 x.high)) := by
  obtain ⟨A, c, e, h1, h2, h3, h4⟩ := h
  refine ⟨A, c, e, h1, h2, fun j s hj => ?_⟩
  have g := fun i u (hi : i < 4) (hu : (s.cs b)[i]? = some u) => h4 (j * 4 + i) u (by rw [fds_get _ _ _ _ hi, hj]; exact hu)
  obtain ⟨b, off, rfl, k0⟩ := g 0 _ (by omega) rfl
  obtain ⟨_, _, e1, k1⟩ := g 1 _ (by omega) rfl
  obtain ⟨_, _, e2, k2⟩ := g 2 _ (by omega) rfl
  obtain ⟨_, _, e3, k3⟩ := g 3 _ (by omega) rfl
  cases e1; cases e2; cases e3
  exact ⟨b, off, rfl, by simpa using k0, by simpa [Nat.add_assoc] using k1, by simpa [Nat.add_assoc] using k2, by simpa [Nat.add_assoc] using k3⟩

theorem elem_fd : ElemT Try.prog 95 101 4 32 := elemT_of (z := .agg #[.pointer none, .int .i64 0, .int .i64 0, .int .i64 0]) Try.underlying95 (by kernel_rfl) rfl (by omega)

/-- The numbers of a command, one field after the other: is each within its bounds? Then it is taken away. -/
def runF (cs : List Int) (ok : Bool) : List Fd → List Int × Bool
  | [] => (cs, ok)
  | x :: l => runF (cs.set x.at_ 0) (ok && decide (x.low ≤ cs[x.at_]?.getD 0) && decide (cs[x.at_]?.getD 0 ≤ x.high)) l

/-- May a command be? -/
def mayB (c : Cm) : Bool := (runF c.l (okK c.k) (tbl c.k)).2 && decide ((runF c.l (okK c.k) (tbl c.k)).1 = (Cm.of c.k).l)
def mayE (c : Cm) : Int := if mayB c then 0 else 1

theorem tbl_at (z : Int) : ∀ x ∈ tbl z, x.at_ < 14 ∧ 1 ≤ x.at_ ∧ 1 ≤ x.wide ∧ x.wide ≤ 3 := by
  have go : ∀ l : List Fd, (l.all fun x => decide (x.at_ < 14) && decide (1 ≤ x.at_) && decide (1 ≤ x.wide) && decide (x.wide ≤ 3)) = true → ∀ x ∈ l, x.at_ < 14 ∧ 1 ≤ x.at_ ∧ 1 ≤ x.wide ∧ x.wide ≤ 3 := by
    intro l hl x hx
    have := List.all_eq_true.1 hl x hx
    simpa [and_assoc] using this
  refine go _ ?_
  unfold tbl
  split
  · decide
  · split
    · decide
    · split
      · decide
      · split <;> decide

theorem tbl_len (z : Int) : (tbl z).length ≤ 10 := by
  unfold tbl
  split
  · decide
  · split
    · decide
    · split
      · decide
      · split <;> decide

/-- The cells of a command that stand in a block. -/
def CBox (w : World) (b : Nat) (cs : List Int) : Prop := w.heap[b]? = some (.cells (cs.map (Value.int .i64)).toArray 47 (0, 0))
theorem CBox.lt {w : World} {b : Nat} {cs : List Int} (h : CBox w b cs) : b < w.heap.size := (Array.getElem?_eq_some_iff.1 h).1
theorem CBox.below {w w' : World} {b : Nat} {cs : List Int} {B : Nat} (h : CBox w b cs) (hb : Below B w w') (hB : b < B) : CBox w' b cs := (hb.block b hB).trans h
theorem CBox.cell {w : World} {b : Nat} {cs : List Int} (h : CBox w b cs) {i : Nat} (hi : i < cs.length) : w.cell? ⟨b, i, none⟩ = some (.int .i64 (cs[i]?.getD 0)) := by
  unfold CBox at h
  simp [World.cell?, h, hi]
theorem CBox.frozen {w : World} {b : Nat} {cs : List Int} (h : CBox w b cs) (o : Nat) : w.frozen? ⟨b, o, none⟩ = false := by
  unfold CBox at h
  simp [World.frozen?, h]
theorem CBox.set {w : World} {b : Nat} {cs : List Int} (h : CBox w b cs) (i : Nat) (z : Int) : CBox (w.setCell ⟨b, i, none⟩ (.int .i64 z)) b (cs.set i z) := by
  unfold CBox at h ⊢
  simp [World.setCell, Array.getElem?_modify, h, List.map_set]
theorem CBox.other {w : World} {b b' : Nat} {cs : List Int} (h : CBox w b cs) (hne : b' ≠ b) (o : Nat) (v : Value) : CBox (w.setCell ⟨b', o, none⟩ v) b cs := by
  unfold CBox at h ⊢
  simp [World.setCell, Array.getElem?_modify, h, hne]
theorem CBox.drew {w : World} {b : Nat} {cs : List Int} (h : CBox w b cs) : CBox w.drew b cs := h
theorem cbox_new (w : World) (c : Cm) : CBox (w.alloc (.cells #[.int .i64 c.k, .int .i64 c.s, .int .i64 c.n, .int .i64 c.f, .int .i64 c.r, .int .i64 c.o, .int .i64 c.d, .int .i64 c.p, .int .i64 c.i0, .int .i64 c.i1, .int .i64 c.b0, .int .i64 c.b1, .int .i64 c.h0, .int .i64 c.h1] 47)) w.heap.size c.l := heap_alloc_new w _
theorem CBox.all {w : World} {b : Nat} {c : Cm} (h : CBox w b c.l) :
    w.cell? ⟨b, 0, none⟩ = some (.int .i64 c.k) ∧ w.cell? ⟨b, 1, none⟩ = some (.int .i64 c.s) ∧ w.cell? ⟨b, 2, none⟩ = some (.int .i64 c.n) ∧ w.cell? ⟨b, 3, none⟩ = some (.int .i64 c.f) ∧ w.cell? ⟨b, 4, none⟩ = some (.int .i64 c.r) ∧
    w.cell? ⟨b, 5, none⟩ = some (.int .i64 c.o) ∧ w.cell? ⟨b, 6, none⟩ = some (.int .i64 c.d) ∧ w.cell? ⟨b, 7, none⟩ = some (.int .i64 c.p) ∧ w.cell? ⟨b, 8, none⟩ = some (.int .i64 c.i0) ∧ w.cell? ⟨b, 9, none⟩ = some (.int .i64 c.i1) ∧
    w.cell? ⟨b, 10, none⟩ = some (.int .i64 c.b0) ∧ w.cell? ⟨b, 11, none⟩ = some (.int .i64 c.b1) ∧ w.cell? ⟨b, 12, none⟩ = some (.int .i64 c.h0) ∧ w.cell? ⟨b, 13, none⟩ = some (.int .i64 c.h1) := by
  unfold CBox Cm.l at h
  refine ⟨?_, ?_, ?_, ?_, ?_, ?_, ?_, ?_, ?_, ?_, ?_, ?_, ?_, ?_⟩ <;> simp [World.cell?, h]

theorem _root_.Go.Proofs.Ytmddlhfahfelpaa.Row.setCell {w : World} {v : Value} {n sz : Nat} {xs : List Value} (h : Row w v n sz xs) {b : Nat} (hb : v.ownBlock ≠ some b) (o : Nat) (u : Value) : Row (w.setCell ⟨b, o, none⟩ u) v n sz xs := by
  obtain ⟨A, c, rfl, h1, h2, h3, h4⟩ := h
  refine ⟨A, c, rfl, h1, h2, h3, h4.same fun b' off e _ => ?_⟩
  subst e
  exact Below.heap_setCell w _ _ _ (fun e => hb (by simp only at e; rw [← e]; rfl))

/-- What fields answers. -/
def FieldsPost (b : Nat) (z : Int) (w : World) (e : Ending) (w' : World) : Prop := ∃ v, e = .returned (.tuple #[v, .bool (okK z)]) ∧ Row w' v (tbl z).length 4 (Fds b (tbl z)) ∧ (∀ k, v.ownBlock = some k → w.heap.size ≤ k) ∧ Below w.heap.size w w'

end Go.Proofs.Ytmddlhfahfelpaa.Isa

namespace Go.Proofs.Ytmddlhfahfelpaa.Isa
set_option maxRecDepth 10000

theorem mayB_load {c : Cm} (h : c.k = 1 ∨ c.k = 2) : mayB c = true ↔ ((1 ≤ c.r ∧ c.r ≤ 16) ∧ (1 ≤ c.o ∧ c.o ≤ 128) ∧ (0 ≤ c.d ∧ c.d ≤ 65535) ∧ (0 ≤ c.p ∧ c.p ≤ 1023)) ∧ c.s = 0 ∧ c.n = 0 ∧ c.f = 0 ∧ c.i0 = 0 ∧ c.i1 = 0 ∧ c.b0 = 0 ∧ c.b1 = 0 ∧ c.h0 = 0 ∧ c.h1 = 0 := by
  have e : tbl c.k = [⟨4, 1, 1, 16⟩, ⟨5, 2, 1, 128⟩, ⟨6, 3, 0, 65535⟩, ⟨7, 2, 0, 1023⟩] := if_pos h
  have o : okK c.k = true := by unfold okK; rw [decide_eq_true_iff]; omega
  unfold mayB
  rw [e, o]
  simp [runF, Cm.l, Cm.of, and_assoc]

theorem mayB_tile {c : Cm} (h : c.k = 3) : mayB c = true ↔ ((0 ≤ c.n ∧ c.n ≤ 11) ∧ (0 ≤ c.f ∧ c.f ≤ 15) ∧ (1 ≤ c.r ∧ c.r ≤ 16) ∧ (0 ≤ c.p ∧ c.p ≤ 1023) ∧ (0 ≤ c.i0 ∧ c.i0 ≤ 1023) ∧ (0 ≤ c.b0 ∧ c.b0 ≤ 15) ∧ (0 ≤ c.h0 ∧ c.h0 ≤ 16) ∧ (0 ≤ c.i1 ∧ c.i1 ≤ 1023) ∧ (0 ≤ c.b1 ∧ c.b1 ≤ 15) ∧ (0 ≤ c.h1 ∧ c.h1 ≤ 16)) ∧ c.s = 0 ∧ c.o = 0 ∧ c.d = 0 := by
  have e : tbl c.k = [⟨2, 1, 0, 11⟩, ⟨3, 1, 0, 15⟩, ⟨4, 1, 1, 16⟩, ⟨7, 2, 0, 1023⟩, ⟨8, 2, 0, 1023⟩, ⟨10, 1, 0, 15⟩, ⟨12, 1, 0, 16⟩, ⟨9, 2, 0, 1023⟩, ⟨11, 1, 0, 15⟩, ⟨13, 1, 0, 16⟩] := by
    unfold tbl
    rw [if_neg (by omega), if_pos h]
    rfl
  have o : okK c.k = true := by unfold okK; rw [decide_eq_true_iff]; omega
  unfold mayB
  rw [e, o]
  simp [runF, Cm.l, Cm.of, and_assoc]

theorem mayB_kernel {c : Cm} (h : c.k = 4) : mayB c = true ↔ ((0 ≤ c.n ∧ c.n ≤ 11) ∧ (1 ≤ c.r ∧ c.r ≤ 16)) ∧ c.s = 0 ∧ c.f = 0 ∧ c.o = 0 ∧ c.d = 0 ∧ c.p = 0 ∧ c.i0 = 0 ∧ c.i1 = 0 ∧ c.b0 = 0 ∧ c.b1 = 0 ∧ c.h0 = 0 ∧ c.h1 = 0 := by
  have e : tbl c.k = [⟨2, 1, 0, 11⟩, ⟨4, 1, 1, 16⟩] := by
    unfold tbl
    rw [if_neg (by omega), if_neg (by omega), if_pos h]
  have o : okK c.k = true := by unfold okK; rw [decide_eq_true_iff]; omega
  unfold mayB
  rw [e, o]
  simp [runF, Cm.l, Cm.of, and_assoc]

theorem mayB_sem {c : Cm} (h : c.k = 5 ∨ c.k = 6) : mayB c = true ↔ (0 ≤ c.s ∧ c.s ≤ 7) ∧ c.n = 0 ∧ c.f = 0 ∧ c.r = 0 ∧ c.o = 0 ∧ c.d = 0 ∧ c.p = 0 ∧ c.i0 = 0 ∧ c.i1 = 0 ∧ c.b0 = 0 ∧ c.b1 = 0 ∧ c.h0 = 0 ∧ c.h1 = 0 := by
  have e : tbl c.k = [⟨1, 1, 0, 7⟩] := by
    unfold tbl
    rw [if_neg (by omega), if_neg (by omega), if_neg (by omega), if_pos h]
  have o : okK c.k = true := by unfold okK; rw [decide_eq_true_iff]; omega
  unfold mayB
  rw [e, o]
  simp [runF, Cm.l, Cm.of, and_assoc]

theorem mayB_halt {c : Cm} (h : c.k = 7) : mayB c = true ↔ c.s = 0 ∧ c.n = 0 ∧ c.f = 0 ∧ c.r = 0 ∧ c.o = 0 ∧ c.d = 0 ∧ c.p = 0 ∧ c.i0 = 0 ∧ c.i1 = 0 ∧ c.b0 = 0 ∧ c.b1 = 0 ∧ c.h0 = 0 ∧ c.h1 = 0 := by
  have e : tbl c.k = [] := by
    unfold tbl
    rw [if_neg (by omega), if_neg (by omega), if_neg (by omega), if_neg (by omega)]
  have o : okK c.k = true := by unfold okK; rw [decide_eq_true_iff]; omega
  unfold mayB
  rw [e, o]
  simp [runF, Cm.l, Cm.of]

theorem mayB_none {c : Cm} (h : c.k < 1 ∨ 7 < c.k) : mayB c = false := by
  have e : tbl c.k = [] := by
    unfold tbl
    rw [if_neg (by omega), if_neg (by omega), if_neg (by omega), if_neg (by omega)]
  have o : okK c.k = false := by unfold okK; rw [decide_eq_false_iff_not]; omega
  unfold mayB
  rw [e, o]
  rfl

theorem mayB_kind {c : Cm} (h : mayB c = true) : 1 ≤ c.k ∧ c.k ≤ 7 := by
  rcases Int.lt_or_le c.k 1 with h1 | h1
  · rw [mayB_none (Or.inl h1)] at h; cases h
  · rcases Int.lt_or_le 7 c.k with h2 | h2
    · rw [mayB_none (Or.inr h2)] at h; cases h
    · exact ⟨h1, h2⟩

end Go.Proofs.Ytmddlhfahfelpaa.Isa

namespace Go.Proofs.Ytmddlhfahfelpaa
open Go.RowKit

/-! Spans of a command. -/
def spz (mem frm n : Int) (wr : Bool) : Sp := ⟨mem, frm, IntKind.i64.wrap (frm + n), wr⟩

def inOf (c : Isa.Cm) (i : Nat) : Int := if i = 0 then c.i0 else c.i1
def haveOf (c : Isa.Cm) (i : Nat) : Int := if i = 0 then c.h0 else c.h1

/-- The span of a node's i-th value that goes in. -/
def goIn (vs : List Vl) (pl : List Int) (c : Isa.Cm) (ins : List Int) (i : Nat) : Sp :=
  if c.k = 3 then spz 1 (inOf c i) (haveOf c i * rowZ (getV vs (ins[i]?.getD 0)).s) false
  else spz 0 (pl[(ins[i]?.getD 0).toNat]?.getD 0) (sizeZ (getV vs (ins[i]?.getD 0)).s) false

/-- The span of what a node makes. -/
def comeOut (vs : List Vl) (pl : List Int) (c : Isa.Cm) (tt : Nat) : Sp :=
  if c.k = 3 then spz 1 c.p (c.r * rowZ (vs[tt]?.getD default).s) true
  else spz 0 (pl[tt]?.getD 0) (sizeZ (vs[tt]?.getD default).s) true

def nodeSp (vs : List Vl) (pl : List Int) (c : Isa.Cm) (ins : List Int) (tt : Nat) : List Sp :=
  (List.range ins.length).map (goIn vs pl c ins) ++ [comeOut vs pl c tt]

def moveSp (c : Isa.Cm) : List Sp :=
  if c.k = 1 then [⟨0, c.d, c.d + c.r * c.o, false⟩, ⟨1, c.p, c.p + c.r * c.o, true⟩]
  else if c.k = 2 then [⟨1, c.p, c.p + c.r * c.o, false⟩, ⟨0, c.d, c.d + c.r * c.o, true⟩]
  else []

/-- May the rows of the node be? -/
def rowsOk (c : Isa.Cm) (made : Sz) : Bool := if c.k = 3 then decide (c.f + c.r ≤ made.h) else decide (c.r = made.h)

/-- The spans, or the error. -/
def ofR (g : Gr) (pl : List Int) (c : Isa.Cm) : List Sp × Int :=
  if (valuesR g).2 ≠ 0 then ([], (valuesR g).2) else
  if Isa.mayB c = false ∨ pl.length ≠ (valuesR g).1.length then ([], 1) else
  if (c.k = 3 ∨ c.k = 4) ∧ (g.nodes.length ≤ c.n ∨ rowsOk c ((valuesR g).1[g.ins.length + c.n.toNat]?.getD default).s = false) then ([], 27) else
  lookSp (if c.k = 3 ∨ c.k = 4 then nodeSp (valuesR g).1 pl c ((g.nodes[c.n.toNat]?.map Nd.ins).getD []) (g.ins.length + c.n.toNat) else moveSp c)
where lookSp (l : List Sp) : List Sp × Int := match l.find? (fun s => decide (mayE s ≠ 0)) with
  | some s => ([], mayE s)
  | none => (l, 0)

/-- Who does it. -/
def engineZ (c : Isa.Cm) : Int := if c.k = 1 ∨ c.k = 2 then 0 else if c.k = 3 then 1 else if c.k = 4 then 2 else -1

end Go.Proofs.Ytmddlhfahfelpaa
