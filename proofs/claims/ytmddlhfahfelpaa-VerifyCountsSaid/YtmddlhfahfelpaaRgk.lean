/- How a graph that came in is opened. -/
/- The walk of less of the region's statements: an image of at most so many values. -/
/- The walk of the law RegionOf; Engine, Same; an image that came in. -/
import Derived.Test.YtmddlhfahfelpaaRead
import Derived.Test.YtmddlhfahfelpaaRgh
import Derived.Test.YtmddlhfahfelpaaRgi
import Derived.Test.YtmddlhfahfelpaaRgj
import Derived.Test.YtmddlhfahfelpaaNsaQ
set_option linter.unusedSimpArgs false
set_option linter.unusedVariables false
set_option linter.unnecessarySimpa false
namespace Go.Proofs.Ytmddlhfahfelpaa
open Go.RowKit

/-- A shape of numbers of one kind alone. -/
def Ty.allInts (k : IntKind) : Ty → Bool
  | .int k' => decide (k' = k)
  | .st b => b.allInts k
  | .unit => true
  | .pair a b => a.allInts k && b.allInts k
  | _ => false

theorem reads_ints {w : World} {k : IntKind} : ∀ (T : Ty) (cs : List Value) (d : D), T.allInts k = true → T.reads w cs d → ∃ zs : List Int, cs = zs.map (.int k) ∧ zs.length = T.cells ∧ ∀ z ∈ zs, InK k z := by
  intro T
  induction T with
  | int k' =>
    intro cs d h hr
    obtain rfl : k' = k := of_decide_eq_true h
    obtain ⟨z, rfl, hz, _⟩ := hr
    exact ⟨[z], rfl, rfl, by simpa using hz⟩
  | bool => intro cs d h; cases h
  | sl e => intro cs d h; cases h
  | st b ih => intro cs d h hr; exact ih cs d h hr
  | unit =>
    intro cs d _ hr
    obtain ⟨rfl, _⟩ := hr
    exact ⟨[], rfl, rfl, by simp⟩
  | pair a b iha ihb =>
    intro cs d h hr
    simp only [Ty.allInts, Bool.and_eq_true] at h
    obtain ⟨c1, c2, x, y, rfl, _, h1, h2, _⟩ := hr
    obtain ⟨z1, rfl, l1, b1⟩ := iha c1 x h.1 h1
    obtain ⟨z2, rfl, l2, b2⟩ := ihb c2 y h.2 h2
    exact ⟨z1 ++ z2, by rw [List.map_append], by rw [List.length_append, l1, l2]; rfl, fun z hz => by
      rcases List.mem_append.1 hz with h | h
      · exact b1 z h
      · exact b2 z h⟩

theorem rows_of {α : Type} {cs : α → List Value} {p : α → Prop} {sz : Nat} : ∀ (n : Nat) (xs : List Value), xs.length = n * sz → (∀ j, j < n → ∃ s : α, (xs.drop (j * sz)).take sz = cs s ∧ p s) → ∃ l : List α, l.length = n ∧ xs = l.flatMap cs ∧ ∀ c ∈ l, p c
  | 0, xs, hl, _ => ⟨[], rfl, by simpa using List.eq_nil_of_length_eq_zero (by simpa using hl), fun c h => by cases h⟩
  | n + 1, xs, hl, h => by
    obtain ⟨s, hs, hi⟩ := h 0 (by omega)
    obtain ⟨l, h1, h2, h3⟩ := rows_of (sz := sz) (cs := cs) (p := p) n (xs.drop sz) (by rw [List.length_drop, hl, Nat.add_mul]; omega) (fun j hj => by
      obtain ⟨s', hs', hi'⟩ := h (j + 1) (by omega)
      exact ⟨s', by rw [List.drop_drop, show sz + j * sz = (j + 1) * sz by rw [Nat.add_mul]; omega]; exact hs', hi'⟩)
    refine ⟨s :: l, by simp [h1], ?_, fun c hc => ?_⟩
    · rw [List.flatMap_cons, ← h2, ← hs]
      simp
    · rcases List.mem_cons.1 hc with rfl | hc
      · exact hi
      · exact h3 c hc

theorem read_row {w : World} {T : Ty} {cs : List Value} {d : D} {α : Type} {f : α → List Value} {p : α → Prop} (h : (Ty.sl T).reads w cs d) (hT : ∀ cs d, T.reads w cs d → ∃ s : α, cs = f s ∧ p s) : ∃ (v : Value) (l : List α), cs = [v] ∧ Row w v l.length T.cells (l.flatMap f) ∧ ∀ c ∈ l, p c := by
  simp only [Ty.reads] at h
  obtain ⟨v, m, xs, ds, rfl, hr, _, hl, hx⟩ := h
  have hlen := hr
  obtain ⟨_, _, _, _, _, h3, _⟩ := hlen
  obtain ⟨l, h1, h2, h4⟩ := rows_of (cs := f) (p := p) m xs h3 (fun j hj => hT _ _ (hx j ds[j] (by simp [hl, hj])))
  exact ⟨v, l, rfl, by rw [h1, ← h2]; exact hr, h4⟩

theorem read_ints {w : World} {k : IntKind} {cs : List Value} {d : D} (h : (Ty.sl (.int k)).reads w cs d) : ∃ (v : Value) (zs : List Int), cs = [v] ∧ Ints k w v zs ∧ ∀ z ∈ zs, InK k z := by
  obtain ⟨v, l, e, hr, hp⟩ := read_row (f := fun z => [Value.int k z]) (p := InK k) h (fun cs d hc => by
    obtain ⟨z, rfl, hz, _⟩ := hc
    exact ⟨z, rfl, hz⟩)
  refine ⟨v, l, e, ?_, hp⟩
  have : (l.flatMap fun z => [Value.int k z]) = l.map (.int k) := by
    clear hr hp
    induction l with
    | nil => rfl
    | cons a l ih => simp [ih]
  rw [this] at hr
  exact hr

def i64x (n : Nat) (T : Ty) : Ty := match n with
  | 0 => T
  | n + 1 => .pair (.int .i64) (i64x n T)
def valueTy : Ty := .st (.pair (.st (i64x 3 .unit)) (i64x 1 .unit))
def nodeTy : Ty := .st (.pair (.int .i64) (.pair (.sl (.int .i64)) (i64x 7 (.pair (.st (i64x 3 .unit)) (.pair (.sl (.int .i8)) (.pair (.sl (.int .i32)) .unit))))))
def graphTy : Ty := .st (.pair (.sl valueTy) (.pair (.sl nodeTy) (.pair (.sl (.int .i64)) .unit)))

theorem read_vl {w : World} {cs : List Value} {d : D} (h : valueTy.reads w cs d) : ∃ s : Vl, cs = s.cs ∧ True := by
  obtain ⟨zs, rfl, hl, _⟩ := reads_ints (k := .i64) valueTy cs d (by decide) h
  match zs, hl with
  | [a, b, c, z], _ => exact ⟨⟨⟨a, b, c⟩, z⟩, rfl, trivial⟩

theorem read_nd {w : World} {cs : List Value} {d : D} (h : nodeTy.reads w cs d) : ∃ s : Nd, cs = s.cs ∧ nodeIn w s := by
  obtain ⟨_, c1, _, _, rfl, _, ⟨op, rfl, _, _⟩, h, _⟩ := h
  obtain ⟨_, c2, _, _, rfl, _, hin, h, _⟩ := h
  obtain ⟨iv, ins, rfl, hi, _⟩ := read_ints hin
  obtain ⟨_, c3, _, _, rfl, _, ⟨k, rfl, _, _⟩, h, _⟩ := h
  obtain ⟨_, c3, _, _, rfl, _, ⟨st, rfl, _, _⟩, h, _⟩ := h
  obtain ⟨_, c3, _, _, rfl, _, ⟨pad, rfl, _, _⟩, h, _⟩ := h
  obtain ⟨_, c3, _, _, rfl, _, ⟨out, rfl, _, _⟩, h, _⟩ := h
  obtain ⟨_, c3, _, _, rfl, _, ⟨mul, rfl, _, _⟩, h, _⟩ := h
  obtain ⟨_, c3, _, _, rfl, _, ⟨sh, rfl, _, _⟩, h, _⟩ := h
  obtain ⟨_, c3, _, _, rfl, _, ⟨zero, rfl, _, _⟩, h, _⟩ := h
  obtain ⟨t, c4, _, _, rfl, _, ht, h, _⟩ := h
  obtain ⟨_, _, _, _, rfl, _, ⟨th, rfl, _, _⟩, ht, _⟩ := ht
  obtain ⟨_, _, _, _, rfl, _, ⟨tw, rfl, _, _⟩, ht, _⟩ := ht
  obtain ⟨_, _, _, _, rfl, _, ⟨tc, rfl, _, _⟩, ht, _⟩ := ht
  obtain ⟨rfl, _⟩ := ht
  obtain ⟨_, c5, _, _, rfl, _, hw, h, _⟩ := h
  obtain ⟨wv, ws, rfl, hw, hwk⟩ := read_ints hw
  obtain ⟨_, c6, _, _, rfl, _, hb, h, _⟩ := h
  obtain ⟨bv, bs, rfl, hb, hbk⟩ := read_ints hb
  obtain ⟨rfl, _⟩ := h
  exact ⟨⟨op, iv, k, st, pad, out, mul, sh, zero, th, tw, tc, wv, bv, ins, ws, bs⟩, rfl, hi, hw, hb, hbk, hwk⟩

theorem read_graph {w : World} {cs : Array Value} {d : D} (h : graphTy.reads w (Value.agg cs).cells.toList d) : ∃ g : Gr, cs = #[g.iV, g.nV, g.oV] ∧ GrIn w g := by
  simp only [Value.cells] at h
  obtain ⟨c1, c2, _, _, e, _, h1, ⟨c3, c4, _, _, rfl, _, h2, ⟨c5, c6, _, _, rfl, _, h3, ⟨rfl, _⟩, _⟩, _⟩, _⟩ := h
  obtain ⟨iv, ins, rfl, hi, _⟩ := read_row (f := Vl.cs) (p := fun _ => True) h1 (fun _ _ h => read_vl h)
  obtain ⟨nv, nodes, rfl, hn, hne⟩ := read_row (f := Nd.cs) (p := nodeIn w) h2 (fun _ _ h => read_nd h)
  obtain ⟨ov, outs, rfl, ho, _⟩ := read_ints h3
  refine ⟨⟨iv, nv, ov, ins, nodes, outs⟩, by apply Array.ext'; simpa using e, hi, hn, ho, hne⟩

end Go.Proofs.Ytmddlhfahfelpaa

namespace Go.Proofs.Ytmddlhfahfelpaa
open Go.RowKit

/-- The image's box, and the one for the result. -/
def Two (w W : World) (im : Array Value) : Prop := Blk W w.heap.size im 30 ∧ Blk W (w.heap.size + 1) #[.slice none 0 0, .slice none 0 0, .slice none 0 0, .slice none 0 0, .slice none 0 0, .slice none 0 0, .slice none 0 0] 30
theorem Two.ext {w W W' : World} {im : Array Value} (h : Two w W im) (e : Ext W W') : Two w W' im := ⟨h.1.ext e, h.2.ext e⟩
theorem Two.lt1 {w W : World} {im : Array Value} (h : Two w W im) : w.heap.size < W.heap.size := h.1.lt
theorem Two.lt2 {w W : World} {im : Array Value} (h : Two w W im) : w.heap.size + 1 < W.heap.size := h.2.lt
theorem Two.kept {w W W' : World} {im : Array Value} (h : Two w W im) (h1 : W'.heap[w.heap.size]? = W.heap[w.heap.size]?) (h2 : W'.heap[w.heap.size + 1]? = W.heap[w.heap.size + 1]?) : Two w W' im := ⟨h1.trans h.1, h2.trans h.2⟩
theorem Two.set {w W : World} {im : Array Value} (h : Two w W im) (i : Nat) (x : Value) : Two w (W.setCell ⟨w.heap.size + 1 + 1, i, none⟩ x) im := ⟨h.1.grown (setCell_grown _ _ _ _) (fun e => by have := Option.some.inj e; omega), h.2.grown (setCell_grown _ _ _ _) (fun e => by have := Option.some.inj e; omega)⟩
theorem Two.setO {w W : World} {im : Array Value} (h : Two w W im) {b : Nat} (hb : w.heap.size + 1 + 1 ≤ b) (i : Nat) (x : Value) : Two w (W.setCell ⟨b, i, none⟩ x) im := ⟨h.1.grown (setCell_grown _ _ _ _) (fun e => by have := Option.some.inj e; omega), h.2.grown (setCell_grown _ _ _ _) (fun e => by have := Option.some.inj e; omega)⟩

structure LessI (w W : World) (im c1 : Array Value) (v : Value) (ns : List Nd) : Prop where
  box1 : Blk W (w.heap.size + 1 + 1) c1 26
  box2 : Two w W im
  own : W.ownsRow (w.heap.size + 1 + 1 + 1) 51 14 v ns.length (ns.flatMap Nd.cs)
  ext : Ext w W
theorem LessI.later {w W W' : World} {im c1 : Array Value} {v : Value} {ns : List Nd} (h : LessI w W im c1 v ns) (e : Ext W W') : LessI w W' im c1 v ns :=
  ⟨h.box1.ext e, h.box2.ext e, World.ownsRow.kept (row := none) h.own (grown_of_ext e) (by cases v.ownBlock <;> simp), h.ext.trans e⟩
theorem LessI.set {w W : World} {im c1 : Array Value} {v : Value} {ns : List Nd} (h : LessI w W im c1 v ns) {yb : Nat} (hy : w.heap.size + 1 + 1 + 1 ≤ yb) (hv : v.ownBlock ≠ some yb) (i : Nat) (x : Value) : LessI w (W.setCell ⟨yb, i, none⟩ x) im c1 v ns :=
  ⟨h.box1.grown (setCell_grown _ _ _ _) (fun e => by have := Option.some.inj e; omega), h.box2.setO (by omega) i x, ownsRow_setCell_other h.own hv _, Below.setCell h.ext (by show w.heap.size ≤ yb; omega) _⟩

/-- The image that came out. -/
def LessIPost (w0 w : World) (e : Ending) (w' : World) : Prop := ∃ (g' : Gr) (pV' : Value) (pl' : List Int), e = .returned (.agg #[g'.iV, g'.nV, g'.oV, pV', .slice none 0 0, .slice none 0 0, .slice none 0 0]) ∧ GrL w0 (w.heap.size + 1 + 1 + 1) w' g' ∧ Ints .i64 w0 pV' pl' ∧ pl'.length ≤ 30 ∧ Ext w w'

end Go.Proofs.Ytmddlhfahfelpaa

namespace Go.Proofs.Ytmddlhfahfelpaa
open Go.RowKit

set_option maxHeartbeats 1600000 in
theorem engine_calls (c : Isa.Cm) (w : World) : Calls Try.prog 23 #[.agg #[.int .i64 c.k, .int .i64 c.s, .int .i64 c.n, .int .i64 c.f, .int .i64 c.r, .int .i64 c.o, .int .i64 c.d, .int .i64 c.p, .int .i64 c.i0, .int .i64 c.i1, .int .i64 c.b0, .int .i64 c.b1, .int .i64 c.h0, .int .i64 c.h1]] w fun e w' => e = .returned (.int .i64 (engineZ c)) ∧ Ext w w' := by
  have HV : Hid (engineZ c = if c.k = 1 ∨ c.k = 2 then 0 else if c.k = 3 then 1 else if c.k = 4 then 2 else -1) := rfl
  have hE := ext_alloc w (.cells #[.int .i64 c.k, .int .i64 c.s, .int .i64 c.n, .int .i64 c.f, .int .i64 c.r, .int .i64 c.o, .int .i64 c.d, .int .i64 c.p, .int .i64 c.i0, .int .i64 c.i1, .int .i64 c.b0, .int .i64 c.b1, .int .i64 c.h0, .int .i64 c.h1] 47)
  generalize engineZ c = z at *
  rcases (by omega : c.k = 1 ∨ c.k = 2 ∨ c.k = 3 ∨ c.k = 4 ∨ ¬ (c.k = 1 ∨ c.k = 2 ∨ c.k = 3 ∨ c.k = 4)) with h | h | h | h | h
  · have k1 : (c.k == 1) = true := by rw [beq_iff_eq]; omega
    have hz : Hid (z = 0) := by show _ = _; rw [HV.out, if_pos (by omega)]
    clear HV h
    go_enter Try.func23, Try.ntmps23
    go_wp2
    go_ret
    exact ⟨ret_int hz.out.symm, hE⟩
  · have k1 : (c.k == 1) = false := by rw [beq_eq_false_iff_ne]; omega
    have k2 : (c.k == 2) = true := by rw [beq_iff_eq]; omega
    have hz : Hid (z = 0) := by show _ = _; rw [HV.out, if_pos (by omega)]
    clear HV h
    go_enter Try.func23, Try.ntmps23
    go_wp2
    go_ret
    exact ⟨ret_int hz.out.symm, hE⟩
  · have k1 : (c.k == 1) = false := by rw [beq_eq_false_iff_ne]; omega
    have k2 : (c.k == 2) = false := by rw [beq_eq_false_iff_ne]; omega
    have k3 : (c.k == 3) = true := by rw [beq_iff_eq]; omega
    have hz : Hid (z = 1) := by show _ = _; rw [HV.out, if_neg (by omega), if_pos (by omega)]
    clear HV h
    go_enter Try.func23, Try.ntmps23
    go_wp2
    go_ret
    exact ⟨ret_int hz.out.symm, hE⟩
  · have k1 : (c.k == 1) = false := by rw [beq_eq_false_iff_ne]; omega
    have k2 : (c.k == 2) = false := by rw [beq_eq_false_iff_ne]; omega
    have k3 : (c.k == 3) = false := by rw [beq_eq_false_iff_ne]; omega
    have k4 : (c.k == 4) = true := by rw [beq_iff_eq]; omega
    have hz : Hid (z = 2) := by show _ = _; rw [HV.out, if_neg (by omega), if_neg (by omega), if_pos (by omega)]
    clear HV h
    go_enter Try.func23, Try.ntmps23
    go_wp2
    go_ret
    exact ⟨ret_int hz.out.symm, hE⟩
  · have k1 : (c.k == 1) = false := by rw [beq_eq_false_iff_ne]; omega
    have k2 : (c.k == 2) = false := by rw [beq_eq_false_iff_ne]; omega
    have k3 : (c.k == 3) = false := by rw [beq_eq_false_iff_ne]; omega
    have k4 : (c.k == 4) = false := by rw [beq_eq_false_iff_ne]; omega
    have hz : Hid (z = -1) := by show _ = _; rw [HV.out, if_neg (by omega), if_neg (by omega), if_neg (by omega)]
    clear HV h
    go_enter Try.func23, Try.ntmps23
    go_wp2
    go_ret
    exact ⟨ret_int hz.out.symm, hE⟩

set_option maxRecDepth 20000

end Go.Proofs.Ytmddlhfahfelpaa
