/- Rows of commands, and what they are laid down as. -/
import Derived.Test.YtgchdgnephbafaaIsaM
import Derived.Test.YtgchdgnephbafaaIsaN
namespace Go.Proofs.Ytgchdgnephbafaa
open Go.RowKit

/-- A slice of commands. -/
def Cmds (w : World) (v : Value) (l : List Cm) : Prop := Row w v l.length 14 (l.flatMap Cm.cs)

theorem ccs_get : ∀ (l : List Cm) (j i : Nat), i < 14 → (l.flatMap Cm.cs)[j * 14 + i]? = (l[j]?).bind fun s => s.cs[i]?
  | [], j, i, _ => by simp
  | s :: l, 0, i, hi => by
    rw [List.flatMap_cons, Nat.zero_mul, Nat.zero_add, List.getElem?_append_left (by rw [Cm.cs_len]; exact hi)]
    rfl
  | s :: l, j + 1, i, hi => by
    rw [List.flatMap_cons, List.getElem?_append_right (by rw [Cm.cs_len]; omega), show (j + 1) * 14 + i - s.cs.length = j * 14 + i from by rw [Cm.cs_len]; omega, ccs_get l j i hi]
    rfl

theorem ccs_len (l : List Cm) : (l.flatMap Cm.cs).length = l.length * 14 := by
  induction l with
  | nil => rfl
  | cons x l ih => rw [List.flatMap_cons, List.length_append, ih, Cm.cs_len, List.length_cons]; omega

theorem ccs_one (l : List Cm) : ∀ u ∈ l.flatMap Cm.cs, u.oneCell' = true := by
  intro u hu
  obtain ⟨x, _, hx⟩ := List.mem_flatMap.1 hu
  exact one_ints .i64 _ u hx

theorem Cmds.below {w w' : World} {v : Value} {l : List Cm} (h : Cmds w v l) {B : Nat} (hb : Below B w w') (hB : w.heap.size ≤ B) : Cmds w' v l := Row.below h (hb.mono hB)

theorem Cmds.form {w : World} {v : Value} {l : List Cm} (h : Cmds w v l) : ∃ A c, v = .slice A l.length c ∧ l.length ≤ c ∧ c ≤ maxLen ∧
    (∀ j s, l[j]? = some s → ∃ b off, A = some ⟨b, off, none⟩ ∧ b < w.heap.size ∧ w.cell? ⟨b, off + j * 14, none⟩ = some (.int .i64 s.k) ∧ w.cell? ⟨b, off + j * 14 + 1, none⟩ = some (.int .i64 s.s) ∧ w.cell? ⟨b, off + j * 14 + 2, none⟩ = some (.int .i64 s.n) ∧
      w.cell? ⟨b, off + j * 14 + 3, none⟩ = some (.int .i64 s.f) ∧ w.cell? ⟨b, off + j * 14 + 4, none⟩ = some (.int .i64 s.r) ∧ w.cell? ⟨b, off + j * 14 + 5, none⟩ = some (.int .i64 s.o) ∧ w.cell? ⟨b, off + j * 14 + 6, none⟩ = some (.int .i64 s.d) ∧
      w.cell? ⟨b, off + j * 14 + 7, none⟩ = some (.int .i64 s.p) ∧ w.cell? ⟨b, off + j * 14 + 8, none⟩ = some (.int .i64 s.i0) ∧ w.cell? ⟨b, off + j * 14 + 9, none⟩ = some (.int .i64 s.i1) ∧ w.cell? ⟨b, off + j * 14 + 10, none⟩ = some (.int .i64 s.b0) ∧
      w.cell? ⟨b, off + j * 14 + 11, none⟩ = some (.int .i64 s.b1) ∧ w.cell? ⟨b, off + j * 14 + 12, none⟩ = some (.int .i64 s.h0) ∧ w.cell? ⟨b, off + j * 14 + 13, none⟩ = some (.int .i64 s.h1)) := by
  obtain ⟨A, c, e, h1, h2, h3, h4⟩ := h
  refine ⟨A, c, e, h1, h2, fun j s hj => ?_⟩
  have g := fun i u (hi : i < 14) (hu : s.cs[i]? = some u) => h4 (j * 14 + i) u (by rw [ccs_get _ _ _ hi, hj]; exact hu)
  obtain ⟨b, off, rfl, k0⟩ := g 0 _ (by omega) rfl
  have g' : ∀ i u, i < 14 → s.cs[i]? = some u → w.cell? ⟨b, off + j * 14 + i, none⟩ = some u := fun i u hi hu => by
    obtain ⟨_, _, e1, k1⟩ := g i u hi hu
    cases e1
    rw [← Nat.add_assoc] at k1
    exact k1
  exact ⟨b, off, rfl, World.block_lt_of_cell? w _ k0, g' 0 _ (by omega) rfl, g' 1 _ (by omega) rfl, g' 2 _ (by omega) rfl, g' 3 _ (by omega) rfl, g' 4 _ (by omega) rfl, g' 5 _ (by omega) rfl, g' 6 _ (by omega) rfl, g' 7 _ (by omega) rfl, g' 8 _ (by omega) rfl, g' 9 _ (by omega) rfl, g' 10 _ (by omega) rfl, g' 11 _ (by omega) rfl, g' 12 _ (by omega) rfl, g' 13 _ (by omega) rfl⟩

theorem Cmds.first {w : World} {A : Option Addr} {n c : Nat} {l : List Cm} (h : Cmds w (.slice A n c) l) {m : Nat} (hm : m ≤ l.length) : Cmds w (.slice A m c) (l.take m) := by
  obtain ⟨A', c', e, h1, h2, h3, h4⟩ := h
  cases e
  have hl : (l.take m).length = m := by rw [List.length_take]; omega
  refine ⟨A, c, by rw [hl], by omega, h2, by rw [ccs_len], ?_⟩
  have e2 : (l.take m).flatMap Cm.cs = (l.flatMap Cm.cs).take (m * 14) := by
    have : ∀ (l : List Cm) (m : Nat), (l.take m).flatMap Cm.cs = (l.flatMap Cm.cs).take (m * 14) := by
      intro l
      induction l with
      | nil => intro m; simp
      | cons x l ih =>
        intro m
        cases m with
        | zero => simp
        | succ m =>
          rw [List.take_succ_cons, List.flatMap_cons, List.flatMap_cons, ih, List.take_append, Cm.cs_len, List.take_of_length_le (l := x.cs) (by rw [Cm.cs_len]; omega), show (m + 1) * 14 - 14 = m * 14 from by omega]
    exact this l m
  rw [e2]
  exact h4.take _

/-- What a command is laid down as. -/
def enc (c : Cm) : List Int := be c.k 1 ++ (tbl c.k).flatMap fun x => be (c.l[x.at_]?.getD 0) x.wide
def encs (l : List Cm) : List Int := be l.length 2 ++ l.flatMap enc
def putErr (l : List Cm) : Int := if 4096 < l.length then 3 else if l.all mayB then 0 else 1
def putB (l : List Cm) : List Int := if 4096 < l.length then [] else if l.all mayB then encs l else []

theorem enc_len (c : Cm) : (enc c).length ≤ 14 := by
  unfold enc
  rw [List.length_append, be_len]
  have : ∀ T : List Fd, (T.flatMap fun x => be (c.l[x.at_]?.getD 0) x.wide).length = (T.map (·.wide)).sum := by
    intro T
    induction T with
    | nil => rfl
    | cons x T ih => rw [List.flatMap_cons, List.length_append, be_len, ih]; rfl
  rw [this]
  unfold tbl
  split
  · decide
  · split
    · decide
    · split
      · decide
      · split <;> decide

theorem sep_new {w : World} {base : Nat} {e : TypeId} {sz : Nat} {v : Value} {n : Nat} {xs : List Value} (h : w.ownsRow base e sz v n xs) (m c : Nat) : Sep v (.slice (some ⟨w.heap.size, 0, none⟩) m c) := fun k hk e => by
  have := (h.lt k hk).2
  simp only [Value.ownBlock, Option.some.injEq] at e
  omega

/-- What Put answers. -/
def PutPost (l : List Cm) (w : World) (e : Ending) (w' : World) : Prop :=
  ∃ v', e = .returned (.tuple #[v', .int .i64 (putErr l)]) ∧ w'.ownsRow w.heap.size 5 1 v' (putB l).length ((putB l).map (.int .u8)) ∧ Below w.heap.size w w'

end Go.Proofs.Ytgchdgnephbafaa
