/- The walk of the law MemKeeps. -/
import Derived.Test.YticfgkcdghbklaaMemB
import Derived.BigRegion
namespace Go.Proofs.Yticfgkcdghbklaa
open Go.RowKit

/-- A write and a read of a memory. -/
structure OpM where
  at_ : Int
  frm : Int
  n : Int
  lv : Value
  zs : List Int

def OpM.cs (o : OpM) : List Value := [.int .i64 o.at_, .int .i64 o.frm, .int .i64 o.n, o.lv]
def Ops (w : World) (v : Value) (l : List OpM) : Prop := Row w v l.length 4 (l.flatMap OpM.cs) ∧ ∀ o ∈ l, Ints .i8 w o.lv o.zs ∧ InK .i64 o.at_ ∧ InK .i64 o.frm ∧ InK .i64 o.n

theorem ocs_get : ∀ (l : List OpM) (j i : Nat), i < 4 → (l.flatMap OpM.cs)[j * 4 + i]? = (l[j]?).bind fun s => s.cs[i]?
  | [], j, i, _ => by simp
  | s :: l, 0, i, hi => by
    rw [List.flatMap_cons, Nat.zero_mul, Nat.zero_add, List.getElem?_append_left (by simp [OpM.cs]; omega)]
    rfl
  | s :: l, j + 1, i, hi => by
    rw [List.flatMap_cons, List.getElem?_append_right (by simp [OpM.cs]; omega), show (j + 1) * 4 + i - s.cs.length = j * 4 + i from by simp [OpM.cs]; omega, ocs_get l j i hi]
    rfl

theorem Ops.form {w : World} {v : Value} {l : List OpM} (h : Ops w v l) : ∃ A c, v = .slice A l.length c ∧ l.length ≤ c ∧ c ≤ maxLen ∧
    (∀ j s, l[j]? = some s → ∃ b off, A = some ⟨b, off, none⟩ ∧ w.cell? ⟨b, off + j * 4, none⟩ = some (.int .i64 s.at_) ∧ w.cell? ⟨b, off + j * 4 + 1, none⟩ = some (.int .i64 s.frm) ∧
      w.cell? ⟨b, off + j * 4 + 2, none⟩ = some (.int .i64 s.n) ∧ w.cell? ⟨b, off + j * 4 + 3, none⟩ = some s.lv) := by
  obtain ⟨⟨A, c, e, h1, h2, h3, h4⟩, _⟩ := h
  refine ⟨A, c, e, h1, h2, fun j s hj => ?_⟩
  have g := fun i u (hi : i < 4) (hu : s.cs[i]? = some u) => h4 (j * 4 + i) u (by rw [ocs_get _ _ _ hi, hj]; exact hu)
  obtain ⟨b, off, rfl, k0⟩ := g 0 _ (by omega) rfl
  obtain ⟨_, _, e1, k1⟩ := g 1 _ (by omega) rfl
  obtain ⟨_, _, e2, k2⟩ := g 2 _ (by omega) rfl
  obtain ⟨_, _, e3, k3⟩ := g 3 _ (by omega) rfl
  cases e1; cases e2; cases e3
  exact ⟨b, off, rfl, by simpa using k0, by simpa [Nat.add_assoc] using k1, by simpa [Nat.add_assoc] using k2, by simpa [Nat.add_assoc] using k3⟩

theorem Ops.below {w w' : World} {v : Value} {l : List OpM} (h : Ops w v l) (hb : Below w.heap.size w w') : Ops w' v l := ⟨Row.below h.1 hb, fun o ho => ⟨(h.2 o ho).1.below hb, (h.2 o ho).2⟩⟩

theorem own_slice {w : World} {base : Nat} {e : TypeId} {v : Value} {n : Nat} {xs : List Value} (h : w.ownsRow base e 1 v n xs) : ∃ A c, v = .slice A n c ∧ n ≤ c ∧ c ≤ maxLen ∧ (0 < n → ∃ g, A = some ⟨g, 0, none⟩ ∧ base ≤ g) := by
  rcases h.2 with ⟨rfl, rfl⟩ | ⟨g, cap, cur, rfl, h1, h2, h3, h4, _⟩
  · exact ⟨none, 0, rfl, Nat.le_refl _, Nat.zero_le _, fun h => by omega⟩
  · exact ⟨_, cap, rfl, h3, h4, fun _ => ⟨g, rfl, h1⟩⟩

theorem splice_snoc {zs ys : List Int} {p k : Nat} (h : p + ys.length ≤ zs.length) (hk : k < ys.length) : (splice zs p (ys.take k)).set (p + k) (ys[k]?.getD 0) = splice zs p (ys.take (k + 1)) := by
  have l1 : (ys.take k).length = k := by rw [List.length_take]; omega
  have l2 : (ys.take (k + 1)).length = k + 1 := by rw [List.length_take]; omega
  apply List.ext_getElem?
  intro j
  rw [List.getElem?_set, splice_get _ _ _ (by omega), splice_get _ _ _ (by omega), l1, l2, length_splice _ _ _ (by omega)]
  by_cases hj : p + k = j
  · subst hj
    rw [if_pos rfl, if_pos (by omega), if_pos ⟨by omega, by omega⟩, Nat.add_sub_cancel_left, List.getElem?_take_of_lt (by omega)]
    simp [hk]
  · rw [if_neg hj]
    by_cases h1 : p ≤ j ∧ j < p + k
    · rw [if_pos h1, if_pos ⟨h1.1, by omega⟩, List.getElem?_take_of_lt (by omega), List.getElem?_take_of_lt (by omega)]
    · rw [if_neg h1, if_neg (by omega)]

end Go.Proofs.Yticfgkcdghbklaa
