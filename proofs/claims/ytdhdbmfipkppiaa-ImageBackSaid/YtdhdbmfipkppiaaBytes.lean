/- Numbers as bytes; a row that is appended to again and again. They speak of no program. -/
import Derived.Test.YtdhdbmfipkppiaaVoc
namespace Go.Proofs.Ytdhdbmfipkppiaa
set_option linter.unusedSimpArgs false
set_option linter.unusedVariables false
set_option linter.unnecessarySimpa false
open Go.RowKit

/-- Byte number i of so many bytes of a number, the highest first. -/
def byteAt (x : Int) (wide i : Nat) : Int := x / 2 ^ (8 * (wide - 1 - i)) % 256
def be (x : Int) (wide : Nat) : List Int := (List.range wide).map (byteAt x wide)
theorem be_len (x : Int) (wide : Nat) : (be x wide).length = wide := by simp [be]
theorem be_take_succ (x : Int) {wide i : Nat} (h : i < wide) : (be x wide).take (i + 1) = (be x wide).take i ++ [byteAt x wide i] := by
  rw [List.take_succ_eq_append_getElem (by rw [be_len]; exact h)]
  simp [be]

theorem be_range (x : Int) (wide : Nat) : ∀ z ∈ be x wide, 0 ≤ z ∧ z ≤ 255 := by
  intro z hz
  obtain ⟨i, _, rfl⟩ := List.mem_map.1 hz
  unfold byteAt
  omega

theorem grown_near {w w1 w2 : World} {v v1 : Value} (h : w.grownBy w1 v.ownBlock) (hn : Near w v v1) (k : w1.grownBy w2 v1.ownBlock) : w.grownBy w2 v.ownBlock :=
  ⟨k.os.trans h.os, k.tape.trans h.tape, k.output.trans h.output, Nat.le_trans h.size k.size, fun x hx hr => by
    refine (k.block x (Nat.lt_of_lt_of_le hx h.size) (fun e => ?_)).trans (h.block x hx hr)
    rcases hn x e.symm with h1 | h1
    · exact hr h1.symm
    · omega⟩
theorem near_trans {w w1 : World} {v v1 v2 : Value} (h : Near w v v1) (hs : w.heap.size ≤ w1.heap.size) (k : Near w1 v1 v2) : Near w v v2 := fun x hx => by
  rcases k x hx with h1 | h1
  · exact h x h1
  · exact Or.inr (by omega)
theorem near_refl (w : World) (v : Value) : Near w v v := fun _ h => Or.inl h
theorem grown_alloc (w : World) (o : Obj) (row : Option Nat) : w.grownBy (w.alloc o) row := World.grownBy_alloc w o row
theorem near_size {w w' : World} {v v' : Value} (h : Near w' v v') (hs : w.heap.size ≤ w'.heap.size) : Near w v v' := fun x hx => by
  rcases h x hx with h1 | h1
  · exact Or.inl h1
  · exact Or.inr (by omega)

/-- A row of the call's own is appended to. -/
structure Grew (w : World) (base : Nat) (e : TypeId) (sz : Nat) (v : Value) (n : Nat) (xs : List Value) (w' : World) (v' : Value) : Prop where
  own : w'.ownsRow base e sz v' n xs
  grown : w.grownBy w' v.ownBlock
  near : Near w v v'
theorem Grew.refl {w : World} {base : Nat} {e : TypeId} {sz : Nat} {v : Value} {n : Nat} {xs : List Value} (h : w.ownsRow base e sz v n xs) : Grew w base e sz v n xs w v := ⟨h, World.grownBy.refl _ _, near_refl _ _⟩
theorem Grew.trans {w w1 w2 : World} {base : Nat} {e : TypeId} {sz : Nat} {v v1 v2 : Value} {n m : Nat} {xs ys : List Value} (h : Grew w base e sz v n xs w1 v1) (k : Grew w1 base e sz v1 m ys w2 v2) : Grew w base e sz v m ys w2 v2 :=
  ⟨k.own, grown_near h.grown h.near k.grown, near_trans h.near h.grown.size k.near⟩
theorem Grew.alloc {w w1 : World} {base : Nat} {e : TypeId} {sz : Nat} {v v1 : Value} {n : Nat} {xs : List Value} (h : Grew w base e sz v n xs w1 v1) (o : Obj) : Grew w base e sz v n xs (w1.alloc o) v1 :=
  ⟨h.own.alloc o, grown_near h.grown h.near (grown_alloc w1 o _), h.near⟩
theorem Grew.drew {w w1 : World} {base : Nat} {e : TypeId} {sz : Nat} {v v1 : Value} {n : Nat} {xs : List Value} (h : Grew w base e sz v n xs w1 v1) : Grew w base e sz v n xs w1.drew v1 :=
  ⟨ownsRow_drew h.own, ⟨h.grown.os, h.grown.tape, h.grown.output, h.grown.size, h.grown.block⟩, h.near⟩
theorem Grew.below {w w1 : World} {base : Nat} {e : TypeId} {sz : Nat} {v v1 : Value} {n : Nat} {xs : List Value} (h : Grew w base e sz v n xs w1 v1) {w2 : World} {B : Nat} (hb : Below B w1 w2) (hB : w1.heap.size ≤ B) : Grew w base e sz v n xs w2 v1 := by
  have hg : w1.grownBy w2 none := ⟨hb.os, hb.tape, hb.output, hb.size, fun k hk _ => hb.block k (by omega)⟩
  refine ⟨h.own.kept hg (by cases hq : v1.ownBlock <;> simp), ?_, h.near⟩
  exact ⟨hb.os.trans h.grown.os, hb.tape.trans h.grown.tape, hb.output.trans h.grown.output, Nat.le_trans h.grown.size hb.size, fun x hx hr => (hb.block x (Nat.lt_of_lt_of_le hx (Nat.le_trans h.grown.size hB))).trans (h.grown.block x hx hr)⟩
theorem Grew.base {w w1 : World} {base : Nat} {e : TypeId} {sz : Nat} {v v1 : Value} {n : Nat} {xs : List Value} (h : Grew w base e sz v n xs w1 v1) (hb : base ≤ w.heap.size) (hv : ∀ k, v.ownBlock = some k → base ≤ k) : Below base w w1 :=
  Below.grown (Below.refl base w) h.grown hb hv

/-- 'append(v, x)' of a row that lies elsewhere, seen from where v began. -/
theorem Grew.append {w w1 w2 : World} {base : Nat} {e : TypeId} {sz : Nat} {v v1 v2 : Value} {n m : Nat} {xs ys : List Value} (h : Grew w base e sz v n xs w1 v1) (ho : w2.ownsRow base e sz v2 m ys) (hg : w1.grownBy w2 v1.ownBlock) (hn : Near w1 v1 v2) : Grew w base e sz v m ys w2 v2 :=
  h.trans ⟨ho, hg, hn⟩

end Go.Proofs.Ytdhdbmfipkppiaa
