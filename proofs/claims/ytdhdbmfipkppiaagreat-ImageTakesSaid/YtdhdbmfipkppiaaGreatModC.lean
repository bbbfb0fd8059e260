/- The closures that the reader of graphs hands on: a number more of a row. -/
import Derived.Test.YtdhdbmfipkppiaaGreatModT
import Derived.Test.YtdhdbmfipkppiaaGreatDraw4
set_option linter.unusedSimpArgs false
set_option linter.unusedVariables false
set_option linter.unnecessarySimpa false
namespace Go.Proofs.YtdhdbmfipkppiaaGreat
open Go.RowKit

/-- Below some block nothing has turned but block B. -/
structure Fr (lo B : Nat) (w W : World) : Prop where
  os : W.os = w.os
  tape : W.tape = w.tape
  output : W.output = w.output
  size : w.heap.size ≤ W.heap.size
  block : ∀ k, k < lo → k < w.heap.size → k ≠ B → W.heap[k]? = w.heap[k]?
theorem Fr.refl (lo B : Nat) (w : World) : Fr lo B w w := ⟨rfl, rfl, rfl, Nat.le_refl _, fun _ _ _ _ => rfl⟩
theorem Fr.trans {lo B : Nat} {u v w : World} (h : Fr lo B u v) (k : Fr lo B v w) : Fr lo B u w :=
  ⟨k.os.trans h.os, k.tape.trans h.tape, k.output.trans h.output, Nat.le_trans h.size k.size, fun x h1 h2 h3 => (k.block x h1 (Nat.lt_of_lt_of_le h2 h.size) h3).trans (h.block x h1 h2 h3)⟩
theorem Fr.grown {lo B : Nat} {w W : World} {row : Option Nat} (h : w.grownBy W row) (hr : ∀ k, row = some k → k = B ∨ lo ≤ k) : Fr lo B w W :=
  ⟨h.os, h.tape, h.output, h.size, fun k h1 h2 h3 => h.block k h2 (fun e => by rcases hr k e.symm with h4 | h4 <;> omega)⟩
theorem Fr.ext {lo B : Nat} {w W : World} (h : Ext w W) : Fr lo B w W := Fr.grown (grown_any h none) (fun k h => by cases h)
theorem Fr.less {lo lo' B : Nat} {w W : World} (h : Fr lo B w W) (hl : lo' ≤ lo) : Fr lo' B w W := ⟨h.os, h.tape, h.output, h.size, fun k h1 => h.block k (by omega)⟩
theorem Fr.toGrown {B : Nat} {w W : World} {lo : Nat} (h : Fr lo B w W) (hl : w.heap.size ≤ lo) : w.grownBy W (some B) :=
  ⟨h.os, h.tape, h.output, h.size, fun k h1 h2 => h.block k (by omega) h1 (fun e => h2 (by rw [e]))⟩

/-- A row of a call's own. -/
structure RowF where
  e : TypeId
  sz : Nat
  v : Value
  n : Nat
  xs : List Value

/-- Rows of a call's own, each in a block of its own. -/
structure OwnAll (W : World) (base : Nat) (l : List RowF) : Prop where
  own : ∀ x ∈ l, W.ownsRow base x.e x.sz x.v x.n x.xs
  sep : l.Pairwise fun x y => Sep x.v y.v

theorem OwnAll.grown {W w' : World} {base c : Nat} {l : List RowF} (h : OwnAll W base l) (hg : W.grownBy w' (some c)) (hc : c < base) : OwnAll w' base l :=
  ⟨fun x hx => World.ownsRow.kept (h.own x hx) hg (.inr fun e => by have := ((h.own x hx).lt _ e).1; omega), h.sep⟩
theorem OwnAll.ext {W w' : World} {base : Nat} {l : List RowF} (h : OwnAll W base l) (hg : Ext W w') : OwnAll w' base l :=
  ⟨fun x hx => World.ownsRow.kept (row := none) (h.own x hx) (grown_of_ext hg) (by cases x.v.ownBlock <;> simp), h.sep⟩
theorem OwnAll.push {W w' : World} {base n' : Nat} {x : RowF} {v' : Value} {xs' : List Value} {l : List RowF} (h : OwnAll W base (x :: l)) (ho : w'.ownsRow base x.e x.sz v' n' xs') (hg : W.grownBy w' x.v.ownBlock) (hn : Near W x.v v') : OwnAll w' base (⟨x.e, x.sz, v', n', xs'⟩ :: l) := by
  have hs := List.pairwise_cons.1 h.sep
  refine ⟨fun y hy => ?_, List.pairwise_cons.2 ⟨fun y hy => ?_, hs.2⟩⟩
  · rcases List.mem_cons.1 hy with rfl | hy
    · exact ho
    · exact World.ownsRow.kept (h.own y (by simp [hy])) hg (Sep.or (hs.1 y hy))
  · exact Sep.near (hs.1 y hy) hn (fun k hk => ((h.own y (by simp [hy])).lt k hk).2)
theorem OwnAll.perm {W : World} {base : Nat} {l l' : List RowF} (h : OwnAll W base l) (hp : l.Perm l') : OwnAll W base l' :=
  ⟨fun x hx => h.own x (hp.mem_iff.2 hx), (hp.pairwise_iff (fun {_ _} h => Sep.symm h)).1 h.sep⟩
theorem OwnAll.setCell {W : World} {base b i : Nat} {u : Value} {l : List RowF} (h : OwnAll W base l) (hb : b < base) : OwnAll (W.setCell ⟨b, i, none⟩ u) base l := h.grown (setCell_grown W b i u) hb

/-- What stands while a closure is called. -/
structure ClS (w0 W : World) (B b1 b3 : Nat) (r : Rd) (cs : Array Value) (T : TypeId) (l : List RowF) : Prop where
  rd : Rr w0 W B r
  p1 : Blk W b1 #[.pointer (some ⟨B, 0, none⟩)] 58
  nb : Blk W b3 cs T
  own : OwnAll W (b3 + 1) l
  lt : B < b1 ∧ b1 < b3

section
variable {w0 W W' : World} {B b1 b3 : Nat} {r : Rd} {cs : Array Value} {T : TypeId} {l : List RowF}
theorem ClS.ext (h : ClS w0 W B b1 b3 r cs T l) (e : Ext W W') : ClS w0 W' B b1 b3 r cs T l := ⟨h.rd.later e, h.p1.ext e, h.nb.ext e, h.own.ext e, h.lt⟩
theorem ClS.read {r' : Rd} (h : ClS w0 W B b1 b3 r cs T l) (hr : Rr w0 W' B r') (hg : W.grownBy W' (some B)) : ClS w0 W' B b1 b3 r' cs T l :=
  ⟨hr, h.p1.grown hg (by have := h.lt; simp; omega), h.nb.grown hg (by have := h.lt; simp; omega), h.own.grown hg (by have := h.lt; omega), h.lt⟩
theorem ClS.keeps (h : ClS w0 W B b1 b3 r cs T l) (hg : W.grownBy W' (some B)) : Keeps [b1, b3] W W' := Keeps.grown hg fun k hk => by
  have h1 := h.p1.lt
  have h2 := h.nb.lt
  have h3 := h.lt
  simp only [List.mem_cons, List.not_mem_nil, or_false] at hk
  rcases hk with rfl | rfl
  · exact ⟨h1, by simp; omega⟩
  · exact ⟨h2, by simp; omega⟩
theorem ClS.keepsE (h : ClS w0 W B b1 b3 r cs T l) (hg : Ext W W') : Keeps [b1, b3] W W' := Keeps.below hg fun k hk => by
  have h1 := h.p1.lt
  have h2 := h.nb.lt
  simp only [List.mem_cons, List.not_mem_nil, or_false] at hk
  rcases hk with rfl | rfl
  · exact h1
  · exact h2
theorem ClS.keepsR {x : RowF} (h : ClS w0 W B b1 b3 r cs T (x :: l)) (hg : W.grownBy W' x.v.ownBlock) : Keeps [b1, b3] W W' := Keeps.grown hg fun k hk => by
  have h1 := h.p1.lt
  have h2 := h.nb.lt
  have h3 := h.lt
  have h4 := h.own.own x (by simp)
  simp only [List.mem_cons, List.not_mem_nil, or_false] at hk
  rcases hk with rfl | rfl
  · exact ⟨h1, fun e => by have := (h4.lt _ e.symm).1; omega⟩
  · exact ⟨h2, fun e => by have := (h4.lt _ e.symm).1; omega⟩
/-- An element more, and the row stored. -/
theorem ClS.push {x : RowF} {v' : Value} {n' : Nat} {xs' : List Value} (h : ClS w0 W B b1 b3 r cs T (x :: l)) (ho : W'.ownsRow (b3 + 1) x.e x.sz v' n' xs') (hg : W.grownBy W' x.v.ownBlock) (hn : Near W x.v v') (i : Nat) :
    ClS w0 (W'.setCell ⟨b3, i, none⟩ v') B b1 b3 r (cs.setIfInBounds i v') T (⟨x.e, x.sz, v', n', xs'⟩ :: l) ∧ Fr b3 B W (W'.setCell ⟨b3, i, none⟩ v') ∧ b3 < W'.heap.size ∧ W'.frozen? ⟨b3, i, none⟩ = false ∧ W'.cell? ⟨b3, i, none⟩ = cs[i]? := by
  have h3 := h.lt
  have h4 := h.own.own x (by simp)
  have hx : ∀ k, x.v.ownBlock = some k → b3 + 1 ≤ k := fun k e => (h4.lt _ e).1
  have hne : ∀ k, k ≤ b3 → some k ≠ x.v.ownBlock := fun k hk e => by have := hx k e.symm; omega
  have n1 := h.nb.grown hg (hne b3 (Nat.le_refl _))
  have hs := setCell_grown W' b3 i v'
  refine ⟨⟨?_, ?_, n1.set i v', (h.own.push ho hg hn).setCell (by omega), h3⟩, ?_, n1.lt, n1.frozen i, n1.cell i⟩
  · obtain ⟨⟨lv, k1, k2⟩, k3, k4, k5⟩ := h.rd
    refine ⟨⟨lv, (k1.grown hg (hne B (by omega))).grown hs (by simp; omega), k2⟩, ?_, k4, k5⟩
    exact Below.setCell (Below.grown k3 hg k3.size (fun k hk => by have := hx k hk; omega)) (by show _ ≤ b3; omega) _
  · exact (h.p1.grown hg (hne b1 (by omega))).grown hs (by simp; omega)
  · exact (Fr.grown hg (fun k hk => .inr (by have := hx k hk; omega))).trans (Fr.grown hs (fun k hk => .inr (by cases hk; omega)))
end

set_option maxRecDepth 8000 in
set_option maxHeartbeats 1600000 in
/-- A value's number more. -/
theorem node1_calls (w0 W : World) (B b1 b3 : Nat) (r : Rd) (cs : Array Value) (T : TypeId) (l : List RowF) (v : Value) (n : Nat) (xs : List Value) (h : ClS w0 W B b1 b3 r cs T (⟨3, 1, v, n, xs⟩ :: l)) (hi : cs[1]? = some v) (hn : n ≤ 70000) :
    Calls Tryz.prog 64 #[.pointer (some ⟨b3, 0, none⟩), .pointer (some ⟨b1, 0, none⟩)] W fun e w' => e = .returned (.tuple #[]) ∧
      ∃ v', ClS w0 w' B b1 b3 (pOne r).2 (cs.setIfInBounds 1 v') T (⟨3, 1, v', n + 1, xs ++ [.int .i64 (pOne r).1]⟩ :: l) ∧ Fr b3 B W w' := by
  have c1 : ∀ W', Keeps [b1, b3] W W' → W'.cell? ⟨b3, 1, none⟩ = some v := fun W' hW => (hW.cell (by simp)).trans (by rw [h.nb.cell 1]; exact hi)
  have c2 : ∀ W', Keeps [b1, b3] W W' → W'.cell? ⟨b1, 0, none⟩ = some (.pointer (some ⟨B, 0, none⟩)) := fun W' hW => (hW.cell (by simp)).trans (h.p1.cell 0)
  have hD := h.ext (Ext.drew W)
  have F0 : Fr b3 B W W.drew := Fr.ext (Ext.drew W)
  have K0 : Keeps [b1, b3] W W.drew := Keeps.drew _ _
  have hrd := one_calls w0 W.drew B r hD.rd
  have hrange := trivial
  clear h
  go_enter Tryz.func64, Tryz.ntmps64
  go_wp2_with fail
  refine wp_region_Z (Keeps [b1, b3] W) 7 [(0, true), (1, true), (2, true), (3, false), (4, false), (5, false), (6, true), (7, false)] (by kernel_rfl) (by kernel_rfl) (fun _ _ d _ _ h => by cases d <;> exact h) K0 ?_
  simp only [pickE, List.getElem?_cons_zero, List.getElem?_cons_succ]
  repeat (refine wpZ_pure (by rfl) (fun W hW => by go_simp; with_reducible rfl) ?_; simp only [Act.put, List.setIfInBounds_toArray, List.set_cons_zero, List.set_cons_succ])
  generalize W.drew = y0 at *
  refine wpZ_step (by rfl) (fun K hK => ?_)
  go_simp
  refine hrd.mono ?_
  rintro e y1 ⟨rfl, hr1, hg1⟩
  have h1 := hD.read hr1 hg1
  have K1 := K0.trans (hD.keeps hg1)
  have F1 := F0.trans (Fr.grown (lo := b3) (B := B) hg1 (fun k hk => .inl (by cases hk; rfl)))
  refine hK _ _ K1 ?_
  clear hK K hrd hr1 hg1 hD K0 F0
  obtain ⟨z, hz⟩ : ∃ z, (pOne r).1 = z := ⟨_, rfl⟩
  have HZ := Lib.hid hz
  rw [hz]
  clear hz
  try simp only [Act.put, List.setIfInBounds_toArray, List.set_cons_zero, List.set_cons_succ]
  repeat (refine wpZ_pure (by rfl) (fun W hW => by go_simp; with_reducible rfl) ?_; simp only [Act.put, List.setIfInBounds_toArray, List.set_cons_zero, List.set_cons_succ])
  have hE2 := ext_alloc y1 (.cells #[Value.int .i64 z] 3)
  have hnew := row_new y1 #[Value.int .i64 z] 3 1 1 rfl (by decide)
  have h2 := h1.ext hE2
  have K2 := K1.trans (h1.keepsE hE2)
  have F2 := F1.trans (Fr.ext (lo := b3) (B := B) hE2)
  refine wpZ_step (by rfl) (fun K hK => ?_)
  go_simp
  refine hK _ _ K2 ?_
  clear hK K h1 K1 F1 hE2
  generalize y1.alloc _ = y2 at *
  try simp only [Act.put, List.setIfInBounds_toArray, List.set_cons_zero, List.set_cons_succ]
  repeat (refine wpZ_pure (by rfl) (fun W hW => by go_simp; with_reducible rfl) ?_; simp only [Act.put, List.setIfInBounds_toArray, List.set_cons_zero, List.set_cons_succ])
  have hown := h2.own.own _ (List.mem_cons_self ..)
  have hbase : b3 + 1 ≤ y2.heap.size := h2.nb.lt
  have hk1 : n + 1 ≤ 140737488355328 := by omega
  have hk2 : (n + 1) * 8 ≤ 140737488355328 := by omega
  have hone : ∀ u ∈ #[Value.int .i64 z].toList, u.oneCell' = true := by intro u hu; simp at hu; subst hu; rfl
  refine wpZ_step (by rfl) (fun K hK => ?_)
  refine wp_append_row rfl elem_i64 hown rfl hnew rfl hone hk1 hk2 hbase (fun v' y3 ho hgr hnr => ?_)
  have K3 := K2.trans (h2.keepsR hgr)
  refine hK _ _ K3 ?_
  clear hK K
  obtain ⟨p1, p2, p3, p4, p5⟩ := h2.push ho hgr hnr 1
  rw [hi] at p5
  obtain ⟨A, c, ev, _⟩ := row_of_own ho
  clear ho hgr hnr hnew hown K2 h2
  have F3 := F2.trans p2
  try simp only [Act.put, List.setIfInBounds_toArray, List.set_cons_zero, List.set_cons_succ]
  repeat (refine wpZ_pure (by rfl) (fun W hW => by go_simp; with_reducible rfl) ?_; simp only [Act.put, List.setIfInBounds_toArray, List.set_cons_zero, List.set_cons_succ])
  subst ev
  refine wpZ_last (by rfl) (fun K hK => ?_)
  go_simp
  refine hK _ _ ?_
  clear hK K
  try simp only [Act.put, List.setIfInBounds_toArray, List.set_cons_zero, List.set_cons_succ]
  go_wp2_with fail
  go_end0
  exact ⟨rfl, ⟨_, by rw [HZ.out]; exact p1⟩, F3⟩

set_option maxRecDepth 8000 in
set_option maxHeartbeats 1600000 in
/-- A weight more. -/
theorem node2_calls (w0 W : World) (B b1 b3 : Nat) (r : Rd) (cs : Array Value) (T : TypeId) (l : List RowF) (v : Value) (n : Nat) (xs : List Value) (h : ClS w0 W B b1 b3 r cs T (⟨110, 1, v, n, xs⟩ :: l)) (hi : cs[12]? = some v) (hn : n ≤ 70000) :
    Calls Tryz.prog 66 #[.pointer (some ⟨b3, 0, none⟩), .pointer (some ⟨b1, 0, none⟩)] W fun e w' => e = .returned (.tuple #[]) ∧
      ∃ v', ClS w0 w' B b1 b3 (pZero r).2 (cs.setIfInBounds 12 v') T (⟨110, 1, v', n + 1, xs ++ [.int .i8 (pZero r).1]⟩ :: l) ∧ Fr b3 B W w' := by
  have c1 : ∀ W', Keeps [b1, b3] W W' → W'.cell? ⟨b3, 12, none⟩ = some v := fun W' hW => (hW.cell (by simp)).trans (by rw [h.nb.cell 12]; exact hi)
  have c2 : ∀ W', Keeps [b1, b3] W W' → W'.cell? ⟨b1, 0, none⟩ = some (.pointer (some ⟨B, 0, none⟩)) := fun W' hW => (hW.cell (by simp)).trans (h.p1.cell 0)
  have hD := h.ext (Ext.drew W)
  have F0 : Fr b3 B W W.drew := Fr.ext (Ext.drew W)
  have K0 : Keeps [b1, b3] W W.drew := Keeps.drew _ _
  have hrd := one_calls w0 W.drew B r hD.rd
  have hrange := one_range hD.rd.bytes
  clear h
  go_enter Tryz.func66, Tryz.ntmps66
  go_wp2_with fail
  refine wp_region_Z (Keeps [b1, b3] W) 8 [(0, true), (1, true), (2, true), (3, false), (4, true), (5, false), (6, false), (7, true), (8, false)] (by kernel_rfl) (by kernel_rfl) (fun _ _ d _ _ h => by cases d <;> exact h) K0 ?_
  simp only [pickE, List.getElem?_cons_zero, List.getElem?_cons_succ]
  repeat (refine wpZ_pure (by rfl) (fun W hW => by go_simp; with_reducible rfl) ?_; simp only [Act.put, List.setIfInBounds_toArray, List.set_cons_zero, List.set_cons_succ])
  generalize W.drew = y0 at *
  refine wpZ_step (by rfl) (fun K hK => ?_)
  go_simp
  refine hrd.mono ?_
  rintro e y1 ⟨rfl, hr1, hg1⟩
  have h1 := hD.read hr1 hg1
  have K1 := K0.trans (hD.keeps hg1)
  have F1 := F0.trans (Fr.grown (lo := b3) (B := B) hg1 (fun k hk => .inl (by cases hk; rfl)))
  refine hK _ _ K1 ?_
  clear hK K hrd hr1 hg1 hD K0 F0
  obtain ⟨hz1, hz2⟩ := hrange
  have hs8 : IntKind.i8.wrap (pOne r).1 = s8 (pOne r).1 := by
    simp [IntKind.wrap, IntKind.signed, IntKind.bits, s8]
    split <;> split <;> omega
  have HZ : Hid (s8 (pOne r).1 = (pZero r).1) := rfl
  generalize (pOne r).1 = z at *

  try simp only [Act.put, List.setIfInBounds_toArray, List.set_cons_zero, List.set_cons_succ]
  repeat (refine wpZ_pure (by rfl) (fun W hW => by go_simp; with_reducible rfl) ?_; simp only [Act.put, List.setIfInBounds_toArray, List.set_cons_zero, List.set_cons_succ])
  have hE2 := ext_alloc y1 (.cells #[Value.int .i8 (s8 z)] 110)
  have hnew := row_new y1 #[Value.int .i8 (s8 z)] 110 1 1 rfl (by decide)
  have h2 := h1.ext hE2
  have K2 := K1.trans (h1.keepsE hE2)
  have F2 := F1.trans (Fr.ext (lo := b3) (B := B) hE2)
  refine wpZ_step (by rfl) (fun K hK => ?_)
  go_simp
  refine hK _ _ K2 ?_
  clear hK K h1 K1 F1 hE2
  generalize y1.alloc _ = y2 at *
  try simp only [Act.put, List.setIfInBounds_toArray, List.set_cons_zero, List.set_cons_succ]
  repeat (refine wpZ_pure (by rfl) (fun W hW => by go_simp; with_reducible rfl) ?_; simp only [Act.put, List.setIfInBounds_toArray, List.set_cons_zero, List.set_cons_succ])
  have hown := h2.own.own _ (List.mem_cons_self ..)
  have hbase : b3 + 1 ≤ y2.heap.size := h2.nb.lt
  have hk1 : n + 1 ≤ 140737488355328 := by omega
  have hk2 : (n + 1) * 1 ≤ 140737488355328 := by omega
  have hone : ∀ u ∈ #[Value.int .i8 (s8 z)].toList, u.oneCell' = true := by intro u hu; simp at hu; subst hu; rfl
  refine wpZ_step (by rfl) (fun K hK => ?_)
  refine wp_append_row rfl elem_i8 hown rfl hnew rfl hone hk1 hk2 hbase (fun v' y3 ho hgr hnr => ?_)
  have K3 := K2.trans (h2.keepsR hgr)
  refine hK _ _ K3 ?_
  clear hK K
  obtain ⟨p1, p2, p3, p4, p5⟩ := h2.push ho hgr hnr 12
  rw [hi] at p5
  obtain ⟨A, c, ev, _⟩ := row_of_own ho
  clear ho hgr hnr hnew hown K2 h2
  have F3 := F2.trans p2
  try simp only [Act.put, List.setIfInBounds_toArray, List.set_cons_zero, List.set_cons_succ]
  repeat (refine wpZ_pure (by rfl) (fun W hW => by go_simp; with_reducible rfl) ?_; simp only [Act.put, List.setIfInBounds_toArray, List.set_cons_zero, List.set_cons_succ])
  subst ev
  refine wpZ_last (by rfl) (fun K hK => ?_)
  go_simp
  refine hK _ _ ?_
  clear hK K
  try simp only [Act.put, List.setIfInBounds_toArray, List.set_cons_zero, List.set_cons_succ]
  go_wp2_with fail
  go_end0
  exact ⟨rfl, ⟨_, by rw [← HZ.out]; exact p1⟩, F3⟩

set_option maxRecDepth 8000 in
set_option maxHeartbeats 1600000 in
/-- A bias more. -/
theorem node3_calls (w0 W : World) (B b1 b3 : Nat) (r : Rd) (cs : Array Value) (T : TypeId) (l : List RowF) (v : Value) (n : Nat) (xs : List Value) (h : ClS w0 W B b1 b3 r cs T (⟨21, 1, v, n, xs⟩ :: l)) (hi : cs[13]? = some v) (hn : n ≤ 70000) :
    Calls Tryz.prog 67 #[.pointer (some ⟨b3, 0, none⟩), .pointer (some ⟨b1, 0, none⟩)] W fun e w' => e = .returned (.tuple #[]) ∧
      ∃ v', ClS w0 w' B b1 b3 (pFour r).2 (cs.setIfInBounds 13 v') T (⟨21, 1, v', n + 1, xs ++ [.int .i32 (pFour r).1]⟩ :: l) ∧ Fr b3 B W w' := by
  have c1 : ∀ W', Keeps [b1, b3] W W' → W'.cell? ⟨b3, 13, none⟩ = some v := fun W' hW => (hW.cell (by simp)).trans (by rw [h.nb.cell 13]; exact hi)
  have c2 : ∀ W', Keeps [b1, b3] W W' → W'.cell? ⟨b1, 0, none⟩ = some (.pointer (some ⟨B, 0, none⟩)) := fun W' hW => (hW.cell (by simp)).trans (h.p1.cell 0)
  have hD := h.ext (Ext.drew W)
  have F0 : Fr b3 B W W.drew := Fr.ext (Ext.drew W)
  have K0 : Keeps [b1, b3] W W.drew := Keeps.drew _ _
  have hrd := four_calls w0 W.drew B r hD.rd
  have hrange := trivial
  clear h
  go_enter Tryz.func67, Tryz.ntmps67
  go_wp2_with fail
  refine wp_region_Z (Keeps [b1, b3] W) 7 [(0, true), (1, true), (2, true), (3, false), (4, false), (5, false), (6, true), (7, false)] (by kernel_rfl) (by kernel_rfl) (fun _ _ d _ _ h => by cases d <;> exact h) K0 ?_
  simp only [pickE, List.getElem?_cons_zero, List.getElem?_cons_succ]
  repeat (refine wpZ_pure (by rfl) (fun W hW => by go_simp; with_reducible rfl) ?_; simp only [Act.put, List.setIfInBounds_toArray, List.set_cons_zero, List.set_cons_succ])
  generalize W.drew = y0 at *
  refine wpZ_step (by rfl) (fun K hK => ?_)
  go_simp
  refine hrd.mono ?_
  rintro e y1 ⟨rfl, hr1, hg1⟩
  have h1 := hD.read hr1 hg1
  have K1 := K0.trans (hD.keeps hg1)
  have F1 := F0.trans (Fr.grown (lo := b3) (B := B) hg1 (fun k hk => .inl (by cases hk; rfl)))
  refine hK _ _ K1 ?_
  clear hK K hrd hr1 hg1 hD K0 F0
  obtain ⟨z, hz⟩ : ∃ z, (pFour r).1 = z := ⟨_, rfl⟩
  have HZ := Lib.hid hz
  rw [hz]
  clear hz
  try simp only [Act.put, List.setIfInBounds_toArray, List.set_cons_zero, List.set_cons_succ]
  repeat (refine wpZ_pure (by rfl) (fun W hW => by go_simp; with_reducible rfl) ?_; simp only [Act.put, List.setIfInBounds_toArray, List.set_cons_zero, List.set_cons_succ])
  have hE2 := ext_alloc y1 (.cells #[Value.int .i32 z] 21)
  have hnew := row_new y1 #[Value.int .i32 z] 21 1 1 rfl (by decide)
  have h2 := h1.ext hE2
  have K2 := K1.trans (h1.keepsE hE2)
  have F2 := F1.trans (Fr.ext (lo := b3) (B := B) hE2)
  refine wpZ_step (by rfl) (fun K hK => ?_)
  go_simp
  refine hK _ _ K2 ?_
  clear hK K h1 K1 F1 hE2
  generalize y1.alloc _ = y2 at *
  try simp only [Act.put, List.setIfInBounds_toArray, List.set_cons_zero, List.set_cons_succ]
  repeat (refine wpZ_pure (by rfl) (fun W hW => by go_simp; with_reducible rfl) ?_; simp only [Act.put, List.setIfInBounds_toArray, List.set_cons_zero, List.set_cons_succ])
  have hown := h2.own.own _ (List.mem_cons_self ..)
  have hbase : b3 + 1 ≤ y2.heap.size := h2.nb.lt
  have hk1 : n + 1 ≤ 140737488355328 := by omega
  have hk2 : (n + 1) * 4 ≤ 140737488355328 := by omega
  have hone : ∀ u ∈ #[Value.int .i32 z].toList, u.oneCell' = true := by intro u hu; simp at hu; subst hu; rfl
  refine wpZ_step (by rfl) (fun K hK => ?_)
  refine wp_append_row rfl elem_i32 hown rfl hnew rfl hone hk1 hk2 hbase (fun v' y3 ho hgr hnr => ?_)
  have K3 := K2.trans (h2.keepsR hgr)
  refine hK _ _ K3 ?_
  clear hK K
  obtain ⟨p1, p2, p3, p4, p5⟩ := h2.push ho hgr hnr 13
  rw [hi] at p5
  obtain ⟨A, c, ev, _⟩ := row_of_own ho
  clear ho hgr hnr hnew hown K2 h2
  have F3 := F2.trans p2
  try simp only [Act.put, List.setIfInBounds_toArray, List.set_cons_zero, List.set_cons_succ]
  repeat (refine wpZ_pure (by rfl) (fun W hW => by go_simp; with_reducible rfl) ?_; simp only [Act.put, List.setIfInBounds_toArray, List.set_cons_zero, List.set_cons_succ])
  subst ev
  refine wpZ_last (by rfl) (fun K hK => ?_)
  go_simp
  refine hK _ _ ?_
  clear hK K
  try simp only [Act.put, List.setIfInBounds_toArray, List.set_cons_zero, List.set_cons_succ]
  go_wp2_with fail
  go_end0
  exact ⟨rfl, ⟨_, by rw [HZ.out]; exact p1⟩, F3⟩

set_option maxRecDepth 8000 in
set_option maxHeartbeats 1600000 in
/-- A value that comes out more. -/
theorem take3_calls (w0 W : World) (B b1 b3 : Nat) (r : Rd) (cs : Array Value) (T : TypeId) (l : List RowF) (v : Value) (n : Nat) (xs : List Value) (h : ClS w0 W B b1 b3 r cs T (⟨3, 1, v, n, xs⟩ :: l)) (hi : cs[2]? = some v) (hn : n ≤ 70000) :
    Calls Tryz.prog 32 #[.pointer (some ⟨b3, 0, none⟩), .pointer (some ⟨b1, 0, none⟩)] W fun e w' => e = .returned (.tuple #[]) ∧
      ∃ v', ClS w0 w' B b1 b3 (pOne r).2 (cs.setIfInBounds 2 v') T (⟨3, 1, v', n + 1, xs ++ [.int .i64 (pOne r).1]⟩ :: l) ∧ Fr b3 B W w' := by
  have c1 : ∀ W', Keeps [b1, b3] W W' → W'.cell? ⟨b3, 2, none⟩ = some v := fun W' hW => (hW.cell (by simp)).trans (by rw [h.nb.cell 2]; exact hi)
  have c2 : ∀ W', Keeps [b1, b3] W W' → W'.cell? ⟨b1, 0, none⟩ = some (.pointer (some ⟨B, 0, none⟩)) := fun W' hW => (hW.cell (by simp)).trans (h.p1.cell 0)
  have hD := h.ext (Ext.drew W)
  have F0 : Fr b3 B W W.drew := Fr.ext (Ext.drew W)
  have K0 : Keeps [b1, b3] W W.drew := Keeps.drew _ _
  have hrd := one_calls w0 W.drew B r hD.rd
  have hrange := trivial
  clear h
  go_enter Tryz.func32, Tryz.ntmps32
  go_wp2_with fail
  refine wp_region_Z (Keeps [b1, b3] W) 7 [(0, true), (1, true), (2, true), (3, false), (4, false), (5, false), (6, true), (7, false)] (by kernel_rfl) (by kernel_rfl) (fun _ _ d _ _ h => by cases d <;> exact h) K0 ?_
  simp only [pickE, List.getElem?_cons_zero, List.getElem?_cons_succ]
  repeat (refine wpZ_pure (by rfl) (fun W hW => by go_simp; with_reducible rfl) ?_; simp only [Act.put, List.setIfInBounds_toArray, List.set_cons_zero, List.set_cons_succ])
  generalize W.drew = y0 at *
  refine wpZ_step (by rfl) (fun K hK => ?_)
  go_simp
  refine hrd.mono ?_
  rintro e y1 ⟨rfl, hr1, hg1⟩
  have h1 := hD.read hr1 hg1
  have K1 := K0.trans (hD.keeps hg1)
  have F1 := F0.trans (Fr.grown (lo := b3) (B := B) hg1 (fun k hk => .inl (by cases hk; rfl)))
  refine hK _ _ K1 ?_
  clear hK K hrd hr1 hg1 hD K0 F0
  obtain ⟨z, hz⟩ : ∃ z, (pOne r).1 = z := ⟨_, rfl⟩
  have HZ := Lib.hid hz
  rw [hz]
  clear hz
  try simp only [Act.put, List.setIfInBounds_toArray, List.set_cons_zero, List.set_cons_succ]
  repeat (refine wpZ_pure (by rfl) (fun W hW => by go_simp; with_reducible rfl) ?_; simp only [Act.put, List.setIfInBounds_toArray, List.set_cons_zero, List.set_cons_succ])
  have hE2 := ext_alloc y1 (.cells #[Value.int .i64 z] 3)
  have hnew := row_new y1 #[Value.int .i64 z] 3 1 1 rfl (by decide)
  have h2 := h1.ext hE2
  have K2 := K1.trans (h1.keepsE hE2)
  have F2 := F1.trans (Fr.ext (lo := b3) (B := B) hE2)
  refine wpZ_step (by rfl) (fun K hK => ?_)
  go_simp
  refine hK _ _ K2 ?_
  clear hK K h1 K1 F1 hE2
  generalize y1.alloc _ = y2 at *
  try simp only [Act.put, List.setIfInBounds_toArray, List.set_cons_zero, List.set_cons_succ]
  repeat (refine wpZ_pure (by rfl) (fun W hW => by go_simp; with_reducible rfl) ?_; simp only [Act.put, List.setIfInBounds_toArray, List.set_cons_zero, List.set_cons_succ])
  have hown := h2.own.own _ (List.mem_cons_self ..)
  have hbase : b3 + 1 ≤ y2.heap.size := h2.nb.lt
  have hk1 : n + 1 ≤ 140737488355328 := by omega
  have hk2 : (n + 1) * 8 ≤ 140737488355328 := by omega
  have hone : ∀ u ∈ #[Value.int .i64 z].toList, u.oneCell' = true := by intro u hu; simp at hu; subst hu; rfl
  refine wpZ_step (by rfl) (fun K hK => ?_)
  refine wp_append_row rfl elem_i64 hown rfl hnew rfl hone hk1 hk2 hbase (fun v' y3 ho hgr hnr => ?_)
  have K3 := K2.trans (h2.keepsR hgr)
  refine hK _ _ K3 ?_
  clear hK K
  obtain ⟨p1, p2, p3, p4, p5⟩ := h2.push ho hgr hnr 2
  rw [hi] at p5
  obtain ⟨A, c, ev, _⟩ := row_of_own ho
  clear ho hgr hnr hnew hown K2 h2
  have F3 := F2.trans p2
  try simp only [Act.put, List.setIfInBounds_toArray, List.set_cons_zero, List.set_cons_succ]
  repeat (refine wpZ_pure (by rfl) (fun W hW => by go_simp; with_reducible rfl) ?_; simp only [Act.put, List.setIfInBounds_toArray, List.set_cons_zero, List.set_cons_succ])
  subst ev
  refine wpZ_last (by rfl) (fun K hK => ?_)
  go_simp
  refine hK _ _ ?_
  clear hK K
  try simp only [Act.put, List.setIfInBounds_toArray, List.set_cons_zero, List.set_cons_succ]
  go_wp2_with fail
  go_end0
  exact ⟨rfl, ⟨_, by rw [HZ.out]; exact p1⟩, F3⟩

section
variable {w0 W W' : World} {B b1 b3 : Nat} {r : Rd} {cs : Array Value} {T : TypeId} {l : List RowF}
/-- A number stored. -/
theorem ClS.store (h : ClS w0 W B b1 b3 r cs T l) (j : Nat) (u : Value) : ClS w0 (W.setCell ⟨b3, j, none⟩ u) B b1 b3 r (cs.setIfInBounds j u) T l ∧ Fr b3 B W (W.setCell ⟨b3, j, none⟩ u) := by
  have hs := setCell_grown W b3 j u
  have h3 := h.lt
  refine ⟨⟨?_, h.p1.grown hs (by simp; omega), h.nb.set j u, h.own.setCell (by omega), h3⟩, Fr.grown hs (fun k hk => .inr (by cases hk; omega))⟩
  obtain ⟨⟨lv, k1, k2⟩, k3, k4, k5⟩ := h.rd
  exact ⟨⟨lv, k1.grown hs (by simp; omega), k2⟩, Below.setCell k3 (by show _ ≤ b3; omega) _, k4, k5⟩
end

theorem many_bad {α : Type} (f : Ps α) (n : Nat) {r : Rd} (h : r.bad = true) : many f n r = ([], r) := by
  cases n with
  | zero => rfl
  | succ n => simp [many, h]
theorem many_len {α : Type} (f : Ps α) : ∀ (n : Nat) (r : Rd), (many f n r).1.length ≤ n
  | 0, r => by simp [many]
  | n + 1, r => by
    unfold many
    split
    · simp
    · have := many_len f n (f r).2
      simp; omega
theorem many_all {α : Type} {f : Ps α} {P : α → Prop} (hf : ∀ r, BytesL r.l → P (f r).1 ∧ BytesL (f r).2.l) : ∀ (n : Nat) (r : Rd), BytesL r.l → (∀ z ∈ (many f n r).1, P z) ∧ BytesL (many f n r).2.l
  | 0, r, h => ⟨fun z hz => (by cases hz), h⟩
  | n + 1, r, h => by
    unfold many
    split
    · exact ⟨fun z hz => (by cases hz), h⟩
    · obtain ⟨h1, h2⟩ := hf r h
      obtain ⟨h3, h4⟩ := many_all hf n _ h2
      refine ⟨fun z hz => ?_, h4⟩
      rcases List.mem_cons.1 hz with rfl | hz
      · exact h1
      · exact h3 z hz

/-- A row taken element by element. -/
theorem many_row (w0 W : World) (B b1 b3 g i n : Nat) (r : Rd) (cs : Array Value) (T E : TypeId) (l : List RowF) (v : Value) {α : Type} (p : Ps α) (val : α → Value) (h : ClS w0 W B b1 b3 r cs T (⟨E, 1, v, 0, []⟩ :: l)) (hi : cs[i]? = some v) (hn : n ≤ 65535)
    (eg : ∀ args w, (callFunc g args).run Tryz.prog w = .ok (.enter g args) w)
    (hstep : ∀ (W : World) (r : Rd) (cs : Array Value) (v : Value) (n : Nat) (xs : List Value), ClS w0 W B b1 b3 r cs T (⟨E, 1, v, n, xs⟩ :: l) → cs[i]? = some v → n ≤ 70000 →
      Calls Tryz.prog g #[.pointer (some ⟨b3, 0, none⟩), .pointer (some ⟨b1, 0, none⟩)] W fun e w' => e = .returned (.tuple #[]) ∧ ∃ v', ClS w0 w' B b1 b3 (p r).2 (cs.setIfInBounds i v') T (⟨E, 1, v', n + 1, xs ++ [val (p r).1]⟩ :: l) ∧ Fr b3 B W w') :
    Calls Tryz.prog 25 #[.pointer (some ⟨B, 0, none⟩), .int .i64 n, .func (.func g) #[] #[.pointer (some ⟨b3, 0, none⟩), .pointer (some ⟨b1, 0, none⟩)]] W fun e w' => e = .returned (.tuple #[]) ∧
      ∃ v', ClS w0 w' B b1 b3 (many p n r).2 (cs.setIfInBounds i v') T (⟨E, 1, v', (many p n r).1.length, (many p n r).1.map val⟩ :: l) ∧ Fr b3 B W w' := by
  have hsz : i < cs.size := by
    rcases Nat.lt_or_ge i cs.size with h | h
    · exact h
    · rw [Array.getElem?_eq_none h] at hi; cases hi
  refine (many_calls (fun k b W' => ∃ (v' : Value) (zs : List α) (r' : Rd), ClS w0 W' B b1 b3 r' (cs.setIfInBounds i v') T (⟨E, 1, v', k, zs.map val⟩ :: l) ∧ zs.length = k ∧ r'.bad = b ∧ Fr b3 B W W' ∧ many p n r = (zs ++ (many p (n - k) r').1, (many p (n - k) r').2))
    B n g _ r.bad W (by omega) ⟨v, [], r, ?_, rfl, rfl, Fr.refl _ _ _, rfl⟩ eg ?_ ?_).mono ?_
  · have e : cs.setIfInBounds i v = cs := by
      apply Array.ext_getElem?
      intro j
      rw [Array.getElem?_setIfInBounds]
      split
      · rename_i hj
        subst hj
        exact hi.symm
      · rfl
    rw [e]
    exact h
  · rintro k b W' ⟨v', zs, r', h1, _, rfl, _⟩
    obtain ⟨⟨lv, k1, _⟩, _⟩ := h1.rd
    exact k1.cell 1
  · rintro k W' hk ⟨v', zs, r', h1, hzl, hbad, h2, h3⟩
    refine (hstep W' r' _ v' k _ h1 (by rw [Array.getElem?_setIfInBounds]; simp [hsz]) (by omega)).mono ?_
    rintro e w' ⟨rfl, v2, h4, h5⟩
    refine ⟨rfl, (p r').2.bad, v2, zs ++ [(p r').1], (p r').2, ?_, by simp [hzl], rfl, h2.trans h5, ?_⟩
    · rw [Array.setIfInBounds_setIfInBounds] at h4
      rw [List.map_append]
      exact h4
    · rw [h3, show n - k = (n - (k + 1)) + 1 from by omega, many, if_neg (by rw [hbad]; simp)]
      simp
  · rintro e w' ⟨rfl, k, b, hk, ⟨v', zs, r', h1, hzl, hbad, h2, h3⟩, h4⟩
    refine ⟨rfl, v', ?_, h2⟩
    have e : many p n r = (zs, r') := by
      rw [h3]
      rcases h4 with rfl | rfl
      · rw [Nat.sub_self, many]; simp
      · rw [many_bad p _ hbad]; simp
    rw [e]
    subst hzl
    exact h1

end Go.Proofs.YtdhdbmfipkppiaaGreat
