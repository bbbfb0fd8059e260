/- The walk of the head of the laws of graphs as bytes: the document's example. -/
/- The walk of less: a graph of few values, nodes, weights. -/
/- The closures of Take: a value that goes in more, and a node more. -/
import Derived.Test.YtdhdbmfipkppiaaGreatModO
import Derived.Test.YtdhdbmfipkppiaaGreatModD
set_option linter.unusedSimpArgs false
set_option linter.unusedVariables false
set_option linter.unnecessarySimpa false
namespace Go.Proofs.YtdhdbmfipkppiaaGreat
open Go.RowKit

def exG (b : Nat) : Gr := ⟨.slice (some ⟨b, 0, none⟩) 1 1, .slice none 0 0, .slice (some ⟨b + 1, 0, none⟩) 1 1, [⟨⟨1, 2, 3⟩, 0⟩], [], [0]⟩
end Go.Proofs.YtdhdbmfipkppiaaGreat

namespace Go.Proofs.YtdhdbmfipkppiaaGreat
open Go.RowKit

/-- A node, of whatever rows. -/
def nodeIn (w : World) (n : Nd) : Prop := Ints .i64 w n.inV n.ins ∧ Ints .i8 w n.wV n.ws ∧ Ints .i32 w n.bV n.bs ∧ (∀ z ∈ n.bs, InK .i32 z) ∧ (∀ z ∈ n.ws, InK .i8 z)

/-- A graph, of whatever rows. -/
structure GrIn (w : World) (g : Gr) : Prop where
  ins : Vls w g.iV g.ins
  nodes : SRow w g.nV Nd.cs 14 g.nodes
  outs : Ints .i64 w g.oV g.outs
  each : ∀ n ∈ g.nodes, nodeIn w n

theorem elem_nd : ElemT Tryz.prog 25 67 14 160 := elemT_of (z := .agg #[.int .i64 0, .slice none 0 0, .int .i64 0, .int .i64 0, .int .i64 0, .int .i64 0, .int .i64 0, .int .i64 0, .int .i64 0, .int .i64 0, .int .i64 0, .int .i64 0, .slice none 0 0, .slice none 0 0]) Tryz.underlying25 (by kernel_rfl) rfl (by omega)

/-- What stands while the nodes are cut. -/
structure LessS (w W : World) (c1 : Array Value) (v : Value) (ns : List Nd) : Prop where
  box1 : Blk W w.heap.size c1 28
  box2 : Blk W (w.heap.size + 1) #[.slice none 0 0, .slice none 0 0, .slice none 0 0] 28
  own : W.ownsRow (w.heap.size + 2) 67 14 v ns.length (ns.flatMap Nd.cs)
  ext : Ext w W
theorem LessS.later {w W W' : World} {c1 : Array Value} {v : Value} {ns : List Nd} (h : LessS w W c1 v ns) (e : Ext W W') : LessS w W' c1 v ns :=
  ⟨h.box1.ext e, h.box2.ext e, World.ownsRow.kept (row := none) h.own (grown_of_ext e) (by cases v.ownBlock <;> simp), h.ext.trans e⟩
theorem LessS.set {w W : World} {c1 : Array Value} {v : Value} {ns : List Nd} (h : LessS w W c1 v ns) {yb : Nat} (hy : w.heap.size + 2 ≤ yb) (hv : v.ownBlock ≠ some yb) (i : Nat) (x : Value) : LessS w (W.setCell ⟨yb, i, none⟩ x) c1 v ns :=
  ⟨h.box1.grown (setCell_grown _ _ _ _) (by simp; omega), h.box2.grown (setCell_grown _ _ _ _) (by simp; omega), ownsRow_setCell_other h.own hv _, Below.setCell h.ext (by show w.heap.size ≤ yb; omega) _⟩

theorem flat_take {α : Type} {cs : α → List Value} {sz : Nat} (hsz : ∀ x, (cs x).length = sz) : ∀ (l : List α) (k : Nat), (l.flatMap cs).take (k * sz) = (l.take k).flatMap cs
  | [], k => by simp
  | a :: l, 0 => by simp
  | a :: l, k + 1 => by
    rw [List.flatMap_cons, List.take_succ_cons, List.flatMap_cons, ← flat_take hsz l k, Nat.add_mul, Nat.one_mul, Nat.add_comm, ← hsz a, List.take_length_add_append]
theorem SRow.first {w : World} {α : Type} {cs : α → List Value} {sz : Nat} {l : List α} {A : Option Addr} {n c k : Nat} (h : SRow w (.slice A n c) cs sz l) (hsz : ∀ x, (cs x).length = sz) (hk : k ≤ l.length) : SRow w (.slice A k c) cs sz (l.take k) := by
  have e : n = l.length := by
    obtain ⟨_, _, e, _⟩ := h
    cases e
    rfl
  subst e
  have := Row.first h rfl k hk
  rw [flat_take hsz] at this
  unfold SRow
  rw [List.length_take, Nat.min_eq_left hk]
  exact this

/-- A graph whose nodes lie in a row of a call's own, all its other rows where they lay. -/
structure GrL (w0 : World) (base : Nat) (W : World) (g : Gr) : Prop where
  ins : Vls w0 g.iV g.ins
  outs : Ints .i64 w0 g.oV g.outs
  each : ∀ n ∈ g.nodes, nodeAt w0 n
  own : W.ownsRow base 67 14 g.nV g.nodes.length (g.nodes.flatMap Nd.cs)
  ext : Ext w0 W
  il : g.ins.length ≤ 255
  nl : g.nodes.length ≤ 255
  ol : g.outs.length ≤ 255
theorem GrL.at {w0 W : World} {base : Nat} {g : Gr} (h : GrL w0 base W g) : GrAt W g :=
  ⟨h.ins.ext h.ext, row_of_own h.own, h.outs.ext h.ext, fun n hn => (h.each n hn).ext h.ext, h.il, h.nl, h.ol⟩
theorem GrL.later {w0 W W' : World} {base : Nat} {g : Gr} (h : GrL w0 base W g) (e : Ext W W') : GrL w0 base W' g :=
  ⟨h.ins, h.outs, h.each, World.ownsRow.kept (row := none) h.own (grown_of_ext e) (by cases g.nV.ownBlock <;> simp), h.ext.trans e, h.il, h.nl, h.ol⟩
theorem GrL.setRow {w0 W : World} {base b : Nat} {g : Gr} (h : GrL w0 base W g) (h1 : w0.heap.size ≤ b) (h2 : b < base) (cs : Array Value) : GrL w0 base (W.setRow b cs) g :=
  ⟨h.ins, h.outs, h.each, World.ownsRow.kept h.own (setRow_grown W b cs) (.inr fun e => by have := (h.own.lt _ e).1; omega), ext_setRow h.ext cs h1, h.il, h.nl, h.ol⟩
theorem GrIn.ext {w W : World} {g : Gr} (h : GrIn w g) (e : Ext w W) : GrIn W g :=
  ⟨h.ins.ext e, Row.below h.nodes e, h.outs.ext e, fun n hn => ⟨(h.each n hn).1.ext e, (h.each n hn).2.1.ext e, (h.each n hn).2.2.1.ext e, (h.each n hn).2.2.2⟩⟩

def LessPost (w0 w : World) (e : Ending) (w' : World) : Prop := ∃ g' : Gr, e = .returned (.agg #[g'.iV, g'.nV, g'.oV]) ∧ GrL w0 (w.heap.size + 2) w' g' ∧ Ext w w'

end Go.Proofs.YtdhdbmfipkppiaaGreat

namespace Go.Proofs.YtdhdbmfipkppiaaGreat
open Go.RowKit

/-- 'many' of whatever, by what stands between. -/
theorem many_any {α : Type} (p : Ps α) (B n g : Nat) (lb : Array Value) (W : World) (r : Rd) (St : World → Rd → List α → Prop) (hn : n ≤ 70000) (h0 : St W r []) (eg : ∀ args w, (callFunc g args).run Tryz.prog w = .ok (.enter g args) w)
    (hc : ∀ W r zs, St W r zs → W.cell? ⟨B, 1, none⟩ = some (.bool r.bad))
    (hs : ∀ W r zs, St W r zs → zs.length < n → Calls Tryz.prog g lb W fun e w' => e = .returned (.tuple #[]) ∧ St w' (p r).2 (zs ++ [(p r).1])) :
    Calls Tryz.prog 25 #[.pointer (some ⟨B, 0, none⟩), .int .i64 n, .func (.func g) #[] lb] W fun e w' => e = .returned (.tuple #[]) ∧ St w' (many p n r).2 (many p n r).1 := by
  refine (many_calls (fun k b W' => ∃ (zs : List α) (r' : Rd), St W' r' zs ∧ zs.length = k ∧ r'.bad = b ∧ many p n r = (zs ++ (many p (n - k) r').1, (many p (n - k) r').2)) B n g lb r.bad W hn ⟨[], r, h0, rfl, rfl, rfl⟩ eg ?_ ?_).mono ?_
  · rintro k b W' ⟨zs, r', h1, _, rfl, _⟩
    exact hc _ _ _ h1
  · rintro k W' hk ⟨zs, r', h1, hzl, hbad, h3⟩
    refine (hs W' r' zs h1 (by omega)).mono ?_
    rintro e w' ⟨rfl, h4⟩
    refine ⟨rfl, (p r').2.bad, zs ++ [(p r').1], (p r').2, h4, by simp [hzl], rfl, ?_⟩
    rw [h3, show n - k = (n - (k + 1)) + 1 from by omega, many, if_neg (by rw [hbad]; simp)]
    simp
  · rintro e w' ⟨rfl, k, b, hk, ⟨zs, r', h1, hzl, hbad, h3⟩, h4⟩
    refine ⟨rfl, ?_⟩
    have e : many p n r = (zs, r') := by
      rw [h3]
      rcases h4 with rfl | rfl
      · rw [Nat.sub_self, many]; simp
      · rw [many_bad p _ hbad]; simp
    rw [e]
    exact h1

theorem ClS.join {w0 y0 y1 : World} {B b1 b3 : Nat} {r r' : Rd} {cs : Array Value} {T : TypeId} {l l' : List RowF} (h0 : ClS w0 y0 B b1 b3 r cs T l) (h1 : ClS w0 y1 B b1 b3 r' cs T l) (ho : OwnAll y1 y0.heap.size l') : ClS w0 y1 B b1 b3 r' cs T (l ++ l') := by
  have hb := h0.nb.lt
  refine ⟨h1.rd, h1.p1, h1.nb, ⟨fun x hx => ?_, ?_⟩, h1.lt⟩
  · rcases List.mem_append.1 hx with hx | hx
    · exact h1.own.own x hx
    · exact (ho.lower (base' := b3 + 1) (by omega)).own x hx
  · refine List.pairwise_append.2 ⟨h1.own.sep, ho.sep, fun x hx y hy k hk e => ?_⟩
    have k1 := ((h0.own.own x hx).lt k hk).2
    have k2 := ((ho.own y hy).lt k e).1
    omega

theorem rowsN_one {W : World} {base : Nat} {n : Nd} (h : OwnAll W base (rowsN n)) : ∀ u ∈ (#[.int .i64 n.op, n.inV, .int .i64 n.k, .int .i64 n.st, .int .i64 n.pad, .int .i64 n.out, .int .i64 n.mul, .int .i64 n.sh, .int .i64 n.zero, .int .i64 n.th, .int .i64 n.tw, .int .i64 n.tc, n.wV, n.bV] : Array Value).toList, u.oneCell' = true := by
  obtain ⟨_, _, e1, _⟩ := row_of_own (h.own ⟨3, 1, n.inV, n.ins.length, n.ins.map (.int .i64)⟩ (by simp [rowsN]))
  obtain ⟨_, _, e2, _⟩ := row_of_own (h.own ⟨110, 1, n.wV, n.ws.length, n.ws.map (.int .i8)⟩ (by simp [rowsN]))
  obtain ⟨_, _, e3, _⟩ := row_of_own (h.own ⟨21, 1, n.bV, n.bs.length, n.bs.map (.int .i32)⟩ (by simp [rowsN]))
  simp only at e1 e2 e3
  intro u hu
  simp only [List.mem_cons, List.not_mem_nil, or_false] at hu
  rcases hu with rfl | rfl | rfl | rfl | rfl | rfl | rfl | rfl | rfl | rfl | rfl | rfl | rfl | rfl
  · rfl
  · rw [e1]; rfl
  · rfl
  · rfl
  · rfl
  · rfl
  · rfl
  · rfl
  · rfl
  · rfl
  · rfl
  · rfl
  · rw [e2]; rfl
  · rw [e3]; rfl

set_option maxRecDepth 8000 in
set_option maxHeartbeats 3200000 in
/-- A value that goes in more. -/
theorem take1_calls (w0 W : World) (B b1 b3 : Nat) (r : Rd) (cs : Array Value) (T : TypeId) (l : List RowF) (v : Value) (n9 : Nat) (xs : List Value) (h : ClS w0 W B b1 b3 r cs T (⟨41, 4, v, n9, xs⟩ :: l)) (hi : cs[0]? = some v) (hn : n9 ≤ 70000) :
    Calls Tryz.prog 27 #[.pointer (some ⟨b3, 0, none⟩), .pointer (some ⟨b1, 0, none⟩)] W fun e w' => e = .returned (.tuple #[]) ∧ (∃ v', ClS w0 w' B b1 b3 (pVl r).2 (cs.setIfInBounds 0 v') T (⟨41, 4, v', n9 + 1, xs ++ (pVl r).1.cs⟩ :: l)) ∧ Fr b3 B W w' := by
  have c1 : ∀ W', Keeps [b1, b3] W W' → W'.cell? ⟨b3, 0, none⟩ = some v := fun W' hW => (hW.cell (by simp)).trans (by rw [h.nb.cell 0]; exact hi)
  have c2 : ∀ W', Keeps [b1, b3] W W' → W'.cell? ⟨b1, 0, none⟩ = some (.pointer (some ⟨B, 0, none⟩)) := fun W' hW => (hW.cell (by simp)).trans (h.p1.cell 0)
  have hD := h.ext (Ext.drew W)
  have F0 : Fr b3 B W W.drew := Fr.ext (Ext.drew W)
  have K0 : Keeps [b1, b3] W W.drew := Keeps.drew _ _
  clear h
  go_enter Tryz.func27, Tryz.ntmps27
  go_wp2_with fail
  refine wp_region_Z (Keeps [b1, b3] W) 10 [(0, true), (1, true), (2, true), (4, true), (3, false), (5, false), (6, true), (7, false), (8, false), (9, true), (10, false)] (by kernel_rfl) (by kernel_rfl) (fun _ _ d _ _ h => by cases d <;> exact h) K0 ?_
  simp only [pickE, List.getElem?_cons_zero, List.getElem?_cons_succ]
  repeat (refine wpZ_pure (by rfl) (fun W hW => by go_simp; with_reducible rfl) ?_; try simp only [Act.put, List.setIfInBounds_toArray, List.set_cons_zero, List.set_cons_succ])
  generalize W.drew = y0 at *
  have hrd := shape_calls w0 y0 B r hD.rd
  unfold PsPost at hrd
  obtain ⟨⟨⟨a1, a2, a3⟩, r1⟩, e1⟩ : ∃ x, pShape r = x := ⟨_, rfl⟩
  obtain ⟨⟨z, r2⟩, e2⟩ : ∃ x, pZero r1 = x := ⟨_, rfl⟩
  have HV : Hid (pVl r = (⟨⟨a1, a2, a3⟩, z⟩, r2)) := by
    show _ = _
    simp only [pVl, Ps.bind, Ps.ret, e1, e2]
  rw [e1] at hrd
  simp only [Sz.v] at hrd
  refine wpZ_step (by rfl) (fun K hK => ?_)
  go_simp
  refine hrd.mono ?_
  rintro e ya ⟨rfl, hr1, hg1⟩
  have ha := hD.read hr1 hg1
  have Ka := K0.trans (hD.keeps hg1)
  have Fa := F0.trans (Fr.grown (lo := b3) (B := B) hg1 (fun k hk => .inl (by cases hk; rfl)))
  refine hK _ _ Ka ?_
  clear hK K hrd hr1 hg1 hD K0 F0 e1
  try simp only [Act.put, List.setIfInBounds_toArray, List.set_cons_zero, List.set_cons_succ]
  repeat (refine wpZ_pure (by rfl) (fun W hW => by go_simp; with_reducible rfl) ?_; try simp only [Act.put, List.setIfInBounds_toArray, List.set_cons_zero, List.set_cons_succ])
  have hrd := zero_calls w0 ya B r1 ha.rd
  unfold PsPost at hrd
  rw [e2] at hrd
  refine wpZ_step (by rfl) (fun K hK => ?_)
  go_simp
  refine hrd.mono ?_
  rintro e y1 ⟨rfl, hr1, hg1⟩
  have h1 := ha.read hr1 hg1
  have K1 := Ka.trans (ha.keeps hg1)
  have F1 := Fa.trans (Fr.grown (lo := b3) (B := B) hg1 (fun k hk => .inl (by cases hk; rfl)))
  refine hK _ _ K1 ?_
  clear hK K hrd hr1 hg1 ha Ka Fa e2
  try simp only [Act.put, List.setIfInBounds_toArray, List.set_cons_zero, List.set_cons_succ]
  repeat (refine wpZ_pure (by rfl) (fun W hW => by go_simp; with_reducible rfl) ?_; try simp only [Act.put, List.setIfInBounds_toArray, List.set_cons_zero, List.set_cons_succ])
  have hone : ∀ u ∈ (#[.int .i64 a1, .int .i64 a2, .int .i64 a3, .int .i64 z] : Array Value).toList, u.oneCell' = true := by intro u hu; simp at hu; rcases hu with rfl | rfl | rfl | rfl <;> rfl
  have hE2 := ext_alloc y1 (.cells (#[.int .i64 a1, .int .i64 a2, .int .i64 a3, .int .i64 z] : Array Value) 41)
  have hnew := row_new y1 (#[.int .i64 a1, .int .i64 a2, .int .i64 a3, .int .i64 z] : Array Value) 41 1 4 rfl (by decide)
  have h2 := h1.ext hE2
  have K2 := K1.trans (h1.keepsE hE2)
  have F2 := F1.trans (Fr.ext (lo := b3) (B := B) hE2)
  refine wpZ_step (by rfl) (fun K hK => ?_)
  go_simp
  refine hK _ _ K2 ?_
  clear hK K h1 K1 F1 hE2
  generalize y1.alloc _ = y2 at *
  try simp only [Act.put, List.setIfInBounds_toArray, List.set_cons_zero, List.set_cons_succ]
  repeat (refine wpZ_pure (by rfl) (fun W hW => by go_simp; with_reducible rfl) ?_; try simp only [Act.put, List.setIfInBounds_toArray, List.set_cons_zero, List.set_cons_succ])
  have hown := h2.own.own _ (List.mem_cons_self ..)
  have hbase : b3 + 1 ≤ y2.heap.size := h2.nb.lt
  have hk1 : n9 + 1 ≤ 140737488355328 := by omega
  have hk2 : (n9 + 1) * 32 ≤ 140737488355328 := by omega
  refine wpZ_step (by rfl) (fun K hK => ?_)
  refine wp_append_row rfl elem_vl hown rfl hnew rfl hone hk1 hk2 hbase (fun v' y3 ho hgr hnr => ?_)
  have K3 := K2.trans (h2.keepsR hgr)
  refine hK _ _ K3 ?_
  clear hK K
  obtain ⟨p1, p2, p3, p4, p5⟩ := h2.push ho hgr hnr 0
  rw [hi] at p5
  obtain ⟨A, c, ev, _⟩ := row_of_own ho
  clear ho hgr hnr hnew hown K2 h2
  have F3 := F2.trans p2
  try simp only [Act.put, List.setIfInBounds_toArray, List.set_cons_zero, List.set_cons_succ]
  repeat (refine wpZ_pure (by rfl) (fun W hW => by go_simp; with_reducible rfl) ?_; try simp only [Act.put, List.setIfInBounds_toArray, List.set_cons_zero, List.set_cons_succ])
  subst ev
  refine wpZ_last (by rfl) (fun K hK => ?_)
  go_simp
  refine hK _ _ ?_
  clear hK K
  try simp only [Act.put, List.setIfInBounds_toArray, List.set_cons_zero, List.set_cons_succ]
  go_wp2_with fail
  go_end0
  exact ⟨rfl, ⟨_, by rw [HV.out]; exact p1⟩, F3⟩

set_option maxRecDepth 8000 in
set_option maxHeartbeats 3200000 in
/-- A node more. -/
theorem take2_calls (w0 W : World) (B b1 b3 : Nat) (r : Rd) (cs : Array Value) (T : TypeId) (l : List RowF) (v : Value) (n9 : Nat) (xs : List Value) (h : ClS w0 W B b1 b3 r cs T (⟨67, 14, v, n9, xs⟩ :: l)) (hi : cs[1]? = some v) (hn : n9 ≤ 70000) :
    Calls Tryz.prog 30 #[.pointer (some ⟨b3, 0, none⟩), .pointer (some ⟨b1, 0, none⟩)] W fun e w' => e = .returned (.tuple #[]) ∧ (∃ (v' : Value) (n : Nd), n.c = (pNode r).1 ∧ NdFit n ∧ ClS w0 w' B b1 b3 (pNode r).2 (cs.setIfInBounds 1 v') T (⟨67, 14, v', n9 + 1, xs ++ n.cs⟩ :: (l ++ rowsN n))) ∧ Fr b3 B W w' := by
  have c1 : ∀ W', Keeps [b1, b3] W W' → W'.cell? ⟨b3, 1, none⟩ = some v := fun W' hW => (hW.cell (by simp)).trans (by rw [h.nb.cell 1]; exact hi)
  have c2 : ∀ W', Keeps [b1, b3] W W' → W'.cell? ⟨b1, 0, none⟩ = some (.pointer (some ⟨B, 0, none⟩)) := fun W' hW => (hW.cell (by simp)).trans (h.p1.cell 0)
  have hD := h.ext (Ext.drew W)
  have F0 : Fr b3 B W W.drew := Fr.ext (Ext.drew W)
  have K0 : Keeps [b1, b3] W W.drew := Keeps.drew _ _
  clear h
  go_enter Tryz.func30, Tryz.ntmps30
  go_wp2_with fail
  refine wp_region_Z (Keeps [b1, b3] W) 7 [(0, true), (1, true), (2, true), (3, false), (4, false), (5, false), (6, true), (7, false)] (by kernel_rfl) (by kernel_rfl) (fun _ _ d _ _ h => by cases d <;> exact h) K0 ?_
  simp only [pickE, List.getElem?_cons_zero, List.getElem?_cons_succ]
  repeat (refine wpZ_pure (by rfl) (fun W hW => by go_simp; with_reducible rfl) ?_; try simp only [Act.put, List.setIfInBounds_toArray, List.set_cons_zero, List.set_cons_succ])
  generalize W.drew = y0 at *
  have hrd := pnode_calls w0 y0 B r hD.rd
  refine wpZ_step (by rfl) (fun K hK => ?_)
  go_simp
  refine hrd.mono ?_
  rintro e y1 ⟨n, rfl, hnc, hr1, hg1, hon, hfit⟩
  have h1 := ClS.join hD (hD.read hr1 hg1) hon
  have K1 := K0.trans (hD.keeps hg1)
  have F1 := F0.trans (Fr.grown (lo := b3) (B := B) hg1 (fun k hk => .inl (by cases hk; rfl)))
  have hone := rowsN_one hon
  have HNC := Lib.hid hnc
  refine hK _ _ K1 ?_
  clear hK K hrd hr1 hg1 hD K0 F0 hon hnc
  try simp only [Act.put, List.setIfInBounds_toArray, List.set_cons_zero, List.set_cons_succ]
  repeat (refine wpZ_pure (by rfl) (fun W hW => by go_simp; with_reducible rfl) ?_; try simp only [Act.put, List.setIfInBounds_toArray, List.set_cons_zero, List.set_cons_succ])
  have hE2 := ext_alloc y1 (.cells (#[.int .i64 n.op, n.inV, .int .i64 n.k, .int .i64 n.st, .int .i64 n.pad, .int .i64 n.out, .int .i64 n.mul, .int .i64 n.sh, .int .i64 n.zero, .int .i64 n.th, .int .i64 n.tw, .int .i64 n.tc, n.wV, n.bV] : Array Value) 67)
  have hnew := row_new y1 (#[.int .i64 n.op, n.inV, .int .i64 n.k, .int .i64 n.st, .int .i64 n.pad, .int .i64 n.out, .int .i64 n.mul, .int .i64 n.sh, .int .i64 n.zero, .int .i64 n.th, .int .i64 n.tw, .int .i64 n.tc, n.wV, n.bV] : Array Value) 67 1 14 rfl (by decide)
  have h2 := h1.ext hE2
  have K2 := K1.trans (h1.keepsE hE2)
  have F2 := F1.trans (Fr.ext (lo := b3) (B := B) hE2)
  refine wpZ_step (by rfl) (fun K hK => ?_)
  go_simp
  refine hK _ _ K2 ?_
  clear hK K h1 K1 F1 hE2
  generalize y1.alloc _ = y2 at *
  try simp only [Act.put, List.setIfInBounds_toArray, List.set_cons_zero, List.set_cons_succ]
  repeat (refine wpZ_pure (by rfl) (fun W hW => by go_simp; with_reducible rfl) ?_; try simp only [Act.put, List.setIfInBounds_toArray, List.set_cons_zero, List.set_cons_succ])
  have hown := h2.own.own _ (List.mem_cons_self ..)
  have hbase : b3 + 1 ≤ y2.heap.size := h2.nb.lt
  have hk1 : n9 + 1 ≤ 140737488355328 := by omega
  have hk2 : (n9 + 1) * 160 ≤ 140737488355328 := by omega
  refine wpZ_step (by rfl) (fun K hK => ?_)
  refine wp_append_row rfl elem_nd hown rfl hnew rfl hone hk1 hk2 hbase (fun v' y3 ho hgr hnr => ?_)
  have K3 := K2.trans (h2.keepsR hgr)
  refine hK _ _ K3 ?_
  clear hK K
  obtain ⟨p1, p2, p3, p4, p5⟩ := h2.push ho hgr hnr 1
  rw [hi] at p5
  obtain ⟨A, c, ev, _⟩ := row_of_own ho
  clear ho hgr hnr hnew hown K2 h2
  have F3 := F2.trans p2
  try simp only [Act.put, List.setIfInBounds_toArray, List.set_cons_zero, List.set_cons_succ]
  repeat (refine wpZ_pure (by rfl) (fun W hW => by go_simp; with_reducible rfl) ?_; try simp only [Act.put, List.setIfInBounds_toArray, List.set_cons_zero, List.set_cons_succ])
  subst ev
  refine wpZ_last (by rfl) (fun K hK => ?_)
  go_simp
  refine hK _ _ ?_
  clear hK K
  try simp only [Act.put, List.setIfInBounds_toArray, List.set_cons_zero, List.set_cons_succ]
  go_wp2_with fail
  go_end0
  exact ⟨rfl, ⟨_, n, HNC.out, hfit, p1⟩, F3⟩

end Go.Proofs.YtdhdbmfipkppiaaGreat
