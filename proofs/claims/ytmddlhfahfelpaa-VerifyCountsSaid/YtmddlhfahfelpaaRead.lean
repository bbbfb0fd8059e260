/- The walk of the writer of graphs: node. -/
/- The walk of model.Put. -/
/- The walk of the head of the laws of graphs as bytes: the document's example. -/
/- The walk of less: a graph of few values, nodes, weights. -/
/- How an argument of whatever shape reads: numbers, bools, strings, slices, structs, arrays, one in the other. It speaks of no program. -/
import Derived.Test.YtmddlhfahfelpaaVok
import Derived.Test.YtmddlhfahfelpaaRegW
import Derived.OpenShut
import Derived.Deep.Slices
set_option linter.unusedSimpArgs false
set_option linter.unusedVariables false
set_option linter.unnecessarySimpa false
namespace Go.Proofs.Ytmddlhfahfelpaa
open Go.RowKit

end Go.Proofs.Ytmddlhfahfelpaa

namespace Go.Proofs.Ytmddlhfahfelpaa
open Go.RowKit

/-- A row of bytes of the call's own. -/
def OwnB (w0 w : World) (v : Value) (bs : List Int) : Prop := w.ownsRow w0.heap.size 5 1 v bs.length (bs.map (.int .u8))
theorem OwnB.ints {w0 w : World} {v : Value} {bs : List Int} (h : OwnB w0 w v bs) : Ints .u8 w v bs := ints_of_own h
theorem OwnB.ext {w0 w W : World} {v : Value} {bs : List Int} (h : OwnB w0 w v bs) (e : Ext w W) : OwnB w0 W v bs := World.ownsRow.kept (row := none) h (grown_of_ext e) (by cases v.ownBlock <;> simp)

def PutPost (g : Gr) (w : World) (e : Ending) (w' : World) : Prop :=
  ((valuesR g).2 = 0 → ∃ v, e = .returned (.tuple #[v, .int .i64 0]) ∧ OwnB w w' v (encG g.c)) ∧
  ((valuesR g).2 ≠ 0 → e = .returned (.tuple #[.slice none 0 0, .int .i64 (valuesR g).2])) ∧ Ext w w'

end Go.Proofs.Ytmddlhfahfelpaa

namespace Go.Proofs.Ytmddlhfahfelpaa
open Go.RowKit

def exG (b : Nat) : Gr := ⟨.slice (some ⟨b, 0, none⟩) 1 1, .slice none 0 0, .slice (some ⟨b + 1, 0, none⟩) 1 1, [⟨⟨1, 2, 3⟩, 0⟩], [], [0]⟩
end Go.Proofs.Ytmddlhfahfelpaa

namespace Go.Proofs.Ytmddlhfahfelpaa
open Go.RowKit

/-- A node, of whatever rows. -/
def nodeIn (w : World) (n : Nd) : Prop := Ints .i64 w n.inV n.ins ∧ Ints .i8 w n.wV n.ws ∧ Ints .i32 w n.bV n.bs ∧ (∀ z ∈ n.bs, InK .i32 z) ∧ (∀ z ∈ n.ws, InK .i8 z)

/-- A graph, of whatever rows. -/
structure GrIn (w : World) (g : Gr) : Prop where
  ins : Vls w g.iV g.ins
  nodes : SRow w g.nV Nd.cs 14 g.nodes
  outs : Ints .i64 w g.oV g.outs
  each : ∀ n ∈ g.nodes, nodeIn w n

theorem elem_nd : ElemT Try.prog 23 51 14 160 := elemT_of (z := .agg #[.int .i64 0, .slice none 0 0, .int .i64 0, .int .i64 0, .int .i64 0, .int .i64 0, .int .i64 0, .int .i64 0, .int .i64 0, .int .i64 0, .int .i64 0, .int .i64 0, .slice none 0 0, .slice none 0 0]) Try.underlying23 (by kernel_rfl) rfl (by omega)

/-- What stands while the nodes are cut. -/
structure LessS (w W : World) (c1 : Array Value) (v : Value) (ns : List Nd) : Prop where
  box1 : Blk W w.heap.size c1 26
  box2 : Blk W (w.heap.size + 1) #[.slice none 0 0, .slice none 0 0, .slice none 0 0] 26
  own : W.ownsRow (w.heap.size + 2) 51 14 v ns.length (ns.flatMap Nd.cs)
  ext : Ext w W
theorem LessS.later {w W W' : World} {c1 : Array Value} {v : Value} {ns : List Nd} (h : LessS w W c1 v ns) (e : Ext W W') : LessS w W' c1 v ns :=
  ⟨h.box1.ext e, h.box2.ext e, World.ownsRow.kept (row := none) h.own (grown_of_ext e) (by cases v.ownBlock <;> simp), h.ext.trans e⟩
theorem LessS.set {w W : World} {c1 : Array Value} {v : Value} {ns : List Nd} (h : LessS w W c1 v ns) {yb : Nat} (hy : w.heap.size + 2 ≤ yb) (hv : v.ownBlock ≠ some yb) (i : Nat) (x : Value) : LessS w (W.setCell ⟨yb, i, none⟩ x) c1 v ns :=
  ⟨h.box1.grown (setCell_grown _ _ _ _) (by simp; omega), h.box2.grown (setCell_grown _ _ _ _) (by simp; omega), ownsRow_setCell_other h.own hv _, Below.setCell h.ext (by show w.heap.size ≤ yb; omega) _⟩

theorem nodeIn.cutI {w : World} {n : Nd} {A : Option Addr} {c k : Nat} (h : nodeIn w n) (e : n.inV = .slice A n.ins.length c) (hk : k ≤ n.ins.length) : nodeIn w { n with inV := .slice A k c, ins := n.ins.take k } :=
  ⟨Ints.first (by rw [← e]; exact h.1) hk, h.2.1, h.2.2.1, h.2.2.2⟩
theorem nodeIn.cutW {w : World} {n : Nd} {A : Option Addr} {c k : Nat} (h : nodeIn w n) (e : n.wV = .slice A n.ws.length c) (hk : k ≤ n.ws.length) : nodeIn w { n with wV := .slice A k c, ws := n.ws.take k } :=
  ⟨h.1, Ints.first (by rw [← e]; exact h.2.1) hk, h.2.2.1, h.2.2.2.1, fun z hz => h.2.2.2.2 z (List.mem_of_mem_take hz)⟩
theorem nodeIn.cutB {w : World} {n : Nd} {A : Option Addr} {c k : Nat} (h : nodeIn w n) (e : n.bV = .slice A n.bs.length c) (hk : k ≤ n.bs.length) : nodeIn w { n with bV := .slice A k c, bs := n.bs.take k } :=
  ⟨h.1, h.2.1, Ints.first (by rw [← e]; exact h.2.2.1) hk, fun z hz => h.2.2.2.1 z (List.mem_of_mem_take hz), h.2.2.2.2⟩

theorem node_cs_one {w : World} {n : Nd} (h : nodeIn w n) : ∀ u ∈ n.cs, u.oneCell' = true := by
  obtain ⟨_, _, e1, _⟩ := h.1.form
  obtain ⟨_, _, e2, _⟩ := h.2.1.form
  obtain ⟨_, _, e3, _⟩ := h.2.2.1.form
  intro u hu
  unfold Nd.cs at hu
  rw [e1, e2, e3] at hu
  simp only [List.mem_cons, List.not_mem_nil, or_false] at hu
  rcases hu with rfl | rfl | rfl | rfl | rfl | rfl | rfl | rfl | rfl | rfl | rfl | rfl | rfl | rfl <;> rfl

theorem flat_take {α : Type} {cs : α → List Value} {sz : Nat} (hsz : ∀ x, (cs x).length = sz) : ∀ (l : List α) (k : Nat), (l.flatMap cs).take (k * sz) = (l.take k).flatMap cs
  | [], k => by simp
  | a :: l, 0 => by simp
  | a :: l, k + 1 => by
    rw [List.flatMap_cons, List.take_succ_cons, List.flatMap_cons, ← flat_take hsz l k, Nat.add_mul, Nat.one_mul, Nat.add_comm, ← hsz a, List.take_length_add_append]
theorem SRow.first {w : World} {α : Type} {cs : α → List Value} {sz : Nat} {l : List α} {A : Option Addr} {n c k : Nat} (h : SRow w (.slice A n c) cs sz l) (hsz : ∀ x, (cs x).length = sz) (hk : k ≤ l.length) : SRow w (.slice A k c) cs sz (l.take k) := by
  have e : n = l.length := by
    obtain ⟨_, _, e, _⟩ := h
    cases e
    rfl
  subst e
  have := Row.first h rfl k hk
  rw [flat_take hsz] at this
  unfold SRow
  rw [List.length_take, Nat.min_eq_left hk]
  exact this

/-- A graph whose nodes lie in a row of a call's own, all its other rows where they lay. -/
structure GrL (w0 : World) (base : Nat) (W : World) (g : Gr) : Prop where
  ins : Vls w0 g.iV g.ins
  outs : Ints .i64 w0 g.oV g.outs
  each : ∀ n ∈ g.nodes, nodeAt w0 n
  own : W.ownsRow base 51 14 g.nV g.nodes.length (g.nodes.flatMap Nd.cs)
  ext : Ext w0 W
  il : g.ins.length ≤ 255
  nl : g.nodes.length ≤ 255
  ol : g.outs.length ≤ 255
theorem GrL.at {w0 W : World} {base : Nat} {g : Gr} (h : GrL w0 base W g) : GrAt W g :=
  ⟨h.ins.ext h.ext, row_of_own h.own, h.outs.ext h.ext, fun n hn => (h.each n hn).ext h.ext, h.il, h.nl, h.ol⟩
theorem GrL.later {w0 W W' : World} {base : Nat} {g : Gr} (h : GrL w0 base W g) (e : Ext W W') : GrL w0 base W' g :=
  ⟨h.ins, h.outs, h.each, World.ownsRow.kept (row := none) h.own (grown_of_ext e) (by cases g.nV.ownBlock <;> simp), h.ext.trans e, h.il, h.nl, h.ol⟩
theorem GrL.setRow {w0 W : World} {base b : Nat} {g : Gr} (h : GrL w0 base W g) (h1 : w0.heap.size ≤ b) (h2 : b < base) (cs : Array Value) : GrL w0 base (W.setRow b cs) g :=
  ⟨h.ins, h.outs, h.each, World.ownsRow.kept h.own (setRow_grown W b cs) (.inr fun e => by have := (h.own.lt _ e).1; omega), ext_setRow h.ext cs h1, h.il, h.nl, h.ol⟩
theorem GrIn.ext {w W : World} {g : Gr} (h : GrIn w g) (e : Ext w W) : GrIn W g :=
  ⟨h.ins.ext e, Row.below h.nodes e, h.outs.ext e, fun n hn => ⟨(h.each n hn).1.ext e, (h.each n hn).2.1.ext e, (h.each n hn).2.2.1.ext e, (h.each n hn).2.2.2⟩⟩

def LessPost (w0 w : World) (e : Ending) (w' : World) : Prop := ∃ g' : Gr, e = .returned (.agg #[g'.iV, g'.nV, g'.oV]) ∧ GrL w0 (w.heap.size + 2) w' g' ∧ Ext w w'

end Go.Proofs.Ytmddlhfahfelpaa

namespace Go.Proofs.Ytmddlhfahfelpaa
open Go.ChangeShapes Go.WideShapes Go.ChangeAt Go.RowKit

/-- A shape. -/
inductive Ty where
  | int (k : IntKind)
  | bool
  | sl (e : Ty)
  | st (b : Ty)
  | unit
  | pair (a b : Ty)

/-- What something of a shape reads as. -/
inductive D where
  | i (z : Int)
  | b (x : Bool)
  | l (xs : List D)
  | u
  | p (x y : D)

def Ty.cells : Ty → Nat
  | .int _ | .bool | .sl _ => 1
  | .st b => b.cells
  | .unit => 0
  | .pair a b => a.cells + b.cells

/-- These cells read so. -/
def Ty.reads (w : World) : Ty → List Value → D → Prop
  | .int k, cs, d => ∃ z, cs = [.int k z] ∧ InK k z ∧ d = .i z
  | .bool, cs, d => ∃ x, cs = [.bool x] ∧ d = .b x
  | .sl e, cs, d => ∃ v n xs ds, cs = [v] ∧ Row w v n e.cells xs ∧ d = .l ds ∧ ds.length = n ∧ ∀ (j : Nat) (x : D), ds[j]? = some x → e.reads w ((xs.drop (j * e.cells)).take e.cells) x
  | .st b, cs, d => b.reads w cs d
  | .unit, cs, d => cs = [] ∧ d = .u
  | .pair a b, cs, d => ∃ c1 c2 x y, cs = c1 ++ c2 ∧ c1.length = a.cells ∧ a.reads w c1 x ∧ b.reads w c2 y ∧ d = .p x y

/-- What a shape is held against. -/
inductive Sh where
  | ty (t : TypeId)
  | flds (fs : List Field) (off : Nat)
  | elems (n : Nat) (e : TypeId)

def Ty.fits (P : Program) : Ty → Sh → Bool
  | .int k, .ty t => match P.underlying t with
    | some (.int k') => decide (k = k')
    | _ => false
  | .bool, .ty t => match P.underlying t with
    | some .bool => true
    | _ => false
  | .sl e, .ty t => match P.underlying t with
    | some (.slice te) => e.fits P (.ty te) && P.cellsOf te == e.cells && decide (0 < e.cells)
    | _ => false
  | .st b, .ty t => match P.underlying t with
    | some (.struct fs) => b.fits P (.flds fs.toList 0) && P.cellsOf t == b.cells
    | some (.array n te) => b.fits P (.elems n te) && P.cellsOf t == b.cells
    | _ => false
  | .unit, .flds [] _ => true
  | .pair a b, .flds (f :: fs) off => f.offset == off && P.cellsOf f.type == a.cells && a.fits P (.ty f.type) && b.fits P (.flds fs (off + a.cells))
  | .unit, .elems 0 _ => true
  | .pair a b, .elems (n + 1) te => P.cellsOf te == a.cells && a.fits P (.ty te) && b.fits P (.elems n te)
  | _, _ => false

section
variable {H : Type} {enc : TypeId × Value → H} {P : Program} {w : World} {base : Nat} {spare : Nat → Bool} {held : Bool}

def Got (enc : TypeId × Value → H) (P : Program) (w : World) (base : Nat) (spare : Nat → Bool) (held : Bool) (m : Nat) : Sh → List Value → Prop
  | .ty t, cs => ∃ x, DataW.trod enc P w base spare held m t cs = some x
  | .flds fs off, cs => ∃ all : List Value, (∀ f ∈ fs, ∃ x, DataW.trod enc P w base spare held m f.type ((all.drop f.offset).take (P.cellsOf f.type)) = some x) ∧ cs = all.drop off
  | .elems n e, cs => ∀ i, i < n → ∃ x, DataW.trod enc P w base spare held m e ((cs.drop (i * P.cellsOf e)).take (P.cellsOf e)) = some x

theorem choose_list {α : Type} {n : Nat} {p : Nat → α → Prop} (h : ∀ i, i < n → ∃ x, p i x) : ∃ l : List α, l.length = n ∧ ∀ i x, l[i]? = some x → p i x := by
  induction n with
  | zero => exact ⟨[], rfl, fun i x h => by simp at h⟩
  | succ n ih =>
    obtain ⟨l, hl, hp⟩ := ih fun i hi => h i (by omega)
    obtain ⟨y, hy⟩ := h n (by omega)
    refine ⟨l ++ [y], by simp [hl], fun i x hx => ?_⟩
    rw [List.getElem?_append] at hx
    split at hx
    · exact hp i x hx
    · rename_i hi
      have : i = n := by
        rcases Nat.lt_or_ge (i - l.length) 1 with h1 | h1
        · omega
        · rw [List.getElem?_eq_none (by simpa using h1)] at hx; cases hx
      subst this
      rw [hl, Nat.sub_self] at hx
      simp at hx
      exact hx ▸ hy

theorem reads_of (T : Ty) : ∀ (s : Sh) (m : Nat) (cs : List Value), T.fits P s = true → Got enc P w base spare held m s cs → cs.length = T.cells → ∃ d, T.reads w cs d := by
  induction T with
  | int k =>
    intro s m cs hf hg _
    cases s with
    | ty t =>
      simp only [Ty.fits] at hf
      split at hf
      · rename_i k' ht
        obtain rfl := of_decide_eq_true hf
        obtain ⟨x, hx⟩ := hg
        obtain ⟨z, rfl, _, hw⟩ := DataW.trod_int ht hx
        exact ⟨.i z, z, rfl, inK_of_wf hw, rfl⟩
      · cases hf
    | flds fs off => cases fs <;> simp [Ty.fits] at hf
    | elems n e => cases n <;> simp [Ty.fits] at hf
  | bool =>
    intro s m cs hf hg _
    cases s with
    | ty t =>
      simp only [Ty.fits] at hf
      split at hf
      · rename_i ht
        obtain ⟨x, hx⟩ := hg
        obtain ⟨z, rfl, _⟩ := DataW.trod_bool ht hx
        exact ⟨.b z, z, rfl, rfl⟩
      · cases hf
    | flds fs off => cases fs <;> simp [Ty.fits] at hf
    | elems n e => cases n <;> simp [Ty.fits] at hf
  | sl e ih =>
    intro s m cs hf hg _
    cases s with
    | ty t =>
      simp only [Ty.fits] at hf
      split at hf
      · rename_i te ht
        simp only [Bool.and_eq_true, beq_iff_eq, decide_eq_true_eq] at hf
        obtain ⟨⟨hf, hc⟩, hp⟩ := hf
        obtain ⟨x, hx⟩ := hg
        rcases Deep.open_slice ht hx with ⟨rfl, _⟩ | ⟨a, len, cap, mm, n, Dd, Pl, rfl, _, hl, hm, hmm, _, hall⟩
        · exact ⟨.l [], _, 0, [], [], rfl, row_nil w _, rfl, rfl, fun j x h => by simp at h⟩
        · have hlen : len ≤ mm := by rw [hmm]; split <;> omega
          have hcs : ∀ i, i < len → ∃ c : List Value × D, w.cells? base (a.add (i * e.cells)) e.cells = some c.1 ∧ c.1.length = e.cells ∧ e.reads w c.1 c.2 := by
            intro i hi
            obtain ⟨cs', h1, h2⟩ := hall i (by omega)
            rw [hc] at h1
            obtain ⟨_, hl', _⟩ := World.cells?_some h1
            obtain ⟨d, hd⟩ := ih (.ty te) n cs' hf ⟨_, h2⟩ hl'
            exact ⟨(cs', d), h1, hl', hd⟩
          obtain ⟨l, hll, hlp⟩ := choose_list hcs
          have hblk : ∀ (l : List (List Value × D)), (∀ (i : Nat) (x : List Value × D), l[i]? = some x → x.1.length = e.cells) → (l.flatMap (·.1)).length = l.length * e.cells ∧
              ∀ (i : Nat) (x : List Value × D), l[i]? = some x → ((l.flatMap (·.1)).drop (i * e.cells)).take e.cells = x.1 := by
            intro l
            induction l with
            | nil => intro _; exact ⟨by simp, fun i x h => by simp at h⟩
            | cons y l ihl =>
              intro h
              have hy := h 0 y rfl
              obtain ⟨h1, h2⟩ := ihl fun i x hx => h (i + 1) x (by simpa using hx)
              refine ⟨by simp [h1, hy, Nat.add_mul, Nat.add_comm], fun i x hx => ?_⟩
              cases i with
              | zero =>
                simp at hx
                subst hx
                simp [← hy]
              | succ i =>
                simp at hx
                rw [List.flatMap_cons, Nat.add_mul, Nat.one_mul, Nat.add_comm, ← List.drop_drop, ← hy, List.drop_left, hy]
                exact h2 i x hx
          obtain ⟨hb1, hb2⟩ := hblk l fun i x hx => (hlp i x hx).2.1
          refine ⟨.l (l.map (·.2)), _, len, l.flatMap (·.1), l.map (·.2), rfl, ?_, rfl, by simp [hll], ?_⟩
          · refine row_of_cells hl hm (by rw [hb1, hll]) fun j u hj => ?_
            have hj' : j < len * e.cells := by
              rcases Nat.lt_or_ge j (len * e.cells) with h | h
              · exact h
              · rw [List.getElem?_eq_none (by rw [hb1, hll]; exact h)] at hj; cases hj
            have hq : j / e.cells < len := Nat.div_lt_of_lt_mul (by rw [Nat.mul_comm]; exact hj')
            have hr : j % e.cells < e.cells := Nat.mod_lt _ hp
            have hje : j / e.cells * e.cells + j % e.cells = j := by rw [Nat.mul_comm]; exact Nat.div_add_mod _ _
            obtain ⟨x, hx⟩ : ∃ x, l[j / e.cells]? = some x := ⟨l[j / e.cells], by simp [hll, hq]⟩
            obtain ⟨hc1, hc2, _⟩ := hlp _ _ hx
            have hu : x.1[j % e.cells]? = some u := by
              rw [← hb2 _ _ hx, List.getElem?_take, if_pos hr, List.getElem?_drop, hje]
              exact hj
            obtain ⟨_, _, h3⟩ := World.cells?_some hc1
            have h4 := h3 (j % e.cells) hr
            rw [hu] at h4
            have h5 : (a.add (j / e.cells * e.cells)).add (j % e.cells) = a.add j := by
              rw [Addr.add_add, hje]
            rw [h5] at h4
            exact h4
          · intro j x hx
            rw [List.getElem?_map] at hx
            cases hlj : l[j]? with
            | none => rw [hlj] at hx; cases hx
            | some y =>
              rw [hlj] at hx
              simp at hx
              subst hx
              rw [hb2 j y hlj]
              exact (hlp j y hlj).2.2
      · cases hf
    | flds fs off => cases fs <;> simp [Ty.fits] at hf
    | elems n e => cases n <;> simp [Ty.fits] at hf
  | st b ih =>
    intro s m cs hf hg hl
    cases s with
    | ty t =>
      simp only [Ty.fits] at hf
      split at hf
      · rename_i fs ht
        simp only [Bool.and_eq_true, beq_iff_eq] at hf
        obtain ⟨x, hx⟩ := hg
        obtain ⟨xs, n, rfl, _, _, hlen, hall⟩ := DataW.trod_struct ht hx
        refine ih (.flds fs.toList 0) n cs hf.1 ⟨cs, fun f hmem => ?_, rfl⟩ hl
        obtain ⟨i, hi, rfl⟩ := List.getElem_of_mem hmem
        have h1 := hall i fs.toList[i] (by simp at hi ⊢)
        rw [h1]
        have : i < xs.length := by rw [hlen]; simpa using hi
        exact ⟨xs[i], by simp [this]⟩
      · rename_i n te ht
        simp only [Bool.and_eq_true, beq_iff_eq] at hf
        obtain ⟨x, hx⟩ := hg
        obtain ⟨xs, m', rfl, _, _, hlen, hall⟩ := DataW.trod_array ht hx
        refine ih (.elems n te) m' cs hf.1 (fun i hi => ?_) hl
        rw [hall i hi]
        exact ⟨xs[i]'(by omega), by simp [show i < xs.length by omega]⟩
      · cases hf
    | flds fs off => cases fs <;> simp [Ty.fits] at hf
    | elems n e => cases n <;> simp [Ty.fits] at hf
  | unit =>
    intro s m cs hf hg hl
    exact ⟨.u, List.eq_nil_of_length_eq_zero hl, rfl⟩
  | pair a b iha ihb =>
    intro s m cs hf hg hl
    simp only [Ty.cells] at hl
    cases s with
    | ty t => simp [Ty.fits] at hf
    | flds fs off =>
      cases fs with
      | nil => simp [Ty.fits] at hf
      | cons f fs =>
        simp only [Ty.fits, Bool.and_eq_true, beq_iff_eq] at hf
        obtain ⟨⟨⟨h1, h2⟩, h3⟩, h4⟩ := hf
        obtain ⟨all, hall, rfl⟩ := hg
        obtain ⟨x, hx⟩ := hall f (by simp)
        rw [h1, h2] at hx
        have hlt : ((all.drop off).take a.cells).length = a.cells := by rw [List.length_take]; omega
        obtain ⟨d1, hd1⟩ := iha (.ty f.type) m _ h3 ⟨x, hx⟩ hlt
        obtain ⟨d2, hd2⟩ := ihb (.flds fs (off + a.cells)) m ((all.drop off).drop a.cells) h4 ⟨all, fun g hg => hall g (by simp [hg]), by rw [List.drop_drop]⟩ (by rw [List.length_drop]; omega)
        exact ⟨.p d1 d2, _, _, d1, d2, (List.take_append_drop _ _).symm, hlt, hd1, hd2, rfl⟩
    | elems n te =>
      cases n with
      | zero => simp [Ty.fits] at hf
      | succ n =>
        simp only [Ty.fits, Bool.and_eq_true, beq_iff_eq] at hf
        obtain ⟨⟨h2, h3⟩, h4⟩ := hf
        simp only [Got] at hg
        obtain ⟨x, hx⟩ := hg 0 (by omega)
        rw [Nat.zero_mul, List.drop_zero, h2] at hx
        have hlt : (cs.take a.cells).length = a.cells := by rw [List.length_take]; omega
        obtain ⟨d1, hd1⟩ := iha (.ty te) m _ h3 ⟨x, hx⟩ hlt
        obtain ⟨d2, hd2⟩ := ihb (.elems n te) m (cs.drop a.cells) h4 (fun i hi => by
          obtain ⟨y, hy⟩ := hg (i + 1) (by omega)
          rw [h2] at hy ⊢
          rw [Nat.add_mul, Nat.one_mul, Nat.add_comm, ← List.drop_drop] at hy
          exact ⟨y, hy⟩) (by rw [List.length_drop]; omega)
        exact ⟨.p d1 d2, _, _, d1, d2, (List.take_append_drop _ _).symm, hlt, hd1, hd2, rfl⟩

/-- An argument, by its shape. -/
theorem open_read {t : TypeId} {v : Value} {d : DataW H} {p : List MemPlace} (T : Ty) (hf : T.fits P (.ty t) = true) (h : DataW.Trod enc P w base spare held t v d p) (hl : v.cells.toList.length = T.cells) : ∃ x, T.reads w v.cells.toList x := by
  obtain ⟨m, hm⟩ := h
  exact reads_of (enc := enc) (base := base) (spare := spare) (held := held) T (.ty t) m _ hf ⟨_, hm⟩ hl

theorem okWide_agg {r : Reach} {b0 : Nat} {t : TypeId} {v : Value} (ht : (match P.underlying t with | some (.struct _) | some (.array _ _) => true | _ => false) = true) (h : Value.okWide P w r b0 t v) : ∃ cs, v = .agg cs ∧ cs.size = P.cellsOf t := by
  unfold Value.okWide at h
  split at h
  · obtain ⟨cs, h1, h2, _⟩ := h; exact ⟨cs, h1, h2⟩
  · obtain ⟨cs, h1, h2, _⟩ := h; exact ⟨cs, h1, h2⟩
  · rename_i h1 h2
    split at ht
    · rename_i fs he; exact absurd he (h1 fs)
    · rename_i n e he; exact absurd he (h2 n e)
    · cases ht
end

def u8x4 : Ty := .st (.pair (.int .u8) (.pair (.int .u8) (.pair (.int .u8) (.pair (.int .u8) .unit))))

end Go.Proofs.Ytmddlhfahfelpaa
