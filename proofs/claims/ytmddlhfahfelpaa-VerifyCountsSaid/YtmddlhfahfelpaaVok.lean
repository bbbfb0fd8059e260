/- Numbers as bytes; a row that is appended to again and again. They speak of no program. -/
/- The walk of the writer of graphs: put. -/
/- Graphs as bytes: the plain law. It speaks of no program. -/
/- A graph that may be has numbers of bytes. -/
/- What is known of a graph that may be. -/
import Derived.Test.YtmddlhfahfelpaaRegW
import Derived.Test.YtmddlhfahfelpaaShp
import Derived.OneCell
import Derived.Deep.CutBlock
import Derived.Deep.DeepCutAuto
import Derived.Test.YtmddlhfahfelpaaGrk
set_option linter.unusedSimpArgs false
set_option linter.unusedVariables false
set_option linter.unnecessarySimpa false
namespace Go.Proofs.Ytmddlhfahfelpaa
open Go.RowKit

/-- Byte number i of so many bytes of a number, the highest first. -/
def byteAt (x : Int) (wide i : Nat) : Int := x / 2 ^ (8 * (wide - 1 - i)) % 256
def be (x : Int) (wide : Nat) : List Int := (List.range wide).map (byteAt x wide)
theorem be_len (x : Int) (wide : Nat) : (be x wide).length = wide := by simp [be]
theorem be_take_succ (x : Int) {wide i : Nat} (h : i < wide) : (be x wide).take (i + 1) = (be x wide).take i ++ [byteAt x wide i] := by
  rw [List.take_succ_eq_append_getElem (by rw [be_len]; exact h)]
  simp [be]

theorem grown_near {w w1 w2 : World} {v v1 : Value} (h : w.grownBy w1 v.ownBlock) (hn : Near w v v1) (k : w1.grownBy w2 v1.ownBlock) : w.grownBy w2 v.ownBlock :=
  ⟨k.os.trans h.os, k.tape.trans h.tape, k.output.trans h.output, Nat.le_trans h.size k.size, fun x hx hr => by
    refine (k.block x (Nat.lt_of_lt_of_le hx h.size) (fun e => ?_)).trans (h.block x hx hr)
    rcases hn x e.symm with h1 | h1
    · exact hr h1.symm
    · omega⟩
theorem near_trans {w w1 : World} {v v1 v2 : Value} (h : Near w v v1) (hs : w.heap.size ≤ w1.heap.size) (k : Near w1 v1 v2) : Near w v v2 := fun x hx => by
  rcases k x hx with h1 | h1
  · exact h x h1
  · exact Or.inr (by omega)
theorem near_refl (w : World) (v : Value) : Near w v v := fun _ h => Or.inl h
theorem grown_alloc (w : World) (o : Obj) (row : Option Nat) : w.grownBy (w.alloc o) row := World.grownBy_alloc w o row
/-- A row of the call's own is appended to. -/
structure Grew (w : World) (base : Nat) (e : TypeId) (sz : Nat) (v : Value) (n : Nat) (xs : List Value) (w' : World) (v' : Value) : Prop where
  own : w'.ownsRow base e sz v' n xs
  grown : w.grownBy w' v.ownBlock
  near : Near w v v'
theorem Grew.refl {w : World} {base : Nat} {e : TypeId} {sz : Nat} {v : Value} {n : Nat} {xs : List Value} (h : w.ownsRow base e sz v n xs) : Grew w base e sz v n xs w v := ⟨h, World.grownBy.refl _ _, near_refl _ _⟩
theorem Grew.trans {w w1 w2 : World} {base : Nat} {e : TypeId} {sz : Nat} {v v1 v2 : Value} {n m : Nat} {xs ys : List Value} (h : Grew w base e sz v n xs w1 v1) (k : Grew w1 base e sz v1 m ys w2 v2) : Grew w base e sz v m ys w2 v2 :=
  ⟨k.own, grown_near h.grown h.near k.grown, near_trans h.near h.grown.size k.near⟩
theorem Grew.alloc {w w1 : World} {base : Nat} {e : TypeId} {sz : Nat} {v v1 : Value} {n : Nat} {xs : List Value} (h : Grew w base e sz v n xs w1 v1) (o : Obj) : Grew w base e sz v n xs (w1.alloc o) v1 :=
  ⟨h.own.alloc o, grown_near h.grown h.near (grown_alloc w1 o _), h.near⟩
theorem Grew.drew {w w1 : World} {base : Nat} {e : TypeId} {sz : Nat} {v v1 : Value} {n : Nat} {xs : List Value} (h : Grew w base e sz v n xs w1 v1) : Grew w base e sz v n xs w1.drew v1 :=
  ⟨ownsRow_drew h.own, ⟨h.grown.os, h.grown.tape, h.grown.output, h.grown.size, h.grown.block⟩, h.near⟩
theorem Grew.below {w w1 : World} {base : Nat} {e : TypeId} {sz : Nat} {v v1 : Value} {n : Nat} {xs : List Value} (h : Grew w base e sz v n xs w1 v1) {w2 : World} {B : Nat} (hb : Below B w1 w2) (hB : w1.heap.size ≤ B) : Grew w base e sz v n xs w2 v1 := by
  have hg : w1.grownBy w2 none := ⟨hb.os, hb.tape, hb.output, hb.size, fun k hk _ => hb.block k (by omega)⟩
  refine ⟨h.own.kept hg (by cases hq : v1.ownBlock <;> simp), ?_, h.near⟩
  exact ⟨hb.os.trans h.grown.os, hb.tape.trans h.grown.tape, hb.output.trans h.grown.output, Nat.le_trans h.grown.size hb.size, fun x hx hr => (hb.block x (Nat.lt_of_lt_of_le hx (Nat.le_trans h.grown.size hB))).trans (h.grown.block x hx hr)⟩
theorem Grew.base {w w1 : World} {base : Nat} {e : TypeId} {sz : Nat} {v v1 : Value} {n : Nat} {xs : List Value} (h : Grew w base e sz v n xs w1 v1) (hb : base ≤ w.heap.size) (hv : ∀ k, v.ownBlock = some k → base ≤ k) : Below base w w1 :=
  Below.grown (Below.refl base w) h.grown hb hv

/-- 'append(v, x)' of a row that lies elsewhere, seen from where v began. -/
theorem Grew.append {w w1 w2 : World} {base : Nat} {e : TypeId} {sz : Nat} {v v1 v2 : Value} {n m : Nat} {xs ys : List Value} (h : Grew w base e sz v n xs w1 v1) (ho : w2.ownsRow base e sz v2 m ys) (hg : w1.grownBy w2 v1.ownBlock) (hn : Near w1 v1 v2) : Grew w base e sz v m ys w2 v2 :=
  h.trans ⟨ho, hg, hn⟩

end Go.Proofs.Ytmddlhfahfelpaa

namespace Go.Proofs.Ytmddlhfahfelpaa
open Go.RowKit

/-- A number as a byte. -/
def b8 (x : Int) : Int := x % 256
theorem b8_range (x : Int) : 0 ≤ b8 x ∧ b8 x ≤ 255 := by unfold b8; omega
/-- Blocks beside the writer's. -/
abbrev Side : Type := List (Nat × Array Value × TypeId)

/-- What lies where the writer does not write. -/
def Off (l : List Int) (lv v : Value) (B : Nat) : Prop := l ≠ [] → ∀ k, lv.ownBlock = some k → k ≠ B ∧ v.ownBlock ≠ some k

end Go.Proofs.Ytmddlhfahfelpaa

namespace Go.Proofs.Ytmddlhfahfelpaa
open Go.RowKit

/-- What a node is, apart from where its rows lie. -/
structure Nc where
  op : Int
  k : Int
  st : Int
  pad : Int
  out : Int
  mul : Int
  sh : Int
  zero : Int
  th : Int
  tw : Int
  tc : Int
  ins : List Int
  ws : List Int
  bs : List Int
  deriving DecidableEq

/-- What a graph is, apart from where its rows lie. -/
structure Gc where
  ins : List Vl
  nodes : List Nc
  outs : List Int
  deriving DecidableEq

def Nd.c (n : Nd) : Nc := ⟨n.op, n.k, n.st, n.pad, n.out, n.mul, n.sh, n.zero, n.th, n.tw, n.tc, n.ins, n.ws, n.bs⟩
def Gr.c (g : Gr) : Gc := ⟨g.ins, g.nodes.map Nd.c, g.outs⟩

def encB (x : Int) : List Int := [b8 (x / 16777216), b8 (x / 65536), b8 (x / 256), b8 x]
def encV (v : Vl) : List Int := [b8 v.s.h, b8 v.s.w, b8 v.s.c, b8 v.z]
def encN (n : Nc) : List Int :=
  [b8 n.op, b8 n.ins.length] ++ n.ins.map b8 ++ [b8 n.k, b8 n.st, b8 n.pad, b8 n.out, b8 (n.mul / 256), b8 n.mul, b8 n.sh, b8 n.zero, b8 n.th, b8 n.tw, b8 n.tc, b8 (n.ws.length / 256), b8 n.ws.length] ++
  n.ws.map b8 ++ [b8 n.bs.length] ++ n.bs.flatMap encB
def encG (g : Gc) : List Int :=
  [b8 g.ins.length] ++ g.ins.flatMap encV ++ [b8 g.nodes.length] ++ g.nodes.flatMap encN ++ [b8 g.outs.length] ++ g.outs.map b8

def BytesL (l : List Int) : Prop := ∀ z ∈ l, 0 ≤ z ∧ z ≤ 255
theorem BytesL.app {a b : List Int} (h : BytesL a) (k : BytesL b) : BytesL (a ++ b) := fun z hz => by
  rcases List.mem_append.1 hz with h1 | h1
  · exact h z h1
  · exact k z h1
theorem BytesL.map (l : List Int) : BytesL (l.map b8) := fun z hz => by
  obtain ⟨x, _, rfl⟩ := List.mem_map.1 hz
  exact b8_range x
theorem BytesL.nil : BytesL [] := fun z hz => by cases hz
theorem BytesL.cons {x : Int} {l : List Int} (h : BytesL l) : BytesL (b8 x :: l) := fun z hz => by
  rcases List.mem_cons.1 hz with rfl | h1
  · exact b8_range x
  · exact h z h1
/-- How many bytes a node has. -/
def longN (n : Nc) : Nat := 16 + n.ins.length + n.ws.length + 4 * n.bs.length
/-- What stands for a reader: what is left, and whether there was too little. -/
structure Rd where
  l : List Int
  bad : Bool
  deriving DecidableEq

def Ps (α : Type) : Type := Rd → α × Rd
def Ps.ret {α : Type} (a : α) : Ps α := fun r => (a, r)
def Ps.bind {α β : Type} (p : Ps α) (f : α → Ps β) : Ps β := fun r => f (p r).1 (p r).2
def nxt (n : Nat) : Ps (List Int) := fun r => if r.l.length < n then (List.replicate n 0, ⟨r.l, true⟩) else (r.l.take n, ⟨r.l.drop n, r.bad⟩)
def s8 (x : Int) : Int := if x < 128 then x else x - 256
def s32 (x : Int) : Int := if x < 2147483648 then x else x - 4294967296
def pOne : Ps Int := .bind (nxt 1) fun l => .ret (l[0]?.getD 0)
def pZero : Ps Int := .bind pOne fun x => .ret (s8 x)
def pTwo : Ps Int := .bind (nxt 2) fun l => .ret (256 * l[0]?.getD 0 + l[1]?.getD 0)
def pFour : Ps Int := .bind (nxt 4) fun l => .ret (s32 (16777216 * l[0]?.getD 0 + 65536 * l[1]?.getD 0 + 256 * l[2]?.getD 0 + l[3]?.getD 0))
def pShape : Ps Sz := .bind (nxt 3) fun l => .ret ⟨l[0]?.getD 0, l[1]?.getD 0, l[2]?.getD 0⟩
def many {α : Type} (f : Ps α) : Nat → Ps (List α)
  | 0, r => ([], r)
  | n + 1, r => if r.bad = true then ([], r) else ((f r).1 :: (many f n (f r).2).1, (many f n (f r).2).2)
def pMany {α : Type} (c : Ps Int) (f : Ps α) : Ps (List α) := .bind c fun n => many f n.toNat
def pVl : Ps Vl := .bind pShape fun s => .bind pZero fun z => .ret ⟨s, z⟩
def pNode : Ps Nc :=
  .bind pOne fun op => .bind (pMany pOne pOne) fun ins =>
  .bind pOne fun k => .bind pOne fun st => .bind pOne fun pad => .bind pOne fun out =>
  .bind pTwo fun mul => .bind pOne fun sh => .bind pZero fun zero => .bind pShape fun t =>
  .bind (pMany pTwo pZero) fun ws => .bind (pMany pOne pFour) fun bs =>
  .ret ⟨op, k, st, pad, out, mul, sh, zero, t.h, t.w, t.c, ins, ws, bs⟩
def pGraph : Ps Gc := .bind (pMany pOne pVl) fun ins => .bind (pMany pOne pNode) fun nodes => .bind (pMany pOne pOne) fun outs => .ret ⟨ins, nodes, outs⟩

/-- What is left when all went well does not hang on what stands behind; and what was bad stays so. -/
structure Ext1 {α : Type} (p : Ps α) : Prop where
  sticky : ∀ r, r.bad = true → (p r).2.bad = true
  more : ∀ r m, (p r).2.bad = false → p ⟨r.l ++ m, r.bad⟩ = ((p r).1, ⟨(p r).2.l ++ m, false⟩)
  pre : ∀ r, ∃ u, r.l = u ++ (p r).2.l

theorem Ext1.ret {α : Type} (a : α) : Ext1 (Ps.ret a) :=
  ⟨fun _ h => h, fun r m h => by simp only [Ps.ret] at h ⊢; rw [h], fun r => ⟨[], rfl⟩⟩
theorem Ext1.good {α : Type} {p : Ps α} (h : Ext1 p) {r : Rd} (hb : (p r).2.bad = false) : r.bad = false := by
  cases hr : r.bad with
  | false => rfl
  | true => rw [h.sticky r hr] at hb; cases hb
theorem Ext1.bind {α β : Type} {p : Ps α} {f : α → Ps β} (h : Ext1 p) (k : ∀ a, Ext1 (f a)) : Ext1 (Ps.bind p f) where
  sticky r hr := (k _).sticky _ (h.sticky r hr)
  more r m hb := by
    have h1 := (k _).good hb
    simp only [Ps.bind] at hb ⊢
    have h2 := (k (p r).1).more (p r).2 m hb
    rw [h.more r m h1]
    rw [h1] at h2
    exact h2
  pre r := by
    obtain ⟨u, hu⟩ := h.pre r
    obtain ⟨v, hv⟩ := (k (p r).1).pre (p r).2
    exact ⟨u ++ v, by rw [hu, hv, List.append_assoc]; rfl⟩
theorem Ext1.nxt (n : Nat) : Ext1 (nxt n) where
  sticky r hr := by
    unfold Proofs.Ytmddlhfahfelpaa.nxt
    split
    · rfl
    · exact hr
  more r m hb := by
    unfold Proofs.Ytmddlhfahfelpaa.nxt at hb ⊢
    by_cases h : r.l.length < n
    · rw [if_pos h] at hb
      cases hb
    · rw [if_neg h] at hb
      simp only at hb
      have h2 : ¬ (r.l ++ m).length < n := by rw [List.length_append]; omega
      rw [if_neg h, if_neg h2]
      simp only [hb]
      rw [List.take_append_of_le_length (by omega), List.drop_append_of_le_length (by omega)]
  pre r := by
    unfold Proofs.Ytmddlhfahfelpaa.nxt
    split
    · exact ⟨[], rfl⟩
    · exact ⟨r.l.take n, by simp⟩
theorem Ext1.many {α : Type} {f : Ps α} (h : Ext1 f) : ∀ n, Ext1 (many f n)
  | 0 => Ext1.ret []
  | n + 1 => by
    have ih := Ext1.many h n
    refine ⟨fun r hr => ?_, fun r m hb => ?_, fun r => ?_⟩
    · simp only [Proofs.Ytmddlhfahfelpaa.many, hr, if_true]
    · have hr : r.bad = false := by
        cases hq : r.bad with
        | false => rfl
        | true => simp only [Proofs.Ytmddlhfahfelpaa.many, hq, if_true] at hb; cases hb
      simp only [Proofs.Ytmddlhfahfelpaa.many, hr, Bool.false_eq_true, if_false] at hb ⊢
      have h1 := ih.good hb
      have h2 := h.more r m h1
      rw [hr] at h2
      rw [h2]
      have h3 := ih.more (f r).2 m hb
      rw [h1] at h3
      simp only [h3]
    · cases hr : r.bad with
      | true => exact ⟨[], by simp [Proofs.Ytmddlhfahfelpaa.many, hr]⟩
      | false =>
        simp only [Proofs.Ytmddlhfahfelpaa.many, hr, Bool.false_eq_true, if_false]
        obtain ⟨u, hu⟩ := h.pre r
        obtain ⟨v, hv⟩ := ih.pre (f r).2
        exact ⟨u ++ v, by rw [hu, hv, List.append_assoc]⟩
/-- Bytes that are taken as this. -/
def Enc {α : Type} (p : Ps α) (a : α) (b : List Int) : Prop := ∀ t, p ⟨b ++ t, false⟩ = (a, ⟨t, false⟩)
theorem Enc.ret {α : Type} (a : α) : Enc (Ps.ret a) a [] := fun _ => rfl
theorem Enc.bind {α β : Type} {p : Ps α} {f : α → Ps β} {a : α} {c : β} {x y : List Int} (h : Enc p a x) (k : Enc (f a) c y) : Enc (Ps.bind p f) c (x ++ y) := fun t => by
  simp only [Ps.bind]
  rw [List.append_assoc, h (y ++ t)]
  exact k t
theorem Enc.last {α β : Type} {p : Ps α} {f : α → β} {a : α} {x : List Int} (h : Enc p a x) : Enc (Ps.bind p fun a => .ret (f a)) (f a) x := fun t => by
  simp only [Ps.bind, h t, Ps.ret]
theorem Enc.nxt (l : List Int) : Enc (nxt l.length) l l := fun t => by
  unfold Proofs.Ytmddlhfahfelpaa.nxt
  rw [if_neg (by simp)]
  simp
theorem Enc.many {α : Type} {f : Ps α} {e : α → List Int} : ∀ (l : List α), (∀ a ∈ l, Enc f a (e a)) → Enc (many f l.length) l (l.flatMap e)
  | [], _ => fun t => rfl
  | a :: l, h => fun t => by
    simp only [List.length_cons, Proofs.Ytmddlhfahfelpaa.many, Bool.false_eq_true, if_false, List.flatMap_cons, List.append_assoc]
    rw [h a (by simp)]
    have ih := Enc.many l (fun a ha => h a (by simp [ha])) t
    simp only [ih]
/-- A node whose numbers are those of bytes. -/
structure NcOk (n : Nc) : Prop where
  op : 0 ≤ n.op ∧ n.op ≤ 255
  k : 0 ≤ n.k ∧ n.k ≤ 255
  st : 0 ≤ n.st ∧ n.st ≤ 255
  pad : 0 ≤ n.pad ∧ n.pad ≤ 255
  out : 0 ≤ n.out ∧ n.out ≤ 255
  mul : 0 ≤ n.mul ∧ n.mul ≤ 65535
  sh : 0 ≤ n.sh ∧ n.sh ≤ 255
  zero : -128 ≤ n.zero ∧ n.zero ≤ 127
  th : 0 ≤ n.th ∧ n.th ≤ 255
  tw : 0 ≤ n.tw ∧ n.tw ≤ 255
  tc : 0 ≤ n.tc ∧ n.tc ≤ 255
  il : n.ins.length ≤ 255
  wl : n.ws.length ≤ 65535
  bl : n.bs.length ≤ 255
  ins : ∀ z ∈ n.ins, 0 ≤ z ∧ z ≤ 255
  ws : ∀ z ∈ n.ws, -128 ≤ z ∧ z ≤ 127
  bs : ∀ z ∈ n.bs, -2147483648 ≤ z ∧ z ≤ 2147483647

structure GcOk (g : Gc) : Prop where
  ins : ∀ v ∈ g.ins, v.s.ok = true ∧ -128 ≤ v.z ∧ v.z ≤ 127
  il : g.ins.length ≤ 255
  nl : g.nodes.length ≤ 255
  ol : g.outs.length ≤ 255
  nodes : ∀ n ∈ g.nodes, NcOk n
  outs : ∀ z ∈ g.outs, 0 ≤ z ∧ z ≤ 255

end Go.Proofs.Ytmddlhfahfelpaa

namespace Go.Proofs.Ytmddlhfahfelpaa
open Go.RowKit

theorem inB_iff {a b z : Int} : inB a b z = true ↔ a ≤ z ∧ z ≤ b := by simp [inB]

/-- What is known of a graph's nodes that may be. -/
theorem goNodes_ok : ∀ (ns : List Nd) (vals : List Vl) (t : Nat), (goNodes ns vals t).2 = 0 → (goNodes ns vals t).1.1.length = vals.length + ns.length ∧ t ≤ (goNodes ns vals t).1.2 ∧
    ∀ n ∈ ns, n.ws.length ≤ (goNodes ns vals t).1.2 ∧ (∃ l, (valueR n l).2 = 0) ∧ ∀ z ∈ n.ins, 0 ≤ z ∧ z < vals.length + ns.length
  | [], vals, t, _ => ⟨by simp [goNodes], by simp [goNodes], fun n hn => by cases hn⟩
  | n :: ns, vals, t, h => by
    unfold goNodes at h ⊢
    by_cases h1 : n.ins.all (okI vals) = false
    · rw [if_pos h1] at h; simp at h
    rw [if_neg h1] at h ⊢
    by_cases h2 : (valueR n (n.ins.map (getV vals))).2 ≠ 0
    · rw [if_pos h2] at h; exact absurd h h2
    rw [if_neg h2] at h ⊢
    obtain ⟨k1, k2, k3⟩ := goNodes_ok ns _ _ h
    refine ⟨by rw [k1]; simp; omega, by omega, fun m hm => ?_⟩
    rcases List.mem_cons.1 hm with rfl | hm
    · refine ⟨by omega, ⟨_, by simpa using h2⟩, fun z hz => ?_⟩
      have h1' : m.ins.all (okI vals) = true := by simpa using h1
      have := List.all_eq_true.1 h1' z hz
      simp only [okI, inB_iff] at this
      simp only [List.length_cons]
      omega
    · obtain ⟨j1, j2, j3⟩ := k3 m hm
      refine ⟨j1, j2, fun z hz => ?_⟩
      have := j3 z hz
      simp only [List.length_append, List.length_cons, List.length_nil] at this ⊢
      omega

theorem insR_ok : ∀ (l : List Vl), goesInR.insR l = 0 → ∀ v ∈ l, v.s.ok = true ∧ -128 ≤ v.z ∧ v.z ≤ 127
  | [], _, v, hv => by cases hv
  | a :: l, h, v, hv => by
    unfold goesInR.insR at h
    by_cases h1 : a.s.ok = false
    · rw [if_pos h1] at h; cases h
    rw [if_neg h1] at h
    by_cases h2 : inB (-128) 127 a.z = false
    · rw [if_pos h2] at h; cases h
    rw [if_neg h2] at h
    rcases List.mem_cons.1 hv with rfl | hv
    · exact ⟨by simpa using h1, inB_iff.1 (by simpa using h2)⟩
    · exact insR_ok l h v hv

/-- The node's own numbers are within their kinds. -/
structure NdIn (n : Nd) : Prop where
  il : n.ins.length ≤ 255
  bl : n.bs.length ≤ 255
  ws : ∀ z ∈ n.ws, InK .i8 z
  bs : ∀ z ∈ n.bs, InK .i32 z
theorem nodeAt.isIn {w : World} {n : Nd} (h : nodeAt w n) : NdIn n := ⟨h.2.2.2.2.2.1, h.2.2.2.2.2.2.2, h.2.2.2.2.1, h.2.2.2.1⟩

structure GoodG (g : Gr) : Prop where
  il : 1 ≤ g.ins.length ∧ g.ins.length ≤ 4
  nl : g.nodes.length ≤ 12
  ol : 1 ≤ g.outs.length ∧ g.outs.length ≤ 4
  ok : GcOk g.c

end Go.Proofs.Ytmddlhfahfelpaa

namespace Go.Proofs.Ytmddlhfahfelpaa
open Go.RowKit

theorem valueR_ok {n : Nd} {l : List Vl} (h : (valueR n l).2 = 0) : (1 ≤ l.length ∧ l.length ≤ 2) ∧ (valueR n l).1.s.ok = true := by
  unfold valueR at h ⊢
  cases hk : kindOf n.op with
  | none => rw [hk] at h; simp at h
  | some k =>
    rw [hk] at h
    simp only at h ⊢
    by_cases h1 : nodeOk k n l.length = false
    · rw [if_pos h1] at h; simp at h
    rw [if_neg h1] at h ⊢
    by_cases h2 : (k.keeps && l.any fun x => !decide (x.z = n.zero)) = true
    · rw [if_pos h2] at h; simp at h
    rw [if_neg h2] at h ⊢
    by_cases h3 : (l.any fun x => !x.s.ok) = true
    · rw [if_pos h3] at h; simp at h
    rw [if_neg h3] at h ⊢
    by_cases h4 : (madeZ n (l[0]?.getD default).s (l[l.length - 1]?.getD default).s).ok = false
    · rw [if_pos h4] at h; simp at h
    rw [if_neg h4] at h ⊢
    by_cases h5 : ((n.ws.length : Int) ≠ (wbZ n (l[0]?.getD default).s).1 ∨ (n.bs.length : Int) ≠ (wbZ n (l[0]?.getD default).s).2) ∨ (n.bs.any fun x => !inB (-16777216) 16777216 x) = true
    · rw [if_pos h5] at h; simp at h
    rw [if_neg h5]
    refine ⟨?_, by simpa using h4⟩
    have h1' : nodeOk k n l.length = true := by simpa using h1
    simp only [nodeOk, ok1, Bool.and_eq_true, decide_eq_true_eq] at h1'
    have hm : (l.length : Int) = k.many := h1'.1.1.1.1.1.1.1
    have hk2 : k.many = 1 ∨ k.many = 2 := by
      have hr := kind_range hk
      rcases (by omega : n.op = 1 ∨ n.op = 2 ∨ n.op = 3 ∨ n.op = 4 ∨ n.op = 5 ∨ n.op = 6 ∨ n.op = 7 ∨ n.op = 8 ∨ n.op = 9 ∨ n.op = 10 ∨ n.op = 11 ∨ n.op = 12) with ho | ho | ho | ho | ho | ho | ho | ho | ho | ho | ho | ho
      all_goals
        rw [ho] at hk
        simp only [kindOf, reduceIte, Int.reduceEq, Option.some.injEq] at hk
        subst hk
        simp
    omega

theorem goNodes_more : ∀ (ns : List Nd) (vals : List Vl) (t : Nat), (goNodes ns vals t).2 = 0 → (∀ v ∈ vals, v.s.ok = true) →
    (∀ v ∈ (goNodes ns vals t).1.1, v.s.ok = true) ∧ (∀ n ∈ ns, 1 ≤ n.ins.length ∧ n.ins.length ≤ 2) ∧ (goNodes ns vals t).1.1.take vals.length = vals
  | [], vals, t, _, hv => ⟨(by simpa [goNodes] using hv), (fun n hn => by cases hn), (by simp [goNodes])⟩
  | n :: ns, vals, t, h, hv => by
    unfold goNodes at h ⊢
    by_cases h1 : n.ins.all (okI vals) = false
    · rw [if_pos h1] at h; simp at h
    rw [if_neg h1] at h ⊢
    by_cases h2 : (valueR n (n.ins.map (getV vals))).2 ≠ 0
    · rw [if_pos h2] at h; exact absurd h h2
    rw [if_neg h2] at h ⊢
    have hok := valueR_ok (n := n) (l := n.ins.map (getV vals)) (by simpa using h2)
    obtain ⟨k1, k2, k3⟩ := goNodes_more ns _ _ h (fun v hm => by
      rcases List.mem_append.1 hm with hm | hm
      · exact hv v hm
      · obtain rfl := List.mem_singleton.1 hm; exact hok.2)
    refine ⟨k1, fun m hm => ?_, ?_⟩
    · rcases List.mem_cons.1 hm with rfl | hm
      · simpa using hok.1
      · exact k2 m hm
    · have := congrArg (List.take vals.length) k3
      rw [List.take_take, List.length_append, Nat.min_eq_left (by omega)] at this
      rw [this]; simp

/-- What is known of a graph that may be. -/
structure ValsOk (g : Gr) (vs : List Vl) : Prop where
  len : vs.length = g.ins.length + g.nodes.length
  il : g.ins.length ≤ 4
  nl : g.nodes.length ≤ 12
  ok : ∀ v ∈ vs, v.s.ok = true
  ins : ∀ n ∈ g.nodes, (1 ≤ n.ins.length ∧ n.ins.length ≤ 2) ∧ ∀ z ∈ n.ins, 0 ≤ z ∧ z < vs.length

theorem vals_ok {g : Gr} (h : (valuesR g).2 = 0) : ValsOk g (valuesR g).1 := by
  unfold valuesR at h ⊢
  by_cases h1 : goesInR g ≠ 0
  · rw [if_pos h1] at h; exact absurd h h1
  rw [if_neg h1] at h ⊢
  by_cases h2 : (goNodes g.nodes g.ins 0).2 ≠ 0
  · rw [if_pos h2] at h; exact absurd h h2
  rw [if_neg h2] at h ⊢
  by_cases h3 : 4096 < (goNodes g.nodes g.ins 0).1.2
  · rw [if_pos h3] at h; simp at h
  rw [if_neg h3] at h ⊢
  by_cases h4 : g.outs.all (okI (goNodes g.nodes g.ins 0).1.1) = false
  · rw [if_pos h4] at h; simp at h
  rw [if_neg h4]
  simp only [ne_eq, Decidable.not_not] at h1 h2
  unfold goesInR at h1
  by_cases h5 : 4 < g.ins.length ∨ 12 < g.nodes.length ∨ 4 < g.outs.length
  · rw [if_pos h5] at h1; cases h1
  rw [if_neg h5] at h1
  by_cases h6 : g.ins.length = 0 ∨ g.outs.length = 0
  · rw [if_pos h6] at h1; cases h1
  rw [if_neg h6] at h1
  obtain ⟨k1, _, k3⟩ := goNodes_ok _ _ _ h2
  obtain ⟨j1, j2, _⟩ := goNodes_more _ _ _ h2 (fun v hv => (insR_ok _ h1 v hv).1)
  exact ⟨k1, by omega, by omega, j1, fun n hn => ⟨j2 n hn, fun z hz => by have := (k3 n hn).2.2 z hz; simp only; rw [k1]; omega⟩⟩

end Go.Proofs.Ytmddlhfahfelpaa
