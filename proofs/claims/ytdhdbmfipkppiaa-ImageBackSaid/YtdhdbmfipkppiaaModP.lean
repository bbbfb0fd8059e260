/- Graphs as bytes: the plain law. It speaks of no program. -/
import Derived.Test.YtdhdbmfipkppiaaGrk
import Derived.Test.YtdhdbmfipkppiaaModW
namespace Go.Proofs.Ytdhdbmfipkppiaa
set_option linter.unusedSimpArgs false
set_option linter.unusedVariables false
set_option linter.unnecessarySimpa false
open Go.RowKit

/-- What a node is, apart from where its rows lie. -/
structure Nc where
  op : Int
  k : Int
  st : Int
  pad : Int
  out : Int
  mul : Int
  sh : Int
  zero : Int
  th : Int
  tw : Int
  tc : Int
  ins : List Int
  ws : List Int
  bs : List Int
  deriving DecidableEq

/-- What a graph is, apart from where its rows lie. -/
structure Gc where
  ins : List Vl
  nodes : List Nc
  outs : List Int
  deriving DecidableEq

def Nd.c (n : Nd) : Nc := ⟨n.op, n.k, n.st, n.pad, n.out, n.mul, n.sh, n.zero, n.th, n.tw, n.tc, n.ins, n.ws, n.bs⟩
def Gr.c (g : Gr) : Gc := ⟨g.ins, g.nodes.map Nd.c, g.outs⟩

def encB (x : Int) : List Int := [b8 (x / 16777216), b8 (x / 65536), b8 (x / 256), b8 x]
def encV (v : Vl) : List Int := [b8 v.s.h, b8 v.s.w, b8 v.s.c, b8 v.z]
def encN (n : Nc) : List Int :=
  [b8 n.op, b8 n.ins.length] ++ n.ins.map b8 ++ [b8 n.k, b8 n.st, b8 n.pad, b8 n.out, b8 (n.mul / 256), b8 n.mul, b8 n.sh, b8 n.zero, b8 n.th, b8 n.tw, b8 n.tc, b8 (n.ws.length / 256), b8 n.ws.length] ++
  n.ws.map b8 ++ [b8 n.bs.length] ++ n.bs.flatMap encB
def encG (g : Gc) : List Int :=
  [b8 g.ins.length] ++ g.ins.flatMap encV ++ [b8 g.nodes.length] ++ g.nodes.flatMap encN ++ [b8 g.outs.length] ++ g.outs.map b8

def BytesL (l : List Int) : Prop := ∀ z ∈ l, 0 ≤ z ∧ z ≤ 255
theorem BytesL.app {a b : List Int} (h : BytesL a) (k : BytesL b) : BytesL (a ++ b) := fun z hz => by
  rcases List.mem_append.1 hz with h1 | h1
  · exact h z h1
  · exact k z h1
theorem BytesL.map (l : List Int) : BytesL (l.map b8) := fun z hz => by
  obtain ⟨x, _, rfl⟩ := List.mem_map.1 hz
  exact b8_range x
theorem BytesL.flat {α : Type} {f : α → List Int} (h : ∀ a, BytesL (f a)) (l : List α) : BytesL (l.flatMap f) := fun z hz => by
  obtain ⟨a, _, ha⟩ := List.mem_flatMap.1 hz
  exact h a z ha
theorem BytesL.nil : BytesL [] := fun z hz => by cases hz
theorem BytesL.cons {x : Int} {l : List Int} (h : BytesL l) : BytesL (b8 x :: l) := fun z hz => by
  rcases List.mem_cons.1 hz with rfl | h1
  · exact b8_range x
  · exact h z h1
theorem encB_bytes (x : Int) : BytesL (encB x) := BytesL.nil.cons.cons.cons.cons
theorem encV_bytes (v : Vl) : BytesL (encV v) := BytesL.nil.cons.cons.cons.cons
theorem encN_bytes (n : Nc) : BytesL (encN n) :=
  ((((BytesL.nil.cons.cons).app (.map _)).app (BytesL.nil.cons.cons.cons.cons.cons.cons.cons.cons.cons.cons.cons.cons.cons)).app (.map _)).app (BytesL.nil.cons) |>.app (.flat encB_bytes _)
theorem encG_bytes (g : Gc) : BytesL (encG g) :=
  (((((BytesL.nil.cons).app (.flat encV_bytes _)).app BytesL.nil.cons).app (.flat encN_bytes _)).app BytesL.nil.cons).app (.map _)

theorem flat_len {α : Type} (f : α → List Int) (k : Nat) (h : ∀ a, (f a).length = k) (l : List α) : (l.flatMap f).length = k * l.length := by
  induction l with
  | nil => simp
  | cons a l ih => simp only [List.flatMap_cons, List.length_append, h, ih, List.length_cons, Nat.mul_add]; omega

/-- How many bytes a node has. -/
def longN (n : Nc) : Nat := 16 + n.ins.length + n.ws.length + 4 * n.bs.length
theorem encN_len (n : Nc) : (encN n).length = longN n := by
  simp only [encN, List.length_append, List.length_cons, List.length_nil, List.length_map, flat_len encB 4 (fun _ => rfl), longN]
  omega
theorem nodes_len (l : List Nc) : (l.flatMap encN).length = (l.map longN).sum := by
  induction l with
  | nil => rfl
  | cons a l ih => simp [encN_len, ih]
theorem encG_len (g : Gc) : (encG g).length = 3 + 4 * g.ins.length + (g.nodes.map longN).sum + g.outs.length := by
  simp only [encG, List.length_append, List.length_cons, List.length_nil, List.length_map, flat_len encV 4 (fun _ => rfl), nodes_len]
  omega

/-- What stands for a reader: what is left, and whether there was too little. -/
structure Rd where
  l : List Int
  bad : Bool
  deriving DecidableEq

def Ps (α : Type) : Type := Rd → α × Rd
def Ps.ret {α : Type} (a : α) : Ps α := fun r => (a, r)
def Ps.bind {α β : Type} (p : Ps α) (f : α → Ps β) : Ps β := fun r => f (p r).1 (p r).2
def nxt (n : Nat) : Ps (List Int) := fun r => if r.l.length < n then (List.replicate n 0, ⟨r.l, true⟩) else (r.l.take n, ⟨r.l.drop n, r.bad⟩)
def s8 (x : Int) : Int := if x < 128 then x else x - 256
def s32 (x : Int) : Int := if x < 2147483648 then x else x - 4294967296
def pOne : Ps Int := .bind (nxt 1) fun l => .ret (l[0]?.getD 0)
def pZero : Ps Int := .bind pOne fun x => .ret (s8 x)
def pTwo : Ps Int := .bind (nxt 2) fun l => .ret (256 * l[0]?.getD 0 + l[1]?.getD 0)
def pFour : Ps Int := .bind (nxt 4) fun l => .ret (s32 (16777216 * l[0]?.getD 0 + 65536 * l[1]?.getD 0 + 256 * l[2]?.getD 0 + l[3]?.getD 0))
def pShape : Ps Sz := .bind (nxt 3) fun l => .ret ⟨l[0]?.getD 0, l[1]?.getD 0, l[2]?.getD 0⟩
def many {α : Type} (f : Ps α) : Nat → Ps (List α)
  | 0, r => ([], r)
  | n + 1, r => if r.bad = true then ([], r) else ((f r).1 :: (many f n (f r).2).1, (many f n (f r).2).2)
def pMany {α : Type} (c : Ps Int) (f : Ps α) : Ps (List α) := .bind c fun n => many f n.toNat
def pVl : Ps Vl := .bind pShape fun s => .bind pZero fun z => .ret ⟨s, z⟩
def pNode : Ps Nc :=
  .bind pOne fun op => .bind (pMany pOne pOne) fun ins =>
  .bind pOne fun k => .bind pOne fun st => .bind pOne fun pad => .bind pOne fun out =>
  .bind pTwo fun mul => .bind pOne fun sh => .bind pZero fun zero => .bind pShape fun t =>
  .bind (pMany pTwo pZero) fun ws => .bind (pMany pOne pFour) fun bs =>
  .ret ⟨op, k, st, pad, out, mul, sh, zero, t.h, t.w, t.c, ins, ws, bs⟩
def pGraph : Ps Gc := .bind (pMany pOne pVl) fun ins => .bind (pMany pOne pNode) fun nodes => .bind (pMany pOne pOne) fun outs => .ret ⟨ins, nodes, outs⟩

/-- What is left when all went well does not hang on what stands behind; and what was bad stays so. -/
structure Ext1 {α : Type} (p : Ps α) : Prop where
  sticky : ∀ r, r.bad = true → (p r).2.bad = true
  more : ∀ r m, (p r).2.bad = false → p ⟨r.l ++ m, r.bad⟩ = ((p r).1, ⟨(p r).2.l ++ m, false⟩)
  pre : ∀ r, ∃ u, r.l = u ++ (p r).2.l

theorem Ext1.ret {α : Type} (a : α) : Ext1 (Ps.ret a) :=
  ⟨fun _ h => h, fun r m h => by simp only [Ps.ret] at h ⊢; rw [h], fun r => ⟨[], rfl⟩⟩
theorem Ext1.good {α : Type} {p : Ps α} (h : Ext1 p) {r : Rd} (hb : (p r).2.bad = false) : r.bad = false := by
  cases hr : r.bad with
  | false => rfl
  | true => rw [h.sticky r hr] at hb; cases hb
theorem Ext1.bind {α β : Type} {p : Ps α} {f : α → Ps β} (h : Ext1 p) (k : ∀ a, Ext1 (f a)) : Ext1 (Ps.bind p f) where
  sticky r hr := (k _).sticky _ (h.sticky r hr)
  more r m hb := by
    have h1 := (k _).good hb
    simp only [Ps.bind] at hb ⊢
    have h2 := (k (p r).1).more (p r).2 m hb
    rw [h.more r m h1]
    rw [h1] at h2
    exact h2
  pre r := by
    obtain ⟨u, hu⟩ := h.pre r
    obtain ⟨v, hv⟩ := (k (p r).1).pre (p r).2
    exact ⟨u ++ v, by rw [hu, hv, List.append_assoc]; rfl⟩
theorem Ext1.nxt (n : Nat) : Ext1 (nxt n) where
  sticky r hr := by
    unfold Proofs.Ytdhdbmfipkppiaa.nxt
    split
    · rfl
    · exact hr
  more r m hb := by
    unfold Proofs.Ytdhdbmfipkppiaa.nxt at hb ⊢
    by_cases h : r.l.length < n
    · rw [if_pos h] at hb
      cases hb
    · rw [if_neg h] at hb
      simp only at hb
      have h2 : ¬ (r.l ++ m).length < n := by rw [List.length_append]; omega
      rw [if_neg h, if_neg h2]
      simp only [hb]
      rw [List.take_append_of_le_length (by omega), List.drop_append_of_le_length (by omega)]
  pre r := by
    unfold Proofs.Ytdhdbmfipkppiaa.nxt
    split
    · exact ⟨[], rfl⟩
    · exact ⟨r.l.take n, by simp⟩
theorem Ext1.many {α : Type} {f : Ps α} (h : Ext1 f) : ∀ n, Ext1 (many f n)
  | 0 => Ext1.ret []
  | n + 1 => by
    have ih := Ext1.many h n
    refine ⟨fun r hr => ?_, fun r m hb => ?_, fun r => ?_⟩
    · simp only [Proofs.Ytdhdbmfipkppiaa.many, hr, if_true]
    · have hr : r.bad = false := by
        cases hq : r.bad with
        | false => rfl
        | true => simp only [Proofs.Ytdhdbmfipkppiaa.many, hq, if_true] at hb; cases hb
      simp only [Proofs.Ytdhdbmfipkppiaa.many, hr, Bool.false_eq_true, if_false] at hb ⊢
      have h1 := ih.good hb
      have h2 := h.more r m h1
      rw [hr] at h2
      rw [h2]
      have h3 := ih.more (f r).2 m hb
      rw [h1] at h3
      simp only [h3]
    · cases hr : r.bad with
      | true => exact ⟨[], by simp [Proofs.Ytdhdbmfipkppiaa.many, hr]⟩
      | false =>
        simp only [Proofs.Ytdhdbmfipkppiaa.many, hr, Bool.false_eq_true, if_false]
        obtain ⟨u, hu⟩ := h.pre r
        obtain ⟨v, hv⟩ := ih.pre (f r).2
        exact ⟨u ++ v, by rw [hu, hv, List.append_assoc]⟩
theorem ext_one : Ext1 pOne := (Ext1.nxt 1).bind fun _ => .ret _
theorem ext_zero : Ext1 pZero := ext_one.bind fun _ => .ret _
theorem ext_two : Ext1 pTwo := (Ext1.nxt 2).bind fun _ => .ret _
theorem ext_four : Ext1 pFour := (Ext1.nxt 4).bind fun _ => .ret _
theorem ext_shape : Ext1 pShape := (Ext1.nxt 3).bind fun _ => .ret _
theorem ext_many {α : Type} {c : Ps Int} {f : Ps α} (hc : Ext1 c) (hf : Ext1 f) : Ext1 (pMany c f) := hc.bind fun _ => hf.many _
theorem ext_vl : Ext1 pVl := ext_shape.bind fun _ => ext_zero.bind fun _ => .ret _
theorem ext_node : Ext1 pNode := ext_one.bind fun _ => (ext_many ext_one ext_one).bind fun _ => ext_one.bind fun _ => ext_one.bind fun _ => ext_one.bind fun _ => ext_one.bind fun _ =>
  ext_two.bind fun _ => ext_one.bind fun _ => ext_zero.bind fun _ => ext_shape.bind fun _ => (ext_many ext_two ext_zero).bind fun _ => (ext_many ext_one ext_four).bind fun _ => .ret _
theorem ext_graph : Ext1 pGraph := (ext_many ext_one ext_vl).bind fun _ => (ext_many ext_one ext_node).bind fun _ => (ext_many ext_one ext_one).bind fun _ => .ret _

/-- Bytes that are taken as this. -/
def Enc {α : Type} (p : Ps α) (a : α) (b : List Int) : Prop := ∀ t, p ⟨b ++ t, false⟩ = (a, ⟨t, false⟩)
theorem Enc.ret {α : Type} (a : α) : Enc (Ps.ret a) a [] := fun _ => rfl
theorem Enc.bind {α β : Type} {p : Ps α} {f : α → Ps β} {a : α} {c : β} {x y : List Int} (h : Enc p a x) (k : Enc (f a) c y) : Enc (Ps.bind p f) c (x ++ y) := fun t => by
  simp only [Ps.bind]
  rw [List.append_assoc, h (y ++ t)]
  exact k t
theorem Enc.last {α β : Type} {p : Ps α} {f : α → β} {a : α} {x : List Int} (h : Enc p a x) : Enc (Ps.bind p fun a => .ret (f a)) (f a) x := fun t => by
  simp only [Ps.bind, h t, Ps.ret]
theorem Enc.nxt (l : List Int) : Enc (nxt l.length) l l := fun t => by
  unfold Proofs.Ytdhdbmfipkppiaa.nxt
  rw [if_neg (by simp)]
  simp
theorem Enc.many {α : Type} {f : Ps α} {e : α → List Int} : ∀ (l : List α), (∀ a ∈ l, Enc f a (e a)) → Enc (many f l.length) l (l.flatMap e)
  | [], _ => fun t => rfl
  | a :: l, h => fun t => by
    simp only [List.length_cons, Proofs.Ytdhdbmfipkppiaa.many, Bool.false_eq_true, if_false, List.flatMap_cons, List.append_assoc]
    rw [h a (by simp)]
    have ih := Enc.many l (fun a ha => h a (by simp [ha])) t
    simp only [ih]
theorem enc_one {x : Int} (h : 0 ≤ x ∧ x ≤ 255) : Enc pOne x [b8 x] := by
  rw [b8_id h]
  exact (Enc.nxt [x]).last (f := fun l => l[0]?.getD 0)
theorem enc_zero {x : Int} (h : -128 ≤ x ∧ x ≤ 127) : Enc pZero x [b8 x] := by
  have h1 := (enc_one (b8_range x)).last (f := s8)
  rw [b8_id (b8_range x)] at h1
  have h2 : s8 (b8 x) = x := by unfold s8 b8; split <;> omega
  rw [h2] at h1
  exact h1
theorem enc_two {x : Int} (h : 0 ≤ x ∧ x ≤ 65535) : Enc pTwo x [b8 (x / 256), b8 x] := by
  have h1 := Enc.last (β := Int) (f := fun l : List Int => 256 * l[0]?.getD 0 + l[1]?.getD 0) (Enc.nxt [b8 (x / 256), b8 x])
  have h2 : 256 * b8 (x / 256) + b8 x = x := by unfold b8; omega
  simp only [List.getElem?_cons_zero, List.getElem?_cons_succ, Option.getD_some, h2] at h1
  exact h1
theorem enc_four {x : Int} (h : -2147483648 ≤ x ∧ x ≤ 2147483647) : Enc pFour x (encB x) := by
  have h1 := Enc.last (β := Int) (f := fun l : List Int => s32 (16777216 * l[0]?.getD 0 + 65536 * l[1]?.getD 0 + 256 * l[2]?.getD 0 + l[3]?.getD 0)) (Enc.nxt (encB x))
  have h2 : s32 (16777216 * b8 (x / 16777216) + 65536 * b8 (x / 65536) + 256 * b8 (x / 256) + b8 x) = x := by unfold b8 s32; split <;> omega
  simp only [encB, List.getElem?_cons_zero, List.getElem?_cons_succ, Option.getD_some, h2] at h1
  exact h1
theorem enc_shape {s : Sz} (h1 : 0 ≤ s.h ∧ s.h ≤ 255) (h2 : 0 ≤ s.w ∧ s.w ≤ 255) (h3 : 0 ≤ s.c ∧ s.c ≤ 255) : Enc pShape s [b8 s.h, b8 s.w, b8 s.c] := by
  rw [b8_id h1, b8_id h2, b8_id h3]
  exact (Enc.nxt [s.h, s.w, s.c]).last (f := fun l : List Int => (⟨l[0]?.getD 0, l[1]?.getD 0, l[2]?.getD 0⟩ : Sz))
theorem enc_many {α : Type} {c : Ps Int} {f : Ps α} {e : α → List Int} {l : List α} {x : List Int} (hc : Enc c l.length x) (h : ∀ a ∈ l, Enc f a (e a)) : Enc (pMany c f) l (x ++ l.flatMap e) :=
  Enc.bind (p := c) (f := fun n => Proofs.Ytdhdbmfipkppiaa.many f n.toNat) hc (show Enc (Proofs.Ytdhdbmfipkppiaa.many f (Int.toNat (l.length : Int))) l _ by rw [Int.toNat_natCast]; exact Enc.many l h)

theorem flat_one (l : List Int) : l.flatMap (fun x => [b8 x]) = l.map b8 := by
  induction l with
  | nil => rfl
  | cons a l ih => simp [ih]

/-- A node whose numbers are those of bytes. -/
structure NcOk (n : Nc) : Prop where
  op : 0 ≤ n.op ∧ n.op ≤ 255
  k : 0 ≤ n.k ∧ n.k ≤ 255
  st : 0 ≤ n.st ∧ n.st ≤ 255
  pad : 0 ≤ n.pad ∧ n.pad ≤ 255
  out : 0 ≤ n.out ∧ n.out ≤ 255
  mul : 0 ≤ n.mul ∧ n.mul ≤ 65535
  sh : 0 ≤ n.sh ∧ n.sh ≤ 255
  zero : -128 ≤ n.zero ∧ n.zero ≤ 127
  th : 0 ≤ n.th ∧ n.th ≤ 255
  tw : 0 ≤ n.tw ∧ n.tw ≤ 255
  tc : 0 ≤ n.tc ∧ n.tc ≤ 255
  il : n.ins.length ≤ 255
  wl : n.ws.length ≤ 65535
  bl : n.bs.length ≤ 255
  ins : ∀ z ∈ n.ins, 0 ≤ z ∧ z ≤ 255
  ws : ∀ z ∈ n.ws, -128 ≤ z ∧ z ≤ 127
  bs : ∀ z ∈ n.bs, -2147483648 ≤ z ∧ z ≤ 2147483647

theorem enc_node {n : Nc} (h : NcOk n) : Enc pNode n (encN n) := by
  have hin := enc_many (e := fun x => [b8 x]) (enc_one (x := n.ins.length) (by have := h.il; omega)) (fun z hz => enc_one (h.ins z hz))
  have hws := enc_many (e := fun x => [b8 x]) (enc_two (x := n.ws.length) (by have := h.wl; omega)) (fun z hz => enc_zero (h.ws z hz))
  have hbs := enc_many (e := encB) (enc_one (x := n.bs.length) (by have := h.bl; omega)) (fun z hz => enc_four (h.bs z hz))
  rw [flat_one] at hin hws
  have := (enc_one h.op).bind (f := fun op => .bind (pMany pOne pOne) fun ins =>
    .bind pOne fun k => .bind pOne fun st => .bind pOne fun pad => .bind pOne fun out =>
    .bind pTwo fun mul => .bind pOne fun sh => .bind pZero fun zero => .bind pShape fun t =>
    .bind (pMany pTwo pZero) fun ws => .bind (pMany pOne pFour) fun bs =>
    .ret (⟨op, k, st, pad, out, mul, sh, zero, t.h, t.w, t.c, ins, ws, bs⟩ : Nc))
    (hin.bind ((enc_one h.k).bind ((enc_one h.st).bind ((enc_one h.pad).bind ((enc_one h.out).bind ((enc_two h.mul).bind ((enc_one h.sh).bind ((enc_zero h.zero).bind
    ((enc_shape (s := ⟨n.th, n.tw, n.tc⟩) h.th h.tw h.tc).bind (hws.bind (hbs.bind (.ret _))))))))))))
  have e : encN n = [b8 n.op] ++ ([b8 n.ins.length] ++ n.ins.map b8 ++ ([b8 n.k] ++ ([b8 n.st] ++ ([b8 n.pad] ++ ([b8 n.out] ++ ([b8 (n.mul / 256), b8 n.mul] ++ ([b8 n.sh] ++ ([b8 n.zero] ++ ([b8 n.th, b8 n.tw, b8 n.tc] ++
    ([b8 (n.ws.length / 256), b8 n.ws.length] ++ n.ws.map b8 ++ ([b8 n.bs.length] ++ n.bs.flatMap encB ++ []))))))))))) := by
    simp [encN]
  rw [e]
  exact this

structure GcOk (g : Gc) : Prop where
  ins : ∀ v ∈ g.ins, v.s.ok = true ∧ -128 ≤ v.z ∧ v.z ≤ 127
  il : g.ins.length ≤ 255
  nl : g.nodes.length ≤ 255
  ol : g.outs.length ≤ 255
  nodes : ∀ n ∈ g.nodes, NcOk n
  outs : ∀ z ∈ g.outs, 0 ≤ z ∧ z ≤ 255

theorem sz_range {s : Sz} (h : s.ok = true) : (1 ≤ s.h ∧ s.h ≤ 16) ∧ (1 ≤ s.w ∧ s.w ≤ 16) ∧ 1 ≤ s.c ∧ s.c ≤ 8 := by
  simp only [Sz.ok, inB, Bool.and_eq_true, decide_eq_true_eq] at h
  omega

theorem enc_vl {v : Vl} (h : v.s.ok = true ∧ -128 ≤ v.z ∧ v.z ≤ 127) : Enc pVl v (encV v) := by
  obtain ⟨h1, h2, h3⟩ := sz_range h.1
  have := (enc_shape (s := v.s) (by omega) (by omega) (by omega)).bind (f := fun s => .bind pZero fun z => .ret (⟨s, z⟩ : Vl)) ((enc_zero h.2).bind (.ret _))
  exact this

theorem enc_graph {g : Gc} (h : GcOk g) : Enc pGraph g (encG g) := by
  have hi := enc_many (e := encV) (enc_one (x := g.ins.length) (by have := h.il; omega)) (fun v hv => enc_vl (h.ins v hv))
  have hn := enc_many (e := encN) (enc_one (x := g.nodes.length) (by have := h.nl; omega)) (fun v hv => enc_node (h.nodes v hv))
  have ho := enc_many (e := fun x => [b8 x]) (enc_one (x := g.outs.length) (by have := h.ol; omega)) (fun z hz => enc_one (h.outs z hz))
  rw [flat_one] at ho
  have := hi.bind (f := fun ins => .bind (pMany pOne pNode) fun nodes => .bind (pMany pOne pOne) fun outs => .ret (⟨ins, nodes, outs⟩ : Gc)) (hn.bind (ho.bind (.ret _)))
  have e : encG g = [b8 g.ins.length] ++ g.ins.flatMap encV ++ ([b8 g.nodes.length] ++ g.nodes.flatMap encN ++ ([b8 g.outs.length] ++ g.outs.map b8 ++ [])) := by simp [encG]
  rw [e]
  exact this

end Go.Proofs.Ytdhdbmfipkppiaa
