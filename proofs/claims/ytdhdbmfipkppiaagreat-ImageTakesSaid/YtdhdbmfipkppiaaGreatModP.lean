/- The walk of the writer of graphs: put. -/
/- Graphs as bytes: the plain law. It speaks of no program. -/
import Derived.Test.YtdhdbmfipkppiaaGreatShp
import Derived.Test.YtdhdbmfipkppiaaGreatBytes
import Derived.OneCell
import Derived.Deep.CutBlock
import Derived.Deep.DeepCutAuto
set_option linter.unusedSimpArgs false
set_option linter.unusedVariables false
set_option linter.unnecessarySimpa false
namespace Go.Proofs.YtdhdbmfipkppiaaGreat
open Go.RowKit

/-- A number as a byte. -/
def b8 (x : Int) : Int := x % 256
theorem b8_range (x : Int) : 0 ≤ b8 x ∧ b8 x ≤ 255 := by unfold b8; omega
theorem b8_id {x : Int} (h : 0 ≤ x ∧ x ≤ 255) : b8 x = x := by unfold b8; omega

/-- Blocks beside the writer's. -/
abbrev Side : Type := List (Nat × Array Value × TypeId)

/-- A writer that has laid these bytes down. -/
structure Wr (S : Side) (w0 w : World) (B : Nat) (v : Value) (bs : List Int) : Prop where
  box : Blk w B #[v] 96
  own : w.ownsRow w0.heap.size 5 1 v bs.length (bs.map (.int .u8))
  ext : Ext w0 w
  hB : w0.heap.size ≤ B
  ne : v.ownBlock ≠ some B
  side : ∀ s ∈ S, Blk w s.1 s.2.1 s.2.2 ∧ s.1 ≠ B ∧ v.ownBlock ≠ some s.1

theorem Wr.later {S : Side} {w0 w W : World} {B : Nat} {v : Value} {bs : List Int} (h : Wr S w0 w B v bs) (e : Ext w W) : Wr S w0 W B v bs :=
  ⟨h.box.ext e, World.ownsRow.kept (row := none) h.own (grown_of_ext e) (by cases v.ownBlock <;> simp), h.ext.trans e, h.hB, h.ne, fun s hs => ⟨(h.side s hs).1.ext e, (h.side s hs).2⟩⟩
theorem Wr.bare {S : Side} {w0 w : World} {B : Nat} {v : Value} {bs : List Int} (h : Wr S w0 w B v bs) : Wr [] w0 w B v bs := ⟨h.box, h.own, h.ext, h.hB, h.ne, fun s hs => by cases hs⟩
theorem Wr.ownGe {S : Side} {w0 w : World} {B : Nat} {v : Value} {bs : List Int} (h : Wr S w0 w B v bs) {k : Nat} (e : v.ownBlock = some k) : w0.heap.size ≤ k ∧ k < w.heap.size := h.own.lt k e

/-- What lies where the writer does not write. -/
def Off (l : List Int) (lv v : Value) (B : Nat) : Prop := l ≠ [] → ∀ k, lv.ownBlock = some k → k ≠ B ∧ v.ownBlock ≠ some k

theorem Wr.with {w0 w : World} {B : Nat} {v : Value} {bs : List Int} (h : Wr [] w0 w B v bs) (cs : Array Value) (T : TypeId) : Wr [(w.heap.size, cs, T)] w0 (w.alloc (.cells cs T)) B v bs := by
  have h1 := h.later (ext_alloc w (.cells cs T))
  refine ⟨h1.box, h1.own, h1.ext, h1.hB, h1.ne, fun s hs => ?_⟩
  obtain rfl := List.mem_singleton.1 hs
  refine ⟨Blk.new w cs T, fun e => ?_, fun e => ?_⟩
  · have := h.box.lt; simp only at e; omega
  · have := (h.ownGe e).2; omega
theorem Wr.put {S : Side} {w0 w w1 : World} {B : Nat} {v v1 lv : Value} {bs ys l : List Int} (h : Wr S w0 w B v bs) (ho : w1.ownsRow w0.heap.size 5 1 v1 ys.length (ys.map (.int .u8))) (hg : w.grownBy w1 v.ownBlock) (hn : Near w v v1)
    (hl : Ints .i64 w lv l) (hoff : Off l lv v B) : Wr S w0 (w1.setCell ⟨B, 0, none⟩ v1) B v1 ys ∧ Ints .i64 (w1.setCell ⟨B, 0, none⟩ v1) lv l ∧ Off l lv v1 B := by
  have hb1 : Blk w1 B #[v] 96 := h.box.grown hg (fun e => h.ne e.symm)
  have hne : v1.ownBlock ≠ some B := fun e => by
    rcases hn B e with h1 | h1
    · exact h.ne h1
    · have := h.box.lt; omega
  have hlt : l ≠ [] → ∀ k, lv.ownBlock = some k → k < w.heap.size := fun hl0 k hk => by
    obtain ⟨b, e, hb⟩ := Row.lt hl (by simpa using hl0)
    rw [hk] at e
    cases e
    exact hb
  refine ⟨⟨?_, ownsRow_setCell_other ho hne _, ?_, h.hB, hne, fun s hs => ?_⟩, ?_, ?_⟩
  · have := hb1.set 0 v1
    simpa using this
  · exact Below.setCell (Below.grown h.ext hg h.ext.size (fun k hk => (h.ownGe hk).1)) h.hB _
  · obtain ⟨k1, k2, k3⟩ := h.side s hs
    refine ⟨(k1.grown hg (fun e => k3 e.symm)).grown (setCell_grown _ _ _ _) (fun e => k2 (Option.some.inj e)), k2, fun e => ?_⟩
    rcases hn _ e with h1 | h1
    · exact k3 h1
    · have := k1.lt; omega
  · by_cases hl0 : l = []
    · subst hl0
      obtain ⟨A, c, e, h1, h2, h3, h4⟩ := hl
      exact ⟨A, c, e, h1, h2, h3, At.nil _ _⟩
    · have k1 : Ints .i64 w1 lv l := Row.grown hl hg (by
        cases hq : lv.ownBlock with
        | none => exact .inl rfl
        | some k => exact .inr (fun e => (hoff hl0 k hq).2 e.symm))
      exact Row.grown k1 (setCell_grown _ _ _ _) (by
        cases hq : lv.ownBlock with
        | none => exact .inl rfl
        | some k => exact .inr (fun e => (hoff hl0 k hq).1 (Option.some.inj e)))
  · intro hl0 k hk
    refine ⟨(hoff hl0 k hk).1, fun e => ?_⟩
    rcases hn k e with h1 | h1
    · exact (hoff hl0 k hk).2 h1
    · have := hlt hl0 k hk; omega

set_option maxHeartbeats 1600000 in
theorem put_calls {S : Side} (w0 w : World) (B : Nat) (v lv : Value) (bs l : List Int) (hw : Wr S w0 w B v bs) (hl : Ints .i64 w lv l) (hoff : Off l lv v B) (hlen : bs.length + l.length ≤ 100000000) :
    Calls Tryz.prog 57 #[.pointer (some ⟨B, 0, none⟩), lv] w fun e w' => e = .returned (.tuple #[]) ∧ ∃ v', Wr S w0 w' B v' (bs ++ l.map b8) := by
  obtain ⟨A, c, rfl, hlc, hcm, _⟩ := id hl.form
  unfold maxLen at hcm
  go_enter Tryz.func57, Tryz.ntmps57
  go_wp2_with fail
  go_loopw [8] (fun i wr => ∃ (k : Nat) (v : Value), k ≤ l.length ∧ i = .int .i64 k ∧ Wr S w0 wr B v (bs ++ (l.take k).map b8) ∧ Ints .i64 wr (.slice A l.length c) l ∧ Off l (.slice A l.length c) v B) (fun i _ => l.length - (intOf i).toNat)
  case atStart => exact ⟨0, v, by omega, rfl, by simpa using hw, hl, hoff⟩
  case round =>
    clear hw hl hoff v
    obtain ⟨k, v, hk, rfl, hw, hl, hoff⟩ := hrel
    by_cases hlt : k < l.length
    · obtain ⟨A', c', e', _, _, hcell⟩ := id hl.form
      cases e'
      obtain ⟨b, off, rfl, x0⟩ := hcell k hlt
      rw [show l[k]?.getD 0 = l[k] by simp [hlt]] at x0
      have HT : Hid (l.take (k + 1) = l.take k ++ [l[k]]) := List.take_succ_eq_append_getElem hlt
      clear hcell
      generalize l[k] = z at *
      have HL := Lib.hid hl
      have HW := Lib.hid hw
      have HO := Lib.hid hoff
      have c0 : World.cell? wr ⟨B, 0, none⟩ = some v := hw.box.cell 0
      clear hl hw hoff
      go_upto_region 3 with fail
      clear x0
      have hbl := HW.out.box.lt
      have hfr := HW.out.box.frozen 0
      have hE := ext_alloc wr (.cells #[.int .u8 (z % 256)] 5)
      have hnew := row_new wr #[.int .u8 (z % 256)] 5 1 1 rfl (by decide)
      have hW1 := HW.out.later hE
      have hl1 : Ints .i64 (wr.alloc (.cells #[.int .u8 (z % 256)] 5)) (.slice (some ⟨b, off, none⟩) l.length c) l := Ints.below HL.out hE
      have hown := hW1.own
      have hbase := hW1.ext.size
      have hlk : (bs ++ (l.take k).map b8).length ≤ bs.length + k := by simp; omega
      have hk1 : (bs ++ (l.take k).map b8).length + 1 ≤ 140737488355328 := by omega
      have hk2 : ((bs ++ (l.take k).map b8).length + 1) * 1 ≤ 140737488355328 := by omega
      have h1 : ∀ u ∈ #[Value.int .u8 (z % 256)].toList, u.oneCell' = true := by intro u hu; simp at hu; subst hu; rfl
      have HWX := Lib.hid hW1
      have HPUT : Hid (∀ (v' : Value) (w' : World), w'.ownsRow w0.heap.size 5 1 v' ((bs ++ (l.take k).map b8).length + 1) ((bs ++ (l.take k).map b8).map (.int .u8) ++ #[Value.int .u8 (z % 256)].toList) →
          (wr.alloc (.cells #[.int .u8 (z % 256)] 5)).grownBy w' v.ownBlock → Near (wr.alloc (.cells #[.int .u8 (z % 256)] 5)) v v' → ∃ A2 n2 c2, v' = .slice A2 n2 c2 ∧
          (Wr S w0 (w'.setCell ⟨B, 0, none⟩ v') B v' (bs ++ (l.take (k + 1)).map b8) ∧ Ints .i64 (w'.setCell ⟨B, 0, none⟩ v') (.slice (some ⟨b, off, none⟩) l.length c) l ∧ Off l (.slice (some ⟨b, off, none⟩) l.length c) v' B) ∧
          B < w'.heap.size ∧ w'.frozen? ⟨B, 0, none⟩ = false ∧ World.cell? w' ⟨B, 0, none⟩ = some v) := by
        intro v' w' ho hgr hnr
        have hb' : Blk w' B #[v] 96 := hW1.box.grown hgr (fun e => hW1.ne e.symm)
        obtain ⟨A2, c2, e2, _⟩ := row_of_own ho
        refine ⟨A2, _, c2, e2, hW1.put ?_ hgr hnr hl1 HO.out, hb'.lt, hb'.frozen 0, hb'.cell 0⟩
        rw [HT.out]
        have e1 : (bs ++ (l.take k ++ [z]).map b8).length = (bs ++ (l.take k).map b8).length + 1 := by simp; omega
        rw [e1]
        have e2 : (bs ++ (l.take k ++ [z]).map b8).map (Value.int .u8) = (bs ++ (l.take k).map b8).map (.int .u8) ++ #[Value.int .u8 (z % 256)].toList := by simp [b8]
        rw [e2]
        exact ho
      clear hl1 hW1 HL HW HO HWX
      go_wp2_with (at_builtin; refine wpList_append_row rfl rfl elem_u8 hown rfl hnew rfl h1 hk1 hk2 hbase ?_; intro v' w' ho hgr hnr; obtain ⟨A2, n2, c2, rfl, hpw, hb1, hb2, hb3⟩ := HPUT.out v' w' ho hgr hnr)
      obtain ⟨p1, p2, p3⟩ := hpw
      go_roundw
      case rel => exact ⟨k + 1, _, by omega, by go_num, p1, p2, p3⟩
      case measure => simp [intOf]; omega
    · have e : l.take k = l := List.take_of_length_le (by omega)
      rw [e] at hw
      go_wp2_with fail
      go_end0
      exact ⟨rfl, v, hw⟩

/-- The same of numbers that were just laid. -/
theorem putl_calls {S : Side} {w0 w : World} {B : Nat} {v : Value} {bs : List Int} (hw : Wr S w0 w B v bs) (l : List Int) {cs : Array Value} {n : Nat} (hc : cs.toList = l.map (.int .i64)) (hn : n = l.length) (hlen : bs.length + l.length ≤ 100000000) :
    Calls Tryz.prog 57 #[.pointer (some ⟨B, 0, none⟩), .slice (some ⟨w.heap.size, 0, none⟩) n n] (w.alloc (.cells cs 3)) fun e w' => e = .returned (.tuple #[]) ∧ ∃ v', Wr S w0 w' B v' (bs ++ l.map b8) := by
  subst hn
  have hs : cs.size = l.length := by rw [← Array.length_toList, hc, List.length_map]
  have hr := row_new w cs 3 l.length 1 (by omega) (by unfold maxLen; omega)
  rw [hc] at hr
  refine put_calls w0 _ B v _ bs l (hw.later (ext_alloc w _)) hr (fun _ k hk => ?_) hlen
  simp only [Value.ownBlock, Option.some.injEq] at hk
  subst hk
  refine ⟨fun e => ?_, fun e => ?_⟩
  · have := hw.box.lt; omega
  · have := (hw.ownGe e).2; omega

end Go.Proofs.YtdhdbmfipkppiaaGreat

namespace Go.Proofs.YtdhdbmfipkppiaaGreat
open Go.RowKit

/-- What a node is, apart from where its rows lie. -/
structure Nc where
  op : Int
  k : Int
  st : Int
  pad : Int
  out : Int
  mul : Int
  sh : Int
  zero : Int
  th : Int
  tw : Int
  tc : Int
  ins : List Int
  ws : List Int
  bs : List Int
  deriving DecidableEq

/-- What a graph is, apart from where its rows lie. -/
structure Gc where
  ins : List Vl
  nodes : List Nc
  outs : List Int
  deriving DecidableEq

def Nd.c (n : Nd) : Nc := ⟨n.op, n.k, n.st, n.pad, n.out, n.mul, n.sh, n.zero, n.th, n.tw, n.tc, n.ins, n.ws, n.bs⟩
def Gr.c (g : Gr) : Gc := ⟨g.ins, g.nodes.map Nd.c, g.outs⟩

def encB (x : Int) : List Int := [b8 (x / 16777216), b8 (x / 65536), b8 (x / 256), b8 x]
def encV (v : Vl) : List Int := [b8 v.s.h, b8 v.s.w, b8 v.s.c, b8 v.z]
def encN (n : Nc) : List Int :=
  [b8 n.op, b8 n.ins.length] ++ n.ins.map b8 ++ [b8 n.k, b8 n.st, b8 n.pad, b8 n.out, b8 (n.mul / 256), b8 n.mul, b8 n.sh, b8 n.zero, b8 n.th, b8 n.tw, b8 n.tc, b8 (n.ws.length / 256), b8 n.ws.length] ++
  n.ws.map b8 ++ [b8 n.bs.length] ++ n.bs.flatMap encB
def encG (g : Gc) : List Int :=
  [b8 g.ins.length] ++ g.ins.flatMap encV ++ [b8 g.nodes.length] ++ g.nodes.flatMap encN ++ [b8 g.outs.length] ++ g.outs.map b8

def BytesL (l : List Int) : Prop := ∀ z ∈ l, 0 ≤ z ∧ z ≤ 255
theorem BytesL.app {a b : List Int} (h : BytesL a) (k : BytesL b) : BytesL (a ++ b) := fun z hz => by
  rcases List.mem_append.1 hz with h1 | h1
  · exact h z h1
  · exact k z h1
theorem BytesL.map (l : List Int) : BytesL (l.map b8) := fun z hz => by
  obtain ⟨x, _, rfl⟩ := List.mem_map.1 hz
  exact b8_range x
theorem BytesL.flat {α : Type} {f : α → List Int} (h : ∀ a, BytesL (f a)) (l : List α) : BytesL (l.flatMap f) := fun z hz => by
  obtain ⟨a, _, ha⟩ := List.mem_flatMap.1 hz
  exact h a z ha
theorem BytesL.nil : BytesL [] := fun z hz => by cases hz
theorem BytesL.cons {x : Int} {l : List Int} (h : BytesL l) : BytesL (b8 x :: l) := fun z hz => by
  rcases List.mem_cons.1 hz with rfl | h1
  · exact b8_range x
  · exact h z h1
theorem encB_bytes (x : Int) : BytesL (encB x) := BytesL.nil.cons.cons.cons.cons
theorem encV_bytes (v : Vl) : BytesL (encV v) := BytesL.nil.cons.cons.cons.cons
theorem encN_bytes (n : Nc) : BytesL (encN n) :=
  ((((BytesL.nil.cons.cons).app (.map _)).app (BytesL.nil.cons.cons.cons.cons.cons.cons.cons.cons.cons.cons.cons.cons.cons)).app (.map _)).app (BytesL.nil.cons) |>.app (.flat encB_bytes _)
theorem encG_bytes (g : Gc) : BytesL (encG g) :=
  (((((BytesL.nil.cons).app (.flat encV_bytes _)).app BytesL.nil.cons).app (.flat encN_bytes _)).app BytesL.nil.cons).app (.map _)

theorem flat_len {α : Type} (f : α → List Int) (k : Nat) (h : ∀ a, (f a).length = k) (l : List α) : (l.flatMap f).length = k * l.length := by
  induction l with
  | nil => simp
  | cons a l ih => simp only [List.flatMap_cons, List.length_append, h, ih, List.length_cons, Nat.mul_add]; omega

/-- How many bytes a node has. -/
def longN (n : Nc) : Nat := 16 + n.ins.length + n.ws.length + 4 * n.bs.length
theorem encN_len (n : Nc) : (encN n).length = longN n := by
  simp only [encN, List.length_append, List.length_cons, List.length_nil, List.length_map, flat_len encB 4 (fun _ => rfl), longN]
  omega
theorem nodes_len (l : List Nc) : (l.flatMap encN).length = (l.map longN).sum := by
  induction l with
  | nil => rfl
  | cons a l ih => simp [encN_len, ih]
theorem encG_len (g : Gc) : (encG g).length = 3 + 4 * g.ins.length + (g.nodes.map longN).sum + g.outs.length := by
  simp only [encG, List.length_append, List.length_cons, List.length_nil, List.length_map, flat_len encV 4 (fun _ => rfl), nodes_len]
  omega

/-- What stands for a reader: what is left, and whether there was too little. -/
structure Rd where
  l : List Int
  bad : Bool
  deriving DecidableEq

def Ps (α : Type) : Type := Rd → α × Rd
def Ps.ret {α : Type} (a : α) : Ps α := fun r => (a, r)
def Ps.bind {α β : Type} (p : Ps α) (f : α → Ps β) : Ps β := fun r => f (p r).1 (p r).2
def nxt (n : Nat) : Ps (List Int) := fun r => if r.l.length < n then (List.replicate n 0, ⟨r.l, true⟩) else (r.l.take n, ⟨r.l.drop n, r.bad⟩)
def s8 (x : Int) : Int := if x < 128 then x else x - 256
def s32 (x : Int) : Int := if x < 2147483648 then x else x - 4294967296
def pOne : Ps Int := .bind (nxt 1) fun l => .ret (l[0]?.getD 0)
def pZero : Ps Int := .bind pOne fun x => .ret (s8 x)
def pTwo : Ps Int := .bind (nxt 2) fun l => .ret (256 * l[0]?.getD 0 + l[1]?.getD 0)
def pFour : Ps Int := .bind (nxt 4) fun l => .ret (s32 (16777216 * l[0]?.getD 0 + 65536 * l[1]?.getD 0 + 256 * l[2]?.getD 0 + l[3]?.getD 0))
def pShape : Ps Sz := .bind (nxt 3) fun l => .ret ⟨l[0]?.getD 0, l[1]?.getD 0, l[2]?.getD 0⟩
def many {α : Type} (f : Ps α) : Nat → Ps (List α)
  | 0, r => ([], r)
  | n + 1, r => if r.bad = true then ([], r) else ((f r).1 :: (many f n (f r).2).1, (many f n (f r).2).2)
def pMany {α : Type} (c : Ps Int) (f : Ps α) : Ps (List α) := .bind c fun n => many f n.toNat
def pVl : Ps Vl := .bind pShape fun s => .bind pZero fun z => .ret ⟨s, z⟩
def pNode : Ps Nc :=
  .bind pOne fun op => .bind (pMany pOne pOne) fun ins =>
  .bind pOne fun k => .bind pOne fun st => .bind pOne fun pad => .bind pOne fun out =>
  .bind pTwo fun mul => .bind pOne fun sh => .bind pZero fun zero => .bind pShape fun t =>
  .bind (pMany pTwo pZero) fun ws => .bind (pMany pOne pFour) fun bs =>
  .ret ⟨op, k, st, pad, out, mul, sh, zero, t.h, t.w, t.c, ins, ws, bs⟩
def pGraph : Ps Gc := .bind (pMany pOne pVl) fun ins => .bind (pMany pOne pNode) fun nodes => .bind (pMany pOne pOne) fun outs => .ret ⟨ins, nodes, outs⟩

/-- What is left when all went well does not hang on what stands behind; and what was bad stays so. -/
structure Ext1 {α : Type} (p : Ps α) : Prop where
  sticky : ∀ r, r.bad = true → (p r).2.bad = true
  more : ∀ r m, (p r).2.bad = false → p ⟨r.l ++ m, r.bad⟩ = ((p r).1, ⟨(p r).2.l ++ m, false⟩)
  pre : ∀ r, ∃ u, r.l = u ++ (p r).2.l

theorem Ext1.ret {α : Type} (a : α) : Ext1 (Ps.ret a) :=
  ⟨fun _ h => h, fun r m h => by simp only [Ps.ret] at h ⊢; rw [h], fun r => ⟨[], rfl⟩⟩
theorem Ext1.good {α : Type} {p : Ps α} (h : Ext1 p) {r : Rd} (hb : (p r).2.bad = false) : r.bad = false := by
  cases hr : r.bad with
  | false => rfl
  | true => rw [h.sticky r hr] at hb; cases hb
theorem Ext1.bind {α β : Type} {p : Ps α} {f : α → Ps β} (h : Ext1 p) (k : ∀ a, Ext1 (f a)) : Ext1 (Ps.bind p f) where
  sticky r hr := (k _).sticky _ (h.sticky r hr)
  more r m hb := by
    have h1 := (k _).good hb
    simp only [Ps.bind] at hb ⊢
    have h2 := (k (p r).1).more (p r).2 m hb
    rw [h.more r m h1]
    rw [h1] at h2
    exact h2
  pre r := by
    obtain ⟨u, hu⟩ := h.pre r
    obtain ⟨v, hv⟩ := (k (p r).1).pre (p r).2
    exact ⟨u ++ v, by rw [hu, hv, List.append_assoc]; rfl⟩
theorem Ext1.nxt (n : Nat) : Ext1 (nxt n) where
  sticky r hr := by
    unfold Proofs.YtdhdbmfipkppiaaGreat.nxt
    split
    · rfl
    · exact hr
  more r m hb := by
    unfold Proofs.YtdhdbmfipkppiaaGreat.nxt at hb ⊢
    by_cases h : r.l.length < n
    · rw [if_pos h] at hb
      cases hb
    · rw [if_neg h] at hb
      simp only at hb
      have h2 : ¬ (r.l ++ m).length < n := by rw [List.length_append]; omega
      rw [if_neg h, if_neg h2]
      simp only [hb]
      rw [List.take_append_of_le_length (by omega), List.drop_append_of_le_length (by omega)]
  pre r := by
    unfold Proofs.YtdhdbmfipkppiaaGreat.nxt
    split
    · exact ⟨[], rfl⟩
    · exact ⟨r.l.take n, by simp⟩
theorem Ext1.many {α : Type} {f : Ps α} (h : Ext1 f) : ∀ n, Ext1 (many f n)
  | 0 => Ext1.ret []
  | n + 1 => by
    have ih := Ext1.many h n
    refine ⟨fun r hr => ?_, fun r m hb => ?_, fun r => ?_⟩
    · simp only [Proofs.YtdhdbmfipkppiaaGreat.many, hr, if_true]
    · have hr : r.bad = false := by
        cases hq : r.bad with
        | false => rfl
        | true => simp only [Proofs.YtdhdbmfipkppiaaGreat.many, hq, if_true] at hb; cases hb
      simp only [Proofs.YtdhdbmfipkppiaaGreat.many, hr, Bool.false_eq_true, if_false] at hb ⊢
      have h1 := ih.good hb
      have h2 := h.more r m h1
      rw [hr] at h2
      rw [h2]
      have h3 := ih.more (f r).2 m hb
      rw [h1] at h3
      simp only [h3]
    · cases hr : r.bad with
      | true => exact ⟨[], by simp [Proofs.YtdhdbmfipkppiaaGreat.many, hr]⟩
      | false =>
        simp only [Proofs.YtdhdbmfipkppiaaGreat.many, hr, Bool.false_eq_true, if_false]
        obtain ⟨u, hu⟩ := h.pre r
        obtain ⟨v, hv⟩ := ih.pre (f r).2
        exact ⟨u ++ v, by rw [hu, hv, List.append_assoc]⟩
theorem ext_one : Ext1 pOne := (Ext1.nxt 1).bind fun _ => .ret _
theorem ext_zero : Ext1 pZero := ext_one.bind fun _ => .ret _
theorem ext_two : Ext1 pTwo := (Ext1.nxt 2).bind fun _ => .ret _
theorem ext_four : Ext1 pFour := (Ext1.nxt 4).bind fun _ => .ret _
theorem ext_shape : Ext1 pShape := (Ext1.nxt 3).bind fun _ => .ret _
theorem ext_many {α : Type} {c : Ps Int} {f : Ps α} (hc : Ext1 c) (hf : Ext1 f) : Ext1 (pMany c f) := hc.bind fun _ => hf.many _
theorem ext_vl : Ext1 pVl := ext_shape.bind fun _ => ext_zero.bind fun _ => .ret _
theorem ext_node : Ext1 pNode := ext_one.bind fun _ => (ext_many ext_one ext_one).bind fun _ => ext_one.bind fun _ => ext_one.bind fun _ => ext_one.bind fun _ => ext_one.bind fun _ =>
  ext_two.bind fun _ => ext_one.bind fun _ => ext_zero.bind fun _ => ext_shape.bind fun _ => (ext_many ext_two ext_zero).bind fun _ => (ext_many ext_one ext_four).bind fun _ => .ret _
theorem ext_graph : Ext1 pGraph := (ext_many ext_one ext_vl).bind fun _ => (ext_many ext_one ext_node).bind fun _ => (ext_many ext_one ext_one).bind fun _ => .ret _

/-- Bytes that are taken as this. -/
def Enc {α : Type} (p : Ps α) (a : α) (b : List Int) : Prop := ∀ t, p ⟨b ++ t, false⟩ = (a, ⟨t, false⟩)
theorem Enc.ret {α : Type} (a : α) : Enc (Ps.ret a) a [] := fun _ => rfl
theorem Enc.bind {α β : Type} {p : Ps α} {f : α → Ps β} {a : α} {c : β} {x y : List Int} (h : Enc p a x) (k : Enc (f a) c y) : Enc (Ps.bind p f) c (x ++ y) := fun t => by
  simp only [Ps.bind]
  rw [List.append_assoc, h (y ++ t)]
  exact k t
theorem Enc.last {α β : Type} {p : Ps α} {f : α → β} {a : α} {x : List Int} (h : Enc p a x) : Enc (Ps.bind p fun a => .ret (f a)) (f a) x := fun t => by
  simp only [Ps.bind, h t, Ps.ret]
theorem Enc.nxt (l : List Int) : Enc (nxt l.length) l l := fun t => by
  unfold Proofs.YtdhdbmfipkppiaaGreat.nxt
  rw [if_neg (by simp)]
  simp
theorem Enc.many {α : Type} {f : Ps α} {e : α → List Int} : ∀ (l : List α), (∀ a ∈ l, Enc f a (e a)) → Enc (many f l.length) l (l.flatMap e)
  | [], _ => fun t => rfl
  | a :: l, h => fun t => by
    simp only [List.length_cons, Proofs.YtdhdbmfipkppiaaGreat.many, Bool.false_eq_true, if_false, List.flatMap_cons, List.append_assoc]
    rw [h a (by simp)]
    have ih := Enc.many l (fun a ha => h a (by simp [ha])) t
    simp only [ih]
/-- A node whose numbers are those of bytes. -/
structure NcOk (n : Nc) : Prop where
  op : 0 ≤ n.op ∧ n.op ≤ 255
  k : 0 ≤ n.k ∧ n.k ≤ 255
  st : 0 ≤ n.st ∧ n.st ≤ 255
  pad : 0 ≤ n.pad ∧ n.pad ≤ 255
  out : 0 ≤ n.out ∧ n.out ≤ 255
  mul : 0 ≤ n.mul ∧ n.mul ≤ 65535
  sh : 0 ≤ n.sh ∧ n.sh ≤ 255
  zero : -128 ≤ n.zero ∧ n.zero ≤ 127
  th : 0 ≤ n.th ∧ n.th ≤ 255
  tw : 0 ≤ n.tw ∧ n.tw ≤ 255
  tc : 0 ≤ n.tc ∧ n.tc ≤ 255
  il : n.ins.length ≤ 255
  wl : n.ws.length ≤ 65535
  bl : n.bs.length ≤ 255
  ins : ∀ z ∈ n.ins, 0 ≤ z ∧ z ≤ 255
  ws : ∀ z ∈ n.ws, -128 ≤ z ∧ z ≤ 127
  bs : ∀ z ∈ n.bs, -2147483648 ≤ z ∧ z ≤ 2147483647

structure GcOk (g : Gc) : Prop where
  ins : ∀ v ∈ g.ins, v.s.ok = true ∧ -128 ≤ v.z ∧ v.z ≤ 127
  il : g.ins.length ≤ 255
  nl : g.nodes.length ≤ 255
  ol : g.outs.length ≤ 255
  nodes : ∀ n ∈ g.nodes, NcOk n
  outs : ∀ z ∈ g.outs, 0 ≤ z ∧ z ≤ 255

theorem sz_range {s : Sz} (h : s.ok = true) : (1 ≤ s.h ∧ s.h ≤ 16) ∧ (1 ≤ s.w ∧ s.w ≤ 16) ∧ 1 ≤ s.c ∧ s.c ≤ 8 := by
  simp only [Sz.ok, inB, Bool.and_eq_true, decide_eq_true_eq] at h
  omega

end Go.Proofs.YtdhdbmfipkppiaaGreat
