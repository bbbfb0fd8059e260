/- What a command reads and writes, as plain lists. -/
/- Spans that are put one behind the other. -/
/- The walk of node: the spans of a command that does a node. -/
/- The walk of node: the spans of a command that does rows of a node. -/
import Derived.Test.YtdhdbmfipkppiaaRegM
import Derived.Test.YtdhdbmfipkppiaaModV
import Derived.Test.YtdhdbmfipkppiaaNsaM
import Derived.Test.YtdhdbmfipkppiaaModW
import Derived.Test.YtdhdbmfipkppiaaGrk
namespace Go.Proofs.Ytdhdbmfipkppiaa
set_option linter.unusedSimpArgs false
set_option linter.unusedVariables false
set_option linter.unnecessarySimpa false
open Go.RowKit

theorem valueR_ok {n : Nd} {l : List Vl} (h : (valueR n l).2 = 0) : (1 ≤ l.length ∧ l.length ≤ 2) ∧ (valueR n l).1.s.ok = true := by
  unfold valueR at h ⊢
  cases hk : kindOf n.op with
  | none => rw [hk] at h; simp at h
  | some k =>
    rw [hk] at h
    simp only at h ⊢
    by_cases h1 : nodeOk k n l.length = false
    · rw [if_pos h1] at h; simp at h
    rw [if_neg h1] at h ⊢
    by_cases h2 : (k.keeps && l.any fun x => !decide (x.z = n.zero)) = true
    · rw [if_pos h2] at h; simp at h
    rw [if_neg h2] at h ⊢
    by_cases h3 : (l.any fun x => !x.s.ok) = true
    · rw [if_pos h3] at h; simp at h
    rw [if_neg h3] at h ⊢
    by_cases h4 : (madeZ n (l[0]?.getD default).s (l[l.length - 1]?.getD default).s).ok = false
    · rw [if_pos h4] at h; simp at h
    rw [if_neg h4] at h ⊢
    by_cases h5 : ((n.ws.length : Int) ≠ (wbZ n (l[0]?.getD default).s).1 ∨ (n.bs.length : Int) ≠ (wbZ n (l[0]?.getD default).s).2) ∨ (n.bs.any fun x => !inB (-16777216) 16777216 x) = true
    · rw [if_pos h5] at h; simp at h
    rw [if_neg h5]
    refine ⟨?_, by simpa using h4⟩
    have h1' : nodeOk k n l.length = true := by simpa using h1
    simp only [nodeOk, ok1, Bool.and_eq_true, decide_eq_true_eq] at h1'
    have hm : (l.length : Int) = k.many := h1'.1.1.1.1.1.1.1
    have hk2 : k.many = 1 ∨ k.many = 2 := by
      have hr := kind_range hk
      rcases (by omega : n.op = 1 ∨ n.op = 2 ∨ n.op = 3 ∨ n.op = 4 ∨ n.op = 5 ∨ n.op = 6 ∨ n.op = 7 ∨ n.op = 8 ∨ n.op = 9 ∨ n.op = 10 ∨ n.op = 11 ∨ n.op = 12) with ho | ho | ho | ho | ho | ho | ho | ho | ho | ho | ho | ho
      all_goals
        rw [ho] at hk
        simp only [kindOf, reduceIte, Int.reduceEq, Option.some.injEq] at hk
        subst hk
        simp
    omega

theorem goNodes_more : ∀ (ns : List Nd) (vals : List Vl) (t : Nat), (goNodes ns vals t).2 = 0 → (∀ v ∈ vals, v.s.ok = true) →
    (∀ v ∈ (goNodes ns vals t).1.1, v.s.ok = true) ∧ (∀ n ∈ ns, 1 ≤ n.ins.length ∧ n.ins.length ≤ 2) ∧ (goNodes ns vals t).1.1.take vals.length = vals
  | [], vals, t, _, hv => ⟨(by simpa [goNodes] using hv), (fun n hn => by cases hn), (by simp [goNodes])⟩
  | n :: ns, vals, t, h, hv => by
    unfold goNodes at h ⊢
    by_cases h1 : n.ins.all (okI vals) = false
    · rw [if_pos h1] at h; simp at h
    rw [if_neg h1] at h ⊢
    by_cases h2 : (valueR n (n.ins.map (getV vals))).2 ≠ 0
    · rw [if_pos h2] at h; exact absurd h h2
    rw [if_neg h2] at h ⊢
    have hok := valueR_ok (n := n) (l := n.ins.map (getV vals)) (by simpa using h2)
    obtain ⟨k1, k2, k3⟩ := goNodes_more ns _ _ h (fun v hm => by
      rcases List.mem_append.1 hm with hm | hm
      · exact hv v hm
      · obtain rfl := List.mem_singleton.1 hm; exact hok.2)
    refine ⟨k1, fun m hm => ?_, ?_⟩
    · rcases List.mem_cons.1 hm with rfl | hm
      · simpa using hok.1
      · exact k2 m hm
    · have := congrArg (List.take vals.length) k3
      rw [List.take_take, List.length_append, Nat.min_eq_left (by omega)] at this
      rw [this]; simp

/-- What is known of a graph that may be. -/
structure ValsOk (g : Gr) (vs : List Vl) : Prop where
  len : vs.length = g.ins.length + g.nodes.length
  il : g.ins.length ≤ 4
  nl : g.nodes.length ≤ 12
  ok : ∀ v ∈ vs, v.s.ok = true
  ins : ∀ n ∈ g.nodes, (1 ≤ n.ins.length ∧ n.ins.length ≤ 2) ∧ ∀ z ∈ n.ins, 0 ≤ z ∧ z < vs.length

theorem vals_ok {g : Gr} (h : (valuesR g).2 = 0) : ValsOk g (valuesR g).1 := by
  unfold valuesR at h ⊢
  by_cases h1 : goesInR g ≠ 0
  · rw [if_pos h1] at h; exact absurd h h1
  rw [if_neg h1] at h ⊢
  by_cases h2 : (goNodes g.nodes g.ins 0).2 ≠ 0
  · rw [if_pos h2] at h; exact absurd h h2
  rw [if_neg h2] at h ⊢
  by_cases h3 : 4096 < (goNodes g.nodes g.ins 0).1.2
  · rw [if_pos h3] at h; simp at h
  rw [if_neg h3] at h ⊢
  by_cases h4 : g.outs.all (okI (goNodes g.nodes g.ins 0).1.1) = false
  · rw [if_pos h4] at h; simp at h
  rw [if_neg h4]
  simp only [ne_eq, Decidable.not_not] at h1 h2
  unfold goesInR at h1
  by_cases h5 : 4 < g.ins.length ∨ 12 < g.nodes.length ∨ 4 < g.outs.length
  · rw [if_pos h5] at h1; cases h1
  rw [if_neg h5] at h1
  by_cases h6 : g.ins.length = 0 ∨ g.outs.length = 0
  · rw [if_pos h6] at h1; cases h1
  rw [if_neg h6] at h1
  obtain ⟨k1, _, k3⟩ := goNodes_ok _ _ _ h2
  obtain ⟨j1, j2, _⟩ := goNodes_more _ _ _ h2 (fun v hv => (insR_ok _ h1 v hv).1)
  exact ⟨k1, by omega, by omega, j1, fun n hn => ⟨j2 n hn, fun z hz => by have := (k3 n hn).2.2 z hz; simp only; rw [k1]; omega⟩⟩

/-! Spans of a command. -/
def spz (mem frm n : Int) (wr : Bool) : Sp := ⟨mem, frm, IntKind.i64.wrap (frm + n), wr⟩

def inOf (c : Isa.Cm) (i : Nat) : Int := if i = 0 then c.i0 else c.i1
def haveOf (c : Isa.Cm) (i : Nat) : Int := if i = 0 then c.h0 else c.h1

/-- The span of a node's i-th value that goes in. -/
def goIn (vs : List Vl) (pl : List Int) (c : Isa.Cm) (ins : List Int) (i : Nat) : Sp :=
  if c.k = 3 then spz 1 (inOf c i) (haveOf c i * rowZ (getV vs (ins[i]?.getD 0)).s) false
  else spz 0 (pl[(ins[i]?.getD 0).toNat]?.getD 0) (sizeZ (getV vs (ins[i]?.getD 0)).s) false

/-- The span of what a node makes. -/
def comeOut (vs : List Vl) (pl : List Int) (c : Isa.Cm) (tt : Nat) : Sp :=
  if c.k = 3 then spz 1 c.p (c.r * rowZ (vs[tt]?.getD default).s) true
  else spz 0 (pl[tt]?.getD 0) (sizeZ (vs[tt]?.getD default).s) true

def nodeSp (vs : List Vl) (pl : List Int) (c : Isa.Cm) (ins : List Int) (tt : Nat) : List Sp :=
  (List.range ins.length).map (goIn vs pl c ins) ++ [comeOut vs pl c tt]

def moveSp (c : Isa.Cm) : List Sp :=
  if c.k = 1 then [⟨0, c.d, c.d + c.r * c.o, false⟩, ⟨1, c.p, c.p + c.r * c.o, true⟩]
  else if c.k = 2 then [⟨1, c.p, c.p + c.r * c.o, false⟩, ⟨0, c.d, c.d + c.r * c.o, true⟩]
  else []

/-- May the rows of the node be? -/
def rowsOk (c : Isa.Cm) (made : Sz) : Bool := if c.k = 3 then decide (c.f + c.r ≤ made.h) else decide (c.r = made.h)

/-- The spans, or the error. -/
def ofR (g : Gr) (pl : List Int) (c : Isa.Cm) : List Sp × Int :=
  if (valuesR g).2 ≠ 0 then ([], (valuesR g).2) else
  if Isa.mayB c = false ∨ pl.length ≠ (valuesR g).1.length then ([], 1) else
  if (c.k = 3 ∨ c.k = 4) ∧ (g.nodes.length ≤ c.n ∨ rowsOk c ((valuesR g).1[g.ins.length + c.n.toNat]?.getD default).s = false) then ([], 27) else
  lookSp (if c.k = 3 ∨ c.k = 4 then nodeSp (valuesR g).1 pl c ((g.nodes[c.n.toNat]?.map Nd.ins).getD []) (g.ins.length + c.n.toNat) else moveSp c)
where lookSp (l : List Sp) : List Sp × Int := match l.find? (fun s => decide (mayE s ≠ 0)) with
  | some s => ([], mayE s)
  | none => (l, 0)

/-- Who does it. -/
def engineZ (c : Isa.Cm) : Int := if c.k = 1 ∨ c.k = 2 then 0 else if c.k = 3 then 1 else if c.k = 4 then 2 else -1

end Go.Proofs.Ytdhdbmfipkppiaa

namespace Go.Proofs.Ytdhdbmfipkppiaa
set_option linter.unusedSimpArgs false
set_option linter.unusedVariables false
set_option linter.unnecessarySimpa false
open Go.RowKit

theorem elem_sp : ElemT Try.prog 59 70 4 32 := elemT_of (z := .agg #[.int .i64 0, .int .i64 0, .int .i64 0, .bool false]) Try.underlying59 (by kernel_rfl) rfl (by omega)
theorem sp_one (x : Sp) : ∀ u ∈ x.cs, u.oneCell' = true := by
  intro u hu
  simp [Sp.cs] at hu
  rcases hu with rfl | rfl | rfl | rfl <;> rfl

/-- A list of spans in a box; blocks beside it. -/
structure SpB (S : Side) (w0 w : World) (B : Nat) (v : Value) (l : List Sp) : Prop where
  box : Blk w B #[v] 111
  own : w.ownsRow w0.heap.size 70 4 v l.length (l.flatMap Sp.cs)
  ext : Ext w0 w
  hB : w0.heap.size ≤ B
  ne : v.ownBlock ≠ some B
  side : ∀ s ∈ S, Blk w s.1 s.2.1 s.2.2 ∧ s.1 ≠ B ∧ v.ownBlock ≠ some s.1

theorem SpB.later {S : Side} {w0 w W : World} {B : Nat} {v : Value} {l : List Sp} (h : SpB S w0 w B v l) (e : Ext w W) : SpB S w0 W B v l :=
  ⟨h.box.ext e, World.ownsRow.kept (row := none) h.own (grown_of_ext e) (by cases v.ownBlock <;> simp), h.ext.trans e, h.hB, h.ne, fun s hs => ⟨(h.side s hs).1.ext e, (h.side s hs).2⟩⟩
theorem SpB.part {S S' : Side} {w0 w : World} {B : Nat} {v : Value} {l : List Sp} (h : SpB S w0 w B v l) (hs : ∀ s ∈ S', s ∈ S) : SpB S' w0 w B v l := ⟨h.box, h.own, h.ext, h.hB, h.ne, fun s k => h.side s (hs s k)⟩
theorem SpB.bare {S : Side} {w0 w : World} {B : Nat} {v : Value} {l : List Sp} (h : SpB S w0 w B v l) : SpB [] w0 w B v l := h.part (fun s hs => by cases hs)
/-- A block that was just laid. -/
theorem SpB.more {S : Side} {w0 w W : World} {B b : Nat} {v : Value} {l : List Sp} (h : SpB S w0 w B v l) (e : Ext w W) (hb : w.heap.size ≤ b) {cs : Array Value} {T : TypeId} (hk : Blk W b cs T) : SpB ((b, cs, T) :: S) w0 W B v l := by
  have h1 := h.later e
  refine ⟨h1.box, h1.own, h1.ext, h1.hB, h1.ne, fun s hs => ?_⟩
  rcases List.mem_cons.1 hs with rfl | hs
  · refine ⟨hk, fun e => ?_, fun e => ?_⟩
    · have := h.box.lt; simp only at e; omega
    · have := (h.own.lt _ e).2; simp only at this; omega
  · exact h1.side s hs

/-- The blocks beside it. -/
def SideOk (S : Side) (w0 W : World) : Prop := (∀ s ∈ S, Blk W s.1 s.2.1 s.2.2) ∧ Ext w0 W
theorem SpB.ok {S : Side} {w0 w : World} {B : Nat} {v : Value} {l : List Sp} (h : SpB S w0 w B v l) : SideOk S w0 w := ⟨fun s hs => (h.side s hs).1, h.ext⟩

theorem SpB.put {S : Side} {w0 w w1 : World} {B : Nat} {v v1 : Value} {l l1 : List Sp} (h : SpB S w0 w B v l) (ho : w1.ownsRow w0.heap.size 70 4 v1 l1.length (l1.flatMap Sp.cs)) (hg : w.grownBy w1 v.ownBlock) (hn : Near w v v1) : SpB S w0 (w1.setCell ⟨B, 0, none⟩ v1) B v1 l1 := by
  have hb1 : Blk w1 B #[v] 111 := h.box.grown hg (fun e => h.ne e.symm)
  have hne : v1.ownBlock ≠ some B := fun e => by
    rcases hn B e with h1 | h1
    · exact h.ne h1
    · have := h.box.lt; omega
  refine ⟨?_, ownsRow_setCell_other ho hne _, ?_, h.hB, hne, fun s hs => ?_⟩
  · have := hb1.set 0 v1
    simpa using this
  · exact Below.setCell (Below.grown h.ext hg h.ext.size (fun k hk => (h.own.lt k hk).1)) h.hB _
  · obtain ⟨k1, k2, k3⟩ := h.side s hs
    refine ⟨(k1.grown hg (fun e => k3 e.symm)).grown (setCell_grown _ _ _ _) (fun e => k2 (Option.some.inj e)), k2, fun e => ?_⟩
    rcases hn _ e with h1 | h1
    · exact k3 h1
    · have := k1.lt; omega

set_option maxHeartbeats 1600000 in
theorem lput_calls {S : Side} (w0 w : World) (B : Nat) (v : Value) (l : List Sp) (m f n : Int) (wr : Bool) (hw : SpB S w0 w B v l) (hlen : l.length ≤ 1000) :
    Calls Try.prog 68 #[.pointer (some ⟨B, 0, none⟩), .int .i64 m, .int .i64 f, .int .i64 n, .bool wr] w fun e w' => e = .returned (.tuple #[]) ∧ ∃ v', SpB S w0 w' B v' (l ++ [spz m f n wr]) := by
  have c0 : World.cell? w ⟨B, 0, none⟩ = some v := hw.box.cell 0
  have HS : Hid (spz m f n wr = ⟨m, f, IntKind.i64.wrap (f + n), wr⟩) := rfl
  generalize spz m f n wr = sp at *
  have hbl := hw.box.lt
  have hfr := hw.box.frozen 0
  have HW := Lib.hid hw
  clear hw
  generalize hx : IntKind.i64.wrap (f + n) = x at *
  have hE := ext_alloc w (.cells #[.int .i64 m, .int .i64 f, .int .i64 x, .bool wr] 70)
  have hnew := row_new w #[.int .i64 m, .int .i64 f, .int .i64 x, .bool wr] 70 1 4 rfl (by decide)
  have hW1 := HW.out.later hE
  have hown := hW1.own
  have hbase := hW1.ext.size
  have hk1 : l.length + 1 ≤ 140737488355328 := by omega
  have hk2 : (l.length + 1) * 32 ≤ 140737488355328 := by omega
  have h1 : ∀ u ∈ #[Value.int .i64 m, .int .i64 f, .int .i64 x, .bool wr].toList, u.oneCell' = true := sp_one ⟨m, f, x, wr⟩
  have HX := Lib.hid hx
  have HPUT : Hid (∀ (v' : Value) (w' : World), w'.ownsRow w0.heap.size 70 4 v' (l.length + 1) (l.flatMap Sp.cs ++ #[Value.int .i64 m, .int .i64 f, .int .i64 x, .bool wr].toList) →
      (w.alloc (.cells #[.int .i64 m, .int .i64 f, .int .i64 x, .bool wr] 70)).grownBy w' v.ownBlock → Near (w.alloc (.cells #[.int .i64 m, .int .i64 f, .int .i64 x, .bool wr] 70)) v v' → ∃ A2 n2 c2, v' = .slice A2 n2 c2 ∧
      SpB S w0 (w'.setCell ⟨B, 0, none⟩ v') B v' (l ++ [sp]) ∧ B < w'.heap.size ∧ w'.frozen? ⟨B, 0, none⟩ = false ∧ World.cell? w' ⟨B, 0, none⟩ = some v) := by
    intro v' w' ho hgr hnr
    have hb' : Blk w' B #[v] 111 := hW1.box.grown hgr (fun e => hW1.ne e.symm)
    obtain ⟨A2, c2, e2, _⟩ := row_of_own ho
    refine ⟨A2, _, c2, e2, hW1.put ?_ hgr hnr, hb'.lt, hb'.frozen 0, hb'.cell 0⟩
    rw [HS.out, List.length_append, List.flatMap_append]
    exact ho
  clear hW1 HW hE HS hlen
  go_enter Try.func68, Try.ntmps68
  have HXO := HX.out
  go_wp2_with (at_builtin; refine wpList_append_row rfl rfl elem_sp hown rfl hnew rfl h1 hk1 hk2 hbase ?_; intro v' w' ho hgr hnr; obtain ⟨A2, n2, c2, rfl, hpw, hb1, hb2, hb3⟩ := HPUT.out v' w' ho hgr hnr)
  go_end0
  exact ⟨rfl, _, hpw⟩
end Go.Proofs.Ytdhdbmfipkppiaa

namespace Go.Proofs.Ytdhdbmfipkppiaa
set_option linter.unusedSimpArgs false
set_option linter.unusedVariables false
set_option linter.unnecessarySimpa false
open Go.RowKit

/-- What node is given. -/
structure NodeIn (w0 : World) (g : Gr) (pV : Value) (pl : List Int) (vV : Value) (vs : List Vl) : Prop where
  hg : GrAt w0 g
  hp : Ints .i64 w0 pV pl
  hv : Vls w0 vV vs
  ok : ValsOk g vs
  len : pl.length = vs.length

def NodeP (good : Bool) (l : List Sp) (w0 : World) (B : Nat) (e : Ending) (w' : World) : Prop := e = .returned (.bool good) ∧ ∃ v' l', SpB [] w0 w' B v' l' ∧ (good = true → l' = l)

theorem nodeSp_snoc (f : Nat → Sp) (k : Nat) : (List.range (k + 1)).map f = (List.range k).map f ++ [f k] := by rw [List.range_succ, List.map_append]; rfl

theorem shape_one (s : Sz) : (#[.int .i64 s.h, .int .i64 s.w, .int .i64 s.c] : Array Value).all (·.oneCell') = true := by simp [Value.oneCell']

set_option maxRecDepth 8000 in
set_option maxHeartbeats 6400000 in
theorem lnode4_calls (g : Gr) (pV s0 s1 s2 vV : Value) (pl : List Int) (vs : List Vl) (c : Isa.Cm) (n : Nat) (w0 w : World) (B : Nat) (v : Value) (hI : NodeIn w0 g pV pl vV vs) (hm : Isa.mayB c = true) (hk : c.k = 4) (hn : c.n = (n : Int)) (hw : SpB [] w0 w B v []) :
    Calls Try.prog 69 #[.pointer (some ⟨B, 0, none⟩), .agg #[g.iV, g.nV, g.oV, pV, s0, s1, s2], vV, .agg #[.int .i64 c.k, .int .i64 c.s, .int .i64 c.n, .int .i64 c.f, .int .i64 c.r, .int .i64 c.o, .int .i64 c.d, .int .i64 c.p, .int .i64 c.i0, .int .i64 c.i1, .int .i64 c.b0, .int .i64 c.b1, .int .i64 c.h0, .int .i64 c.h1]] w (NodeP (decide (n < g.nodes.length) && rowsOk c (vs[g.ins.length + n]?.getD default).s) (nodeSp vs pl c ((g.nodes[n]?.map Nd.ins).getD []) (g.ins.length + n)) w0 B) := by
  have HP : Hid (∀ e w', (e = .returned (.bool (decide (n < g.nodes.length) && rowsOk c (vs[g.ins.length + n]?.getD default).s)) ∧ ∃ v' l', SpB [] w0 w' B v' l' ∧ ((decide (n < g.nodes.length) && rowsOk c (vs[g.ins.length + n]?.getD default).s) = true → l' = nodeSp vs pl c ((g.nodes[n]?.map Nd.ins).getD []) (g.ins.length + n))) → NodeP (decide (n < g.nodes.length) && rowsOk c (vs[g.ins.length + n]?.getD default).s) (nodeSp vs pl c ((g.nodes[n]?.map Nd.ins).getD []) (g.ins.length + n)) w0 B e w') := fun e w' h => h
  generalize NodeP (decide (n < g.nodes.length) && rowsOk c (vs[g.ins.length + n]?.getD default).s) (nodeSp vs pl c ((g.nodes[n]?.map Nd.ins).getD []) (g.ins.length + n)) w0 B = PP at *
  have hbd := (Isa.mayB_kernel hk).1 hm
  have HGI : Hid (∀ i, goIn vs pl c ((g.nodes[n]?.map Nd.ins).getD []) i = spz 0 (pl[(((g.nodes[n]?.map Nd.ins).getD [])[i]?.getD 0).toNat]?.getD 0) (sizeZ (getV vs (((g.nodes[n]?.map Nd.ins).getD [])[i]?.getD 0)).s) false) := fun i => by unfold goIn; rw [if_neg (by omega)]
  have HCO : Hid (comeOut vs pl c (g.ins.length + n) = spz 0 (pl[g.ins.length + n]?.getD 0) (sizeZ (vs[g.ins.length + n]?.getD default).s) true) := by show _ = _; unfold comeOut; rw [if_neg (by omega)]
  have HRO : Hid (rowsOk c (vs[g.ins.length + n]?.getD default).s = decide (c.r = (vs[g.ins.length + n]?.getD default).s.h)) := by show _ = _; unfold rowsOk; rw [if_neg (by omega)]
  have HNS : Hid (∀ l, l = nodeSp vs pl c ((g.nodes[n]?.map Nd.ins).getD []) (g.ins.length + n) ↔ l = (List.range ((g.nodes[n]?.map Nd.ins).getD []).length).map (goIn vs pl c ((g.nodes[n]?.map Nd.ins).getD [])) ++ [comeOut vs pl c (g.ins.length + n)]) := fun l => Iff.rfl
  generalize nodeSp vs pl c ((g.nodes[n]?.map Nd.ins).getD []) (g.ins.length + n) = NS at *
  have hvl := hI.ok.len
  have hil := hI.ok.il
  have hnl := hI.ok.nl
  obtain ⟨An, cn, en, hn1, hn2, hncl⟩ := id (SRow.form hI.hg.nodes (fun _ => rfl) (by omega))
  obtain ⟨Ai, ci, ei, hi1, hi2, _⟩ := id hI.hg.ins.form
  obtain ⟨Av, cv, ev, hv1, hv2, hvcl⟩ := id hI.hv.form
  obtain ⟨Ap, cp, ep, hp1, hp2, hpcl⟩ := id hI.hp.form
  unfold maxLen at hi2 hn2 hv2 hp2
  have HNCL := Lib.hid hncl
  have HPCL := Lib.hid hpcl
  have HVCL := Lib.hid hvcl
  have hb0 := Blk.new w #[g.iV, g.nV, g.oV, pV, s0, s1, s2] 54
  have hS0 := hw.more (ext_alloc w (.cells #[g.iV, g.nV, g.oV, pV, s0, s1, s2] 54)) (Nat.le_refl _) hb0
  have hS1 := hS0.more (ext_alloc _ (.cells #[.int .i64 c.k, .int .i64 c.s, .int .i64 c.n, .int .i64 c.f, .int .i64 c.r, .int .i64 c.o, .int .i64 c.d, .int .i64 c.p, .int .i64 c.i0, .int .i64 c.i1, .int .i64 c.b0, .int .i64 c.b1, .int .i64 c.h0, .int .i64 c.h1] 57)) (Nat.le_refl _) (Blk.new _ #[.int .i64 c.k, .int .i64 c.s, .int .i64 c.n, .int .i64 c.f, .int .i64 c.r, .int .i64 c.o, .int .i64 c.d, .int .i64 c.p, .int .i64 c.i0, .int .i64 c.i1, .int .i64 c.b0, .int .i64 c.b1, .int .i64 c.h0, .int .i64 c.h1] 57)
  rw [show (w.alloc (.cells #[g.iV, g.nV, g.oV, pV, s0, s1, s2] 54)).heap.size = w.heap.size + 1 from by simp] at hS1
  clear hS0 hw hb0
  subst ev
  have EN := Lib.hid en
  have EI := Lib.hid ei
  have EP := Lib.hid ep
  have HBD := Lib.hid hbd
  have HK := Lib.hid hk
  have HCN := Lib.hid hn
  clear en ei ep hbd hk hn hm hncl hpcl hvcl
  go_enter Try.func69, Try.ntmps69
  go_upto_region 1 with fail
  generalize World.alloc (World.alloc w _) _ = w1 at *
  have e0 : World.cell? w1 ⟨w.heap.size, 0, none⟩ = some (.slice Ai g.ins.length ci) := by rw [← EI.out]; exact (hS1.side (w.heap.size, #[g.iV, g.nV, g.oV, pV, s0, s1, s2], 54) (by simp)).1.cell 0
  have e1 : World.cell? w1 ⟨w.heap.size, 1, none⟩ = some (.slice An g.nodes.length cn) := by rw [← EN.out]; exact (hS1.side (w.heap.size, #[g.iV, g.nV, g.oV, pV, s0, s1, s2], 54) (by simp)).1.cell 1
  have d2 : World.cell? w1 ⟨w.heap.size + 1, 2, none⟩ = some (.int .i64 (n : Int)) := by rw [← HCN.out]; exact (hS1.side (w.heap.size + 1, #[.int .i64 c.k, .int .i64 c.s, .int .i64 c.n, .int .i64 c.f, .int .i64 c.r, .int .i64 c.o, .int .i64 c.d, .int .i64 c.p, .int .i64 c.i0, .int .i64 c.i1, .int .i64 c.b0, .int .i64 c.b1, .int .i64 c.h0, .int .i64 c.h1], 57) (by simp)).1.cell 2
  generalize w.heap.size = b5 at *
  by_cases hN : n < g.nodes.length
  · have hNB : decide (n < g.nodes.length) = true := decide_eq_true hN
    have hs : g.nodes[n]? = some g.nodes[n] := by simp [hN]
    have hto : g.ins.length + n < vs.length := by omega
    have hsv : vs[g.ins.length + n]? = some vs[g.ins.length + n] := by simp [hto]
    obtain ⟨bn, offn, rfl, hbn, hnc⟩ := HNCL.out n _ hs
    obtain ⟨bv, offv, rfl, hbv, hvc⟩ := HVCL.out _ _ hsv
    have nc1 : World.cell? w1 ⟨bn, offn + n * 14 + 1, none⟩ = some (Nd.inV g.nodes[n]) := cell_ext (hnc 1 _ rfl) _ hS1.ext
    have hnode := hI.hg.each _ (List.getElem_mem hN)
    obtain ⟨hin1, hin2⟩ := hI.ok.ins _ (List.getElem_mem hN)
    rw [hs] at HGI HNS
    rw [hsv] at HCO HRO HP
    simp only [Option.map_some, Option.getD_some] at HGI HCO HRO HNS HP
    have HNC := Lib.hid hnc
    generalize g.nodes[n] = nd at *
    generalize vs[g.ins.length + n] = xv at *
    obtain ⟨tt, htt⟩ : ∃ tt, g.ins.length + n = tt := ⟨_, rfl⟩
    rw [htt] at HCO hto hsv hvc HNS
    have HVL := Lib.hid hvl
    clear hvl
    have hzz : (g.ins.length : Int) + (n : Int) = (tt : Int) := by omega
    have x0 : World.cell? w1 ⟨bv, offv + tt * 4, none⟩ = some (.int .i64 xv.s.h) := cell_ext (hvc 0 _ rfl) _ hS1.ext
    have x1 : World.cell? w1 ⟨bv, offv + tt * 4 + 1, none⟩ = some (.int .i64 xv.s.w) := cell_ext (hvc 1 _ rfl) _ hS1.ext
    have x2 : World.cell? w1 ⟨bv, offv + tt * 4 + 2, none⟩ = some (.int .i64 xv.s.c) := cell_ext (hvc 2 _ rfl) _ hS1.ext
    have HN1 := Lib.hid hnode.1
    have HVC := Lib.hid hvc
    have HH2 := Lib.hid hin2
    clear hnode hvc hnc hs hin2
    have hz := Blk.new w1 #[.int .i64 0, .int .i64 0, .int .i64 0] 36
    have hb10 : Blk ((w1.alloc (.cells #[.int .i64 0, .int .i64 0, .int .i64 0] 36)).setRow w1.heap.size #[.int .i64 xv.s.h, .int .i64 xv.s.w, .int .i64 xv.s.c]) w1.heap.size #[.int .i64 xv.s.h, .int .i64 xv.s.w, .int .i64 xv.s.c] 36 := setRow_heap _ _ _ _ _ _ hz
    have hQ : Ext w1 ((w1.alloc (.cells #[.int .i64 0, .int .i64 0, .int .i64 0] 36)).setRow w1.heap.size #[.int .i64 xv.s.h, .int .i64 xv.s.w, .int .i64 xv.s.c]) := ext_setRow (ext_alloc _ _) _ (Nat.le_refl _)
    have hS2 := hS1.more hQ (Nat.le_refl _) hb10
    clear hb10 hQ
    have HS1 := Lib.hid hS1
    clear hS1
    go_upto_region 5 with (refine wpList_store_row rfl 36 _ _ rfl w1.heap.size #[.int .i64 xv.s.h, .int .i64 xv.s.w, .int .i64 xv.s.c] rfl rfl 36 _ hz (by kernel_rfl) rfl (shape_one xv.s) ?_)
    clear e0 e1 d2 x0 x1 x2 hz nc1 HS1
    generalize World.setRow (w1.alloc _) _ _ = w2 at *
    generalize w1.heap.size = b10 at *
    obtain ⟨SL, hSL⟩ : ∃ SL : Side, SL = [(b10, #[.int .i64 xv.s.h, .int .i64 xv.s.w, .int .i64 xv.s.c], 36), (b5 + 1, #[.int .i64 c.k, .int .i64 c.s, .int .i64 c.n, .int .i64 c.f, .int .i64 c.r, .int .i64 c.o, .int .i64 c.d, .int .i64 c.p, .int .i64 c.i0, .int .i64 c.i1, .int .i64 c.b0, .int .i64 c.b1, .int .i64 c.h0, .int .i64 c.h1], 57), (b5, #[g.iV, g.nV, g.oV, pV, s0, s1, s2], 54)] := ⟨_, rfl⟩
    rw [← hSL] at hS2
    have qp : ∀ W, SideOk SL w0 W → World.cell? W ⟨b5, 3, none⟩ = some (.slice Ap pl.length cp) := fun W h => by rw [← EP.out]; exact (h.1 (b5, #[g.iV, g.nV, g.oV, pV, s0, s1, s2], 54) (by rw [hSL]; simp)).cell 3
    have qn : ∀ W, SideOk SL w0 W → World.cell? W ⟨b5, 1, none⟩ = some (.slice (some ⟨bn, offn, none⟩) g.nodes.length cn) := fun W h => by rw [← EN.out]; exact (h.1 (b5, #[g.iV, g.nV, g.oV, pV, s0, s1, s2], 54) (by rw [hSL]; simp)).cell 1
    have hC : ∀ W, SideOk SL w0 W → Blk W (b5 + 1) #[.int .i64 c.k, .int .i64 c.s, .int .i64 c.n, .int .i64 c.f, .int .i64 c.r, .int .i64 c.o, .int .i64 c.d, .int .i64 c.p, .int .i64 c.i0, .int .i64 c.i1, .int .i64 c.b0, .int .i64 c.b1, .int .i64 c.h0, .int .i64 c.h1] 57 := fun W h => h.1 (b5 + 1, #[.int .i64 c.k, .int .i64 c.s, .int .i64 c.n, .int .i64 c.f, .int .i64 c.r, .int .i64 c.o, .int .i64 c.d, .int .i64 c.p, .int .i64 c.i0, .int .i64 c.i1, .int .i64 c.b0, .int .i64 c.b1, .int .i64 c.h0, .int .i64 c.h1], 57) (by rw [hSL]; simp)
    have qk : ∀ W, SideOk SL w0 W → World.cell? W ⟨b5 + 1, 0, none⟩ = some (.int .i64 4) := fun W h => by rw [← HK.out]; exact (hC W h).cell 0
    have qd : ∀ W, SideOk SL w0 W → World.cell? W ⟨b5 + 1, 2, none⟩ = some (.int .i64 (n : Int)) := fun W h => by rw [← HCN.out]; exact (hC W h).cell 2
    have qf : ∀ W, SideOk SL w0 W → World.cell? W ⟨b5 + 1, 3, none⟩ = some (.int .i64 c.f) := fun W h => (hC W h).cell 3
    have qr : ∀ W, SideOk SL w0 W → World.cell? W ⟨b5 + 1, 4, none⟩ = some (.int .i64 c.r) := fun W h => (hC W h).cell 4
    have qq : ∀ W, SideOk SL w0 W → World.cell? W ⟨b5 + 1, 7, none⟩ = some (.int .i64 c.p) := fun W h => (hC W h).cell 7
    have qi0 : ∀ W, SideOk SL w0 W → World.cell? W ⟨b5 + 1, 8, none⟩ = some (.int .i64 c.i0) := fun W h => (hC W h).cell 8
    have qi1 : ∀ W, SideOk SL w0 W → World.cell? W ⟨b5 + 1, 9, none⟩ = some (.int .i64 c.i1) := fun W h => (hC W h).cell 9
    have qh0 : ∀ W, SideOk SL w0 W → World.cell? W ⟨b5 + 1, 12, none⟩ = some (.int .i64 c.h0) := fun W h => (hC W h).cell 12
    have qh1 : ∀ W, SideOk SL w0 W → World.cell? W ⟨b5 + 1, 13, none⟩ = some (.int .i64 c.h1) := fun W h => (hC W h).cell 13
    have qm0 : ∀ W, SideOk SL w0 W → World.cell? W ⟨b10, 0, none⟩ = some (.int .i64 xv.s.h) := fun W h => (h.1 (b10, #[.int .i64 xv.s.h, .int .i64 xv.s.w, .int .i64 xv.s.c], 36) (by rw [hSL]; simp)).cell 0
    have qm1 : ∀ W, SideOk SL w0 W → World.cell? W ⟨b10, 1, none⟩ = some (.int .i64 xv.s.w) := fun W h => (h.1 (b10, #[.int .i64 xv.s.h, .int .i64 xv.s.w, .int .i64 xv.s.c], 36) (by rw [hSL]; simp)).cell 1
    have qm2 : ∀ W, SideOk SL w0 W → World.cell? W ⟨b10, 2, none⟩ = some (.int .i64 xv.s.c) := fun W h => (h.1 (b10, #[.int .i64 xv.s.h, .int .i64 xv.s.w, .int .i64 xv.s.c], 36) (by rw [hSL]; simp)).cell 2
    clear hC hSL
    obtain ⟨Aj, cj, ej, hj1, hj2, hjcl⟩ := id HN1.out.form
    unfold maxLen at hj2
    have HJCL := Lib.hid hjcl
    clear hjcl
    have e1 : World.cell? w2 ⟨b5, 1, none⟩ = some (.slice (some ⟨bn, offn, none⟩) g.nodes.length cn) := qn _ hS2.ok
    have d2 : World.cell? w2 ⟨b5 + 1, 2, none⟩ = some (.int .i64 (n : Int)) := qd _ hS2.ok
    have nc1 : World.cell? w2 ⟨bn, offn + n * 14 + 1, none⟩ = some (.slice Aj nd.ins.length cj) := by rw [← ej]; exact cell_ext (HNC.out 1 _ rfl) _ hS2.ext
    have EJ := Lib.hid ej
    have HS2 := Lib.hid hS2
    clear ej hS2
    go_wp2_with fail
    clear e1 d2 nc1
    go_loopw [42] (fun i wr => ∃ (k : Nat) (v : Value), k ≤ nd.ins.length ∧ i = .int .i64 k ∧ SpB SL w0 wr B v ((List.range k).map (goIn vs pl c nd.ins))) (fun i _ => nd.ins.length - (intOf i).toNat)
    case atStart => exact ⟨0, v, by omega, rfl, by simpa using HS2.out⟩
    case round =>
      clear HS2
      obtain ⟨k, v, hk, rfl, hS⟩ := hrel
      by_cases hlt : k < nd.ins.length
      · obtain ⟨bj, offj, rfl, y0⟩ := HJCL.out k hlt
        have hzv : nd.ins[k]?.getD 0 = nd.ins[k] := by simp [hlt]
        rw [hzv] at y0
        have hzr := HH2.out _ (List.getElem_mem hlt)
        have HGK := HGI.out k
        rw [hzv] at HGK
        generalize nd.ins[k] = z at *
        clear hzv
        obtain ⟨j, rfl⟩ := Int.eq_ofNat_of_zero_le hzr.1
        have hjl : j < vs.length := by omega
        have hjs : vs[j]? = some vs[j] := by simp [hjl]
        obtain ⟨_, _, e9, _, hvc⟩ := HVCL.out j _ hjs
        cases e9
        have hjp : j < pl.length := by rw [hI.len]; exact hjl
        obtain ⟨bp, offp, rfl, hpc⟩ := HPCL.out j hjp
        have hps : pl[j]? = some pl[j] := by simp [hjp]
        rw [hps] at hpc
        rw [show getV vs (j : Int) = vs[j] by unfold getV; simp [hjs]] at HGK
        rw [show ((j : Int)).toNat = j from rfl, hps] at HGK
        simp only [Option.getD_some] at hpc HGK
        generalize vs[j] = yv at *
        generalize pl[j] = pj at *
        have HGK := Lib.hid HGK
        have y1 : World.cell? wr ⟨bv, offv + j * 4, none⟩ = some (.int .i64 yv.s.h) := cell_ext (hvc 0 _ rfl) _ hS.ext
        have y2 : World.cell? wr ⟨bv, offv + j * 4 + 1, none⟩ = some (.int .i64 yv.s.w) := cell_ext (hvc 1 _ rfl) _ hS.ext
        have y3 : World.cell? wr ⟨bv, offv + j * 4 + 2, none⟩ = some (.int .i64 yv.s.c) := cell_ext (hvc 2 _ rfl) _ hS.ext
        replace y0 := cell_ext y0 _ hS.ext
        have hz := Blk.new wr #[.int .i64 0, .int .i64 0, .int .i64 0] 36
        have hb13 : Blk ((wr.alloc (.cells #[.int .i64 0, .int .i64 0, .int .i64 0] 36)).setRow wr.heap.size #[.int .i64 yv.s.h, .int .i64 yv.s.w, .int .i64 yv.s.c]) wr.heap.size #[.int .i64 yv.s.h, .int .i64 yv.s.w, .int .i64 yv.s.c] 36 := setRow_heap _ _ _ _ _ _ hz
        have hQ : Ext wr ((wr.alloc (.cells #[.int .i64 0, .int .i64 0, .int .i64 0] 36)).setRow wr.heap.size #[.int .i64 yv.s.h, .int .i64 yv.s.w, .int .i64 yv.s.c]) := ext_setRow (ext_alloc _ _) _ (Nat.le_refl _)
        have hS3 := hS.more hQ (Nat.le_refl _) hb13
        have HS3 := Lib.hid hS3
        have hlk : ((List.range k).map (goIn vs pl c nd.ins)).length ≤ 1000 := by simp; omega
        have HLK := Lib.hid hlk
        clear hb13 hQ hS hS3 hvc hjs hps hlk
        go_upto_region 9 with (refine wpList_store_row rfl 36 _ _ rfl wr.heap.size #[.int .i64 yv.s.h, .int .i64 yv.s.w, .int .i64 yv.s.c] rfl rfl 36 _ hz (by kernel_rfl) rfl (shape_one yv.s) ?_)
        clear y0 y1 y2 y3 hz
        generalize World.setRow (wr.alloc _) _ _ = w3 at *
        generalize wr.heap.size = b13 at *
        have hT : ∀ W, SideOk ((b13, #[.int .i64 yv.s.h, .int .i64 yv.s.w, .int .i64 yv.s.c], 36) :: SL) w0 W → SideOk SL w0 W := fun W h => ⟨fun s hs => h.1 s (List.mem_cons_of_mem _ hs), h.2⟩
        have t0 : ∀ W, SideOk ((b13, #[.int .i64 yv.s.h, .int .i64 yv.s.w, .int .i64 yv.s.c], 36) :: SL) w0 W → World.cell? W ⟨b13, 0, none⟩ = some (.int .i64 yv.s.h) := fun W h => (h.1 (b13, #[.int .i64 yv.s.h, .int .i64 yv.s.w, .int .i64 yv.s.c], 36) (by simp)).cell 0
        have t1 : ∀ W, SideOk ((b13, #[.int .i64 yv.s.h, .int .i64 yv.s.w, .int .i64 yv.s.c], 36) :: SL) w0 W → World.cell? W ⟨b13, 1, none⟩ = some (.int .i64 yv.s.w) := fun W h => (h.1 (b13, #[.int .i64 yv.s.h, .int .i64 yv.s.w, .int .i64 yv.s.c], 36) (by simp)).cell 1
        have t2 : ∀ W, SideOk ((b13, #[.int .i64 yv.s.h, .int .i64 yv.s.w, .int .i64 yv.s.c], 36) :: SL) w0 W → World.cell? W ⟨b13, 2, none⟩ = some (.int .i64 yv.s.c) := fun W h => (h.1 (b13, #[.int .i64 yv.s.h, .int .i64 yv.s.w, .int .i64 yv.s.c], 36) (by simp)).cell 2
        have k0 : World.cell? w3 ⟨b5 + 1, 0, none⟩ = some (.int .i64 4) := qk _ (hT _ HS3.out.ok)
        go_upto_region 11 with fail
        clear k0
        have r0 := fun W h => qp W (hT W h)
        have r4 := fun W h => qr W (hT W h)
        have ri0 := fun W h => qi0 W (hT W h)
        have ri1 := fun W h => qi1 W (hT W h)
        have rh0 := fun W h => qh0 W (hT W h)
        have rh1 := fun W h => qh1 W (hT W h)
        have hpp : ∀ W, SideOk ((b13, #[.int .i64 yv.s.h, .int .i64 yv.s.w, .int .i64 yv.s.c], 36) :: SL) w0 W → World.cell? W ⟨bp, offp + j, none⟩ = some (.int .i64 pj) := fun W h => cell_ext hpc _ h.2
        have HS4 := HS3.out.later (Ext.drew w3)
        generalize hSX : ((b13, #[.int .i64 yv.s.h, .int .i64 yv.s.w, .int .i64 yv.s.c], 36) :: SL) = SX at *
        refine wp_region_S (SideOk SX w0) [(0, true), (1, true), (2, true), (3, true), (4, true), (5, true), (6, true), (7, false), (8, false)] (by kernel_rfl) (by kernel_rfl) (fun _ _ d _ _ h => by cases d <;> exact h) HS4.ok ?_
        simp only [pickE, List.getElem?_cons_zero, List.getElem?_cons_succ]
        repeat (first | (refine wpF_pure (by rfl) (fun W hW => by go_simp; with_reducible rfl) ?_; simp only [Act.put, List.setIfInBounds_toArray, List.set_cons_zero, List.set_cons_succ]) | (refine wpF_skip (by rfl) ?_; simp only [Act.put, List.setIfInBounds_toArray, List.set_cons_zero, List.set_cons_succ]))
        generalize w3.drew = w4 at *
        refine wpF_step (by rfl) (fun K hK => ?_)
        go_simp
        refine (size_calls yv.s _).mono ?_
        rintro e w5 ⟨rfl, hE5⟩
        have hS5 := HS4.later hE5
        refine hK _ _ hS5.ok ?_
        clear hK K
        (try simp only [Act.put, List.setIfInBounds_toArray, List.set_cons_zero, List.set_cons_succ])
        refine wpF_step (by rfl) (fun K hK => ?_)
        go_simp
        refine (lput_calls w0 w5 B v _ 0 pj (sizeZ yv.s) false hS5 HLK.out).mono ?_
        rintro e w6 ⟨rfl, v6, hS6⟩
        rw [← HGK.out, ← nodeSp_snoc] at hS6
        refine hK _ _ hS6.ok ?_
        clear hK K
        (try simp only [Act.put, List.setIfInBounds_toArray, List.set_cons_zero, List.set_cons_succ])
        refine wpF_nil ?_
        have hS7 : SpB SL w0 w6 B v6 ((List.range (k + 1)).map (goIn vs pl c nd.ins)) := hS6.part (fun s hs => by rw [← hSX]; exact List.mem_cons_of_mem _ hs)
        go_wp2_with fail
        go_roundw
        case rel => exact ⟨k + 1, v6, by omega, by go_num, hS7⟩
        case measure => simp [intOf]; omega
      · have hkk : k = nd.ins.length := by omega
        subst hkk
        have hjp : tt < pl.length := by rw [hI.len]; exact hto
        obtain ⟨bp, offp, rfl, hpc⟩ := HPCL.out tt hjp
        have hps : pl[tt]? = some pl[tt] := by simp [hjp]
        rw [hps] at hpc HCO
        simp only [Option.getD_some] at hpc HCO
        generalize pl[tt] = pj at *
        have hpp : ∀ W, SideOk SL w0 W → World.cell? W ⟨bp, offp + tt, none⟩ = some (.int .i64 pj) := fun W h => cell_ext hpc _ h.2
        have hlk : ((List.range nd.ins.length).map (goIn vs pl c nd.ins)).length ≤ 1000 := by simp; omega
        have HLK := Lib.hid hlk
        have HS3 := Lib.hid hS
        have k0 : World.cell? wr ⟨b5 + 1, 0, none⟩ = some (.int .i64 4) := qk _ hS.ok
        clear hS hlk hps
        go_upto_region 16 with fail
        clear k0
        have HS4 := HS3.out.later (Ext.drew wr)
        refine wp_region_S (SideOk SL w0) [(0, true), (1, true), (2, true), (3, true), (4, true), (5, true), (6, true), (7, false), (8, false)] (by kernel_rfl) (by kernel_rfl) (fun _ _ d _ _ h => by cases d <;> exact h) HS4.ok ?_
        simp only [pickE, List.getElem?_cons_zero, List.getElem?_cons_succ]
        repeat (first | (refine wpF_pure (by rfl) (fun W hW => by go_simp; with_reducible rfl) ?_; simp only [Act.put, List.setIfInBounds_toArray, List.set_cons_zero, List.set_cons_succ]) | (refine wpF_skip (by rfl) ?_; simp only [Act.put, List.setIfInBounds_toArray, List.set_cons_zero, List.set_cons_succ]))
        generalize wr.drew = w4 at *
        refine wpF_step (by rfl) (fun K hK => ?_)
        go_simp
        refine (size_calls xv.s _).mono ?_
        rintro e w5 ⟨rfl, hE5⟩
        have hS5 := HS4.later hE5
        refine hK _ _ hS5.ok ?_
        clear hK K
        (try simp only [Act.put, List.setIfInBounds_toArray, List.set_cons_zero, List.set_cons_succ])
        refine wpF_step (by rfl) (fun K hK => ?_)
        go_simp
        refine (lput_calls w0 w5 B v _ 0 pj (sizeZ xv.s) true hS5 HLK.out).mono ?_
        rintro e w6 ⟨rfl, v6, hS6⟩
        rw [← HCO.out] at hS6
        refine hK _ _ hS6.ok ?_
        clear hK K
        (try simp only [Act.put, List.setIfInBounds_toArray, List.set_cons_zero, List.set_cons_succ])
        refine wpF_nil ?_
        have m0 : World.cell? w6 ⟨b10, 0, none⟩ = some (.int .i64 xv.s.h) := qm0 _ hS6.ok
        have m4 : World.cell? w6 ⟨b5 + 1, 4, none⟩ = some (.int .i64 c.r) := qr _ hS6.ok
        have HS6 := Lib.hid hS6
        clear hS6
        go_wp2_with fail
        exact HP.out _ _ ⟨by rw [HRO.out, hNB]; rfl, v6, _, HS6.out.bare, fun _ => (HNS.out _).2 rfl⟩
  · have hNB : decide (n < g.nodes.length) = false := decide_eq_false hN
    have HS1 := Lib.hid hS1
    clear hS1
    go_wp2_with fail
    exact HP.out _ _ ⟨by rw [hNB]; rfl, v, [], HS1.out.bare, fun h => by rw [hNB] at h; cases h⟩

end Go.Proofs.Ytdhdbmfipkppiaa

namespace Go.Proofs.Ytdhdbmfipkppiaa
set_option linter.unusedSimpArgs false
set_option linter.unusedVariables false
set_option linter.unnecessarySimpa false
open Go.RowKit

set_option maxRecDepth 8000 in
set_option maxHeartbeats 6400000 in
theorem lnode3_calls (g : Gr) (pV s0 s1 s2 vV : Value) (pl : List Int) (vs : List Vl) (c : Isa.Cm) (n : Nat) (w0 w : World) (B : Nat) (v : Value) (hI : NodeIn w0 g pV pl vV vs) (hm : Isa.mayB c = true) (hk : c.k = 3) (hn : c.n = (n : Int)) (hw : SpB [] w0 w B v []) :
    Calls Try.prog 69 #[.pointer (some ⟨B, 0, none⟩), .agg #[g.iV, g.nV, g.oV, pV, s0, s1, s2], vV, .agg #[.int .i64 c.k, .int .i64 c.s, .int .i64 c.n, .int .i64 c.f, .int .i64 c.r, .int .i64 c.o, .int .i64 c.d, .int .i64 c.p, .int .i64 c.i0, .int .i64 c.i1, .int .i64 c.b0, .int .i64 c.b1, .int .i64 c.h0, .int .i64 c.h1]] w (NodeP (decide (n < g.nodes.length) && rowsOk c (vs[g.ins.length + n]?.getD default).s) (nodeSp vs pl c ((g.nodes[n]?.map Nd.ins).getD []) (g.ins.length + n)) w0 B) := by
  have HP : Hid (∀ e w', (e = .returned (.bool (decide (n < g.nodes.length) && rowsOk c (vs[g.ins.length + n]?.getD default).s)) ∧ ∃ v' l', SpB [] w0 w' B v' l' ∧ ((decide (n < g.nodes.length) && rowsOk c (vs[g.ins.length + n]?.getD default).s) = true → l' = nodeSp vs pl c ((g.nodes[n]?.map Nd.ins).getD []) (g.ins.length + n))) → NodeP (decide (n < g.nodes.length) && rowsOk c (vs[g.ins.length + n]?.getD default).s) (nodeSp vs pl c ((g.nodes[n]?.map Nd.ins).getD []) (g.ins.length + n)) w0 B e w') := fun e w' h => h
  generalize NodeP (decide (n < g.nodes.length) && rowsOk c (vs[g.ins.length + n]?.getD default).s) (nodeSp vs pl c ((g.nodes[n]?.map Nd.ins).getD []) (g.ins.length + n)) w0 B = PP at *
  have hbd := (Isa.mayB_tile hk).1 hm
  have HGI : Hid (∀ i, goIn vs pl c ((g.nodes[n]?.map Nd.ins).getD []) i = spz 1 (inOf c i) (haveOf c i * rowZ (getV vs (((g.nodes[n]?.map Nd.ins).getD [])[i]?.getD 0)).s) false) := fun i => by unfold goIn; rw [if_pos hk]
  have HCO : Hid (comeOut vs pl c (g.ins.length + n) = spz 1 c.p (c.r * rowZ (vs[g.ins.length + n]?.getD default).s) true) := by show _ = _; unfold comeOut; rw [if_pos hk]
  have HRO : Hid (rowsOk c (vs[g.ins.length + n]?.getD default).s = decide (c.f + c.r ≤ (vs[g.ins.length + n]?.getD default).s.h)) := by show _ = _; unfold rowsOk; rw [if_pos hk]
  have HNS : Hid (∀ l, l = nodeSp vs pl c ((g.nodes[n]?.map Nd.ins).getD []) (g.ins.length + n) ↔ l = (List.range ((g.nodes[n]?.map Nd.ins).getD []).length).map (goIn vs pl c ((g.nodes[n]?.map Nd.ins).getD [])) ++ [comeOut vs pl c (g.ins.length + n)]) := fun l => Iff.rfl
  generalize nodeSp vs pl c ((g.nodes[n]?.map Nd.ins).getD []) (g.ins.length + n) = NS at *
  have hvl := hI.ok.len
  have hil := hI.ok.il
  have hnl := hI.ok.nl
  obtain ⟨An, cn, en, hn1, hn2, hncl⟩ := id (SRow.form hI.hg.nodes (fun _ => rfl) (by omega))
  obtain ⟨Ai, ci, ei, hi1, hi2, _⟩ := id hI.hg.ins.form
  obtain ⟨Av, cv, ev, hv1, hv2, hvcl⟩ := id hI.hv.form
  obtain ⟨Ap, cp, ep, hp1, hp2, hpcl⟩ := id hI.hp.form
  unfold maxLen at hi2 hn2 hv2 hp2
  have HNCL := Lib.hid hncl
  have HPCL := Lib.hid hpcl
  have HVCL := Lib.hid hvcl
  have hb0 := Blk.new w #[g.iV, g.nV, g.oV, pV, s0, s1, s2] 54
  have hS0 := hw.more (ext_alloc w (.cells #[g.iV, g.nV, g.oV, pV, s0, s1, s2] 54)) (Nat.le_refl _) hb0
  have hS1 := hS0.more (ext_alloc _ (.cells #[.int .i64 c.k, .int .i64 c.s, .int .i64 c.n, .int .i64 c.f, .int .i64 c.r, .int .i64 c.o, .int .i64 c.d, .int .i64 c.p, .int .i64 c.i0, .int .i64 c.i1, .int .i64 c.b0, .int .i64 c.b1, .int .i64 c.h0, .int .i64 c.h1] 57)) (Nat.le_refl _) (Blk.new _ #[.int .i64 c.k, .int .i64 c.s, .int .i64 c.n, .int .i64 c.f, .int .i64 c.r, .int .i64 c.o, .int .i64 c.d, .int .i64 c.p, .int .i64 c.i0, .int .i64 c.i1, .int .i64 c.b0, .int .i64 c.b1, .int .i64 c.h0, .int .i64 c.h1] 57)
  rw [show (w.alloc (.cells #[g.iV, g.nV, g.oV, pV, s0, s1, s2] 54)).heap.size = w.heap.size + 1 from by simp] at hS1
  clear hS0 hw hb0
  subst ev
  have EN := Lib.hid en
  have EI := Lib.hid ei
  have EP := Lib.hid ep
  have HBD := Lib.hid hbd
  have HK := Lib.hid hk
  have HCN := Lib.hid hn
  clear en ei ep hbd hk hn hm hncl hpcl hvcl
  go_enter Try.func69, Try.ntmps69
  go_upto_region 1 with fail
  generalize World.alloc (World.alloc w _) _ = w1 at *
  have e0 : World.cell? w1 ⟨w.heap.size, 0, none⟩ = some (.slice Ai g.ins.length ci) := by rw [← EI.out]; exact (hS1.side (w.heap.size, #[g.iV, g.nV, g.oV, pV, s0, s1, s2], 54) (by simp)).1.cell 0
  have e1 : World.cell? w1 ⟨w.heap.size, 1, none⟩ = some (.slice An g.nodes.length cn) := by rw [← EN.out]; exact (hS1.side (w.heap.size, #[g.iV, g.nV, g.oV, pV, s0, s1, s2], 54) (by simp)).1.cell 1
  have d2 : World.cell? w1 ⟨w.heap.size + 1, 2, none⟩ = some (.int .i64 (n : Int)) := by rw [← HCN.out]; exact (hS1.side (w.heap.size + 1, #[.int .i64 c.k, .int .i64 c.s, .int .i64 c.n, .int .i64 c.f, .int .i64 c.r, .int .i64 c.o, .int .i64 c.d, .int .i64 c.p, .int .i64 c.i0, .int .i64 c.i1, .int .i64 c.b0, .int .i64 c.b1, .int .i64 c.h0, .int .i64 c.h1], 57) (by simp)).1.cell 2
  generalize w.heap.size = b5 at *
  by_cases hN : n < g.nodes.length
  · have hNB : decide (n < g.nodes.length) = true := decide_eq_true hN
    have hs : g.nodes[n]? = some g.nodes[n] := by simp [hN]
    have hto : g.ins.length + n < vs.length := by omega
    have hsv : vs[g.ins.length + n]? = some vs[g.ins.length + n] := by simp [hto]
    obtain ⟨bn, offn, rfl, hbn, hnc⟩ := HNCL.out n _ hs
    obtain ⟨bv, offv, rfl, hbv, hvc⟩ := HVCL.out _ _ hsv
    have nc1 : World.cell? w1 ⟨bn, offn + n * 14 + 1, none⟩ = some (Nd.inV g.nodes[n]) := cell_ext (hnc 1 _ rfl) _ hS1.ext
    have hnode := hI.hg.each _ (List.getElem_mem hN)
    obtain ⟨hin1, hin2⟩ := hI.ok.ins _ (List.getElem_mem hN)
    rw [hs] at HGI HNS
    rw [hsv] at HCO HRO HP
    simp only [Option.map_some, Option.getD_some] at HGI HCO HRO HNS HP
    have HNC := Lib.hid hnc
    generalize g.nodes[n] = nd at *
    generalize vs[g.ins.length + n] = xv at *
    obtain ⟨tt, htt⟩ : ∃ tt, g.ins.length + n = tt := ⟨_, rfl⟩
    rw [htt] at HCO hto hsv hvc HNS
    have HVL := Lib.hid hvl
    clear hvl
    have hzz : (g.ins.length : Int) + (n : Int) = (tt : Int) := by omega
    have x0 : World.cell? w1 ⟨bv, offv + tt * 4, none⟩ = some (.int .i64 xv.s.h) := cell_ext (hvc 0 _ rfl) _ hS1.ext
    have x1 : World.cell? w1 ⟨bv, offv + tt * 4 + 1, none⟩ = some (.int .i64 xv.s.w) := cell_ext (hvc 1 _ rfl) _ hS1.ext
    have x2 : World.cell? w1 ⟨bv, offv + tt * 4 + 2, none⟩ = some (.int .i64 xv.s.c) := cell_ext (hvc 2 _ rfl) _ hS1.ext
    have HN1 := Lib.hid hnode.1
    have HVC := Lib.hid hvc
    have HH2 := Lib.hid hin2
    clear hnode hvc hnc hs hin2
    have hz := Blk.new w1 #[.int .i64 0, .int .i64 0, .int .i64 0] 36
    have hb10 : Blk ((w1.alloc (.cells #[.int .i64 0, .int .i64 0, .int .i64 0] 36)).setRow w1.heap.size #[.int .i64 xv.s.h, .int .i64 xv.s.w, .int .i64 xv.s.c]) w1.heap.size #[.int .i64 xv.s.h, .int .i64 xv.s.w, .int .i64 xv.s.c] 36 := setRow_heap _ _ _ _ _ _ hz
    have hQ : Ext w1 ((w1.alloc (.cells #[.int .i64 0, .int .i64 0, .int .i64 0] 36)).setRow w1.heap.size #[.int .i64 xv.s.h, .int .i64 xv.s.w, .int .i64 xv.s.c]) := ext_setRow (ext_alloc _ _) _ (Nat.le_refl _)
    have hS2 := hS1.more hQ (Nat.le_refl _) hb10
    clear hb10 hQ
    have HS1 := Lib.hid hS1
    clear hS1
    go_upto_region 5 with (refine wpList_store_row rfl 36 _ _ rfl w1.heap.size #[.int .i64 xv.s.h, .int .i64 xv.s.w, .int .i64 xv.s.c] rfl rfl 36 _ hz (by kernel_rfl) rfl (shape_one xv.s) ?_)
    clear e0 e1 d2 x0 x1 x2 hz nc1 HS1
    generalize World.setRow (w1.alloc _) _ _ = w2 at *
    generalize w1.heap.size = b10 at *
    obtain ⟨SL, hSL⟩ : ∃ SL : Side, SL = [(b10, #[.int .i64 xv.s.h, .int .i64 xv.s.w, .int .i64 xv.s.c], 36), (b5 + 1, #[.int .i64 c.k, .int .i64 c.s, .int .i64 c.n, .int .i64 c.f, .int .i64 c.r, .int .i64 c.o, .int .i64 c.d, .int .i64 c.p, .int .i64 c.i0, .int .i64 c.i1, .int .i64 c.b0, .int .i64 c.b1, .int .i64 c.h0, .int .i64 c.h1], 57), (b5, #[g.iV, g.nV, g.oV, pV, s0, s1, s2], 54)] := ⟨_, rfl⟩
    rw [← hSL] at hS2
    have qp : ∀ W, SideOk SL w0 W → World.cell? W ⟨b5, 3, none⟩ = some (.slice Ap pl.length cp) := fun W h => by rw [← EP.out]; exact (h.1 (b5, #[g.iV, g.nV, g.oV, pV, s0, s1, s2], 54) (by rw [hSL]; simp)).cell 3
    have qn : ∀ W, SideOk SL w0 W → World.cell? W ⟨b5, 1, none⟩ = some (.slice (some ⟨bn, offn, none⟩) g.nodes.length cn) := fun W h => by rw [← EN.out]; exact (h.1 (b5, #[g.iV, g.nV, g.oV, pV, s0, s1, s2], 54) (by rw [hSL]; simp)).cell 1
    have hC : ∀ W, SideOk SL w0 W → Blk W (b5 + 1) #[.int .i64 c.k, .int .i64 c.s, .int .i64 c.n, .int .i64 c.f, .int .i64 c.r, .int .i64 c.o, .int .i64 c.d, .int .i64 c.p, .int .i64 c.i0, .int .i64 c.i1, .int .i64 c.b0, .int .i64 c.b1, .int .i64 c.h0, .int .i64 c.h1] 57 := fun W h => h.1 (b5 + 1, #[.int .i64 c.k, .int .i64 c.s, .int .i64 c.n, .int .i64 c.f, .int .i64 c.r, .int .i64 c.o, .int .i64 c.d, .int .i64 c.p, .int .i64 c.i0, .int .i64 c.i1, .int .i64 c.b0, .int .i64 c.b1, .int .i64 c.h0, .int .i64 c.h1], 57) (by rw [hSL]; simp)
    have qk : ∀ W, SideOk SL w0 W → World.cell? W ⟨b5 + 1, 0, none⟩ = some (.int .i64 3) := fun W h => by rw [← HK.out]; exact (hC W h).cell 0
    have qd : ∀ W, SideOk SL w0 W → World.cell? W ⟨b5 + 1, 2, none⟩ = some (.int .i64 (n : Int)) := fun W h => by rw [← HCN.out]; exact (hC W h).cell 2
    have qf : ∀ W, SideOk SL w0 W → World.cell? W ⟨b5 + 1, 3, none⟩ = some (.int .i64 c.f) := fun W h => (hC W h).cell 3
    have qr : ∀ W, SideOk SL w0 W → World.cell? W ⟨b5 + 1, 4, none⟩ = some (.int .i64 c.r) := fun W h => (hC W h).cell 4
    have qq : ∀ W, SideOk SL w0 W → World.cell? W ⟨b5 + 1, 7, none⟩ = some (.int .i64 c.p) := fun W h => (hC W h).cell 7
    have qi0 : ∀ W, SideOk SL w0 W → World.cell? W ⟨b5 + 1, 8, none⟩ = some (.int .i64 c.i0) := fun W h => (hC W h).cell 8
    have qi1 : ∀ W, SideOk SL w0 W → World.cell? W ⟨b5 + 1, 9, none⟩ = some (.int .i64 c.i1) := fun W h => (hC W h).cell 9
    have qh0 : ∀ W, SideOk SL w0 W → World.cell? W ⟨b5 + 1, 12, none⟩ = some (.int .i64 c.h0) := fun W h => (hC W h).cell 12
    have qh1 : ∀ W, SideOk SL w0 W → World.cell? W ⟨b5 + 1, 13, none⟩ = some (.int .i64 c.h1) := fun W h => (hC W h).cell 13
    have qm0 : ∀ W, SideOk SL w0 W → World.cell? W ⟨b10, 0, none⟩ = some (.int .i64 xv.s.h) := fun W h => (h.1 (b10, #[.int .i64 xv.s.h, .int .i64 xv.s.w, .int .i64 xv.s.c], 36) (by rw [hSL]; simp)).cell 0
    have qm1 : ∀ W, SideOk SL w0 W → World.cell? W ⟨b10, 1, none⟩ = some (.int .i64 xv.s.w) := fun W h => (h.1 (b10, #[.int .i64 xv.s.h, .int .i64 xv.s.w, .int .i64 xv.s.c], 36) (by rw [hSL]; simp)).cell 1
    have qm2 : ∀ W, SideOk SL w0 W → World.cell? W ⟨b10, 2, none⟩ = some (.int .i64 xv.s.c) := fun W h => (h.1 (b10, #[.int .i64 xv.s.h, .int .i64 xv.s.w, .int .i64 xv.s.c], 36) (by rw [hSL]; simp)).cell 2
    clear hC hSL
    obtain ⟨Aj, cj, ej, hj1, hj2, hjcl⟩ := id HN1.out.form
    unfold maxLen at hj2
    have HJCL := Lib.hid hjcl
    clear hjcl
    have e1 : World.cell? w2 ⟨b5, 1, none⟩ = some (.slice (some ⟨bn, offn, none⟩) g.nodes.length cn) := qn _ hS2.ok
    have d2 : World.cell? w2 ⟨b5 + 1, 2, none⟩ = some (.int .i64 (n : Int)) := qd _ hS2.ok
    have nc1 : World.cell? w2 ⟨bn, offn + n * 14 + 1, none⟩ = some (.slice Aj nd.ins.length cj) := by rw [← ej]; exact cell_ext (HNC.out 1 _ rfl) _ hS2.ext
    have EJ := Lib.hid ej
    have HS2 := Lib.hid hS2
    clear ej hS2
    go_wp2_with fail
    clear e1 d2 nc1
    go_loopw [42] (fun i wr => ∃ (k : Nat) (v : Value), k ≤ nd.ins.length ∧ i = .int .i64 k ∧ SpB SL w0 wr B v ((List.range k).map (goIn vs pl c nd.ins))) (fun i _ => nd.ins.length - (intOf i).toNat)
    case atStart => exact ⟨0, v, by omega, rfl, by simpa using HS2.out⟩
    case round =>
      clear HS2
      obtain ⟨k, v, hk, rfl, hS⟩ := hrel
      by_cases hlt : k < nd.ins.length
      · obtain ⟨bj, offj, rfl, y0⟩ := HJCL.out k hlt
        have hzv : nd.ins[k]?.getD 0 = nd.ins[k] := by simp [hlt]
        rw [hzv] at y0
        have hzr := HH2.out _ (List.getElem_mem hlt)
        have HGK := HGI.out k
        rw [hzv] at HGK
        generalize nd.ins[k] = z at *
        clear hzv
        obtain ⟨j, rfl⟩ := Int.eq_ofNat_of_zero_le hzr.1
        have hjl : j < vs.length := by omega
        have hjs : vs[j]? = some vs[j] := by simp [hjl]
        obtain ⟨_, _, e9, _, hvc⟩ := HVCL.out j _ hjs
        cases e9
        have hjp : j < pl.length := by rw [hI.len]; exact hjl
        obtain ⟨bp, offp, rfl, hpc⟩ := HPCL.out j hjp
        have hps : pl[j]? = some pl[j] := by simp [hjp]
        rw [hps] at hpc
        rw [show getV vs (j : Int) = vs[j] by unfold getV; simp [hjs]] at HGK
        simp only [Option.getD_some] at hpc
        generalize vs[j] = yv at *
        generalize pl[j] = pj at *
        have HGK := Lib.hid HGK
        have y1 : World.cell? wr ⟨bv, offv + j * 4, none⟩ = some (.int .i64 yv.s.h) := cell_ext (hvc 0 _ rfl) _ hS.ext
        have y2 : World.cell? wr ⟨bv, offv + j * 4 + 1, none⟩ = some (.int .i64 yv.s.w) := cell_ext (hvc 1 _ rfl) _ hS.ext
        have y3 : World.cell? wr ⟨bv, offv + j * 4 + 2, none⟩ = some (.int .i64 yv.s.c) := cell_ext (hvc 2 _ rfl) _ hS.ext
        replace y0 := cell_ext y0 _ hS.ext
        have hz := Blk.new wr #[.int .i64 0, .int .i64 0, .int .i64 0] 36
        have hb13 : Blk ((wr.alloc (.cells #[.int .i64 0, .int .i64 0, .int .i64 0] 36)).setRow wr.heap.size #[.int .i64 yv.s.h, .int .i64 yv.s.w, .int .i64 yv.s.c]) wr.heap.size #[.int .i64 yv.s.h, .int .i64 yv.s.w, .int .i64 yv.s.c] 36 := setRow_heap _ _ _ _ _ _ hz
        have hQ : Ext wr ((wr.alloc (.cells #[.int .i64 0, .int .i64 0, .int .i64 0] 36)).setRow wr.heap.size #[.int .i64 yv.s.h, .int .i64 yv.s.w, .int .i64 yv.s.c]) := ext_setRow (ext_alloc _ _) _ (Nat.le_refl _)
        have hS3 := hS.more hQ (Nat.le_refl _) hb13
        have HS3 := Lib.hid hS3
        have hlk : ((List.range k).map (goIn vs pl c nd.ins)).length ≤ 1000 := by simp; omega
        have HLK := Lib.hid hlk
        clear hb13 hQ hS hS3 hvc hjs hps hlk
        go_upto_region 9 with (refine wpList_store_row rfl 36 _ _ rfl wr.heap.size #[.int .i64 yv.s.h, .int .i64 yv.s.w, .int .i64 yv.s.c] rfl rfl 36 _ hz (by kernel_rfl) rfl (shape_one yv.s) ?_)
        clear y0 y1 y2 y3 hz
        generalize World.setRow (wr.alloc _) _ _ = w3 at *
        generalize wr.heap.size = b13 at *
        have hT : ∀ W, SideOk ((b13, #[.int .i64 yv.s.h, .int .i64 yv.s.w, .int .i64 yv.s.c], 36) :: SL) w0 W → SideOk SL w0 W := fun W h => ⟨fun s hs => h.1 s (List.mem_cons_of_mem _ hs), h.2⟩
        have t0 : ∀ W, SideOk ((b13, #[.int .i64 yv.s.h, .int .i64 yv.s.w, .int .i64 yv.s.c], 36) :: SL) w0 W → World.cell? W ⟨b13, 0, none⟩ = some (.int .i64 yv.s.h) := fun W h => (h.1 (b13, #[.int .i64 yv.s.h, .int .i64 yv.s.w, .int .i64 yv.s.c], 36) (by simp)).cell 0
        have t1 : ∀ W, SideOk ((b13, #[.int .i64 yv.s.h, .int .i64 yv.s.w, .int .i64 yv.s.c], 36) :: SL) w0 W → World.cell? W ⟨b13, 1, none⟩ = some (.int .i64 yv.s.w) := fun W h => (h.1 (b13, #[.int .i64 yv.s.h, .int .i64 yv.s.w, .int .i64 yv.s.c], 36) (by simp)).cell 1
        have t2 : ∀ W, SideOk ((b13, #[.int .i64 yv.s.h, .int .i64 yv.s.w, .int .i64 yv.s.c], 36) :: SL) w0 W → World.cell? W ⟨b13, 2, none⟩ = some (.int .i64 yv.s.c) := fun W h => (h.1 (b13, #[.int .i64 yv.s.h, .int .i64 yv.s.w, .int .i64 yv.s.c], 36) (by simp)).cell 2
        have k0 : World.cell? w3 ⟨b5 + 1, 0, none⟩ = some (.int .i64 3) := qk _ (hT _ HS3.out.ok)
        go_upto_region 10 with fail
        clear k0
        have r0 := fun W h => qp W (hT W h)
        have r4 := fun W h => qr W (hT W h)
        have ri0 := fun W h => qi0 W (hT W h)
        have ri1 := fun W h => qi1 W (hT W h)
        have rh0 := fun W h => qh0 W (hT W h)
        have rh1 := fun W h => qh1 W (hT W h)
        have hpp : ∀ W, SideOk ((b13, #[.int .i64 yv.s.h, .int .i64 yv.s.w, .int .i64 yv.s.c], 36) :: SL) w0 W → World.cell? W ⟨bp, offp + j, none⟩ = some (.int .i64 pj) := fun W h => cell_ext hpc _ h.2
        have HS4 := HS3.out.later (Ext.drew w3)
        generalize hSX : ((b13, #[.int .i64 yv.s.h, .int .i64 yv.s.w, .int .i64 yv.s.c], 36) :: SL) = SX at *
        have hk2 : k < 2 := by omega
        have hk3 : (k : Int) < 2 := by omega
        have ri : ∀ W, SideOk SX w0 W → World.cell? W ⟨b5 + 1, 8 + k, none⟩ = some (.int .i64 (inOf c k)) := fun W h => by
          rcases (by omega : k = 0 ∨ k = 1) with rfl | rfl
          · exact ri0 W h
          · exact ri1 W h
        have rh : ∀ W, SideOk SX w0 W → World.cell? W ⟨b5 + 1, 12 + k, none⟩ = some (.int .i64 (haveOf c k)) := fun W h => by
          rcases (by omega : k = 0 ∨ k = 1) with rfl | rfl
          · exact rh0 W h
          · exact rh1 W h
        clear ri0 ri1 rh0 rh1
        have hhr : 0 ≤ haveOf c k ∧ haveOf c k ≤ 16 := by
          have hbd := HBD.out
          unfold haveOf
          split <;> omega
        generalize haveOf c k = hv at *
        generalize inOf c k = iv at *
        have hrc := fun W => row_calls yv.s W
        have hrz := rowZ_range yv.s
        generalize rowZ yv.s = rz at *
        have hpr : 0 ≤ hv * rz ∧ hv * rz ≤ 16 * 128 := ⟨Int.mul_nonneg hhr.1 hrz.1, Int.mul_le_mul hhr.2 hrz.2 hrz.1 (by omega)⟩
        have m1 : IntKind.i64.wrap (hv * rz) = hv * rz := IntWalk.i64_in _ (by omega)
        obtain ⟨pr, hpe⟩ : ∃ x, hv * rz = x := ⟨_, rfl⟩
        rw [hpe] at HGK
        have m1' : IntKind.i64.wrap (hv * rz) = pr := by rw [m1, hpe]
        clear hpr hhr hrz m1 hpe
        refine wp_region_S (SideOk SX w0) [(0, true), (1, true), (2, true), (3, true), (4, true), (5, true), (6, true), (7, true), (8, true), (9, true), (10, false), (11, true), (12, false)] (by kernel_rfl) (by kernel_rfl) (fun _ _ d _ _ h => by cases d <;> exact h) HS4.ok ?_
        simp only [pickE, List.getElem?_cons_zero, List.getElem?_cons_succ]
        repeat (first | (refine wpF_pure (by rfl) (fun W hW => by go_simp; with_reducible rfl) ?_; simp only [Act.put, List.setIfInBounds_toArray, List.set_cons_zero, List.set_cons_succ]) | (refine wpF_skip (by rfl) ?_; simp only [Act.put, List.setIfInBounds_toArray, List.set_cons_zero, List.set_cons_succ]))
        generalize w3.drew = w4 at *
        refine wpF_step (by rfl) (fun K hK => ?_)
        go_simp
        refine (hrc _).mono ?_
        rintro e w5 ⟨rfl, hE5⟩
        have hS5 := HS4.later hE5
        refine hK _ _ hS5.ok ?_
        clear hK K hrc
        (try simp only [Act.put, List.setIfInBounds_toArray, List.set_cons_zero, List.set_cons_succ])
        repeat (first | (refine wpF_pure (by rfl) (fun W hW => by go_simp; with_reducible rfl) ?_; simp only [Act.put, List.setIfInBounds_toArray, List.set_cons_zero, List.set_cons_succ]) | (refine wpF_skip (by rfl) ?_; simp only [Act.put, List.setIfInBounds_toArray, List.set_cons_zero, List.set_cons_succ]))
        refine wpF_step (by rfl) (fun K hK => ?_)
        go_simp
        refine (lput_calls w0 w5 B v _ 1 iv pr false hS5 HLK.out).mono ?_
        rintro e w6 ⟨rfl, v6, hS6⟩
        rw [← HGK.out, ← nodeSp_snoc] at hS6
        refine hK _ _ hS6.ok ?_
        clear hK K
        (try simp only [Act.put, List.setIfInBounds_toArray, List.set_cons_zero, List.set_cons_succ])
        refine wpF_nil ?_
        have hS7 : SpB SL w0 w6 B v6 ((List.range (k + 1)).map (goIn vs pl c nd.ins)) := hS6.part (fun s hs => by rw [← hSX]; exact List.mem_cons_of_mem _ hs)
        go_wp2_with fail
        go_roundw
        case rel => exact ⟨k + 1, v6, by omega, by go_num, hS7⟩
        case measure => simp [intOf]; omega
      · have hkk : k = nd.ins.length := by omega
        subst hkk
        have hjp : tt < pl.length := by rw [hI.len]; exact hto
        obtain ⟨bp, offp, rfl, hpc⟩ := HPCL.out tt hjp
        have hps : pl[tt]? = some pl[tt] := by simp [hjp]
        rw [hps] at hpc
        simp only [Option.getD_some] at hpc
        generalize pl[tt] = pj at *
        have hpp : ∀ W, SideOk SL w0 W → World.cell? W ⟨bp, offp + tt, none⟩ = some (.int .i64 pj) := fun W h => cell_ext hpc _ h.2
        have hlk : ((List.range nd.ins.length).map (goIn vs pl c nd.ins)).length ≤ 1000 := by simp; omega
        have HLK := Lib.hid hlk
        have HS3 := Lib.hid hS
        have k0 : World.cell? wr ⟨b5 + 1, 0, none⟩ = some (.int .i64 3) := qk _ hS.ok
        clear hS hlk hps
        go_upto_region 14 with fail
        clear k0
        have HS4 := HS3.out.later (Ext.drew wr)
        have hbd := HBD.out
        have hrc := fun W => row_calls xv.s W
        have hrz := rowZ_range xv.s
        generalize rowZ xv.s = rz at *
        have hpr : 0 ≤ c.r * rz ∧ c.r * rz ≤ 16 * 128 := ⟨Int.mul_nonneg (by omega) hrz.1, Int.mul_le_mul hbd.1.2.2.1.2 hrz.2 hrz.1 (by omega)⟩
        have m1 : IntKind.i64.wrap (c.r * rz) = c.r * rz := IntWalk.i64_in _ (by omega)
        obtain ⟨pr, hpe⟩ : ∃ x, c.r * rz = x := ⟨_, rfl⟩
        rw [hpe] at HCO
        have m1' : IntKind.i64.wrap (c.r * rz) = pr := by rw [m1, hpe]
        clear m1 hpe
        have m2 : IntKind.i64.wrap (c.f + c.r) = c.f + c.r := IntWalk.i64_in _ (by omega)
        clear hpr hrz hbd
        refine wp_region_S (SideOk SL w0) [(0, true), (1, true), (2, true), (3, true), (4, true), (5, true), (6, false), (7, true), (8, false)] (by kernel_rfl) (by kernel_rfl) (fun _ _ d _ _ h => by cases d <;> exact h) HS4.ok ?_
        simp only [pickE, List.getElem?_cons_zero, List.getElem?_cons_succ]
        repeat (first | (refine wpF_pure (by rfl) (fun W hW => by go_simp; with_reducible rfl) ?_; simp only [Act.put, List.setIfInBounds_toArray, List.set_cons_zero, List.set_cons_succ]) | (refine wpF_skip (by rfl) ?_; simp only [Act.put, List.setIfInBounds_toArray, List.set_cons_zero, List.set_cons_succ]))
        generalize wr.drew = w4 at *
        refine wpF_step (by rfl) (fun K hK => ?_)
        go_simp
        refine (hrc _).mono ?_
        rintro e w5 ⟨rfl, hE5⟩
        have hS5 := HS4.later hE5
        refine hK _ _ hS5.ok ?_
        clear hK K
        (try simp only [Act.put, List.setIfInBounds_toArray, List.set_cons_zero, List.set_cons_succ])
        repeat (first | (refine wpF_pure (by rfl) (fun W hW => by go_simp; with_reducible rfl) ?_; simp only [Act.put, List.setIfInBounds_toArray, List.set_cons_zero, List.set_cons_succ]) | (refine wpF_skip (by rfl) ?_; simp only [Act.put, List.setIfInBounds_toArray, List.set_cons_zero, List.set_cons_succ]))
        refine wpF_step (by rfl) (fun K hK => ?_)
        go_simp
        refine (lput_calls w0 w5 B v _ 1 c.p pr true hS5 HLK.out).mono ?_
        rintro e w6 ⟨rfl, v6, hS6⟩
        rw [← HCO.out] at hS6
        refine hK _ _ hS6.ok ?_
        clear hK K
        (try simp only [Act.put, List.setIfInBounds_toArray, List.set_cons_zero, List.set_cons_succ])
        refine wpF_nil ?_
        have m0 : World.cell? w6 ⟨b10, 0, none⟩ = some (.int .i64 xv.s.h) := qm0 _ hS6.ok
        have m4 : World.cell? w6 ⟨b5 + 1, 4, none⟩ = some (.int .i64 c.r) := qr _ hS6.ok
        have m3 : World.cell? w6 ⟨b5 + 1, 3, none⟩ = some (.int .i64 c.f) := qf _ hS6.ok
        have HS6 := Lib.hid hS6
        clear hS6
        go_wp2_with fail
        exact HP.out _ _ ⟨by rw [HRO.out, hNB]; rfl, v6, _, HS6.out.bare, fun _ => (HNS.out _).2 rfl⟩
  · have hNB : decide (n < g.nodes.length) = false := decide_eq_false hN
    have HS1 := Lib.hid hS1
    clear hS1
    go_wp2_with fail
    exact HP.out _ _ ⟨by rw [hNB]; rfl, v, [], HS1.out.bare, fun h => by rw [hNB] at h; cases h⟩

end Go.Proofs.Ytdhdbmfipkppiaa
