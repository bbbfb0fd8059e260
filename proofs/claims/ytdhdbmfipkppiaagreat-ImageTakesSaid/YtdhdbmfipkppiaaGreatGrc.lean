/- Package graph: nodes, and the shapes that they make. -/
/- Package graph: the kind of an op. -/
/- Package graph: the functions of the kinds of nodes: which shape is made, how many weights there are. -/
import Derived.Test.YtdhdbmfipkppiaaGreatShp
import Derived.Laws.EntriesVeiled
set_option linter.unusedSimpArgs false
set_option linter.unusedVariables false
set_option linter.unnecessarySimpa false
namespace Go.Proofs.YtdhdbmfipkppiaaGreat
open Go.RowKit

/-- A node; its rows as values, and what they read as. -/
structure Nd where
  op : Int
  inV : Value
  k : Int
  st : Int
  pad : Int
  out : Int
  mul : Int
  sh : Int
  zero : Int
  th : Int
  tw : Int
  tc : Int
  wV : Value
  bV : Value
  ins : List Int
  ws : List Int
  bs : List Int

def Nd.cs (n : Nd) : List Value := [.int .i64 n.op, n.inV, .int .i64 n.k, .int .i64 n.st, .int .i64 n.pad, .int .i64 n.out, .int .i64 n.mul, .int .i64 n.sh, .int .i64 n.zero, .int .i64 n.th, .int .i64 n.tw, .int .i64 n.tc, n.wV, n.bV]

set_option maxRecDepth 4000 in
theorem slid_calls (n : Nd) (s : Sz) (c : Int) (w : World) : Calls Tryz.prog 101 #[.agg #[.int .i64 n.op, n.inV, .int .i64 n.k, .int .i64 n.st, .int .i64 n.pad, .int .i64 n.out, .int .i64 n.mul, .int .i64 n.sh, .int .i64 n.zero, .int .i64 n.th, .int .i64 n.tw, .int .i64 n.tc, n.wV, n.bV], .agg #[.int .i64 s.h, .int .i64 s.w, .int .i64 s.c], .int .i64 c] w fun e w' => e = .returned (.agg #[.int .i64 (outZ s.h n.k n.st n.pad), .int .i64 (outZ s.w n.k n.st n.pad), .int .i64 c]) ∧ Ext w w' := by
  have hE1 := ext_alloc w (.cells #[.int .i64 n.op, n.inV, .int .i64 n.k, .int .i64 n.st, .int .i64 n.pad, .int .i64 n.out, .int .i64 n.mul, .int .i64 n.sh, .int .i64 n.zero, .int .i64 n.th, .int .i64 n.tw, .int .i64 n.tc, n.wV, n.bV] 67)
  have hE2 := ext_alloc (w.alloc (.cells #[.int .i64 n.op, n.inV, .int .i64 n.k, .int .i64 n.st, .int .i64 n.pad, .int .i64 n.out, .int .i64 n.mul, .int .i64 n.sh, .int .i64 n.zero, .int .i64 n.th, .int .i64 n.tw, .int .i64 n.tc, n.wV, n.bV] 67)) (.cells #[.int .i64 s.h, .int .i64 s.w, .int .i64 s.c] 39)
  have hE3 := ext_alloc ((w.alloc (.cells #[.int .i64 n.op, n.inV, .int .i64 n.k, .int .i64 n.st, .int .i64 n.pad, .int .i64 n.out, .int .i64 n.mul, .int .i64 n.sh, .int .i64 n.zero, .int .i64 n.th, .int .i64 n.tw, .int .i64 n.tc, n.wV, n.bV] 67)).alloc (.cells #[.int .i64 s.h, .int .i64 s.w, .int .i64 s.c] 39)) (.cells #[.int .i64 0, .int .i64 0, .int .i64 0] 39)
  have hn := ((Blk.new w #[.int .i64 n.op, n.inV, .int .i64 n.k, .int .i64 n.st, .int .i64 n.pad, .int .i64 n.out, .int .i64 n.mul, .int .i64 n.sh, .int .i64 n.zero, .int .i64 n.th, .int .i64 n.tw, .int .i64 n.tc, n.wV, n.bV] 67).ext hE2).ext hE3
  have hs := (Blk.new (w.alloc (.cells #[.int .i64 n.op, n.inV, .int .i64 n.k, .int .i64 n.st, .int .i64 n.pad, .int .i64 n.out, .int .i64 n.mul, .int .i64 n.sh, .int .i64 n.zero, .int .i64 n.th, .int .i64 n.tw, .int .i64 n.tc, n.wV, n.bV] 67)) #[.int .i64 s.h, .int .i64 s.w, .int .i64 s.c] 39).ext hE3
  have hr := Blk.new ((w.alloc (.cells #[.int .i64 n.op, n.inV, .int .i64 n.k, .int .i64 n.st, .int .i64 n.pad, .int .i64 n.out, .int .i64 n.mul, .int .i64 n.sh, .int .i64 n.zero, .int .i64 n.th, .int .i64 n.tw, .int .i64 n.tc, n.wV, n.bV] 67)).alloc (.cells #[.int .i64 s.h, .int .i64 s.w, .int .i64 s.c] 39)) #[.int .i64 0, .int .i64 0, .int .i64 0] 39
  have hEE := (hE1.trans hE2).trans hE3
  have hoh := fun W => out_calls s.h n.k n.st n.pad W
  have how := fun W => out_calls s.w n.k n.st n.pad W
  generalize outZ s.h n.k n.st n.pad = oh at *
  generalize outZ s.w n.k n.st n.pad = ow at *
  rw [show (w.alloc (.cells #[.int .i64 n.op, n.inV, .int .i64 n.k, .int .i64 n.st, .int .i64 n.pad, .int .i64 n.out, .int .i64 n.mul, .int .i64 n.sh, .int .i64 n.zero, .int .i64 n.th, .int .i64 n.tw, .int .i64 n.tc, n.wV, n.bV] 67)).heap.size = w.heap.size + 1 from by simp] at hs
  rw [show ((w.alloc (.cells #[.int .i64 n.op, n.inV, .int .i64 n.k, .int .i64 n.st, .int .i64 n.pad, .int .i64 n.out, .int .i64 n.mul, .int .i64 n.sh, .int .i64 n.zero, .int .i64 n.th, .int .i64 n.tw, .int .i64 n.tc, n.wV, n.bV] 67)).alloc (.cells #[.int .i64 s.h, .int .i64 s.w, .int .i64 s.c] 39)).heap.size = w.heap.size + 1 + 1 from by simp] at hr
  clear hE1 hE2 hE3
  go_enter Tryz.func101, Tryz.ntmps101
  go_wp2_with fail
  generalize World.alloc (World.alloc (World.alloc w _) _) _ = w1 at *
  refine wp_region_B (w.heap.size + 1 + 1) 39 #[.int .i64 0, .int .i64 0, .int .i64 0] #[.int .i64 oh, .int .i64 ow, .int .i64 c] [0, 1, 2, 3, 4, 5, 6, 7, 9, 10, 11, 12, 13, 14, 15, 16, 18] [⟨8, [], MT.is (.int .i64 oh)⟩, ⟨17, [], MT.is (.int .i64 ow)⟩, ⟨19, [8, 17], MT.is (.agg #[.int .i64 oh, .int .i64 ow, .int .i64 c])⟩, ⟨20, [19], MT.done⟩] (by kernel_rfl) (by kernel_rfl) (fun _ _ d _ _ h => by cases d <;> exact h) hr (fun w2 hE hB => ?_)
  have n2 : ∀ W, RB (w.heap.size + 1 + 1) 39 #[.int .i64 0, .int .i64 0, .int .i64 0] #[.int .i64 oh, .int .i64 ow, .int .i64 c] w2 W → W.cell? ⟨w.heap.size, 2, none⟩ = some (.int .i64 n.k) := fun W h => h.cell ((hn.ext hE).cell 2) (by omega)
  have n3 : ∀ W, RB (w.heap.size + 1 + 1) 39 #[.int .i64 0, .int .i64 0, .int .i64 0] #[.int .i64 oh, .int .i64 ow, .int .i64 c] w2 W → W.cell? ⟨w.heap.size, 3, none⟩ = some (.int .i64 n.st) := fun W h => h.cell ((hn.ext hE).cell 3) (by omega)
  have n4 : ∀ W, RB (w.heap.size + 1 + 1) 39 #[.int .i64 0, .int .i64 0, .int .i64 0] #[.int .i64 oh, .int .i64 ow, .int .i64 c] w2 W → W.cell? ⟨w.heap.size, 4, none⟩ = some (.int .i64 n.pad) := fun W h => h.cell ((hn.ext hE).cell 4) (by omega)
  have s0 : ∀ W, RB (w.heap.size + 1 + 1) 39 #[.int .i64 0, .int .i64 0, .int .i64 0] #[.int .i64 oh, .int .i64 ow, .int .i64 c] w2 W → W.cell? ⟨w.heap.size + 1, 0, none⟩ = some (.int .i64 s.h) := fun W h => h.cell ((hs.ext hE).cell 0) (by omega)
  have s1 : ∀ W, RB (w.heap.size + 1 + 1) 39 #[.int .i64 0, .int .i64 0, .int .i64 0] #[.int .i64 oh, .int .i64 ow, .int .i64 c] w2 W → W.cell? ⟨w.heap.size + 1, 1, none⟩ = some (.int .i64 s.w) := fun W h => h.cell ((hs.ext hE).cell 1) (by omega)
  repeat (first | (refine wpP_pure rfl (by rfl) (fun W hW => by go_simp; with_reducible rfl) ?_; simp only [Act.put, List.setIfInBounds_toArray, List.set_cons_zero, List.set_cons_succ]) | (refine wpP_skip rfl (by rfl) ?_; simp only [Act.put, List.setIfInBounds_toArray, List.set_cons_zero, List.set_cons_succ]))
  refine ⟨?_, fun W hR => ?_⟩
  · simp only [rSteps, rNeed, rStep, both_top, tie, TP.top, TP.mine, MP.top, MP.mine, MT.mine, MT.tied, MT.done, MT.is, List.reverse_cons, List.reverse_nil, List.nil_append, List.cons_append, ME.is, MP.is, MP.done, ME.ints, ME.row, Region.wanted, yielded, List.getElem?_toArray, phi, dstAt, List.getElem?_cons_zero, List.getElem?_cons_succ, Option.bind_some, Act.put, List.setIfInBounds_toArray, List.set_cons_zero, List.set_cons_succ, and_true, forall_eq, reduceIte, Nat.reduceEqDiff, beq_iff_eq, Option.some.injEq, Bool.false_eq_true, reduceCtorEq, implies_true, true_and]
    refine ⟨fun W hR => ?_, fun W hR => ?_, fun W hR => ?_, fun W hR => ?_⟩
    · go_simp
      refine (hoh W).mono ?_
      rintro e w' ⟨rfl, h1⟩
      exact ⟨_, rfl, RB.ext h1, rfl⟩
    · go_simp
      refine (how W).mono ?_
      rintro e w' ⟨rfl, h1⟩
      exact ⟨_, rfl, RB.ext h1, rfl⟩
    · go_simp
      exact ⟨_, rfl, RB.refl _, rfl⟩
    · exact wp_store_B _ _ _ rfl rfl rfl (hB W hR) (by kernel_rfl) rfl (by simp [Value.oneCell']) ((hB W hR).elim Blk.setRow Blk.setRow)
  · simp only [rFin, envAt, TP.top, TP.mine, MP.top, MP.mine, MT.mine, MT.tied, MT.done, MT.is, List.map_cons, List.map_nil, true_implies, List.head?_cons, ME.is, MP.is, MP.done, ME.ints, ME.row, phi, dstAt, List.getElem?_cons_zero, List.getElem?_cons_succ, Option.bind_some, Act.put, List.setIfInBounds_toArray, List.set_cons_zero, List.set_cons_succ, and_true, forall_eq, reduceIte, Nat.reduceEqDiff, beq_iff_eq, Option.some.injEq, Bool.false_eq_true, reduceCtorEq, implies_true, true_and]
    intro v hD
    go_wp2
    refine bodyPost_ret (v := .agg #[.int .i64 oh, .int .i64 ow, .int .i64 c]) (results_cell_row Tryz.results101 _ _ (w.heap.size + 1 + 1) 39 _ (0, 0) _ rfl hD (by kernel_rfl : Tryz.prog.underlying 39 = some (.struct (Tryz.prog.fieldsOf 39))) rfl (by kernel_rfl)) rfl ?_
    exact ⟨rfl, Below.grown (hEE.trans hE) hR.gr (hEE.trans hE).size (fun k hk => by cases hk; omega)⟩

end Go.Proofs.YtdhdbmfipkppiaaGreat

namespace Go.Proofs.YtdhdbmfipkppiaaGreat
open Go.RowKit

theorem results_cell_tmp {P : Program} {fn : Func} {p t : Tmp} {ty : TypeId} (h : fn.results = #[.cell p ty, .tmp t]) (tmps : Array Value) (w : World) (g : Nat) (T : TypeId) (cs : Array Value) (fr : Nat × Nat) (d : TypeDesc)
    (hp : tmps.getD p undef = .pointer (some ⟨g, 0, none⟩)) (hg : w.heap[g]? = some (.cells cs T fr))
    (hu : P.underlying ty = some d) (hd : (match d with | .struct _ | .array _ _ => true | _ => false) = true) (hi : (P.info? ty).map (·.size) = some cs.size) :
    (results fn tmps).run P w = .ok (.tuple #[.agg cs, tmps.getD t undef]) w := by
  have hp' : tmps[p]?.getD undef = .pointer (some ⟨g, 0, none⟩) := by simpa using hp
  simp [results, h, hp', asAddr, run_loadVar_row w g T ty cs fr d hg hu hd hi]

/-- What an op asks for. -/
structure Kn where
  many : Int
  window : Bool
  pads : Bool
  padded : Bool
  out : Bool
  keeps : Bool
  mf : Nat
  wf : Nat

def Kn.v (k : Kn) : Value := .agg #[.int .i64 k.many, .bool k.window, .bool k.pads, .bool k.padded, .bool k.out, .bool k.keeps, .func (.func k.mf) #[] #[], .func (.func k.wf) #[] #[]]

def kindOf (op : Int) : Option Kn :=
  if op = 1 then some ⟨1, true, true, false, true, false, 100, 102⟩ else
  if op = 2 then some ⟨1, true, true, false, false, false, 103, 104⟩ else
  if op = 3 then some ⟨1, false, false, false, true, false, 105, 106⟩ else
  if op = 4 then some ⟨1, true, false, false, false, true, 103, 99⟩ else
  if op = 5 then some ⟨1, true, false, false, false, true, 103, 99⟩ else
  if op = 6 then some ⟨2, false, false, false, false, false, 107, 99⟩ else
  if op = 7 then some ⟨2, false, false, false, false, false, 107, 99⟩ else
  if op = 8 then some ⟨1, false, false, false, false, true, 98, 99⟩ else
  if op = 9 then some ⟨1, false, false, true, false, true, 108, 99⟩ else
  if op = 10 then some ⟨2, false, false, false, false, true, 109, 99⟩ else
  if op = 11 then some ⟨1, false, false, false, false, true, 110, 99⟩ else
  if op = 12 then some ⟨1, false, false, false, false, false, 98, 111⟩ else
  none

def kindV (op : Int) : Value := match kindOf op with
  | some k => k.v
  | none => .agg #[.int .i64 0, .bool false, .bool false, .bool false, .bool false, .bool false, .nilFunc, .nilFunc]

def KindPost (op : Int) (w : World) (e : Ending) (w' : World) : Prop := e = .returned (.tuple #[kindV op, .bool (kindOf op).isSome]) ∧ Ext w w'

set_option maxHeartbeats 1600000 in
theorem of_calls (op : Int) (w : World) : Calls Tryz.prog 85 #[.int .i64 op] w (KindPost op w) := by
  by_cases hop : 1 ≤ op ∧ op ≤ 12
  · rcases (by omega : op = 1 ∨ op = 2 ∨ op = 3 ∨ op = 4 ∨ op = 5 ∨ op = 6 ∨ op = 7 ∨ op = 8 ∨ op = 9 ∨ op = 10 ∨ op = 11 ∨ op = 12) with rfl | rfl | rfl | rfl | rfl | rfl | rfl | rfl | rfl | rfl | rfl | rfl
    all_goals
      clear hop
      go_enter Tryz.func85, Tryz.ntmps85
      go_wp2
      refine bodyPost_ret (v := .tuple #[_, .bool true]) (results_cell_tmp Tryz.results85 _ _ w.heap.size 126 _ (0, 0) _ rfl (Blk.ext (Blk.new _ _ _) (ext_alloc _ _)) (by kernel_rfl : Tryz.prog.underlying 126 = some (.struct (Tryz.prog.fieldsOf 126))) rfl (by kernel_rfl)) rfl ?_
      exact ⟨rfl, (ext_alloc _ _).trans (ext_alloc _ _)⟩
  · have HK : Hid (kindOf op = none) := by
      show _ = _
      unfold kindOf
      rw [if_neg (by omega), if_neg (by omega), if_neg (by omega), if_neg (by omega), if_neg (by omega), if_neg (by omega), if_neg (by omega), if_neg (by omega), if_neg (by omega), if_neg (by omega), if_neg (by omega), if_neg (by omega)]
    have n1 : ¬ op = 1 := by omega
    have n2 : ¬ op = 2 := by omega
    have n3 : ¬ op = 3 := by omega
    have n4 : ¬ op = 4 := by omega
    have n5 : ¬ op = 5 := by omega
    have n6 : ¬ op = 6 := by omega
    have n7 : ¬ op = 7 := by omega
    have n8 : ¬ op = 8 := by omega
    have n9 : ¬ op = 9 := by omega
    have n10 : ¬ op = 10 := by omega
    have n11 : ¬ op = 11 := by omega
    have n12 : ¬ op = 12 := by omega
    clear hop
    go_enter Tryz.func85, Tryz.ntmps85
    go_wp2
    refine bodyPost_ret (v := .tuple #[_, .bool false]) (results_cell_tmp Tryz.results85 _ _ w.heap.size 126 _ (0, 0) _ rfl (Blk.ext (Blk.new _ _ _) (ext_alloc _ _)) (by kernel_rfl : Tryz.prog.underlying 126 = some (.struct (Tryz.prog.fieldsOf 126))) rfl (by kernel_rfl)) rfl ?_
    exact ⟨by unfold kindV; rw [HK.out]; rfl, (ext_alloc _ _).trans (ext_alloc _ _)⟩

end Go.Proofs.YtdhdbmfipkppiaaGreat

namespace Go.Proofs.YtdhdbmfipkppiaaGreat
open Go.RowKit

def Sz.zero : Sz := ⟨0, 0, 0⟩

/-- What is known ahead of a call of three: the boxes of a node and two shapes, and that of the result. -/
structure Box3 (w W : World) (n : Nd) (a b : Sz) : Prop where
  n : Blk W w.heap.size #[.int .i64 n.op, n.inV, .int .i64 n.k, .int .i64 n.st, .int .i64 n.pad, .int .i64 n.out, .int .i64 n.mul, .int .i64 n.sh, .int .i64 n.zero, .int .i64 n.th, .int .i64 n.tw, .int .i64 n.tc, n.wV, n.bV] 67
  a : Blk W (w.heap.size + 1) #[.int .i64 a.h, .int .i64 a.w, .int .i64 a.c] 39
  b : Blk W (w.heap.size + 1 + 1) #[.int .i64 b.h, .int .i64 b.w, .int .i64 b.c] 39
  r : Blk W (w.heap.size + 1 + 1 + 1) #[.int .i64 0, .int .i64 0, .int .i64 0] 39
  e : Ext w W

theorem box3 (w : World) (n : Nd) (a b : Sz) : Box3 w ((((w.alloc (.cells #[.int .i64 n.op, n.inV, .int .i64 n.k, .int .i64 n.st, .int .i64 n.pad, .int .i64 n.out, .int .i64 n.mul, .int .i64 n.sh, .int .i64 n.zero, .int .i64 n.th, .int .i64 n.tw, .int .i64 n.tc, n.wV, n.bV] 67)).alloc (.cells #[.int .i64 a.h, .int .i64 a.w, .int .i64 a.c] 39)).alloc (.cells #[.int .i64 b.h, .int .i64 b.w, .int .i64 b.c] 39)).alloc (.cells #[.int .i64 0, .int .i64 0, .int .i64 0] 39)) n a b := by
  have e1 := ext_alloc w (.cells #[.int .i64 n.op, n.inV, .int .i64 n.k, .int .i64 n.st, .int .i64 n.pad, .int .i64 n.out, .int .i64 n.mul, .int .i64 n.sh, .int .i64 n.zero, .int .i64 n.th, .int .i64 n.tw, .int .i64 n.tc, n.wV, n.bV] 67)
  have b1 := Blk.new w #[.int .i64 n.op, n.inV, .int .i64 n.k, .int .i64 n.st, .int .i64 n.pad, .int .i64 n.out, .int .i64 n.mul, .int .i64 n.sh, .int .i64 n.zero, .int .i64 n.th, .int .i64 n.tw, .int .i64 n.tc, n.wV, n.bV] 67
  have z1 : (w.alloc (.cells #[.int .i64 n.op, n.inV, .int .i64 n.k, .int .i64 n.st, .int .i64 n.pad, .int .i64 n.out, .int .i64 n.mul, .int .i64 n.sh, .int .i64 n.zero, .int .i64 n.th, .int .i64 n.tw, .int .i64 n.tc, n.wV, n.bV] 67)).heap.size = w.heap.size + 1 := by simp
  generalize w.alloc (.cells #[.int .i64 n.op, n.inV, .int .i64 n.k, .int .i64 n.st, .int .i64 n.pad, .int .i64 n.out, .int .i64 n.mul, .int .i64 n.sh, .int .i64 n.zero, .int .i64 n.th, .int .i64 n.tw, .int .i64 n.tc, n.wV, n.bV] 67) = w1 at *
  have e2 := ext_alloc w1 (.cells #[.int .i64 a.h, .int .i64 a.w, .int .i64 a.c] 39)
  have b2 := Blk.new w1 #[.int .i64 a.h, .int .i64 a.w, .int .i64 a.c] 39
  have z2 : (w1.alloc (.cells #[.int .i64 a.h, .int .i64 a.w, .int .i64 a.c] 39)).heap.size = w.heap.size + 1 + 1 := by simp [z1]
  rw [z1] at b2
  generalize w1.alloc (.cells #[.int .i64 a.h, .int .i64 a.w, .int .i64 a.c] 39) = w2 at *
  have e3 := ext_alloc w2 (.cells #[.int .i64 b.h, .int .i64 b.w, .int .i64 b.c] 39)
  have b3 := Blk.new w2 #[.int .i64 b.h, .int .i64 b.w, .int .i64 b.c] 39
  have z3 : (w2.alloc (.cells #[.int .i64 b.h, .int .i64 b.w, .int .i64 b.c] 39)).heap.size = w.heap.size + 1 + 1 + 1 := by simp [z2]
  rw [z2] at b3
  generalize w2.alloc (.cells #[.int .i64 b.h, .int .i64 b.w, .int .i64 b.c] 39) = w3 at *
  have e4 := ext_alloc w3 (.cells #[.int .i64 0, .int .i64 0, .int .i64 0] 39)
  have b4 := Blk.new w3 #[.int .i64 0, .int .i64 0, .int .i64 0] 39
  rw [z3] at b4
  exact ⟨((b1.ext e2).ext e3).ext e4, (b2.ext e3).ext e4, b3.ext e4, b4, ((e1.trans e2).trans e3).trans e4⟩

theorem ext_setRow {w W : World} {b : Nat} (h : Ext w W) (cs : Array Value) (hb : w.heap.size ≤ b) : Ext w (W.setRow b cs) := Below.grown h (setRow_grown W b cs) h.size (fun k hk => by cases hk; exact hb)

set_option maxRecDepth 4000 in
theorem conv_made (n : Nd) (a b : Sz) (w : World) : Calls Tryz.prog 100 #[.agg #[.int .i64 n.op, n.inV, .int .i64 n.k, .int .i64 n.st, .int .i64 n.pad, .int .i64 n.out, .int .i64 n.mul, .int .i64 n.sh, .int .i64 n.zero, .int .i64 n.th, .int .i64 n.tw, .int .i64 n.tc, n.wV, n.bV], .agg #[.int .i64 a.h, .int .i64 a.w, .int .i64 a.c], .agg #[.int .i64 b.h, .int .i64 b.w, .int .i64 b.c]] w fun e w' => e = .returned (.agg #[.int .i64 (outZ a.h n.k n.st n.pad), .int .i64 (outZ a.w n.k n.st n.pad), .int .i64 n.out]) ∧ Ext w w' := by
  have HB := box3 w n a b
  have hc := slid_calls n a n.out
  go_enter Tryz.func100, Tryz.ntmps100
  go_wp2_with fail
  generalize World.alloc (World.alloc (World.alloc (World.alloc w _) _) _) _ = w1 at *
  refine (hc w1).mono ?_
  rintro e w' ⟨rfl, h1⟩
  have hr := HB.r.ext h1
  have hx := ext_setRow (HB.e.trans h1) #[.int .i64 (outZ a.h n.k n.st n.pad), .int .i64 (outZ a.w n.k n.st n.pad), .int .i64 n.out] (show w.heap.size ≤ w.heap.size + 1 + 1 + 1 by omega)
  go_wp2_with (refine wpList_store_row rfl 39 _ _ rfl (w.heap.size + 1 + 1 + 1) #[.int .i64 (outZ a.h n.k n.st n.pad), .int .i64 (outZ a.w n.k n.st n.pad), .int .i64 n.out] rfl rfl 39 _ hr (by kernel_rfl) rfl (by simp [Value.oneCell']) ?_)
  refine bodyPost_ret (v := .agg _) (results_cell_row Tryz.results100 _ _ (w.heap.size + 1 + 1 + 1) 39 _ (0, 0) _ rfl (setRow_heap _ _ _ _ _ _ hr) (by kernel_rfl : Tryz.prog.underlying 39 = some (.struct (Tryz.prog.fieldsOf 39))) rfl (by kernel_rfl)) rfl ?_
  exact ⟨rfl, hx⟩

set_option maxRecDepth 4000 in
theorem pooled_made (n : Nd) (a b : Sz) (w : World) : Calls Tryz.prog 103 #[.agg #[.int .i64 n.op, n.inV, .int .i64 n.k, .int .i64 n.st, .int .i64 n.pad, .int .i64 n.out, .int .i64 n.mul, .int .i64 n.sh, .int .i64 n.zero, .int .i64 n.th, .int .i64 n.tw, .int .i64 n.tc, n.wV, n.bV], .agg #[.int .i64 a.h, .int .i64 a.w, .int .i64 a.c], .agg #[.int .i64 b.h, .int .i64 b.w, .int .i64 b.c]] w fun e w' => e = .returned (.agg #[.int .i64 (outZ a.h n.k n.st n.pad), .int .i64 (outZ a.w n.k n.st n.pad), .int .i64 a.c]) ∧ Ext w w' := by
  have HB := box3 w n a b
  have hc := slid_calls n a a.c
  go_enter Tryz.func103, Tryz.ntmps103
  go_wp2_with fail
  generalize World.alloc (World.alloc (World.alloc (World.alloc w _) _) _) _ = w1 at *
  refine (hc w1).mono ?_
  rintro e w' ⟨rfl, h1⟩
  have hr := HB.r.ext h1
  have hx := ext_setRow (HB.e.trans h1) #[.int .i64 (outZ a.h n.k n.st n.pad), .int .i64 (outZ a.w n.k n.st n.pad), .int .i64 a.c] (show w.heap.size ≤ w.heap.size + 1 + 1 + 1 by omega)
  go_wp2_with (refine wpList_store_row rfl 39 _ _ rfl (w.heap.size + 1 + 1 + 1) #[.int .i64 (outZ a.h n.k n.st n.pad), .int .i64 (outZ a.w n.k n.st n.pad), .int .i64 a.c] rfl rfl 39 _ hr (by kernel_rfl) rfl (by simp [Value.oneCell']) ?_)
  refine bodyPost_ret (v := .agg _) (results_cell_row Tryz.results103 _ _ (w.heap.size + 1 + 1 + 1) 39 _ (0, 0) _ rfl (setRow_heap _ _ _ _ _ _ hr) (by kernel_rfl : Tryz.prog.underlying 39 = some (.struct (Tryz.prog.fieldsOf 39))) rfl (by kernel_rfl)) rfl ?_
  exact ⟨rfl, hx⟩

theorem blk3 (w : World) (x y z : Obj) (cs : Array Value) (T : TypeId) : Blk ((((w.alloc x).alloc y).alloc z).alloc (.cells cs T)) (w.heap.size + 1 + 1 + 1) cs T ∧ Ext w ((((w.alloc x).alloc y).alloc z).alloc (.cells cs T)) := by
  refine ⟨?_, (((ext_alloc _ _).trans (ext_alloc _ _)).trans (ext_alloc _ _)).trans (ext_alloc _ _)⟩
  have := Blk.new (((w.alloc x).alloc y).alloc z) cs T
  rwa [show (((w.alloc x).alloc y).alloc z).heap.size = w.heap.size + 1 + 1 + 1 from by simp] at this

def zSz : Value := .agg #[.int .i64 0, .int .i64 0, .int .i64 0]

theorem full_made (n : Nd) (a b : Sz) (w : World) : Calls Tryz.prog 105 #[.agg #[.int .i64 n.op, n.inV, .int .i64 n.k, .int .i64 n.st, .int .i64 n.pad, .int .i64 n.out, .int .i64 n.mul, .int .i64 n.sh, .int .i64 n.zero, .int .i64 n.th, .int .i64 n.tw, .int .i64 n.tc, n.wV, n.bV], .agg #[.int .i64 a.h, .int .i64 a.w, .int .i64 a.c], .agg #[.int .i64 b.h, .int .i64 b.w, .int .i64 b.c]] w fun e w' => e = .returned (.agg #[.int .i64 1, .int .i64 1, .int .i64 n.out]) ∧ Ext w w' := by
  go_enter Tryz.func105, Tryz.ntmps105
  go_wp2
  refine bodyPost_ret (v := .agg _) (results_cell_row Tryz.results105 _ _ (w.heap.size + 1 + 1 + 1) 39 _ (0, 0) _ rfl (blk3 _ _ _ _ _ _).1 (by kernel_rfl : Tryz.prog.underlying 39 = some (.struct (Tryz.prog.fieldsOf 39))) rfl (by kernel_rfl)) rfl ?_
  exact ⟨rfl, (blk3 _ _ _ _ _ _).2⟩

theorem first_made (n : Nd) (a b : Sz) (w : World) : Calls Tryz.prog 98 #[.agg #[.int .i64 n.op, n.inV, .int .i64 n.k, .int .i64 n.st, .int .i64 n.pad, .int .i64 n.out, .int .i64 n.mul, .int .i64 n.sh, .int .i64 n.zero, .int .i64 n.th, .int .i64 n.tw, .int .i64 n.tc, n.wV, n.bV], .agg #[.int .i64 a.h, .int .i64 a.w, .int .i64 a.c], .agg #[.int .i64 b.h, .int .i64 b.w, .int .i64 b.c]] w fun e w' => e = .returned (.agg #[.int .i64 a.h, .int .i64 a.w, .int .i64 a.c]) ∧ Ext w w' := by
  go_enter Tryz.func98, Tryz.ntmps98
  go_wp2
  refine bodyPost_ret (v := .agg _) (results_cell_row Tryz.results98 _ _ (w.heap.size + 1 + 1 + 1) 39 _ (0, 0) _ rfl (blk3 _ _ _ _ _ _).1 (by kernel_rfl : Tryz.prog.underlying 39 = some (.struct (Tryz.prog.fieldsOf 39))) rfl (by kernel_rfl)) rfl ?_
  exact ⟨rfl, (blk3 _ _ _ _ _ _).2⟩

theorem pad_made (n : Nd) (a b : Sz) (w : World) (ha : a.ok = true) : Calls Tryz.prog 108 #[.agg #[.int .i64 n.op, n.inV, .int .i64 n.k, .int .i64 n.st, .int .i64 n.pad, .int .i64 n.out, .int .i64 n.mul, .int .i64 n.sh, .int .i64 n.zero, .int .i64 n.th, .int .i64 n.tw, .int .i64 n.tc, n.wV, n.bV], .agg #[.int .i64 a.h, .int .i64 a.w, .int .i64 a.c], .agg #[.int .i64 b.h, .int .i64 b.w, .int .i64 b.c]] w fun e w' => e = .returned (.agg #[.int .i64 (a.h + 2), .int .i64 (a.w + 2), .int .i64 a.c]) ∧ Ext w w' := by
  obtain ⟨h1, h2, h3, h4, h5, h6⟩ := Sz.bounds ha
  clear ha
  go_enter Tryz.func108, Tryz.ntmps108
  go_wp2
  refine bodyPost_ret (v := .agg _) (results_cell_row Tryz.results108 _ _ (w.heap.size + 1 + 1 + 1) 39 _ (0, 0) _ rfl (blk3 _ _ _ _ _ _).1 (by kernel_rfl : Tryz.prog.underlying 39 = some (.struct (Tryz.prog.fieldsOf 39))) rfl (by kernel_rfl)) rfl ?_
  exact ⟨rfl, (blk3 _ _ _ _ _ _).2⟩

def sameZ (a b : Sz) : Sz := if a = b then a else ⟨0, 0, 0⟩
set_option maxHeartbeats 800000 in
theorem same_made (n : Nd) (a b : Sz) (w : World) : Calls Tryz.prog 107 #[.agg #[.int .i64 n.op, n.inV, .int .i64 n.k, .int .i64 n.st, .int .i64 n.pad, .int .i64 n.out, .int .i64 n.mul, .int .i64 n.sh, .int .i64 n.zero, .int .i64 n.th, .int .i64 n.tw, .int .i64 n.tc, n.wV, n.bV], .agg #[.int .i64 a.h, .int .i64 a.w, .int .i64 a.c], .agg #[.int .i64 b.h, .int .i64 b.w, .int .i64 b.c]] w fun e w' => e = .returned (sameZ a b).v ∧ Ext w w' := by
  by_cases hab : a = b
  · subst hab
    have HS : Hid (sameZ a a = a) := by show _ = _; unfold sameZ; rw [if_pos rfl]
    go_enter Tryz.func107, Tryz.ntmps107
    go_wp2
    refine bodyPost_ret (v := .agg _) (results_cell_row Tryz.results107 _ _ (w.heap.size + 1 + 1 + 1) 39 _ (0, 0) _ rfl (blk3 _ _ _ _ _ _).1 (by kernel_rfl : Tryz.prog.underlying 39 = some (.struct (Tryz.prog.fieldsOf 39))) rfl (by kernel_rfl)) rfl ?_
    exact ⟨by rw [HS.out]; rfl, (blk3 _ _ _ _ _ _).2⟩
  · have HS : Hid (sameZ a b = ⟨0, 0, 0⟩) := by show _ = _; unfold sameZ; rw [if_neg hab]
    have hd : ¬ (a.h = b.h ∧ a.w = b.w ∧ a.c = b.c) := fun ⟨h1, h2, h3⟩ => hab (by cases a; cases b; simp_all)
    clear hab
    by_cases d1 : a.h = b.h
    · by_cases d2 : a.w = b.w
      · have d3 : ¬ a.c = b.c := fun h => hd ⟨d1, d2, h⟩
        clear hd
        go_enter Tryz.func107, Tryz.ntmps107
        go_wp2
        refine bodyPost_ret (v := .agg _) (results_cell_row Tryz.results107 _ _ (w.heap.size + 1 + 1 + 1) 39 _ (0, 0) _ rfl (blk3 _ _ _ _ _ _).1 (by kernel_rfl : Tryz.prog.underlying 39 = some (.struct (Tryz.prog.fieldsOf 39))) rfl (by kernel_rfl)) rfl ?_
        exact ⟨by rw [HS.out]; rfl, (blk3 _ _ _ _ _ _).2⟩
      · clear hd
        go_enter Tryz.func107, Tryz.ntmps107
        go_wp2
        refine bodyPost_ret (v := .agg _) (results_cell_row Tryz.results107 _ _ (w.heap.size + 1 + 1 + 1) 39 _ (0, 0) _ rfl (blk3 _ _ _ _ _ _).1 (by kernel_rfl : Tryz.prog.underlying 39 = some (.struct (Tryz.prog.fieldsOf 39))) rfl (by kernel_rfl)) rfl ?_
        exact ⟨by rw [HS.out]; rfl, (blk3 _ _ _ _ _ _).2⟩
    · clear hd
      go_enter Tryz.func107, Tryz.ntmps107
      go_wp2
      refine bodyPost_ret (v := .agg _) (results_cell_row Tryz.results107 _ _ (w.heap.size + 1 + 1 + 1) 39 _ (0, 0) _ rfl (blk3 _ _ _ _ _ _).1 (by kernel_rfl : Tryz.prog.underlying 39 = some (.struct (Tryz.prog.fieldsOf 39))) rfl (by kernel_rfl)) rfl ?_
      exact ⟨by rw [HS.out]; rfl, (blk3 _ _ _ _ _ _).2⟩

def besideZ (a b : Sz) : Sz := if a.h = b.h ∧ a.w = b.w then ⟨a.h, a.w, a.c + b.c⟩ else ⟨0, 0, 0⟩
set_option maxHeartbeats 800000 in
theorem beside_made (n : Nd) (a b : Sz) (w : World) (ha : a.ok = true) (hb : b.ok = true) : Calls Tryz.prog 109 #[.agg #[.int .i64 n.op, n.inV, .int .i64 n.k, .int .i64 n.st, .int .i64 n.pad, .int .i64 n.out, .int .i64 n.mul, .int .i64 n.sh, .int .i64 n.zero, .int .i64 n.th, .int .i64 n.tw, .int .i64 n.tc, n.wV, n.bV], .agg #[.int .i64 a.h, .int .i64 a.w, .int .i64 a.c], .agg #[.int .i64 b.h, .int .i64 b.w, .int .i64 b.c]] w fun e w' => e = .returned (besideZ a b).v ∧ Ext w w' := by
  obtain ⟨h1, h2, h3, h4, h5, h6⟩ := Sz.bounds ha
  obtain ⟨k1, k2, k3, k4, k5, k6⟩ := Sz.bounds hb
  clear ha hb
  by_cases d1 : a.h = b.h
  · by_cases d2 : a.w = b.w
    · have HS : Hid (besideZ a b = ⟨a.h, a.w, a.c + b.c⟩) := by show _ = _; unfold besideZ; rw [if_pos ⟨d1, d2⟩]
      go_enter Tryz.func109, Tryz.ntmps109
      go_wp2
      refine bodyPost_ret (v := .agg _) (results_cell_row Tryz.results109 _ _ (w.heap.size + 1 + 1 + 1) 39 _ (0, 0) _ rfl (blk3 _ _ _ _ _ _).1 (by kernel_rfl : Tryz.prog.underlying 39 = some (.struct (Tryz.prog.fieldsOf 39))) rfl (by kernel_rfl)) rfl ?_
      exact ⟨by rw [HS.out]; simp only [Sz.v, d1, d2], (blk3 _ _ _ _ _ _).2⟩
    · have HS : Hid (besideZ a b = ⟨0, 0, 0⟩) := by show _ = _; unfold besideZ; rw [if_neg (fun h => d2 h.2)]
      go_enter Tryz.func109, Tryz.ntmps109
      go_wp2
      refine bodyPost_ret (v := .agg _) (results_cell_row Tryz.results109 _ _ (w.heap.size + 1 + 1 + 1) 39 _ (0, 0) _ rfl (blk3 _ _ _ _ _ _).1 (by kernel_rfl : Tryz.prog.underlying 39 = some (.struct (Tryz.prog.fieldsOf 39))) rfl (by kernel_rfl)) rfl ?_
      exact ⟨by rw [HS.out]; rfl, (blk3 _ _ _ _ _ _).2⟩
  · have HS : Hid (besideZ a b = ⟨0, 0, 0⟩) := by show _ = _; unfold besideZ; rw [if_neg (fun h => d1 h.1)]
    go_enter Tryz.func109, Tryz.ntmps109
    go_wp2
    refine bodyPost_ret (v := .agg _) (results_cell_row Tryz.results109 _ _ (w.heap.size + 1 + 1 + 1) 39 _ (0, 0) _ rfl (blk3 _ _ _ _ _ _).1 (by kernel_rfl : Tryz.prog.underlying 39 = some (.struct (Tryz.prog.fieldsOf 39))) rfl (by kernel_rfl)) rfl ?_
    exact ⟨by rw [HS.out]; rfl, (blk3 _ _ _ _ _ _).2⟩

end Go.Proofs.YtdhdbmfipkppiaaGreat
