/- Package graph: nodes, and the shapes that they make. -/
/- Package graph: the kind of an op. -/
import Derived.Test.YtmddlhfahfelpaaShp
import Derived.Laws.EntriesVeiled
set_option linter.unusedSimpArgs false
set_option linter.unusedVariables false
set_option linter.unnecessarySimpa false
namespace Go.Proofs.Ytmddlhfahfelpaa
open Go.RowKit

/-- A node; its rows as values, and what they read as. -/
structure Nd where
  op : Int
  inV : Value
  k : Int
  st : Int
  pad : Int
  out : Int
  mul : Int
  sh : Int
  zero : Int
  th : Int
  tw : Int
  tc : Int
  wV : Value
  bV : Value
  ins : List Int
  ws : List Int
  bs : List Int

def Nd.cs (n : Nd) : List Value := [.int .i64 n.op, n.inV, .int .i64 n.k, .int .i64 n.st, .int .i64 n.pad, .int .i64 n.out, .int .i64 n.mul, .int .i64 n.sh, .int .i64 n.zero, .int .i64 n.th, .int .i64 n.tw, .int .i64 n.tc, n.wV, n.bV]

set_option maxRecDepth 4000 in
theorem slid_calls (n : Nd) (s : Sz) (c : Int) (w : World) : Calls Try.prog 81 #[.agg #[.int .i64 n.op, n.inV, .int .i64 n.k, .int .i64 n.st, .int .i64 n.pad, .int .i64 n.out, .int .i64 n.mul, .int .i64 n.sh, .int .i64 n.zero, .int .i64 n.th, .int .i64 n.tw, .int .i64 n.tc, n.wV, n.bV], .agg #[.int .i64 s.h, .int .i64 s.w, .int .i64 s.c], .int .i64 c] w fun e w' => e = .returned (.agg #[.int .i64 (outZ s.h n.k n.st n.pad), .int .i64 (outZ s.w n.k n.st n.pad), .int .i64 c]) ∧ Ext w w' := by
  have hE1 := ext_alloc w (.cells #[.int .i64 n.op, n.inV, .int .i64 n.k, .int .i64 n.st, .int .i64 n.pad, .int .i64 n.out, .int .i64 n.mul, .int .i64 n.sh, .int .i64 n.zero, .int .i64 n.th, .int .i64 n.tw, .int .i64 n.tc, n.wV, n.bV] 51)
  have hE2 := ext_alloc (w.alloc (.cells #[.int .i64 n.op, n.inV, .int .i64 n.k, .int .i64 n.st, .int .i64 n.pad, .int .i64 n.out, .int .i64 n.mul, .int .i64 n.sh, .int .i64 n.zero, .int .i64 n.th, .int .i64 n.tw, .int .i64 n.tc, n.wV, n.bV] 51)) (.cells #[.int .i64 s.h, .int .i64 s.w, .int .i64 s.c] 42)
  have hE3 := ext_alloc ((w.alloc (.cells #[.int .i64 n.op, n.inV, .int .i64 n.k, .int .i64 n.st, .int .i64 n.pad, .int .i64 n.out, .int .i64 n.mul, .int .i64 n.sh, .int .i64 n.zero, .int .i64 n.th, .int .i64 n.tw, .int .i64 n.tc, n.wV, n.bV] 51)).alloc (.cells #[.int .i64 s.h, .int .i64 s.w, .int .i64 s.c] 42)) (.cells #[.int .i64 0, .int .i64 0, .int .i64 0] 42)
  have hn := ((Blk.new w #[.int .i64 n.op, n.inV, .int .i64 n.k, .int .i64 n.st, .int .i64 n.pad, .int .i64 n.out, .int .i64 n.mul, .int .i64 n.sh, .int .i64 n.zero, .int .i64 n.th, .int .i64 n.tw, .int .i64 n.tc, n.wV, n.bV] 51).ext hE2).ext hE3
  have hs := (Blk.new (w.alloc (.cells #[.int .i64 n.op, n.inV, .int .i64 n.k, .int .i64 n.st, .int .i64 n.pad, .int .i64 n.out, .int .i64 n.mul, .int .i64 n.sh, .int .i64 n.zero, .int .i64 n.th, .int .i64 n.tw, .int .i64 n.tc, n.wV, n.bV] 51)) #[.int .i64 s.h, .int .i64 s.w, .int .i64 s.c] 42).ext hE3
  have hr := Blk.new ((w.alloc (.cells #[.int .i64 n.op, n.inV, .int .i64 n.k, .int .i64 n.st, .int .i64 n.pad, .int .i64 n.out, .int .i64 n.mul, .int .i64 n.sh, .int .i64 n.zero, .int .i64 n.th, .int .i64 n.tw, .int .i64 n.tc, n.wV, n.bV] 51)).alloc (.cells #[.int .i64 s.h, .int .i64 s.w, .int .i64 s.c] 42)) #[.int .i64 0, .int .i64 0, .int .i64 0] 42
  have hEE := (hE1.trans hE2).trans hE3
  have hoh := fun W => out_calls s.h n.k n.st n.pad W
  have how := fun W => out_calls s.w n.k n.st n.pad W
  generalize outZ s.h n.k n.st n.pad = oh at *
  generalize outZ s.w n.k n.st n.pad = ow at *
  rw [show (w.alloc (.cells #[.int .i64 n.op, n.inV, .int .i64 n.k, .int .i64 n.st, .int .i64 n.pad, .int .i64 n.out, .int .i64 n.mul, .int .i64 n.sh, .int .i64 n.zero, .int .i64 n.th, .int .i64 n.tw, .int .i64 n.tc, n.wV, n.bV] 51)).heap.size = w.heap.size + 1 from by simp] at hs
  rw [show ((w.alloc (.cells #[.int .i64 n.op, n.inV, .int .i64 n.k, .int .i64 n.st, .int .i64 n.pad, .int .i64 n.out, .int .i64 n.mul, .int .i64 n.sh, .int .i64 n.zero, .int .i64 n.th, .int .i64 n.tw, .int .i64 n.tc, n.wV, n.bV] 51)).alloc (.cells #[.int .i64 s.h, .int .i64 s.w, .int .i64 s.c] 42)).heap.size = w.heap.size + 1 + 1 from by simp] at hr
  clear hE1 hE2 hE3
  go_enter Try.func81, Try.ntmps81
  go_wp2_with fail
  generalize World.alloc (World.alloc (World.alloc w _) _) _ = w1 at *
  refine wp_region_B (w.heap.size + 1 + 1) 42 #[.int .i64 0, .int .i64 0, .int .i64 0] #[.int .i64 oh, .int .i64 ow, .int .i64 c] [0, 1, 2, 3, 4, 5, 6, 7, 9, 10, 11, 12, 13, 14, 15, 16, 18] [⟨8, [], MT.is (.int .i64 oh)⟩, ⟨17, [], MT.is (.int .i64 ow)⟩, ⟨19, [8, 17], MT.is (.agg #[.int .i64 oh, .int .i64 ow, .int .i64 c])⟩, ⟨20, [19], MT.done⟩] (by kernel_rfl) (by kernel_rfl) (fun _ _ d _ _ h => by cases d <;> exact h) hr (fun w2 hE hB => ?_)
  have n2 : ∀ W, RB (w.heap.size + 1 + 1) 42 #[.int .i64 0, .int .i64 0, .int .i64 0] #[.int .i64 oh, .int .i64 ow, .int .i64 c] w2 W → W.cell? ⟨w.heap.size, 2, none⟩ = some (.int .i64 n.k) := fun W h => h.cell ((hn.ext hE).cell 2) (by omega)
  have n3 : ∀ W, RB (w.heap.size + 1 + 1) 42 #[.int .i64 0, .int .i64 0, .int .i64 0] #[.int .i64 oh, .int .i64 ow, .int .i64 c] w2 W → W.cell? ⟨w.heap.size, 3, none⟩ = some (.int .i64 n.st) := fun W h => h.cell ((hn.ext hE).cell 3) (by omega)
  have n4 : ∀ W, RB (w.heap.size + 1 + 1) 42 #[.int .i64 0, .int .i64 0, .int .i64 0] #[.int .i64 oh, .int .i64 ow, .int .i64 c] w2 W → W.cell? ⟨w.heap.size, 4, none⟩ = some (.int .i64 n.pad) := fun W h => h.cell ((hn.ext hE).cell 4) (by omega)
  have s0 : ∀ W, RB (w.heap.size + 1 + 1) 42 #[.int .i64 0, .int .i64 0, .int .i64 0] #[.int .i64 oh, .int .i64 ow, .int .i64 c] w2 W → W.cell? ⟨w.heap.size + 1, 0, none⟩ = some (.int .i64 s.h) := fun W h => h.cell ((hs.ext hE).cell 0) (by omega)
  have s1 : ∀ W, RB (w.heap.size + 1 + 1) 42 #[.int .i64 0, .int .i64 0, .int .i64 0] #[.int .i64 oh, .int .i64 ow, .int .i64 c] w2 W → W.cell? ⟨w.heap.size + 1, 1, none⟩ = some (.int .i64 s.w) := fun W h => h.cell ((hs.ext hE).cell 1) (by omega)
  repeat (first | (refine wpP_pure rfl (by rfl) (fun W hW => by go_simp; with_reducible rfl) ?_; simp only [Act.put, List.setIfInBounds_toArray, List.set_cons_zero, List.set_cons_succ]) | (refine wpP_skip rfl (by rfl) ?_; simp only [Act.put, List.setIfInBounds_toArray, List.set_cons_zero, List.set_cons_succ]))
  refine ⟨?_, fun W hR => ?_⟩
  · simp only [rSteps, rNeed, rStep, both_top, tie, TP.top, TP.mine, MP.top, MP.mine, MT.mine, MT.tied, MT.done, MT.is, List.reverse_cons, List.reverse_nil, List.nil_append, List.cons_append, ME.is, MP.is, MP.done, ME.ints, ME.row, Region.wanted, yielded, List.getElem?_toArray, phi, dstAt, List.getElem?_cons_zero, List.getElem?_cons_succ, Option.bind_some, Act.put, List.setIfInBounds_toArray, List.set_cons_zero, List.set_cons_succ, and_true, forall_eq, reduceIte, Nat.reduceEqDiff, beq_iff_eq, Option.some.injEq, Bool.false_eq_true, reduceCtorEq, implies_true, true_and]
    refine ⟨fun W hR => ?_, fun W hR => ?_, fun W hR => ?_, fun W hR => ?_⟩
    · go_simp
      refine (hoh W).mono ?_
      rintro e w' ⟨rfl, h1⟩
      exact ⟨_, rfl, RB.ext h1, rfl⟩
    · go_simp
      refine (how W).mono ?_
      rintro e w' ⟨rfl, h1⟩
      exact ⟨_, rfl, RB.ext h1, rfl⟩
    · go_simp
      exact ⟨_, rfl, RB.refl _, rfl⟩
    · exact wp_store_B _ _ _ rfl rfl rfl (hB W hR) (by kernel_rfl) rfl (by simp [Value.oneCell']) ((hB W hR).elim Blk.setRow Blk.setRow)
  · simp only [rFin, envAt, TP.top, TP.mine, MP.top, MP.mine, MT.mine, MT.tied, MT.done, MT.is, List.map_cons, List.map_nil, true_implies, List.head?_cons, ME.is, MP.is, MP.done, ME.ints, ME.row, phi, dstAt, List.getElem?_cons_zero, List.getElem?_cons_succ, Option.bind_some, Act.put, List.setIfInBounds_toArray, List.set_cons_zero, List.set_cons_succ, and_true, forall_eq, reduceIte, Nat.reduceEqDiff, beq_iff_eq, Option.some.injEq, Bool.false_eq_true, reduceCtorEq, implies_true, true_and]
    intro v hD
    go_wp2
    refine bodyPost_ret (v := .agg #[.int .i64 oh, .int .i64 ow, .int .i64 c]) (results_cell_row Try.results81 _ _ (w.heap.size + 1 + 1) 42 _ (0, 0) _ rfl hD (by kernel_rfl : Try.prog.underlying 42 = some (.struct (Try.prog.fieldsOf 42))) rfl (by kernel_rfl)) rfl ?_
    exact ⟨rfl, Below.grown (hEE.trans hE) hR.gr (hEE.trans hE).size (fun k hk => by cases hk; omega)⟩

end Go.Proofs.Ytmddlhfahfelpaa

namespace Go.Proofs.Ytmddlhfahfelpaa
open Go.RowKit

theorem results_cell_tmp {P : Program} {fn : Func} {p t : Tmp} {ty : TypeId} (h : fn.results = #[.cell p ty, .tmp t]) (tmps : Array Value) (w : World) (g : Nat) (T : TypeId) (cs : Array Value) (fr : Nat × Nat) (d : TypeDesc)
    (hp : tmps.getD p undef = .pointer (some ⟨g, 0, none⟩)) (hg : w.heap[g]? = some (.cells cs T fr))
    (hu : P.underlying ty = some d) (hd : (match d with | .struct _ | .array _ _ => true | _ => false) = true) (hi : (P.info? ty).map (·.size) = some cs.size) :
    (results fn tmps).run P w = .ok (.tuple #[.agg cs, tmps.getD t undef]) w := by
  have hp' : tmps[p]?.getD undef = .pointer (some ⟨g, 0, none⟩) := by simpa using hp
  simp [results, h, hp', asAddr, run_loadVar_row w g T ty cs fr d hg hu hd hi]

/-- What an op asks for. -/
structure Kn where
  many : Int
  window : Bool
  pads : Bool
  padded : Bool
  out : Bool
  keeps : Bool
  mf : Nat
  wf : Nat

def Kn.v (k : Kn) : Value := .agg #[.int .i64 k.many, .bool k.window, .bool k.pads, .bool k.padded, .bool k.out, .bool k.keeps, .func (.func k.mf) #[] #[], .func (.func k.wf) #[] #[]]

def kindOf (op : Int) : Option Kn :=
  if op = 1 then some ⟨1, true, true, false, true, false, 80, 82⟩ else
  if op = 2 then some ⟨1, true, true, false, false, false, 83, 84⟩ else
  if op = 3 then some ⟨1, false, false, false, true, false, 85, 86⟩ else
  if op = 4 then some ⟨1, true, false, false, false, true, 83, 79⟩ else
  if op = 5 then some ⟨1, true, false, false, false, true, 83, 79⟩ else
  if op = 6 then some ⟨2, false, false, false, false, false, 87, 79⟩ else
  if op = 7 then some ⟨2, false, false, false, false, false, 87, 79⟩ else
  if op = 8 then some ⟨1, false, false, false, false, true, 78, 79⟩ else
  if op = 9 then some ⟨1, false, false, true, false, true, 88, 79⟩ else
  if op = 10 then some ⟨2, false, false, false, false, true, 89, 79⟩ else
  if op = 11 then some ⟨1, false, false, false, false, true, 90, 79⟩ else
  if op = 12 then some ⟨1, false, false, false, false, false, 78, 91⟩ else
  none

def kindV (op : Int) : Value := match kindOf op with
  | some k => k.v
  | none => .agg #[.int .i64 0, .bool false, .bool false, .bool false, .bool false, .bool false, .nilFunc, .nilFunc]

def KindPost (op : Int) (w : World) (e : Ending) (w' : World) : Prop := e = .returned (.tuple #[kindV op, .bool (kindOf op).isSome]) ∧ Ext w w'

set_option maxHeartbeats 1600000 in
theorem of_calls (op : Int) (w : World) : Calls Try.prog 66 #[.int .i64 op] w (KindPost op w) := by
  by_cases hop : 1 ≤ op ∧ op ≤ 12
  · rcases (by omega : op = 1 ∨ op = 2 ∨ op = 3 ∨ op = 4 ∨ op = 5 ∨ op = 6 ∨ op = 7 ∨ op = 8 ∨ op = 9 ∨ op = 10 ∨ op = 11 ∨ op = 12) with rfl | rfl | rfl | rfl | rfl | rfl | rfl | rfl | rfl | rfl | rfl | rfl
    all_goals
      clear hop
      go_enter Try.func66, Try.ntmps66
      go_wp2
      refine bodyPost_ret (v := .tuple #[_, .bool true]) (results_cell_tmp Try.results66 _ _ w.heap.size 111 _ (0, 0) _ rfl (Blk.ext (Blk.new _ _ _) (ext_alloc _ _)) (by kernel_rfl : Try.prog.underlying 111 = some (.struct (Try.prog.fieldsOf 111))) rfl (by kernel_rfl)) rfl ?_
      exact ⟨rfl, (ext_alloc _ _).trans (ext_alloc _ _)⟩
  · have HK : Hid (kindOf op = none) := by
      show _ = _
      unfold kindOf
      rw [if_neg (by omega), if_neg (by omega), if_neg (by omega), if_neg (by omega), if_neg (by omega), if_neg (by omega), if_neg (by omega), if_neg (by omega), if_neg (by omega), if_neg (by omega), if_neg (by omega), if_neg (by omega)]
    have n1 : ¬ op = 1 := by omega
    have n2 : ¬ op = 2 := by omega
    have n3 : ¬ op = 3 := by omega
    have n4 : ¬ op = 4 := by omega
    have n5 : ¬ op = 5 := by omega
    have n6 : ¬ op = 6 := by omega
    have n7 : ¬ op = 7 := by omega
    have n8 : ¬ op = 8 := by omega
    have n9 : ¬ op = 9 := by omega
    have n10 : ¬ op = 10 := by omega
    have n11 : ¬ op = 11 := by omega
    have n12 : ¬ op = 12 := by omega
    clear hop
    go_enter Try.func66, Try.ntmps66
    go_wp2
    refine bodyPost_ret (v := .tuple #[_, .bool false]) (results_cell_tmp Try.results66 _ _ w.heap.size 111 _ (0, 0) _ rfl (Blk.ext (Blk.new _ _ _) (ext_alloc _ _)) (by kernel_rfl : Try.prog.underlying 111 = some (.struct (Try.prog.fieldsOf 111))) rfl (by kernel_rfl)) rfl ?_
    exact ⟨by unfold kindV; rw [HK.out]; rfl, (ext_alloc _ _).trans (ext_alloc _ _)⟩

end Go.Proofs.Ytmddlhfahfelpaa
