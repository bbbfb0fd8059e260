/- Package graph: the kind of an op. -/
import Derived.Test.YtdhdbmfipkppiaaGra
import Derived.Laws.EntriesVeiled
namespace Go.Proofs.Ytdhdbmfipkppiaa
set_option linter.unusedSimpArgs false
set_option linter.unusedVariables false
set_option linter.unnecessarySimpa false
open Go.RowKit

theorem results_cell_tmp {P : Program} {fn : Func} {p t : Tmp} {ty : TypeId} (h : fn.results = #[.cell p ty, .tmp t]) (tmps : Array Value) (w : World) (g : Nat) (T : TypeId) (cs : Array Value) (fr : Nat × Nat) (d : TypeDesc)
    (hp : tmps.getD p undef = .pointer (some ⟨g, 0, none⟩)) (hg : w.heap[g]? = some (.cells cs T fr))
    (hu : P.underlying ty = some d) (hd : (match d with | .struct _ | .array _ _ => true | _ => false) = true) (hi : (P.info? ty).map (·.size) = some cs.size) :
    (results fn tmps).run P w = .ok (.tuple #[.agg cs, tmps.getD t undef]) w := by
  have hp' : tmps[p]?.getD undef = .pointer (some ⟨g, 0, none⟩) := by simpa using hp
  simp [results, h, hp', asAddr, run_loadVar_row w g T ty cs fr d hg hu hd hi]

/-- What an op asks for. -/
structure Kn where
  many : Int
  window : Bool
  pads : Bool
  padded : Bool
  out : Bool
  keeps : Bool
  mf : Nat
  wf : Nat

def Kn.v (k : Kn) : Value := .agg #[.int .i64 k.many, .bool k.window, .bool k.pads, .bool k.padded, .bool k.out, .bool k.keeps, .func (.func k.mf) #[] #[], .func (.func k.wf) #[] #[]]

def kindOf (op : Int) : Option Kn :=
  if op = 1 then some ⟨1, true, true, false, true, false, 137, 139⟩ else
  if op = 2 then some ⟨1, true, true, false, false, false, 140, 141⟩ else
  if op = 3 then some ⟨1, false, false, false, true, false, 142, 143⟩ else
  if op = 4 then some ⟨1, true, false, false, false, true, 140, 136⟩ else
  if op = 5 then some ⟨1, true, false, false, false, true, 140, 136⟩ else
  if op = 6 then some ⟨2, false, false, false, false, false, 144, 136⟩ else
  if op = 7 then some ⟨2, false, false, false, false, false, 144, 136⟩ else
  if op = 8 then some ⟨1, false, false, false, false, true, 135, 136⟩ else
  if op = 9 then some ⟨1, false, false, true, false, true, 145, 136⟩ else
  if op = 10 then some ⟨2, false, false, false, false, true, 146, 136⟩ else
  if op = 11 then some ⟨1, false, false, false, false, true, 147, 136⟩ else
  if op = 12 then some ⟨1, false, false, false, false, false, 135, 148⟩ else
  none

def kindV (op : Int) : Value := match kindOf op with
  | some k => k.v
  | none => .agg #[.int .i64 0, .bool false, .bool false, .bool false, .bool false, .bool false, .nilFunc, .nilFunc]

def KindPost (op : Int) (w : World) (e : Ending) (w' : World) : Prop := e = .returned (.tuple #[kindV op, .bool (kindOf op).isSome]) ∧ Ext w w'

set_option maxHeartbeats 1600000 in
theorem of_calls (op : Int) (w : World) : Calls Try.prog 127 #[.int .i64 op] w (KindPost op w) := by
  by_cases hop : 1 ≤ op ∧ op ≤ 12
  · rcases (by omega : op = 1 ∨ op = 2 ∨ op = 3 ∨ op = 4 ∨ op = 5 ∨ op = 6 ∨ op = 7 ∨ op = 8 ∨ op = 9 ∨ op = 10 ∨ op = 11 ∨ op = 12) with rfl | rfl | rfl | rfl | rfl | rfl | rfl | rfl | rfl | rfl | rfl | rfl
    all_goals
      clear hop
      go_enter Try.func127, Try.ntmps127
      go_wp2
      refine bodyPost_ret (v := .tuple #[_, .bool true]) (results_cell_tmp Try.results127 _ _ w.heap.size 164 _ (0, 0) _ rfl (Blk.ext (Blk.new _ _ _) (ext_alloc _ _)) (by kernel_rfl : Try.prog.underlying 164 = some (.struct (Try.prog.fieldsOf 164))) rfl (by kernel_rfl)) rfl ?_
      exact ⟨rfl, (ext_alloc _ _).trans (ext_alloc _ _)⟩
  · have HK : Hid (kindOf op = none) := by
      show _ = _
      unfold kindOf
      rw [if_neg (by omega), if_neg (by omega), if_neg (by omega), if_neg (by omega), if_neg (by omega), if_neg (by omega), if_neg (by omega), if_neg (by omega), if_neg (by omega), if_neg (by omega), if_neg (by omega), if_neg (by omega)]
    have n1 : ¬ op = 1 := by omega
    have n2 : ¬ op = 2 := by omega
    have n3 : ¬ op = 3 := by omega
    have n4 : ¬ op = 4 := by omega
    have n5 : ¬ op = 5 := by omega
    have n6 : ¬ op = 6 := by omega
    have n7 : ¬ op = 7 := by omega
    have n8 : ¬ op = 8 := by omega
    have n9 : ¬ op = 9 := by omega
    have n10 : ¬ op = 10 := by omega
    have n11 : ¬ op = 11 := by omega
    have n12 : ¬ op = 12 := by omega
    clear hop
    go_enter Try.func127, Try.ntmps127
    go_wp2
    refine bodyPost_ret (v := .tuple #[_, .bool false]) (results_cell_tmp Try.results127 _ _ w.heap.size 164 _ (0, 0) _ rfl (Blk.ext (Blk.new _ _ _) (ext_alloc _ _)) (by kernel_rfl : Try.prog.underlying 164 = some (.struct (Try.prog.fieldsOf 164))) rfl (by kernel_rfl)) rfl ?_
    exact ⟨by unfold kindV; rw [HK.out]; rfl, (ext_alloc _ _).trans (ext_alloc _ _)⟩

end Go.Proofs.Ytdhdbmfipkppiaa
