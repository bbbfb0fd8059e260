/- Spans that are put one behind the other. -/
import Derived.Test.YtmddlhfahfelpaaRga
import Derived.Test.YtmddlhfahfelpaaVok
set_option linter.unusedSimpArgs false
set_option linter.unusedVariables false
set_option linter.unnecessarySimpa false
namespace Go.Proofs.Ytmddlhfahfelpaa
open Go.RowKit

theorem elem_sp : ElemT Try.prog 63 85 4 32 := elemT_of (z := .agg #[.int .i64 0, .int .i64 0, .int .i64 0, .bool false]) Try.underlying63 (by kernel_rfl) rfl (by omega)
theorem sp_one (x : Sp) : ∀ u ∈ x.cs, u.oneCell' = true := by
  intro u hu
  simp [Sp.cs] at hu
  rcases hu with rfl | rfl | rfl | rfl <;> rfl

/-- A list of spans in a box; blocks beside it. -/
structure SpB (S : Side) (w0 w : World) (B : Nat) (v : Value) (l : List Sp) : Prop where
  box : Blk w B #[v] 81
  own : w.ownsRow w0.heap.size 85 4 v l.length (l.flatMap Sp.cs)
  ext : Ext w0 w
  hB : w0.heap.size ≤ B
  ne : v.ownBlock ≠ some B
  side : ∀ s ∈ S, Blk w s.1 s.2.1 s.2.2 ∧ s.1 ≠ B ∧ v.ownBlock ≠ some s.1

theorem SpB.later {S : Side} {w0 w W : World} {B : Nat} {v : Value} {l : List Sp} (h : SpB S w0 w B v l) (e : Ext w W) : SpB S w0 W B v l :=
  ⟨h.box.ext e, World.ownsRow.kept (row := none) h.own (grown_of_ext e) (by cases v.ownBlock <;> simp), h.ext.trans e, h.hB, h.ne, fun s hs => ⟨(h.side s hs).1.ext e, (h.side s hs).2⟩⟩
theorem SpB.part {S S' : Side} {w0 w : World} {B : Nat} {v : Value} {l : List Sp} (h : SpB S w0 w B v l) (hs : ∀ s ∈ S', s ∈ S) : SpB S' w0 w B v l := ⟨h.box, h.own, h.ext, h.hB, h.ne, fun s k => h.side s (hs s k)⟩
theorem SpB.bare {S : Side} {w0 w : World} {B : Nat} {v : Value} {l : List Sp} (h : SpB S w0 w B v l) : SpB [] w0 w B v l := h.part (fun s hs => by cases hs)
/-- A block that was just laid. -/
theorem SpB.more {S : Side} {w0 w W : World} {B b : Nat} {v : Value} {l : List Sp} (h : SpB S w0 w B v l) (e : Ext w W) (hb : w.heap.size ≤ b) {cs : Array Value} {T : TypeId} (hk : Blk W b cs T) : SpB ((b, cs, T) :: S) w0 W B v l := by
  have h1 := h.later e
  refine ⟨h1.box, h1.own, h1.ext, h1.hB, h1.ne, fun s hs => ?_⟩
  rcases List.mem_cons.1 hs with rfl | hs
  · refine ⟨hk, fun e => ?_, fun e => ?_⟩
    · have := h.box.lt; simp only at e; omega
    · have := (h.own.lt _ e).2; simp only at this; omega
  · exact h1.side s hs

/-- The blocks beside it. -/
def SideOk (S : Side) (w0 W : World) : Prop := (∀ s ∈ S, Blk W s.1 s.2.1 s.2.2) ∧ Ext w0 W
theorem SpB.ok {S : Side} {w0 w : World} {B : Nat} {v : Value} {l : List Sp} (h : SpB S w0 w B v l) : SideOk S w0 w := ⟨fun s hs => (h.side s hs).1, h.ext⟩

theorem SpB.put {S : Side} {w0 w w1 : World} {B : Nat} {v v1 : Value} {l l1 : List Sp} (h : SpB S w0 w B v l) (ho : w1.ownsRow w0.heap.size 85 4 v1 l1.length (l1.flatMap Sp.cs)) (hg : w.grownBy w1 v.ownBlock) (hn : Near w v v1) : SpB S w0 (w1.setCell ⟨B, 0, none⟩ v1) B v1 l1 := by
  have hb1 : Blk w1 B #[v] 81 := h.box.grown hg (fun e => h.ne e.symm)
  have hne : v1.ownBlock ≠ some B := fun e => by
    rcases hn B e with h1 | h1
    · exact h.ne h1
    · have := h.box.lt; omega
  refine ⟨?_, ownsRow_setCell_other ho hne _, ?_, h.hB, hne, fun s hs => ?_⟩
  · have := hb1.set 0 v1
    simpa using this
  · exact Below.setCell (Below.grown h.ext hg h.ext.size (fun k hk => (h.own.lt k hk).1)) h.hB _
  · obtain ⟨k1, k2, k3⟩ := h.side s hs
    refine ⟨(k1.grown hg (fun e => k3 e.symm)).grown (setCell_grown _ _ _ _) (fun e => k2 (Option.some.inj e)), k2, fun e => ?_⟩
    rcases hn _ e with h1 | h1
    · exact k3 h1
    · have := k1.lt; omega

set_option maxHeartbeats 1600000 in
theorem lput_calls {S : Side} (w0 w : World) (B : Nat) (v : Value) (l : List Sp) (m f n : Int) (wr : Bool) (hw : SpB S w0 w B v l) (hlen : l.length ≤ 1000) :
    Calls Try.prog 39 #[.pointer (some ⟨B, 0, none⟩), .int .i64 m, .int .i64 f, .int .i64 n, .bool wr] w fun e w' => e = .returned (.tuple #[]) ∧ ∃ v', SpB S w0 w' B v' (l ++ [spz m f n wr]) := by
  have c0 : World.cell? w ⟨B, 0, none⟩ = some v := hw.box.cell 0
  have HS : Hid (spz m f n wr = ⟨m, f, IntKind.i64.wrap (f + n), wr⟩) := rfl
  generalize spz m f n wr = sp at *
  have hbl := hw.box.lt
  have hfr := hw.box.frozen 0
  have HW := Lib.hid hw
  clear hw
  generalize hx : IntKind.i64.wrap (f + n) = x at *
  have hE := ext_alloc w (.cells #[.int .i64 m, .int .i64 f, .int .i64 x, .bool wr] 85)
  have hnew := row_new w #[.int .i64 m, .int .i64 f, .int .i64 x, .bool wr] 85 1 4 rfl (by decide)
  have hW1 := HW.out.later hE
  have hown := hW1.own
  have hbase := hW1.ext.size
  have hk1 : l.length + 1 ≤ 140737488355328 := by omega
  have hk2 : (l.length + 1) * 32 ≤ 140737488355328 := by omega
  have h1 : ∀ u ∈ #[Value.int .i64 m, .int .i64 f, .int .i64 x, .bool wr].toList, u.oneCell' = true := sp_one ⟨m, f, x, wr⟩
  have HX := Lib.hid hx
  have HPUT : Hid (∀ (v' : Value) (w' : World), w'.ownsRow w0.heap.size 85 4 v' (l.length + 1) (l.flatMap Sp.cs ++ #[Value.int .i64 m, .int .i64 f, .int .i64 x, .bool wr].toList) →
      (w.alloc (.cells #[.int .i64 m, .int .i64 f, .int .i64 x, .bool wr] 85)).grownBy w' v.ownBlock → Near (w.alloc (.cells #[.int .i64 m, .int .i64 f, .int .i64 x, .bool wr] 85)) v v' → ∃ A2 n2 c2, v' = .slice A2 n2 c2 ∧
      SpB S w0 (w'.setCell ⟨B, 0, none⟩ v') B v' (l ++ [sp]) ∧ B < w'.heap.size ∧ w'.frozen? ⟨B, 0, none⟩ = false ∧ World.cell? w' ⟨B, 0, none⟩ = some v) := by
    intro v' w' ho hgr hnr
    have hb' : Blk w' B #[v] 81 := hW1.box.grown hgr (fun e => hW1.ne e.symm)
    obtain ⟨A2, c2, e2, _⟩ := row_of_own ho
    refine ⟨A2, _, c2, e2, hW1.put ?_ hgr hnr, hb'.lt, hb'.frozen 0, hb'.cell 0⟩
    rw [HS.out, List.length_append, List.flatMap_append]
    exact ho
  clear hW1 HW hE HS hlen
  go_enter Try.func39, Try.ntmps39
  have HXO := HX.out
  go_wp2_with (at_builtin; refine wpList_append_row rfl rfl elem_sp hown rfl hnew rfl h1 hk1 hk2 hbase ?_; intro v' w' ho hgr hnr; obtain ⟨A2, n2, c2, rfl, hpw, hb1, hb2, hb3⟩ := HPUT.out v' w' ho hgr hnr)
  go_end0
  exact ⟨rfl, _, hpw⟩
end Go.Proofs.Ytmddlhfahfelpaa
