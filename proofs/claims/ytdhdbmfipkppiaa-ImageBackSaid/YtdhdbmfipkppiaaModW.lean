/- The walk of the writer of graphs: put. -/
import Derived.Test.YtdhdbmfipkppiaaShp
import Derived.Test.YtdhdbmfipkppiaaBytes
import Derived.OneCell
import Derived.Deep.CutBlock
import Derived.Deep.DeepCutAuto
namespace Go.Proofs.Ytdhdbmfipkppiaa
set_option linter.unusedSimpArgs false
set_option linter.unusedVariables false
set_option linter.unnecessarySimpa false
open Go.RowKit

/-- A number as a byte. -/
def b8 (x : Int) : Int := x % 256
theorem b8_range (x : Int) : 0 ≤ b8 x ∧ b8 x ≤ 255 := by unfold b8; omega
theorem b8_id {x : Int} (h : 0 ≤ x ∧ x ≤ 255) : b8 x = x := by unfold b8; omega

/-- Blocks beside the writer's. -/
abbrev Side : Type := List (Nat × Array Value × TypeId)

/-- A writer that has laid these bytes down. -/
structure Wr (S : Side) (w0 w : World) (B : Nat) (v : Value) (bs : List Int) : Prop where
  box : Blk w B #[v] 86
  own : w.ownsRow w0.heap.size 5 1 v bs.length (bs.map (.int .u8))
  ext : Ext w0 w
  hB : w0.heap.size ≤ B
  ne : v.ownBlock ≠ some B
  side : ∀ s ∈ S, Blk w s.1 s.2.1 s.2.2 ∧ s.1 ≠ B ∧ v.ownBlock ≠ some s.1

theorem Wr.later {S : Side} {w0 w W : World} {B : Nat} {v : Value} {bs : List Int} (h : Wr S w0 w B v bs) (e : Ext w W) : Wr S w0 W B v bs :=
  ⟨h.box.ext e, World.ownsRow.kept (row := none) h.own (grown_of_ext e) (by cases v.ownBlock <;> simp), h.ext.trans e, h.hB, h.ne, fun s hs => ⟨(h.side s hs).1.ext e, (h.side s hs).2⟩⟩
theorem Wr.bare {S : Side} {w0 w : World} {B : Nat} {v : Value} {bs : List Int} (h : Wr S w0 w B v bs) : Wr [] w0 w B v bs := ⟨h.box, h.own, h.ext, h.hB, h.ne, fun s hs => by cases hs⟩
theorem Wr.ownGe {S : Side} {w0 w : World} {B : Nat} {v : Value} {bs : List Int} (h : Wr S w0 w B v bs) {k : Nat} (e : v.ownBlock = some k) : w0.heap.size ≤ k ∧ k < w.heap.size := h.own.lt k e

/-- What lies where the writer does not write. -/
def Off (l : List Int) (lv v : Value) (B : Nat) : Prop := l ≠ [] → ∀ k, lv.ownBlock = some k → k ≠ B ∧ v.ownBlock ≠ some k

theorem Wr.with {w0 w : World} {B : Nat} {v : Value} {bs : List Int} (h : Wr [] w0 w B v bs) (cs : Array Value) (T : TypeId) : Wr [(w.heap.size, cs, T)] w0 (w.alloc (.cells cs T)) B v bs := by
  have h1 := h.later (ext_alloc w (.cells cs T))
  refine ⟨h1.box, h1.own, h1.ext, h1.hB, h1.ne, fun s hs => ?_⟩
  obtain rfl := List.mem_singleton.1 hs
  refine ⟨Blk.new w cs T, fun e => ?_, fun e => ?_⟩
  · have := h.box.lt; simp only at e; omega
  · have := (h.ownGe e).2; omega
theorem Wr.put {S : Side} {w0 w w1 : World} {B : Nat} {v v1 lv : Value} {bs ys l : List Int} (h : Wr S w0 w B v bs) (ho : w1.ownsRow w0.heap.size 5 1 v1 ys.length (ys.map (.int .u8))) (hg : w.grownBy w1 v.ownBlock) (hn : Near w v v1)
    (hl : Ints .i64 w lv l) (hoff : Off l lv v B) : Wr S w0 (w1.setCell ⟨B, 0, none⟩ v1) B v1 ys ∧ Ints .i64 (w1.setCell ⟨B, 0, none⟩ v1) lv l ∧ Off l lv v1 B := by
  have hb1 : Blk w1 B #[v] 86 := h.box.grown hg (fun e => h.ne e.symm)
  have hne : v1.ownBlock ≠ some B := fun e => by
    rcases hn B e with h1 | h1
    · exact h.ne h1
    · have := h.box.lt; omega
  have hlt : l ≠ [] → ∀ k, lv.ownBlock = some k → k < w.heap.size := fun hl0 k hk => by
    obtain ⟨b, e, hb⟩ := Row.lt hl (by simpa using hl0)
    rw [hk] at e
    cases e
    exact hb
  refine ⟨⟨?_, ownsRow_setCell_other ho hne _, ?_, h.hB, hne, fun s hs => ?_⟩, ?_, ?_⟩
  · have := hb1.set 0 v1
    simpa using this
  · exact Below.setCell (Below.grown h.ext hg h.ext.size (fun k hk => (h.ownGe hk).1)) h.hB _
  · obtain ⟨k1, k2, k3⟩ := h.side s hs
    refine ⟨(k1.grown hg (fun e => k3 e.symm)).grown (setCell_grown _ _ _ _) (fun e => k2 (Option.some.inj e)), k2, fun e => ?_⟩
    rcases hn _ e with h1 | h1
    · exact k3 h1
    · have := k1.lt; omega
  · by_cases hl0 : l = []
    · subst hl0
      obtain ⟨A, c, e, h1, h2, h3, h4⟩ := hl
      exact ⟨A, c, e, h1, h2, h3, At.nil _ _⟩
    · have k1 : Ints .i64 w1 lv l := Row.grown hl hg (by
        cases hq : lv.ownBlock with
        | none => exact .inl rfl
        | some k => exact .inr (fun e => (hoff hl0 k hq).2 e.symm))
      exact Row.grown k1 (setCell_grown _ _ _ _) (by
        cases hq : lv.ownBlock with
        | none => exact .inl rfl
        | some k => exact .inr (fun e => (hoff hl0 k hq).1 (Option.some.inj e)))
  · intro hl0 k hk
    refine ⟨(hoff hl0 k hk).1, fun e => ?_⟩
    rcases hn k e with h1 | h1
    · exact (hoff hl0 k hk).2 h1
    · have := hlt hl0 k hk; omega

set_option maxHeartbeats 1600000 in
theorem put_calls {S : Side} (w0 w : World) (B : Nat) (v lv : Value) (bs l : List Int) (hw : Wr S w0 w B v bs) (hl : Ints .i64 w lv l) (hoff : Off l lv v B) (hlen : bs.length + l.length ≤ 100000000) :
    Calls Try.prog 42 #[.pointer (some ⟨B, 0, none⟩), lv] w fun e w' => e = .returned (.tuple #[]) ∧ ∃ v', Wr S w0 w' B v' (bs ++ l.map b8) := by
  obtain ⟨A, c, rfl, hlc, hcm, _⟩ := id hl.form
  unfold maxLen at hcm
  go_enter Try.func42, Try.ntmps42
  go_wp2_with fail
  go_loopw [8] (fun i wr => ∃ (k : Nat) (v : Value), k ≤ l.length ∧ i = .int .i64 k ∧ Wr S w0 wr B v (bs ++ (l.take k).map b8) ∧ Ints .i64 wr (.slice A l.length c) l ∧ Off l (.slice A l.length c) v B) (fun i _ => l.length - (intOf i).toNat)
  case atStart => exact ⟨0, v, by omega, rfl, by simpa using hw, hl, hoff⟩
  case round =>
    clear hw hl hoff v
    obtain ⟨k, v, hk, rfl, hw, hl, hoff⟩ := hrel
    by_cases hlt : k < l.length
    · obtain ⟨A', c', e', _, _, hcell⟩ := id hl.form
      cases e'
      obtain ⟨b, off, rfl, x0⟩ := hcell k hlt
      rw [show l[k]?.getD 0 = l[k] by simp [hlt]] at x0
      have HT : Hid (l.take (k + 1) = l.take k ++ [l[k]]) := List.take_succ_eq_append_getElem hlt
      clear hcell
      generalize l[k] = z at *
      have HL := Lib.hid hl
      have HW := Lib.hid hw
      have HO := Lib.hid hoff
      have c0 : World.cell? wr ⟨B, 0, none⟩ = some v := hw.box.cell 0
      clear hl hw hoff
      go_upto_region 3 with fail
      clear x0
      have hbl := HW.out.box.lt
      have hfr := HW.out.box.frozen 0
      have hE := ext_alloc wr (.cells #[.int .u8 (z % 256)] 5)
      have hnew := row_new wr #[.int .u8 (z % 256)] 5 1 1 rfl (by decide)
      have hW1 := HW.out.later hE
      have hl1 : Ints .i64 (wr.alloc (.cells #[.int .u8 (z % 256)] 5)) (.slice (some ⟨b, off, none⟩) l.length c) l := Ints.below HL.out hE
      have hown := hW1.own
      have hbase := hW1.ext.size
      have hlk : (bs ++ (l.take k).map b8).length ≤ bs.length + k := by simp; omega
      have hk1 : (bs ++ (l.take k).map b8).length + 1 ≤ 140737488355328 := by omega
      have hk2 : ((bs ++ (l.take k).map b8).length + 1) * 1 ≤ 140737488355328 := by omega
      have h1 : ∀ u ∈ #[Value.int .u8 (z % 256)].toList, u.oneCell' = true := by intro u hu; simp at hu; subst hu; rfl
      have HWX := Lib.hid hW1
      have HPUT : Hid (∀ (v' : Value) (w' : World), w'.ownsRow w0.heap.size 5 1 v' ((bs ++ (l.take k).map b8).length + 1) ((bs ++ (l.take k).map b8).map (.int .u8) ++ #[Value.int .u8 (z % 256)].toList) →
          (wr.alloc (.cells #[.int .u8 (z % 256)] 5)).grownBy w' v.ownBlock → Near (wr.alloc (.cells #[.int .u8 (z % 256)] 5)) v v' → ∃ A2 n2 c2, v' = .slice A2 n2 c2 ∧
          (Wr S w0 (w'.setCell ⟨B, 0, none⟩ v') B v' (bs ++ (l.take (k + 1)).map b8) ∧ Ints .i64 (w'.setCell ⟨B, 0, none⟩ v') (.slice (some ⟨b, off, none⟩) l.length c) l ∧ Off l (.slice (some ⟨b, off, none⟩) l.length c) v' B) ∧
          B < w'.heap.size ∧ w'.frozen? ⟨B, 0, none⟩ = false ∧ World.cell? w' ⟨B, 0, none⟩ = some v) := by
        intro v' w' ho hgr hnr
        have hb' : Blk w' B #[v] 86 := hW1.box.grown hgr (fun e => hW1.ne e.symm)
        obtain ⟨A2, c2, e2, _⟩ := row_of_own ho
        refine ⟨A2, _, c2, e2, hW1.put ?_ hgr hnr hl1 HO.out, hb'.lt, hb'.frozen 0, hb'.cell 0⟩
        rw [HT.out]
        have e1 : (bs ++ (l.take k ++ [z]).map b8).length = (bs ++ (l.take k).map b8).length + 1 := by simp; omega
        rw [e1]
        have e2 : (bs ++ (l.take k ++ [z]).map b8).map (Value.int .u8) = (bs ++ (l.take k).map b8).map (.int .u8) ++ #[Value.int .u8 (z % 256)].toList := by simp [b8]
        rw [e2]
        exact ho
      clear hl1 hW1 HL HW HO HWX
      go_wp2_with (at_builtin; refine wpList_append_row rfl rfl elem_u8 hown rfl hnew rfl h1 hk1 hk2 hbase ?_; intro v' w' ho hgr hnr; obtain ⟨A2, n2, c2, rfl, hpw, hb1, hb2, hb3⟩ := HPUT.out v' w' ho hgr hnr)
      obtain ⟨p1, p2, p3⟩ := hpw
      go_roundw
      case rel => exact ⟨k + 1, _, by omega, by go_num, p1, p2, p3⟩
      case measure => simp [intOf]; omega
    · have e : l.take k = l := List.take_of_length_le (by omega)
      rw [e] at hw
      go_wp2_with fail
      go_end0
      exact ⟨rfl, v, hw⟩

/-- The same of numbers that were just laid. -/
theorem putl_calls {S : Side} {w0 w : World} {B : Nat} {v : Value} {bs : List Int} (hw : Wr S w0 w B v bs) (l : List Int) {cs : Array Value} {n : Nat} (hc : cs.toList = l.map (.int .i64)) (hn : n = l.length) (hlen : bs.length + l.length ≤ 100000000) :
    Calls Try.prog 42 #[.pointer (some ⟨B, 0, none⟩), .slice (some ⟨w.heap.size, 0, none⟩) n n] (w.alloc (.cells cs 3)) fun e w' => e = .returned (.tuple #[]) ∧ ∃ v', Wr S w0 w' B v' (bs ++ l.map b8) := by
  subst hn
  have hs : cs.size = l.length := by rw [← Array.length_toList, hc, List.length_map]
  have hr := row_new w cs 3 l.length 1 (by omega) (by unfold maxLen; omega)
  rw [hc] at hr
  refine put_calls w0 _ B v _ bs l (hw.later (ext_alloc w _)) hr (fun _ k hk => ?_) hlen
  simp only [Value.ownBlock, Option.some.injEq] at hk
  subst hk
  refine ⟨fun e => ?_, fun e => ?_⟩
  · have := hw.box.lt; omega
  · have := (hw.ownGe e).2; omega

end Go.Proofs.Ytdhdbmfipkppiaa
