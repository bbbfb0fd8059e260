/- Regions that draw their order: walked in ONE order, in which whatever only reads comes as early as it may. -/
/- The walks of region.May, of the reference's May and Clash, of few and the example. -/
import Derived.Test.YtmddlhfahfelpaaRegW
import Derived.OrdersHeld
import Derived.BigRegion
set_option linter.unusedSimpArgs false
set_option linter.unusedVariables false
set_option linter.unnecessarySimpa false
namespace Go.Proofs.Ytmddlhfahfelpaa
open Go.RowKit

/-- Nothing that was there has turned. -/
def Ext (w W : World) : Prop := Below w.heap.size w W
theorem Ext.refl (w : World) : Ext w w := Below.refl _ _
theorem Ext.trans {a b c : World} (h : Ext a b) (k : Ext b c) : Ext a c := Below.trans h (Below.mono k h.size)
theorem Ext.drew (w : World) : Ext w w.drew := (Below.refl _ _).drew
theorem Ext.base {a b : World} (h : Ext a b) : Below a.heap.size a b := h
theorem Ext.below {w w' : World} {B : Nat} (h : Below B w w') (hB : w.heap.size ≤ B) : Ext w w' := h.mono hB

theorem grown_of_ext {w W : World} (h : Ext w W) : w.grownBy W none := ⟨h.os, h.tape, h.output, h.size, fun k hk _ => h.block k hk⟩

/-- The world is behind each of these. -/
def Exts : List World → World → Prop
  | [], _ => True
  | u :: us, W => Ext u W ∧ Exts us W
theorem Exts.later {us : List World} {w W : World} (h : Exts us w) (k : Ext w W) : Exts us W := by
  induction us with
  | nil => trivial
  | cons u us ih => exact ⟨h.1.trans k, ih h.2⟩

section
variable {P : Program} {ops : Array Oper} {Q : Exit → Act → World → Prop} {md : Region.Mode}

theorem wpAnyH_mono {S S' : World → Prop} (h : ∀ W, S' W → S W) : ∀ (fuel : Nat) (listed : Array Bool) (a : Act) (w : World), wpAnyH P md ops Q S' fuel listed a w → wpAnyH P md ops Q S fuel listed a w
  | 0, _, _, _, hh => hh
  | fuel + 1, _, _, _, hh => ⟨hh.1, fun i hi => wpOp_mono (fun a' w' h' => ⟨h w' h'.1, wpAnyH_mono h fuel _ a' w' h'.2⟩) (hh.2 i hi)⟩

/-- May the operations be walked in this order? 'true' beside a number: it only reads, and comes as early as it may. -/
def checkE (md : Region.Mode) (ops : Array Oper) : List (Nat × Bool) → Array Bool → Bool
  | [], listed => Region.ready md ops listed == []
  | (i, true) :: r, listed => (Region.ready md ops listed).contains i && Region.free md ops listed i && (ops[i]?).isSome && checkE md ops r (listed.setIfInBounds i true)
  | (i, false) :: r, listed => Region.ready md ops listed == [i] && (ops[i]?).isSome && checkE md ops r (listed.setIfInBounds i true)

/-- The walk in that order. -/
def wpE (P : Program) (ops : Array Oper) (Q : Exit → Act → World → Prop) (us : List World) : List (Nat × Bool) → Act → World → Prop
  | [], a, w => Q .normal a w
  | (i, true) :: r, a, w => ∃ o v, ops[i]? = some o ∧ YieldsIf P ops (Exts (w :: us)) o v a ∧ wpE P ops Q us r (a.put o.dst v) w
  | (i, false) :: r, a, w => ∃ o, ops[i]? = some o ∧ if Region.wanted o (yielded ops a.tmps) = true then o.wp P a w (fun a' w' => Ext w w' ∧ wpE P ops Q (w :: us) r a' w') Q else wpE P ops Q us r (a.put o.dst undef) w

theorem wpE_sound (hsel : Region.noSelect ops = true) (hQ : ∀ c a d v w, Q (.panic c) (Act.put a d v) w → Q (.panic c) a w) : ∀ (r : List (Nat × Bool)) (us : List World) (fuel : Nat) (listed : Array Bool) (a : Act) (w : World),
    checkE md ops r listed = true → r.length ≤ fuel → Exts us w → wpE P ops Q us r a w → wpAnyH P md ops Q (Exts (w :: us)) fuel listed a w
  | [], us, fuel, listed, a, w, hc, _, _, h => by
    simp only [checkE, beq_iff_eq] at hc
    exact wpAnyH_done hc h fuel
  | (i, true) :: r, us, 0, listed, a, w, _, hf, _, _ => by simp at hf
  | (i, false) :: r, us, 0, listed, a, w, _, hf, _, _ => by simp at hf
  | (i, true) :: r, us, fuel + 1, listed, a, w, hc, hf, hu, h => by
    simp only [checkE, Bool.and_eq_true] at hc
    obtain ⟨⟨⟨h1, h2⟩, _⟩, h3⟩ := hc
    obtain ⟨o, v, ho, hy, hr⟩ := h
    exact wpAnyH_take ho hsel h2 h1 (fun c a w => hQ c a _ v w) hy ⟨Ext.refl w, hu⟩ (wpE_sound hsel hQ r us fuel _ _ w h3 (by simpa using hf) hu hr)
  | (i, false) :: r, us, fuel + 1, listed, a, w, hc, hf, hu, h => by
    simp only [checkE, Bool.and_eq_true, beq_iff_eq] at hc
    obtain ⟨⟨h1, _⟩, h3⟩ := hc
    obtain ⟨o, ho, hr⟩ := h
    refine wpAnyH_all h1 (by simp) fun j hj => ?_
    obtain rfl : j = i := by simpa using hj
    unfold wpOp
    simp only [ho]
    split
    · rename_i hw
      rw [if_pos hw] at hr
      refine .inl (Oper.wp_mono (fun a' w' ⟨he, hk⟩ => ?_) hr)
      have hu' : Exts (w :: us) w' := Exts.later ⟨Ext.refl w, hu⟩ he
      exact ⟨hu', wpAnyH_mono (fun W hW => hW.2) fuel _ a' w' (wpE_sound hsel hQ r (w :: us) fuel _ a' w' h3 (by simpa using hf) hu' hk)⟩
    · rename_i hw
      rw [if_neg hw] at hr
      exact ⟨⟨Ext.refl w, hu⟩, wpE_sound hsel hQ r us fuel _ _ w h3 (by simpa using hf) hu hr⟩

/-- The same over the operations themselves, in that order. -/
def pickE (l : List Oper) : List (Nat × Bool) → List (Oper × Bool)
  | [] => []
  | (i, b) :: r => match l[i]? with
    | some o => (o, b) :: pickE l r
    | none => pickE l r

def wpD (P : Program) (ops : Array Oper) (Q : Exit → Act → World → Prop) (us : List World) : List (Oper × Bool) → Act → World → Prop
  | [], a, w => Q .normal a w
  | (o, true) :: r, a, w => ∃ v, YieldsIf P ops (Exts (w :: us)) o v a ∧ wpD P ops Q us r (a.put o.dst v) w
  | (o, false) :: r, a, w => if Region.wanted o (yielded ops a.tmps) = true then o.wp P a w (fun a' w' => Ext w w' ∧ wpD P ops Q (w :: us) r a' w') Q else wpD P ops Q us r (a.put o.dst undef) w

theorem wpE_of_wpD {l : List Oper} : ∀ (r : List (Nat × Bool)) (us : List World) (a : Act) (w : World), (r.all fun p => (l[p.1]?).isSome) = true → wpD P l.toArray Q us (pickE l r) a w → wpE P l.toArray Q us r a w
  | [], _, _, _, _, h => h
  | (i, b) :: r, us, a, w, hs, h => by
    simp only [List.all_cons, Bool.and_eq_true] at hs
    obtain ⟨o, ho⟩ := Option.isSome_iff_exists.1 hs.1
    have ho' : l.toArray[i]? = some o := by simpa using ho
    simp only [pickE, ho] at h
    cases b with
    | true =>
      obtain ⟨v, hy, hr⟩ := h
      exact ⟨o, v, ho', hy, wpE_of_wpD r us _ _ hs.2 hr⟩
    | false =>
      refine ⟨o, ho', ?_⟩
      simp only [wpD] at h
      split
      · rename_i hw
        rw [if_pos hw] at h
        exact Oper.wp_mono (fun a' w' ⟨he, hk⟩ => ⟨he, wpE_of_wpD r _ _ _ hs.2 hk⟩) h
      · rename_i hw
        rw [if_neg hw] at h
        exact wpE_of_wpD r us _ _ hs.2 h

/-- The beginning. -/
theorem wp_region_D {id : Nat} {a : Act} {w : World} {l : List Oper} (r : List (Nat × Bool)) (hm : P.follows .mixedOrders = true)
    (hc : (Region.noSelect l.toArray && decide (r.length ≤ l.toArray.size) && checkE .any l.toArray r (Array.replicate l.toArray.size false) && r.all fun p => (l[p.1]?).isSome) = true)
    (hQ : ∀ c a d v w, Q (.panic c) (Act.put a d v) w → Q (.panic c) a w)
    (h : ∀ w2, Ext w w2 → wpD P l.toArray Q [w] (pickE l r) a w2) : (Code.region id l.toArray true).wp P Q a w := by
  simp only [Bool.and_eq_true, decide_eq_true_eq] at hc
  exact wp_region_held hm (wpE_sound (md := .any) hc.1.1.1 hQ r [w] _ _ a w.drew hc.1.2 hc.1.1.2 ⟨Ext.drew w, trivial⟩ (wpE_of_wpD r _ _ _ hc.2 (h w.drew (Ext.drew w))))

theorem wpD_nil {us : List World} {a : Act} {w : World} (h : Q .normal a w) : wpD P ops Q us [] a w := h

theorem wpD_pure {us : List World} {r : List (Oper × Bool)} {a : Act} {w : World} {o : Oper} {v : Value} (hw : Region.wanted o (yielded ops a.tmps) = true)
    (hy : ∀ W, Exts (w :: us) W → (execOp a.eval o).run P W = .ok (.value v) W) (h : wpD P ops Q us r (a.put o.dst v) w) : wpD P ops Q us ((o, true) :: r) a w :=
  ⟨v, .inl ⟨hw, hy⟩, h⟩

theorem wpD_skip {us : List World} {r : List (Oper × Bool)} {a : Act} {w : World} {o : Oper} (hw : Region.wanted o (yielded ops a.tmps) = false)
    (h : wpD P ops Q us r (a.put o.dst undef) w) : wpD P ops Q us ((o, true) :: r) a w :=
  ⟨undef, .inr ⟨hw, rfl⟩, h⟩

end

theorem Ints.ext {k : IntKind} {w w' : World} {v : Value} {zs : List Int} (h : Ints k w v zs) (e : Ext w w') : Ints k w' v zs := h.below e
theorem Row.ext {w w' : World} {v : Value} {n sz : Nat} {xs : List Value} (h : Row w v n sz xs) (e : Ext w w') : Row w' v n sz xs := h.below e

/-- A cell in every later world. -/
theorem cell_ext {w : World} {a : Addr} {v : Value} (h : w.cell? a = some v) : ∀ W, Ext w W → W.cell? a = some v := fun _ k => (k.cell (World.block_lt_of_cell? w _ h)).trans h

end Go.Proofs.Ytmddlhfahfelpaa

namespace Go.Proofs.Ytmddlhfahfelpaa
open Go.RowKit

def memTop (m : Int) : Int := if m = 0 then 65536 else 1024
def mayE (s : Sp) : Int := if s.mem < 0 ∨ 2 ≤ s.mem then 1 else if s.frm < 0 ∨ s.to < s.frm ∨ memTop s.mem < s.to then 23 else 0

set_option maxHeartbeats 800000 in
theorem may_calls (s : Sp) (w : World) : Calls Try.prog 41 #[s.v] w fun e w' => e = .returned (.int .i64 (mayE s)) ∧ Below w.heap.size w w' := by
  have HM : Hid (mayE s = if s.mem < 0 ∨ 2 ≤ s.mem then 1 else if s.frm < 0 ∨ s.to < s.frm ∨ memTop s.mem < s.to then 23 else 0) := rfl
  have hb1 : ∀ o, Below w.heap.size w (w.alloc o) := fun o => below_alloc (Below.refl _ _) (Nat.le_refl _) _
  have hb2 : ∀ o o', Below w.heap.size w ((w.alloc o).alloc o') := fun o o' => below_alloc (hb1 o) (by simp) _
  obtain ⟨m, f, t, p⟩ := s
  simp only at HM
  generalize mayE ⟨m, f, t, p⟩ = r at *
  unfold Sp.v
  go_enter Try.func41, Try.ntmps41
  by_cases h1 : m < 0 ∨ 2 ≤ m
  · have HR : Hid (r = 1) := by show _ = _; rw [HM.out, if_pos h1]
    go_wp2
    all_goals
      go_ret
      exact ⟨ret_int HR.out.symm, hb2 _ _⟩
  · have hm : m = 0 ∨ m = 1 := by omega
    rcases hm with rfl | rfl
    · have HM := HM.out
      rw [if_neg h1] at HM
      clear h1
      have j0 := cell_ext (w := ((w.alloc (.cells #[.int .i64 0, .int .i64 f, .int .i64 t, .bool p] 85)).alloc (.cells #[.int .i64 65536, .int .i64 1024] 45))) (a := ⟨w.heap.size, 0, none⟩) (v := .int .i64 0) (by simp)
      have j1 := cell_ext (w := ((w.alloc (.cells #[.int .i64 0, .int .i64 f, .int .i64 t, .bool p] 85)).alloc (.cells #[.int .i64 65536, .int .i64 1024] 45))) (a := ⟨w.heap.size, 1, none⟩) (v := .int .i64 f) (by simp)
      have j2 := cell_ext (w := ((w.alloc (.cells #[.int .i64 0, .int .i64 f, .int .i64 t, .bool p] 85)).alloc (.cells #[.int .i64 65536, .int .i64 1024] 45))) (a := ⟨w.heap.size, 2, none⟩) (v := .int .i64 t) (by simp)
      have j3 := cell_ext (w := ((w.alloc (.cells #[.int .i64 0, .int .i64 f, .int .i64 t, .bool p] 85)).alloc (.cells #[.int .i64 65536, .int .i64 1024] 45))) (a := ⟨w.heap.size + 1, 0, none⟩) (v := .int .i64 65536) (by simp)
      have j4 := cell_ext (w := ((w.alloc (.cells #[.int .i64 0, .int .i64 f, .int .i64 t, .bool p] 85)).alloc (.cells #[.int .i64 65536, .int .i64 1024] 45))) (a := ⟨w.heap.size + 1, 1, none⟩) (v := .int .i64 1024) (by simp)
      have h2 : f < 0 ∨ (0 ≤ f ∧ t < f) ∨ (0 ≤ f ∧ f ≤ t ∧ 65536 < t) ∨ (0 ≤ f ∧ f ≤ t ∧ t ≤ 65536) := by omega
      rcases h2 with h2 | ⟨h2, h3⟩ | ⟨h2, h3, h4⟩ | ⟨h2, h3, h4⟩
      · have HR : Hid (r = 23) := by
          show _ = _
          rw [HM]
          exact if_pos (Or.inl h2)
        have d1 : decide (f < 0) = true := decide_eq_true (by omega)
        clear HM
        go_wp2_with fail
        refine wp_region_D [(0, true), (1, true), (2, true), (3, true), (4, true), (5, true), (6, true), (7, true), (8, true), (9, true), (10, true), (11, true), (12, true), (13, true), (14, true), (15, true), (16, true), (17, true), (18, true), (19, true)] (by kernel_rfl) (by kernel_rfl) (fun _ _ d _ _ h => by cases d <;> exact h) (fun w2 hE => ?_)
        simp only [pickE, List.getElem?_cons_zero, List.getElem?_cons_succ]
        repeat (first
          | (refine wpD_skip (by rfl) ?_; simp only [Act.put, List.setIfInBounds_toArray, List.set_cons_zero, List.set_cons_succ])
          | (refine wpD_pure (by rfl) (fun W hW => by (dsimp only [Exts] at hW; go_simp; with_reducible rfl)) ?_; simp only [Act.put, List.setIfInBounds_toArray, List.set_cons_zero, List.set_cons_succ]))
        refine wpD_nil ?_
        go_wp2
        go_ret
        exact ⟨ret_int HR.out.symm, (hb2 _ _).trans (hE.mono (hb2 _ _).size)⟩
      · have HR : Hid (r = 23) := by
          show _ = _
          rw [HM]
          exact if_pos (Or.inr (Or.inl h3))
        have d1 : decide (f < 0) = false := decide_eq_false (by omega)
        have d2 : decide (t < f) = true := decide_eq_true (by omega)
        clear HM
        go_wp2_with fail
        refine wp_region_D [(0, true), (1, true), (2, true), (3, true), (4, true), (5, true), (6, true), (7, true), (8, true), (9, true), (10, true), (11, true), (12, true), (13, true), (14, true), (15, true), (16, true), (17, true), (18, true), (19, true)] (by kernel_rfl) (by kernel_rfl) (fun _ _ d _ _ h => by cases d <;> exact h) (fun w2 hE => ?_)
        simp only [pickE, List.getElem?_cons_zero, List.getElem?_cons_succ]
        repeat (first
          | (refine wpD_skip (by rfl) ?_; simp only [Act.put, List.setIfInBounds_toArray, List.set_cons_zero, List.set_cons_succ])
          | (refine wpD_pure (by rfl) (fun W hW => by (dsimp only [Exts] at hW; go_simp; with_reducible rfl)) ?_; simp only [Act.put, List.setIfInBounds_toArray, List.set_cons_zero, List.set_cons_succ]))
        refine wpD_nil ?_
        go_wp2
        go_ret
        exact ⟨ret_int HR.out.symm, (hb2 _ _).trans (hE.mono (hb2 _ _).size)⟩
      · have HR : Hid (r = 23) := by
          show _ = _
          rw [HM]
          exact if_pos (Or.inr (Or.inr (by simpa [memTop] using h4)))
        have d1 : decide (f < 0) = false := decide_eq_false (by omega)
        have d2 : decide (t < f) = false := decide_eq_false (by omega)
        have d3 : decide (65536 < t) = true := decide_eq_true (by omega)
        clear HM
        go_wp2_with fail
        refine wp_region_D [(0, true), (1, true), (2, true), (3, true), (4, true), (5, true), (6, true), (7, true), (8, true), (9, true), (10, true), (11, true), (12, true), (13, true), (14, true), (15, true), (16, true), (17, true), (18, true), (19, true)] (by kernel_rfl) (by kernel_rfl) (fun _ _ d _ _ h => by cases d <;> exact h) (fun w2 hE => ?_)
        simp only [pickE, List.getElem?_cons_zero, List.getElem?_cons_succ]
        repeat (first
          | (refine wpD_skip (by rfl) ?_; simp only [Act.put, List.setIfInBounds_toArray, List.set_cons_zero, List.set_cons_succ])
          | (refine wpD_pure (by rfl) (fun W hW => by (dsimp only [Exts] at hW; go_simp; with_reducible rfl)) ?_; simp only [Act.put, List.setIfInBounds_toArray, List.set_cons_zero, List.set_cons_succ]))
        refine wpD_nil ?_
        go_wp2
        go_ret
        exact ⟨ret_int HR.out.symm, (hb2 _ _).trans (hE.mono (hb2 _ _).size)⟩
      · have HR : Hid (r = 0) := by
          show _ = _
          rw [HM]
          exact if_neg (by simp [memTop]; omega)
        have d1 : decide (f < 0) = false := decide_eq_false (by omega)
        have d2 : decide (t < f) = false := decide_eq_false (by omega)
        have d3 : decide (65536 < t) = false := decide_eq_false (by omega)
        clear HM
        go_wp2_with fail
        refine wp_region_D [(0, true), (1, true), (2, true), (3, true), (4, true), (5, true), (6, true), (7, true), (8, true), (9, true), (10, true), (11, true), (12, true), (13, true), (14, true), (15, true), (16, true), (17, true), (18, true), (19, true)] (by kernel_rfl) (by kernel_rfl) (fun _ _ d _ _ h => by cases d <;> exact h) (fun w2 hE => ?_)
        simp only [pickE, List.getElem?_cons_zero, List.getElem?_cons_succ]
        repeat (first
          | (refine wpD_skip (by rfl) ?_; simp only [Act.put, List.setIfInBounds_toArray, List.set_cons_zero, List.set_cons_succ])
          | (refine wpD_pure (by rfl) (fun W hW => by (dsimp only [Exts] at hW; go_simp; with_reducible rfl)) ?_; simp only [Act.put, List.setIfInBounds_toArray, List.set_cons_zero, List.set_cons_succ]))
        refine wpD_nil ?_
        go_wp2
        go_ret
        exact ⟨ret_int HR.out.symm, (hb2 _ _).trans (hE.mono (hb2 _ _).size)⟩
    · have HM := HM.out
      rw [if_neg h1] at HM
      clear h1
      have j0 := cell_ext (w := ((w.alloc (.cells #[.int .i64 1, .int .i64 f, .int .i64 t, .bool p] 85)).alloc (.cells #[.int .i64 65536, .int .i64 1024] 45))) (a := ⟨w.heap.size, 0, none⟩) (v := .int .i64 1) (by simp)
      have j1 := cell_ext (w := ((w.alloc (.cells #[.int .i64 1, .int .i64 f, .int .i64 t, .bool p] 85)).alloc (.cells #[.int .i64 65536, .int .i64 1024] 45))) (a := ⟨w.heap.size, 1, none⟩) (v := .int .i64 f) (by simp)
      have j2 := cell_ext (w := ((w.alloc (.cells #[.int .i64 1, .int .i64 f, .int .i64 t, .bool p] 85)).alloc (.cells #[.int .i64 65536, .int .i64 1024] 45))) (a := ⟨w.heap.size, 2, none⟩) (v := .int .i64 t) (by simp)
      have j3 := cell_ext (w := ((w.alloc (.cells #[.int .i64 1, .int .i64 f, .int .i64 t, .bool p] 85)).alloc (.cells #[.int .i64 65536, .int .i64 1024] 45))) (a := ⟨w.heap.size + 1, 0, none⟩) (v := .int .i64 65536) (by simp)
      have j4 := cell_ext (w := ((w.alloc (.cells #[.int .i64 1, .int .i64 f, .int .i64 t, .bool p] 85)).alloc (.cells #[.int .i64 65536, .int .i64 1024] 45))) (a := ⟨w.heap.size + 1, 1, none⟩) (v := .int .i64 1024) (by simp)
      have h2 : f < 0 ∨ (0 ≤ f ∧ t < f) ∨ (0 ≤ f ∧ f ≤ t ∧ 1024 < t) ∨ (0 ≤ f ∧ f ≤ t ∧ t ≤ 1024) := by omega
      rcases h2 with h2 | ⟨h2, h3⟩ | ⟨h2, h3, h4⟩ | ⟨h2, h3, h4⟩
      · have HR : Hid (r = 23) := by
          show _ = _
          rw [HM]
          exact if_pos (Or.inl h2)
        have d1 : decide (f < 0) = true := decide_eq_true (by omega)
        clear HM
        go_wp2_with fail
        refine wp_region_D [(0, true), (1, true), (2, true), (3, true), (4, true), (5, true), (6, true), (7, true), (8, true), (9, true), (10, true), (11, true), (12, true), (13, true), (14, true), (15, true), (16, true), (17, true), (18, true), (19, true)] (by kernel_rfl) (by kernel_rfl) (fun _ _ d _ _ h => by cases d <;> exact h) (fun w2 hE => ?_)
        simp only [pickE, List.getElem?_cons_zero, List.getElem?_cons_succ]
        repeat (first
          | (refine wpD_skip (by rfl) ?_; simp only [Act.put, List.setIfInBounds_toArray, List.set_cons_zero, List.set_cons_succ])
          | (refine wpD_pure (by rfl) (fun W hW => by (dsimp only [Exts] at hW; go_simp; with_reducible rfl)) ?_; simp only [Act.put, List.setIfInBounds_toArray, List.set_cons_zero, List.set_cons_succ]))
        refine wpD_nil ?_
        go_wp2
        go_ret
        exact ⟨ret_int HR.out.symm, (hb2 _ _).trans (hE.mono (hb2 _ _).size)⟩
      · have HR : Hid (r = 23) := by
          show _ = _
          rw [HM]
          exact if_pos (Or.inr (Or.inl h3))
        have d1 : decide (f < 0) = false := decide_eq_false (by omega)
        have d2 : decide (t < f) = true := decide_eq_true (by omega)
        clear HM
        go_wp2_with fail
        refine wp_region_D [(0, true), (1, true), (2, true), (3, true), (4, true), (5, true), (6, true), (7, true), (8, true), (9, true), (10, true), (11, true), (12, true), (13, true), (14, true), (15, true), (16, true), (17, true), (18, true), (19, true)] (by kernel_rfl) (by kernel_rfl) (fun _ _ d _ _ h => by cases d <;> exact h) (fun w2 hE => ?_)
        simp only [pickE, List.getElem?_cons_zero, List.getElem?_cons_succ]
        repeat (first
          | (refine wpD_skip (by rfl) ?_; simp only [Act.put, List.setIfInBounds_toArray, List.set_cons_zero, List.set_cons_succ])
          | (refine wpD_pure (by rfl) (fun W hW => by (dsimp only [Exts] at hW; go_simp; with_reducible rfl)) ?_; simp only [Act.put, List.setIfInBounds_toArray, List.set_cons_zero, List.set_cons_succ]))
        refine wpD_nil ?_
        go_wp2
        go_ret
        exact ⟨ret_int HR.out.symm, (hb2 _ _).trans (hE.mono (hb2 _ _).size)⟩
      · have HR : Hid (r = 23) := by
          show _ = _
          rw [HM]
          exact if_pos (Or.inr (Or.inr (by simpa [memTop] using h4)))
        have d1 : decide (f < 0) = false := decide_eq_false (by omega)
        have d2 : decide (t < f) = false := decide_eq_false (by omega)
        have d3 : decide (1024 < t) = true := decide_eq_true (by omega)
        clear HM
        go_wp2_with fail
        refine wp_region_D [(0, true), (1, true), (2, true), (3, true), (4, true), (5, true), (6, true), (7, true), (8, true), (9, true), (10, true), (11, true), (12, true), (13, true), (14, true), (15, true), (16, true), (17, true), (18, true), (19, true)] (by kernel_rfl) (by kernel_rfl) (fun _ _ d _ _ h => by cases d <;> exact h) (fun w2 hE => ?_)
        simp only [pickE, List.getElem?_cons_zero, List.getElem?_cons_succ]
        repeat (first
          | (refine wpD_skip (by rfl) ?_; simp only [Act.put, List.setIfInBounds_toArray, List.set_cons_zero, List.set_cons_succ])
          | (refine wpD_pure (by rfl) (fun W hW => by (dsimp only [Exts] at hW; go_simp; with_reducible rfl)) ?_; simp only [Act.put, List.setIfInBounds_toArray, List.set_cons_zero, List.set_cons_succ]))
        refine wpD_nil ?_
        go_wp2
        go_ret
        exact ⟨ret_int HR.out.symm, (hb2 _ _).trans (hE.mono (hb2 _ _).size)⟩
      · have HR : Hid (r = 0) := by
          show _ = _
          rw [HM]
          exact if_neg (by simp [memTop]; omega)
        have d1 : decide (f < 0) = false := decide_eq_false (by omega)
        have d2 : decide (t < f) = false := decide_eq_false (by omega)
        have d3 : decide (1024 < t) = false := decide_eq_false (by omega)
        clear HM
        go_wp2_with fail
        refine wp_region_D [(0, true), (1, true), (2, true), (3, true), (4, true), (5, true), (6, true), (7, true), (8, true), (9, true), (10, true), (11, true), (12, true), (13, true), (14, true), (15, true), (16, true), (17, true), (18, true), (19, true)] (by kernel_rfl) (by kernel_rfl) (fun _ _ d _ _ h => by cases d <;> exact h) (fun w2 hE => ?_)
        simp only [pickE, List.getElem?_cons_zero, List.getElem?_cons_succ]
        repeat (first
          | (refine wpD_skip (by rfl) ?_; simp only [Act.put, List.setIfInBounds_toArray, List.set_cons_zero, List.set_cons_succ])
          | (refine wpD_pure (by rfl) (fun W hW => by (dsimp only [Exts] at hW; go_simp; with_reducible rfl)) ?_; simp only [Act.put, List.setIfInBounds_toArray, List.set_cons_zero, List.set_cons_succ]))
        refine wpD_nil ?_
        go_wp2
        go_ret
        exact ⟨ret_int HR.out.symm, (hb2 _ _).trans (hE.mono (hb2 _ _).size)⟩

end Go.Proofs.Ytmddlhfahfelpaa
