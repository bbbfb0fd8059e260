/- Regions that draw their order: walked in ONE order, in which whatever only reads comes as early as it may. -/
import Derived.Test.YtdhdbmfipkppiaaGreatTypes
import Derived.OrdersHeld
set_option linter.unusedSimpArgs false
set_option linter.unusedVariables false
set_option linter.unnecessarySimpa false
namespace Go.Proofs.YtdhdbmfipkppiaaGreat
open Go.RowKit

/-- Nothing that was there has turned. -/
def Ext (w W : World) : Prop := Below w.heap.size w W
theorem Ext.refl (w : World) : Ext w w := Below.refl _ _
theorem Ext.trans {a b c : World} (h : Ext a b) (k : Ext b c) : Ext a c := Below.trans h (Below.mono k h.size)
theorem Ext.drew (w : World) : Ext w w.drew := (Below.refl _ _).drew
theorem Ext.base {a b : World} (h : Ext a b) : Below a.heap.size a b := h
theorem Ext.below {w w' : World} {B : Nat} (h : Below B w w') (hB : w.heap.size ≤ B) : Ext w w' := h.mono hB

theorem grown_of_ext {w W : World} (h : Ext w W) : w.grownBy W none := ⟨h.os, h.tape, h.output, h.size, fun k hk _ => h.block k hk⟩

/-- The world is behind each of these. -/
def Exts : List World → World → Prop
  | [], _ => True
  | u :: us, W => Ext u W ∧ Exts us W
theorem Exts.later {us : List World} {w W : World} (h : Exts us w) (k : Ext w W) : Exts us W := by
  induction us with
  | nil => trivial
  | cons u us ih => exact ⟨h.1.trans k, ih h.2⟩

section
variable {P : Program} {ops : Array Oper} {Q : Exit → Act → World → Prop} {md : Region.Mode}

theorem wpAnyH_mono {S S' : World → Prop} (h : ∀ W, S' W → S W) : ∀ (fuel : Nat) (listed : Array Bool) (a : Act) (w : World), wpAnyH P md ops Q S' fuel listed a w → wpAnyH P md ops Q S fuel listed a w
  | 0, _, _, _, hh => hh
  | fuel + 1, _, _, _, hh => ⟨hh.1, fun i hi => wpOp_mono (fun a' w' h' => ⟨h w' h'.1, wpAnyH_mono h fuel _ a' w' h'.2⟩) (hh.2 i hi)⟩

/-- May the operations be walked in this order? 'true' beside a number: it only reads, and comes as early as it may. -/
def checkE (md : Region.Mode) (ops : Array Oper) : List (Nat × Bool) → Array Bool → Bool
  | [], listed => Region.ready md ops listed == []
  | (i, true) :: r, listed => (Region.ready md ops listed).contains i && Region.free md ops listed i && (ops[i]?).isSome && checkE md ops r (listed.setIfInBounds i true)
  | (i, false) :: r, listed => Region.ready md ops listed == [i] && (ops[i]?).isSome && checkE md ops r (listed.setIfInBounds i true)

/-- The walk in that order. -/
def wpE (P : Program) (ops : Array Oper) (Q : Exit → Act → World → Prop) (us : List World) : List (Nat × Bool) → Act → World → Prop
  | [], a, w => Q .normal a w
  | (i, true) :: r, a, w => ∃ o v, ops[i]? = some o ∧ YieldsIf P ops (Exts (w :: us)) o v a ∧ wpE P ops Q us r (a.put o.dst v) w
  | (i, false) :: r, a, w => ∃ o, ops[i]? = some o ∧ if Region.wanted o (yielded ops a.tmps) = true then o.wp P a w (fun a' w' => Ext w w' ∧ wpE P ops Q (w :: us) r a' w') Q else wpE P ops Q us r (a.put o.dst undef) w

theorem wpE_sound (hsel : Region.noSelect ops = true) (hQ : ∀ c a d v w, Q (.panic c) (Act.put a d v) w → Q (.panic c) a w) : ∀ (r : List (Nat × Bool)) (us : List World) (fuel : Nat) (listed : Array Bool) (a : Act) (w : World),
    checkE md ops r listed = true → r.length ≤ fuel → Exts us w → wpE P ops Q us r a w → wpAnyH P md ops Q (Exts (w :: us)) fuel listed a w
  | [], us, fuel, listed, a, w, hc, _, _, h => by
    simp only [checkE, beq_iff_eq] at hc
    exact wpAnyH_done hc h fuel
  | (i, true) :: r, us, 0, listed, a, w, _, hf, _, _ => by simp at hf
  | (i, false) :: r, us, 0, listed, a, w, _, hf, _, _ => by simp at hf
  | (i, true) :: r, us, fuel + 1, listed, a, w, hc, hf, hu, h => by
    simp only [checkE, Bool.and_eq_true] at hc
    obtain ⟨⟨⟨h1, h2⟩, _⟩, h3⟩ := hc
    obtain ⟨o, v, ho, hy, hr⟩ := h
    exact wpAnyH_take ho hsel h2 h1 (fun c a w => hQ c a _ v w) hy ⟨Ext.refl w, hu⟩ (wpE_sound hsel hQ r us fuel _ _ w h3 (by simpa using hf) hu hr)
  | (i, false) :: r, us, fuel + 1, listed, a, w, hc, hf, hu, h => by
    simp only [checkE, Bool.and_eq_true, beq_iff_eq] at hc
    obtain ⟨⟨h1, _⟩, h3⟩ := hc
    obtain ⟨o, ho, hr⟩ := h
    refine wpAnyH_all h1 (by simp) fun j hj => ?_
    obtain rfl : j = i := by simpa using hj
    unfold wpOp
    simp only [ho]
    split
    · rename_i hw
      rw [if_pos hw] at hr
      refine .inl (Oper.wp_mono (fun a' w' ⟨he, hk⟩ => ?_) hr)
      have hu' : Exts (w :: us) w' := Exts.later ⟨Ext.refl w, hu⟩ he
      exact ⟨hu', wpAnyH_mono (fun W hW => hW.2) fuel _ a' w' (wpE_sound hsel hQ r (w :: us) fuel _ a' w' h3 (by simpa using hf) hu' hk)⟩
    · rename_i hw
      rw [if_neg hw] at hr
      exact ⟨⟨Ext.refl w, hu⟩, wpE_sound hsel hQ r us fuel _ _ w h3 (by simpa using hf) hu hr⟩

/-- The same over the operations themselves, in that order. -/
def pickE (l : List Oper) : List (Nat × Bool) → List (Oper × Bool)
  | [] => []
  | (i, b) :: r => match l[i]? with
    | some o => (o, b) :: pickE l r
    | none => pickE l r

def wpD (P : Program) (ops : Array Oper) (Q : Exit → Act → World → Prop) (us : List World) : List (Oper × Bool) → Act → World → Prop
  | [], a, w => Q .normal a w
  | (o, true) :: r, a, w => ∃ v, YieldsIf P ops (Exts (w :: us)) o v a ∧ wpD P ops Q us r (a.put o.dst v) w
  | (o, false) :: r, a, w => if Region.wanted o (yielded ops a.tmps) = true then o.wp P a w (fun a' w' => Ext w w' ∧ wpD P ops Q (w :: us) r a' w') Q else wpD P ops Q us r (a.put o.dst undef) w

theorem wpE_of_wpD {l : List Oper} : ∀ (r : List (Nat × Bool)) (us : List World) (a : Act) (w : World), (r.all fun p => (l[p.1]?).isSome) = true → wpD P l.toArray Q us (pickE l r) a w → wpE P l.toArray Q us r a w
  | [], _, _, _, _, h => h
  | (i, b) :: r, us, a, w, hs, h => by
    simp only [List.all_cons, Bool.and_eq_true] at hs
    obtain ⟨o, ho⟩ := Option.isSome_iff_exists.1 hs.1
    have ho' : l.toArray[i]? = some o := by simpa using ho
    simp only [pickE, ho] at h
    cases b with
    | true =>
      obtain ⟨v, hy, hr⟩ := h
      exact ⟨o, v, ho', hy, wpE_of_wpD r us _ _ hs.2 hr⟩
    | false =>
      refine ⟨o, ho', ?_⟩
      simp only [wpD] at h
      split
      · rename_i hw
        rw [if_pos hw] at h
        exact Oper.wp_mono (fun a' w' ⟨he, hk⟩ => ⟨he, wpE_of_wpD r _ _ _ hs.2 hk⟩) h
      · rename_i hw
        rw [if_neg hw] at h
        exact wpE_of_wpD r us _ _ hs.2 h

/-- The beginning. -/
theorem wp_region_D {id : Nat} {a : Act} {w : World} {l : List Oper} (r : List (Nat × Bool)) (hm : P.follows .mixedOrders = true)
    (hc : (Region.noSelect l.toArray && decide (r.length ≤ l.toArray.size) && checkE .any l.toArray r (Array.replicate l.toArray.size false) && r.all fun p => (l[p.1]?).isSome) = true)
    (hQ : ∀ c a d v w, Q (.panic c) (Act.put a d v) w → Q (.panic c) a w)
    (h : ∀ w2, Ext w w2 → wpD P l.toArray Q [w] (pickE l r) a w2) : (Code.region id l.toArray true).wp P Q a w := by
  simp only [Bool.and_eq_true, decide_eq_true_eq] at hc
  exact wp_region_held hm (wpE_sound (md := .any) hc.1.1.1 hQ r [w] _ _ a w.drew hc.1.2 hc.1.1.2 ⟨Ext.drew w, trivial⟩ (wpE_of_wpD r _ _ _ hc.2 (h w.drew (Ext.drew w))))

theorem wpD_nil {us : List World} {a : Act} {w : World} (h : Q .normal a w) : wpD P ops Q us [] a w := h

theorem wpD_pure {us : List World} {r : List (Oper × Bool)} {a : Act} {w : World} {o : Oper} {v : Value} (hw : Region.wanted o (yielded ops a.tmps) = true)
    (hy : ∀ W, Exts (w :: us) W → (execOp a.eval o).run P W = .ok (.value v) W) (h : wpD P ops Q us r (a.put o.dst v) w) : wpD P ops Q us ((o, true) :: r) a w :=
  ⟨v, .inl ⟨hw, hy⟩, h⟩

theorem wpD_skip {us : List World} {r : List (Oper × Bool)} {a : Act} {w : World} {o : Oper} (hw : Region.wanted o (yielded ops a.tmps) = false)
    (h : wpD P ops Q us r (a.put o.dst undef) w) : wpD P ops Q us ((o, true) :: r) a w :=
  ⟨undef, .inr ⟨hw, rfl⟩, h⟩

theorem wpD_step {us : List World} {r : List (Oper × Bool)} {a : Act} {w : World} {o : Oper} (hw : Region.wanted o (yielded ops a.tmps) = true)
    (h : ∀ K : Act → World → Prop, (∀ a' w', Ext w w' → wpD P ops Q (w :: us) r a' w' → K a' w') → o.wp P a w K Q) : wpD P ops Q us ((o, false) :: r) a w := by
  simp only [wpD]
  rw [if_pos hw]
  exact h _ fun a' w' he hk => ⟨he, hk⟩
end

/-- 'string(b)' in every later world. -/
theorem conv_ext {P : Program} {w : World} {v : Value} {zs : List Int} (hv : Ints .u8 w v zs) {src e dst : TypeId} (hs : P.underlying src = some (.slice e)) (he : P.underlying e = some (.int .u8)) (hd : P.underlying dst = some .string) :
    ∀ W, Ext w W → (convert src dst v).run P W = .ok (.string (strOfNums zs)) W := fun _ h => conv_bytes (hv.below h) hs he hd

theorem Ints.ext {k : IntKind} {w w' : World} {v : Value} {zs : List Int} (h : Ints k w v zs) (e : Ext w w') : Ints k w' v zs := h.below e
theorem Row.ext {w w' : World} {v : Value} {n sz : Nat} {xs : List Value} (h : Row w v n sz xs) (e : Ext w w') : Row w' v n sz xs := h.below e

/-- A cell in every later world. -/
theorem cell_ext {w : World} {a : Addr} {v : Value} (h : w.cell? a = some v) : ∀ W, Ext w W → W.cell? a = some v := fun _ k => (k.cell (World.block_lt_of_cell? w _ h)).trans h

end Go.Proofs.YtdhdbmfipkppiaaGreat
