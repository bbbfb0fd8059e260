/- Package graph: what is known of the function values of a kind; what a node makes. -/
import Derived.Test.YtdhdbmfipkppiaaGrf
namespace Go.Proofs.Ytdhdbmfipkppiaa
set_option linter.unusedSimpArgs false
set_option linter.unusedVariables false
set_option linter.unnecessarySimpa false
open Go.RowKit

/-- The shape that a node makes of a first and a last one. -/
def madeZ (n : Nd) (a b : Sz) : Sz :=
  if n.op = 1 then ⟨outZ a.h n.k n.st n.pad, outZ a.w n.k n.st n.pad, n.out⟩ else
  if n.op = 2 then ⟨outZ a.h n.k n.st n.pad, outZ a.w n.k n.st n.pad, a.c⟩ else
  if n.op = 3 then ⟨1, 1, n.out⟩ else
  if n.op = 4 then ⟨outZ a.h n.k n.st n.pad, outZ a.w n.k n.st n.pad, a.c⟩ else
  if n.op = 5 then ⟨outZ a.h n.k n.st n.pad, outZ a.w n.k n.st n.pad, a.c⟩ else
  if n.op = 6 then sameZ a b else
  if n.op = 7 then sameZ a b else
  if n.op = 8 then a else
  if n.op = 9 then ⟨a.h + 2, a.w + 2, a.c⟩ else
  if n.op = 10 then besideZ a b else
  if n.op = 11 then anewZ n a else
  a

/-- How many weights and biases. -/
def wbZ (n : Nd) (a : Sz) : Int × Int :=
  if n.op = 1 then (n.k * n.k * a.c * n.out, n.out) else
  if n.op = 2 then (n.k * n.k * a.c, a.c) else
  if n.op = 3 then (sizeZ a * n.out, n.out) else
  if n.op = 12 then (256, 0) else
  (0, 0)

structure KindFacts (n : Nd) (k : Kn) : Prop where
  pads : k.pads = true → k.window = true
  many : k.many = 1 ∨ k.many = 2
  em : Enters Try.prog k.mf
  ew : Enters Try.prog k.wf
  made : ∀ (a b : Sz) (W : World), a.ok = true → b.ok = true → Calls Try.prog k.mf #[.agg #[.int .i64 n.op, n.inV, .int .i64 n.k, .int .i64 n.st, .int .i64 n.pad, .int .i64 n.out, .int .i64 n.mul, .int .i64 n.sh, .int .i64 n.zero, .int .i64 n.th, .int .i64 n.tw, .int .i64 n.tc, n.wV, n.bV], .agg #[.int .i64 a.h, .int .i64 a.w, .int .i64 a.c], .agg #[.int .i64 b.h, .int .i64 b.w, .int .i64 b.c]] W fun e w' => e = .returned (.agg #[.int .i64 (madeZ n a b).h, .int .i64 (madeZ n a b).w, .int .i64 (madeZ n a b).c]) ∧ Ext W w'
  wb : ∀ (a : Sz) (W : World), a.ok = true → (k.window = true → 1 ≤ n.k ∧ n.k ≤ 3) → (k.out = true → 1 ≤ n.out ∧ n.out ≤ 8) → Calls Try.prog k.wf #[.agg #[.int .i64 n.op, n.inV, .int .i64 n.k, .int .i64 n.st, .int .i64 n.pad, .int .i64 n.out, .int .i64 n.mul, .int .i64 n.sh, .int .i64 n.zero, .int .i64 n.th, .int .i64 n.tw, .int .i64 n.tc, n.wV, n.bV], .agg #[.int .i64 a.h, .int .i64 a.w, .int .i64 a.c]] W fun e w' => e = .returned (.tuple #[.int .i64 (wbZ n a).1, .int .i64 (wbZ n a).2]) ∧ Ext W w'

theorem kind_range {op : Int} {k : Kn} (h : kindOf op = some k) : 1 ≤ op ∧ op ≤ 12 := by
  refine Classical.byContradiction fun hn => ?_
  unfold kindOf at h
  rw [if_neg (by omega), if_neg (by omega), if_neg (by omega), if_neg (by omega), if_neg (by omega), if_neg (by omega), if_neg (by omega), if_neg (by omega), if_neg (by omega), if_neg (by omega), if_neg (by omega), if_neg (by omega)] at h
  cases h

set_option maxHeartbeats 1600000 in
theorem kind_facts (n : Nd) (k : Kn) (h : kindOf n.op = some k) : KindFacts n k := by
  have hr := kind_range h
  rcases (by omega : n.op = 1 ∨ n.op = 2 ∨ n.op = 3 ∨ n.op = 4 ∨ n.op = 5 ∨ n.op = 6 ∨ n.op = 7 ∨ n.op = 8 ∨ n.op = 9 ∨ n.op = 10 ∨ n.op = 11 ∨ n.op = 12) with ho | ho | ho | ho | ho | ho | ho | ho | ho | ho | ho | ho
  · rw [ho] at h
    simp only [kindOf, reduceIte, Int.reduceEq, Option.some.injEq] at h
    subst h
    have hm : ∀ a b, madeZ n a b = ⟨outZ a.h n.k n.st n.pad, outZ a.w n.k n.st n.pad, n.out⟩ := fun a b => by simp only [madeZ, ho, reduceIte, Int.reduceEq]
    have hw : ∀ a, wbZ n a = (n.k * n.k * a.c * n.out, n.out) := fun a => by simp only [wbZ, ho, reduceIte, Int.reduceEq]
    refine ⟨fun _ => rfl, .inl rfl, enters_of Try.func137 (by kernel_rfl) rfl, enters_of Try.func139 (by kernel_rfl) rfl, fun a b W ha hb => ?_, fun a W ha hwin hout => ?_⟩
    · rw [hm]
      exact conv_made n a b W
    · rw [hw]
      exact conv_w n a W ha (hwin (by rfl)) (hout (by rfl))
  · rw [ho] at h
    simp only [kindOf, reduceIte, Int.reduceEq, Option.some.injEq] at h
    subst h
    have hm : ∀ a b, madeZ n a b = ⟨outZ a.h n.k n.st n.pad, outZ a.w n.k n.st n.pad, a.c⟩ := fun a b => by simp only [madeZ, ho, reduceIte, Int.reduceEq]
    have hw : ∀ a, wbZ n a = (n.k * n.k * a.c, a.c) := fun a => by simp only [wbZ, ho, reduceIte, Int.reduceEq]
    refine ⟨fun _ => rfl, .inl rfl, enters_of Try.func140 (by kernel_rfl) rfl, enters_of Try.func141 (by kernel_rfl) rfl, fun a b W ha hb => ?_, fun a W ha hwin hout => ?_⟩
    · rw [hm]
      exact pooled_made n a b W
    · rw [hw]
      exact depth_w n a W ha (hwin (by rfl))
  · rw [ho] at h
    simp only [kindOf, reduceIte, Int.reduceEq, Option.some.injEq] at h
    subst h
    have hm : ∀ a b, madeZ n a b = ⟨1, 1, n.out⟩ := fun a b => by simp only [madeZ, ho, reduceIte, Int.reduceEq]
    have hw : ∀ a, wbZ n a = (sizeZ a * n.out, n.out) := fun a => by simp only [wbZ, ho, reduceIte, Int.reduceEq]
    refine ⟨fun h => (by cases h), .inl rfl, enters_of Try.func142 (by kernel_rfl) rfl, enters_of Try.func143 (by kernel_rfl) rfl, fun a b W ha hb => ?_, fun a W ha hwin hout => ?_⟩
    · rw [hm]
      exact full_made n a b W
    · rw [hw]
      exact full_w n a W (hout (by rfl))
  · rw [ho] at h
    simp only [kindOf, reduceIte, Int.reduceEq, Option.some.injEq] at h
    subst h
    have hm : ∀ a b, madeZ n a b = ⟨outZ a.h n.k n.st n.pad, outZ a.w n.k n.st n.pad, a.c⟩ := fun a b => by simp only [madeZ, ho, reduceIte, Int.reduceEq]
    have hw : ∀ a, wbZ n a = (0, 0) := fun a => by simp only [wbZ, ho, reduceIte, Int.reduceEq]
    refine ⟨fun h => (by cases h), .inl rfl, enters_of Try.func140 (by kernel_rfl) rfl, enters_of Try.func136 (by kernel_rfl) rfl, fun a b W ha hb => ?_, fun a W ha hwin hout => ?_⟩
    · rw [hm]
      exact pooled_made n a b W
    · rw [hw]
      exact bare_w n a W
  · rw [ho] at h
    simp only [kindOf, reduceIte, Int.reduceEq, Option.some.injEq] at h
    subst h
    have hm : ∀ a b, madeZ n a b = ⟨outZ a.h n.k n.st n.pad, outZ a.w n.k n.st n.pad, a.c⟩ := fun a b => by simp only [madeZ, ho, reduceIte, Int.reduceEq]
    have hw : ∀ a, wbZ n a = (0, 0) := fun a => by simp only [wbZ, ho, reduceIte, Int.reduceEq]
    refine ⟨fun h => (by cases h), .inl rfl, enters_of Try.func140 (by kernel_rfl) rfl, enters_of Try.func136 (by kernel_rfl) rfl, fun a b W ha hb => ?_, fun a W ha hwin hout => ?_⟩
    · rw [hm]
      exact pooled_made n a b W
    · rw [hw]
      exact bare_w n a W
  · rw [ho] at h
    simp only [kindOf, reduceIte, Int.reduceEq, Option.some.injEq] at h
    subst h
    have hm : ∀ a b, madeZ n a b = sameZ a b := fun a b => by simp only [madeZ, ho, reduceIte, Int.reduceEq]
    have hw : ∀ a, wbZ n a = (0, 0) := fun a => by simp only [wbZ, ho, reduceIte, Int.reduceEq]
    refine ⟨fun h => (by cases h), .inr rfl, enters_of Try.func144 (by kernel_rfl) rfl, enters_of Try.func136 (by kernel_rfl) rfl, fun a b W ha hb => ?_, fun a W ha hwin hout => ?_⟩
    · rw [hm]
      exact same_made n a b W
    · rw [hw]
      exact bare_w n a W
  · rw [ho] at h
    simp only [kindOf, reduceIte, Int.reduceEq, Option.some.injEq] at h
    subst h
    have hm : ∀ a b, madeZ n a b = sameZ a b := fun a b => by simp only [madeZ, ho, reduceIte, Int.reduceEq]
    have hw : ∀ a, wbZ n a = (0, 0) := fun a => by simp only [wbZ, ho, reduceIte, Int.reduceEq]
    refine ⟨fun h => (by cases h), .inr rfl, enters_of Try.func144 (by kernel_rfl) rfl, enters_of Try.func136 (by kernel_rfl) rfl, fun a b W ha hb => ?_, fun a W ha hwin hout => ?_⟩
    · rw [hm]
      exact same_made n a b W
    · rw [hw]
      exact bare_w n a W
  · rw [ho] at h
    simp only [kindOf, reduceIte, Int.reduceEq, Option.some.injEq] at h
    subst h
    have hm : ∀ a b, madeZ n a b = a := fun a b => by simp only [madeZ, ho, reduceIte, Int.reduceEq]
    have hw : ∀ a, wbZ n a = (0, 0) := fun a => by simp only [wbZ, ho, reduceIte, Int.reduceEq]
    refine ⟨fun h => (by cases h), .inl rfl, enters_of Try.func135 (by kernel_rfl) rfl, enters_of Try.func136 (by kernel_rfl) rfl, fun a b W ha hb => ?_, fun a W ha hwin hout => ?_⟩
    · rw [hm]
      exact first_made n a b W
    · rw [hw]
      exact bare_w n a W
  · rw [ho] at h
    simp only [kindOf, reduceIte, Int.reduceEq, Option.some.injEq] at h
    subst h
    have hm : ∀ a b, madeZ n a b = ⟨a.h + 2, a.w + 2, a.c⟩ := fun a b => by simp only [madeZ, ho, reduceIte, Int.reduceEq]
    have hw : ∀ a, wbZ n a = (0, 0) := fun a => by simp only [wbZ, ho, reduceIte, Int.reduceEq]
    refine ⟨fun h => (by cases h), .inl rfl, enters_of Try.func145 (by kernel_rfl) rfl, enters_of Try.func136 (by kernel_rfl) rfl, fun a b W ha hb => ?_, fun a W ha hwin hout => ?_⟩
    · rw [hm]
      exact pad_made n a b W ha
    · rw [hw]
      exact bare_w n a W
  · rw [ho] at h
    simp only [kindOf, reduceIte, Int.reduceEq, Option.some.injEq] at h
    subst h
    have hm : ∀ a b, madeZ n a b = besideZ a b := fun a b => by simp only [madeZ, ho, reduceIte, Int.reduceEq]
    have hw : ∀ a, wbZ n a = (0, 0) := fun a => by simp only [wbZ, ho, reduceIte, Int.reduceEq]
    refine ⟨fun h => (by cases h), .inr rfl, enters_of Try.func146 (by kernel_rfl) rfl, enters_of Try.func136 (by kernel_rfl) rfl, fun a b W ha hb => ?_, fun a W ha hwin hout => ?_⟩
    · rw [hm]
      exact beside_made n a b W ha hb
    · rw [hw]
      exact bare_w n a W
  · rw [ho] at h
    simp only [kindOf, reduceIte, Int.reduceEq, Option.some.injEq] at h
    subst h
    have hm : ∀ a b, madeZ n a b = anewZ n a := fun a b => by simp only [madeZ, ho, reduceIte, Int.reduceEq]
    have hw : ∀ a, wbZ n a = (0, 0) := fun a => by simp only [wbZ, ho, reduceIte, Int.reduceEq]
    refine ⟨fun h => (by cases h), .inl rfl, enters_of Try.func147 (by kernel_rfl) rfl, enters_of Try.func136 (by kernel_rfl) rfl, fun a b W ha hb => ?_, fun a W ha hwin hout => ?_⟩
    · rw [hm]
      exact anew_made n a b W
    · rw [hw]
      exact bare_w n a W
  · rw [ho] at h
    simp only [kindOf, reduceIte, Int.reduceEq, Option.some.injEq] at h
    subst h
    have hm : ∀ a b, madeZ n a b = a := fun a b => by simp only [madeZ, ho, reduceIte, Int.reduceEq]
    have hw : ∀ a, wbZ n a = (256, 0) := fun a => by simp only [wbZ, ho, reduceIte, Int.reduceEq]
    refine ⟨fun h => (by cases h), .inl rfl, enters_of Try.func135 (by kernel_rfl) rfl, enters_of Try.func148 (by kernel_rfl) rfl, fun a b W ha hb => ?_, fun a W ha hwin hout => ?_⟩
    · rw [hm]
      exact first_made n a b W
    · rw [hw]
      exact table_w n a W

/-- What graph.Value answers. -/
def valueR (n : Nd) (l : List Vl) : Vl × Int :=
  match kindOf n.op with
  | none => (⟨⟨0, 0, 0⟩, 0⟩, 11)
  | some k =>
    if nodeOk k n l.length = false then (⟨⟨0, 0, 0⟩, 0⟩, 11) else
    if (k.keeps && l.any fun x => !decide (x.z = n.zero)) = true then (⟨⟨0, 0, 0⟩, 0⟩, 11) else
    if (l.any fun x => !x.s.ok) = true then (⟨⟨0, 0, 0⟩, 0⟩, 10) else
    if (madeZ n (l[0]?.getD default).s (l[l.length - 1]?.getD default).s).ok = false then (⟨⟨0, 0, 0⟩, 0⟩, 10) else
    if ((n.ws.length : Int) ≠ (wbZ n (l[0]?.getD default).s).1 ∨ (n.bs.length : Int) ≠ (wbZ n (l[0]?.getD default).s).2) ∨ (n.bs.any fun x => !inB (-16777216) 16777216 x) = true then (⟨⟨0, 0, 0⟩, 0⟩, 12) else
    (⟨madeZ n (l[0]?.getD default).s (l[l.length - 1]?.getD default).s, n.zero⟩, 0)

end Go.Proofs.Ytdhdbmfipkppiaa
