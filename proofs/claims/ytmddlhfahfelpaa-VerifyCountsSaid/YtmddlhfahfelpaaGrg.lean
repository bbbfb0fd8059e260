/- The walk of graph.goesIn. -/
/- Package graph: what is known of the function values of a kind; what a node makes. -/
import Derived.Test.YtmddlhfahfelpaaGri
set_option linter.unusedSimpArgs false
set_option linter.unusedVariables false
set_option linter.unnecessarySimpa false
namespace Go.Proofs.Ytmddlhfahfelpaa
open Go.RowKit

set_option maxRecDepth 8000 in
set_option maxHeartbeats 3200000 in
theorem goesIn_calls (g : Gr) (w : World) (hg : GrAt w g) :
    Calls Try.prog 51 #[.agg #[g.iV, g.nV, g.oV]] w (GoesPost g w) := by
  have HP : Hid (∀ e w', ((goesInR g = 0 → ∃ v, e = .returned (.tuple #[v, .int .i64 0]) ∧ OwnV w w' v g.ins) ∧ (goesInR g ≠ 0 → e = .returned (.tuple #[.slice none 0 0, .int .i64 (goesInR g)])) ∧ Ext w w') → GoesPost g w e w') := fun e w' h => h
  have HE : Hid (∀ e w' z, goesInR g = z → z ≠ 0 → e = .returned (.tuple #[.slice none 0 0, .int .i64 z]) → Ext w w' → GoesPost g w e w') := fun e w' z h1 h2 h3 h4 => HP.out e w' ⟨(fun h => absurd (h1.symm.trans h) h2), (fun _ => by rw [h1]; exact h3), h4⟩
  have HG : Hid (goesInR g = if 4 < g.ins.length ∨ 12 < g.nodes.length ∨ 4 < g.outs.length then 3 else if g.ins.length = 0 ∨ g.outs.length = 0 then 13 else goesInR.insR g.ins) := rfl
  generalize GoesPost g w = PP at *
  generalize goesInR g = gi at *
  obtain ⟨hi, hn, ho, _, hil, hnl, hol⟩ := hg
  obtain ⟨iV, nV, oV, ins, nodes, outs⟩ := g
  obtain ⟨Ai, ci, e1, hi1, hi2, _⟩ := id hi.form
  obtain ⟨An, cn, e2, hn1, hn2, _⟩ := id (SRow.form hn (fun _ => rfl) (by omega))
  obtain ⟨Ao, co, e3, ho1, ho2, _⟩ := id ho.form
  simp only at e1 e2 e3 HG HP hi ho hn
  subst e1 e2 e3
  unfold maxLen at hi2 hn2 ho2
  simp only at *
  have hw1 := ext_alloc w (.cells #[.slice Ai ins.length ci, .slice An nodes.length cn, .slice Ao outs.length co] 26)
  have hbx := Blk.new w #[.slice Ai ins.length ci, .slice An nodes.length cn, .slice Ao outs.length co] 26
  by_cases h1 : 4 < ins.length
  · have HV : Hid (gi = 3) := by show _ = _; rw [HG.out, if_pos (Or.inl h1)]
    go_enter Try.func51, Try.ntmps51
    go_wp2_with fail
    exact HE.out _ _ 3 HV.out (by decide) rfl hw1
  by_cases h2 : 12 < nodes.length
  · have HV : Hid (gi = 3) := by show _ = _; rw [HG.out, if_pos (Or.inr (Or.inl h2))]
    go_enter Try.func51, Try.ntmps51
    go_wp2_with fail
    exact HE.out _ _ 3 HV.out (by decide) rfl hw1
  by_cases h3 : 4 < outs.length
  · have HV : Hid (gi = 3) := by show _ = _; rw [HG.out, if_pos (Or.inr (Or.inr h3))]
    go_enter Try.func51, Try.ntmps51
    go_wp2_with fail
    exact HE.out _ _ 3 HV.out (by decide) rfl hw1
  have HG1 : Hid (gi = if ins.length = 0 ∨ outs.length = 0 then 13 else goesInR.insR ins) := by show _ = _; rw [HG.out, if_neg (by omega)]
  clear HG
  by_cases h4 : ins.length = 0
  · have HV : Hid (gi = 13) := by show _ = _; rw [HG1.out, if_pos (Or.inl h4)]
    have t4 : ((ins.length : Int) == 0) = true := by simp [h4]
    clear h4
    go_enter Try.func51, Try.ntmps51
    go_wp2_with fail
    exact HE.out _ _ 13 HV.out (by decide) rfl hw1
  by_cases h5 : outs.length = 0
  · have HV : Hid (gi = 13) := by show _ = _; rw [HG1.out, if_pos (Or.inr h5)]
    have t4 : ((ins.length : Int) == 0) = false := by rw [beq_eq_false_iff_ne]; omega
    have t5 : ((outs.length : Int) == 0) = true := by simp [h5]
    clear h5
    go_enter Try.func51, Try.ntmps51
    go_wp2_with fail
    exact HE.out _ _ 13 HV.out (by decide) rfl hw1
  have HG2 : Hid (gi = goesInR.insR ins) := by show _ = _; rw [HG1.out, if_neg (by omega)]
  clear HG1
  have t4 : ((ins.length : Int) == 0) = false := by rw [beq_eq_false_iff_ne]; omega
  have t5 : ((outs.length : Int) == 0) = false := by rw [beq_eq_false_iff_ne]; omega
  go_enter Try.func51, Try.ntmps51
  go_upto_block 1 with fail
  replace hi := hi.ext hw1
  clear hn ho hi1 hn1 ho1 t4 t5
  generalize w.alloc _ = w1 at *
  go_wp2_with fail
  go_loopw [5, 37] (fun _ i wr => ∃ k : Nat, k ≤ ins.length ∧ i = .int .i64 k ∧ Hid (∀ j, j < k → ∀ v, ins[j]? = some v → v.s.ok = true ∧ inB (-128) 127 v.z = true) ∧ Ext w1 wr) (fun _ i _ => ins.length - (intOf i).toNat)
  case atStart => exact ⟨0, by omega, rfl, (fun j h => by omega), Ext.refl _⟩
  case round =>
    obtain ⟨k, hk, rfl, hgood, hE⟩ := hrel
    by_cases hlt : k < ins.length
    · obtain ⟨_, _, eA, _, _, hcc⟩ := (hi.ext hE).form
      cases eA
      have hs : ins[k]? = some ins[k] := by simp [hlt]
      obtain ⟨b, off, rfl, hbl, hc⟩ := hcc k _ hs
      have HD : Hid (goesInR.insR ins = goesInR.insR (ins[k] :: ins.drop (k + 1))) := by
        show _ = _
        rw [insR_take hgood.out, ← List.drop_eq_getElem_cons hlt]
      have HN : Hid (ins[k].s.ok = true → inB (-128) 127 ins[k].z = true → ∀ j, j < k + 1 → ∀ v, ins[j]? = some v → v.s.ok = true ∧ inB (-128) 127 v.z = true) := by
        intro g1 g2 j hj v hv
        by_cases hjk : j = k
        · subst hjk
          rw [hs] at hv
          cases hv
          exact ⟨g1, g2⟩
        · exact hgood.out j (by omega) v hv
      generalize ins[k] = y at *
      have c0 : wr.cell? ⟨b, off + k * 4, none⟩ = some (.int .i64 y.s.h) := hc 0 _ rfl
      have c1 : wr.cell? ⟨b, off + k * 4 + 1, none⟩ = some (.int .i64 y.s.w) := hc 1 _ rfl
      have c2 : wr.cell? ⟨b, off + k * 4 + 2, none⟩ = some (.int .i64 y.s.c) := hc 2 _ rfl
      have c3 : wr.cell? ⟨b, off + k * 4 + 3, none⟩ = some (.int .i64 y.z) := hc 3 _ rfl
      clear hc hcc hs hgood
      have hsm := fun W => shMay_calls y.s W
      have hin := fun W => in_calls y.z (-128) 127 W
      have hb4 := Blk.new wr #[.int .i64 y.s.h, .int .i64 y.s.w, .int .i64 y.s.c, .int .i64 y.z] 44
      have hE4 := ext_alloc wr (.cells #[.int .i64 y.s.h, .int .i64 y.s.w, .int .i64 y.s.c, .int .i64 y.z] 44)
      obtain ⟨q1, hq1⟩ : ∃ q, y.s.ok = q := ⟨_, rfl⟩
      obtain ⟨q2, hq2⟩ : ∃ q, inB (-128) 127 y.z = q := ⟨_, rfl⟩
      rw [hq1] at hsm
      rw [hq2] at hin
      go_wp2_with fail
      refine (hsm _).mono ?_
      rintro e w2 ⟨rfl, h2⟩
      cases q1 with
      | false =>
        have HV : Hid (gi = 10) := by show _ = _; rw [HG2.out, HD.out, goesInR.insR, if_pos hq1]
        clear hq1 hq2
        go_wp2_with fail
        exact HE.out _ _ 10 HV.out (by decide) rfl (hw1.trans (hE.trans (hE4.trans h2)))
      | true =>
        have d3 : w2.cell? ⟨wr.heap.size, 3, none⟩ = some (.int .i64 y.z) := (hb4.ext h2).cell 3
        cases q2 with
        | false =>
          have HV : Hid (gi = 11) := by show _ = _; rw [HG2.out, HD.out, goesInR.insR, if_neg (by rw [hq1]; simp), if_pos hq2]
          clear hq1 hq2
          go_wp2_with (go_at_call 64; refine (hin _).mono ?_; rintro e w' ⟨rfl, rfl⟩)
          exact HE.out _ _ 11 HV.out (by decide) rfl (hw1.trans (hE.trans (hE4.trans h2)))
        | true =>
          have HN1 := Lib.hid (HN.out hq1 hq2)
          clear hq1 hq2 HN HD
          go_wp2_with (go_at_call 64; refine (hin _).mono ?_; rintro e w' ⟨rfl, rfl⟩)
          go_roundw
          case rel => exact ⟨k + 1, by omega, by go_num, HN1, hE.trans (hE4.trans h2)⟩
          case measure => simp [intOf]; omega
    · have hkk : k = ins.length := by omega
      have HV : Hid (gi = 0) := by
        show _ = _
        have := insR_take hgood.out
        rw [HG2.out, this, hkk, List.drop_length]
        rfl
      have hb0 : wr.cell? ⟨w.heap.size, 0, none⟩ = some (.slice Ai ins.length ci) := (hbx.ext hE).cell 0
      go_wp2_with fail
      refine (cloneV_calls _ ins wr (hi.ext hE) (by omega)).mono ?_
      rintro e w2 ⟨v, rfl, hown, h2⟩
      have hEE := hw1.trans (hE.trans h2)
      have hown2 : OwnV w w2 v ins := by
        refine ⟨hown.1, ?_⟩
        rcases hown.2 with h | ⟨g, cap, cur, h3, h4, h5⟩
        · exact .inl h
        · exact .inr ⟨g, cap, cur, h3, Nat.le_trans (hw1.trans hE).size h4, h5⟩
      clear hown
      go_wp2_with fail
      exact HP.out _ _ ⟨(fun _ => ⟨_, rfl, hown2⟩), (fun h => absurd HV.out h), hEE⟩

end Go.Proofs.Ytmddlhfahfelpaa

namespace Go.Proofs.Ytmddlhfahfelpaa
open Go.RowKit

/-- The shape that a node makes of a first and a last one. -/
def madeZ (n : Nd) (a b : Sz) : Sz :=
  if n.op = 1 then ⟨outZ a.h n.k n.st n.pad, outZ a.w n.k n.st n.pad, n.out⟩ else
  if n.op = 2 then ⟨outZ a.h n.k n.st n.pad, outZ a.w n.k n.st n.pad, a.c⟩ else
  if n.op = 3 then ⟨1, 1, n.out⟩ else
  if n.op = 4 then ⟨outZ a.h n.k n.st n.pad, outZ a.w n.k n.st n.pad, a.c⟩ else
  if n.op = 5 then ⟨outZ a.h n.k n.st n.pad, outZ a.w n.k n.st n.pad, a.c⟩ else
  if n.op = 6 then sameZ a b else
  if n.op = 7 then sameZ a b else
  if n.op = 8 then a else
  if n.op = 9 then ⟨a.h + 2, a.w + 2, a.c⟩ else
  if n.op = 10 then besideZ a b else
  if n.op = 11 then anewZ n a else
  a

/-- How many weights and biases. -/
def wbZ (n : Nd) (a : Sz) : Int × Int :=
  if n.op = 1 then (n.k * n.k * a.c * n.out, n.out) else
  if n.op = 2 then (n.k * n.k * a.c, a.c) else
  if n.op = 3 then (sizeZ a * n.out, n.out) else
  if n.op = 12 then (256, 0) else
  (0, 0)

structure KindFacts (n : Nd) (k : Kn) : Prop where
  pads : k.pads = true → k.window = true
  many : k.many = 1 ∨ k.many = 2
  em : Enters Try.prog k.mf
  ew : Enters Try.prog k.wf
  made : ∀ (a b : Sz) (W : World), a.ok = true → b.ok = true → Calls Try.prog k.mf #[.agg #[.int .i64 n.op, n.inV, .int .i64 n.k, .int .i64 n.st, .int .i64 n.pad, .int .i64 n.out, .int .i64 n.mul, .int .i64 n.sh, .int .i64 n.zero, .int .i64 n.th, .int .i64 n.tw, .int .i64 n.tc, n.wV, n.bV], .agg #[.int .i64 a.h, .int .i64 a.w, .int .i64 a.c], .agg #[.int .i64 b.h, .int .i64 b.w, .int .i64 b.c]] W fun e w' => e = .returned (.agg #[.int .i64 (madeZ n a b).h, .int .i64 (madeZ n a b).w, .int .i64 (madeZ n a b).c]) ∧ Ext W w'
  wb : ∀ (a : Sz) (W : World), a.ok = true → (k.window = true → 1 ≤ n.k ∧ n.k ≤ 3) → (k.out = true → 1 ≤ n.out ∧ n.out ≤ 8) → Calls Try.prog k.wf #[.agg #[.int .i64 n.op, n.inV, .int .i64 n.k, .int .i64 n.st, .int .i64 n.pad, .int .i64 n.out, .int .i64 n.mul, .int .i64 n.sh, .int .i64 n.zero, .int .i64 n.th, .int .i64 n.tw, .int .i64 n.tc, n.wV, n.bV], .agg #[.int .i64 a.h, .int .i64 a.w, .int .i64 a.c]] W fun e w' => e = .returned (.tuple #[.int .i64 (wbZ n a).1, .int .i64 (wbZ n a).2]) ∧ Ext W w'

theorem kind_range {op : Int} {k : Kn} (h : kindOf op = some k) : 1 ≤ op ∧ op ≤ 12 := by
  refine Classical.byContradiction fun hn => ?_
  unfold kindOf at h
  rw [if_neg (by omega), if_neg (by omega), if_neg (by omega), if_neg (by omega), if_neg (by omega), if_neg (by omega), if_neg (by omega), if_neg (by omega), if_neg (by omega), if_neg (by omega), if_neg (by omega), if_neg (by omega)] at h
  cases h

set_option maxHeartbeats 1600000 in
theorem kind_facts (n : Nd) (k : Kn) (h : kindOf n.op = some k) : KindFacts n k := by
  have hr := kind_range h
  rcases (by omega : n.op = 1 ∨ n.op = 2 ∨ n.op = 3 ∨ n.op = 4 ∨ n.op = 5 ∨ n.op = 6 ∨ n.op = 7 ∨ n.op = 8 ∨ n.op = 9 ∨ n.op = 10 ∨ n.op = 11 ∨ n.op = 12) with ho | ho | ho | ho | ho | ho | ho | ho | ho | ho | ho | ho
  · rw [ho] at h
    simp only [kindOf, reduceIte, Int.reduceEq, Option.some.injEq] at h
    subst h
    have hm : ∀ a b, madeZ n a b = ⟨outZ a.h n.k n.st n.pad, outZ a.w n.k n.st n.pad, n.out⟩ := fun a b => by simp only [madeZ, ho, reduceIte, Int.reduceEq]
    have hw : ∀ a, wbZ n a = (n.k * n.k * a.c * n.out, n.out) := fun a => by simp only [wbZ, ho, reduceIte, Int.reduceEq]
    refine ⟨fun _ => rfl, .inl rfl, enters_of Try.func80 (by kernel_rfl) rfl, enters_of Try.func82 (by kernel_rfl) rfl, fun a b W ha hb => ?_, fun a W ha hwin hout => ?_⟩
    · rw [hm]
      exact conv_made n a b W
    · rw [hw]
      exact conv_w n a W ha (hwin (by rfl)) (hout (by rfl))
  · rw [ho] at h
    simp only [kindOf, reduceIte, Int.reduceEq, Option.some.injEq] at h
    subst h
    have hm : ∀ a b, madeZ n a b = ⟨outZ a.h n.k n.st n.pad, outZ a.w n.k n.st n.pad, a.c⟩ := fun a b => by simp only [madeZ, ho, reduceIte, Int.reduceEq]
    have hw : ∀ a, wbZ n a = (n.k * n.k * a.c, a.c) := fun a => by simp only [wbZ, ho, reduceIte, Int.reduceEq]
    refine ⟨fun _ => rfl, .inl rfl, enters_of Try.func83 (by kernel_rfl) rfl, enters_of Try.func84 (by kernel_rfl) rfl, fun a b W ha hb => ?_, fun a W ha hwin hout => ?_⟩
    · rw [hm]
      exact pooled_made n a b W
    · rw [hw]
      exact depth_w n a W ha (hwin (by rfl))
  · rw [ho] at h
    simp only [kindOf, reduceIte, Int.reduceEq, Option.some.injEq] at h
    subst h
    have hm : ∀ a b, madeZ n a b = ⟨1, 1, n.out⟩ := fun a b => by simp only [madeZ, ho, reduceIte, Int.reduceEq]
    have hw : ∀ a, wbZ n a = (sizeZ a * n.out, n.out) := fun a => by simp only [wbZ, ho, reduceIte, Int.reduceEq]
    refine ⟨fun h => (by cases h), .inl rfl, enters_of Try.func85 (by kernel_rfl) rfl, enters_of Try.func86 (by kernel_rfl) rfl, fun a b W ha hb => ?_, fun a W ha hwin hout => ?_⟩
    · rw [hm]
      exact full_made n a b W
    · rw [hw]
      exact full_w n a W (hout (by rfl))
  · rw [ho] at h
    simp only [kindOf, reduceIte, Int.reduceEq, Option.some.injEq] at h
    subst h
    have hm : ∀ a b, madeZ n a b = ⟨outZ a.h n.k n.st n.pad, outZ a.w n.k n.st n.pad, a.c⟩ := fun a b => by simp only [madeZ, ho, reduceIte, Int.reduceEq]
    have hw : ∀ a, wbZ n a = (0, 0) := fun a => by simp only [wbZ, ho, reduceIte, Int.reduceEq]
    refine ⟨fun h => (by cases h), .inl rfl, enters_of Try.func83 (by kernel_rfl) rfl, enters_of Try.func79 (by kernel_rfl) rfl, fun a b W ha hb => ?_, fun a W ha hwin hout => ?_⟩
    · rw [hm]
      exact pooled_made n a b W
    · rw [hw]
      exact bare_w n a W
  · rw [ho] at h
    simp only [kindOf, reduceIte, Int.reduceEq, Option.some.injEq] at h
    subst h
    have hm : ∀ a b, madeZ n a b = ⟨outZ a.h n.k n.st n.pad, outZ a.w n.k n.st n.pad, a.c⟩ := fun a b => by simp only [madeZ, ho, reduceIte, Int.reduceEq]
    have hw : ∀ a, wbZ n a = (0, 0) := fun a => by simp only [wbZ, ho, reduceIte, Int.reduceEq]
    refine ⟨fun h => (by cases h), .inl rfl, enters_of Try.func83 (by kernel_rfl) rfl, enters_of Try.func79 (by kernel_rfl) rfl, fun a b W ha hb => ?_, fun a W ha hwin hout => ?_⟩
    · rw [hm]
      exact pooled_made n a b W
    · rw [hw]
      exact bare_w n a W
  · rw [ho] at h
    simp only [kindOf, reduceIte, Int.reduceEq, Option.some.injEq] at h
    subst h
    have hm : ∀ a b, madeZ n a b = sameZ a b := fun a b => by simp only [madeZ, ho, reduceIte, Int.reduceEq]
    have hw : ∀ a, wbZ n a = (0, 0) := fun a => by simp only [wbZ, ho, reduceIte, Int.reduceEq]
    refine ⟨fun h => (by cases h), .inr rfl, enters_of Try.func87 (by kernel_rfl) rfl, enters_of Try.func79 (by kernel_rfl) rfl, fun a b W ha hb => ?_, fun a W ha hwin hout => ?_⟩
    · rw [hm]
      exact same_made n a b W
    · rw [hw]
      exact bare_w n a W
  · rw [ho] at h
    simp only [kindOf, reduceIte, Int.reduceEq, Option.some.injEq] at h
    subst h
    have hm : ∀ a b, madeZ n a b = sameZ a b := fun a b => by simp only [madeZ, ho, reduceIte, Int.reduceEq]
    have hw : ∀ a, wbZ n a = (0, 0) := fun a => by simp only [wbZ, ho, reduceIte, Int.reduceEq]
    refine ⟨fun h => (by cases h), .inr rfl, enters_of Try.func87 (by kernel_rfl) rfl, enters_of Try.func79 (by kernel_rfl) rfl, fun a b W ha hb => ?_, fun a W ha hwin hout => ?_⟩
    · rw [hm]
      exact same_made n a b W
    · rw [hw]
      exact bare_w n a W
  · rw [ho] at h
    simp only [kindOf, reduceIte, Int.reduceEq, Option.some.injEq] at h
    subst h
    have hm : ∀ a b, madeZ n a b = a := fun a b => by simp only [madeZ, ho, reduceIte, Int.reduceEq]
    have hw : ∀ a, wbZ n a = (0, 0) := fun a => by simp only [wbZ, ho, reduceIte, Int.reduceEq]
    refine ⟨fun h => (by cases h), .inl rfl, enters_of Try.func78 (by kernel_rfl) rfl, enters_of Try.func79 (by kernel_rfl) rfl, fun a b W ha hb => ?_, fun a W ha hwin hout => ?_⟩
    · rw [hm]
      exact first_made n a b W
    · rw [hw]
      exact bare_w n a W
  · rw [ho] at h
    simp only [kindOf, reduceIte, Int.reduceEq, Option.some.injEq] at h
    subst h
    have hm : ∀ a b, madeZ n a b = ⟨a.h + 2, a.w + 2, a.c⟩ := fun a b => by simp only [madeZ, ho, reduceIte, Int.reduceEq]
    have hw : ∀ a, wbZ n a = (0, 0) := fun a => by simp only [wbZ, ho, reduceIte, Int.reduceEq]
    refine ⟨fun h => (by cases h), .inl rfl, enters_of Try.func88 (by kernel_rfl) rfl, enters_of Try.func79 (by kernel_rfl) rfl, fun a b W ha hb => ?_, fun a W ha hwin hout => ?_⟩
    · rw [hm]
      exact pad_made n a b W ha
    · rw [hw]
      exact bare_w n a W
  · rw [ho] at h
    simp only [kindOf, reduceIte, Int.reduceEq, Option.some.injEq] at h
    subst h
    have hm : ∀ a b, madeZ n a b = besideZ a b := fun a b => by simp only [madeZ, ho, reduceIte, Int.reduceEq]
    have hw : ∀ a, wbZ n a = (0, 0) := fun a => by simp only [wbZ, ho, reduceIte, Int.reduceEq]
    refine ⟨fun h => (by cases h), .inr rfl, enters_of Try.func89 (by kernel_rfl) rfl, enters_of Try.func79 (by kernel_rfl) rfl, fun a b W ha hb => ?_, fun a W ha hwin hout => ?_⟩
    · rw [hm]
      exact beside_made n a b W ha hb
    · rw [hw]
      exact bare_w n a W
  · rw [ho] at h
    simp only [kindOf, reduceIte, Int.reduceEq, Option.some.injEq] at h
    subst h
    have hm : ∀ a b, madeZ n a b = anewZ n a := fun a b => by simp only [madeZ, ho, reduceIte, Int.reduceEq]
    have hw : ∀ a, wbZ n a = (0, 0) := fun a => by simp only [wbZ, ho, reduceIte, Int.reduceEq]
    refine ⟨fun h => (by cases h), .inl rfl, enters_of Try.func90 (by kernel_rfl) rfl, enters_of Try.func79 (by kernel_rfl) rfl, fun a b W ha hb => ?_, fun a W ha hwin hout => ?_⟩
    · rw [hm]
      exact anew_made n a b W
    · rw [hw]
      exact bare_w n a W
  · rw [ho] at h
    simp only [kindOf, reduceIte, Int.reduceEq, Option.some.injEq] at h
    subst h
    have hm : ∀ a b, madeZ n a b = a := fun a b => by simp only [madeZ, ho, reduceIte, Int.reduceEq]
    have hw : ∀ a, wbZ n a = (256, 0) := fun a => by simp only [wbZ, ho, reduceIte, Int.reduceEq]
    refine ⟨fun h => (by cases h), .inl rfl, enters_of Try.func78 (by kernel_rfl) rfl, enters_of Try.func91 (by kernel_rfl) rfl, fun a b W ha hb => ?_, fun a W ha hwin hout => ?_⟩
    · rw [hm]
      exact first_made n a b W
    · rw [hw]
      exact table_w n a W

/-- What graph.Value answers. -/
def valueR (n : Nd) (l : List Vl) : Vl × Int :=
  match kindOf n.op with
  | none => (⟨⟨0, 0, 0⟩, 0⟩, 11)
  | some k =>
    if nodeOk k n l.length = false then (⟨⟨0, 0, 0⟩, 0⟩, 11) else
    if (k.keeps && l.any fun x => !decide (x.z = n.zero)) = true then (⟨⟨0, 0, 0⟩, 0⟩, 11) else
    if (l.any fun x => !x.s.ok) = true then (⟨⟨0, 0, 0⟩, 0⟩, 10) else
    if (madeZ n (l[0]?.getD default).s (l[l.length - 1]?.getD default).s).ok = false then (⟨⟨0, 0, 0⟩, 0⟩, 10) else
    if ((n.ws.length : Int) ≠ (wbZ n (l[0]?.getD default).s).1 ∨ (n.bs.length : Int) ≠ (wbZ n (l[0]?.getD default).s).2) ∨ (n.bs.any fun x => !inB (-16777216) 16777216 x) = true then (⟨⟨0, 0, 0⟩, 0⟩, 12) else
    (⟨madeZ n (l[0]?.getD default).s (l[l.length - 1]?.getD default).s, n.zero⟩, 0)

end Go.Proofs.Ytmddlhfahfelpaa
