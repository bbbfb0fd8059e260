/- The law VerifyCounts: for every input it returns true, and each argument reads as it read before. -/
import Derived.Test.YtmddlhfahfelpaaRows
import Derived.WalkKit
import Derived.ProofKit
import Derived.OpenShut
import Derived.ChangeOld
import Derived.Below
import Derived.Test.YtmddlhfahfelpaaRegW
import Derived.Test.YtmddlhfahfelpaaRgp
import Derived.Test.YtmddlhfahfelpaaImr
set_option linter.unusedSimpArgs false
set_option linter.unusedVariables false
set_option linter.unnecessarySimpa false
namespace Go.Proofs.Ytmddlhfahfelpaa.verifyCountsLaw
open Go.ChangeShapes Go.WideShapes Go.ChangeAt Go.RowKit
open Go.ChangeMaps (open_string shut_string)

theorem own : ownKnob Try.prog.godebug = none := by kernel_rfl
theorem laidOut : laidOutB Try.prog = true := by kernel_rfl

set_option maxRecDepth 100000 in
theorem lifted (os : Os) (started : os.Started) (H : Type) (enc : TypeId × Value → H) :
    ReturnsInHanded {} Try.checked os 4 .any (Rows.verifyCountsSpec.pre6 enc Try.prog Try.f4 Rows.verifyCountsRow.domain false) (Rows.verifyCountsSpec.post enc Try.prog Try.f4 false true false false) := by
  refine returnsInHanded_of_change (C := Try.checked) own started (by kernel_rfl) Try.func4
    (ChangeSpec.witness6 (enc := enc) (C := Try.checked) false ⟨#[], #[.agg #[.slice none 0 0, .slice none 0 0, .slice none 0 0, .slice none 0 0, .slice none 0 0, .slice none 0 0, .slice none 0 0], .agg #[.slice none 0 0, .slice none 0 0, .slice none 0 0, .slice none 0 0, .slice none 0 0, .slice none 0 0, .slice none 0 0]], []⟩ 8 (by kernel_rfl) (by kernel_rfl) (by kernel_rfl) (by kernel_rfl)) ?_
  intro W base args ds gs before hval0 hW hcnd _
  have hval : ∀ (j : Nat) t v, Try.f4.params[j]? = some t → args[j]? = some v → Value.okWide Try.prog W .any base t v := hval0
  have hW' := hW
  obtain ⟨p, q, hA0, hV, rfl, hfz, hnd⟩ := hW
  have hA : DataW.TrodAll enc Try.prog W 0 (fun _ => true) true Try.f4.params.toList args.toList ds p := hA0
  rw [Try.params4] at hA hval
  obtain ⟨v0, vs0, d0, ds0, p0, q0, hargs, rfl, rfl, h0, r0⟩ := trodAll_cons hA
  obtain ⟨v1, vs1, d1, ds1, p1, q1, rfl, rfl, rfl, h1, r1⟩ := trodAll_cons r0
  obtain ⟨rfl, rfl, rfl⟩ := trodAll_nil r1
  obtain rfl : args = #[v0, v1] := by cases args; simp_all
  obtain ⟨rfl, rfl⟩ := trodVars_none hV
  have k0 := h0
  have lt0 : ∀ x ∈ p0, x.block < W.heap.size := by obtain ⟨m, hm⟩ := k0; exact DataW.trod_lt m _ _ _ hm
  have k1 := h1
  have lt1 : ∀ x ∈ p1, x.block < W.heap.size := by obtain ⟨m, hm⟩ := k1; exact DataW.trod_lt m _ _ _ hm
  obtain ⟨cs0, rfl, hc0⟩ := okWide_agg (P := Try.prog) (t := 30) (by kernel_rfl) (hval 0 30 v0 rfl rfl)
  obtain ⟨x0, hx0⟩ := open_read imageTy (by kernel_rfl) h0 (by show cs0.size = 7; rw [hc0]; kernel_rfl)
  obtain ⟨z0, pv0, s00, s01, s02, pl0, l00, l01, l02, rfl, w0, wp0, wk0, wc0, wc1, wc2⟩ := read_imageL hx0
  obtain ⟨cs1, rfl, hc1⟩ := okWide_agg (P := Try.prog) (t := 30) (by kernel_rfl) (hval 1 30 v1 rfl rfl)
  obtain ⟨x1, hx1⟩ := open_read imageTy (by kernel_rfl) h1 (by show cs1.size = 7; rw [hc1]; kernel_rfl)
  obtain ⟨z1, pv1, s10, s11, s12, pl1, l10, l11, l12, rfl, w1, wp1, wk1, wd0, wd1, wd2⟩ := read_imageL hx1
  clear hA0 hval0
  refine (verifyCounts_calls z0 z1 pv0 s00 s01 s02 pv1 s10 s11 s12 pl0 pl1 l00 l01 l02 l10 l11 l12 W w0 wp0 wk0 wc0 wc1 wc2 w1 wp1 wk1 wd0 wd1 wd2).mono fun e W' ⟨he, bel⟩ => ?_
  subst he
  exact ⟨_, rfl, _, _, _, [], _, [], hW', trodAll_mk1 (shut_bool Try.underlying4 _), (trodAll_cons_mk (Below.trod laidOut (by kernel_rfl) (of_decide_eq_true (by kernel_rfl)) k0 bel lt0) (trodAll_cons_mk (Below.trod laidOut (by kernel_rfl) (of_decide_eq_true (by kernel_rfl)) k1 bel lt1) trodAll_mk0)), rfl, bel.frame _, fun h => by cases h⟩

theorem over : Rows.verifyCountsRow.holds Try.pinned (OpenSpec.ofChange Rows.verifyCountsSpec) :=
  OpenClaim.holds_of_wide 4 Try.f4 rfl rfl rfl rfl rfl rfl rfl ⟨rfl, rfl, rfl, rfl, rfl⟩ rfl rfl rfl rfl rfl (by kernel_rfl) Try.func4 (by kernel_rfl)
    (of_decide_eq_true (by kernel_rfl)) (by unfold Func.isWrapper; first | (rw [if_pos (by decide +kernel)]; kernel_rfl) | (rw [if_neg (by decide +kernel)]; exact ⟨rfl, rfl⟩))
    (fun os started H enc _ => lifted os started H enc)

theorem proved : Rows.VerifyCountsSaid := over
#print axioms proved
end Go.Proofs.Ytmddlhfahfelpaa.verifyCountsLaw
