/- The law ImageBack: for every input it returns true, and each argument reads as it read before. -/
import Derived.Test.YtdhdbmfipkppiaaRows
import Derived.WalkKit
import Derived.ProofKit
import Derived.OpenShut
import Derived.ChangeOld
import Derived.Below
import Derived.Test.YtdhdbmfipkppiaaOpen
import Derived.Test.YtdhdbmfipkppiaaTkd
import Derived.Test.YtdhdbmfipkppiaaImr
import Derived.Test.YtdhdbmfipkppiaaRead
namespace Go.Proofs.Ytdhdbmfipkppiaa.imageBackLaw
set_option linter.unusedSimpArgs false
set_option linter.unusedVariables false
set_option linter.unnecessarySimpa false
open Go.ChangeShapes Go.WideShapes Go.ChangeAt Go.RowKit
open Go.ChangeMaps (open_string shut_string)

theorem own : ownKnob Try.prog.godebug = none := by kernel_rfl
theorem laidOut : laidOutB Try.prog = true := by kernel_rfl

set_option maxRecDepth 100000 in
theorem lifted (os : Os) (started : os.Started) (H : Type) (enc : TypeId × Value → H) :
    ReturnsInHanded {} Try.checked os 13 .any (Rows.imageBackSpec.pre6 enc Try.prog Try.f13 Rows.imageBackRow.domain false) (Rows.imageBackSpec.post enc Try.prog Try.f13 false true false false) := by
  refine returnsInHanded_of_change (C := Try.checked) own started (by kernel_rfl) Try.func13
    (ChangeSpec.witness6 (enc := enc) (C := Try.checked) false ⟨#[], #[.agg #[.slice none 0 0, .slice none 0 0, .slice none 0 0, .slice none 0 0, .slice none 0 0, .slice none 0 0, .slice none 0 0], .int .i64 0, .agg #[.int .u8 0, .int .u8 0, .int .u8 0, .int .u8 0]], []⟩ 8 (by kernel_rfl) (by kernel_rfl) (by kernel_rfl) (by kernel_rfl)) ?_
  intro W base args ds gs before hval0 hW hcnd _
  have hval : ∀ (j : Nat) t v, Try.f13.params[j]? = some t → args[j]? = some v → Value.okWide Try.prog W .any base t v := hval0
  have hW' := hW
  obtain ⟨p, q, hA0, hV, rfl, hfz, hnd⟩ := hW
  have hA : DataW.TrodAll enc Try.prog W 0 (fun _ => true) true Try.f13.params.toList args.toList ds p := hA0
  rw [Try.params13] at hA hval
  obtain ⟨v0, vs0, d0, ds0, p0, q0, hargs, rfl, rfl, h0, r0⟩ := trodAll_cons hA
  obtain ⟨v1, vs1, d1, ds1, p1, q1, rfl, rfl, rfl, h1, r1⟩ := trodAll_cons r0
  obtain ⟨v2, vs2, d2, ds2, p2, q2, rfl, rfl, rfl, h2, r2⟩ := trodAll_cons r1
  obtain ⟨rfl, rfl, rfl⟩ := trodAll_nil r2
  obtain rfl : args = #[v0, v1, v2] := by cases args; simp_all
  obtain ⟨rfl, rfl⟩ := trodVars_none hV
  have k0 := h0
  have lt0 : ∀ x ∈ p0, x.block < W.heap.size := by obtain ⟨m, hm⟩ := k0; exact DataW.trod_lt m _ _ _ hm
  have k2 := h2
  have lt2 : ∀ x ∈ p2, x.block < W.heap.size := by obtain ⟨m, hm⟩ := k2; exact DataW.trod_lt m _ _ _ hm
  obtain ⟨cs0, rfl, hc0⟩ := okWide_agg (P := Try.prog) (t := 54) (by kernel_rfl) (hval 0 54 v0 rfl rfl)
  obtain ⟨x0, hx0⟩ := open_read imageTy (by kernel_rfl) h0 (by show cs0.size = 7; rw [hc0]; kernel_rfl)
  obtain ⟨z0, pv0, s00, s01, s02, pl0, l00, l01, l02, rfl, w0, wp0, wk0, wc0, wc1, wc2⟩ := read_imageL hx0
  obtain ⟨a1, rfl, rfl, rfl, w1⟩ := open_int Try.underlying3 (hval 1 3 v1 rfl rfl) h1
  have f1 := inK_of_wf w1
  simp only [InK] at f1
  obtain ⟨cs2, rfl, hc2⟩ := okWide_agg (P := Try.prog) (t := 78) (by kernel_rfl) (hval 2 78 v2 rfl rfl)
  obtain ⟨x2, hx2⟩ := open_read u8x4 (by kernel_rfl) h2 (by show cs2.size = 4; rw [hc2]; kernel_rfl)
  obtain ⟨b0, b1, b2, b3, rfl, u0, u1, u2, u3⟩ := read_u8x4 hx2
  simp only [InK] at u0 u1 u2 u3
  clear hA0 hval0
  refine (imageBack_calls z0 pv0 s00 s01 s02 pl0 l00 l01 l02 a1 b0 b1 b2 b3 W w0 wp0 wk0 wc0 wc1 wc2 f1 u0 u1 u2 u3).mono fun e W' ⟨he, bel⟩ => ?_
  subst he
  exact ⟨_, rfl, _, _, _, [], _, [], hW', trodAll_mk1 (shut_bool Try.underlying4 _), (trodAll_cons_mk (Below.trod laidOut (by kernel_rfl) (of_decide_eq_true (by kernel_rfl)) k0 bel lt0) (trodAll_cons_mk (shut_int Try.underlying3 w1) (trodAll_cons_mk (Below.trod laidOut (by kernel_rfl) (of_decide_eq_true (by kernel_rfl)) k2 bel lt2) trodAll_mk0))), rfl, bel.frame _, fun h => by cases h⟩

theorem over : Rows.imageBackRow.holds Try.pinned (OpenSpec.ofChange Rows.imageBackSpec) :=
  OpenClaim.holds_of_wide 13 Try.f13 rfl rfl rfl rfl rfl rfl rfl ⟨rfl, rfl, rfl, rfl, rfl⟩ rfl rfl rfl rfl rfl (by kernel_rfl) Try.func13 (by kernel_rfl)
    (of_decide_eq_true (by kernel_rfl)) (by unfold Func.isWrapper; first | (rw [if_pos (by decide +kernel)]; kernel_rfl) | (rw [if_neg (by decide +kernel)]; exact ⟨rfl, rfl⟩))
    (fun os started H enc _ => lifted os started H enc)

theorem proved : Rows.ImageBackSaid := over
#print axioms proved
end Go.Proofs.Ytdhdbmfipkppiaa.imageBackLaw
