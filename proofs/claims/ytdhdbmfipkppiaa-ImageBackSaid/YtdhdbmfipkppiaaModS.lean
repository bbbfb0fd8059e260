/- The walk of the head of the laws of graphs as bytes: the document's example. -/
import Derived.Test.YtdhdbmfipkppiaaModO
namespace Go.Proofs.Ytdhdbmfipkppiaa
set_option linter.unusedSimpArgs false
set_option linter.unusedVariables false
set_option linter.unnecessarySimpa false
open Go.RowKit

def exG (b : Nat) : Gr := ⟨.slice (some ⟨b, 0, none⟩) 1 1, .slice none 0 0, .slice (some ⟨b + 1, 0, none⟩) 1 1, [⟨⟨1, 2, 3⟩, 0⟩], [], [0]⟩
theorem exG_ok (b : Nat) : (valuesR (exG b)).2 = 0 := rfl
theorem exG_enc (b : Nat) : encG (exG b).c = [1, 1, 2, 3, 0, 0, 1, 0] := rfl

theorem exG_at (w : World) : GrAt ((w.alloc (.cells #[.int .i64 1, .int .i64 2, .int .i64 3, .int .i64 0] 67)).alloc (.cells #[.int .i64 0] 3)) (exG w.heap.size) := by
  have h1 : Vls (w.alloc (.cells #[.int .i64 1, .int .i64 2, .int .i64 3, .int .i64 0] 67)) (.slice (some ⟨w.heap.size, 0, none⟩) 1 1) [⟨⟨1, 2, 3⟩, 0⟩] := row_new w _ 67 1 4 rfl (by decide)
  have h2 := row_new (w.alloc (.cells #[.int .i64 1, .int .i64 2, .int .i64 3, .int .i64 0] 67)) #[.int .i64 0] 3 1 1 rfl (by decide)
  rw [show (w.alloc (.cells #[.int .i64 1, .int .i64 2, .int .i64 3, .int .i64 0] 67)).heap.size = w.heap.size + 1 from by simp] at h2
  exact ⟨h1.ext (ext_alloc _ _), row_nil _ _, h2, (fun n hn => by cases hn), (by show 1 ≤ 255; omega), (by show 0 ≤ 255; omega), (by show 1 ≤ 255; omega)⟩

set_option maxHeartbeats 1600000 in
theorem shown04_calls (w : World) : Calls Try.prog 14 #[] w fun e w' => e = .returned (.bool true) ∧ Ext w w' := by
  have hput := modelPut_calls (exG w.heap.size) _ (exG_at w)
  have hE0 := (ext_alloc w (.cells #[.int .i64 1, .int .i64 2, .int .i64 3, .int .i64 0] 67)).trans (ext_alloc _ (.cells #[.int .i64 0] 3))
  go_enter Try.func14, Try.ntmps14
  go_wp2_with fail
  refine hput.mono ?_
  rintro e w1 ⟨hz, _, hE1⟩
  obtain ⟨v1, rfl, hown⟩ := hz (exG_ok _)
  rw [exG_enc] at hown
  have c1 := conv_bytes (P := Try.prog) hown.ints (src := 29) (e := 5) (dst := 9) Try.underlying29 Try.underlying5 Try.underlying9
  have hlit : Ints .u8 (w1.alloc (.cells #[.int .u8 1, .int .u8 1, .int .u8 2, .int .u8 3, .int .u8 0, .int .u8 0, .int .u8 1, .int .u8 0] 5)) (.slice (some ⟨w1.heap.size, 0, none⟩) 8 8) [1, 1, 2, 3, 0, 0, 1, 0] := row_new w1 _ _ 8 1 rfl (by unfold maxLen; omega)
  have c2 := conv_bytes (P := Try.prog) hlit (src := 29) (e := 5) (dst := 9) Try.underlying29 Try.underlying5 Try.underlying9
  have hE2 := (hE0.trans hE1).trans (ext_alloc w1 (.cells #[.int .u8 1, .int .u8 1, .int .u8 2, .int .u8 3, .int .u8 0, .int .u8 0, .int .u8 1, .int .u8 0] 5))
  clear hlit hown hz hput
  go_wp2_with fail
  go_ret
  exact ⟨rfl, hE2⟩

end Go.Proofs.Ytdhdbmfipkppiaa
