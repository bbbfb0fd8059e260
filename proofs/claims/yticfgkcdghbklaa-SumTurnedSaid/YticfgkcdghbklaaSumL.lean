/- The walks of the laws of package sum: what stands at their heads. -/
import Derived.Test.YticfgkcdghbklaaSumW
import Derived.Lib.SlBytesConst
namespace Go.Proofs.Yticfgkcdghbklaa
open Go.RowKit

theorem crc_shown : crc [49, 50, 51, 52, 53, 54, 55, 56, 57] = 3421780262 := by decide +kernel

set_option maxHeartbeats 400000 in
theorem shown07_calls (w : World) :
    Calls Try.prog 15 #[] w fun e w' => e = .returned (.bool true) ∧ Below w.heap.size w w' := by
  have hr : Ints .u8 _ _ [49, 50, 51, 52, 53, 54, 55, 56, 57] := row_new' w #[.int .u8 49, .int .u8 50, .int .u8 51, .int .u8 52, .int .u8 53, .int .u8 54, .int .u8 55, .int .u8 56, .int .u8 57] 5 (9, 10) 9 1 rfl (by decide)
  have hz : Bytes [49, 50, 51, 52, 53, 54, 55, 56, 57] := by intro z h; simp at h; omega
  have hc := Lib.hid crc_shown
  have kc := fun (w : World) (C : Array Value) (n c : Nat) => Lib.run_convert_bytes_const (P := Try.prog) w 22 5 C n c Try.underlying22 Try.underlying5
  go_enter Try.func15, Try.ntmps15
  go_wp2_with fail
  refine (sum_calls _ _ _ hr hz).mono ?_
  rintro e w1 ⟨rfl, rfl⟩
  rw [hc.out]
  go_wp2_with fail
  refine (seal_calls _ [] _ (row_nil _ _) (by simp [Bytes]) (by simp)).mono ?_
  rintro e w1 ⟨v1, rfl, hown1, hbel1⟩
  obtain ⟨A, c, rfl, _⟩ := row_of_own hown1
  go_wp2_with fail
  go_ret
  exact ⟨rfl, (below_alloc (Below.refl _ _) (Nat.le_refl _) _).trans (hbel1.mono (by simp))⟩

end Go.Proofs.Yticfgkcdghbklaa
