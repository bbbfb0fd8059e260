/- The walks of the reader of graphs: four and many. -/
import Derived.Test.YtdhdbmfipkppiaaModR
namespace Go.Proofs.Ytdhdbmfipkppiaa
set_option linter.unusedSimpArgs false
set_option linter.unusedVariables false
set_option linter.unnecessarySimpa false
open Go.RowKit

/-- What stands when so many of four bytes are taken. -/
def acc4 (x y z u : Int) : Nat → Int
  | 0 => 0
  | 1 => x
  | 2 => 256 * x + y
  | 3 => 256 * (256 * x + y) + z
  | _ => s32 (256 * (256 * (256 * x + y) + z) + u)

theorem acc4_step {x y z u : Int} (hx : 0 ≤ x ∧ x ≤ 255) (hy : 0 ≤ y ∧ y ≤ 255) (hz : 0 ≤ z ∧ z ≤ 255) (hu : 0 ≤ u ∧ u ≤ 255) (k : Nat) (hk : k < 4) :
    bits .or .i32 (IntKind.i32.wrap (acc4 x y z u k * 256)) (IntKind.i32.wrap ([x, y, z, u][k]?.getD 0)) = acc4 x y z u (k + 1) ∧ 0 ≤ acc4 x y z u k ∧ acc4 x y z u k < 16777216 := by
  have hs : ∀ m : Int, 0 ≤ m → m < 2147483648 → s32 m = m := fun m h1 h2 => by unfold s32; rw [if_pos h2]
  rcases (by omega : k = 0 ∨ k = 1 ∨ k = 2 ∨ k = 3) with rfl | rfl | rfl | rfl
  · refine ⟨?_, by simp [acc4], by simp [acc4]⟩
    show bits .or .i32 (IntKind.i32.wrap (0 * 256)) (IntKind.i32.wrap x) = x
    rw [IntWalk.i32_in x (by omega), or_byte32 0 x (by omega) (by omega) hx.1 hx.2, hs _ (by omega) (by omega)]
    omega
  · refine ⟨?_, by simp only [acc4]; omega, by simp only [acc4]; omega⟩
    show bits .or .i32 (IntKind.i32.wrap (x * 256)) (IntKind.i32.wrap y) = 256 * x + y
    rw [IntWalk.i32_in y (by omega), or_byte32 x y (by omega) (by omega) hy.1 hy.2, hs _ (by omega) (by omega)]
  · refine ⟨?_, by simp only [acc4]; omega, by simp only [acc4]; omega⟩
    show bits .or .i32 (IntKind.i32.wrap ((256 * x + y) * 256)) (IntKind.i32.wrap z) = 256 * (256 * x + y) + z
    rw [IntWalk.i32_in z (by omega), or_byte32 (256 * x + y) z (by omega) (by omega) hz.1 hz.2, hs _ (by omega) (by omega)]
  · refine ⟨?_, by simp only [acc4]; omega, by simp only [acc4]; omega⟩
    show bits .or .i32 (IntKind.i32.wrap ((256 * (256 * x + y) + z) * 256)) (IntKind.i32.wrap u) = s32 (256 * (256 * (256 * x + y) + z) + u)
    rw [IntWalk.i32_in u (by omega), or_byte32 (256 * (256 * x + y) + z) u (by omega) (by omega) hu.1 hu.2]

set_option maxRecDepth 8000 in
set_option maxHeartbeats 1600000 in
theorem four_calls (w0 w : World) (B : Nat) (r : Rd) (h : Rr w0 w B r) :
    Calls Try.prog 96 #[.pointer (some ⟨B, 0, none⟩)] w (PsPost pFour (.int .i32) w0 B r w) := by
  have hn := next_calls w0 w B 4 r h (.inr (.inr (.inr rfl)))
  obtain ⟨x, y, z, u, hz⟩ := list4 (nxt_len 4 r)
  have hb := nxt_bytes 4 h.bytes
  rw [hz] at hb
  have hx := hb x (by simp)
  have hy := hb y (by simp)
  have hzz := hb z (by simp)
  have hu := hb u (by simp)
  have HP : Hid (∀ e w', (e = .returned (.int .i32 (acc4 x y z u 4)) ∧ Rr w0 w' B (nxt 4 r).2 ∧ w.grownBy w' (some B)) → PsPost pFour (.int .i32) w0 B r w e w') := fun e w' h => by
    refine ⟨?_, h.2⟩
    rw [h.1]
    show _ = Ending.returned (.int .i32 (s32 (16777216 * (nxt 4 r).1[0]?.getD 0 + 65536 * (nxt 4 r).1[1]?.getD 0 + 256 * (nxt 4 r).1[2]?.getD 0 + (nxt 4 r).1[3]?.getD 0)))
    rw [hz]
    simp only [List.getElem?_cons_zero, List.getElem?_cons_succ, Option.getD_some, acc4]
    rw [show 256 * (256 * (256 * x + y) + z) + u = 16777216 * x + 65536 * y + 256 * z + u from by omega]
  generalize PsPost pFour (.int .i32) w0 B r w = PP at *
  have HS := Lib.hid (acc4_step hx hy hzz hu)
  have hin : ∀ k, k < 4 → 0 ≤ [x, y, z, u][k]?.getD 0 ∧ [x, y, z, u][k]?.getD 0 ≤ 255 := fun k hk => by
    rcases (by omega : k = 0 ∨ k = 1 ∨ k = 2 ∨ k = 3) with rfl | rfl | rfl | rfl
    · exact hx
    · exact hy
    · exact hzz
    · exact hu
  have HI := Lib.hid hin
  have h0 : (0 : Int) = acc4 x y z u 0 := rfl
  have H0 := Lib.hid h0
  clear h0 hin
  generalize acc4 x y z u = ac at *
  go_enter Try.func96, Try.ntmps96
  go_wp2_with fail
  refine hn.mono ?_
  rintro e w1 ⟨v, rfl, hv, hr, hg⟩
  rw [hz] at hv
  have hlen : [x, y, z, u].length = 4 := rfl
  generalize [x, y, z, u] = l at *
  obtain ⟨A, c, rfl, h1, h2, hcell⟩ := id hv.form
  unfold maxLen at h2
  rw [hlen] at h1 hcell
  clear hz hn h hb hx hy hzz hu
  rw [hlen]
  go_wp2_with fail
  go_loopw [3, 9] (fun s i wr => ∃ k : Nat, k ≤ 4 ∧ i = .int .i64 k ∧ s = .int .i32 (ac k) ∧ w1 = wr) (fun _ i _ => 4 - (intOf i).toNat)
  case atStart => exact ⟨0, by omega, rfl, by rw [← H0.out], rfl⟩
  case round =>
    obtain ⟨k, hk, rfl, rfl, rfl⟩ := hrel
    by_cases hlt : k < 4
    · obtain ⟨b, off, rfl, x0⟩ := hcell k hlt
      obtain ⟨s1, s2, s3⟩ := HS.out k hlt
      obtain ⟨i1, i2⟩ := HI.out k hlt
      have HS1 := Lib.hid s1
      clear s1 hcell
      generalize l[k]?.getD 0 = t at *
      generalize ac k = m at *
      go_wp2_with fail

      go_roundw
      case rel => exact ⟨k + 1, by omega, by go_num, by rw [← HS1.out, IntWalk.i32_in t (by omega), IntWalk.i32_left], trivial⟩
      case measure => simp [intOf]; omega
    · obtain rfl : k = 4 := by omega
      go_wp2_with fail
      exact HP.out _ _ ⟨rfl, hr, hg⟩

/-- 'many': a closure, round by round, till it is bad. -/
theorem many_calls (J : Nat → Bool → World → Prop) (B n g : Nat) (lb : Array Value) (b0 : Bool) (w : World) (hn : n ≤ 70000) (h0 : J 0 b0 w) (eg : ∀ args w, (callFunc g args).run Try.prog w = .ok (.enter g args) w)
    (hc : ∀ k b W, J k b W → W.cell? ⟨B, 1, none⟩ = some (.bool b)) (hs : ∀ k W, k < n → J k false W → Calls Try.prog g lb W fun e w' => e = .returned (.tuple #[]) ∧ ∃ b, J (k + 1) b w') :
    Calls Try.prog 47 #[.pointer (some ⟨B, 0, none⟩), .int .i64 n, .func (.func g) #[] lb] w fun e w' => e = .returned (.tuple #[]) ∧ ∃ k b, k ≤ n ∧ J k b w' ∧ (k = n ∨ b = true) := by
  go_enter Try.func47, Try.ntmps47
  go_wp2_with fail
  go_loopw [7] (fun i wr => ∃ (k : Nat) (b : Bool), k ≤ n ∧ i = .int .i64 k ∧ J k b wr) (fun i _ => n - (intOf i).toNat)
  case atStart => exact ⟨0, b0, by omega, rfl, h0⟩
  case round =>
    obtain ⟨k, b, hk, rfl, hJ⟩ := hrel
    have c1 := hc k b wr hJ
    by_cases hlt : k < n
    · cases b with
      | true =>
        go_wp2_with fail
        refine bodyPost_ret (results_none rfl _ _ _) rfl ?_
        exact ⟨rfl, k, true, hk, hJ, .inr rfl⟩
      | false =>
        have hcall := hs k wr hlt hJ
        go_wp2_with (go_at_fn g; refine hcall.mono ?_; rintro e w' ⟨rfl, b', hb'⟩)
        go_roundw
        case rel => exact ⟨k + 1, b', by omega, by go_num, hb'⟩
        case measure => simp [intOf]; omega
    · have hkn : k = n := by omega
      go_wp2_with fail
      go_end0
      exact ⟨rfl, k, b, hk, hJ, .inl hkn⟩

end Go.Proofs.Ytdhdbmfipkppiaa
