/- The walks of the reference's May and Clash of region. -/
import Derived.Test.YticfgkcdghbklaaRegM
namespace Go.Proofs.Yticfgkcdghbklaa
open Go.RowKit

set_option maxHeartbeats 800000 in
theorem refMay_calls (s : Sp) (w : World) : Calls Try.prog 37 #[s.v] w fun e w' => e = .returned (.int .i64 (mayE s)) ∧ Below w.heap.size w w' := by
  have HM : Hid (mayE s = if s.mem < 0 ∨ 2 ≤ s.mem then 1 else if s.frm < 0 ∨ s.to < s.frm ∨ memTop s.mem < s.to then 23 else 0) := rfl
  have hb1 : ∀ o, Below w.heap.size w (w.alloc o) := fun o => below_alloc (Below.refl _ _) (Nat.le_refl _) _
  obtain ⟨m, f, t, p⟩ := s
  simp only at HM
  generalize mayE ⟨m, f, t, p⟩ = r at *
  unfold Sp.v
  go_enter Try.func37, Try.ntmps37
  by_cases h1 : m < 0 ∨ 2 ≤ m
  · have HR : Hid (r = 1) := by show _ = _; rw [HM.out, if_pos h1]
    have n0 : m ≠ 0 := by omega
    have n1 : m ≠ 1 := by omega
    have q0 : (m != 0) = true := by simpa using n0
    have q1 : (m != 1) = true := by simpa using n1
    have q2 : (m == 1) = false := by simpa using n1
    go_wp2
    all_goals
      go_ret
      first | exact ⟨ret_int HR.out.symm, hb1 _⟩ | (exfalso; omega)
  · have hm : m = 0 ∨ m = 1 := by omega
    rcases hm with rfl | rfl
    · have HM : Hid (r = if f < 0 ∨ t < f ∨ 65536 < t then 23 else 0) := by
        have h := HM.out
        rw [if_neg h1] at h
        exact h
      clear h1
      go_wp2
      all_goals
        go_ret
        refine ⟨ret_int ?_, hb1 _⟩
        rw [HM.out]
        first | rw [if_pos (by omega)] | rw [if_neg (by omega)]
    · have HM : Hid (r = if f < 0 ∨ t < f ∨ 1024 < t then 23 else 0) := by
        have h := HM.out
        rw [if_neg h1] at h
        exact h
      clear h1
      go_wp2
      all_goals
        go_ret
        refine ⟨ret_int ?_, hb1 _⟩
        rw [HM.out]
        first | rw [if_pos (by omega)] | rw [if_neg (by omega)]

def overB (x y : Sp) : Bool := (x.mem == y.mem) && (x.wr || y.wr) && decide (max x.frm y.frm < min x.to y.to)

theorem over_meet (x y : Sp) : overB x y = meetB x y := by
  have h : decide (max x.frm y.frm < min x.to y.to) = (decide (x.frm < y.to) && decide (y.frm < x.to) && decide (x.frm < x.to) && decide (y.frm < y.to)) := by
    rw [Bool.eq_iff_iff]
    simp only [decide_eq_true_eq, Bool.and_eq_true]
    omega
  simp only [overB, meetB, h, Bool.and_assoc]

set_option maxHeartbeats 3200000 in
theorem refClash_calls (va vb : Value) (a b : List Sp) (w : World) (ha : Spans w va a) (hb : Spans w vb b) :
    Calls Try.prog 38 #[va, vb] w fun e w' => e = .returned (.bool (clashB a b)) ∧ Below w.heap.size w w' := by
  have ha0 := ha
  have hb0 := hb
  obtain ⟨A, c, rfl, hac, ham, _⟩ := ha.form
  obtain ⟨B, d, rfl, hbc, hbm, _⟩ := hb.form
  unfold maxLen at ham hbm
  clear ha hb
  go_enter Try.func38, Try.ntmps38
  go_wp2
  go_loopw [5, 6, 7, 8] (fun i _ _ _ wr => ∃ k : Nat, k ≤ a.length ∧ i = .int .i64 k ∧ Hid (clashB (a.take k) b = false) ∧ Below w.heap.size w wr) (fun i _ _ _ _ => a.length - (intOf i).toNat)
  case atStart => exact ⟨0, by omega, rfl, rfl, Below.refl _ _⟩
  case round =>
    obtain ⟨k, hk, rfl, hn, hbel⟩ := hrel
    by_cases hlt : k < a.length
    · have hs : a[k]? = some a[k] := by simp [hlt]
      have HS : Hid (b.any (fun y => meetB a[k] y) = false → clashB (a.take (k + 1)) b = false) := by
        show _ → _
        intro h
        have hn' : clashB (a.take k) b = false := hn.out
        unfold clashB at hn' ⊢
        rw [List.take_succ_eq_append_getElem hlt, List.any_append, hn']
        simpa using h
      have HT : Hid (b.any (fun y => meetB a[k] y) = true → clashB a b = true) := by
        show _ → _
        intro h
        unfold clashB
        exact List.any_eq_true.2 ⟨_, List.getElem_mem hlt, h⟩
      generalize a[k] = x at *
      go_wp2
      go_loopw [6, 7, 8] (fun j _ _ wr => ∃ m : Nat, m ≤ b.length ∧ j = .int .i64 m ∧ Hid ((b.take m).any (fun y => meetB x y) = false) ∧ Below w.heap.size w wr) (fun j _ _ _ => b.length - (intOf j).toNat)
      case atStart => exact ⟨0, by omega, rfl, rfl, hbel⟩
      case round =>
        obtain ⟨m, hm, rfl, hn2, hbel2⟩ := hrel
        clear hbel
        by_cases hlt2 : m < b.length
        · have hsz := hbel2.size
          obtain ⟨_, _, e1, _, _, hc⟩ := (ha0.below hbel2).form
          cases e1
          obtain ⟨_, _, e2, _, _, hd⟩ := (hb0.below hbel2).form
          cases e2
          have hs2 : b[m]? = some b[m] := by simp [hlt2]
          have HS2 : Hid (meetB x b[m] = false → (b.take (m + 1)).any (fun y => meetB x y) = false) := by
            show _ → _
            intro h
            rw [List.take_succ_eq_append_getElem hlt2, List.any_append, hn2.out]
            simpa using h
          have HT2 : Hid (meetB x b[m] = true → b.any (fun y => meetB x y) = true) := fun h => List.any_eq_true.2 ⟨_, List.getElem_mem hlt2, h⟩
          obtain ⟨b1, o1, rfl, x0, x1, x2, x3⟩ := hc k _ hs
          obtain ⟨b2, o2, rfl, y0, y1, y2, y3⟩ := hd m _ hs2
          have hl1 := World.block_lt_of_cell? _ _ x0
          have hl2 := World.block_lt_of_cell? _ _ y0
          have hl1 : b1 < wr.heap.size := hl1
          have hl2 : b2 < wr.heap.size := hl2
          have hn1 : b1 ≠ wr.heap.size := by omega
          have hn2' : b2 ≠ wr.heap.size := by omega
          clear hc hd hs2
          generalize b[m] = y at *
          rw [← over_meet] at HS2 HT2
          obtain ⟨xm, xf, xt, xw⟩ := x
          obtain ⟨ym, yf, yt, yw⟩ := y
          have hE : ∀ o o', Below w.heap.size w ((wr.alloc o).alloc o') := fun o o' => below_alloc (below_alloc hbel2 hsz _) (by simp; omega) _
          cases xw <;> cases yw
          all_goals
            go_wp2
          all_goals first
            | (go_ret
               exact ⟨ret_bool (HT.out (HT2.out (by simp [overB] <;> omega))).symm, hE _ _⟩)
            | (refine ⟨⟨m + 1, by omega, by go_num, HS2.out (by simp [overB] <;> omega), hE _ _⟩, ?_⟩
               simp [intOf]; omega)
        · have hmm : m = b.length := by omega
          have HE : Hid (clashB (a.take (k + 1)) b = false) := by
            refine HS.out ?_
            have := hn2.out
            rwa [hmm, List.take_length] at this
          go_wp2
          go_roundw
          case rel => exact ⟨k + 1, by omega, by go_num, HE, hbel2⟩
          case measure => simp [intOf]; omega
    · have hkk : k = a.length := by omega
      have HE : Hid (clashB a b = false) := by
        show _ = _
        have := hn.out
        rwa [hkk, List.take_length] at this
      go_wp2
      go_ret
      exact ⟨ret_bool HE.out.symm, hbel⟩

end Go.Proofs.Yticfgkcdghbklaa
