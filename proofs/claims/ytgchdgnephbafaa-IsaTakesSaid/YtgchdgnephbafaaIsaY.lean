/- The reference's commands against the program's: plain words on lists. -/
import Derived.Test.YtgchdgnephbafaaIsaU
namespace Go.Proofs.Ytgchdgnephbafaa
open Go.RowKit

theorem numStep_pos {zs : List Int} {bad : Bool} {n : Nat} (h : n ≤ zs.length) : numStep zs bad n = (numOf (zs.take n), zs.drop n, bad) := by unfold numStep; rw [if_pos h]

theorem readF_cons_pos {zs cs : List Int} {bad : Bool} {x : Fd} {l : List Fd} (h : x.wide ≤ zs.length) : readF zs bad cs (x :: l) = readF (zs.drop x.wide) bad (cs.set x.at_ (numOf (zs.take x.wide))) l := by
  rw [readF, numStep_pos h]

theorem readF_short : ∀ (T : List Fd) (zs cs : List Int), zs.length < (T.map (·.wide)).sum → (readF zs false cs T).2.1 = true
  | [], zs, cs, h => by simp at h
  | x :: T, zs, cs, h => by
    rw [readF]
    by_cases hx : x.wide ≤ zs.length
    · rw [numStep_pos hx]
      refine readF_short T _ _ ?_
      simp only [List.map_cons, List.sum_cons] at h
      rw [List.length_drop]
      omega
    · have e : (numStep zs false x.wide).2.2 = true := by unfold numStep; rw [if_neg hx]
      rw [e]
      exact readF_bad T _ _

theorem wide_tbl {K : Int} (h1 : 1 ≤ K) (h7 : K ≤ 7) : wideZ K = 1 + ((tbl K).map (·.wide)).sum := by
  rcases (by omega : K = 1 ∨ K = 2 ∨ K = 3 ∨ K = 4 ∨ K = 5 ∨ K = 6 ∨ K = 7) with rfl | rfl | rfl | rfl | rfl | rfl | rfl <;> rfl

theorem wideZ_none {K : Int} (h : ¬ (1 ≤ K ∧ K ≤ 7)) : wideZ K = 0 := by
  unfold wideZ
  rw [if_neg (by omega), if_neg (by omega), if_neg (by omega), if_neg (by omega), if_neg (by omega)]

theorem wideZ_pos {K : Int} (h1 : 1 ≤ K) (h7 : K ≤ 7) : 1 ≤ wideZ K ∧ wideZ K ≤ 14 := by
  rcases (by omega : K = 1 ∨ K = 2 ∨ K = 3 ∨ K = 4 ∨ K = 5 ∨ K = 6 ∨ K = 7) with rfl | rfl | rfl | rfl | rfl | rfl | rfl <;> decide

theorem take1 {zs : List Int} (h : 0 < zs.length) : numOf (zs.take 1) = zs[0]?.getD 0 := by
  cases zs with
  | nil => cases h
  | cons z zs => simp [numOf]

theorem step_none {zs : List Int} (h : zs.length = 0 ∨ wideZ (zs[0]?.getD 0) = 0 ∨ zs.length < wideZ (zs[0]?.getD 0)) : stepOk (cmdStep zs false) = false := by
  by_cases h0 : zs.length = 0
  · have e : (numStep zs false 1).2.2 = true := by unfold numStep; rw [if_neg (by omega)]
    unfold stepOk cmdStep
    simp only [e, readF_bad]
    simp
  · have e := numStep_pos (zs := zs) (bad := false) (n := 1) (by omega)
    unfold stepOk cmdStep
    rw [e]
    simp only
    rw [take1 (by omega)]
    by_cases hk : (1 : Int) ≤ zs[0]?.getD 0 ∧ zs[0]?.getD 0 ≤ 7
    · have hw := wide_tbl hk.1 hk.2
      have hp := wideZ_pos hk.1 hk.2
      have hs := readF_short (tbl (zs[0]?.getD 0)) (zs.drop 1) (Cm.of (zs[0]?.getD 0)).l (by rw [List.length_drop]; omega)
      rw [hs]
      simp
    · have ho : okK (zs[0]?.getD 0) = false := by unfold okK; rw [decide_eq_false_iff_not]; exact hk
      rw [ho]
      rfl

theorem atZ_take {zs : List Int} {m k n : Nat} (h : k + n ≤ m) : atZ (zs.take m) k n = atZ zs k n := by
  unfold atZ
  rw [List.drop_take, List.take_take, Nat.min_eq_left (by omega)]

theorem step_some {zs : List Int} (h0 : 0 < zs.length) (hk : (1 : Int) ≤ zs[0]?.getD 0 ∧ zs[0]?.getD 0 ≤ 7) (hl : wideZ (zs[0]?.getD 0) ≤ zs.length) :
    cmdStep zs false = (zs.drop (wideZ (zs[0]?.getD 0)), false, refCs (zs.take (wideZ (zs[0]?.getD 0))), zs[0]?.getD 0) := by
  have hp := wideZ_pos hk.1 hk.2
  have ez : (zs.take (wideZ (zs[0]?.getD 0)))[0]?.getD 0 = zs[0]?.getD 0 := by rw [List.getElem?_take_of_lt (by omega)]
  unfold cmdStep refCs
  rw [numStep_pos (by omega), take1 h0]
  simp only [ez]
  generalize zs[0]?.getD 0 = K at *
  rcases (by omega : K = 1 ∨ K = 2 ∨ K = 3 ∨ K = 4 ∨ K = 5 ∨ K = 6 ∨ K = 7) with rfl | rfl | rfl | rfl | rfl | rfl | rfl
  · have hl' : 9 ≤ zs.length := hl
    simp only [show tbl 1 = [⟨4, 1, 1, 16⟩, ⟨5, 2, 1, 128⟩, ⟨6, 3, 0, 65535⟩, ⟨7, 2, 0, 1023⟩] from rfl, show wideZ 1 = 9 from rfl]
    rw [readF_cons_pos (by simp; omega), readF_cons_pos (by simp; omega), readF_cons_pos (by simp; omega), readF_cons_pos (by simp; omega)]
    simp (discharger := omega) only [atZ_take]
    simp [readF, List.drop_drop, Cm.of, Cm.l, atZ]
  · have hl' : 9 ≤ zs.length := hl
    simp only [show tbl 2 = [⟨4, 1, 1, 16⟩, ⟨5, 2, 1, 128⟩, ⟨6, 3, 0, 65535⟩, ⟨7, 2, 0, 1023⟩] from rfl, show wideZ 2 = 9 from rfl]
    rw [readF_cons_pos (by simp; omega), readF_cons_pos (by simp; omega), readF_cons_pos (by simp; omega), readF_cons_pos (by simp; omega)]
    simp (discharger := omega) only [atZ_take]
    simp [readF, List.drop_drop, Cm.of, Cm.l, atZ]
  · have hl' : 14 ≤ zs.length := hl
    simp only [show tbl 3 = [⟨2, 1, 0, 11⟩, ⟨3, 1, 0, 15⟩, ⟨4, 1, 1, 16⟩, ⟨7, 2, 0, 1023⟩, ⟨8, 2, 0, 1023⟩, ⟨10, 1, 0, 15⟩, ⟨12, 1, 0, 16⟩, ⟨9, 2, 0, 1023⟩, ⟨11, 1, 0, 15⟩, ⟨13, 1, 0, 16⟩] from rfl, show wideZ 3 = 14 from rfl]
    rw [readF_cons_pos (by simp; omega), readF_cons_pos (by simp; omega), readF_cons_pos (by simp; omega), readF_cons_pos (by simp; omega), readF_cons_pos (by simp; omega), readF_cons_pos (by simp; omega), readF_cons_pos (by simp; omega), readF_cons_pos (by simp; omega), readF_cons_pos (by simp; omega), readF_cons_pos (by simp; omega)]
    simp (discharger := omega) only [atZ_take]
    simp [readF, List.drop_drop, Cm.of, Cm.l, atZ]
  · have hl' : 3 ≤ zs.length := hl
    simp only [show tbl 4 = [⟨2, 1, 0, 11⟩, ⟨4, 1, 1, 16⟩] from rfl, show wideZ 4 = 3 from rfl]
    rw [readF_cons_pos (by simp; omega), readF_cons_pos (by simp; omega)]
    simp (discharger := omega) only [atZ_take]
    simp [readF, List.drop_drop, Cm.of, Cm.l, atZ]
  · have hl' : 2 ≤ zs.length := hl
    simp only [show tbl 5 = [⟨1, 1, 0, 7⟩] from rfl, show wideZ 5 = 2 from rfl]
    rw [readF_cons_pos (by simp; omega)]
    simp (discharger := omega) only [atZ_take]
    simp [readF, Cm.of, Cm.l, atZ]
  · have hl' : 2 ≤ zs.length := hl
    simp only [show tbl 6 = [⟨1, 1, 0, 7⟩] from rfl, show wideZ 6 = 2 from rfl]
    rw [readF_cons_pos (by simp; omega)]
    simp (discharger := omega) only [atZ_take]
    simp [readF, Cm.of, Cm.l, atZ]
  · simp only [show tbl 7 = [] from rfl, show wideZ 7 = 1 from rfl]
    simp [readF, Cm.of, Cm.l]

end Go.Proofs.Ytgchdgnephbafaa
