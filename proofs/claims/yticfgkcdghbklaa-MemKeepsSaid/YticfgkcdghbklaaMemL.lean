/- The walk of the law MemKeeps: the loops. -/
import Derived.Test.YticfgkcdghbklaaMemK
namespace Go.Proofs.Yticfgkcdghbklaa
open Go.RowKit

theorem grown_trans {a b c : World} {row : Option Nat} (h : a.grownBy b row) (k : b.grownBy c row) : a.grownBy c row :=
  ⟨k.os.trans h.os, k.tape.trans h.tape, k.output.trans h.output, Nat.le_trans h.size k.size, fun x hx hr => (k.block x (Nat.lt_of_lt_of_le hx h.size) hr).trans (h.block x hx hr)⟩
theorem grown_drew {a b : World} {row : Option Nat} (h : a.grownBy b row) : a.grownBy b.drew row := ⟨h.os, h.tape, h.output, h.size, h.block⟩

theorem own_len (B : Option Addr) (m m' cb : Nat) : (Value.slice B m cb).ownBlock = (Value.slice B m' cb).ownBlock := by cases B <;> rfl

set_option maxRecDepth 20000 in
set_option maxHeartbeats 12800000 in
theorem memKeeps_calls (va vl : Value) (a : List Int) (l : List OpM) (w : World) (ha : Ints .i8 w va a) (hl : Ops w vl l) :
    Calls Try.prog 7 #[va, vl] w fun e w' => e = .returned (.bool true) ∧ Below w.heap.size w w' := by
  obtain ⟨A, c, rfl, hac, ham, _⟩ := id ha
  obtain ⟨L, d, rfl, hld, hlm, _⟩ := id hl.form
  have ha1 := ha.first (m := min a.length 200) (by omega)
  have hla : (a.take (min a.length 200)).length = min a.length 200 := by rw [List.length_take]; omega
  generalize a.take (min a.length 200) = a1 at *
  unfold maxLen at ham hlm
  clear ha
  go_enter Try.func7, Try.ntmps7
  go_wp2_with fail
  refine (shown11_calls w).mono ?_
  rintro e w1 ⟨rfl, hE1⟩
  rcases Nat.lt_or_ge 200 a.length with hA | hA
  all_goals
    obtain ⟨N, hN⟩ : ∃ N, N = min a.length 200 := ⟨_, rfl⟩
    rw [← hN] at ha1 hla
    first
      | (have hN2 : N = 200 := by omega
         subst hN2)
      | (have hN2 : a.length = N := by omega
         rw [hN2] at hA ⊢
         clear hN2)
    clear hN
    have HLA := Lib.hid hla
    clear hla
    go_wp2_with fail
    refine (new_calls _ _ (by simp only [InK]; omega)).mono ?_
    rintro e w2 ⟨p, v, rfl, hm, hp1, hE2⟩
    rw [memSize_eq (m := a1.length) (by have := HLA.out; omega) (by have := HLA.out; omega)] at hm
    have hE : Below w.heap.size w w2 := hE1.trans (hE2.mono hE1.size)
    have hsz : w.heap.size ≤ w1.heap.size := hE1.size
    have er := Lib.hid (memErr_ok (n := (List.replicate a1.length 0 : List Int).length) (at_ := 0) (k := a1.length) (by rw [List.length_replicate]; exact ⟨by omega, by omega, by omega, by omega⟩))
    have e1 := Lib.hid (write_all (Z := (List.replicate a1.length 0 : List Int)) (l := a1) List.length_replicate)
    go_wp2_with fail
    refine (write_calls _ p v _ 0 _ a1 _ hm (by simp only [InK]; omega) (ha1.below hE)).mono ?_
    rintro e w3 ⟨rfl, hm3, hg⟩
    have hE3 := hm.wrote hE hsz hE.size hg
    rw [e1.out] at hm3
    rw [er.out]
    clear hm hE hg er e1
    go_wp2_with (at_builtin; refine stopped ?_)
    refine wpList_append_fresh rfl rfl elem_i8 rfl (ha1.below hE3) rfl (one_ints _ _) (by have := HLA.out; omega) (by have := HLA.out; omega) ?_
    intro v4 w4 hown hE4
    have hm4 := hm3.below hE4 (Nat.le_refl _)
    have hap : v4.ownBlock ≠ some p ∧ (v4.ownBlock = none ∨ v4.ownBlock ≠ v.ownBlock) ∧ (v.ownBlock = none ∨ v.ownBlock ≠ v4.ownBlock) := by
      obtain ⟨h1, h2⟩ := hm3.lt
      have h3 := fun k hk => (hown.lt k hk).1
      refine ⟨fun e => by have := h3 p e; omega, ?_, ?_⟩
      · cases hv4 : v4.ownBlock with
        | none => exact Or.inl rfl
        | some k => exact Or.inr fun e => by have := h2 k e.symm; have := h3 k hv4; omega
      · cases hv : v.ownBlock with
        | none => exact Or.inl rfl
        | some k => exact Or.inr fun e => by have := h2 k hv; have := h3 k e.symm; omega
    obtain ⟨s1, s2, s3⟩ := hap
    have hsz3 : w.heap.size ≤ w3.heap.size := hE3.size
    have hE4 := hE3.trans (hE4.mono hE3.size)
    obtain ⟨B, cb, rfl, hbc, hbm, hB⟩ := own_slice hown
    rw [HLA.out] at hown hbc hB ⊢
    rw [own_len B _ 0 cb] at s1 s2 s3
    unfold maxLen at hbm
    clear hm3 hE3
    go_wp2_with fail
    go_loopw [8] (fun i wr => ∃ j : Nat, ∃ zs : List Int, j ≤ l.length ∧ j ≤ 40 ∧ i = .int .i64 j ∧ Hid (zs.length = a1.length) ∧ MemAt wr w1.heap.size p v zs ∧ wr.ownsRow w3.heap.size 47 1 (.slice B _ cb) _ (zs.map (.int .i8)) ∧ Below w.heap.size w wr) (fun i _ => 40 - (intOf i).toNat)
    case atStart => exact ⟨0, a1, by omega, by omega, rfl, rfl, hm4, hown, hE4⟩
    case round =>
      obtain ⟨j, zs, hj, hj40, rfl, hzl, hm, hown, hbel⟩ := hrel
      clear hm4 hE4
      by_cases hlt : j < l.length ∧ j < 40
      · obtain ⟨hlt, hlt40⟩ := hlt
        have hs : l[j]? = some l[j] := by simp [hlt]
        have hl' := hl.below hbel
        obtain ⟨hy, hb1, hb2, hb3⟩ := hl.2 l[j] (List.getElem_mem hlt)
        obtain ⟨_, _, e1, _, _, hc⟩ := hl'.form
        cases e1
        obtain ⟨bo, oo, rfl, x0, x1, x2, x3⟩ := hc j _ hs
        have hl1 := World.block_lt_of_cell? _ _ x0
        have hl1 : bo < wr.heap.size := hl1
        have hn1 : bo ≠ wr.heap.size := by omega
        clear hc hs hl'
        generalize l[j] = o at *
        obtain ⟨at_, frm, n, lv, ys⟩ := o
        simp only at hy hb1 hb2 hb3 x0 x1 x2 x3
        obtain ⟨Y, cy, rfl, hyc, hym, _⟩ := id hy
        have hy1 := hy.first (m := min ys.length 100) (by omega)
        have hly : (ys.take (min ys.length 100)).length = min ys.length 100 := by rw [List.length_take]; omega
        generalize ys.take (min ys.length 100) = y1 at *
        unfold maxLen at hym
        simp only [InK] at hb1 hb2 hb3
        rcases Nat.lt_or_ge 100 ys.length with hY | hY
        all_goals
          obtain ⟨M, hM⟩ : ∃ M, M = min ys.length 100 := ⟨_, rfl⟩
          rw [← hM] at hy1 hly
          first
            | (have hM2 : M = 100 := by omega
               subst hM2)
            | (have hM2 : ys.length = M := by omega
               rw [hM2] at hY x3
               clear hM2)
          clear hM hy
          have HLY := Lib.hid hly
          clear hly
          have hcase : (0 ≤ at_ ∧ at_ ≤ (a1.length : Int) - y1.length) ∨ at_ < 0 ∨ (0 ≤ at_ ∧ (a1.length : Int) - y1.length < at_) := by omega
          obtain ⟨MM, hMM⟩ : ∃ MM, y1.length = MM := ⟨_, rfl⟩
          rw [HLA.out, hMM] at hcase
          have hW : Below wr.heap.size wr (wr.alloc (.cells #[.int .i64 at_, .int .i64 frm, .int .i64 n, .slice Y MM cy] 46)) := below_alloc (Below.refl _ _) (Nat.le_refl _) _
          have hWw := hbel.trans (hW.mono hbel.size)
          have hmo := hm.below hW (Nat.le_refl _)
          have hmlt := hm.lt
          have hownO := hown.alloc (.cells #[.int .i64 at_, .int .i64 frm, .int .i64 n, .slice Y MM cy] 46)
          have hyo := hy1.below hWw
          have z0 : (wr.alloc (.cells #[.int .i64 at_, .int .i64 frm, .int .i64 n, .slice Y MM cy] 46)).cell? ⟨wr.heap.size, 0, none⟩ = some (.int .i64 at_) := by
            rw [cell_of_row _ _ 0 _ _ _ (heap_alloc_new wr _)]; rfl
          have z3 : (wr.alloc (.cells #[.int .i64 at_, .int .i64 frm, .int .i64 n, .slice Y MM cy] 46)).cell? ⟨wr.heap.size, 3, none⟩ = some (.slice Y MM cy) := by
            rw [cell_of_row _ _ 3 _ _ _ (heap_alloc_new wr _)]; rfl
          have hvne : some wr.heap.size ≠ v.ownBlock := fun e => by have := hmlt.2 _ e.symm; omega
          have hbne : some wr.heap.size ≠ (Value.slice B 0 cb).ownBlock := fun e => by
            cases B with
            | none => cases e
            | some ad => have := (hown.lt wr.heap.size e.symm).2; omega
          have hcs : wr.heap.size ≤ (wr.alloc (.cells #[.int .i64 at_, .int .i64 frm, .int .i64 n, .slice Y MM cy] 46)).heap.size := by simp
          have hcl : wr.heap.size < (wr.alloc (.cells #[.int .i64 at_, .int .i64 frm, .int .i64 n, .slice Y MM cy] 46)).heap.size := by simp
          have hMe := hMM.symm.trans HLY.out
          clear hMM
          subst hMe
          try rw [show ((200 : Nat) : Int) = 200 from rfl] at hcase
          try rw [show ((100 : Nat) : Int) = 100 from rfl] at hcase
          try rw [show (200 : Int) - 100 = 100 from rfl] at hcase
          rcases hcase with hf | hf | hf
          · obtain ⟨f1, f2⟩ := hf
            obtain ⟨q, rfl⟩ := Int.eq_ofNat_of_zero_le f1
            have hqf : q + y1.length ≤ zs.length := by have := HLA.out; have := HLY.out; have := hzl.out; omega
            have er := Lib.hid (memErr_ok (n := zs.length) (at_ := q) (k := y1.length) ⟨by omega, by omega, by omega, by omega⟩)
            have HWR : Hid (writeAt zs q y1 = splice zs q y1) := by
              show _ = _
              unfold writeAt
              rw [if_pos ⟨by omega, by omega, by omega, by omega⟩, Int.toNat_natCast]
            have hqf := Lib.hid hqf
            go_wp2_with fail
            refine (write_calls _ p v zs q _ y1 _ hmo (by simp only [InK]; omega) hyo).mono ?_
            rintro e w5 ⟨rfl, hm5, hg⟩
            have hown5 := hownO.kept hg (by rw [own_len B _ 0 cb]; exact s2)
            have hy5 := hy1.keep hsz hmo.2.1 hyo hg
            have hb5 := hmo.wrote hWw hsz hWw.size hg
            have w50 := hg.cell z0 hvne
            have w53 := hg.cell z3 hvne
            have hcl5 : wr.heap.size < w5.heap.size := Nat.lt_of_lt_of_le hcl hg.size
            rw [er.out]
            clear hmo hownO hyo hW hWw hcs hg er hvne z0 z3
            go_wp2_with fail
            go_loopw [11] (fun k wr2 => ∃ i : Nat, i ≤ y1.length ∧ k = .int .i64 i ∧ wr2.ownsRow w3.heap.size 47 1 (.slice B _ cb) _ ((splice zs q (y1.take i)).map (.int .i8)) ∧ w5.grownBy wr2 (Value.slice B 0 cb).ownBlock) (fun k _ => y1.length - (intOf k).toNat)
            case atStart => exact ⟨0, by omega, rfl, by rw [List.take_zero, splice_none]; exact hown5, World.grownBy.refl _ _⟩
            case round =>
              obtain ⟨i, hi, rfl, ho, hgr⟩ := hrel
              by_cases hlt3 : i < y1.length
              · have n1 := hzl.out
                have n2 := HLA.out
                have n3 := HLY.out
                have n4 := hqf.out
                obtain ⟨g, rfl, hgB⟩ := hB (by omega)
                have hyw := hy1.keep hsz3 hown5 hy5 hgr
                obtain ⟨Y', _, e1, _, _, hcy⟩ := hyw.form
                injection e1 with e3 e4 e5
                clear e4 e5
                subst e3
                obtain ⟨by_, oy, rfl, c0⟩ := hcy i hlt3
                have hsl : (splice zs q (y1.take i)).length = zs.length := length_splice _ _ _ (by rw [List.length_take]; omega)
                have hx1 : wr.cell? ⟨g, q + i, none⟩ = some (.int .i8 ((splice zs q (y1.take i))[q + i]?.getD 0)) := by
                  have h := ho.cells (g := g) rfl (q + i) (.int .i8 ((splice zs q (y1.take i))[q + i]?.getD 0)) (by
                    rw [List.getElem?_map]
                    have : q + i < (splice zs q (y1.take i)).length := by omega
                    simp [this])
                  rwa [add_lit, Nat.zero_add] at h
                have hx3 := ho.frozenAt (q + i)
                have z0' := hgr.cell w50 hbne
                have z3' := hgr.cell w53 hbne
                have HSN := Lib.hid (splice_snoc (zs := zs) (p := q) n4 hlt3)
                have hk0 : (0 : Int) ≤ (i : Int) := by omega
                have hq0 : (0 : Int) ≤ (q : Int) + (i : Int) := by omega
                have hqw : IntKind.i64.wrap ((q : Int) + (i : Int)) = (q : Int) + (i : Int) := IntWalk.i64_in _ (by omega)
                have hqn : ((q : Int) + (i : Int)).toNat = q + i := by omega
                have hi1 : (i : Int) < y1.length := by omega
                have hi2 : (q : Int) + (i : Int) < zs.length := by omega
                rw [n3] at hi1
                try rw [show ((100 : Nat) : Int) = 100 from rfl] at hi1
                rw [n1, n2] at hi2
                try rw [show ((200 : Nat) : Int) = 200 from rfl] at hi2
                generalize y1[i]?.getD 0 = y at *
                generalize (splice zs q (y1.take i))[q + i]?.getD 0 = sx at *
                clear hcy n1 n2 n3 n4 hsl
                go_wp2_with fail
                go_region
                have hst := ho.stored (q + i) (.int .i8 y)
                have hs1 := ownsRow_drew hst.1
                have hg7 : w5.grownBy (wr.setCell ⟨g, q + i, none⟩ (.int .i8 y)).drew (Value.slice (some ⟨g, 0, none⟩) 0 cb).ownBlock := grown_drew (grown_trans hgr hst.2)
                rw [← List.map_set, HSN.out] at hs1
                clear hst ho hgr hx1 hx3 z0' z3' c0 hyw
                generalize (wr.setCell ⟨g, q + i, none⟩ (.int .i8 y)).drew = w7 at *
                go_wp2_with fail
                go_roundw
                case rel => exact ⟨i + 1, by omega, by go_num, hs1, hg7⟩
                case measure => simp [intOf]; omega
              · have hii : i = y1.length := by omega
                have hi1 : ¬ ((i : Int) < (y1.length : Int)) := by omega
                rw [HLY.out] at hi1
                try rw [show ((100 : Nat) : Int) = 100 from rfl] at hi1
                have HII := Lib.hid hii
                clear hii hlt3
                rw [HII.out, List.take_length] at ho
                obtain ⟨zq, hzq⟩ : ∃ zq, zq = splice zs q y1 := ⟨_, rfl⟩
                have hzF : Hid (zq.length = a1.length) := by
                  show _ = _
                  rw [hzq, length_splice _ _ _ hqf.out]
                  exact hzl.out
                have hmF := hm5.grown hgr s1 s3
                rw [HWR.out, ← hzq] at hmF
                rw [← hzq] at ho
                have hoF := ho
                have hbF := below_own hb5 hb5.size hown5 hsz3 (by rw [own_len B _ 0 cb]; exact hgr)
                have z3' := hgr.cell w53 hbne
                clear hzq ho hm5 hgr hown5 hb5 w50 w53 HWR hzl hqf hy5 hm hown
                have F1 := readAt_all zq a1.length (by rw [hzF.out])
                have F2 := memErr_ok (n := zq.length) (at_ := 0) (k := a1.length) (by rw [hzF.out]; exact ⟨by omega, by omega, by omega, by omega⟩)
                rw [HLA.out] at F1 F2
                try rw [show ((200 : Nat) : Int) = 200 from rfl] at F1 F2
                have F1 := Lib.hid F1
                have F2 := Lib.hid F2
                have hnl : a1.length ≤ 200 := by have := HLA.out; omega
                go_wp2_with fail
                refine (read_calls _ p v zq 0 _ _ hmF (by simp only [InK]; omega) (by simp only [InK]; omega)).mono ?_
                intro e w8 h
                obtain ⟨u8, rfl, hi8, hE8⟩ := h.ints
                rw [F1.out] at hi8
                rw [F2.out]
                have hm8 := hmF.below hE8 (Nat.le_refl _)
                have ho8 := hoF.kept (grown_of_ext hE8) (by cases hq : (Value.slice B 0 cb).ownBlock <;> (rw [own_len B _ 0 cb, hq]; simp))
                have hb8 := hbF.trans (hE8.mono hbF.size)
                clear h hmF hoF hbF hE8 F1 F2
                go_wp2_with fail
                refine (same_calls _ _ zq zq _ hi8 (ints_of_own ho8)).mono ?_
                rintro e w9 ⟨rfl, hE9⟩
                rw [decide_eq_true (rfl : zq = zq)]
                have hm9 := hm8.below hE9 (Nat.le_refl _)
                have ho9 := ho8.kept (grown_of_ext hE9) (by cases hq : (Value.slice B 0 cb).ownBlock <;> (rw [own_len B _ 0 cb, hq]; simp))
                have hb9 := hb8.trans (hE9.mono hb8.size)
                clear hm8 ho8 hb8 hE9 hi8
                go_wp2_with fail
                go_roundw
                case rel => exact ⟨j + 1, zq, by omega, by omega, by go_num, hzF, hm9, ho9, hb9⟩
                case measure => simp [intOf]; omega
          · have hnf : ¬ Fits zs.length at_ y1.length := by
              have := hzl.out
              have := HLA.out
              have := HLY.out
              unfold Fits
              omega
            have er := Lib.hid (show memErr zs.length at_ y1.length = 23 from if_neg hnf)
            have HWR : Hid (writeAt zs at_ y1 = zs) := if_neg hnf
            clear hnf
            go_wp2_with fail
            refine (write_calls _ p v zs at_ _ y1 _ hmo (by simp only [InK]; omega) hyo).mono ?_
            rintro e w5 ⟨rfl, hm5, hg⟩
            have hown5 := hownO.kept hg (by rw [own_len B _ 0 cb]; exact s2)
            have hb5 := hmo.wrote hWw hsz hWw.size hg
            have w53 := hg.cell z3 hvne
            rw [er.out]
            rw [HWR.out] at hm5
            clear hmo hownO hyo hW hWw hcs hg er hvne z0 z3 HWR
            go_wp2_with fail
            go_loop [11] (fun k => k = .int .i64 0) (fun _ => 0)
            case atStart => rfl
            case round =>
              obtain rfl := hrel
              obtain ⟨zq, hzq⟩ : ∃ zq, zq = zs := ⟨_, rfl⟩
              rw [← hzq] at hzl hm5 hown5
              clear hzq
              have hmF := hm5
              have hoF := hown5
              have hzF := hzl
              have hbF := hb5
              clear hm5 hown5 hzl hb5 hm hown
              have hM0 : (0 : Int) < (y1.length : Int) ∨ ¬ (0 : Int) < (y1.length : Int) := by omega
              rw [HLY.out] at hM0
              try rw [show ((100 : Nat) : Int) = 100 from rfl] at hM0
              rcases hM0 with hM0 | hM0
              all_goals try (exfalso; omega)
              all_goals
                have F1 := readAt_all zq a1.length (by rw [hzF.out])
                have F2 := memErr_ok (n := zq.length) (at_ := 0) (k := a1.length) (by rw [hzF.out]; exact ⟨by omega, by omega, by omega, by omega⟩)
                rw [HLA.out] at F1 F2
                try rw [show ((200 : Nat) : Int) = 200 from rfl] at F1 F2
                have F1 := Lib.hid F1
                have F2 := Lib.hid F2
                have hnl : a1.length ≤ 200 := by have := HLA.out; omega
                go_wp2_with fail
                refine (read_calls _ p v zq 0 _ _ hmF (by simp only [InK]; omega) (by simp only [InK]; omega)).mono ?_
                intro e w8 h
                obtain ⟨u8, rfl, hi8, hE8⟩ := h.ints
                rw [F1.out] at hi8
                rw [F2.out]
                have hm8 := hmF.below hE8 (Nat.le_refl _)
                have ho8 := hoF.kept (grown_of_ext hE8) (by cases hq : (Value.slice B 0 cb).ownBlock <;> (rw [own_len B _ 0 cb, hq]; simp))
                have hb8 := hbF.trans (hE8.mono hbF.size)
                clear h hmF hoF hbF hE8 F1 F2
                go_wp2_with fail
                refine (same_calls _ _ zq zq _ hi8 (ints_of_own ho8)).mono ?_
                rintro e w9 ⟨rfl, hE9⟩
                rw [decide_eq_true (rfl : zq = zq)]
                have hm9 := hm8.below hE9 (Nat.le_refl _)
                have ho9 := ho8.kept (grown_of_ext hE9) (by cases hq : (Value.slice B 0 cb).ownBlock <;> (rw [own_len B _ 0 cb, hq]; simp))
                have hb9 := hb8.trans (hE9.mono hb8.size)
                clear hm8 ho8 hb8 hE9 hi8
                go_wp2_with fail
                go_roundw
                case rel => exact ⟨j + 1, zq, by omega, by omega, by go_num, hzF, hm9, ho9, hb9⟩
                case measure => simp [intOf]; omega
          · obtain ⟨f1, f2⟩ := hf
            have hnf : ¬ Fits zs.length at_ y1.length := by
              have := hzl.out
              have := HLA.out
              have := HLY.out
              unfold Fits
              omega
            have er := Lib.hid (show memErr zs.length at_ y1.length = 23 from if_neg hnf)
            have HWR : Hid (writeAt zs at_ y1 = zs) := if_neg hnf
            clear hnf
            go_wp2_with fail
            refine (write_calls _ p v zs at_ _ y1 _ hmo (by simp only [InK]; omega) hyo).mono ?_
            rintro e w5 ⟨rfl, hm5, hg⟩
            have hown5 := hownO.kept hg (by rw [own_len B _ 0 cb]; exact s2)
            have hb5 := hmo.wrote hWw hsz hWw.size hg
            have w53 := hg.cell z3 hvne
            rw [er.out]
            rw [HWR.out] at hm5
            clear hmo hownO hyo hW hWw hcs hg er hvne z0 z3 HWR
            go_wp2_with fail
            go_loop [11] (fun k => k = .int .i64 0) (fun _ => 0)
            case atStart => rfl
            case round =>
              obtain rfl := hrel
              obtain ⟨zq, hzq⟩ : ∃ zq, zq = zs := ⟨_, rfl⟩
              rw [← hzq] at hzl hm5 hown5
              clear hzq
              have hmF := hm5
              have hoF := hown5
              have hzF := hzl
              have hbF := hb5
              clear hm5 hown5 hzl hb5 hm hown
              have hM0 : (0 : Int) < (y1.length : Int) ∨ ¬ (0 : Int) < (y1.length : Int) := by omega
              rw [HLY.out] at hM0
              try rw [show ((100 : Nat) : Int) = 100 from rfl] at hM0
              rcases hM0 with hM0 | hM0
              all_goals try (exfalso; omega)
              all_goals
                have F1 := readAt_all zq a1.length (by rw [hzF.out])
                have F2 := memErr_ok (n := zq.length) (at_ := 0) (k := a1.length) (by rw [hzF.out]; exact ⟨by omega, by omega, by omega, by omega⟩)
                rw [HLA.out] at F1 F2
                try rw [show ((200 : Nat) : Int) = 200 from rfl] at F1 F2
                have F1 := Lib.hid F1
                have F2 := Lib.hid F2
                have hnl : a1.length ≤ 200 := by have := HLA.out; omega
                go_wp2_with fail
                refine (read_calls _ p v zq 0 _ _ hmF (by simp only [InK]; omega) (by simp only [InK]; omega)).mono ?_
                intro e w8 h
                obtain ⟨u8, rfl, hi8, hE8⟩ := h.ints
                rw [F1.out] at hi8
                rw [F2.out]
                have hm8 := hmF.below hE8 (Nat.le_refl _)
                have ho8 := hoF.kept (grown_of_ext hE8) (by cases hq : (Value.slice B 0 cb).ownBlock <;> (rw [own_len B _ 0 cb, hq]; simp))
                have hb8 := hbF.trans (hE8.mono hbF.size)
                clear h hmF hoF hbF hE8 F1 F2
                go_wp2_with fail
                refine (same_calls _ _ zq zq _ hi8 (ints_of_own ho8)).mono ?_
                rintro e w9 ⟨rfl, hE9⟩
                rw [decide_eq_true (rfl : zq = zq)]
                have hm9 := hm8.below hE9 (Nat.le_refl _)
                have ho9 := ho8.kept (grown_of_ext hE9) (by cases hq : (Value.slice B 0 cb).ownBlock <;> (rw [own_len B _ 0 cb, hq]; simp))
                have hb9 := hb8.trans (hE9.mono hb8.size)
                clear hm8 ho8 hb8 hE9 hi8
                go_wp2_with fail
                go_roundw
                case rel => exact ⟨j + 1, zq, by omega, by omega, by go_num, hzF, hm9, ho9, hb9⟩
                case measure => simp [intOf]; omega
      · have hend : ¬ (j < l.length) ∨ (j < l.length ∧ ¬ j < 40) := by omega
        clear hlt
        rcases hend with h1 | ⟨h1, h2⟩
        all_goals
          go_wp2_with fail
          refine (size_calls _ p v zs _ hm).mono ?_
          rintro e w9 ⟨rfl, rfl⟩
          rw [hzl.out, HLA.out]
          go_wp2_with fail
          go_ret
          exact ⟨rfl, hbel⟩

end Go.Proofs.Yticfgkcdghbklaa
