/- The walks of in and May of the reference of commands. -/
/- The walk of Put of the reference of commands, and of the law IsaPuts. -/
import Derived.Test.YtdhdbmfipkppiaaGreatNsaM
import Derived.Test.YtdhdbmfipkppiaaGreatNsaB
import Derived.Deep.DeepCutAuto
import Derived.Deep.CutBlock
import Derived.Test.YtdhdbmfipkppiaaGreatNsaJ
set_option linter.unusedSimpArgs false
set_option linter.unusedVariables false
set_option linter.unnecessarySimpa false
namespace Go.Proofs.YtdhdbmfipkppiaaGreat.Isa
set_option maxRecDepth 10000
open Go.RowKit

theorem setRow_grownH (w : World) (g : Nat) (cs : Array Value) : w.grownBy (w.setRow g cs) (some g) := ⟨rfl, rfl, rfl, by simp, fun k _ hk => setRow_other w g k cs (fun e => hk (by rw [e]))⟩

def inB (x lo hi : Int) : Bool := decide (lo ≤ x ∧ x ≤ hi)

theorem in_calls (x lo hi : Int) (w : World) : Calls Tryz.prog 76 #[.int .i64 x, .int .i64 lo, .int .i64 hi] w fun e w' => e = .returned (.bool (inB x lo hi)) ∧ w = w' := by
  have hI : Hid (inB x lo hi = decide (lo ≤ x ∧ x ≤ hi)) := rfl
  generalize inB x lo hi = q at *
  by_cases h1 : lo ≤ x
  · go_enter Tryz.func76, Tryz.ntmps76
    go_wp2
    go_ret
    exact ⟨ret_bool (by rw [hI.out, Bool.eq_iff_iff]; simp; omega), rfl⟩
  · go_enter Tryz.func76, Tryz.ntmps76
    go_wp2
    go_ret
    exact ⟨ret_bool (by rw [hI.out, Bool.eq_iff_iff]; simp; omega), rfl⟩

/-- What the reference looks at, kind by kind. -/
def looks (c : Cm) : Bool :=
  if c.k = 1 ∨ c.k = 2 then inB c.r 1 16 && inB c.o 1 128 && inB c.d 0 65535 && inB c.p 0 1023
  else if c.k = 3 then inB c.n 0 11 && inB c.f 0 15 && inB c.r 1 16 && inB c.p 0 1023 && (inB c.i0 0 1023 && inB c.b0 0 15 && inB c.h0 0 16) && (inB c.i1 0 1023 && inB c.b1 0 15 && inB c.h1 0 16)
  else if c.k = 4 then inB c.n 0 11 && inB c.r 1 16
  else if c.k = 5 ∨ c.k = 6 then inB c.s 0 7
  else inB c.k 1 7

def rest (c : Cm) : Cm :=
  if c.k = 1 ∨ c.k = 2 then { c with r := 0, o := 0, d := 0, p := 0 }
  else if c.k = 3 then { Cm.of c.k with s := c.s, o := c.o, d := c.d }
  else if c.k = 4 then { c with n := 0, r := 0 }
  else if c.k = 5 ∨ c.k = 6 then { c with s := 0 }
  else c

theorem mayB_looks (c : Cm) : mayB c = (looks c && decide (rest c = Cm.of c.k)) := by
  have ext : ∀ a b : Cm, a = b ↔ a.k = b.k ∧ a.s = b.s ∧ a.n = b.n ∧ a.f = b.f ∧ a.r = b.r ∧ a.o = b.o ∧ a.d = b.d ∧ a.p = b.p ∧ a.i0 = b.i0 ∧ a.i1 = b.i1 ∧ a.b0 = b.b0 ∧ a.b1 = b.b1 ∧ a.h0 = b.h0 ∧ a.h1 = b.h1 := by
    intro a b
    constructor
    · rintro rfl; simp
    · obtain ⟨k, s, n, f, r, o, d, p, i0, i1, b0, b1, h0, h1⟩ := a
      obtain ⟨k', s', n', f', r', o', d', p', i0', i1', b0', b1', h0', h1'⟩ := b
      simp only
      rintro ⟨rfl, rfl, rfl, rfl, rfl, rfl, rfl, rfl, rfl, rfl, rfl, rfl, rfl, rfl⟩
      rfl
  rw [Bool.eq_iff_iff, Bool.and_eq_true, decide_eq_true_iff]
  by_cases h1 : c.k = 1 ∨ c.k = 2
  · rw [mayB_load h1]
    unfold looks rest
    rw [if_pos h1, if_pos h1, ext]
    simp only [inB, Cm.of, Bool.and_eq_true, decide_eq_true_iff, true_and]
    omega
  · by_cases h3 : c.k = 3
    · rw [mayB_tile h3]
      unfold looks rest
      rw [if_neg h1, if_pos h3, if_neg h1, if_pos h3, ext]
      simp only [inB, Cm.of, Bool.and_eq_true, decide_eq_true_iff, true_and, and_true]
      omega
    · by_cases h4 : c.k = 4
      · rw [mayB_kernel h4]
        unfold looks rest
        rw [if_neg h1, if_neg h3, if_pos h4, if_neg h1, if_neg h3, if_pos h4, ext]
        simp only [inB, Cm.of, Bool.and_eq_true, decide_eq_true_iff, true_and]
      · by_cases h5 : c.k = 5 ∨ c.k = 6
        · rw [mayB_sem h5]
          unfold looks rest
          rw [if_neg h1, if_neg h3, if_neg h4, if_pos h5, if_neg h1, if_neg h3, if_neg h4, if_pos h5, ext]
          simp only [inB, Cm.of, decide_eq_true_iff, true_and]
        · unfold looks rest
          rw [if_neg h1, if_neg h3, if_neg h4, if_neg h5, if_neg h1, if_neg h3, if_neg h4, if_neg h5, ext]
          simp only [inB, Cm.of, decide_eq_true_iff, true_and]
          by_cases h7 : c.k = 7
          · rw [mayB_halt h7]
            omega
          · rw [mayB_none (by omega)]
            simp <;> omega

theorem cells_one (l : List Int) : ((l.map (Value.int .i64)).toArray.all (fun x => x.oneCell')) = true := by
  rw [Array.all_eq_true_iff_forall_mem]
  intro x hx
  simp only [List.mem_toArray, List.mem_map] at hx
  obtain ⟨z, _, rfl⟩ := hx
  rfl

def accB (g : Bool) (i0 i1 b0 b1 h0 h1 : Int) : Nat → Bool
  | 0 => g
  | 1 => g && (inB i0 0 1023 && inB b0 0 15 && inB h0 0 16)
  | _ => (g && (inB i0 0 1023 && inB b0 0 15 && inB h0 0 16)) && (inB i1 0 1023 && inB b1 0 15 && inB h1 0 16)

def restOk (c : Cm) : Bool := decide (rest c = Cm.of c.k)

set_option maxRecDepth 20000 in
set_option maxHeartbeats 6400000 in
theorem refMay_core (C : Cm) (k s n f r o d p i0 i1 b0 b1 h0 h1 : Int) (HC : Hid (C = ⟨k, s, n, f, r, o, d, p, i0, i1, b0, b1, h0, h1⟩)) (w : World) :
    Calls Tryz.prog 49 #[.agg #[.int .i64 k, .int .i64 s, .int .i64 n, .int .i64 f, .int .i64 r, .int .i64 o, .int .i64 d, .int .i64 p, .int .i64 i0, .int .i64 i1, .int .i64 b0, .int .i64 b1, .int .i64 h0, .int .i64 h1]] w fun e w' => e = .returned (.int .i64 (mayE C)) ∧ Below w.heap.size w w' := by
  have HM : Hid (mayE C = if (looks C && restOk C) then 0 else 1) := by
    show _ = _
    unfold mayE
    rw [mayB_looks]
    rfl
  generalize mayE C = me at *
  have hbox := cbox_new w ⟨k, s, n, f, r, o, d, p, i0, i1, b0, b1, h0, h1⟩
  have hnew := below_alloc (Below.refl w.heap.size w) (Nat.le_refl _) (.cells #[.int .i64 k, .int .i64 s, .int .i64 n, .int .i64 f, .int .i64 r, .int .i64 o, .int .i64 d, .int .i64 p, .int .i64 i0, .int .i64 i1, .int .i64 b0, .int .i64 b1, .int .i64 h0, .int .i64 h1] 75)
  simp only at hbox
  go_enter Tryz.func49, Tryz.ntmps49
  go_wp2_with fail
  generalize w.alloc _ = w0 at *
  refine (in_calls _ _ _ _).mono ?_
  rintro e w' ⟨rfl, rfl⟩
  obtain ⟨x0, x1, x2, x3, x4, x5, x6, x7, x8, x9, x10, x11, x12, x13⟩ := hbox.all
  have fz := hbox.frozen
  go_upto_block 0 with fail
  go_cut [3] (fun s3 wx => s3 = .bool (looks C) ∧ CBox wx w.heap.size (rest C).l ∧ Below w.heap.size w wx)
  case first =>
    by_cases h12 : k = 1 ∨ k = 2
    · have HL : Hid (looks C = (inB r 1 16 && inB o 1 128 && inB d 0 65535 && inB p 0 1023)) := by show _ = _; rw [HC.out]; exact if_pos h12
      have HR : Hid ((rest C).l = [k, s, n, f, 0, 0, 0, 0, i0, i1, b0, b1, h0, h1]) := by show _ = _; rw [HC.out]; unfold rest; rw [if_pos h12]; rfl
      have e1 := ((((hbox.set 4 0).set 5 0).set 6 0).set 7 0)
      have e2 := (((hnew.setCell (p := ⟨w.heap.size, 4, none⟩) (Nat.le_refl _) (.int .i64 0)).setCell (p := ⟨w.heap.size, 5, none⟩) (Nat.le_refl _) (.int .i64 0)).setCell (p := ⟨w.heap.size, 6, none⟩) (Nat.le_refl _) (.int .i64 0)).setCell (p := ⟨w.heap.size, 7, none⟩) (Nat.le_refl _) (.int .i64 0)
      clear hbox hnew
      rcases h12 with rfl | rfl
      all_goals
        go_wp2_with (with_reducible refine (in_calls _ _ _ _).mono ?_; rintro e w' ⟨rfl, rfl⟩)
        all_goals
          go_meet
          exact ⟨congrArg Value.bool (by rw [HL.out]; simp only [*, Bool.and_true, Bool.true_and, Bool.and_false, Bool.false_and]), by rw [HR.out]; exact e1, e2⟩
    · by_cases h3 : k = 3
      · have HL : Hid (looks C = (inB n 0 11 && inB f 0 15 && inB r 1 16 && inB p 0 1023 && (inB i0 0 1023 && inB b0 0 15 && inB h0 0 16) && (inB i1 0 1023 && inB b1 0 15 && inB h1 0 16))) := by
          show _ = _; rw [HC.out]; unfold looks; rw [if_neg h12, if_pos h3]
        have HR : Hid ((rest C).l = [k, s, 0, 0, 0, o, d, 0, 0, 0, 0, 0, 0, 0]) := by show _ = _; rw [HC.out]; unfold rest; rw [if_neg h12, if_pos h3]; rfl
        subst h3
        clear h12
        go_upto_region 12 with fail
        go_cut [3] (fun s3 wx => s3 = .bool (inB n 0 11 && inB f 0 15 && inB r 1 16 && inB p 0 1023) ∧ w0 = wx)
        case first =>
          go_wp2_with (with_reducible refine (in_calls _ _ _ _).mono ?_; rintro e w' ⟨rfl, rfl⟩)
          all_goals
            go_meet
            exact ⟨congrArg Value.bool (by simp only [*, Bool.and_true, Bool.true_and, Bool.and_false, Bool.false_and]), rfl⟩
        obtain ⟨rfl, rfl⟩ := hcut
        generalize (inB n 0 11 && inB f 0 15 && inB r 1 16 && inB p 0 1023) = g0 at *
        have HA0 : Hid (accB g0 i0 i1 b0 b1 h0 h1 0 = g0) := rfl
        have HA1 : Hid (accB g0 i0 i1 b0 b1 h0 h1 1 = (g0 && (inB i0 0 1023 && inB b0 0 15 && inB h0 0 16))) := rfl
        have HA2 : Hid (accB g0 i0 i1 b0 b1 h0 h1 2 = (accB g0 i0 i1 b0 b1 h0 h1 1 && (inB i1 0 1023 && inB b1 0 15 && inB h1 0 16))) := rfl
        rw [← HA1.out, ← HA2.out] at HL
        go_wp2_with fail
        go_loop [3, 5] (fun t i => ∃ j : Nat, j ≤ 2 ∧ i = .int .i64 j ∧ t = .bool (accB g0 i0 i1 b0 b1 h0 h1 j)) (fun _ i => 2 - (intOf i).toNat)
        case atStart => exact ⟨0, by omega, rfl, rfl⟩
        case round =>
          obtain ⟨j, hj, rfl, rfl⟩ := hrel
          rcases (by omega : j = 0 ∨ j = 1 ∨ j = 2) with rfl | rfl | rfl
          · rw [HA0.out]
            cases g0
            all_goals
              go_wp2_with (with_reducible refine (in_calls _ _ _ _).mono ?_; rintro e w' ⟨rfl, rfl⟩)
              all_goals
                go_round
                case rel => exact ⟨1, by omega, rfl, congrArg Value.bool (by rw [HA1.out]; simp [*])⟩
                case measure => simp [intOf]
          · generalize accB g0 i0 i1 b0 b1 h0 h1 1 = g1 at *
            cases g1
            all_goals
              go_wp2_with (with_reducible refine (in_calls _ _ _ _).mono ?_; rintro e w' ⟨rfl, rfl⟩)
              all_goals
                go_round
                case rel => exact ⟨2, by omega, rfl, congrArg Value.bool (by rw [HA2.out]; simp [*])⟩
                case measure => simp [intOf]
          · rw [show ((2 : Nat) : Int) = 2 from rfl]
            have e1 : CBox (w0.setRow w.heap.size #[.int .i64 3, .int .i64 s, .int .i64 0, .int .i64 0, .int .i64 0, .int .i64 o, .int .i64 d, .int .i64 0, .int .i64 0, .int .i64 0, .int .i64 0, .int .i64 0, .int .i64 0, .int .i64 0]) w.heap.size [3, s, 0, 0, 0, o, d, 0, 0, 0, 0, 0, 0, 0] := setRow_heap w0 w.heap.size _ _ _ _ hbox
            have e2 : Below w.heap.size w (w0.setRow w.heap.size #[.int .i64 3, .int .i64 s, .int .i64 0, .int .i64 0, .int .i64 0, .int .i64 o, .int .i64 d, .int .i64 0, .int .i64 0, .int .i64 0, .int .i64 0, .int .i64 0, .int .i64 0, .int .i64 0]) := Below.grown hnew (setRow_grownH w0 w.heap.size _) hnew.size (fun k hk => by cases hk; exact Nat.le_refl _)
            go_wp2_with (refine wpList_store_row rfl 75 _ _ rfl w.heap.size #[.int .i64 3, .int .i64 s, .int .i64 0, .int .i64 0, .int .i64 0, .int .i64 o, .int .i64 d, .int .i64 0, .int .i64 0, .int .i64 0, .int .i64 0, .int .i64 0, .int .i64 0, .int .i64 0] rfl rfl 75 _ hbox (by kernel_rfl) rfl (cells_one [3, s, 0, 0, 0, o, d, 0, 0, 0, 0, 0, 0, 0]) ?_)
            go_meet
            exact ⟨congrArg Value.bool HL.out.symm, by rw [HR.out]; exact e1, e2⟩
      · by_cases h4 : k = 4
        · have HL : Hid (looks C = (inB n 0 11 && inB r 1 16)) := by show _ = _; rw [HC.out]; unfold looks; rw [if_neg h12, if_neg h3, if_pos h4]
          have HR : Hid ((rest C).l = [k, s, 0, f, 0, o, d, p, i0, i1, b0, b1, h0, h1]) := by show _ = _; rw [HC.out]; unfold rest; rw [if_neg h12, if_neg h3, if_pos h4]; rfl
          have e1 := ((hbox.set 2 0).set 4 0)
          have e2 := ((hnew.setCell (p := ⟨w.heap.size, 2, none⟩) (Nat.le_refl _) (.int .i64 0)).setCell (p := ⟨w.heap.size, 4, none⟩) (Nat.le_refl _) (.int .i64 0))
          clear hbox hnew h12 h3
          subst h4
          go_wp2_with (with_reducible refine (in_calls _ _ _ _).mono ?_; rintro e w' ⟨rfl, rfl⟩)
          all_goals
            go_meet
            exact ⟨congrArg Value.bool (by rw [HL.out]; simp only [*, Bool.true_and, Bool.false_and]), by rw [HR.out]; exact e1, e2⟩
        · by_cases h5 : k = 5 ∨ k = 6
          · have HL : Hid (looks C = inB s 0 7) := by show _ = _; rw [HC.out]; unfold looks; rw [if_neg h12, if_neg h3, if_neg h4, if_pos h5]
            have HR : Hid ((rest C).l = [k, 0, n, f, r, o, d, p, i0, i1, b0, b1, h0, h1]) := by show _ = _; rw [HC.out]; unfold rest; rw [if_neg h12, if_neg h3, if_neg h4, if_pos h5]; rfl
            have e1 := hbox.set 1 0
            have e2 := hnew.setCell (p := ⟨w.heap.size, 1, none⟩) (Nat.le_refl _) (.int .i64 0)
            clear hbox hnew h12 h3 h4
            rcases h5 with rfl | rfl
            all_goals
              go_wp2_with (with_reducible refine (in_calls _ _ _ _).mono ?_; rintro e w' ⟨rfl, rfl⟩)
              all_goals
                go_meet
                exact ⟨congrArg Value.bool (by rw [HL.out]), by rw [HR.out]; exact e1, e2⟩
          · have HL : Hid (looks C = inB k 1 7) := by show _ = _; rw [HC.out]; unfold looks; rw [if_neg h12, if_neg h3, if_neg h4, if_neg h5]
            have HR : Hid ((rest C).l = [k, s, n, f, r, o, d, p, i0, i1, b0, b1, h0, h1]) := by show _ = _; rw [HC.out]; unfold rest; rw [if_neg h12, if_neg h3, if_neg h4, if_neg h5]; rfl
            have n1 : ¬ k = 1 := by omega
            have n2 : ¬ k = 2 := by omega
            have n5 : ¬ k = 5 := by omega
            have n6 : ¬ k = 6 := by omega
            go_wp2_with fail
            all_goals
              go_meet
              exact ⟨congrArg Value.bool (by rw [HL.out]), by rw [HR.out]; exact hbox, hnew⟩
  obtain ⟨rfl, hb2, hE⟩ := hcut
  clear x0 x1 x2 x3 x4 x5 x6 x7 x8 x9 x10 x11 x12 x13 fz hnew hbox
  obtain ⟨rc, hrc⟩ : ∃ rc, rest C = rc := ⟨_, rfl⟩
  have hrk : rc.k = k := by
    rw [← hrc, HC.out]
    unfold rest
    split
    · rfl
    · split
      · rfl
      · split
        · rfl
        · split <;> rfl
  have hro : restOk C = decide (rc = Cm.of k) := by
    unfold restOk
    rw [Bool.eq_iff_iff, decide_eq_true_iff, decide_eq_true_iff, hrc, HC.out]
  rw [hrc] at hb2
  have HM2 : Hid (me = if (looks C && decide (rc = Cm.of k)) then 0 else 1) := by
    show _ = _
    rw [HM.out, hro]
  clear hrc hro HM
  obtain ⟨x0, x1, x2, x3, x4, x5, x6, x7, x8, x9, x10, x11, x12, x13⟩ := hb2.all
  rw [hrk] at x0
  have hq := fun w => cmd_neq rc (Cm.of k) w
  unfold Cm.v Cm.of at hq
  simp only at hq
  rw [hrk] at hq
  unfold Cm.of at HM2
  have hgd : Tryz.prog.eqGuardType Tryz.prog.depth 75 = false := by kernel_rfl
  clear hrk
  generalize decide (rc = ⟨k, 0, 0, 0, 0, 0, 0, 0, 0, 0, 0, 0, 0, 0⟩) = q at *
  generalize looks C = lk at *
  cases lk <;> cases q
  all_goals
    go_wp2_with fail
    go_ret
    exact ⟨ret_int (by rw [HM2.out]; rfl), hE⟩

theorem refMay_calls (c : Cm) (w : World) : Calls Tryz.prog 49 #[c.v] w fun e w' => e = .returned (.int .i64 (mayE c)) ∧ Below w.heap.size w w' :=
  refMay_core c c.k c.s c.n c.f c.r c.o c.d c.p c.i0 c.i1 c.b0 c.b1 c.h0 c.h1 rfl w

end Go.Proofs.YtdhdbmfipkppiaaGreat.Isa

namespace Go.Proofs.YtdhdbmfipkppiaaGreat.Isa
set_option maxRecDepth 10000
open Go.RowKit

set_option maxRecDepth 20000 in
set_option maxHeartbeats 3200000 in
theorem refPut_calls (v : Value) (l : List Cm) (w : World) (hl : Cmds w v l) :
    Calls Tryz.prog 52 #[v] w (PutPost l w) := by
  obtain ⟨A, c, rfl, hlc, hcm, _⟩ := id hl.form
  unfold maxLen at hcm
  by_cases hbig : 4096 < l.length
  · have h1 := Lib.hid (show putErr l = 3 from if_pos hbig)
    have h2 := Lib.hid (show putB l = [] from if_pos hbig)
    go_enter Tryz.func52, Tryz.ntmps52
    go_wp2
    go_ret2
    refine ⟨.slice none 0 0, by rw [h1.out]; rfl, ?_, Below.refl _ _⟩
    rw [h2.out]
    exact World.ownsRow_nil _ _ _ _
  · have h1 := Lib.hid (show putErr l = if l.all mayB then 0 else 1 from if_neg hbig)
    have h2 := Lib.hid (show putB l = if l.all mayB then encs l else [] from if_neg hbig)
    have hown0 : (w.alloc (.cells #[] 5)).ownsRow w.heap.size 5 1 (.slice (some ⟨w.heap.size, 0, none⟩) 0 0) ([] : List Int).length (([] : List Int).map (Value.int .u8)) := World.ownsRow_made (base := w.heap.size) (e := 5) (size := 1) w #[] 0 (Nat.le_refl _) (Nat.zero_le _) (by simp)
    have hb0 := below_alloc (Below.refl w.heap.size w) (Nat.le_refl _) (.cells #[] 5)
    have hn := refNumber_calls w.heap.size _ [] l.length 2 _ hown0 hb0.size (by omega) (by simp)
    go_enter Tryz.func52, Tryz.ntmps52
    go_wp2_with fail
    refine hn.mono ?_
    rintro e w1 ⟨v1, rfl, hg⟩
    have hown := hg.own
    have hb1 := hb0.trans (hg.base hb0.size (fun k hk => by cases hk; exact Nat.le_refl _))
    rw [List.nil_append] at hown
    clear hg hn hown0 hb0
    go_wp2_with fail
    go_loopw [4, 5] (fun b i wr => ∃ (k : Nat) (bk : List Int), k ≤ l.length ∧ i = .int .i64 k ∧ Hid ((l.take k).all mayB = true) ∧ Hid (bk = be l.length 2 ++ (l.take k).flatMap enc) ∧ Hid (bk.length ≤ 2 + k * 14) ∧ wr.ownsRow w.heap.size 5 1 b bk.length (bk.map (.int .u8)) ∧ Below w.heap.size w wr) (fun _ i _ => l.length - (intOf i).toNat)
    case atStart => exact ⟨0, _, by omega, rfl, rfl, by show _ = _; simp, by show _ ≤ _; rw [be_len]; omega, hown, hb1⟩
    case round =>
      clear hown hb1
      obtain ⟨k, bk, hk, rfl, hall, hbk, hbl, hown, hbel⟩ := hrel
      by_cases hlt : k < l.length
      · have hs : l[k]? = some l[k] := by simp [hlt]
        obtain ⟨_, _, e1, _, _, hcells⟩ := (hl.below hbel (Nat.le_refl _)).form
        cases e1
        obtain ⟨g, off, rfl, hg, x0, x1, x2, x3, x4, x5, x6, x7, x8, x9, x10, x11, x12, x13⟩ := hcells k _ hs
        have HT := Lib.hid (show l.take (k + 1) = l.take k ++ [l[k]] from List.take_succ_eq_append_getElem hlt)
        have HM := Lib.hid (show mayB l[k] = false → l.all mayB = false from fun h => by
          rw [Bool.eq_false_iff]; intro h'; rw [List.all_eq_true.1 h' _ (List.getElem_mem hlt)] at h; cases h)
        clear hcells hs
        generalize l[k] = x at *
        have hm := refMay_calls x wr
        unfold Cm.v at hm
        go_wp2_with fail
        refine hm.mono ?_
        rintro e w2 ⟨rfl, hb2⟩
        have hown2 := hown.kept (row := none) (grown_of_ext hb2) (by cases u4.ownBlock <;> simp)
        have hbel2 := hbel.trans (hb2.mono hbel.size)
        have y0 := (hb2.cell (p := ⟨g, off + k * 14, none⟩) hg).trans x0
        have y1 := (hb2.cell (p := ⟨g, off + k * 14 + 1, none⟩) hg).trans x1
        have y2 := (hb2.cell (p := ⟨g, off + k * 14 + 2, none⟩) hg).trans x2
        have y3 := (hb2.cell (p := ⟨g, off + k * 14 + 3, none⟩) hg).trans x3
        have y4 := (hb2.cell (p := ⟨g, off + k * 14 + 4, none⟩) hg).trans x4
        have y5 := (hb2.cell (p := ⟨g, off + k * 14 + 5, none⟩) hg).trans x5
        have y6 := (hb2.cell (p := ⟨g, off + k * 14 + 6, none⟩) hg).trans x6
        have y7 := (hb2.cell (p := ⟨g, off + k * 14 + 7, none⟩) hg).trans x7
        have y8 := (hb2.cell (p := ⟨g, off + k * 14 + 8, none⟩) hg).trans x8
        have y9 := (hb2.cell (p := ⟨g, off + k * 14 + 9, none⟩) hg).trans x9
        have y10 := (hb2.cell (p := ⟨g, off + k * 14 + 10, none⟩) hg).trans x10
        have y11 := (hb2.cell (p := ⟨g, off + k * 14 + 11, none⟩) hg).trans x11
        have y12 := (hb2.cell (p := ⟨g, off + k * 14 + 12, none⟩) hg).trans x12
        have y13 := (hb2.cell (p := ⟨g, off + k * 14 + 13, none⟩) hg).trans x13
        clear hm x0 x1 x2 x3 x4 x5 x6 x7 x8 x9 x10 x11 x12 x13 hown hbel hb2
        have hbl1 := hbl.out
        cases hq : mayB x with
        | false =>
          have hme : mayE x = 1 := by unfold mayE; rw [hq]; rfl
          have HA := Lib.hid (HM.out hq)
          rw [hme]
          clear hme hq HM
          go_wp2_with fail
          go_ret2
          refine ⟨.slice none 0 0, by rw [h1.out, HA.out]; rfl, ?_, hbel2⟩
          rw [h2.out, HA.out]
          exact World.ownsRow_nil _ _ _ _
        | true =>
          have hme : mayE x = 0 := by unfold mayE; rw [hq]; rfl
          have HA : Hid ((l.take (k + 1)).all mayB = true) := by
            show _ = _
            rw [HT.out, List.all_append, hall.out]
            simp [hq]
          rw [hme]
          clear hme hq HM hall
          have hp := refPut1_calls x w.heap.size u4 bk w2 hown2 hbel2.size (by omega)
          unfold Cm.v at hp
          go_wp2_with fail
          refine hp.mono ?_
          rintro e w3 ⟨v3, rfl, hg3⟩
          unfold GrewB at hg3
          have hbk2 : Hid (bk ++ enc x = be l.length 2 ++ (l.take (k + 1)).flatMap enc) := by
            show _ = _
            rw [HT.out, List.flatMap_append, hbk.out]
            simp
          have hbl2 : Hid ((bk ++ enc x).length ≤ 2 + (k + 1) * 14) := by
            show _ ≤ _
            have := enc_len x
            rw [List.length_append]
            omega
          have hownF := hg3.own
          have hbelF := hbel2.trans (hg3.base hbel2.size (fun k hk => (hown2.lt k hk).1))
          clear hg3 hp hown2 hbel2 hbk hbl hbl1 HT y0 y1 y2 y3 y4 y5 y6 y7 y8 y9 y10 y11 y12 y13
          go_wp2_with fail
          go_roundw
          case rel => exact ⟨k + 1, bk ++ enc x, by omega, by go_num, HA, hbk2, hbl2, hownF, hbelF⟩
          case measure => simp [intOf]; omega
      · have hkk : k = l.length := by omega
        have hA : Hid (l.all mayB = true) := by
          have := hall.out
          rwa [hkk, List.take_length] at this
        have hB : Hid (bk = encs l) := by
          show _ = _
          rw [hbk.out, hkk, List.take_length]
          rfl
        clear hall hbk hbl
        go_wp2_with fail
        go_ret2
        refine ⟨_, by rw [h1.out, hA.out]; rfl, ?_, hbel⟩
        rw [h2.out, hA.out, if_pos rfl, ← hB.out]
        exact hown

end Go.Proofs.YtdhdbmfipkppiaaGreat.Isa
