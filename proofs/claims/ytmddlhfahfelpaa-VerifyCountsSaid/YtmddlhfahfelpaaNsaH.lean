/- The reference's span and Made; lists of spans in a row. -/
/- The walks of the reference's May of spans, of the example and of Engine (printed from RegN and RegS). -/
/- The walks of in and May of the reference of commands. -/
import Derived.Test.YtmddlhfahfelpaaRge
import Derived.Test.YtmddlhfahfelpaaRfj
import Derived.Test.YtmddlhfahfelpaaRegM
import Derived.Test.YtmddlhfahfelpaaNsaN
import Derived.Test.YtmddlhfahfelpaaRga
import Derived.Deep.DeepCutAuto
import Derived.Deep.CutBlock
set_option linter.unusedSimpArgs false
set_option linter.unusedVariables false
set_option linter.unnecessarySimpa false
namespace Go.Proofs.Ytmddlhfahfelpaa
open Go.RowKit

/-- A list of spans in a row of the call's own; blocks beside it. -/
structure OwnS (S : Side) (w0 w : World) (v : Value) (l : List Sp) : Prop where
  own : w.ownsRow w0.heap.size 85 4 v l.length (l.flatMap Sp.cs)
  ext : Ext w0 w
  side : ∀ s ∈ S, Blk w s.1 s.2.1 s.2.2 ∧ v.ownBlock ≠ some s.1
theorem OwnS.new (w : World) : OwnS [] w (w.alloc (.cells #[] 85)) (.slice (some ⟨w.heap.size, 0, none⟩) 0 0) [] :=
  ⟨World.ownsRow_made (base := w.heap.size) (e := 85) (size := 4) w #[] 0 (Nat.le_refl _) (Nat.zero_le _) (by simp), ext_alloc _ _, fun s hs => by cases hs⟩
theorem OwnS.later {S : Side} {w0 w W : World} {v : Value} {l : List Sp} (h : OwnS S w0 w v l) (e : Ext w W) : OwnS S w0 W v l :=
  ⟨World.ownsRow.kept (row := none) h.own (grown_of_ext e) (by cases v.ownBlock <;> simp), h.ext.trans e, fun s hs => ⟨(h.side s hs).1.ext e, (h.side s hs).2⟩⟩
theorem OwnS.ok {S : Side} {w0 w : World} {v : Value} {l : List Sp} (h : OwnS S w0 w v l) : SideOk S w0 w := ⟨fun s hs => (h.side s hs).1, h.ext⟩
theorem OwnS.bare {S : Side} {w0 w : World} {v : Value} {l : List Sp} (h : OwnS S w0 w v l) : OwnS [] w0 w v l := ⟨h.own, h.ext, fun s hs => by cases hs⟩
theorem OwnS.more {S : Side} {w0 w W : World} {b : Nat} {v : Value} {l : List Sp} (h : OwnS S w0 w v l) (e : Ext w W) (hb : w.heap.size ≤ b) {cs : Array Value} {T : TypeId} (hk : Blk W b cs T) : OwnS ((b, cs, T) :: S) w0 W v l := by
  have h1 := h.later e
  refine ⟨h1.own, h1.ext, fun s hs => ?_⟩
  rcases List.mem_cons.1 hs with rfl | hs
  · exact ⟨hk, fun e => by have := (h.own.lt _ e).2; simp only at this; omega⟩
  · exact h1.side s hs
theorem OwnS.app {S : Side} {w0 w w1 : World} {v v1 : Value} {l m : List Sp} {k : Nat} {xs : List Value} (h : OwnS S w0 w v l) (ho : w1.ownsRow w0.heap.size 85 4 v1 k xs) (hk : k = l.length + m.length) (hx : xs = l.flatMap Sp.cs ++ m.flatMap Sp.cs) (hg : w.grownBy w1 v.ownBlock) (hn : Near w v v1) : OwnS S w0 w1 v1 (l ++ m) := by
  subst hk hx
  refine ⟨by rw [List.length_append, List.flatMap_append]; exact ho, Below.grown h.ext hg h.ext.size (fun k hk => (h.own.lt k hk).1), fun s hs => ?_⟩
  obtain ⟨k1, k3⟩ := h.side s hs
  refine ⟨k1.grown hg (fun e => k3 e.symm), fun e => ?_⟩
  rcases hn _ e with h1 | h1
  · exact k3 h1
  · have := k1.lt; omega

end Go.Proofs.Ytmddlhfahfelpaa

namespace Go.Proofs.Ytmddlhfahfelpaa
open Go.RowKit

set_option maxHeartbeats 800000 in
theorem refMay_calls (s : Sp) (w : World) : Calls Try.prog 49 #[s.v] w fun e w' => e = .returned (.int .i64 (mayE s)) ∧ Below w.heap.size w w' := by
  have HM : Hid (mayE s = if s.mem < 0 ∨ 2 ≤ s.mem then 1 else if s.frm < 0 ∨ s.to < s.frm ∨ memTop s.mem < s.to then 23 else 0) := rfl
  have hb1 : ∀ o, Below w.heap.size w (w.alloc o) := fun o => below_alloc (Below.refl _ _) (Nat.le_refl _) _
  obtain ⟨m, f, t, p⟩ := s
  simp only at HM
  generalize mayE ⟨m, f, t, p⟩ = r at *
  unfold Sp.v
  go_enter Try.func49, Try.ntmps49
  by_cases h1 : m < 0 ∨ 2 ≤ m
  · have HR : Hid (r = 1) := by show _ = _; rw [HM.out, if_pos h1]
    have n0 : m ≠ 0 := by omega
    have n1 : m ≠ 1 := by omega
    have q0 : (m != 0) = true := by simpa using n0
    have q1 : (m != 1) = true := by simpa using n1
    have q2 : (m == 1) = false := by simpa using n1
    go_wp2
    all_goals
      go_ret
      first | exact ⟨ret_int HR.out.symm, hb1 _⟩ | (exfalso; omega)
  · have hm : m = 0 ∨ m = 1 := by omega
    rcases hm with rfl | rfl
    · have HM : Hid (r = if f < 0 ∨ t < f ∨ 65536 < t then 23 else 0) := by
        have h := HM.out
        rw [if_neg h1] at h
        exact h
      clear h1
      go_wp2
      all_goals
        go_ret
        refine ⟨ret_int ?_, hb1 _⟩
        rw [HM.out]
        first | rw [if_pos (by omega)] | rw [if_neg (by omega)]
    · have HM : Hid (r = if f < 0 ∨ t < f ∨ 1024 < t then 23 else 0) := by
        have h := HM.out
        rw [if_neg h1] at h
        exact h
      clear h1
      go_wp2
      all_goals
        go_ret
        refine ⟨ret_int ?_, hb1 _⟩
        rw [HM.out]
        first | rw [if_pos (by omega)] | rw [if_neg (by omega)]

end Go.Proofs.Ytmddlhfahfelpaa

namespace Go.Proofs.Ytmddlhfahfelpaa.Isa
set_option maxRecDepth 10000
open Go.RowKit

theorem setRow_grownH (w : World) (g : Nat) (cs : Array Value) : w.grownBy (w.setRow g cs) (some g) := ⟨rfl, rfl, rfl, by simp, fun k _ hk => setRow_other w g k cs (fun e => hk (by rw [e]))⟩

def inB (x lo hi : Int) : Bool := decide (lo ≤ x ∧ x ≤ hi)

theorem in_calls (x lo hi : Int) (w : World) : Calls Try.prog 62 #[.int .i64 x, .int .i64 lo, .int .i64 hi] w fun e w' => e = .returned (.bool (inB x lo hi)) ∧ w = w' := by
  have hI : Hid (inB x lo hi = decide (lo ≤ x ∧ x ≤ hi)) := rfl
  generalize inB x lo hi = q at *
  by_cases h1 : lo ≤ x
  · go_enter Try.func62, Try.ntmps62
    go_wp2
    go_ret
    exact ⟨ret_bool (by rw [hI.out, Bool.eq_iff_iff]; simp; omega), rfl⟩
  · go_enter Try.func62, Try.ntmps62
    go_wp2
    go_ret
    exact ⟨ret_bool (by rw [hI.out, Bool.eq_iff_iff]; simp; omega), rfl⟩

/-- What the reference looks at, kind by kind. -/
def looks (c : Cm) : Bool :=
  if c.k = 1 ∨ c.k = 2 then inB c.r 1 16 && inB c.o 1 128 && inB c.d 0 65535 && inB c.p 0 1023
  else if c.k = 3 then inB c.n 0 11 && inB c.f 0 15 && inB c.r 1 16 && inB c.p 0 1023 && (inB c.i0 0 1023 && inB c.b0 0 15 && inB c.h0 0 16) && (inB c.i1 0 1023 && inB c.b1 0 15 && inB c.h1 0 16)
  else if c.k = 4 then inB c.n 0 11 && inB c.r 1 16
  else if c.k = 5 ∨ c.k = 6 then inB c.s 0 7
  else inB c.k 1 7

def rest (c : Cm) : Cm :=
  if c.k = 1 ∨ c.k = 2 then { c with r := 0, o := 0, d := 0, p := 0 }
  else if c.k = 3 then { Cm.of c.k with s := c.s, o := c.o, d := c.d }
  else if c.k = 4 then { c with n := 0, r := 0 }
  else if c.k = 5 ∨ c.k = 6 then { c with s := 0 }
  else c

theorem mayB_looks (c : Cm) : mayB c = (looks c && decide (rest c = Cm.of c.k)) := by
  have ext : ∀ a b : Cm, a = b ↔ a.k = b.k ∧ a.s = b.s ∧ a.n = b.n ∧ a.f = b.f ∧ a.r = b.r ∧ a.o = b.o ∧ a.d = b.d ∧ a.p = b.p ∧ a.i0 = b.i0 ∧ a.i1 = b.i1 ∧ a.b0 = b.b0 ∧ a.b1 = b.b1 ∧ a.h0 = b.h0 ∧ a.h1 = b.h1 := by
    intro a b
    constructor
    · rintro rfl; simp
    · obtain ⟨k, s, n, f, r, o, d, p, i0, i1, b0, b1, h0, h1⟩ := a
      obtain ⟨k', s', n', f', r', o', d', p', i0', i1', b0', b1', h0', h1'⟩ := b
      simp only
      rintro ⟨rfl, rfl, rfl, rfl, rfl, rfl, rfl, rfl, rfl, rfl, rfl, rfl, rfl, rfl⟩
      rfl
  rw [Bool.eq_iff_iff, Bool.and_eq_true, decide_eq_true_iff]
  by_cases h1 : c.k = 1 ∨ c.k = 2
  · rw [mayB_load h1]
    unfold looks rest
    rw [if_pos h1, if_pos h1, ext]
    simp only [inB, Cm.of, Bool.and_eq_true, decide_eq_true_iff, true_and]
    omega
  · by_cases h3 : c.k = 3
    · rw [mayB_tile h3]
      unfold looks rest
      rw [if_neg h1, if_pos h3, if_neg h1, if_pos h3, ext]
      simp only [inB, Cm.of, Bool.and_eq_true, decide_eq_true_iff, true_and, and_true]
      omega
    · by_cases h4 : c.k = 4
      · rw [mayB_kernel h4]
        unfold looks rest
        rw [if_neg h1, if_neg h3, if_pos h4, if_neg h1, if_neg h3, if_pos h4, ext]
        simp only [inB, Cm.of, Bool.and_eq_true, decide_eq_true_iff, true_and]
      · by_cases h5 : c.k = 5 ∨ c.k = 6
        · rw [mayB_sem h5]
          unfold looks rest
          rw [if_neg h1, if_neg h3, if_neg h4, if_pos h5, if_neg h1, if_neg h3, if_neg h4, if_pos h5, ext]
          simp only [inB, Cm.of, decide_eq_true_iff, true_and]
        · unfold looks rest
          rw [if_neg h1, if_neg h3, if_neg h4, if_neg h5, if_neg h1, if_neg h3, if_neg h4, if_neg h5, ext]
          simp only [inB, Cm.of, decide_eq_true_iff, true_and]
          by_cases h7 : c.k = 7
          · rw [mayB_halt h7]
            omega
          · rw [mayB_none (by omega)]
            simp <;> omega

theorem cells_one (l : List Int) : ((l.map (Value.int .i64)).toArray.all (fun x => x.oneCell')) = true := by
  rw [Array.all_eq_true_iff_forall_mem]
  intro x hx
  simp only [List.mem_toArray, List.mem_map] at hx
  obtain ⟨z, _, rfl⟩ := hx
  rfl

def accB (g : Bool) (i0 i1 b0 b1 h0 h1 : Int) : Nat → Bool
  | 0 => g
  | 1 => g && (inB i0 0 1023 && inB b0 0 15 && inB h0 0 16)
  | _ => (g && (inB i0 0 1023 && inB b0 0 15 && inB h0 0 16)) && (inB i1 0 1023 && inB b1 0 15 && inB h1 0 16)

def restOk (c : Cm) : Bool := decide (rest c = Cm.of c.k)

set_option maxRecDepth 20000 in
set_option maxHeartbeats 6400000 in
theorem refMay_core (C : Cm) (k s n f r o d p i0 i1 b0 b1 h0 h1 : Int) (HC : Hid (C = ⟨k, s, n, f, r, o, d, p, i0, i1, b0, b1, h0, h1⟩)) (w : World) :
    Calls Try.prog 45 #[.agg #[.int .i64 k, .int .i64 s, .int .i64 n, .int .i64 f, .int .i64 r, .int .i64 o, .int .i64 d, .int .i64 p, .int .i64 i0, .int .i64 i1, .int .i64 b0, .int .i64 b1, .int .i64 h0, .int .i64 h1]] w fun e w' => e = .returned (.int .i64 (mayE C)) ∧ Below w.heap.size w w' := by
  have HM : Hid (mayE C = if (looks C && restOk C) then 0 else 1) := by
    show _ = _
    unfold mayE
    rw [mayB_looks]
    rfl
  generalize mayE C = me at *
  have hbox := cbox_new w ⟨k, s, n, f, r, o, d, p, i0, i1, b0, b1, h0, h1⟩
  have hnew := below_alloc (Below.refl w.heap.size w) (Nat.le_refl _) (.cells #[.int .i64 k, .int .i64 s, .int .i64 n, .int .i64 f, .int .i64 r, .int .i64 o, .int .i64 d, .int .i64 p, .int .i64 i0, .int .i64 i1, .int .i64 b0, .int .i64 b1, .int .i64 h0, .int .i64 h1] 47)
  simp only at hbox
  go_enter Try.func45, Try.ntmps45
  go_wp2_with fail
  generalize w.alloc _ = w0 at *
  refine (in_calls _ _ _ _).mono ?_
  rintro e w' ⟨rfl, rfl⟩
  obtain ⟨x0, x1, x2, x3, x4, x5, x6, x7, x8, x9, x10, x11, x12, x13⟩ := hbox.all
  have fz := hbox.frozen
  go_upto_block 0 with fail
  go_cut [3] (fun s3 wx => s3 = .bool (looks C) ∧ CBox wx w.heap.size (rest C).l ∧ Below w.heap.size w wx)
  case first =>
    by_cases h12 : k = 1 ∨ k = 2
    · have HL : Hid (looks C = (inB r 1 16 && inB o 1 128 && inB d 0 65535 && inB p 0 1023)) := by show _ = _; rw [HC.out]; exact if_pos h12
      have HR : Hid ((rest C).l = [k, s, n, f, 0, 0, 0, 0, i0, i1, b0, b1, h0, h1]) := by show _ = _; rw [HC.out]; unfold rest; rw [if_pos h12]; rfl
      have e1 := ((((hbox.set 4 0).set 5 0).set 6 0).set 7 0)
      have e2 := (((hnew.setCell (p := ⟨w.heap.size, 4, none⟩) (Nat.le_refl _) (.int .i64 0)).setCell (p := ⟨w.heap.size, 5, none⟩) (Nat.le_refl _) (.int .i64 0)).setCell (p := ⟨w.heap.size, 6, none⟩) (Nat.le_refl _) (.int .i64 0)).setCell (p := ⟨w.heap.size, 7, none⟩) (Nat.le_refl _) (.int .i64 0)
      clear hbox hnew
      rcases h12 with rfl | rfl
      all_goals
        go_wp2_with (with_reducible refine (in_calls _ _ _ _).mono ?_; rintro e w' ⟨rfl, rfl⟩)
        all_goals
          go_meet
          exact ⟨congrArg Value.bool (by rw [HL.out]; simp only [*, Bool.and_true, Bool.true_and, Bool.and_false, Bool.false_and]), by rw [HR.out]; exact e1, e2⟩
    · by_cases h3 : k = 3
      · have HL : Hid (looks C = (inB n 0 11 && inB f 0 15 && inB r 1 16 && inB p 0 1023 && (inB i0 0 1023 && inB b0 0 15 && inB h0 0 16) && (inB i1 0 1023 && inB b1 0 15 && inB h1 0 16))) := by
          show _ = _; rw [HC.out]; unfold looks; rw [if_neg h12, if_pos h3]
        have HR : Hid ((rest C).l = [k, s, 0, 0, 0, o, d, 0, 0, 0, 0, 0, 0, 0]) := by show _ = _; rw [HC.out]; unfold rest; rw [if_neg h12, if_pos h3]; rfl
        subst h3
        clear h12
        go_upto_region 12 with fail
        go_cut [3] (fun s3 wx => s3 = .bool (inB n 0 11 && inB f 0 15 && inB r 1 16 && inB p 0 1023) ∧ w0 = wx)
        case first =>
          go_wp2_with (with_reducible refine (in_calls _ _ _ _).mono ?_; rintro e w' ⟨rfl, rfl⟩)
          all_goals
            go_meet
            exact ⟨congrArg Value.bool (by simp only [*, Bool.and_true, Bool.true_and, Bool.and_false, Bool.false_and]), rfl⟩
        obtain ⟨rfl, rfl⟩ := hcut
        generalize (inB n 0 11 && inB f 0 15 && inB r 1 16 && inB p 0 1023) = g0 at *
        have HA0 : Hid (accB g0 i0 i1 b0 b1 h0 h1 0 = g0) := rfl
        have HA1 : Hid (accB g0 i0 i1 b0 b1 h0 h1 1 = (g0 && (inB i0 0 1023 && inB b0 0 15 && inB h0 0 16))) := rfl
        have HA2 : Hid (accB g0 i0 i1 b0 b1 h0 h1 2 = (accB g0 i0 i1 b0 b1 h0 h1 1 && (inB i1 0 1023 && inB b1 0 15 && inB h1 0 16))) := rfl
        rw [← HA1.out, ← HA2.out] at HL
        go_wp2_with fail
        go_loop [3, 5] (fun t i => ∃ j : Nat, j ≤ 2 ∧ i = .int .i64 j ∧ t = .bool (accB g0 i0 i1 b0 b1 h0 h1 j)) (fun _ i => 2 - (intOf i).toNat)
        case atStart => exact ⟨0, by omega, rfl, rfl⟩
        case round =>
          obtain ⟨j, hj, rfl, rfl⟩ := hrel
          rcases (by omega : j = 0 ∨ j = 1 ∨ j = 2) with rfl | rfl | rfl
          · rw [HA0.out]
            cases g0
            all_goals
              go_wp2_with (with_reducible refine (in_calls _ _ _ _).mono ?_; rintro e w' ⟨rfl, rfl⟩)
              all_goals
                go_round
                case rel => exact ⟨1, by omega, rfl, congrArg Value.bool (by rw [HA1.out]; simp [*])⟩
                case measure => simp [intOf]
          · generalize accB g0 i0 i1 b0 b1 h0 h1 1 = g1 at *
            cases g1
            all_goals
              go_wp2_with (with_reducible refine (in_calls _ _ _ _).mono ?_; rintro e w' ⟨rfl, rfl⟩)
              all_goals
                go_round
                case rel => exact ⟨2, by omega, rfl, congrArg Value.bool (by rw [HA2.out]; simp [*])⟩
                case measure => simp [intOf]
          · rw [show ((2 : Nat) : Int) = 2 from rfl]
            have e1 : CBox (w0.setRow w.heap.size #[.int .i64 3, .int .i64 s, .int .i64 0, .int .i64 0, .int .i64 0, .int .i64 o, .int .i64 d, .int .i64 0, .int .i64 0, .int .i64 0, .int .i64 0, .int .i64 0, .int .i64 0, .int .i64 0]) w.heap.size [3, s, 0, 0, 0, o, d, 0, 0, 0, 0, 0, 0, 0] := setRow_heap w0 w.heap.size _ _ _ _ hbox
            have e2 : Below w.heap.size w (w0.setRow w.heap.size #[.int .i64 3, .int .i64 s, .int .i64 0, .int .i64 0, .int .i64 0, .int .i64 o, .int .i64 d, .int .i64 0, .int .i64 0, .int .i64 0, .int .i64 0, .int .i64 0, .int .i64 0, .int .i64 0]) := Below.grown hnew (setRow_grownH w0 w.heap.size _) hnew.size (fun k hk => by cases hk; exact Nat.le_refl _)
            go_wp2_with (refine wpList_store_row rfl 47 _ _ rfl w.heap.size #[.int .i64 3, .int .i64 s, .int .i64 0, .int .i64 0, .int .i64 0, .int .i64 o, .int .i64 d, .int .i64 0, .int .i64 0, .int .i64 0, .int .i64 0, .int .i64 0, .int .i64 0, .int .i64 0] rfl rfl 47 _ hbox (by kernel_rfl) rfl (cells_one [3, s, 0, 0, 0, o, d, 0, 0, 0, 0, 0, 0, 0]) ?_)
            go_meet
            exact ⟨congrArg Value.bool HL.out.symm, by rw [HR.out]; exact e1, e2⟩
      · by_cases h4 : k = 4
        · have HL : Hid (looks C = (inB n 0 11 && inB r 1 16)) := by show _ = _; rw [HC.out]; unfold looks; rw [if_neg h12, if_neg h3, if_pos h4]
          have HR : Hid ((rest C).l = [k, s, 0, f, 0, o, d, p, i0, i1, b0, b1, h0, h1]) := by show _ = _; rw [HC.out]; unfold rest; rw [if_neg h12, if_neg h3, if_pos h4]; rfl
          have e1 := ((hbox.set 2 0).set 4 0)
          have e2 := ((hnew.setCell (p := ⟨w.heap.size, 2, none⟩) (Nat.le_refl _) (.int .i64 0)).setCell (p := ⟨w.heap.size, 4, none⟩) (Nat.le_refl _) (.int .i64 0))
          clear hbox hnew h12 h3
          subst h4
          go_wp2_with (with_reducible refine (in_calls _ _ _ _).mono ?_; rintro e w' ⟨rfl, rfl⟩)
          all_goals
            go_meet
            exact ⟨congrArg Value.bool (by rw [HL.out]; simp only [*, Bool.true_and, Bool.false_and]), by rw [HR.out]; exact e1, e2⟩
        · by_cases h5 : k = 5 ∨ k = 6
          · have HL : Hid (looks C = inB s 0 7) := by show _ = _; rw [HC.out]; unfold looks; rw [if_neg h12, if_neg h3, if_neg h4, if_pos h5]
            have HR : Hid ((rest C).l = [k, 0, n, f, r, o, d, p, i0, i1, b0, b1, h0, h1]) := by show _ = _; rw [HC.out]; unfold rest; rw [if_neg h12, if_neg h3, if_neg h4, if_pos h5]; rfl
            have e1 := hbox.set 1 0
            have e2 := hnew.setCell (p := ⟨w.heap.size, 1, none⟩) (Nat.le_refl _) (.int .i64 0)
            clear hbox hnew h12 h3 h4
            rcases h5 with rfl | rfl
            all_goals
              go_wp2_with (with_reducible refine (in_calls _ _ _ _).mono ?_; rintro e w' ⟨rfl, rfl⟩)
              all_goals
                go_meet
                exact ⟨congrArg Value.bool (by rw [HL.out]), by rw [HR.out]; exact e1, e2⟩
          · have HL : Hid (looks C = inB k 1 7) := by show _ = _; rw [HC.out]; unfold looks; rw [if_neg h12, if_neg h3, if_neg h4, if_neg h5]
            have HR : Hid ((rest C).l = [k, s, n, f, r, o, d, p, i0, i1, b0, b1, h0, h1]) := by show _ = _; rw [HC.out]; unfold rest; rw [if_neg h12, if_neg h3, if_neg h4, if_neg h5]; rfl
            have n1 : ¬ k = 1 := by omega
            have n2 : ¬ k = 2 := by omega
            have n5 : ¬ k = 5 := by omega
            have n6 : ¬ k = 6 := by omega
            go_wp2_with fail
            all_goals
              go_meet
              exact ⟨congrArg Value.bool (by rw [HL.out]), by rw [HR.out]; exact hbox, hnew⟩
  obtain ⟨rfl, hb2, hE⟩ := hcut
  clear x0 x1 x2 x3 x4 x5 x6 x7 x8 x9 x10 x11 x12 x13 fz hnew hbox
  obtain ⟨rc, hrc⟩ : ∃ rc, rest C = rc := ⟨_, rfl⟩
  have hrk : rc.k = k := by
    rw [← hrc, HC.out]
    unfold rest
    split
    · rfl
    · split
      · rfl
      · split
        · rfl
        · split <;> rfl
  have hro : restOk C = decide (rc = Cm.of k) := by
    unfold restOk
    rw [Bool.eq_iff_iff, decide_eq_true_iff, decide_eq_true_iff, hrc, HC.out]
  rw [hrc] at hb2
  have HM2 : Hid (me = if (looks C && decide (rc = Cm.of k)) then 0 else 1) := by
    show _ = _
    rw [HM.out, hro]
  clear hrc hro HM
  obtain ⟨x0, x1, x2, x3, x4, x5, x6, x7, x8, x9, x10, x11, x12, x13⟩ := hb2.all
  rw [hrk] at x0
  have hq := fun w => cmd_neq rc (Cm.of k) w
  unfold Cm.v Cm.of at hq
  simp only at hq
  rw [hrk] at hq
  unfold Cm.of at HM2
  have hgd : Try.prog.eqGuardType Try.prog.depth 47 = false := by kernel_rfl
  clear hrk
  generalize decide (rc = ⟨k, 0, 0, 0, 0, 0, 0, 0, 0, 0, 0, 0, 0, 0⟩) = q at *
  generalize looks C = lk at *
  cases lk <;> cases q
  all_goals
    go_wp2_with fail
    go_ret
    exact ⟨ret_int (by rw [HM2.out]; rfl), hE⟩

theorem refMay_calls (c : Cm) (w : World) : Calls Try.prog 45 #[c.v] w fun e w' => e = .returned (.int .i64 (mayE c)) ∧ Below w.heap.size w w' :=
  refMay_core c c.k c.s c.n c.f c.r c.o c.d c.p c.i0 c.i1 c.b0 c.b1 c.h0 c.h1 rfl w

end Go.Proofs.Ytmddlhfahfelpaa.Isa
