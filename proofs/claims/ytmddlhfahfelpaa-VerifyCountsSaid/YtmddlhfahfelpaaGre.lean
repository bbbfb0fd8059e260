/- Package graph: within; whether a node of a kind may be. -/
import Derived.Test.YtmddlhfahfelpaaGrd
import Derived.Deep.Cut
import Derived.Deep.CutBlock
import Derived.Deep.DeepCutAuto
set_option linter.unusedSimpArgs false
set_option linter.unusedVariables false
set_option linter.unnecessarySimpa false
namespace Go.Proofs.Ytmddlhfahfelpaa
open Go.RowKit

theorem in_calls (x lo hi : Int) (w : World) : Calls Try.prog 64 #[.int .i64 x, .int .i64 lo, .int .i64 hi] w fun e w' => e = .returned (.bool (inB lo hi x)) ∧ w = w' := by
  by_cases h1 : lo ≤ x
  · by_cases h2 : x ≤ hi
    · have HI : Hid (inB lo hi x = true) := by show _ = _; simp [inB, h1, h2]
      go_enter Try.func64, Try.ntmps64
      go_wp2
      go_ret
      exact ⟨ret_bool (by rw [HI.out]), rfl⟩
    · have HI : Hid (inB lo hi x = false) := by show _ = _; simp [inB, h2]
      go_enter Try.func64, Try.ntmps64
      go_wp2
      go_ret
      exact ⟨ret_bool (by rw [HI.out]), rfl⟩
  · have HI : Hid (inB lo hi x = false) := by show _ = _; simp [inB, h1]
    go_enter Try.func64, Try.ntmps64
    go_wp2
    go_ret
    exact ⟨ret_bool (by rw [HI.out]), rfl⟩

theorem beq_dec (a b : Int) : (a == b) = decide (a = b) := by rw [Bool.eq_iff_iff]; simp

def ok1 (k : Kn) (n : Nd) (len : Nat) : Bool := decide ((len : Int) = k.many) && inB 1 32767 n.mul && inB 0 31 n.sh && inB (-128) 127 n.zero
def ok2 (n : Nd) : Bool := decide (n.op = 11) || decide (n.to = ⟨0, 0, 0⟩)
def ok3 (k : Kn) (n : Nd) : Bool := if k.window then inB 1 3 n.k && inB 1 2 n.st else decide (n.k = 0) && decide (n.st = 0)
def ok4 (k : Kn) (n : Nd) : Bool := if k.pads then inB 0 (min 1 (n.k - 1)) n.pad else if k.padded then decide (n.pad = 1) else decide (n.pad = 0)
def ok5 (k : Kn) (n : Nd) : Bool := if k.out then inB 1 8 n.out else decide (n.out = 0)
def nodeOk (k : Kn) (n : Nd) (len : Nat) : Bool := ok1 k n len && ok2 n && ok3 k n && ok4 k n && ok5 k n

set_option maxRecDepth 8000 in
set_option maxHeartbeats 3200000 in
theorem kmay_calls (k : Kn) (n : Nd) (A : Option Addr) (len cap : Nat) (w : World) (hpw : k.pads = true → k.window = true) :
    Calls Try.prog 67 #[.agg #[.int .i64 k.many, .bool k.window, .bool k.pads, .bool k.padded, .bool k.out, .bool k.keeps, .func (.func k.mf) #[] #[], .func (.func k.wf) #[] #[]], .agg #[.int .i64 n.op, n.inV, .int .i64 n.k, .int .i64 n.st, .int .i64 n.pad, .int .i64 n.out, .int .i64 n.mul, .int .i64 n.sh, .int .i64 n.zero, .int .i64 n.th, .int .i64 n.tw, .int .i64 n.tc, n.wV, n.bV], .slice A len cap] w fun e w' => e = .returned (.bool (nodeOk k n len)) ∧ Ext w w' := by
  have hE := (ext_alloc w (.cells #[.int .i64 k.many, .bool k.window, .bool k.pads, .bool k.padded, .bool k.out, .bool k.keeps, .func (.func k.mf) #[] #[], .func (.func k.wf) #[] #[]] 111)).trans (ext_alloc _ (.cells #[.int .i64 n.op, n.inV, .int .i64 n.k, .int .i64 n.st, .int .i64 n.pad, .int .i64 n.out, .int .i64 n.mul, .int .i64 n.sh, .int .i64 n.zero, .int .i64 n.th, .int .i64 n.tw, .int .i64 n.tc, n.wV, n.bV] 51))
  have hk := (Blk.new w #[.int .i64 k.many, .bool k.window, .bool k.pads, .bool k.padded, .bool k.out, .bool k.keeps, .func (.func k.mf) #[] #[], .func (.func k.wf) #[] #[]] 111).ext (ext_alloc _ (.cells #[.int .i64 n.op, n.inV, .int .i64 n.k, .int .i64 n.st, .int .i64 n.pad, .int .i64 n.out, .int .i64 n.mul, .int .i64 n.sh, .int .i64 n.zero, .int .i64 n.th, .int .i64 n.tw, .int .i64 n.tc, n.wV, n.bV] 51))
  have hn := Blk.new (w.alloc (.cells #[.int .i64 k.many, .bool k.window, .bool k.pads, .bool k.padded, .bool k.out, .bool k.keeps, .func (.func k.mf) #[] #[], .func (.func k.wf) #[] #[]] 111)) #[.int .i64 n.op, n.inV, .int .i64 n.k, .int .i64 n.st, .int .i64 n.pad, .int .i64 n.out, .int .i64 n.mul, .int .i64 n.sh, .int .i64 n.zero, .int .i64 n.th, .int .i64 n.tw, .int .i64 n.tc, n.wV, n.bV] 51
  rw [show (w.alloc (.cells #[.int .i64 k.many, .bool k.window, .bool k.pads, .bool k.padded, .bool k.out, .bool k.keeps, .func (.func k.mf) #[] #[], .func (.func k.wf) #[] #[]] 111)).heap.size = w.heap.size + 1 from by simp] at hn
  have HK : Hid (k.pads = true → ok3 k n = true → 1 ≤ n.k ∧ n.k ≤ 3) := fun hp h3 => by
    unfold ok3 at h3
    rw [if_pos (hpw hp)] at h3
    simp only [inB, Bool.and_eq_true, decide_eq_true_eq] at h3
    exact h3.1
  clear hpw
  go_enter Try.func67, Try.ntmps67
  go_upto_region 1 with fail
  generalize World.alloc (World.alloc w _) _ = w1 at *
  have k0 : w1.cell? ⟨w.heap.size, 0, none⟩ = some (.int .i64 k.many) := hk.cell 0
  have k1 : w1.cell? ⟨w.heap.size, 1, none⟩ = some (.bool k.window) := hk.cell 1
  have k2 : w1.cell? ⟨w.heap.size, 2, none⟩ = some (.bool k.pads) := hk.cell 2
  have k3 : w1.cell? ⟨w.heap.size, 3, none⟩ = some (.bool k.padded) := hk.cell 3
  have k4 : w1.cell? ⟨w.heap.size, 4, none⟩ = some (.bool k.out) := hk.cell 4
  have n0 : w1.cell? ⟨w.heap.size + 1, 0, none⟩ = some (.int .i64 n.op) := hn.cell 0
  have n2 : w1.cell? ⟨w.heap.size + 1, 2, none⟩ = some (.int .i64 n.k) := hn.cell 2
  have n3 : w1.cell? ⟨w.heap.size + 1, 3, none⟩ = some (.int .i64 n.st) := hn.cell 3
  have n4 : w1.cell? ⟨w.heap.size + 1, 4, none⟩ = some (.int .i64 n.pad) := hn.cell 4
  have n5 : w1.cell? ⟨w.heap.size + 1, 5, none⟩ = some (.int .i64 n.out) := hn.cell 5
  have n6 : w1.cell? ⟨w.heap.size + 1, 6, none⟩ = some (.int .i64 n.mul) := hn.cell 6
  have n7 : w1.cell? ⟨w.heap.size + 1, 7, none⟩ = some (.int .i64 n.sh) := hn.cell 7
  have n8 : w1.cell? ⟨w.heap.size + 1, 8, none⟩ = some (.int .i64 n.zero) := hn.cell 8
  have n9 : w1.cell? ⟨w.heap.size + 1, 9, none⟩ = some (.int .i64 n.th) := hn.cell 9
  have n10 : w1.cell? ⟨w.heap.size + 1, 10, none⟩ = some (.int .i64 n.tw) := hn.cell 10
  have n11 : w1.cell? ⟨w.heap.size + 1, 11, none⟩ = some (.int .i64 n.tc) := hn.cell 11
  clear hk hn
  go_cut [0, 1, 7] (fun _ _ s wx => s = .bool (ok1 k n len) ∧ w1 = wx)
  case first =>
    have HO : Hid (ok1 k n len = (decide ((len : Int) = k.many) && inB 1 32767 n.mul && inB 0 31 n.sh && inB (-128) 127 n.zero)) := rfl
    by_cases h1 : (len : Int) = k.many
    · have h1' : ((len : Int) == k.many) = true := by simp [h1]
      have d1 : decide ((len : Int) = k.many) = true := by simp [h1]
      have HO2 : Hid (ok1 k n len = (inB 1 32767 n.mul && inB 0 31 n.sh && inB (-128) 127 n.zero)) := by show _ = _; rw [HO.out, d1]; simp
      clear HO d1
      have H1 := Lib.hid h1
      clear h1
      cases h2 : inB 1 32767 n.mul with
      | false =>
        have HC : Hid (ok1 k n len = false) := by show _ = _; rw [HO2.out, h2]; rfl
        clear HO2
        go_wp2_with (go_at_call 64; refine (in_calls _ _ _ _).mono ?_; rintro e w' ⟨rfl, rfl⟩)
        go_meet
        exact ⟨by rw [HC.out], rfl⟩
      | true =>
        cases h3 : inB 0 31 n.sh with
        | false =>
          have HC : Hid (ok1 k n len = false) := by show _ = _; rw [HO2.out, h2, h3]; rfl
          clear HO2
          go_wp2_with (go_at_call 64; refine (in_calls _ _ _ _).mono ?_; rintro e w' ⟨rfl, rfl⟩)
          go_meet
          exact ⟨by rw [HC.out], rfl⟩
        | true =>
          have HC : Hid (ok1 k n len = inB (-128) 127 n.zero) := by show _ = _; rw [HO2.out, h2, h3]; rfl
          clear HO2
          go_wp2_with (go_at_call 64; refine (in_calls _ _ _ _).mono ?_; rintro e w' ⟨rfl, rfl⟩)
          go_meet
          exact ⟨by rw [HC.out], rfl⟩
    · have HC : Hid (ok1 k n len = false) := by show _ = _; rw [HO.out]; simp [h1]
      have h1' : ((len : Int) == k.many) = false := by simp [h1]
      clear h1
      go_wp2_with fail
      go_meet
      exact ⟨by rw [HC.out], rfl⟩
  obtain ⟨rfl, rfl⟩ := hcut
  obtain ⟨q1, e1⟩ : ∃ q, ok1 k n len = q := ⟨_, rfl⟩
  rw [e1]
  have E1 := Lib.hid e1
  clear e1
  go_upto_region 2 with fail
  go_cut [7] (fun s wx => s = .bool (q1 && ok2 n) ∧ w1 = wx)
  case first =>
    cases q1 with
    | false =>
      go_wp2_with fail
      go_meet
      exact ⟨rfl, rfl⟩
    | true =>
      by_cases h1 : n.op = 11
      · have HC : Hid (ok2 n = true) := by show _ = _; simp [ok2, h1]
        go_wp2_with fail
        go_meet
        exact ⟨by rw [HC.out]; rfl, rfl⟩
      · have HO : Hid (ok2 n = (decide (n.th = 0) && (decide (n.tw = 0) && decide (n.tc = 0)))) := by
          show _ = _
          simp only [ok2, h1, decide_false, Bool.false_or, Nd.to, Sz.mk.injEq]
          rw [Bool.eq_iff_iff]
          simp
        by_cases z1 : n.th = 0
        · by_cases z2 : n.tw = 0
          · by_cases z3 : n.tc = 0
            · have HC : Hid (ok2 n = true) := by show _ = _; rw [HO.out]; simp [z1, z2, z3]
              clear HO
              go_wp2_with fail
              go_meet
              exact ⟨by rw [HC.out]; first | rfl | simp [h1], rfl⟩
            · have HC : Hid (ok2 n = false) := by show _ = _; rw [HO.out]; simp [z1, z2, z3]
              clear HO
              go_wp2_with fail
              go_meet
              exact ⟨by rw [HC.out]; first | rfl | simp [h1], rfl⟩
          · have HC : Hid (ok2 n = false) := by show _ = _; rw [HO.out]; simp [z1, z2]
            clear HO
            go_wp2_with fail
            go_meet
            exact ⟨by rw [HC.out]; first | rfl | simp [h1], rfl⟩
        · have HC : Hid (ok2 n = false) := by show _ = _; rw [HO.out]; simp [z1]
          clear HO
          go_wp2_with fail
          go_meet
          exact ⟨by rw [HC.out]; first | rfl | simp [h1], rfl⟩
  obtain ⟨rfl, rfl⟩ := hcut
  obtain ⟨q2, e2⟩ : ∃ q, (q1 && ok2 n) = q := ⟨_, rfl⟩
  rw [e2]
  have E2 := Lib.hid e2
  clear e2
  go_upto_if 41 with fail
  go_cut [7] (fun s wx => s = .bool (q2 && ok3 k n) ∧ w1 = wx)
  case first =>
    have HO : Hid (ok3 k n = if k.window then inB 1 3 n.k && inB 1 2 n.st else decide (n.k = 0) && decide (n.st = 0)) := rfl
    generalize k.window = kw at *
    cases kw with
    | false =>
      have HO2 : Hid (ok3 k n = (decide (n.k = 0) && decide (n.st = 0))) := HO.out
      clear HO
      cases q2 with
      | false =>
        go_wp2_with fail
        go_meet
        exact ⟨rfl, rfl⟩
      | true =>
        by_cases z1 : n.k = 0
        · have HC : Hid (ok3 k n = decide (n.st = 0)) := by show _ = _; rw [HO2.out]; simp [z1]
          clear HO2
          go_wp2_with fail
          go_meet
          exact ⟨by rw [HC.out]; simp [beq_dec], rfl⟩
        · have HC : Hid (ok3 k n = false) := by show _ = _; rw [HO2.out]; simp [z1]
          clear HO2
          go_wp2_with fail
          go_meet
          exact ⟨by rw [HC.out]; rfl, rfl⟩
    | true =>
      have HO2 : Hid (ok3 k n = (inB 1 3 n.k && inB 1 2 n.st)) := HO.out
      clear HO
      cases q2 with
      | false =>
        go_wp2_with fail
        go_meet
        exact ⟨rfl, rfl⟩
      | true =>
        cases h2 : inB 1 3 n.k with
        | false =>
          have HC : Hid (ok3 k n = false) := by show _ = _; rw [HO2.out, h2]; rfl
          clear HO2
          go_wp2_with (go_at_call 64; refine (in_calls _ _ _ _).mono ?_; rintro e w' ⟨rfl, rfl⟩)
          go_meet
          exact ⟨by rw [HC.out]; rfl, rfl⟩
        | true =>
          have HC : Hid (ok3 k n = inB 1 2 n.st) := by show _ = _; rw [HO2.out, h2]; rfl
          clear HO2
          go_wp2_with (go_at_call 64; refine (in_calls _ _ _ _).mono ?_; rintro e w' ⟨rfl, rfl⟩)
          go_meet
          exact ⟨by rw [HC.out]; rfl, rfl⟩
  obtain ⟨rfl, rfl⟩ := hcut
  obtain ⟨q3, e3⟩ : ∃ q, (q2 && ok3 k n) = q := ⟨_, rfl⟩
  rw [e3]
  have E3 := Lib.hid e3
  clear e3
  go_upto_block 0 with fail
  go_cut [7] (fun s wx => s = .bool (q3 && ok4 k n) ∧ w1 = wx)
  case first =>
    have HO : Hid (ok4 k n = if k.pads then inB 0 (min 1 (n.k - 1)) n.pad else if k.padded then decide (n.pad = 1) else decide (n.pad = 0)) := rfl
    generalize k.pads = kp at *
    cases kp with
    | false =>
      generalize k.padded = kd at *
      cases kd with
      | false =>
        have HC : Hid (ok4 k n = decide (n.pad = 0)) := HO.out
        clear HO
        cases q3 with
        | false =>
          go_wp2_with fail
          go_meet
          exact ⟨rfl, rfl⟩
        | true =>
          go_wp2_with fail
          go_meet
          exact ⟨by rw [HC.out]; simp [beq_dec], rfl⟩
      | true =>
        have HC : Hid (ok4 k n = decide (n.pad = 1)) := HO.out
        clear HO
        cases q3 with
        | false =>
          go_wp2_with fail
          go_meet
          exact ⟨rfl, rfl⟩
        | true =>
          go_wp2_with fail
          go_meet
          exact ⟨by rw [HC.out]; simp [beq_dec], rfl⟩
    | true =>
      have HC : Hid (ok4 k n = inB 0 (min 1 (n.k - 1)) n.pad) := HO.out
      clear HO
      cases q3 with
      | false =>
        go_wp2_with fail
        go_meet
        exact ⟨rfl, rfl⟩
      | true =>
        have hkk := HK.out rfl (Bool.and_eq_true_iff.1 E3.out).2
        obtain ⟨kk1, kk2⟩ := hkk
        go_wp2_with (go_at_call 64; refine (in_calls _ _ _ _).mono ?_; rintro e w' ⟨rfl, rfl⟩)
        go_meet
        exact ⟨by rw [HC.out]; rfl, rfl⟩
  obtain ⟨rfl, rfl⟩ := hcut
  obtain ⟨q4, e4⟩ : ∃ q, (q3 && ok4 k n) = q := ⟨_, rfl⟩
  rw [e4]
  have E4 := Lib.hid e4
  clear e4
  have HN : Hid (nodeOk k n len = (q4 && ok5 k n)) := by show _ = _; unfold nodeOk; rw [E1.out, E2.out, E3.out, E4.out]
  have HO : Hid (ok5 k n = if k.out then inB 1 8 n.out else decide (n.out = 0)) := rfl
  generalize k.out = ko at *
  cases ko with
  | false =>
    have HC : Hid (ok5 k n = decide (n.out = 0)) := HO.out
    clear HO
    cases q4 with
    | false =>
      go_wp2_with fail
      go_ret
      exact ⟨ret_bool (by rw [HN.out]; rfl), hE⟩
    | true =>
      go_wp2_with fail
      go_ret
      exact ⟨ret_bool (by rw [HN.out, HC.out]; simp [beq_dec]), hE⟩
  | true =>
    have HC : Hid (ok5 k n = inB 1 8 n.out) := HO.out
    clear HO
    cases q4 with
    | false =>
      go_wp2_with fail
      go_ret
      exact ⟨ret_bool (by rw [HN.out]; rfl), hE⟩
    | true =>
      go_wp2_with (go_at_call 64; refine (in_calls _ _ _ _).mono ?_; rintro e w' ⟨rfl, rfl⟩)
      go_ret
      exact ⟨ret_bool (by rw [HN.out, HC.out]; rfl), hE⟩

end Go.Proofs.Ytmddlhfahfelpaa
