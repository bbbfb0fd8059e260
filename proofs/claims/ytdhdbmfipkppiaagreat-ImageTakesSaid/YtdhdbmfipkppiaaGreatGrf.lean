/- Package graph: within; whether a node of a kind may be. -/
/- slices.IndexFunc and ContainsFunc at values and at biases; rows of values. -/
import Derived.Test.YtdhdbmfipkppiaaGreatGrd
import Derived.Deep.Cut
import Derived.Deep.CutBlock
import Derived.Deep.DeepCutAuto
set_option linter.unusedSimpArgs false
set_option linter.unusedVariables false
set_option linter.unnecessarySimpa false
namespace Go.Proofs.YtdhdbmfipkppiaaGreat
open Go.RowKit

theorem in_calls (x lo hi : Int) (w : World) : Calls Tryz.prog 83 #[.int .i64 x, .int .i64 lo, .int .i64 hi] w fun e w' => e = .returned (.bool (inB lo hi x)) ∧ w = w' := by
  by_cases h1 : lo ≤ x
  · by_cases h2 : x ≤ hi
    · have HI : Hid (inB lo hi x = true) := by show _ = _; simp [inB, h1, h2]
      go_enter Tryz.func83, Tryz.ntmps83
      go_wp2
      go_ret
      exact ⟨ret_bool (by rw [HI.out]), rfl⟩
    · have HI : Hid (inB lo hi x = false) := by show _ = _; simp [inB, h2]
      go_enter Tryz.func83, Tryz.ntmps83
      go_wp2
      go_ret
      exact ⟨ret_bool (by rw [HI.out]), rfl⟩
  · have HI : Hid (inB lo hi x = false) := by show _ = _; simp [inB, h1]
    go_enter Tryz.func83, Tryz.ntmps83
    go_wp2
    go_ret
    exact ⟨ret_bool (by rw [HI.out]), rfl⟩

theorem beq_dec (a b : Int) : (a == b) = decide (a = b) := by rw [Bool.eq_iff_iff]; simp

def ok1 (k : Kn) (n : Nd) (len : Nat) : Bool := decide ((len : Int) = k.many) && inB 1 32767 n.mul && inB 0 31 n.sh && inB (-128) 127 n.zero
def ok2 (n : Nd) : Bool := decide (n.op = 11) || decide (n.to = ⟨0, 0, 0⟩)
def ok3 (k : Kn) (n : Nd) : Bool := if k.window then inB 1 3 n.k && inB 1 2 n.st else decide (n.k = 0) && decide (n.st = 0)
def ok4 (k : Kn) (n : Nd) : Bool := if k.pads then inB 0 (min 1 (n.k - 1)) n.pad else if k.padded then decide (n.pad = 1) else decide (n.pad = 0)
def ok5 (k : Kn) (n : Nd) : Bool := if k.out then inB 1 8 n.out else decide (n.out = 0)
def nodeOk (k : Kn) (n : Nd) (len : Nat) : Bool := ok1 k n len && ok2 n && ok3 k n && ok4 k n && ok5 k n

set_option maxRecDepth 8000 in
set_option maxHeartbeats 3200000 in
theorem kmay_calls (k : Kn) (n : Nd) (A : Option Addr) (len cap : Nat) (w : World) (hpw : k.pads = true → k.window = true) :
    Calls Tryz.prog 86 #[.agg #[.int .i64 k.many, .bool k.window, .bool k.pads, .bool k.padded, .bool k.out, .bool k.keeps, .func (.func k.mf) #[] #[], .func (.func k.wf) #[] #[]], .agg #[.int .i64 n.op, n.inV, .int .i64 n.k, .int .i64 n.st, .int .i64 n.pad, .int .i64 n.out, .int .i64 n.mul, .int .i64 n.sh, .int .i64 n.zero, .int .i64 n.th, .int .i64 n.tw, .int .i64 n.tc, n.wV, n.bV], .slice A len cap] w fun e w' => e = .returned (.bool (nodeOk k n len)) ∧ Ext w w' := by
  have hE := (ext_alloc w (.cells #[.int .i64 k.many, .bool k.window, .bool k.pads, .bool k.padded, .bool k.out, .bool k.keeps, .func (.func k.mf) #[] #[], .func (.func k.wf) #[] #[]] 126)).trans (ext_alloc _ (.cells #[.int .i64 n.op, n.inV, .int .i64 n.k, .int .i64 n.st, .int .i64 n.pad, .int .i64 n.out, .int .i64 n.mul, .int .i64 n.sh, .int .i64 n.zero, .int .i64 n.th, .int .i64 n.tw, .int .i64 n.tc, n.wV, n.bV] 67))
  have hk := (Blk.new w #[.int .i64 k.many, .bool k.window, .bool k.pads, .bool k.padded, .bool k.out, .bool k.keeps, .func (.func k.mf) #[] #[], .func (.func k.wf) #[] #[]] 126).ext (ext_alloc _ (.cells #[.int .i64 n.op, n.inV, .int .i64 n.k, .int .i64 n.st, .int .i64 n.pad, .int .i64 n.out, .int .i64 n.mul, .int .i64 n.sh, .int .i64 n.zero, .int .i64 n.th, .int .i64 n.tw, .int .i64 n.tc, n.wV, n.bV] 67))
  have hn := Blk.new (w.alloc (.cells #[.int .i64 k.many, .bool k.window, .bool k.pads, .bool k.padded, .bool k.out, .bool k.keeps, .func (.func k.mf) #[] #[], .func (.func k.wf) #[] #[]] 126)) #[.int .i64 n.op, n.inV, .int .i64 n.k, .int .i64 n.st, .int .i64 n.pad, .int .i64 n.out, .int .i64 n.mul, .int .i64 n.sh, .int .i64 n.zero, .int .i64 n.th, .int .i64 n.tw, .int .i64 n.tc, n.wV, n.bV] 67
  rw [show (w.alloc (.cells #[.int .i64 k.many, .bool k.window, .bool k.pads, .bool k.padded, .bool k.out, .bool k.keeps, .func (.func k.mf) #[] #[], .func (.func k.wf) #[] #[]] 126)).heap.size = w.heap.size + 1 from by simp] at hn
  have HK : Hid (k.pads = true → ok3 k n = true → 1 ≤ n.k ∧ n.k ≤ 3) := fun hp h3 => by
    unfold ok3 at h3
    rw [if_pos (hpw hp)] at h3
    simp only [inB, Bool.and_eq_true, decide_eq_true_eq] at h3
    exact h3.1
  clear hpw
  go_enter Tryz.func86, Tryz.ntmps86
  go_upto_region 1 with fail
  generalize World.alloc (World.alloc w _) _ = w1 at *
  have k0 : w1.cell? ⟨w.heap.size, 0, none⟩ = some (.int .i64 k.many) := hk.cell 0
  have k1 : w1.cell? ⟨w.heap.size, 1, none⟩ = some (.bool k.window) := hk.cell 1
  have k2 : w1.cell? ⟨w.heap.size, 2, none⟩ = some (.bool k.pads) := hk.cell 2
  have k3 : w1.cell? ⟨w.heap.size, 3, none⟩ = some (.bool k.padded) := hk.cell 3
  have k4 : w1.cell? ⟨w.heap.size, 4, none⟩ = some (.bool k.out) := hk.cell 4
  have n0 : w1.cell? ⟨w.heap.size + 1, 0, none⟩ = some (.int .i64 n.op) := hn.cell 0
  have n2 : w1.cell? ⟨w.heap.size + 1, 2, none⟩ = some (.int .i64 n.k) := hn.cell 2
  have n3 : w1.cell? ⟨w.heap.size + 1, 3, none⟩ = some (.int .i64 n.st) := hn.cell 3
  have n4 : w1.cell? ⟨w.heap.size + 1, 4, none⟩ = some (.int .i64 n.pad) := hn.cell 4
  have n5 : w1.cell? ⟨w.heap.size + 1, 5, none⟩ = some (.int .i64 n.out) := hn.cell 5
  have n6 : w1.cell? ⟨w.heap.size + 1, 6, none⟩ = some (.int .i64 n.mul) := hn.cell 6
  have n7 : w1.cell? ⟨w.heap.size + 1, 7, none⟩ = some (.int .i64 n.sh) := hn.cell 7
  have n8 : w1.cell? ⟨w.heap.size + 1, 8, none⟩ = some (.int .i64 n.zero) := hn.cell 8
  have n9 : w1.cell? ⟨w.heap.size + 1, 9, none⟩ = some (.int .i64 n.th) := hn.cell 9
  have n10 : w1.cell? ⟨w.heap.size + 1, 10, none⟩ = some (.int .i64 n.tw) := hn.cell 10
  have n11 : w1.cell? ⟨w.heap.size + 1, 11, none⟩ = some (.int .i64 n.tc) := hn.cell 11
  clear hk hn
  go_cut [0, 1, 7] (fun _ _ s wx => s = .bool (ok1 k n len) ∧ w1 = wx)
  case first =>
    have HO : Hid (ok1 k n len = (decide ((len : Int) = k.many) && inB 1 32767 n.mul && inB 0 31 n.sh && inB (-128) 127 n.zero)) := rfl
    by_cases h1 : (len : Int) = k.many
    · have h1' : ((len : Int) == k.many) = true := by simp [h1]
      have d1 : decide ((len : Int) = k.many) = true := by simp [h1]
      have HO2 : Hid (ok1 k n len = (inB 1 32767 n.mul && inB 0 31 n.sh && inB (-128) 127 n.zero)) := by show _ = _; rw [HO.out, d1]; simp
      clear HO d1
      have H1 := Lib.hid h1
      clear h1
      cases h2 : inB 1 32767 n.mul with
      | false =>
        have HC : Hid (ok1 k n len = false) := by show _ = _; rw [HO2.out, h2]; rfl
        clear HO2
        go_wp2_with (go_at_call 83; refine (in_calls _ _ _ _).mono ?_; rintro e w' ⟨rfl, rfl⟩)
        go_meet
        exact ⟨by rw [HC.out], rfl⟩
      | true =>
        cases h3 : inB 0 31 n.sh with
        | false =>
          have HC : Hid (ok1 k n len = false) := by show _ = _; rw [HO2.out, h2, h3]; rfl
          clear HO2
          go_wp2_with (go_at_call 83; refine (in_calls _ _ _ _).mono ?_; rintro e w' ⟨rfl, rfl⟩)
          go_meet
          exact ⟨by rw [HC.out], rfl⟩
        | true =>
          have HC : Hid (ok1 k n len = inB (-128) 127 n.zero) := by show _ = _; rw [HO2.out, h2, h3]; rfl
          clear HO2
          go_wp2_with (go_at_call 83; refine (in_calls _ _ _ _).mono ?_; rintro e w' ⟨rfl, rfl⟩)
          go_meet
          exact ⟨by rw [HC.out], rfl⟩
    · have HC : Hid (ok1 k n len = false) := by show _ = _; rw [HO.out]; simp [h1]
      have h1' : ((len : Int) == k.many) = false := by simp [h1]
      clear h1
      go_wp2_with fail
      go_meet
      exact ⟨by rw [HC.out], rfl⟩
  obtain ⟨rfl, rfl⟩ := hcut
  obtain ⟨q1, e1⟩ : ∃ q, ok1 k n len = q := ⟨_, rfl⟩
  rw [e1]
  have E1 := Lib.hid e1
  clear e1
  go_upto_region 2 with fail
  go_cut [7] (fun s wx => s = .bool (q1 && ok2 n) ∧ w1 = wx)
  case first =>
    cases q1 with
    | false =>
      go_wp2_with fail
      go_meet
      exact ⟨rfl, rfl⟩
    | true =>
      by_cases h1 : n.op = 11
      · have HC : Hid (ok2 n = true) := by show _ = _; simp [ok2, h1]
        go_wp2_with fail
        go_meet
        exact ⟨by rw [HC.out]; rfl, rfl⟩
      · have HO : Hid (ok2 n = (decide (n.th = 0) && (decide (n.tw = 0) && decide (n.tc = 0)))) := by
          show _ = _
          simp only [ok2, h1, decide_false, Bool.false_or, Nd.to, Sz.mk.injEq]
          rw [Bool.eq_iff_iff]
          simp
        by_cases z1 : n.th = 0
        · by_cases z2 : n.tw = 0
          · by_cases z3 : n.tc = 0
            · have HC : Hid (ok2 n = true) := by show _ = _; rw [HO.out]; simp [z1, z2, z3]
              clear HO
              go_wp2_with fail
              go_meet
              exact ⟨by rw [HC.out]; first | rfl | simp [h1], rfl⟩
            · have HC : Hid (ok2 n = false) := by show _ = _; rw [HO.out]; simp [z1, z2, z3]
              clear HO
              go_wp2_with fail
              go_meet
              exact ⟨by rw [HC.out]; first | rfl | simp [h1], rfl⟩
          · have HC : Hid (ok2 n = false) := by show _ = _; rw [HO.out]; simp [z1, z2]
            clear HO
            go_wp2_with fail
            go_meet
            exact ⟨by rw [HC.out]; first | rfl | simp [h1], rfl⟩
        · have HC : Hid (ok2 n = false) := by show _ = _; rw [HO.out]; simp [z1]
          clear HO
          go_wp2_with fail
          go_meet
          exact ⟨by rw [HC.out]; first | rfl | simp [h1], rfl⟩
  obtain ⟨rfl, rfl⟩ := hcut
  obtain ⟨q2, e2⟩ : ∃ q, (q1 && ok2 n) = q := ⟨_, rfl⟩
  rw [e2]
  have E2 := Lib.hid e2
  clear e2
  go_upto_if 41 with fail
  go_cut [7] (fun s wx => s = .bool (q2 && ok3 k n) ∧ w1 = wx)
  case first =>
    have HO : Hid (ok3 k n = if k.window then inB 1 3 n.k && inB 1 2 n.st else decide (n.k = 0) && decide (n.st = 0)) := rfl
    generalize k.window = kw at *
    cases kw with
    | false =>
      have HO2 : Hid (ok3 k n = (decide (n.k = 0) && decide (n.st = 0))) := HO.out
      clear HO
      cases q2 with
      | false =>
        go_wp2_with fail
        go_meet
        exact ⟨rfl, rfl⟩
      | true =>
        by_cases z1 : n.k = 0
        · have HC : Hid (ok3 k n = decide (n.st = 0)) := by show _ = _; rw [HO2.out]; simp [z1]
          clear HO2
          go_wp2_with fail
          go_meet
          exact ⟨by rw [HC.out]; simp [beq_dec], rfl⟩
        · have HC : Hid (ok3 k n = false) := by show _ = _; rw [HO2.out]; simp [z1]
          clear HO2
          go_wp2_with fail
          go_meet
          exact ⟨by rw [HC.out]; rfl, rfl⟩
    | true =>
      have HO2 : Hid (ok3 k n = (inB 1 3 n.k && inB 1 2 n.st)) := HO.out
      clear HO
      cases q2 with
      | false =>
        go_wp2_with fail
        go_meet
        exact ⟨rfl, rfl⟩
      | true =>
        cases h2 : inB 1 3 n.k with
        | false =>
          have HC : Hid (ok3 k n = false) := by show _ = _; rw [HO2.out, h2]; rfl
          clear HO2
          go_wp2_with (go_at_call 83; refine (in_calls _ _ _ _).mono ?_; rintro e w' ⟨rfl, rfl⟩)
          go_meet
          exact ⟨by rw [HC.out]; rfl, rfl⟩
        | true =>
          have HC : Hid (ok3 k n = inB 1 2 n.st) := by show _ = _; rw [HO2.out, h2]; rfl
          clear HO2
          go_wp2_with (go_at_call 83; refine (in_calls _ _ _ _).mono ?_; rintro e w' ⟨rfl, rfl⟩)
          go_meet
          exact ⟨by rw [HC.out]; rfl, rfl⟩
  obtain ⟨rfl, rfl⟩ := hcut
  obtain ⟨q3, e3⟩ : ∃ q, (q2 && ok3 k n) = q := ⟨_, rfl⟩
  rw [e3]
  have E3 := Lib.hid e3
  clear e3
  go_upto_block 0 with fail
  go_cut [7] (fun s wx => s = .bool (q3 && ok4 k n) ∧ w1 = wx)
  case first =>
    have HO : Hid (ok4 k n = if k.pads then inB 0 (min 1 (n.k - 1)) n.pad else if k.padded then decide (n.pad = 1) else decide (n.pad = 0)) := rfl
    generalize k.pads = kp at *
    cases kp with
    | false =>
      generalize k.padded = kd at *
      cases kd with
      | false =>
        have HC : Hid (ok4 k n = decide (n.pad = 0)) := HO.out
        clear HO
        cases q3 with
        | false =>
          go_wp2_with fail
          go_meet
          exact ⟨rfl, rfl⟩
        | true =>
          go_wp2_with fail
          go_meet
          exact ⟨by rw [HC.out]; simp [beq_dec], rfl⟩
      | true =>
        have HC : Hid (ok4 k n = decide (n.pad = 1)) := HO.out
        clear HO
        cases q3 with
        | false =>
          go_wp2_with fail
          go_meet
          exact ⟨rfl, rfl⟩
        | true =>
          go_wp2_with fail
          go_meet
          exact ⟨by rw [HC.out]; simp [beq_dec], rfl⟩
    | true =>
      have HC : Hid (ok4 k n = inB 0 (min 1 (n.k - 1)) n.pad) := HO.out
      clear HO
      cases q3 with
      | false =>
        go_wp2_with fail
        go_meet
        exact ⟨rfl, rfl⟩
      | true =>
        have hkk := HK.out rfl (Bool.and_eq_true_iff.1 E3.out).2
        obtain ⟨kk1, kk2⟩ := hkk
        go_wp2_with (go_at_call 83; refine (in_calls _ _ _ _).mono ?_; rintro e w' ⟨rfl, rfl⟩)
        go_meet
        exact ⟨by rw [HC.out]; rfl, rfl⟩
  obtain ⟨rfl, rfl⟩ := hcut
  obtain ⟨q4, e4⟩ : ∃ q, (q3 && ok4 k n) = q := ⟨_, rfl⟩
  rw [e4]
  have E4 := Lib.hid e4
  clear e4
  have HN : Hid (nodeOk k n len = (q4 && ok5 k n)) := by show _ = _; unfold nodeOk; rw [E1.out, E2.out, E3.out, E4.out]
  have HO : Hid (ok5 k n = if k.out then inB 1 8 n.out else decide (n.out = 0)) := rfl
  generalize k.out = ko at *
  cases ko with
  | false =>
    have HC : Hid (ok5 k n = decide (n.out = 0)) := HO.out
    clear HO
    cases q4 with
    | false =>
      go_wp2_with fail
      go_ret
      exact ⟨ret_bool (by rw [HN.out]; rfl), hE⟩
    | true =>
      go_wp2_with fail
      go_ret
      exact ⟨ret_bool (by rw [HN.out, HC.out]; simp [beq_dec]), hE⟩
  | true =>
    have HC : Hid (ok5 k n = inB 1 8 n.out) := HO.out
    clear HO
    cases q4 with
    | false =>
      go_wp2_with fail
      go_ret
      exact ⟨ret_bool (by rw [HN.out]; rfl), hE⟩
    | true =>
      go_wp2_with (go_at_call 83; refine (in_calls _ _ _ _).mono ?_; rintro e w' ⟨rfl, rfl⟩)
      go_ret
      exact ⟨ret_bool (by rw [HN.out, HC.out]; rfl), hE⟩

end Go.Proofs.YtdhdbmfipkppiaaGreat

namespace Go.Proofs.YtdhdbmfipkppiaaGreat
open Go.RowKit

/-! Rows of structs. -/
theorem flat_get {α : Type} {cs : α → List Value} {sz : Nat} (hsz : ∀ x, (cs x).length = sz) : ∀ (l : List α) (j i : Nat), i < sz → (l.flatMap cs)[j * sz + i]? = (l[j]?).bind fun s => (cs s)[i]?
  | [], j, i, _ => by simp
  | s :: l, 0, i, hi => by
    rw [List.flatMap_cons, Nat.zero_mul, Nat.zero_add, List.getElem?_append_left (by rw [hsz]; exact hi)]
    rfl
  | s :: l, j + 1, i, hi => by
    rw [List.flatMap_cons, List.getElem?_append_right (by rw [hsz, Nat.succ_mul]; omega), show (j + 1) * sz + i - (cs s).length = j * sz + i from by rw [hsz, Nat.succ_mul]; omega, flat_get hsz l j i hi]
    rfl

def SRow (w : World) (v : Value) {α : Type} (cs : α → List Value) (sz : Nat) (l : List α) : Prop := Row w v l.length sz (l.flatMap cs)

theorem SRow.form {w : World} {v : Value} {α : Type} {cs : α → List Value} {sz : Nat} {l : List α} (h : SRow w v cs sz l) (hsz : ∀ x, (cs x).length = sz) (h0 : 0 < sz) : ∃ A c, v = .slice A l.length c ∧ l.length ≤ c ∧ c ≤ maxLen ∧
    (∀ j x, l[j]? = some x → ∃ b off, A = some ⟨b, off, none⟩ ∧ b < w.heap.size ∧ ∀ i u, (cs x)[i]? = some u → w.cell? ⟨b, off + j * sz + i, none⟩ = some u) := by
  obtain ⟨A, c, e, h1, h2, h3, h4⟩ := h
  refine ⟨A, c, e, h1, h2, fun j x hj => ?_⟩
  have hlx := hsz x
  obtain ⟨b, off, rfl, k0⟩ := h4 (j * sz + 0) (cs x)[0] (by rw [flat_get hsz _ _ _ h0, hj]; simp)
  refine ⟨b, off, rfl, World.block_lt_of_cell? w _ k0, fun i u hu => ?_⟩
  have hi : i < sz := by
    have := (List.getElem?_eq_some_iff.1 hu).1
    omega
  obtain ⟨_, _, e1, k1⟩ := h4 (j * sz + i) u (by rw [flat_get hsz _ _ _ hi, hj]; exact hu)
  cases e1
  rw [Nat.add_assoc]
  exact k1

/-- A value: its shape, and what stands for nought. -/
structure Vl where
  s : Sz
  z : Int
deriving DecidableEq, Inhabited
def Vl.cs (x : Vl) : List Value := [.int .i64 x.s.h, .int .i64 x.s.w, .int .i64 x.s.c, .int .i64 x.z]
def Vls (w : World) (v : Value) (l : List Vl) : Prop := SRow w v Vl.cs 4 l
theorem Vls.ext {w W : World} {v : Value} {l : List Vl} (h : Vls w v l) (e : Ext w W) : Vls W v l := Row.below h e
theorem Vls.form {w : World} {v : Value} {l : List Vl} (h : Vls w v l) : ∃ A c, v = .slice A l.length c ∧ l.length ≤ c ∧ c ≤ maxLen ∧
    (∀ j x, l[j]? = some x → ∃ b off, A = some ⟨b, off, none⟩ ∧ b < w.heap.size ∧ ∀ i u, (Vl.cs x)[i]? = some u → w.cell? ⟨b, off + j * 4 + i, none⟩ = some u) := SRow.form h (fun _ => rfl) (by omega)

theorem elem_i32 : ElemT Tryz.prog 65 21 1 4 := elemT_of (z := .int .i32 0) Tryz.underlying65 (by kernel_rfl) rfl (by omega)
theorem elem_vl : ElemT Tryz.prog 24 41 4 32 := elemT_of (z := .agg #[.int .i64 0, .int .i64 0, .int .i64 0, .int .i64 0]) Tryz.underlying24 (by kernel_rfl) rfl (by omega)

/-- A function value that tells of one Vl. -/
def TellsVl (g : Nat) (lb : Array Value) (p : Vl → Bool) (w : World) : Prop :=
  ∀ (W : World) (x : Vl), Ext w W → Calls Tryz.prog g (#[.agg #[.int .i64 x.s.h, .int .i64 x.s.w, .int .i64 x.s.c, .int .i64 x.z]] ++ lb) W fun e w' => e = .returned (.bool (p x)) ∧ Ext W w'

set_option maxHeartbeats 800000 in
theorem indexVl_calls (g : Nat) (lb : Array Value) (p : Vl → Bool) (v : Value) (l : List Vl) (w : World) (hv : Vls w v l) (eg : ∀ args w, (callFunc g args).run Tryz.prog w = .ok (.enter g args) w) (hp : TellsVl g lb p w) :
    Calls Tryz.prog 112 #[v, .func (.func g) #[] lb] w fun e w' => (∃ i : Int, e = .returned (.int .i64 i) ∧ decide (0 ≤ i) = l.any p) ∧ Ext w w' := by
  have hv0 := hv
  obtain ⟨A, c, rfl, hlc, hcm, _⟩ := hv.form
  unfold maxLen at hcm
  clear hv
  go_enter Tryz.func112, Tryz.ntmps112
  go_wp2
  go_loopw [5, 8] (fun _ i wr => ∃ k : Nat, k ≤ l.length ∧ i = .int .i64 k ∧ Hid ((l.take k).any p = false) ∧ Ext w wr) (fun _ i _ => l.length - (intOf i).toNat)
  case atStart => exact ⟨0, by omega, rfl, rfl, Ext.refl _⟩
  case round =>
    obtain ⟨k, hk, rfl, hn, hbel⟩ := hrel
    by_cases hlt : k < l.length
    · obtain ⟨_, _, e1, _, _, hc⟩ := (hv0.ext hbel).form
      cases e1
      have hs : l[k]? = some l[k] := by simp [hlt]
      obtain ⟨b, off, rfl, _, hcc⟩ := hc k _ hs
      have c0 : wr.cell? ⟨b, off + k * 4, none⟩ = some (.int .i64 l[k].s.h) := hcc 0 _ rfl
      have c1 : wr.cell? ⟨b, off + k * 4 + 1, none⟩ = some (.int .i64 l[k].s.w) := hcc 1 _ rfl
      have c2 : wr.cell? ⟨b, off + k * 4 + 2, none⟩ = some (.int .i64 l[k].s.c) := hcc 2 _ rfl
      have c3 : wr.cell? ⟨b, off + k * 4 + 3, none⟩ = some (.int .i64 l[k].z) := hcc 3 _ rfl
      clear hs hcc
      have hcall := hp wr l[k] hbel
      have HT : Hid (p l[k] = true → l.any p = true) := fun h => List.any_eq_true.2 ⟨_, List.getElem_mem hlt, h⟩
      have HF : Hid (p l[k] = false → (l.take (k + 1)).any p = false) := by
        show _ → _
        intro h
        rw [List.take_succ_eq_append_getElem hlt, List.any_append, hn.out]
        simp [h]
      clear hc hp
      generalize l[k] = y at *
      cases hq : p y with
      | true =>
        have HT1 := Lib.hid (HT.out hq)
        rw [hq] at hcall
        clear HF HT hq
        go_wp2_with (go_at_fn g; refine hcall.mono ?_; rintro e w' ⟨rfl, hb'⟩)
        go_ret
        exact ⟨⟨k, rfl, by rw [HT1.out]; simp⟩, hbel.trans hb'⟩
      | false =>
        have HF1 := Lib.hid (HF.out hq)
        rw [hq] at hcall
        clear HF HT hq
        go_wp2_with (go_at_fn g; refine hcall.mono ?_; rintro e w' ⟨rfl, hb'⟩)
        go_roundw
        case rel => exact ⟨k + 1, by omega, by go_num, HF1, hbel.trans hb'⟩
        case measure => simp [intOf]; omega
    · have hkk : k = l.length := by omega
      have HE : Hid (l.any p = false) := by
        show _ = _
        have := hn.out
        rwa [hkk, List.take_length] at this
      go_wp2
      go_ret
      exact ⟨⟨-1, rfl, by rw [HE.out]; rfl⟩, hbel⟩

set_option maxHeartbeats 400000 in
theorem containsVl_calls (g : Nat) (lb : Array Value) (p : Vl → Bool) (v : Value) (l : List Vl) (w : World) (hv : Vls w v l) (eg : ∀ args w, (callFunc g args).run Tryz.prog w = .ok (.enter g args) w) (hp : TellsVl g lb p w) :
    Calls Tryz.prog 87 #[v, .func (.func g) #[] lb] w fun e w' => e = .returned (.bool (l.any p)) ∧ Ext w w' := by
  go_enter Tryz.func87, Tryz.ntmps87
  go_wp2_with fail
  refine (indexVl_calls g lb p v l w hv eg hp).mono ?_
  rintro e w1 ⟨⟨i, rfl, hi⟩, hb⟩
  have HI := Lib.hid hi
  clear hi
  go_wp2
  go_ret
  exact ⟨ret_bool HI.out, hb⟩

/-- A function value that tells of one I32. -/
def TellsI32 (g : Nat) (lb : Array Value) (p : Int → Bool) (w : World) : Prop :=
  ∀ (W : World) (x : Int), Ext w W → InK .i32 x → Calls Tryz.prog g (#[.int .i32 x] ++ lb) W fun e w' => e = .returned (.bool (p x)) ∧ Ext W w'

set_option maxHeartbeats 800000 in
theorem indexI32_calls (g : Nat) (lb : Array Value) (p : Int → Bool) (v : Value) (l : List Int) (w : World) (hv : Ints .i32 w v l) (eg : ∀ args w, (callFunc g args).run Tryz.prog w = .ok (.enter g args) w) (hp : TellsI32 g lb p w) (hin : ∀ z ∈ l, InK .i32 z) :
    Calls Tryz.prog 113 #[v, .func (.func g) #[] lb] w fun e w' => (∃ i : Int, e = .returned (.int .i64 i) ∧ decide (0 ≤ i) = l.any p) ∧ Ext w w' := by
  have hv0 := hv
  obtain ⟨A, c, rfl, hlc, hcm, _⟩ := hv.form
  unfold maxLen at hcm
  clear hv
  go_enter Tryz.func113, Tryz.ntmps113
  go_wp2
  go_loopw [5, 8] (fun _ i wr => ∃ k : Nat, k ≤ l.length ∧ i = .int .i64 k ∧ Hid ((l.take k).any p = false) ∧ Ext w wr) (fun _ i _ => l.length - (intOf i).toNat)
  case atStart => exact ⟨0, by omega, rfl, rfl, Ext.refl _⟩
  case round =>
    obtain ⟨k, hk, rfl, hn, hbel⟩ := hrel
    by_cases hlt : k < l.length
    · obtain ⟨_, _, e1, _, _, hc⟩ := (hv0.ext hbel).form
      cases e1
      obtain ⟨b, off, rfl, c0⟩ := hc k hlt
      have hs : l[k]?.getD 0 = l[k] := by simp [hlt]
      rw [hs] at c0
      clear hs
      have hcall := hp wr l[k] hbel (hin _ (List.getElem_mem hlt))
      have HT : Hid (p l[k] = true → l.any p = true) := fun h => List.any_eq_true.2 ⟨_, List.getElem_mem hlt, h⟩
      have HF : Hid (p l[k] = false → (l.take (k + 1)).any p = false) := by
        show _ → _
        intro h
        rw [List.take_succ_eq_append_getElem hlt, List.any_append, hn.out]
        simp [h]
      clear hc hp
      generalize l[k] = y at *
      cases hq : p y with
      | true =>
        have HT1 := Lib.hid (HT.out hq)
        rw [hq] at hcall
        clear HF HT hq
        go_wp2_with (go_at_fn g; refine hcall.mono ?_; rintro e w' ⟨rfl, hb'⟩)
        go_ret
        exact ⟨⟨k, rfl, by rw [HT1.out]; simp⟩, hbel.trans hb'⟩
      | false =>
        have HF1 := Lib.hid (HF.out hq)
        rw [hq] at hcall
        clear HF HT hq
        go_wp2_with (go_at_fn g; refine hcall.mono ?_; rintro e w' ⟨rfl, hb'⟩)
        go_roundw
        case rel => exact ⟨k + 1, by omega, by go_num, HF1, hbel.trans hb'⟩
        case measure => simp [intOf]; omega
    · have hkk : k = l.length := by omega
      have HE : Hid (l.any p = false) := by
        show _ = _
        have := hn.out
        rwa [hkk, List.take_length] at this
      go_wp2
      go_ret
      exact ⟨⟨-1, rfl, by rw [HE.out]; rfl⟩, hbel⟩

set_option maxHeartbeats 400000 in
theorem containsI32_calls (g : Nat) (lb : Array Value) (p : Int → Bool) (v : Value) (l : List Int) (w : World) (hv : Ints .i32 w v l) (eg : ∀ args w, (callFunc g args).run Tryz.prog w = .ok (.enter g args) w) (hp : TellsI32 g lb p w) (hin : ∀ z ∈ l, InK .i32 z) :
    Calls Tryz.prog 90 #[v, .func (.func g) #[] lb] w fun e w' => e = .returned (.bool (l.any p)) ∧ Ext w w' := by
  go_enter Tryz.func90, Tryz.ntmps90
  go_wp2_with fail
  refine (indexI32_calls g lb p v l w hv eg hp hin).mono ?_
  rintro e w1 ⟨⟨i, rfl, hi⟩, hb⟩
  have HI := Lib.hid hi
  clear hi
  go_wp2
  go_ret
  exact ⟨ret_bool HI.out, hb⟩

/-! The function values of graph.Value. -/
theorem tells_zero (B : Nat) (n : Nd) (w : World) (hB : Blk w B #[.int .i64 n.op, n.inV, .int .i64 n.k, .int .i64 n.st, .int .i64 n.pad, .int .i64 n.out, .int .i64 n.mul, .int .i64 n.sh, .int .i64 n.zero, .int .i64 n.th, .int .i64 n.tw, .int .i64 n.tc, n.wV, n.bV] 67) : TellsVl 88 #[.pointer (some ⟨B, 0, none⟩)] (fun x => !decide (x.z = n.zero)) w := by
  intro W x hE
  have c8 : W.cell? ⟨B, 8, none⟩ = some (.int .i64 n.zero) := (hB.ext hE).cell 8
  have hl := (hB.ext hE).lt
  have hne : B ≠ W.heap.size := by omega
  clear hB
  show Calls Tryz.prog 88 #[.agg #[.int .i64 x.s.h, .int .i64 x.s.w, .int .i64 x.s.c, .int .i64 x.z], .pointer (some ⟨B, 0, none⟩)] W _
  by_cases hz : x.z = n.zero
  · have HD : Hid ((!decide (x.z = n.zero)) = false) := by show _ = _; simp [hz]
    go_enter Tryz.func88, Tryz.ntmps88
    go_wp2
    go_ret
    exact ⟨ret_bool (by simp [hz]), ext_alloc _ _⟩
  · go_enter Tryz.func88, Tryz.ntmps88
    go_wp2
    go_ret
    exact ⟨ret_bool (by simp [hz]), ext_alloc _ _⟩

theorem tells_shape (w : World) : TellsVl 89 #[] (fun x => !x.s.ok) w := by
  intro W x hE
  have hc := fun W => shMay_calls x.s W
  obtain ⟨q, hq⟩ : ∃ q, x.s.ok = q := ⟨_, rfl⟩
  rw [hq] at hc
  have HQ := Lib.hid hq
  clear hq
  show Calls Tryz.prog 89 #[.agg #[.int .i64 x.s.h, .int .i64 x.s.w, .int .i64 x.s.c, .int .i64 x.z]] W _
  go_enter Tryz.func89, Tryz.ntmps89
  go_wp2_with fail
  refine (hc _).mono ?_
  rintro e w' ⟨rfl, h1⟩
  cases q
  all_goals
    go_wp2
    go_ret
    exact ⟨ret_bool (by rw [HQ.out]; rfl), (ext_alloc _ _).trans h1⟩

theorem tells_bias (w : World) : TellsI32 91 #[] (fun x => !inB (-16777216) 16777216 x) w := by
  intro W x hE hx
  obtain ⟨x0, x1⟩ := hx
  show Calls Tryz.prog 91 #[.int .i32 x] W _
  go_enter Tryz.func91, Tryz.ntmps91
  go_wp2_with fail
  refine (in_calls _ _ _ _).mono ?_
  rintro e w' ⟨rfl, rfl⟩
  go_wp2
  go_ret
  exact ⟨rfl, Ext.refl _⟩

end Go.Proofs.YtdhdbmfipkppiaaGreat
