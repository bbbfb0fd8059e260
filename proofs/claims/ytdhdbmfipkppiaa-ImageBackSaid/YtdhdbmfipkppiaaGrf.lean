/- slices.IndexFunc and ContainsFunc at values and at biases; rows of values. -/
import Derived.Test.YtdhdbmfipkppiaaGre
namespace Go.Proofs.Ytdhdbmfipkppiaa
set_option linter.unusedSimpArgs false
set_option linter.unusedVariables false
set_option linter.unnecessarySimpa false
open Go.RowKit

/-! Rows of structs. -/
theorem flat_get {α : Type} {cs : α → List Value} {sz : Nat} (hsz : ∀ x, (cs x).length = sz) : ∀ (l : List α) (j i : Nat), i < sz → (l.flatMap cs)[j * sz + i]? = (l[j]?).bind fun s => (cs s)[i]?
  | [], j, i, _ => by simp
  | s :: l, 0, i, hi => by
    rw [List.flatMap_cons, Nat.zero_mul, Nat.zero_add, List.getElem?_append_left (by rw [hsz]; exact hi)]
    rfl
  | s :: l, j + 1, i, hi => by
    rw [List.flatMap_cons, List.getElem?_append_right (by rw [hsz, Nat.succ_mul]; omega), show (j + 1) * sz + i - (cs s).length = j * sz + i from by rw [hsz, Nat.succ_mul]; omega, flat_get hsz l j i hi]
    rfl

def SRow (w : World) (v : Value) {α : Type} (cs : α → List Value) (sz : Nat) (l : List α) : Prop := Row w v l.length sz (l.flatMap cs)

theorem SRow.form {w : World} {v : Value} {α : Type} {cs : α → List Value} {sz : Nat} {l : List α} (h : SRow w v cs sz l) (hsz : ∀ x, (cs x).length = sz) (h0 : 0 < sz) : ∃ A c, v = .slice A l.length c ∧ l.length ≤ c ∧ c ≤ maxLen ∧
    (∀ j x, l[j]? = some x → ∃ b off, A = some ⟨b, off, none⟩ ∧ b < w.heap.size ∧ ∀ i u, (cs x)[i]? = some u → w.cell? ⟨b, off + j * sz + i, none⟩ = some u) := by
  obtain ⟨A, c, e, h1, h2, h3, h4⟩ := h
  refine ⟨A, c, e, h1, h2, fun j x hj => ?_⟩
  have hlx := hsz x
  obtain ⟨b, off, rfl, k0⟩ := h4 (j * sz + 0) (cs x)[0] (by rw [flat_get hsz _ _ _ h0, hj]; simp)
  refine ⟨b, off, rfl, World.block_lt_of_cell? w _ k0, fun i u hu => ?_⟩
  have hi : i < sz := by
    have := (List.getElem?_eq_some_iff.1 hu).1
    omega
  obtain ⟨_, _, e1, k1⟩ := h4 (j * sz + i) u (by rw [flat_get hsz _ _ _ hi, hj]; exact hu)
  cases e1
  rw [Nat.add_assoc]
  exact k1

/-- A value: its shape, and what stands for nought. -/
structure Vl where
  s : Sz
  z : Int
deriving DecidableEq, Inhabited
def Vl.cs (x : Vl) : List Value := [.int .i64 x.s.h, .int .i64 x.s.w, .int .i64 x.s.c, .int .i64 x.z]
def Vls (w : World) (v : Value) (l : List Vl) : Prop := SRow w v Vl.cs 4 l
theorem Vls.ext {w W : World} {v : Value} {l : List Vl} (h : Vls w v l) (e : Ext w W) : Vls W v l := Row.below h e
theorem Vls.form {w : World} {v : Value} {l : List Vl} (h : Vls w v l) : ∃ A c, v = .slice A l.length c ∧ l.length ≤ c ∧ c ≤ maxLen ∧
    (∀ j x, l[j]? = some x → ∃ b off, A = some ⟨b, off, none⟩ ∧ b < w.heap.size ∧ ∀ i u, (Vl.cs x)[i]? = some u → w.cell? ⟨b, off + j * 4 + i, none⟩ = some u) := SRow.form h (fun _ => rfl) (by omega)

theorem elem_i32 : ElemT Try.prog 38 21 1 4 := elemT_of (z := .int .i32 0) Try.underlying38 (by kernel_rfl) rfl (by omega)
theorem elem_vl : ElemT Try.prog 22 67 4 32 := elemT_of (z := .agg #[.int .i64 0, .int .i64 0, .int .i64 0, .int .i64 0]) Try.underlying22 (by kernel_rfl) rfl (by omega)

/-- A function value that tells of one Vl. -/
def TellsVl (g : Nat) (lb : Array Value) (p : Vl → Bool) (w : World) : Prop :=
  ∀ (W : World) (x : Vl), Ext w W → Calls Try.prog g (#[.agg #[.int .i64 x.s.h, .int .i64 x.s.w, .int .i64 x.s.c, .int .i64 x.z]] ++ lb) W fun e w' => e = .returned (.bool (p x)) ∧ Ext W w'

set_option maxHeartbeats 800000 in
theorem indexVl_calls (g : Nat) (lb : Array Value) (p : Vl → Bool) (v : Value) (l : List Vl) (w : World) (hv : Vls w v l) (eg : ∀ args w, (callFunc g args).run Try.prog w = .ok (.enter g args) w) (hp : TellsVl g lb p w) :
    Calls Try.prog 149 #[v, .func (.func g) #[] lb] w fun e w' => (∃ i : Int, e = .returned (.int .i64 i) ∧ decide (0 ≤ i) = l.any p) ∧ Ext w w' := by
  have hv0 := hv
  obtain ⟨A, c, rfl, hlc, hcm, _⟩ := hv.form
  unfold maxLen at hcm
  clear hv
  go_enter Try.func149, Try.ntmps149
  go_wp2
  go_loopw [5, 8] (fun _ i wr => ∃ k : Nat, k ≤ l.length ∧ i = .int .i64 k ∧ Hid ((l.take k).any p = false) ∧ Ext w wr) (fun _ i _ => l.length - (intOf i).toNat)
  case atStart => exact ⟨0, by omega, rfl, rfl, Ext.refl _⟩
  case round =>
    obtain ⟨k, hk, rfl, hn, hbel⟩ := hrel
    by_cases hlt : k < l.length
    · obtain ⟨_, _, e1, _, _, hc⟩ := (hv0.ext hbel).form
      cases e1
      have hs : l[k]? = some l[k] := by simp [hlt]
      obtain ⟨b, off, rfl, _, hcc⟩ := hc k _ hs
      have c0 : wr.cell? ⟨b, off + k * 4, none⟩ = some (.int .i64 l[k].s.h) := hcc 0 _ rfl
      have c1 : wr.cell? ⟨b, off + k * 4 + 1, none⟩ = some (.int .i64 l[k].s.w) := hcc 1 _ rfl
      have c2 : wr.cell? ⟨b, off + k * 4 + 2, none⟩ = some (.int .i64 l[k].s.c) := hcc 2 _ rfl
      have c3 : wr.cell? ⟨b, off + k * 4 + 3, none⟩ = some (.int .i64 l[k].z) := hcc 3 _ rfl
      clear hs hcc
      have hcall := hp wr l[k] hbel
      have HT : Hid (p l[k] = true → l.any p = true) := fun h => List.any_eq_true.2 ⟨_, List.getElem_mem hlt, h⟩
      have HF : Hid (p l[k] = false → (l.take (k + 1)).any p = false) := by
        show _ → _
        intro h
        rw [List.take_succ_eq_append_getElem hlt, List.any_append, hn.out]
        simp [h]
      clear hc hp
      generalize l[k] = y at *
      cases hq : p y with
      | true =>
        have HT1 := Lib.hid (HT.out hq)
        rw [hq] at hcall
        clear HF HT hq
        go_wp2_with (go_at_fn g; refine hcall.mono ?_; rintro e w' ⟨rfl, hb'⟩)
        go_ret
        exact ⟨⟨k, rfl, by rw [HT1.out]; simp⟩, hbel.trans hb'⟩
      | false =>
        have HF1 := Lib.hid (HF.out hq)
        rw [hq] at hcall
        clear HF HT hq
        go_wp2_with (go_at_fn g; refine hcall.mono ?_; rintro e w' ⟨rfl, hb'⟩)
        go_roundw
        case rel => exact ⟨k + 1, by omega, by go_num, HF1, hbel.trans hb'⟩
        case measure => simp [intOf]; omega
    · have hkk : k = l.length := by omega
      have HE : Hid (l.any p = false) := by
        show _ = _
        have := hn.out
        rwa [hkk, List.take_length] at this
      go_wp2
      go_ret
      exact ⟨⟨-1, rfl, by rw [HE.out]; rfl⟩, hbel⟩

set_option maxHeartbeats 400000 in
theorem containsVl_calls (g : Nat) (lb : Array Value) (p : Vl → Bool) (v : Value) (l : List Vl) (w : World) (hv : Vls w v l) (eg : ∀ args w, (callFunc g args).run Try.prog w = .ok (.enter g args) w) (hp : TellsVl g lb p w) :
    Calls Try.prog 129 #[v, .func (.func g) #[] lb] w fun e w' => e = .returned (.bool (l.any p)) ∧ Ext w w' := by
  go_enter Try.func129, Try.ntmps129
  go_wp2_with fail
  refine (indexVl_calls g lb p v l w hv eg hp).mono ?_
  rintro e w1 ⟨⟨i, rfl, hi⟩, hb⟩
  have HI := Lib.hid hi
  clear hi
  go_wp2
  go_ret
  exact ⟨ret_bool HI.out, hb⟩

/-- A function value that tells of one I32. -/
def TellsI32 (g : Nat) (lb : Array Value) (p : Int → Bool) (w : World) : Prop :=
  ∀ (W : World) (x : Int), Ext w W → InK .i32 x → Calls Try.prog g (#[.int .i32 x] ++ lb) W fun e w' => e = .returned (.bool (p x)) ∧ Ext W w'

set_option maxHeartbeats 800000 in
theorem indexI32_calls (g : Nat) (lb : Array Value) (p : Int → Bool) (v : Value) (l : List Int) (w : World) (hv : Ints .i32 w v l) (eg : ∀ args w, (callFunc g args).run Try.prog w = .ok (.enter g args) w) (hp : TellsI32 g lb p w) (hin : ∀ z ∈ l, InK .i32 z) :
    Calls Try.prog 150 #[v, .func (.func g) #[] lb] w fun e w' => (∃ i : Int, e = .returned (.int .i64 i) ∧ decide (0 ≤ i) = l.any p) ∧ Ext w w' := by
  have hv0 := hv
  obtain ⟨A, c, rfl, hlc, hcm, _⟩ := hv.form
  unfold maxLen at hcm
  clear hv
  go_enter Try.func150, Try.ntmps150
  go_wp2
  go_loopw [5, 8] (fun _ i wr => ∃ k : Nat, k ≤ l.length ∧ i = .int .i64 k ∧ Hid ((l.take k).any p = false) ∧ Ext w wr) (fun _ i _ => l.length - (intOf i).toNat)
  case atStart => exact ⟨0, by omega, rfl, rfl, Ext.refl _⟩
  case round =>
    obtain ⟨k, hk, rfl, hn, hbel⟩ := hrel
    by_cases hlt : k < l.length
    · obtain ⟨_, _, e1, _, _, hc⟩ := (hv0.ext hbel).form
      cases e1
      obtain ⟨b, off, rfl, c0⟩ := hc k hlt
      have hs : l[k]?.getD 0 = l[k] := by simp [hlt]
      rw [hs] at c0
      clear hs
      have hcall := hp wr l[k] hbel (hin _ (List.getElem_mem hlt))
      have HT : Hid (p l[k] = true → l.any p = true) := fun h => List.any_eq_true.2 ⟨_, List.getElem_mem hlt, h⟩
      have HF : Hid (p l[k] = false → (l.take (k + 1)).any p = false) := by
        show _ → _
        intro h
        rw [List.take_succ_eq_append_getElem hlt, List.any_append, hn.out]
        simp [h]
      clear hc hp
      generalize l[k] = y at *
      cases hq : p y with
      | true =>
        have HT1 := Lib.hid (HT.out hq)
        rw [hq] at hcall
        clear HF HT hq
        go_wp2_with (go_at_fn g; refine hcall.mono ?_; rintro e w' ⟨rfl, hb'⟩)
        go_ret
        exact ⟨⟨k, rfl, by rw [HT1.out]; simp⟩, hbel.trans hb'⟩
      | false =>
        have HF1 := Lib.hid (HF.out hq)
        rw [hq] at hcall
        clear HF HT hq
        go_wp2_with (go_at_fn g; refine hcall.mono ?_; rintro e w' ⟨rfl, hb'⟩)
        go_roundw
        case rel => exact ⟨k + 1, by omega, by go_num, HF1, hbel.trans hb'⟩
        case measure => simp [intOf]; omega
    · have hkk : k = l.length := by omega
      have HE : Hid (l.any p = false) := by
        show _ = _
        have := hn.out
        rwa [hkk, List.take_length] at this
      go_wp2
      go_ret
      exact ⟨⟨-1, rfl, by rw [HE.out]; rfl⟩, hbel⟩

set_option maxHeartbeats 400000 in
theorem containsI32_calls (g : Nat) (lb : Array Value) (p : Int → Bool) (v : Value) (l : List Int) (w : World) (hv : Ints .i32 w v l) (eg : ∀ args w, (callFunc g args).run Try.prog w = .ok (.enter g args) w) (hp : TellsI32 g lb p w) (hin : ∀ z ∈ l, InK .i32 z) :
    Calls Try.prog 132 #[v, .func (.func g) #[] lb] w fun e w' => e = .returned (.bool (l.any p)) ∧ Ext w w' := by
  go_enter Try.func132, Try.ntmps132
  go_wp2_with fail
  refine (indexI32_calls g lb p v l w hv eg hp hin).mono ?_
  rintro e w1 ⟨⟨i, rfl, hi⟩, hb⟩
  have HI := Lib.hid hi
  clear hi
  go_wp2
  go_ret
  exact ⟨ret_bool HI.out, hb⟩

/-! The function values of graph.Value. -/
theorem tells_zero (B : Nat) (n : Nd) (w : World) (hB : Blk w B #[.int .i64 n.op, n.inV, .int .i64 n.k, .int .i64 n.st, .int .i64 n.pad, .int .i64 n.out, .int .i64 n.mul, .int .i64 n.sh, .int .i64 n.zero, .int .i64 n.th, .int .i64 n.tw, .int .i64 n.tc, n.wV, n.bV] 40) : TellsVl 130 #[.pointer (some ⟨B, 0, none⟩)] (fun x => !decide (x.z = n.zero)) w := by
  intro W x hE
  have c8 : W.cell? ⟨B, 8, none⟩ = some (.int .i64 n.zero) := (hB.ext hE).cell 8
  have hl := (hB.ext hE).lt
  have hne : B ≠ W.heap.size := by omega
  clear hB
  show Calls Try.prog 130 #[.agg #[.int .i64 x.s.h, .int .i64 x.s.w, .int .i64 x.s.c, .int .i64 x.z], .pointer (some ⟨B, 0, none⟩)] W _
  by_cases hz : x.z = n.zero
  · have HD : Hid ((!decide (x.z = n.zero)) = false) := by show _ = _; simp [hz]
    go_enter Try.func130, Try.ntmps130
    go_wp2
    go_ret
    exact ⟨ret_bool (by simp [hz]), ext_alloc _ _⟩
  · go_enter Try.func130, Try.ntmps130
    go_wp2
    go_ret
    exact ⟨ret_bool (by simp [hz]), ext_alloc _ _⟩

theorem tells_shape (w : World) : TellsVl 131 #[] (fun x => !x.s.ok) w := by
  intro W x hE
  have hc := fun W => shMay_calls x.s W
  obtain ⟨q, hq⟩ : ∃ q, x.s.ok = q := ⟨_, rfl⟩
  rw [hq] at hc
  have HQ := Lib.hid hq
  clear hq
  show Calls Try.prog 131 #[.agg #[.int .i64 x.s.h, .int .i64 x.s.w, .int .i64 x.s.c, .int .i64 x.z]] W _
  go_enter Try.func131, Try.ntmps131
  go_wp2_with fail
  refine (hc _).mono ?_
  rintro e w' ⟨rfl, h1⟩
  cases q
  all_goals
    go_wp2
    go_ret
    exact ⟨ret_bool (by rw [HQ.out]; rfl), (ext_alloc _ _).trans h1⟩

theorem tells_bias (w : World) : TellsI32 133 #[] (fun x => !inB (-16777216) 16777216 x) w := by
  intro W x hE hx
  obtain ⟨x0, x1⟩ := hx
  show Calls Try.prog 133 #[.int .i32 x] W _
  go_enter Try.func133, Try.ntmps133
  go_wp2_with fail
  refine (in_calls _ _ _ _).mono ?_
  rintro e w' ⟨rfl, rfl⟩
  go_wp2
  go_ret
  exact ⟨rfl, Ext.refl _⟩

end Go.Proofs.Ytdhdbmfipkppiaa
