/- slices.IndexFunc and ContainsFunc at values and at biases; rows of values. -/
/- The walks of picked, slices.Clone at values, and goesIn of package graph. -/
import Derived.Test.YtmddlhfahfelpaaGre
import Derived.OwnWalk
set_option linter.unusedSimpArgs false
set_option linter.unusedVariables false
set_option linter.unnecessarySimpa false
namespace Go.Proofs.Ytmddlhfahfelpaa
open Go.RowKit

/-! Rows of structs. -/
theorem flat_get {α : Type} {cs : α → List Value} {sz : Nat} (hsz : ∀ x, (cs x).length = sz) : ∀ (l : List α) (j i : Nat), i < sz → (l.flatMap cs)[j * sz + i]? = (l[j]?).bind fun s => (cs s)[i]?
  | [], j, i, _ => by simp
  | s :: l, 0, i, hi => by
    rw [List.flatMap_cons, Nat.zero_mul, Nat.zero_add, List.getElem?_append_left (by rw [hsz]; exact hi)]
    rfl
  | s :: l, j + 1, i, hi => by
    rw [List.flatMap_cons, List.getElem?_append_right (by rw [hsz, Nat.succ_mul]; omega), show (j + 1) * sz + i - (cs s).length = j * sz + i from by rw [hsz, Nat.succ_mul]; omega, flat_get hsz l j i hi]
    rfl

def SRow (w : World) (v : Value) {α : Type} (cs : α → List Value) (sz : Nat) (l : List α) : Prop := Row w v l.length sz (l.flatMap cs)

theorem SRow.form {w : World} {v : Value} {α : Type} {cs : α → List Value} {sz : Nat} {l : List α} (h : SRow w v cs sz l) (hsz : ∀ x, (cs x).length = sz) (h0 : 0 < sz) : ∃ A c, v = .slice A l.length c ∧ l.length ≤ c ∧ c ≤ maxLen ∧
    (∀ j x, l[j]? = some x → ∃ b off, A = some ⟨b, off, none⟩ ∧ b < w.heap.size ∧ ∀ i u, (cs x)[i]? = some u → w.cell? ⟨b, off + j * sz + i, none⟩ = some u) := by
  obtain ⟨A, c, e, h1, h2, h3, h4⟩ := h
  refine ⟨A, c, e, h1, h2, fun j x hj => ?_⟩
  have hlx := hsz x
  obtain ⟨b, off, rfl, k0⟩ := h4 (j * sz + 0) (cs x)[0] (by rw [flat_get hsz _ _ _ h0, hj]; simp)
  refine ⟨b, off, rfl, World.block_lt_of_cell? w _ k0, fun i u hu => ?_⟩
  have hi : i < sz := by
    have := (List.getElem?_eq_some_iff.1 hu).1
    omega
  obtain ⟨_, _, e1, k1⟩ := h4 (j * sz + i) u (by rw [flat_get hsz _ _ _ hi, hj]; exact hu)
  cases e1
  rw [Nat.add_assoc]
  exact k1

/-- A value: its shape, and what stands for nought. -/
structure Vl where
  s : Sz
  z : Int
deriving DecidableEq, Inhabited
def Vl.cs (x : Vl) : List Value := [.int .i64 x.s.h, .int .i64 x.s.w, .int .i64 x.s.c, .int .i64 x.z]
def Vls (w : World) (v : Value) (l : List Vl) : Prop := SRow w v Vl.cs 4 l
theorem Vls.ext {w W : World} {v : Value} {l : List Vl} (h : Vls w v l) (e : Ext w W) : Vls W v l := Row.below h e
theorem Vls.form {w : World} {v : Value} {l : List Vl} (h : Vls w v l) : ∃ A c, v = .slice A l.length c ∧ l.length ≤ c ∧ c ≤ maxLen ∧
    (∀ j x, l[j]? = some x → ∃ b off, A = some ⟨b, off, none⟩ ∧ b < w.heap.size ∧ ∀ i u, (Vl.cs x)[i]? = some u → w.cell? ⟨b, off + j * 4 + i, none⟩ = some u) := SRow.form h (fun _ => rfl) (by omega)

theorem elem_vl : ElemT Try.prog 22 44 4 32 := elemT_of (z := .agg #[.int .i64 0, .int .i64 0, .int .i64 0, .int .i64 0]) Try.underlying22 (by kernel_rfl) rfl (by omega)

/-- A function value that tells of one Vl. -/
def TellsVl (g : Nat) (lb : Array Value) (p : Vl → Bool) (w : World) : Prop :=
  ∀ (W : World) (x : Vl), Ext w W → Calls Try.prog g (#[.agg #[.int .i64 x.s.h, .int .i64 x.s.w, .int .i64 x.s.c, .int .i64 x.z]] ++ lb) W fun e w' => e = .returned (.bool (p x)) ∧ Ext W w'

set_option maxHeartbeats 800000 in
theorem indexVl_calls (g : Nat) (lb : Array Value) (p : Vl → Bool) (v : Value) (l : List Vl) (w : World) (hv : Vls w v l) (eg : ∀ args w, (callFunc g args).run Try.prog w = .ok (.enter g args) w) (hp : TellsVl g lb p w) :
    Calls Try.prog 92 #[v, .func (.func g) #[] lb] w fun e w' => (∃ i : Int, e = .returned (.int .i64 i) ∧ decide (0 ≤ i) = l.any p) ∧ Ext w w' := by
  have hv0 := hv
  obtain ⟨A, c, rfl, hlc, hcm, _⟩ := hv.form
  unfold maxLen at hcm
  clear hv
  go_enter Try.func92, Try.ntmps92
  go_wp2
  go_loopw [5, 8] (fun _ i wr => ∃ k : Nat, k ≤ l.length ∧ i = .int .i64 k ∧ Hid ((l.take k).any p = false) ∧ Ext w wr) (fun _ i _ => l.length - (intOf i).toNat)
  case atStart => exact ⟨0, by omega, rfl, rfl, Ext.refl _⟩
  case round =>
    obtain ⟨k, hk, rfl, hn, hbel⟩ := hrel
    by_cases hlt : k < l.length
    · obtain ⟨_, _, e1, _, _, hc⟩ := (hv0.ext hbel).form
      cases e1
      have hs : l[k]? = some l[k] := by simp [hlt]
      obtain ⟨b, off, rfl, _, hcc⟩ := hc k _ hs
      have c0 : wr.cell? ⟨b, off + k * 4, none⟩ = some (.int .i64 l[k].s.h) := hcc 0 _ rfl
      have c1 : wr.cell? ⟨b, off + k * 4 + 1, none⟩ = some (.int .i64 l[k].s.w) := hcc 1 _ rfl
      have c2 : wr.cell? ⟨b, off + k * 4 + 2, none⟩ = some (.int .i64 l[k].s.c) := hcc 2 _ rfl
      have c3 : wr.cell? ⟨b, off + k * 4 + 3, none⟩ = some (.int .i64 l[k].z) := hcc 3 _ rfl
      clear hs hcc
      have hcall := hp wr l[k] hbel
      have HT : Hid (p l[k] = true → l.any p = true) := fun h => List.any_eq_true.2 ⟨_, List.getElem_mem hlt, h⟩
      have HF : Hid (p l[k] = false → (l.take (k + 1)).any p = false) := by
        show _ → _
        intro h
        rw [List.take_succ_eq_append_getElem hlt, List.any_append, hn.out]
        simp [h]
      clear hc hp
      generalize l[k] = y at *
      cases hq : p y with
      | true =>
        have HT1 := Lib.hid (HT.out hq)
        rw [hq] at hcall
        clear HF HT hq
        go_wp2_with (go_at_fn g; refine hcall.mono ?_; rintro e w' ⟨rfl, hb'⟩)
        go_ret
        exact ⟨⟨k, rfl, by rw [HT1.out]; simp⟩, hbel.trans hb'⟩
      | false =>
        have HF1 := Lib.hid (HF.out hq)
        rw [hq] at hcall
        clear HF HT hq
        go_wp2_with (go_at_fn g; refine hcall.mono ?_; rintro e w' ⟨rfl, hb'⟩)
        go_roundw
        case rel => exact ⟨k + 1, by omega, by go_num, HF1, hbel.trans hb'⟩
        case measure => simp [intOf]; omega
    · have hkk : k = l.length := by omega
      have HE : Hid (l.any p = false) := by
        show _ = _
        have := hn.out
        rwa [hkk, List.take_length] at this
      go_wp2
      go_ret
      exact ⟨⟨-1, rfl, by rw [HE.out]; rfl⟩, hbel⟩

set_option maxHeartbeats 400000 in
theorem containsVl_calls (g : Nat) (lb : Array Value) (p : Vl → Bool) (v : Value) (l : List Vl) (w : World) (hv : Vls w v l) (eg : ∀ args w, (callFunc g args).run Try.prog w = .ok (.enter g args) w) (hp : TellsVl g lb p w) :
    Calls Try.prog 68 #[v, .func (.func g) #[] lb] w fun e w' => e = .returned (.bool (l.any p)) ∧ Ext w w' := by
  go_enter Try.func68, Try.ntmps68
  go_wp2_with fail
  refine (indexVl_calls g lb p v l w hv eg hp).mono ?_
  rintro e w1 ⟨⟨i, rfl, hi⟩, hb⟩
  have HI := Lib.hid hi
  clear hi
  go_wp2
  go_ret
  exact ⟨ret_bool HI.out, hb⟩

/-- A function value that tells of one I32. -/
def TellsI32 (g : Nat) (lb : Array Value) (p : Int → Bool) (w : World) : Prop :=
  ∀ (W : World) (x : Int), Ext w W → InK .i32 x → Calls Try.prog g (#[.int .i32 x] ++ lb) W fun e w' => e = .returned (.bool (p x)) ∧ Ext W w'

set_option maxHeartbeats 800000 in
theorem indexI32_calls (g : Nat) (lb : Array Value) (p : Int → Bool) (v : Value) (l : List Int) (w : World) (hv : Ints .i32 w v l) (eg : ∀ args w, (callFunc g args).run Try.prog w = .ok (.enter g args) w) (hp : TellsI32 g lb p w) (hin : ∀ z ∈ l, InK .i32 z) :
    Calls Try.prog 93 #[v, .func (.func g) #[] lb] w fun e w' => (∃ i : Int, e = .returned (.int .i64 i) ∧ decide (0 ≤ i) = l.any p) ∧ Ext w w' := by
  have hv0 := hv
  obtain ⟨A, c, rfl, hlc, hcm, _⟩ := hv.form
  unfold maxLen at hcm
  clear hv
  go_enter Try.func93, Try.ntmps93
  go_wp2
  go_loopw [5, 8] (fun _ i wr => ∃ k : Nat, k ≤ l.length ∧ i = .int .i64 k ∧ Hid ((l.take k).any p = false) ∧ Ext w wr) (fun _ i _ => l.length - (intOf i).toNat)
  case atStart => exact ⟨0, by omega, rfl, rfl, Ext.refl _⟩
  case round =>
    obtain ⟨k, hk, rfl, hn, hbel⟩ := hrel
    by_cases hlt : k < l.length
    · obtain ⟨_, _, e1, _, _, hc⟩ := (hv0.ext hbel).form
      cases e1
      obtain ⟨b, off, rfl, c0⟩ := hc k hlt
      have hs : l[k]?.getD 0 = l[k] := by simp [hlt]
      rw [hs] at c0
      clear hs
      have hcall := hp wr l[k] hbel (hin _ (List.getElem_mem hlt))
      have HT : Hid (p l[k] = true → l.any p = true) := fun h => List.any_eq_true.2 ⟨_, List.getElem_mem hlt, h⟩
      have HF : Hid (p l[k] = false → (l.take (k + 1)).any p = false) := by
        show _ → _
        intro h
        rw [List.take_succ_eq_append_getElem hlt, List.any_append, hn.out]
        simp [h]
      clear hc hp
      generalize l[k] = y at *
      cases hq : p y with
      | true =>
        have HT1 := Lib.hid (HT.out hq)
        rw [hq] at hcall
        clear HF HT hq
        go_wp2_with (go_at_fn g; refine hcall.mono ?_; rintro e w' ⟨rfl, hb'⟩)
        go_ret
        exact ⟨⟨k, rfl, by rw [HT1.out]; simp⟩, hbel.trans hb'⟩
      | false =>
        have HF1 := Lib.hid (HF.out hq)
        rw [hq] at hcall
        clear HF HT hq
        go_wp2_with (go_at_fn g; refine hcall.mono ?_; rintro e w' ⟨rfl, hb'⟩)
        go_roundw
        case rel => exact ⟨k + 1, by omega, by go_num, HF1, hbel.trans hb'⟩
        case measure => simp [intOf]; omega
    · have hkk : k = l.length := by omega
      have HE : Hid (l.any p = false) := by
        show _ = _
        have := hn.out
        rwa [hkk, List.take_length] at this
      go_wp2
      go_ret
      exact ⟨⟨-1, rfl, by rw [HE.out]; rfl⟩, hbel⟩

set_option maxHeartbeats 400000 in
theorem containsI32_calls (g : Nat) (lb : Array Value) (p : Int → Bool) (v : Value) (l : List Int) (w : World) (hv : Ints .i32 w v l) (eg : ∀ args w, (callFunc g args).run Try.prog w = .ok (.enter g args) w) (hp : TellsI32 g lb p w) (hin : ∀ z ∈ l, InK .i32 z) :
    Calls Try.prog 71 #[v, .func (.func g) #[] lb] w fun e w' => e = .returned (.bool (l.any p)) ∧ Ext w w' := by
  go_enter Try.func71, Try.ntmps71
  go_wp2_with fail
  refine (indexI32_calls g lb p v l w hv eg hp hin).mono ?_
  rintro e w1 ⟨⟨i, rfl, hi⟩, hb⟩
  have HI := Lib.hid hi
  clear hi
  go_wp2
  go_ret
  exact ⟨ret_bool HI.out, hb⟩

/-! The function values of graph.Value. -/
theorem tells_zero (B : Nat) (n : Nd) (w : World) (hB : Blk w B #[.int .i64 n.op, n.inV, .int .i64 n.k, .int .i64 n.st, .int .i64 n.pad, .int .i64 n.out, .int .i64 n.mul, .int .i64 n.sh, .int .i64 n.zero, .int .i64 n.th, .int .i64 n.tw, .int .i64 n.tc, n.wV, n.bV] 51) : TellsVl 69 #[.pointer (some ⟨B, 0, none⟩)] (fun x => !decide (x.z = n.zero)) w := by
  intro W x hE
  have c8 : W.cell? ⟨B, 8, none⟩ = some (.int .i64 n.zero) := (hB.ext hE).cell 8
  have hl := (hB.ext hE).lt
  have hne : B ≠ W.heap.size := by omega
  clear hB
  show Calls Try.prog 69 #[.agg #[.int .i64 x.s.h, .int .i64 x.s.w, .int .i64 x.s.c, .int .i64 x.z], .pointer (some ⟨B, 0, none⟩)] W _
  by_cases hz : x.z = n.zero
  · have HD : Hid ((!decide (x.z = n.zero)) = false) := by show _ = _; simp [hz]
    go_enter Try.func69, Try.ntmps69
    go_wp2
    go_ret
    exact ⟨ret_bool (by simp [hz]), ext_alloc _ _⟩
  · go_enter Try.func69, Try.ntmps69
    go_wp2
    go_ret
    exact ⟨ret_bool (by simp [hz]), ext_alloc _ _⟩

theorem tells_shape (w : World) : TellsVl 70 #[] (fun x => !x.s.ok) w := by
  intro W x hE
  have hc := fun W => shMay_calls x.s W
  obtain ⟨q, hq⟩ : ∃ q, x.s.ok = q := ⟨_, rfl⟩
  rw [hq] at hc
  have HQ := Lib.hid hq
  clear hq
  show Calls Try.prog 70 #[.agg #[.int .i64 x.s.h, .int .i64 x.s.w, .int .i64 x.s.c, .int .i64 x.z]] W _
  go_enter Try.func70, Try.ntmps70
  go_wp2_with fail
  refine (hc _).mono ?_
  rintro e w' ⟨rfl, h1⟩
  cases q
  all_goals
    go_wp2
    go_ret
    exact ⟨ret_bool (by rw [HQ.out]; rfl), (ext_alloc _ _).trans h1⟩

theorem tells_bias (w : World) : TellsI32 72 #[] (fun x => !inB (-16777216) 16777216 x) w := by
  intro W x hE hx
  obtain ⟨x0, x1⟩ := hx
  show Calls Try.prog 72 #[.int .i32 x] W _
  go_enter Try.func72, Try.ntmps72
  go_wp2_with fail
  refine (in_calls _ _ _ _).mono ?_
  rintro e w' ⟨rfl, rfl⟩
  go_wp2
  go_ret
  exact ⟨rfl, Ext.refl _⟩

end Go.Proofs.Ytmddlhfahfelpaa

namespace Go.Proofs.Ytmddlhfahfelpaa
open Go.RowKit

def okI (vals : List Vl) (i : Int) : Bool := inB 0 ((vals.length : Int) - 1) i
def getV (vals : List Vl) (i : Int) : Vl := vals[i.toNat]?.getD default

theorem vl_one (x : Vl) : ∀ u ∈ x.cs, u.oneCell' = true := by
  intro u hu
  simp [Vl.cs] at hu
  rcases hu with rfl | rfl | rfl | rfl <;> rfl

/-- A row of the call's own, of values. -/
def OwnV (w0 w : World) (v : Value) (l : List Vl) : Prop := w.ownsRow w0.heap.size 44 4 v l.length (l.flatMap Vl.cs)

def PickPost (vals : List Vl) (l : List Int) (w : World) (e : Ending) (w' : World) : Prop :=
  (l.all (okI vals) = true → ∃ v, e = .returned (.tuple #[v, .bool true]) ∧ OwnV w w' v (l.map (getV vals))) ∧
  (l.all (okI vals) = false → e = .returned (.tuple #[.slice none 0 0, .bool false])) ∧ Ext w w'

set_option maxRecDepth 4000 in
set_option maxHeartbeats 1600000 in
theorem picked_calls (vv lv : Value) (vals : List Vl) (l : List Int) (w : World) (hv : Vls w vv vals) (hl : Ints .i64 w lv l) (hll : l.length ≤ 1000000) (hvl : vals.length ≤ 1000000) :
    Calls Try.prog 52 #[vv, lv] w (PickPost vals l w) := by
  have HP : Hid (∀ e w', ((l.all (okI vals) = true → ∃ v, e = .returned (.tuple #[v, .bool true]) ∧ OwnV w w' v (l.map (getV vals))) ∧ (l.all (okI vals) = false → e = .returned (.tuple #[.slice none 0 0, .bool false])) ∧ Ext w w') → PickPost vals l w e w') := fun e w' h => h
  generalize PickPost vals l w = PP at *
  obtain ⟨A, c, rfl, hlc, hcm, _⟩ := id hv.form
  obtain ⟨A2, c2, rfl, hlc2, hcm2, _⟩ := id hl.form
  unfold maxLen at hcm hcm2
  go_enter Try.func52, Try.ntmps52
  go_wp2_with fail
  go_loopw [4, 10] (fun v i wr => ∃ k : Nat, k ≤ l.length ∧ i = .int .i64 k ∧ Hid ((l.take k).all (okI vals) = true) ∧ OwnV w wr v ((l.take k).map (getV vals)) ∧ Ext w wr) (fun _ i _ => l.length - (intOf i).toNat)
  case atStart => exact ⟨0, by omega, rfl, rfl, ⟨by simp, .inl ⟨rfl, rfl⟩⟩, Ext.refl _⟩
  case round =>
    obtain ⟨k, hk, rfl, hok, hown, hE⟩ := hrel
    by_cases hlt : k < l.length
    · obtain ⟨_, _, e1, _, _, hcl⟩ := (hl.ext hE).form
      cases e1
      obtain ⟨b, off, rfl, x0⟩ := hcl k hlt
      have hs : l[k]?.getD 0 = l[k] := by simp [hlt]
      rw [hs] at x0
      have HF : Hid (okI vals l[k] = false → l.all (okI vals) = false) := fun h => by
        rw [Bool.eq_false_iff]
        intro ha
        have := List.all_eq_true.1 ha _ (List.getElem_mem hlt)
        rw [h] at this; cases this
      have HT : Hid (okI vals l[k] = true → (l.take (k + 1)).all (okI vals) = true) := by
        show _ → _
        intro h
        rw [List.take_succ_eq_append_getElem hlt, List.all_append, hok.out]
        simp [h]
      have HM : Hid ((l.take (k + 1)).map (getV vals) = (l.take k).map (getV vals) ++ [getV vals l[k]]) := by
        show _ = _
        rw [List.take_succ_eq_append_getElem hlt, List.map_append]
        rfl
      have hlen : ((l.take k).map (getV vals)).length = k := by simp; omega
      have HLEN := Lib.hid hlen
      clear hs hcl hlen
      obtain ⟨_, _, e1, _, _, hcv⟩ := (hv.ext hE).form
      cases e1
      generalize l[k] = z at *
      have hin := in_calls z 0 ((vals.length : Int) - 1) wr
      rw [show inB 0 ((vals.length : Int) - 1) z = okI vals z from rfl] at hin
      cases hq : okI vals z with
      | false =>
        have HF1 := Lib.hid (HF.out hq)
        rw [hq] at hin
        clear HF HT hq
        go_wp2_with (go_at_call 64; refine hin.mono ?_; rintro e w' ⟨rfl, rfl⟩)
        exact HP.out _ _ ⟨(fun h => by rw [HF1.out] at h; cases h), (fun _ => rfl), hE⟩
      | true =>
        have HT1 := Lib.hid (HT.out hq)
        rw [hq] at hin
        have hzr : 0 ≤ z ∧ z < vals.length := by
          simp only [okI, inB, Bool.and_eq_true, decide_eq_true_eq] at hq
          omega
        clear HF HT hq
        obtain ⟨j, rfl⟩ := Int.eq_ofNat_of_zero_le hzr.1
        have hj : j < vals.length := by omega
        have hgv : vals[j]? = some (getV vals j) := by simp [getV, hj]
        obtain ⟨b2, off2, rfl, _, hcc⟩ := hcv j _ hgv
        generalize getV vals (j : Int) = y at *
        have c0 : wr.cell? ⟨b2, off2 + j * 4, none⟩ = some (.int .i64 y.s.h) := hcc 0 _ rfl
        have c1 : wr.cell? ⟨b2, off2 + j * 4 + 1, none⟩ = some (.int .i64 y.s.w) := hcc 1 _ rfl
        have c2 : wr.cell? ⟨b2, off2 + j * 4 + 2, none⟩ = some (.int .i64 y.s.c) := hcc 2 _ rfl
        have c3 : wr.cell? ⟨b2, off2 + j * 4 + 3, none⟩ = some (.int .i64 y.z) := hcc 3 _ rfl
        clear hcc hgv hcv hzr
        have hnew : Row (wr.alloc (.cells #[.int .i64 y.s.h, .int .i64 y.s.w, .int .i64 y.s.c, .int .i64 y.z] 44)) (.slice (some ⟨wr.heap.size, 0, none⟩) 1 1) 1 4 y.cs := row_new wr _ 44 1 4 rfl (by unfold maxLen; omega)
        unfold OwnV at hown
        rw [HLEN.out] at hown
        have hown0 := hown.alloc (.cells #[.int .i64 y.s.h, .int .i64 y.s.w, .int .i64 y.s.c, .int .i64 y.z] 44)
        have hbase : w.heap.size ≤ (wr.alloc (.cells #[.int .i64 y.s.h, .int .i64 y.s.w, .int .i64 y.s.c, .int .i64 y.z] 44)).heap.size := (hE.trans (ext_alloc _ _)).size
        have hk1 : k + 1 ≤ 140737488355328 := by omega
        have hk2 : (k + 1) * 32 ≤ 140737488355328 := by omega
        go_upto_region 6 with (go_at_call 64; refine hin.mono ?_; rintro e w' ⟨rfl, rfl⟩)
        go_wp2_with (at_builtin; refine wpList_append_row rfl rfl elem_vl hown0 rfl hnew rfl (vl_one y) hk1 hk2 hbase ?_; intro v1 w1 hown1 hg1 _)
        have hE1 : Ext w w1 := Below.grown (hE.trans (ext_alloc _ _)) hg1 (hE.trans (ext_alloc _ _)).size (fun q hq => (hown0.lt q hq).1)
        have hown2 : OwnV w w1 v1 ((l.take (k + 1)).map (getV vals)) := by
          unfold OwnV
          rw [HM.out, List.length_append, HLEN.out, List.flatMap_append]
          simpa using hown1
        go_roundw
        case rel => exact ⟨k + 1, by omega, by go_num, HT1, hown2, hE1⟩
        case measure => simp [intOf]; omega
    · have hkk : k = l.length := by omega
      subst hkk
      have HA : Hid (l.all (okI vals) = true) := by
        show _ = _
        have := hok.out
        rwa [List.take_length] at this
      rw [List.take_length] at hown
      go_wp2_with fail
      exact HP.out _ _ ⟨(fun _ => ⟨_, rfl, hown⟩), (fun h => by rw [HA.out] at h; cases h), hE⟩

/-- slices.Clone of values. -/
def CloneVPost (l : List Vl) (w : World) (e : Ending) (w' : World) : Prop := ∃ v, e = .returned v ∧ OwnV w w' v l ∧ Ext w w'

set_option maxRecDepth 4000 in
theorem cloneV_calls (vv : Value) (l : List Vl) (w : World) (hv : Vls w vv l) (hl : l.length ≤ 1000000) :
    Calls Try.prog 65 #[vv] w (CloneVPost l w) := by
  have HP : Hid (∀ e w', (∃ v, e = .returned v ∧ OwnV w w' v l ∧ Ext w w') → CloneVPost l w e w') := fun e w' h => h
  generalize CloneVPost l w = PP at *
  obtain ⟨A, c, rfl, hlc, hcm, hc⟩ := id hv.form
  unfold maxLen at hcm
  have hq := fun w : World => Lib.run_eql_slice_nil (P := Try.prog) w 22 44 A l.length c 0 0 Try.underlying22
  cases A with
  | none =>
    have h0 : l = [] := by
      cases l with
      | nil => rfl
      | cons x l =>
        obtain ⟨b, off, e, _⟩ := hc 0 x rfl
        cases e
    have H0 := Lib.hid h0
    clear hc h0
    go_enter Try.func65, Try.ntmps65
    go_wp2_with fail
    exact HP.out _ _ ⟨_, rfl, by rw [H0.out]; exact ⟨by simp, .inl ⟨rfl, rfl⟩⟩, Ext.refl _⟩
  | some ad =>
    clear hc
    go_enter Try.func65, Try.ntmps65
    have h1 : ∀ u ∈ l.flatMap Vl.cs, u.oneCell' = true := fun u hu => by obtain ⟨x, _, hx⟩ := List.mem_flatMap.1 hu; exact vl_one x u hx
    have hl1 : l.length ≤ 140737488355328 := by omega
    have hl2 : l.length * 32 ≤ 140737488355328 := by omega
    have H1 := Lib.hid h1
    clear h1
    go_wp2_with (at_builtin; refine wpList_append_fresh rfl rfl elem_vl rfl hv rfl H1.out hl1 hl2 ?_; intro v1 w1 hown1 hE1)
    exact HP.out _ _ ⟨_, rfl, hown1, hE1⟩

/-- A graph: its rows as values, and what they read as. -/
structure Gr where
  iV : Value
  nV : Value
  oV : Value
  ins : List Vl
  nodes : List Nd
  outs : List Int

def nodeAt (w : World) (n : Nd) : Prop := Ints .i64 w n.inV n.ins ∧ Ints .i8 w n.wV n.ws ∧ Ints .i32 w n.bV n.bs ∧ (∀ z ∈ n.bs, InK .i32 z) ∧ (∀ z ∈ n.ws, InK .i8 z) ∧ n.ins.length ≤ 255 ∧ n.ws.length ≤ 70000 ∧ n.bs.length ≤ 255

/-- So the graph reads. -/
structure GrAt (w : World) (g : Gr) : Prop where
  ins : Vls w g.iV g.ins
  nodes : SRow w g.nV Nd.cs 14 g.nodes
  outs : Ints .i64 w g.oV g.outs
  each : ∀ n ∈ g.nodes, nodeAt w n
  il : g.ins.length ≤ 255
  nl : g.nodes.length ≤ 255
  ol : g.outs.length ≤ 255

theorem nodeAt.ext {w W : World} {n : Nd} (h : nodeAt w n) (e : Ext w W) : nodeAt W n := ⟨h.1.ext e, h.2.1.ext e, h.2.2.1.ext e, h.2.2.2⟩
theorem GrAt.ext {w W : World} {g : Gr} (h : GrAt w g) (e : Ext w W) : GrAt W g := ⟨h.ins.ext e, Row.below h.nodes e, h.outs.ext e, fun n hn => (h.each n hn).ext e, h.il, h.nl, h.ol⟩

/-- What stands in a graph's place. -/
def goesInR (g : Gr) : Int :=
  if 4 < g.ins.length ∨ 12 < g.nodes.length ∨ 4 < g.outs.length then 3 else
  if g.ins.length = 0 ∨ g.outs.length = 0 then 13 else
  insR g.ins
where insR : List Vl → Int
  | [] => 0
  | v :: l => if v.s.ok = false then 10 else if inB (-128) 127 v.z = false then 11 else insR l

def GoesPost (g : Gr) (w : World) (e : Ending) (w' : World) : Prop :=
  (goesInR g = 0 → ∃ v, e = .returned (.tuple #[v, .int .i64 0]) ∧ OwnV w w' v g.ins) ∧
  (goesInR g ≠ 0 → e = .returned (.tuple #[.slice none 0 0, .int .i64 (goesInR g)])) ∧ Ext w w'

theorem insR_take {l : List Vl} : ∀ {k : Nat}, (∀ j, j < k → ∀ v, l[j]? = some v → v.s.ok = true ∧ inB (-128) 127 v.z = true) → goesInR.insR l = goesInR.insR (l.drop k)
  | 0, _ => by simp
  | k + 1, h => by
    rw [insR_take (k := k) (fun j hj => h j (by omega))]
    cases hd : l.drop k with
    | nil =>
      have : l.drop (k + 1) = [] := by
        have := List.drop_eq_nil_iff.1 hd
        exact List.drop_eq_nil_iff.2 (by omega)
      rw [this]
    | cons v r =>
      have hk : k < l.length := by
        rcases Nat.lt_or_ge k l.length with h | h
        · exact h
        · rw [List.drop_eq_nil_of_le h] at hd; cases hd
      have h1 : l.drop (k + 1) = r := by rw [← List.drop_drop, hd]; rfl
      have hv : l[k]? = some v := by
        have : (l.drop k)[0]? = some v := by rw [hd]; rfl
        simpa using this
      obtain ⟨h2, h3⟩ := h k (by omega) v hv
      rw [h1, goesInR.insR, h2, h3]
      simp

end Go.Proofs.Ytmddlhfahfelpaa
