/- The plain law of package verify, more: how the program and the reference ask for halts and turns. -/
/- The walks of package verify: what a command adds, halts. -/
/- slices.IndexFunc and ContainsFunc over the three streams of an image. -/
import Derived.Test.YtmddlhfahfelpaaVfa
import Derived.Test.YtmddlhfahfelpaaNsaP
import Derived.Test.YtmddlhfahfelpaaGre
set_option linter.unusedSimpArgs false
set_option linter.unusedVariables false
set_option linter.unnecessarySimpa false
namespace Go.Proofs.Ytmddlhfahfelpaa
open Go.RowKit

theorem haltB_one (c : Isa.Cm) : haltB [c] = (c.k == 7) := by simp [haltB]
theorem haltB_cons (c d : Isa.Cm) (l : List Isa.Cm) : haltB (c :: d :: l) = ((c.k != 7) && haltB (d :: l)) := by
  unfold haltB
  rw [List.getLast?_cons_cons, List.dropLast_cons_cons, List.all_cons]
  cases (List.getLast? (d :: l)).map (·.k) == some 7 <;> simp

/-- Where the first halt stands, from place i on; none: -1. -/
def idxH (i : Nat) : List Isa.Cm → Int
  | [] => -1
  | c :: l => if c.k = 7 then (i : Int) else idxH (i + 1) l
theorem idxH_low (l : List Isa.Cm) : ∀ i, idxH i l = -1 ∨ (i : Int) ≤ idxH i l := by
  induction l with
  | nil => intro i; exact .inl rfl
  | cons c l ih =>
    intro i
    unfold idxH
    split
    · exact .inr (by omega)
    · rcases ih (i + 1) with h | h
      · exact .inl h
      · exact .inr (by omega)
theorem idxH_haltB (l : List Isa.Cm) : ∀ i, (decide (0 ≤ idxH i l) && decide (idxH i l = (i : Int) + l.length - 1)) = haltB l := by
  induction l with
  | nil => intro i; simp [idxH, haltB]
  | cons c l ih =>
    intro i
    cases l with
    | nil =>
      rw [haltB_one]
      by_cases h : c.k = 7
      · simp [idxH, h]
      · simp [idxH, h]
    | cons d l =>
      rw [haltB_cons]
      by_cases h : c.k = 7
      · have e : idxH i (c :: d :: l) = (i : Int) := by unfold idxH; rw [if_pos h]
        rw [e, h]
        simp only [List.length_cons]
        have : decide ((i : Int) = (i : Int) + ((l.length + 1 + 1 : Nat) : Int) - 1) = false := decide_eq_false (by omega)
        rw [this, Bool.and_false]
        rfl
      · have e : idxH i (c :: d :: l) = idxH (i + 1) (d :: l) := by rw [idxH, if_neg h]
        have h2 := ih (i + 1)
        rw [e, ← h2]
        have e3 : ((i : Int) + ((c :: d :: l).length : Int) - 1) = (((i + 1 : Nat) : Int) + ((d :: l).length : Int) - 1) := by simp only [List.length_cons]; omega
        rw [e3]
        have : (c.k != 7) = true := by simpa using h
        rw [this, Bool.true_and]

theorem low_at {cs : List Int} (hl : ∀ z ∈ cs, 0 ≤ z ∧ z ≤ 15) (i : Nat) : 0 ≤ cs[i]?.getD 0 ∧ cs[i]?.getD 0 ≤ 15 := by
  by_cases h : i < cs.length
  · rw [List.getElem?_eq_getElem h]
    exact hl _ (List.getElem_mem h)
  · rw [List.getElem?_eq_none (by omega)]
    exact ⟨Int.le_refl _, by show (0 : Int) ≤ 15; omega⟩
/-- What the statement VerifyCounts says of a's turns, streams and check. -/
theorem counts_said (g : Gr) (pl : List Int) (A B C : List Isa.Cm) :
    ((turnsZ g pl A B C).2 ≠ 0 ∨ (turnsZ g pl A B C).1 = ((A.length + B.length + C.length : Nat) : Int)) ∧
    (streamsZ g pl A B C = 0 ∨ (turnsZ g pl A B C).2 = 27 ∧ (turnsZ g pl A B C).1 = 0) ∧
    (checkZ g pl A B C ≠ 0 ∨ streamsZ g pl A B C = 0 ∧ (turnsZ g pl A B C).2 = 0) := by
  refine ⟨?_, ?_, ?_⟩
  · by_cases h : (turnsZ g pl A B C).2 = 0
    · exact .inr (turnsZ_ok (m := (turnsZ g pl A B C).1) (by rw [← h])).2
    · exact .inl h
  · by_cases h : streamsZ g pl A B C = 0
    · exact .inl h
    · right; rw [turnsZ_bad h]; exact ⟨rfl, rfl⟩
  · by_cases h : checkZ g pl A B C = 0
    · exact .inr ⟨(checkZ_ok h).1, (checkZ_ok h).2.1⟩
    · exact .inl h

end Go.Proofs.Ytmddlhfahfelpaa

namespace Go.Proofs.Ytmddlhfahfelpaa
set_option maxRecDepth 10000
open Go.RowKit

theorem moves_calls (c : Isa.Cm) (w : World) : Calls Try.prog 18 #[.agg #[.int .i64 c.k, .int .i64 c.s, .int .i64 c.n, .int .i64 c.f, .int .i64 c.r, .int .i64 c.o, .int .i64 c.d, .int .i64 c.p, .int .i64 c.i0, .int .i64 c.i1, .int .i64 c.b0, .int .i64 c.b1, .int .i64 c.h0, .int .i64 c.h1]] w fun e w' => e = .returned (.int .i64 (movZ c)) ∧ Ext w w' := by
  have hE := ext_alloc w (.cells #[.int .i64 c.k, .int .i64 c.s, .int .i64 c.n, .int .i64 c.f, .int .i64 c.r, .int .i64 c.o, .int .i64 c.d, .int .i64 c.p, .int .i64 c.i0, .int .i64 c.i1, .int .i64 c.b0, .int .i64 c.b1, .int .i64 c.h0, .int .i64 c.h1] 47)
  have hb := Blk.new w #[.int .i64 c.k, .int .i64 c.s, .int .i64 c.n, .int .i64 c.f, .int .i64 c.r, .int .i64 c.o, .int .i64 c.d, .int .i64 c.p, .int .i64 c.i0, .int .i64 c.i1, .int .i64 c.b0, .int .i64 c.b1, .int .i64 c.h0, .int .i64 c.h1] 47
  have HM : Hid (movZ c = if c.k = 6 then 1 else if c.k = 5 then -1 else 0) := rfl
  generalize movZ c = m at *
  have y0 : World.cell? (w.alloc (.cells #[.int .i64 c.k, .int .i64 c.s, .int .i64 c.n, .int .i64 c.f, .int .i64 c.r, .int .i64 c.o, .int .i64 c.d, .int .i64 c.p, .int .i64 c.i0, .int .i64 c.i1, .int .i64 c.b0, .int .i64 c.b1, .int .i64 c.h0, .int .i64 c.h1] 47)) ⟨w.heap.size, 0, none⟩ = some (.int .i64 c.k) := hb.cell 0
  clear hb
  have HE := Lib.hid hE
  clear hE
  by_cases h6 : c.k = 6
  · have g1 : (c.k == 6) = true := by simpa using h6
    have HM1 : Hid (m = 1) := by show m = 1; rw [HM.out, if_pos h6]
    clear HM h6
    go_enter Try.func18, Try.ntmps18
    go_wp2_with fail
    go_ret
    exact ⟨by rw [HM1.out]; rfl, HE.out⟩
  · by_cases h5 : c.k = 5
    · have g1 : (c.k == 6) = false := by simpa using h6
      have g2 : (c.k == 5) = true := by simpa using h5
      have HM1 : Hid (m = -1) := by show m = -1; rw [HM.out, if_neg h6, if_pos h5]
      clear HM h6 h5
      go_enter Try.func18, Try.ntmps18
      go_wp2_with fail
      go_ret
      exact ⟨by rw [HM1.out]; rfl, HE.out⟩
    · have g1 : (c.k == 6) = false := by simpa using h6
      have g2 : (c.k == 5) = false := by simpa using h5
      have HM1 : Hid (m = 0) := by show m = 0; rw [HM.out, if_neg h6, if_neg h5]
      clear HM h6 h5
      go_enter Try.func18, Try.ntmps18
      go_wp2_with fail
      go_ret
      exact ⟨by rw [HM1.out]; rfl, HE.out⟩

theorem halt1_calls (c : Isa.Cm) (w : World) : Calls Try.prog 37 #[.agg #[.int .i64 c.k, .int .i64 c.s, .int .i64 c.n, .int .i64 c.f, .int .i64 c.r, .int .i64 c.o, .int .i64 c.d, .int .i64 c.p, .int .i64 c.i0, .int .i64 c.i1, .int .i64 c.b0, .int .i64 c.b1, .int .i64 c.h0, .int .i64 c.h1]] w fun e w' => e = .returned (.bool (c.k == 7)) ∧ Ext w w' := by
  have hE := ext_alloc w (.cells #[.int .i64 c.k, .int .i64 c.s, .int .i64 c.n, .int .i64 c.f, .int .i64 c.r, .int .i64 c.o, .int .i64 c.d, .int .i64 c.p, .int .i64 c.i0, .int .i64 c.i1, .int .i64 c.b0, .int .i64 c.b1, .int .i64 c.h0, .int .i64 c.h1] 47)
  have hb := Blk.new w #[.int .i64 c.k, .int .i64 c.s, .int .i64 c.n, .int .i64 c.f, .int .i64 c.r, .int .i64 c.o, .int .i64 c.d, .int .i64 c.p, .int .i64 c.i0, .int .i64 c.i1, .int .i64 c.b0, .int .i64 c.b1, .int .i64 c.h0, .int .i64 c.h1] 47
  have y0 : World.cell? (w.alloc (.cells #[.int .i64 c.k, .int .i64 c.s, .int .i64 c.n, .int .i64 c.f, .int .i64 c.r, .int .i64 c.o, .int .i64 c.d, .int .i64 c.p, .int .i64 c.i0, .int .i64 c.i1, .int .i64 c.b0, .int .i64 c.b1, .int .i64 c.h0, .int .i64 c.h1] 47)) ⟨w.heap.size, 0, none⟩ = some (.int .i64 c.k) := hb.cell 0
  clear hb
  have HE := Lib.hid hE
  clear hE
  cases hq : (c.k == 7)
  all_goals
    go_enter Try.func37, Try.ntmps37
    go_wp2_with fail
    go_ret
    exact ⟨rfl, HE.out⟩

/-- What a first halt's place is, behind some that are none. -/
theorem idxH_step (l : List Isa.Cm) (k : Nat) (h : k < l.length) (h7 : l[k].k ≠ 7) : idxH k (l.drop k) = idxH (k + 1) (l.drop (k + 1)) := by
  rw [List.drop_eq_getElem_cons h, idxH, if_neg h7]
theorem idxH_hit (l : List Isa.Cm) (k : Nat) (h : k < l.length) (h7 : l[k].k = 7) : idxH k (l.drop k) = (k : Int) := by
  rw [List.drop_eq_getElem_cons h, idxH, if_pos h7]

def TellsH (g : Nat) (lb : Array Value) : Prop :=
  ∀ (W : World) (c : Isa.Cm), Calls Try.prog g (#[.agg #[.int .i64 c.k, .int .i64 c.s, .int .i64 c.n, .int .i64 c.f, .int .i64 c.r, .int .i64 c.o, .int .i64 c.d, .int .i64 c.p, .int .i64 c.i0, .int .i64 c.i1, .int .i64 c.b0, .int .i64 c.b1, .int .i64 c.h0, .int .i64 c.h1]] ++ lb) W fun e w' => e = .returned (.bool (c.k == 7)) ∧ Ext W w'

set_option maxHeartbeats 1600000 in
theorem indexH_calls (g : Nat) (lb : Array Value) (v : Value) (l : List Isa.Cm) (w : World) (hv : Isa.Cmds w v l) (eg : ∀ args w, (callFunc g args).run Try.prog w = .ok (.enter g args) w) (hp : TellsH g lb) :
    Calls Try.prog 36 #[v, .func (.func g) #[] lb] w fun e w' => e = .returned (.int .i64 (idxH 0 l)) ∧ Ext w w' := by
  have hv0 := hv
  obtain ⟨A, cc, rfl, hlc, hcm, _⟩ := hv.form
  unfold maxLen at hcm
  clear hv
  have HI : Hid (idxH 0 l = idxH 0 (l.drop 0)) := by show _ = _; rw [List.drop_zero]
  generalize idxH 0 l = ix at *
  go_enter Try.func36, Try.ntmps36
  go_wp2
  go_loopw [5, 8] (fun _ i wr => ∃ k : Nat, k ≤ l.length ∧ i = .int .i64 k ∧ Hid (ix = idxH k (l.drop k)) ∧ Ext w wr) (fun _ i _ => l.length - (intOf i).toNat)
  case atStart => exact ⟨0, by omega, rfl, HI, Ext.refl _⟩
  case round =>
    clear HI
    obtain ⟨k, hk, rfl, hn, hbel⟩ := hrel
    by_cases hlt : k < l.length
    · obtain ⟨_, _, e1, _, _, hc⟩ := (hv0.below hbel (Nat.le_refl _)).form
      cases e1
      have hs : l[k]? = some l[k] := by simp [hlt]
      obtain ⟨b, off, rfl, _, c0, c1, c2, c3, c4, c5, c6, c7, c8, c9, c10, c11, c12, c13⟩ := hc k _ hs
      have hcall := hp wr l[k]
      have HT : Hid (l[k].k = 7 → ix = (k : Int)) := fun h => by rw [hn.out, idxH_hit l k hlt h]
      have HF : Hid (l[k].k ≠ 7 → ix = idxH (k + 1) (l.drop (k + 1))) := fun h => by rw [hn.out, idxH_step l k hlt h]
      clear hc hs hn
      generalize l[k] = y at *
      by_cases hq : y.k = 7
      · have HT1 := Lib.hid (HT.out hq)
        rw [show (y.k == 7) = true by simpa using hq] at hcall
        clear HF HT hq
        go_wp2_with (go_at_fn g; refine hcall.mono ?_; rintro e w' ⟨rfl, hb'⟩)
        go_ret
        exact ⟨by rw [HT1.out]; rfl, hbel.trans hb'⟩
      · have HF1 := Lib.hid (HF.out hq)
        rw [show (y.k == 7) = false by simpa using hq] at hcall
        clear HF HT hq
        go_wp2_with (go_at_fn g; refine hcall.mono ?_; rintro e w' ⟨rfl, hb'⟩)
        go_roundw
        case rel => exact ⟨k + 1, by omega, by go_num, HF1, hbel.trans hb'⟩
        case measure => simp [intOf]; omega
    · have hkk : k = l.length := by omega
      have HE : Hid (ix = -1) := by
        show _ = _
        rw [hn.out, hkk, List.drop_length]
        rfl
      go_wp2
      go_ret
      exact ⟨by rw [HE.out]; rfl, hbel⟩

theorem halts_calls (v : Value) (l : List Isa.Cm) (w : World) (hv : Isa.Cmds w v l) :
    Calls Try.prog 22 #[v] w fun e w' => e = .returned (.bool (haltB l)) ∧ Ext w w' := by
  have hc := indexH_calls 37 #[] v l w hv (enters_of Try.func37 (by kernel_rfl) rfl) (fun W c => halt1_calls c W)
  have HB : Hid ((decide (0 ≤ idxH 0 l) && decide (idxH 0 l = (l.length : Int) - 1)) = haltB l) := by
    show _ = _
    rw [← idxH_haltB l 0]
    simp
  have hlow := idxH_low l 0
  obtain ⟨A, cc, rfl, hlc, hcm, _⟩ := hv.form
  unfold maxLen at hcm
  clear hv
  generalize idxH 0 l = ix at *
  generalize haltB l = hb at *
  go_enter Try.func22, Try.ntmps22
  go_wp2_with fail
  refine hc.mono ?_
  rintro e w1 ⟨rfl, hE⟩
  clear hc
  have mw : IntKind.i64.wrap ((l.length : Int) - 1) = (l.length : Int) - 1 := IntWalk.i64_in _ (by omega)
  by_cases h0 : 0 ≤ ix
  · by_cases h1 : ix = (l.length : Int) - 1
    · have HB1 : Hid (hb = true) := by show hb = true; rw [← HB.out, decide_eq_true h0, decide_eq_true h1]; rfl
      have g1 : (ix == (l.length : Int) - 1) = true := by simpa using h1
      clear HB h1
      go_wp2_with fail
      go_ret
      exact ⟨by rw [HB1.out]; rfl, hE⟩
    · have HB1 : Hid (hb = false) := by show hb = false; rw [← HB.out, decide_eq_false h1, Bool.and_false]
      have g1 : (ix == (l.length : Int) - 1) = false := by simpa using h1
      clear HB h1
      go_wp2_with fail
      go_ret
      exact ⟨by rw [HB1.out]; rfl, hE⟩
  · have HB1 : Hid (hb = false) := by show hb = false; rw [← HB.out, decide_eq_false h0, Bool.false_and]
    clear HB
    go_wp2_with fail
    go_ret
    exact ⟨by rw [HB1.out]; rfl, hE⟩

end Go.Proofs.Ytmddlhfahfelpaa

namespace Go.Proofs.Ytmddlhfahfelpaa
set_option maxRecDepth 10000
open Go.RowKit

/-- A function value that tells of one stream. -/
def TellsS (g : Nat) (lb : Array Value) (s : Value) (q : Bool) (w : World) : Prop :=
  ∀ W : World, Ext w W → Calls Try.prog g (#[s] ++ lb) W fun e w' => e = .returned (.bool q) ∧ Ext W w'

def Qs3 (q0 q1 q2 : Bool) (k : Nat) : Prop := (0 < k → q0 = false) ∧ (1 < k → q1 = false) ∧ (2 < k → q2 = false)

set_option maxHeartbeats 1600000 in
theorem index3_calls (g : Nat) (lb : Array Value) (b o : Nat) (s0 s1 s2 : Value) (q0 q1 q2 : Bool) (w : World) (c0 : World.cell? w ⟨b, o, none⟩ = some s0) (c1 : World.cell? w ⟨b, o + 1, none⟩ = some s1) (c2 : World.cell? w ⟨b, o + 2, none⟩ = some s2)
    (eg : ∀ args w, (callFunc g args).run Try.prog w = .ok (.enter g args) w) (h0 : TellsS g lb s0 q0 w) (h1 : TellsS g lb s1 q1 w) (h2 : TellsS g lb s2 q2 w) :
    Calls Try.prog 35 #[.slice (some ⟨b, o, none⟩) 3 3, .func (.func g) #[] lb] w fun e w' => (∃ i : Int, e = .returned (.int .i64 i) ∧ decide (0 ≤ i) = (q0 || q1 || q2)) ∧ Ext w w' := by
  go_enter Try.func35, Try.ntmps35
  go_wp2
  go_loopw [5, 8] (fun _ i wr => ∃ k : Nat, k ≤ 3 ∧ i = .int .i64 k ∧ Qs3 q0 q1 q2 k ∧ Ext w wr) (fun _ i _ => 3 - (intOf i).toNat)
  case atStart => exact ⟨0, by omega, rfl, ⟨fun h => by omega, fun h => by omega, fun h => by omega⟩, Ext.refl _⟩
  case round =>
    obtain ⟨k, hk, rfl, hn, hbel⟩ := hrel
    rcases (by omega : k = 0 ∨ k = 1 ∨ k = 2 ∨ k = 3) with rfl | rfl | rfl | rfl
    · have d0 := cell_ext c0 wr hbel
      have hcall := h0 wr hbel
      cases hq : q0 with
      | true =>
        rw [hq] at hcall
        go_wp2_with (go_at_fn g; refine hcall.mono ?_; rintro e w' ⟨rfl, hb'⟩)
        go_ret
        exact ⟨⟨0, rfl, by rw [hq]; cases q0 <;> cases q1 <;> cases q2 <;> first | rfl | cases hq⟩, hbel.trans hb'⟩
      | false =>
        rw [hq] at hcall
        have HF : Qs3 q0 q1 q2 1 := by
          obtain ⟨a1, a2, a3⟩ := hn
          exact ⟨fun _ => hq, fun h => absurd h (by omega), fun h => absurd h (by omega)⟩
        rw [hq] at HF
        go_wp2_with (go_at_fn g; refine hcall.mono ?_; rintro e w' ⟨rfl, hb'⟩)
        go_roundw
        case rel => exact ⟨1, by omega, by go_num, HF, hbel.trans hb'⟩
        case measure => simp [intOf]
    · have d0 := cell_ext c1 wr hbel
      have hcall := h1 wr hbel
      cases hq : q1 with
      | true =>
        rw [hq] at hcall
        go_wp2_with (go_at_fn g; refine hcall.mono ?_; rintro e w' ⟨rfl, hb'⟩)
        go_ret
        exact ⟨⟨1, rfl, by rw [hq]; cases q0 <;> cases q1 <;> cases q2 <;> first | rfl | cases hq⟩, hbel.trans hb'⟩
      | false =>
        rw [hq] at hcall
        have HF : Qs3 q0 q1 q2 2 := by
          obtain ⟨a1, a2, a3⟩ := hn
          exact ⟨fun _ => a1 (by omega), fun _ => hq, fun h => absurd h (by omega)⟩
        rw [hq] at HF
        go_wp2_with (go_at_fn g; refine hcall.mono ?_; rintro e w' ⟨rfl, hb'⟩)
        go_roundw
        case rel => exact ⟨2, by omega, by go_num, HF, hbel.trans hb'⟩
        case measure => simp [intOf]
    · have d0 := cell_ext c2 wr hbel
      have hcall := h2 wr hbel
      cases hq : q2 with
      | true =>
        rw [hq] at hcall
        go_wp2_with (go_at_fn g; refine hcall.mono ?_; rintro e w' ⟨rfl, hb'⟩)
        go_ret
        exact ⟨⟨2, rfl, by rw [hq]; cases q0 <;> cases q1 <;> cases q2 <;> first | rfl | cases hq⟩, hbel.trans hb'⟩
      | false =>
        rw [hq] at hcall
        have HF : Qs3 q0 q1 q2 3 := by
          obtain ⟨a1, a2, a3⟩ := hn
          exact ⟨fun _ => a1 (by omega), fun _ => a2 (by omega), fun _ => hq⟩
        rw [hq] at HF
        go_wp2_with (go_at_fn g; refine hcall.mono ?_; rintro e w' ⟨rfl, hb'⟩)
        go_roundw
        case rel => exact ⟨3, by omega, by go_num, HF, hbel.trans hb'⟩
        case measure => simp [intOf]
    · have HE : Hid ((q0 || q1 || q2) = false) := by
        obtain ⟨a1, a2, a3⟩ := hn
        show _ = _
        rw [a1 (by omega), a2 (by omega), a3 (by omega)]
        rfl
      go_wp2
      go_ret
      exact ⟨⟨-1, rfl, by rw [HE.out]; rfl⟩, hbel⟩

set_option maxHeartbeats 400000 in
theorem contains3_calls (g : Nat) (lb : Array Value) (b o : Nat) (s0 s1 s2 : Value) (q0 q1 q2 : Bool) (w : World) (c0 : World.cell? w ⟨b, o, none⟩ = some s0) (c1 : World.cell? w ⟨b, o + 1, none⟩ = some s1) (c2 : World.cell? w ⟨b, o + 2, none⟩ = some s2)
    (eg : ∀ args w, (callFunc g args).run Try.prog w = .ok (.enter g args) w) (h0 : TellsS g lb s0 q0 w) (h1 : TellsS g lb s1 q1 w) (h2 : TellsS g lb s2 q2 w) :
    Calls Try.prog 20 #[.slice (some ⟨b, o, none⟩) 3 3, .func (.func g) #[] lb] w fun e w' => e = .returned (.bool (q0 || q1 || q2)) ∧ Ext w w' := by
  go_enter Try.func20, Try.ntmps20
  go_wp2_with fail
  refine (index3_calls g lb b o s0 s1 s2 q0 q1 q2 w c0 c1 c2 eg h0 h1 h2).mono ?_
  rintro e w1 ⟨⟨i, rfl, hi⟩, hb⟩
  have HI := Lib.hid hi
  clear hi
  go_wp2
  go_ret
  exact ⟨ret_bool HI.out, hb⟩

end Go.Proofs.Ytmddlhfahfelpaa
