/- slices.IndexFunc and ContainsFunc over counts, of verify.Check. -/
/- The walks of verify.Turns and verify.Check. -/
import Derived.Test.YtmddlhfahfelpaaVfe
import Derived.Test.YtmddlhfahfelpaaGri
import Derived.Test.YtmddlhfahfelpaaVfg
import Derived.Test.YtmddlhfahfelpaaVfh
set_option linter.unusedSimpArgs false
set_option linter.unusedVariables false
set_option linter.unnecessarySimpa false
namespace Go.Proofs.Ytmddlhfahfelpaa
set_option maxRecDepth 10000
open Go.RowKit

/-- A function value that tells of one I64. -/
def TellsI64 (g : Nat) (lb : Array Value) (p : Int → Bool) (w : World) : Prop :=
  ∀ (W : World) (x : Int), Ext w W → InK .i64 x → Calls Try.prog g (#[.int .i64 x] ++ lb) W fun e w' => e = .returned (.bool (p x)) ∧ Ext W w'

set_option maxHeartbeats 800000 in
theorem indexI64_calls (g : Nat) (lb : Array Value) (p : Int → Bool) (v : Value) (l : List Int) (w : World) (hv : Ints .i64 w v l) (eg : ∀ args w, (callFunc g args).run Try.prog w = .ok (.enter g args) w) (hp : TellsI64 g lb p w) (hin : ∀ z ∈ l, InK .i64 z) :
    Calls Try.prog 50 #[v, .func (.func g) #[] lb] w fun e w' => (∃ i : Int, e = .returned (.int .i64 i) ∧ decide (0 ≤ i) = l.any p) ∧ Ext w w' := by
  have hv0 := hv
  obtain ⟨A, c, rfl, hlc, hcm, _⟩ := hv.form
  unfold maxLen at hcm
  clear hv
  go_enter Try.func50, Try.ntmps50
  go_wp2
  go_loopw [5, 8] (fun _ i wr => ∃ k : Nat, k ≤ l.length ∧ i = .int .i64 k ∧ Hid ((l.take k).any p = false) ∧ Ext w wr) (fun _ i _ => l.length - (intOf i).toNat)
  case atStart => exact ⟨0, by omega, rfl, rfl, Ext.refl _⟩
  case round =>
    obtain ⟨k, hk, rfl, hn, hbel⟩ := hrel
    by_cases hlt : k < l.length
    · obtain ⟨_, _, e1, _, _, hc⟩ := (hv0.ext hbel).form
      cases e1
      obtain ⟨b, off, rfl, c0⟩ := hc k hlt
      have hs : l[k]?.getD 0 = l[k] := by simp [hlt]
      rw [hs] at c0
      clear hs
      have hcall := hp wr l[k] hbel (hin _ (List.getElem_mem hlt))
      have HT : Hid (p l[k] = true → l.any p = true) := fun h => List.any_eq_true.2 ⟨_, List.getElem_mem hlt, h⟩
      have HF : Hid (p l[k] = false → (l.take (k + 1)).any p = false) := by
        show _ → _
        intro h
        rw [List.take_succ_eq_append_getElem hlt, List.any_append, hn.out]
        simp [h]
      clear hc hp
      generalize l[k] = y at *
      cases hq : p y with
      | true =>
        have HT1 := Lib.hid (HT.out hq)
        rw [hq] at hcall
        clear HF HT hq
        go_wp2_with (go_at_fn g; refine hcall.mono ?_; rintro e w' ⟨rfl, hb'⟩)
        go_ret
        exact ⟨⟨k, rfl, by rw [HT1.out]; simp⟩, hbel.trans hb'⟩
      | false =>
        have HF1 := Lib.hid (HF.out hq)
        rw [hq] at hcall
        clear HF HT hq
        go_wp2_with (go_at_fn g; refine hcall.mono ?_; rintro e w' ⟨rfl, hb'⟩)
        go_roundw
        case rel => exact ⟨k + 1, by omega, by go_num, HF1, hbel.trans hb'⟩
        case measure => simp [intOf]; omega
    · have hkk : k = l.length := by omega
      have HE : Hid (l.any p = false) := by
        show _ = _
        have := hn.out
        rwa [hkk, List.take_length] at this
      go_wp2
      go_ret
      exact ⟨⟨-1, rfl, by rw [HE.out]; rfl⟩, hbel⟩

set_option maxHeartbeats 400000 in
theorem containsI64_calls (g : Nat) (lb : Array Value) (p : Int → Bool) (v : Value) (l : List Int) (w : World) (hv : Ints .i64 w v l) (eg : ∀ args w, (callFunc g args).run Try.prog w = .ok (.enter g args) w) (hp : TellsI64 g lb p w) (hin : ∀ z ∈ l, InK .i64 z) :
    Calls Try.prog 28 #[v, .func (.func g) #[] lb] w fun e w' => e = .returned (.bool (l.any p)) ∧ Ext w w' := by
  go_enter Try.func28, Try.ntmps28
  go_wp2_with fail
  refine (indexI64_calls g lb p v l w hv eg hp hin).mono ?_
  rintro e w1 ⟨⟨i, rfl, hi⟩, hb⟩
  have HI := Lib.hid hi
  clear hi
  go_wp2
  go_ret
  exact ⟨ret_bool HI.out, hb⟩

theorem check1_calls (z : Int) (w : World) : Calls Try.prog 29 #[.int .i64 z] w fun e w' => e = .returned (.bool (z != 0)) ∧ Ext w w' := by
  cases hq : (z != 0)
  all_goals
    go_enter Try.func29, Try.ntmps29
    go_wp2_with fail
    go_ret
    exact ⟨rfl, Ext.refl _⟩

/-- Is there a count that is not nought? -/
theorem anyNot_calls (v : Value) (l : List Int) (w : World) (hv : Ints .i64 w v l) (hin : ∀ z ∈ l, InK .i64 z) :
    Calls Try.prog 28 #[v, .func (.func 29) #[] #[]] w fun e w' => e = .returned (.bool (l.any (· != 0))) ∧ Ext w w' :=
  containsI64_calls 29 #[] (· != 0) v l w hv (enters_of Try.func29 (by kernel_rfl) rfl) (fun W z _ _ => check1_calls z W) hin

end Go.Proofs.Ytmddlhfahfelpaa

namespace Go.Proofs.Ytmddlhfahfelpaa
set_option maxRecDepth 10000
open Go.RowKit

theorem putErr_len {L : List Isa.Cm} (h : Isa.putErr L = 0) : L.length ≤ 4096 := by
  unfold Isa.putErr at h
  split at h
  · cases h
  · omega
theorem mayI_len {g : Gr} {pl : List Int} {A B C : List Isa.Cm} (h : mayI g pl A B C = 0) : A.length ≤ 4096 ∧ B.length ≤ 4096 ∧ C.length ≤ 4096 := by
  unfold mayI at h
  split at h
  · rename_i h1; exact absurd h h1
  split at h
  · cases h
  split at h
  · rename_i h1; exact absurd h h1
  rename_i h2
  split at h
  · rename_i h1; exact absurd h h1
  rename_i h3
  exact ⟨putErr_len (by simpa using h2), putErr_len (by simpa using h3), putErr_len h⟩

def TurnP (r : Int × Int) (w : World) (e : Ending) (w' : World) : Prop := e = .returned (.tuple #[.int .i64 r.1, .int .i64 r.2]) ∧ Ext w w'

/-- Behind some turns. -/
structure TSt (w : World) (r : Int × Int) (M B0 n : Nat) (a b c : Value) (cs : List Int) (A B C : List Isa.Cm) (wr : World) : Prop where
  blk : Blk wr B0 (playC a b c cs) 55
  ca : Isa.Cmds w a A
  cb : Isa.Cmds w b B
  cc : Isa.Cmds w c C
  pl : PlZ cs A B C
  all : n + (A.length + B.length + C.length) = M
  is : r = playZ (A.length + B.length + C.length + 1) cs A B C n
  ext : Ext w wr

set_option maxRecDepth 20000 in
set_option maxHeartbeats 6400000 in
theorem turns_calls (g : Gr) (pV s0 s1 s2 : Value) (pl : List Int) (L0 L1 L2 : List Isa.Cm) (w : World) (hg : GrAt w g) (hp : Ints .i64 w pV pl) (hpk : ∀ z ∈ pl, InK .i64 z)
    (h0 : Isa.Cmds w s0 L0) (h1 : Isa.Cmds w s1 L1) (h2 : Isa.Cmds w s2 L2) :
    Calls Try.prog 7 #[.agg #[g.iV, g.nV, g.oV, pV, s0, s1, s2]] w (TurnP (turnsZ g pl L0 L1 L2) w) := by
  have HZ : Hid (turnsZ g pl L0 L1 L2 = if streamsZ g pl L0 L1 L2 ≠ 0 then (0, 27) else playZ (L0.length + L1.length + L2.length + 1) noughts L0 L1 L2 0) := rfl
  generalize turnsZ g pl L0 L1 L2 = rz at *
  have HP : Hid (∀ (x y : Int) w', rz = (x, y) → Ext w w' → TurnP rz w (.returned (.tuple #[.int .i64 x, .int .i64 y])) w') := fun x y w' h1 h2 => ⟨by rw [h1], h2⟩
  generalize TurnP rz w = PP at *
  have hb1 := Blk.new w #[g.iV, g.nV, g.oV, pV, s0, s1, s2] 30
  have hE1 := ext_alloc w (.cells #[g.iV, g.nV, g.oV, pV, s0, s1, s2] 30)
  have hst := fun W e => streams_calls g pV s0 s1 s2 pl L0 L1 L2 W (hg.ext e) (hp.ext e) hpk (h0.below e (Nat.le_refl _)) (h1.below e (Nat.le_refl _)) (h2.below e (Nat.le_refl _))
  have HMay := Lib.hid (fun h => streamsZ_may (g := g) (pl := pl) (A := L0) (B := L1) (C := L2) h)
  have HC := Lib.hid (And.intro h0 (And.intro h1 h2))
  clear hg hp hpk h0 h1 h2
  go_enter Try.func7, Try.ntmps7
  go_upto_region 1 with fail
  generalize World.alloc w _ = w1 at *
  have HBs := Lib.hid (Nat.le_refl w.heap.size)
  obtain ⟨B, hBe⟩ : ∃ B, w.heap.size = B := ⟨_, rfl⟩
  rw [hBe] at hb1 ⊢
  clear hBe HBs
  have y0 : World.cell? w1 ⟨B, 0, none⟩ = some (g.iV) := hb1.cell 0
  have y1 : World.cell? w1 ⟨B, 1, none⟩ = some (g.nV) := hb1.cell 1
  have y2 : World.cell? w1 ⟨B, 2, none⟩ = some (g.oV) := hb1.cell 2
  have y3 : World.cell? w1 ⟨B, 3, none⟩ = some (pV) := hb1.cell 3
  have y4 : World.cell? w1 ⟨B, 4, none⟩ = some (s0) := hb1.cell 4
  have y5 : World.cell? w1 ⟨B, 5, none⟩ = some (s1) := hb1.cell 5
  have y6 : World.cell? w1 ⟨B, 6, none⟩ = some (s2) := hb1.cell 6
  replace hst := hst w1 hE1
  unfold MayP at hst
  go_wp2_with fail
  refine hst.mono ?_
  rintro e w2 ⟨rfl, hE2⟩
  have hE2 : Ext w1 w2 := hE2
  replace hb1 := hb1.ext hE2
  replace hE1 := hE1.trans hE2
  clear y0 y1 y2 y3 y4 y5 y6
  clear hst hE2
  generalize streamsZ g pl L0 L1 L2 = sz at *
  by_cases hz : sz = 0
  case neg =>
    have hnz : (sz != 0) = true := by simpa using hz
    have HZ1 := Lib.hid (show rz = (0, 27) by rw [HZ.out, if_pos hz])
    have HE := Lib.hid hE1
    clear hz hE1 hb1 HZ
    go_wp2_with fail
    exact HP.out _ _ _ HZ1.out HE.out
  rw [if_neg (by rw [hz]; decide)] at HZ
  have hmay := HMay.out hz
  have hlen := mayI_len hmay
  have hall := mayI_all hmay
  rw [hz]
  clear hz hmay HMay
  have y4 : World.cell? w2 ⟨B, 4, none⟩ = some s0 := hb1.cell 4
  have y5 : World.cell? w2 ⟨B, 5, none⟩ = some s1 := hb1.cell 5
  have y6 : World.cell? w2 ⟨B, 6, none⟩ = some s2 := hb1.cell 6
  have HLn := Lib.hid hlen
  have HAll := Lib.hid hall
  clear hlen hall hb1
  go_upto_region 4 with fail
  clear y4 y5 y6
  have hB : Blk (w2.alloc (.cells #[s0, s1, s2, .int .i64 0, .int .i64 0, .int .i64 0, .int .i64 0, .int .i64 0, .int .i64 0, .int .i64 0, .int .i64 0] 55)) w2.heap.size (playC s0 s1 s2 noughts) 55 := Blk.new w2 #[s0, s1, s2, .int .i64 0, .int .i64 0, .int .i64 0, .int .i64 0, .int .i64 0, .int .i64 0, .int .i64 0, .int .i64 0] 55
  have hE3 := hE1.trans (ext_alloc w2 (.cells #[s0, s1, s2, .int .i64 0, .int .i64 0, .int .i64 0, .int .i64 0, .int .i64 0, .int .i64 0, .int .i64 0, .int .i64 0] 55))
  have HLt := Lib.hid hE1.size
  generalize World.alloc w2 _ = w3 at *
  generalize w2.heap.size = B0 at *
  clear hE1
  obtain ⟨M, hM⟩ : ∃ M, L0.length + L1.length + L2.length = M := ⟨_, rfl⟩
  have hM2 : M ≤ 20000 := by have := HLn.out; omega
  have HS : Hid (TSt w rz M B0 0 s0 s1 s2 noughts L0 L1 L2 w3) :=
    ⟨hB, HC.out.1, HC.out.2.1, HC.out.2.2, ⟨rfl, noughts_low, HAll.out.1, HAll.out.2.1, HAll.out.2.2⟩, by omega, HZ.out, hE3⟩
  clear HZ hM HLn HAll HC hB hE3
  go_wp2_with fail
  go_loopw [5] (fun i wr => ∃ (n : Nat) (a b c : Value) (cs : List Int) (A B C : List Isa.Cm), n ≤ M ∧ i = .int .i64 n ∧ Hid (TSt w rz M B0 n a b c cs A B C wr)) (fun i _ => M - (intOf i).toNat)
  case atStart => exact ⟨0, s0, s1, s2, noughts, L0, L1, L2, by omega, rfl, HS⟩
  case round =>
    clear HS
    obtain ⟨n, a, b, c, cs, A, B, C, hn, rfl, HS⟩ := hrel
    have hgo := goes_calls w wr B0 a b c cs A B C HS.out.blk HS.out.ext HLt.out HS.out.ca HS.out.cb HS.out.cc HS.out.pl
    have HI := Lib.hid HS.out.is
    rw [playZ_go] at HI
    have HPl := Lib.hid (fun q z cs' A' B' C' e => goZ_pl HS.out.pl (q := q) (z := z) (cs' := cs') (A' := A') (B' := B') (C' := C') e)
    have HAl := Lib.hid HS.out.all
    unfold GoesP at hgo
    obtain ⟨gz, hgz⟩ : ∃ gz, goZ cs A B C = gz := ⟨_, rfl⟩
    rw [hgz] at hgo HI
    have HPl2 := Lib.hid (fun q z cs' A' B' C' e => HPl.out q z cs' A' B' C' (hgz.trans e))
    clear hgz HPl HS
    go_upto_region 6 with fail
    go_wp2_with fail
    refine hgo.mono ?_
    rintro e w4 ⟨a', b', c', rfl, hB, ca, cb, cc, hE⟩
    obtain ⟨q, z, cs', A', B', C'⟩ := gz
    obtain ⟨hpl, hqt, hqf⟩ := HPl2.out q z cs' A' B' C' rfl
    dsimp only at hB ca cb cc hgo ⊢
    clear hgo HPl2
    cases q with
    | true =>
      obtain ⟨hz, hcnt⟩ := hqt rfl
      subst hz
      have hAl := HAl.out
      have HN : Hid (TSt w rz M B0 (n + 1) a' b' c' cs' A' B' C' w4) := by
        refine ⟨hB, ca, cb, cc, hpl, by omega, ?_, hE⟩
        rw [HI.out]
        show playZ (A.length + B.length + C.length) cs' A' B' C' (n + 1) = _
        rw [hcnt]
      have hn2 : n + 1 ≤ M := by omega
      clear HI hB ca cb cc hE hpl hqf hqt hcnt hAl HAl
      go_wp2_with fail
      go_roundw
      case rel => exact ⟨n + 1, a', b', c', cs', A', B', C', hn2, by go_num, HN⟩
      case measure => simp [intOf]; omega
    | false =>
      clear hqt hqf hpl HAl
      by_cases hz : z = 0
      case neg =>
        have hnz : (z != 0) = true := by simpa using hz
        have HZ1 := Lib.hid (show rz = (0, z) by rw [HI.out]; show (if z ≠ 0 then _ else _) = _; rw [if_pos hz])
        have HE := Lib.hid hE
        clear hz hE hB ca cb cc HI
        go_wp2_with fail
        exact HP.out _ _ _ HZ1.out HE.out
      subst hz
      have HZ : Hid (rz = if A' = [] ∧ B' = [] ∧ C' = [] then ((n : Int), 0) else (0, 20)) := HI.out
      obtain ⟨P0, e0, rfl, _⟩ := ca.form
      obtain ⟨P1, e1, rfl, _⟩ := cb.form
      obtain ⟨P2, e2, rfl, _⟩ := cc.form
      have y0 : World.cell? w4 ⟨B0, 0, none⟩ = some (.slice P0 A'.length e0) := hB.cell 0
      have y1 : World.cell? w4 ⟨B0, 1, none⟩ = some (.slice P1 B'.length e1) := hB.cell 1
      have y2 : World.cell? w4 ⟨B0, 2, none⟩ = some (.slice P2 C'.length e2) := hB.cell 2
      have x0 : ∀ W : World, (Instr.index 28 (.agg #[.slice P0 A'.length e0, .slice P1 B'.length e1, .slice P2 C'.length e2]) (.int .i64 0)).run Try.prog W = .ok (.slice P0 A'.length e0) W := fun _ => by kernel_rfl
      have x1 : ∀ W : World, (Instr.index 28 (.agg #[.slice P0 A'.length e0, .slice P1 B'.length e1, .slice P2 C'.length e2]) (.int .i64 1)).run Try.prog W = .ok (.slice P1 B'.length e1) W := fun _ => by kernel_rfl
      have x2 : ∀ W : World, (Instr.index 28 (.agg #[.slice P0 A'.length e0, .slice P1 B'.length e1, .slice P2 C'.length e2]) (.int .i64 2)).run Try.prog W = .ok (.slice P2 C'.length e2) W := fun _ => by kernel_rfl
      have HE := Lib.hid hE
      clear HI hB ca cb cc hE
      go_wp2_with fail
      clear y0 y1 y2
      go_loopw [34] (fun i wr => ∃ k : Nat, k ≤ 3 ∧ i = .int .i64 k ∧ Hid ((0 < k → A' = []) ∧ (1 < k → B' = []) ∧ (2 < k → C' = [])) ∧ Hid (Ext w wr)) (fun i _ => 3 - (intOf i).toNat)
      case atStart => exact ⟨0, by omega, rfl, ⟨fun h => by omega, fun h => by omega, fun h => by omega⟩, HE⟩
      case round =>
        clear HE
        obtain ⟨k, hk, rfl, HT, HE⟩ := hrel
        rcases (by omega : k = 0 ∨ k = 1 ∨ k = 2 ∨ k = 3) with rfl | rfl | rfl | rfl
        · by_cases hl : A'.length = 0
          · have g1 : decide (0 < A'.length) = false := decide_eq_false (by omega)
            have HN : Hid ((0 < 1 → A' = []) ∧ (1 < 1 → B' = []) ∧ (2 < 1 → C' = [])) := ⟨fun _ => List.eq_nil_of_length_eq_zero hl, fun h => absurd h (by omega), fun h => absurd h (by omega)⟩
            clear hl HT
            go_wp2_with fail
            go_roundw
            case rel => exact ⟨1, by omega, rfl, HN, HE⟩
            case measure => simp [intOf]
          · have g1 : decide (0 < A'.length) = true := decide_eq_true (by omega)
            have HZ1 := Lib.hid (show rz = (0, 20) by rw [HZ.out, if_neg (fun h => hl (by rw [h.1]; rfl))])
            clear hl HT HZ
            go_wp2_with fail
            exact HP.out _ _ _ HZ1.out HE.out
        · by_cases hl : B'.length = 0
          · have g1 : decide (0 < B'.length) = false := decide_eq_false (by omega)
            have HN : Hid ((0 < 2 → A' = []) ∧ (1 < 2 → B' = []) ∧ (2 < 2 → C' = [])) := ⟨fun _ => HT.out.1 (by omega), fun _ => List.eq_nil_of_length_eq_zero hl, fun h => absurd h (by omega)⟩
            clear hl HT
            go_wp2_with fail
            go_roundw
            case rel => exact ⟨2, by omega, rfl, HN, HE⟩
            case measure => simp [intOf]
          · have g1 : decide (0 < B'.length) = true := decide_eq_true (by omega)
            have HZ1 := Lib.hid (show rz = (0, 20) by rw [HZ.out, if_neg (fun h => hl (by rw [h.2.1]; rfl))])
            clear hl HT HZ
            go_wp2_with fail
            exact HP.out _ _ _ HZ1.out HE.out
        · by_cases hl : C'.length = 0
          · have g1 : decide (0 < C'.length) = false := decide_eq_false (by omega)
            have HN : Hid ((0 < 3 → A' = []) ∧ (1 < 3 → B' = []) ∧ (2 < 3 → C' = [])) := ⟨fun _ => HT.out.1 (by omega), fun _ => HT.out.2.1 (by omega), fun _ => List.eq_nil_of_length_eq_zero hl⟩
            clear hl HT
            go_wp2_with fail
            go_roundw
            case rel => exact ⟨3, by omega, rfl, HN, HE⟩
            case measure => simp [intOf]
          · have g1 : decide (0 < C'.length) = true := decide_eq_true (by omega)
            have HZ1 := Lib.hid (show rz = (0, 20) by rw [HZ.out, if_neg (fun h => hl (by rw [h.2.2]; rfl))])
            clear hl HT HZ
            go_wp2_with fail
            exact HP.out _ _ _ HZ1.out HE.out
        · have HZ1 := Lib.hid (show rz = ((n : Int), 0) by rw [HZ.out, if_pos ⟨HT.out.1 (by omega), HT.out.2.1 (by omega), HT.out.2.2 (by omega)⟩])
          clear HZ HT
          go_wp2_with fail
          exact HP.out _ _ _ HZ1.out HE.out

theorem balZ_in (A B C : List Isa.Cm) (h : A.length + B.length + C.length ≤ 100000) : ∀ z ∈ balZ A B C, InK .i64 z := by
  intro z hz
  obtain ⟨i, hi, rfl⟩ := List.getElem_of_mem hz
  have := foldB_abs (A ++ B ++ C) i
  have h2 : (balZ A B C)[i] = ((A ++ B ++ C).foldl addB noughts)[i]?.getD 0 := by
    show (balZ A B C)[i] = (balZ A B C)[i]?.getD 0
    simp [hi]
  rw [h2]
  simp only [List.length_append] at this
  simp only [InK]
  omega

set_option maxRecDepth 20000 in
set_option maxHeartbeats 6400000 in
theorem vcheck_calls (g : Gr) (pV s0 s1 s2 : Value) (pl : List Int) (L0 L1 L2 : List Isa.Cm) (w : World) (hg : GrAt w g) (hp : Ints .i64 w pV pl) (hpk : ∀ z ∈ pl, InK .i64 z)
    (h0 : Isa.Cmds w s0 L0) (h1 : Isa.Cmds w s1 L1) (h2 : Isa.Cmds w s2 L2) :
    Calls Try.prog 14 #[.agg #[g.iV, g.nV, g.oV, pV, s0, s1, s2]] w (MayP (checkZ g pl L0 L1 L2) w) := by
  have HZ : Hid (checkZ g pl L0 L1 L2 = if streamsZ g pl L0 L1 L2 ≠ 0 then streamsZ g pl L0 L1 L2 else if (balZ L0 L1 L2).any (· != 0) then 27 else (turnsZ g pl L0 L1 L2).2) := rfl
  generalize checkZ g pl L0 L1 L2 = mz at *
  have HP : Hid (∀ (z : Int) w', z = mz → Ext w w' → MayP mz w (.returned (.int .i64 z)) w') := fun z w' h1 h2 => ⟨by rw [h1], h2⟩
  generalize MayP mz w = PP at *
  have hb1 := Blk.new w #[g.iV, g.nV, g.oV, pV, s0, s1, s2] 30
  have hE1 := ext_alloc w (.cells #[g.iV, g.nV, g.oV, pV, s0, s1, s2] 30)
  have hst := fun W e => streams_calls g pV s0 s1 s2 pl L0 L1 L2 W (hg.ext e) (hp.ext e) hpk (h0.below e (Nat.le_refl _)) (h1.below e (Nat.le_refl _)) (h2.below e (Nat.le_refl _))
  have htu := Lib.hid (fun W e => turns_calls g pV s0 s1 s2 pl L0 L1 L2 W (hg.ext e) (hp.ext e) hpk (h0.below e (Nat.le_refl _)) (h1.below e (Nat.le_refl _)) (h2.below e (Nat.le_refl _)))
  have hba := Lib.hid (fun W e => balance_calls g pV s0 s1 s2 L0 L1 L2 W (h0.below e (Nat.le_refl _)) (h1.below e (Nat.le_refl _)) (h2.below e (Nat.le_refl _)))
  have HMay := Lib.hid (fun h => mayI_len (streamsZ_may (g := g) (pl := pl) (A := L0) (B := L1) (C := L2) h))
  clear hg hp hpk h0 h1 h2
  go_enter Try.func14, Try.ntmps14
  go_upto_region 1 with fail
  generalize World.alloc w _ = w1 at *
  obtain ⟨B, hBe⟩ : ∃ B, w.heap.size = B := ⟨_, rfl⟩
  rw [hBe] at hb1 ⊢
  clear hBe
  have y0 : World.cell? w1 ⟨B, 0, none⟩ = some (g.iV) := hb1.cell 0
  have y1 : World.cell? w1 ⟨B, 1, none⟩ = some (g.nV) := hb1.cell 1
  have y2 : World.cell? w1 ⟨B, 2, none⟩ = some (g.oV) := hb1.cell 2
  have y3 : World.cell? w1 ⟨B, 3, none⟩ = some (pV) := hb1.cell 3
  have y4 : World.cell? w1 ⟨B, 4, none⟩ = some (s0) := hb1.cell 4
  have y5 : World.cell? w1 ⟨B, 5, none⟩ = some (s1) := hb1.cell 5
  have y6 : World.cell? w1 ⟨B, 6, none⟩ = some (s2) := hb1.cell 6
  replace hst := hst w1 hE1
  unfold MayP at hst
  go_wp2_with fail
  refine hst.mono ?_
  rintro e w2 ⟨rfl, hE2⟩
  have hE2 : Ext w1 w2 := hE2
  replace hb1 := hb1.ext hE2
  replace hE1 := hE1.trans hE2
  clear y0 y1 y2 y3 y4 y5 y6
  clear hst hE2
  generalize streamsZ g pl L0 L1 L2 = sz at *
  by_cases hz : sz = 0
  case neg =>
    have hnz : (sz != 0) = true := by simpa using hz
    have HZ1 := Lib.hid (show sz = mz by rw [HZ.out, if_pos hz])
    have HE := Lib.hid hE1
    clear hz hE1 hb1 HZ
    go_wp2_with fail
    exact HP.out _ _ HZ1.out HE.out
  rw [if_neg (by rw [hz]; decide)] at HZ
  have hlen := HMay.out hz
  have hbc := hba.out w2 hE1 (by omega) (by omega) (by omega)
  have HBin := Lib.hid (balZ_in L0 L1 L2 (by omega))
  unfold BalP at hbc
  rw [hz]
  clear hz HMay hlen hba
  generalize balZ L0 L1 L2 = bz at *
  have y0 : World.cell? w2 ⟨B, 0, none⟩ = some (g.iV) := hb1.cell 0
  have y1 : World.cell? w2 ⟨B, 1, none⟩ = some (g.nV) := hb1.cell 1
  have y2 : World.cell? w2 ⟨B, 2, none⟩ = some (g.oV) := hb1.cell 2
  have y3 : World.cell? w2 ⟨B, 3, none⟩ = some (pV) := hb1.cell 3
  have y4 : World.cell? w2 ⟨B, 4, none⟩ = some (s0) := hb1.cell 4
  have y5 : World.cell? w2 ⟨B, 5, none⟩ = some (s1) := hb1.cell 5
  have y6 : World.cell? w2 ⟨B, 6, none⟩ = some (s2) := hb1.cell 6
  go_wp2_with fail
  refine hbc.mono ?_
  rintro e w3 ⟨v, rfl, hv, hE3⟩
  have hE3 : Ext w2 w3 := hE3
  replace hb1 := hb1.ext hE3
  replace hE1 := hE1.trans hE3
  clear y0 y1 y2 y3 y4 y5 y6
  have hac := anyNot_calls v bz w3 hv HBin.out
  obtain ⟨q, hq⟩ : ∃ q, bz.any (· != 0) = q := ⟨_, rfl⟩
  rw [hq] at hac HZ
  clear hbc hE3 hq HBin hv
  go_wp2_with fail
  refine hac.mono ?_
  rintro e w4 ⟨rfl, hE4⟩
  have hE4 : Ext w3 w4 := hE4
  replace hb1 := hb1.ext hE4
  replace hE1 := hE1.trans hE4
  clear hE4 hac
  cases q with
  | true =>
    have HZ1 := Lib.hid (show 27 = mz by rw [HZ.out, if_pos rfl])
    have HE := Lib.hid hE1
    clear hE1 hb1 HZ
    go_wp2_with fail
    exact HP.out _ _ HZ1.out HE.out
  | false =>
    rw [if_neg (by decide)] at HZ
    have htc := htu.out w4 hE1
    unfold TurnP at htc
    generalize turnsZ g pl L0 L1 L2 = tz at *
    have y0 : World.cell? w4 ⟨B, 0, none⟩ = some (g.iV) := hb1.cell 0
    have y1 : World.cell? w4 ⟨B, 1, none⟩ = some (g.nV) := hb1.cell 1
    have y2 : World.cell? w4 ⟨B, 2, none⟩ = some (g.oV) := hb1.cell 2
    have y3 : World.cell? w4 ⟨B, 3, none⟩ = some (pV) := hb1.cell 3
    have y4 : World.cell? w4 ⟨B, 4, none⟩ = some (s0) := hb1.cell 4
    have y5 : World.cell? w4 ⟨B, 5, none⟩ = some (s1) := hb1.cell 5
    have y6 : World.cell? w4 ⟨B, 6, none⟩ = some (s2) := hb1.cell 6
    go_wp2_with fail
    refine htc.mono ?_
    rintro e w5 ⟨rfl, hE5⟩
    have HE := Lib.hid (hE1.trans hE5)
    clear y0 y1 y2 y3 y4 y5 y6
    clear htc hE5 hE1 hb1
    obtain ⟨t1, t2⟩ := tz
    dsimp only at HZ ⊢
    go_wp2_with fail
    exact HP.out _ _ HZ.out.symm HE.out

end Go.Proofs.Ytmddlhfahfelpaa
