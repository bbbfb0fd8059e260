/- The walk of the reference's Turns of layer 20. -/
import Derived.Test.YtmddlhfahfelpaaVfj
import Derived.Test.YtmddlhfahfelpaaVfi
import Derived.Test.YtmddlhfahfelpaaVfk
set_option linter.unusedSimpArgs false
set_option linter.unusedVariables false
set_option linter.unnecessarySimpa false
namespace Go.Proofs.Ytmddlhfahfelpaa
set_option maxRecDepth 10000
open Go.RowKit

def atC (a b c : Nat) : Array Value := #[.int .i64 (a : Int), .int .i64 (b : Int), .int .i64 (c : Int)]
theorem atC_set0 (a b c : Nat) : (atC a b c).setIfInBounds 0 (.int .i64 ((a : Int) + 1)) = atC (a + 1) b c := by simp [atC]
theorem atC_set1 (a b c : Nat) : (atC a b c).setIfInBounds 1 (.int .i64 ((b : Int) + 1)) = atC a (b + 1) c := by simp [atC]
theorem atC_set2 (a b c : Nat) : (atC a b c).setIfInBounds 2 (.int .i64 ((c : Int) + 1)) = atC a b (c + 1) := by simp [atC]
/-- Behind some turns of the reference. -/
structure RSt (w : World) (ims : Array Value) (r : Int × Int) (M B1 B4 B5 : Nat) (L0 L1 L2 : List Isa.Cm) (n a b c : Nat) (cs : List Int) (wr : World) : Prop where
  im : Blk wr B1 ims 30
  at_ : Blk wr B4 (atC a b c) 58
  sem : Blk wr B5 (cnt cs) 53
  pl : PlZ cs (L0.drop a) (L1.drop b) (L2.drop c)
  la : a ≤ L0.length
  lb : b ≤ L1.length
  lc : c ≤ L2.length
  all : n + ((L0.drop a).length + (L1.drop b).length + (L2.drop c).length) = M
  is : r = playZ ((L0.drop a).length + (L1.drop b).length + (L2.drop c).length + 1) cs (L0.drop a) (L1.drop b) (L2.drop c) n
  ext : Ext w wr

theorem RSt.later {w : World} {ims : Array Value} {r : Int × Int} {M B1 B4 B5 : Nat} {L0 L1 L2 : List Isa.Cm} {n a b c : Nat} {cs : List Int} {wr W : World} (h : RSt w ims r M B1 B4 B5 L0 L1 L2 n a b c cs wr) (e : Ext wr W) : RSt w ims r M B1 B4 B5 L0 L1 L2 n a b c cs W :=
  ⟨h.im.ext e, h.at_.ext e, h.sem.ext e, h.pl, h.la, h.lb, h.lc, h.all, h.is, h.ext.trans e⟩
theorem RSt.go0 {w : World} {ims : Array Value} {r : Int × Int} {M B1 B4 B5 : Nat} {L0 L1 L2 : List Isa.Cm} {n a b c : Nat} {cs : List Int} {wr W : World} (h : RSt w ims r M B1 B4 B5 L0 L1 L2 n a b c cs wr) (h2 : tryZ cs (L0.drop a) = 2)
    (hi : Blk W B1 ims 30) (ha : Blk W B4 (atC (a + 1) (b) (c)) 58) (hs : Blk W B5 (cnt (goes cs (L0.drop a))) 53) (he : Ext w W) : RSt w ims r M B1 B4 B5 L0 L1 L2 (n + 1) (a + 1) (b) (c) (goes cs (L0.drop a)) W ∧ n + 1 ≤ M := by
  obtain ⟨x, l, hx, _⟩ := tryZ_two h2
  have hlt : a < L0.length := by
    rcases Nat.lt_or_ge a L0.length with h9 | h9
    · exact h9
    · rw [List.drop_eq_nil_of_le h9] at hx; cases hx
  have hall := h.all
  simp only [List.length_drop] at hall
  have hla := h.la
  have hlb := h.lb
  have hlc := h.lc
  have hpl := h.pl.goA h2
  rw [List.tail_drop] at hpl
  refine ⟨⟨hi, ha, hs, hpl, by omega, by omega, by omega, by simp only [List.length_drop]; omega, ?_, he⟩, by omega⟩
  rw [h.is, playZ_goA h2, List.tail_drop]
  congr 1
  simp only [List.length_drop]
  omega
theorem RSt.full0 {w : World} {ims : Array Value} {r : Int × Int} {M B1 B4 B5 : Nat} {L0 L1 L2 : List Isa.Cm} {n a b c : Nat} {cs : List Int} {wr : World} (h : RSt w ims r M B1 B4 B5 L0 L1 L2 n a b c cs wr) (h2 : tryZ cs (L0.drop a) = 1) : r = (0, 22) := by
  rw [h.is, playZ_fullA h2]
theorem RSt.go1 {w : World} {ims : Array Value} {r : Int × Int} {M B1 B4 B5 : Nat} {L0 L1 L2 : List Isa.Cm} {n a b c : Nat} {cs : List Int} {wr W : World} (h : RSt w ims r M B1 B4 B5 L0 L1 L2 n a b c cs wr) (z0 : tryZ cs (L0.drop a) = 0) (h2 : tryZ cs (L1.drop b) = 2)
    (hi : Blk W B1 ims 30) (ha : Blk W B4 (atC (a) (b + 1) (c)) 58) (hs : Blk W B5 (cnt (goes cs (L1.drop b))) 53) (he : Ext w W) : RSt w ims r M B1 B4 B5 L0 L1 L2 (n + 1) (a) (b + 1) (c) (goes cs (L1.drop b)) W ∧ n + 1 ≤ M := by
  obtain ⟨x, l, hx, _⟩ := tryZ_two h2
  have hlt : b < L1.length := by
    rcases Nat.lt_or_ge b L1.length with h9 | h9
    · exact h9
    · rw [List.drop_eq_nil_of_le h9] at hx; cases hx
  have hall := h.all
  simp only [List.length_drop] at hall
  have hla := h.la
  have hlb := h.lb
  have hlc := h.lc
  have hpl := h.pl.goB h2
  rw [List.tail_drop] at hpl
  refine ⟨⟨hi, ha, hs, hpl, by omega, by omega, by omega, by simp only [List.length_drop]; omega, ?_, he⟩, by omega⟩
  rw [h.is, playZ_goB z0 h2, List.tail_drop]
  congr 1
  simp only [List.length_drop]
  omega
theorem RSt.full1 {w : World} {ims : Array Value} {r : Int × Int} {M B1 B4 B5 : Nat} {L0 L1 L2 : List Isa.Cm} {n a b c : Nat} {cs : List Int} {wr : World} (h : RSt w ims r M B1 B4 B5 L0 L1 L2 n a b c cs wr) (z0 : tryZ cs (L0.drop a) = 0) (h2 : tryZ cs (L1.drop b) = 1) : r = (0, 22) := by
  rw [h.is, playZ_fullB z0 h2]
theorem RSt.go2 {w : World} {ims : Array Value} {r : Int × Int} {M B1 B4 B5 : Nat} {L0 L1 L2 : List Isa.Cm} {n a b c : Nat} {cs : List Int} {wr W : World} (h : RSt w ims r M B1 B4 B5 L0 L1 L2 n a b c cs wr) (z0 : tryZ cs (L0.drop a) = 0) (z1 : tryZ cs (L1.drop b) = 0) (h2 : tryZ cs (L2.drop c) = 2)
    (hi : Blk W B1 ims 30) (ha : Blk W B4 (atC (a) (b) (c + 1)) 58) (hs : Blk W B5 (cnt (goes cs (L2.drop c))) 53) (he : Ext w W) : RSt w ims r M B1 B4 B5 L0 L1 L2 (n + 1) (a) (b) (c + 1) (goes cs (L2.drop c)) W ∧ n + 1 ≤ M := by
  obtain ⟨x, l, hx, _⟩ := tryZ_two h2
  have hlt : c < L2.length := by
    rcases Nat.lt_or_ge c L2.length with h9 | h9
    · exact h9
    · rw [List.drop_eq_nil_of_le h9] at hx; cases hx
  have hall := h.all
  simp only [List.length_drop] at hall
  have hla := h.la
  have hlb := h.lb
  have hlc := h.lc
  have hpl := h.pl.goC h2
  rw [List.tail_drop] at hpl
  refine ⟨⟨hi, ha, hs, hpl, by omega, by omega, by omega, by simp only [List.length_drop]; omega, ?_, he⟩, by omega⟩
  rw [h.is, playZ_goC z0 z1 h2, List.tail_drop]
  congr 1
  simp only [List.length_drop]
  omega
theorem RSt.full2 {w : World} {ims : Array Value} {r : Int × Int} {M B1 B4 B5 : Nat} {L0 L1 L2 : List Isa.Cm} {n a b c : Nat} {cs : List Int} {wr : World} (h : RSt w ims r M B1 B4 B5 L0 L1 L2 n a b c cs wr) (z0 : tryZ cs (L0.drop a) = 0) (z1 : tryZ cs (L1.drop b) = 0) (h2 : tryZ cs (L2.drop c) = 1) : r = (0, 22) := by
  rw [h.is, playZ_fullC z0 z1 h2]

/-- Within a turn: engine k is asked next; q: one has gone; e: all that were asked have ended. -/
inductive RIn (w : World) (ims : Array Value) (r : Int × Int) (M B1 B4 B5 : Nat) (L0 L1 L2 : List Isa.Cm) (n k : Nat) : Bool → Bool → Nat → World → Prop where
  | gone {e : Bool} {a b c : Nat} {cs : List Int} {wr : World} (hn : n + 1 ≤ M) (h : RSt w ims r M B1 B4 B5 L0 L1 L2 (n + 1) a b c cs wr) : RIn w ims r M B1 B4 B5 L0 L1 L2 n k true e (n + 1) wr
  | not {e : Bool} {a b c : Nat} {cs : List Int} {wr : World} (h : RSt w ims r M B1 B4 B5 L0 L1 L2 n a b c cs wr) (t0 : 0 < k → tryZ cs (L0.drop a) = 0) (t1 : 1 < k → tryZ cs (L1.drop b) = 0) (t2 : 2 < k → tryZ cs (L2.drop c) = 0)
      (he : e = true ↔ (0 < k → L0.drop a = []) ∧ (1 < k → L1.drop b = []) ∧ (2 < k → L2.drop c = [])) : RIn w ims r M B1 B4 B5 L0 L1 L2 n k false e n wr

set_option maxRecDepth 20000 in
set_option maxHeartbeats 12800000 in
theorem rturns_calls (g : Gr) (pV s0 s1 s2 : Value) (pl : List Int) (L0 L1 L2 : List Isa.Cm) (w : World) (hg : GrAt w g) (hp : Ints .i64 w pV pl) (hpk : ∀ z ∈ pl, InK .i64 z)
    (h0 : Isa.Cmds w s0 L0) (h1 : Isa.Cmds w s1 L1) (h2 : Isa.Cmds w s2 L2) :
    Calls Try.prog 8 #[.agg #[g.iV, g.nV, g.oV, pV, s0, s1, s2]] w (TurnP (turnsZ g pl L0 L1 L2) w) := by
  have HZ : Hid (turnsZ g pl L0 L1 L2 = if streamsZ g pl L0 L1 L2 ≠ 0 then (0, 27) else playZ (L0.length + L1.length + L2.length + 1) noughts L0 L1 L2 0) := rfl
  generalize turnsZ g pl L0 L1 L2 = rz at *
  have HP : Hid (∀ (x y : Int) w', rz = (x, y) → Ext w w' → TurnP rz w (.returned (.tuple #[.int .i64 x, .int .i64 y])) w') := fun x y w' h1 h2 => ⟨by rw [h1], h2⟩
  generalize TurnP rz w = PP at *
  have hst := fun W e => rstreams_calls g pV s0 s1 s2 pl L0 L1 L2 W (hg.ext e) (hp.ext e) hpk (h0.below e (Nat.le_refl _)) (h1.below e (Nat.le_refl _)) (h2.below e (Nat.le_refl _))
  have HMay := Lib.hid (fun h => streamsZ_may (g := g) (pl := pl) (A := L0) (B := L1) (C := L2) h)
  obtain ⟨IM, hIM⟩ : ∃ IM : Array Value, #[g.iV, g.nV, g.oV, pV, s0, s1, s2] = IM := ⟨_, rfl⟩
  have HIM := Lib.hid hIM
  obtain ⟨A0, d0, e0, m0, n0, _⟩ := id h0.form
  have HC0 := Lib.hid h0
  have HE0 := Lib.hid e0
  obtain ⟨A1, d1, e1, m1, n1, _⟩ := id h1.form
  have HC1 := Lib.hid h1
  have HE1 := Lib.hid e1
  obtain ⟨A2, d2, e2, m2, n2, _⟩ := id h2.form
  have HC2 := Lib.hid h2
  have HE2 := Lib.hid e2
  unfold maxLen at n0 n1 n2
  have HY0 : Hid (IM[4]? = some (.slice A0 L0.length d0)) := by show _ = _; rw [← HIM.out]; show some s0 = _; rw [HE0.out]
  have HY1 : Hid (IM[5]? = some (.slice A1 L1.length d1)) := by show _ = _; rw [← HIM.out]; show some s1 = _; rw [HE1.out]
  have HY2 : Hid (IM[6]? = some (.slice A2 L2.length d2)) := by show _ = _; rw [← HIM.out]; show some s2 = _; rw [HE2.out]
  clear hg hp hpk h0 h1 h2 e0 e1 e2 hIM
  have hb1 := Blk.new w #[g.iV, g.nV, g.oV, pV, s0, s1, s2] 30
  have hE1 := ext_alloc w (.cells #[g.iV, g.nV, g.oV, pV, s0, s1, s2] 30)
  go_enter Try.func8, Try.ntmps8
  go_upto_region 1 with fail
  generalize World.alloc w _ = w1 at *
  obtain ⟨B1, hBe⟩ : ∃ B, w.heap.size = B := ⟨_, rfl⟩
  rw [hBe] at hb1 ⊢
  have HBe := Lib.hid hBe
  clear hBe
  have y0 : World.cell? w1 ⟨B1, 0, none⟩ = some (g.iV) := hb1.cell 0
  have y1 : World.cell? w1 ⟨B1, 1, none⟩ = some (g.nV) := hb1.cell 1
  have y2 : World.cell? w1 ⟨B1, 2, none⟩ = some (g.oV) := hb1.cell 2
  have y3 : World.cell? w1 ⟨B1, 3, none⟩ = some (pV) := hb1.cell 3
  have y4 : World.cell? w1 ⟨B1, 4, none⟩ = some (s0) := hb1.cell 4
  have y5 : World.cell? w1 ⟨B1, 5, none⟩ = some (s1) := hb1.cell 5
  have y6 : World.cell? w1 ⟨B1, 6, none⟩ = some (s2) := hb1.cell 6
  replace hst := hst w1 hE1
  unfold MayP at hst
  go_wp2_with fail
  refine hst.mono ?_
  rintro e w2 ⟨rfl, hE2⟩
  have hE2 : Ext w1 w2 := hE2
  replace hb1 := hb1.ext hE2
  replace hE1 := hE1.trans hE2
  clear y0 y1 y2 y3 y4 y5 y6
  clear hst hE2
  generalize streamsZ g pl L0 L1 L2 = sz at *
  by_cases hz : sz = 0
  case neg =>
    have hnz : (sz != 0) = true := by simpa using hz
    have HZ1 := Lib.hid (show rz = (0, 27) by rw [HZ.out, if_pos hz])
    have HE := Lib.hid hE1
    clear hz hE1 hb1 HZ
    go_wp2_with fail
    exact HP.out _ _ _ HZ1.out HE.out
  rw [if_neg (by rw [hz]; decide)] at HZ
  have hmay := HMay.out hz
  have HLn := Lib.hid (mayI_len hmay)
  have HAll := Lib.hid (mayI_all hmay)
  rw [hz]
  clear hz hmay HMay
  have hz4 := Blk.new w2 #[.int .i64 0, .int .i64 0, .int .i64 0] 58
  have hb4 : Blk ((w2.alloc (.cells #[.int .i64 0, .int .i64 0, .int .i64 0] 58)).setRow w2.heap.size #[.int .i64 0, .int .i64 0, .int .i64 0]) w2.heap.size (atC 0 0 0) 58 := setRow_heap _ _ _ _ _ _ hz4
  have hQ : Ext w2 ((w2.alloc (.cells #[.int .i64 0, .int .i64 0, .int .i64 0] 58)).setRow w2.heap.size #[.int .i64 0, .int .i64 0, .int .i64 0]) := ext_setRow (ext_alloc _ _) _ (Nat.le_refl _)
  have hn14 : B1 < w2.heap.size := hb1.lt
  go_upto_region 4 with (refine wpList_store_row rfl 58 _ _ rfl w2.heap.size #[.int .i64 0, .int .i64 0, .int .i64 0] rfl rfl 58 _ hz4 (by kernel_rfl) rfl (by simp [Value.oneCell']) ?_)
  replace hb1 := hb1.ext hQ
  replace hE1 := hE1.trans hQ
  clear hQ hz4
  generalize World.setRow (w2.alloc _) _ _ = w3 at *
  generalize w2.heap.size = B4 at *
  have hz5 := Blk.new w3 #[.int .i64 0, .int .i64 0, .int .i64 0, .int .i64 0, .int .i64 0, .int .i64 0, .int .i64 0, .int .i64 0] 53
  have hb5 : Blk ((w3.alloc (.cells #[.int .i64 0, .int .i64 0, .int .i64 0, .int .i64 0, .int .i64 0, .int .i64 0, .int .i64 0, .int .i64 0] 53)).setRow w3.heap.size #[.int .i64 0, .int .i64 0, .int .i64 0, .int .i64 0, .int .i64 0, .int .i64 0, .int .i64 0, .int .i64 0]) w3.heap.size (cnt noughts) 53 := setRow_heap _ _ _ _ _ _ hz5
  have hQ : Ext w3 ((w3.alloc (.cells #[.int .i64 0, .int .i64 0, .int .i64 0, .int .i64 0, .int .i64 0, .int .i64 0, .int .i64 0, .int .i64 0] 53)).setRow w3.heap.size #[.int .i64 0, .int .i64 0, .int .i64 0, .int .i64 0, .int .i64 0, .int .i64 0, .int .i64 0, .int .i64 0]) := ext_setRow (ext_alloc _ _) _ (Nat.le_refl _)
  have hn45 : B4 < w3.heap.size := hb4.lt
  go_upto_region 5 with (refine wpList_store_row rfl 53 _ _ rfl w3.heap.size #[.int .i64 0, .int .i64 0, .int .i64 0, .int .i64 0, .int .i64 0, .int .i64 0, .int .i64 0, .int .i64 0] rfl rfl 53 _ hz5 (by kernel_rfl) rfl (by simp [Value.oneCell']) ?_)
  replace hb1 := hb1.ext hQ
  replace hb4 := hb4.ext hQ
  replace hE1 := hE1.trans hQ
  clear hQ hz5
  generalize World.setRow (w3.alloc _) _ _ = w4 at *
  generalize w3.heap.size = B5 at *
  obtain ⟨M, hM⟩ : ∃ M, L0.length + L1.length + L2.length = M := ⟨_, rfl⟩
  have hM2 : M ≤ 20000 := by have := HLn.out; omega
  rw [HIM.out] at hb1
  have HS : Hid (RSt w IM rz M B1 B4 B5 L0 L1 L2 0 0 0 0 noughts w4) :=
    ⟨hb1, hb4, hb5, ⟨rfl, noughts_low, HAll.out.1, HAll.out.2.1, HAll.out.2.2⟩, by omega, by omega, by omega, by simp only [List.drop_zero]; omega, HZ.out, hE1⟩
  have hw1 : w.heap.size ≤ B1 := by rw [HBe.out]; omega
  have HW := Lib.hid (And.intro hw1 (And.intro hn14 hn45))
  clear HZ hM HLn HAll hb1 hb4 hb5 hE1 hn14 hn45 hw1
  go_wp2_with fail
  go_loopw [6] (fun i wr => ∃ (n a b c : Nat) (cs : List Int), n ≤ M ∧ i = .int .i64 n ∧ Hid (RSt w IM rz M B1 B4 B5 L0 L1 L2 n a b c cs wr)) (fun i _ => M - (intOf i).toNat)
  case atStart => exact ⟨0, 0, 0, 0, noughts, by omega, rfl, HS⟩
  case round =>
    clear HS
    obtain ⟨n, a0, b0, c0, cs0, hn, rfl, HS⟩ := hrel
    have HI : Hid (RIn w IM rz M B1 B4 B5 L0 L1 L2 n 0 false true n wr) := .not HS.out (fun h => absurd h (by omega)) (fun h => absurd h (by omega)) (fun h => absurd h (by omega)) ⟨fun _ => ⟨fun h => absurd h (by omega), fun h => absurd h (by omega), fun h => absurd h (by omega)⟩, fun _ => rfl⟩
    clear HS
    generalize hwq : wr = wq at *
    clear hwq
    go_wp2_with fail
    go_loopw [7, 8, 9, 6] (fun vq ve vk vn wr => ∃ (q e : Bool) (k m : Nat), k ≤ 4 ∧ m ≤ M ∧ (q = false → k ≤ 3) ∧ vq = .bool q ∧ ve = .bool e ∧ vk = .int .i64 k ∧ vn = .int .i64 m ∧ Hid (RIn w IM rz M B1 B4 B5 L0 L1 L2 n k q e m wr)) (fun _ _ vk _ _ => 4 - (intOf vk).toNat)
    case atStart => exact ⟨false, true, 0, n, by omega, hn, fun _ => by omega, rfl, rfl, rfl, rfl, HI⟩
    case round =>
      clear HI
      obtain ⟨q, e, k, m, hk, hm, hqk, rfl, rfl, rfl, rfl, HI⟩ := hrel
      have HI0 := HI.out
      clear HI
      cases q with
      | true =>
        obtain ⟨a, b, c, cs, hmn, hnM, HR0⟩ : ∃ a b c cs, m = n + 1 ∧ n + 1 ≤ M ∧ RSt w IM rz M B1 B4 B5 L0 L1 L2 m a b c cs wr := by
          cases HI0 with
          | gone hn h => exact ⟨_, _, _, _, rfl, hn, h⟩
        have HR := Lib.hid HR0
        have hmn1 : n < m := by omega
        clear HI0 HR0 hqk hnM hmn
        by_cases hk3 : k < 3
        all_goals
          go_wp2_with fail
          go_roundw
          case rel => exact ⟨m, a, b, c, cs, hm, rfl, HR⟩
          case measure => simp [intOf]; omega
      | false =>
        obtain ⟨a, b, c, cs, hmn, HR0, t0, t1, t2, he⟩ : ∃ a b c cs, m = n ∧ RSt w IM rz M B1 B4 B5 L0 L1 L2 n a b c cs wr ∧ (0 < k → tryZ cs (L0.drop a) = 0) ∧ (1 < k → tryZ cs (L1.drop b) = 0) ∧ (2 < k → tryZ cs (L2.drop c) = 0) ∧
            (e = true ↔ (0 < k → L0.drop a = []) ∧ (1 < k → L1.drop b = []) ∧ (2 < k → L2.drop c = [])) := by
          cases HI0 with
          | not h t0 t1 t2 he => exact ⟨_, _, _, _, rfl, h, t0, t1, t2, he⟩
        subst hmn
        have HR := Lib.hid HR0
        have HT0 := Lib.hid t0
        have HT1 := Lib.hid t1
        have HT2 := Lib.hid t2
        have HEE := Lib.hid he
        have hk3 := hqk rfl
        clear HI0 HR0 hqk t0 t1 t2 he hm
        rcases (by omega : k = 0 ∨ k = 1 ∨ k = 2 ∨ k = 3) with rfl | rfl | rfl | rfl
        · rw [show ((0 : Nat) : Int) = 0 from rfl]
          have hS := HC0.out
          rw [HE0.out] at hS
          have HRd := Lib.hid (HR.out.later (Ext.drew wr))
          have K0 : Keeps [B1, B4] wr wr.drew := Keeps.drew _ _
          have qa : ∀ W, Keeps [B1, B4] wr W → World.cell? W ⟨B4, 0, none⟩ = some (.int .i64 (a : Int)) := fun W hW => (hW.cell (by simp)).trans (HR.out.at_.cell 0)
          have qy : ∀ W, Keeps [B1, B4] wr W → World.cell? W ⟨B1, 4, none⟩ = some (.slice A0 L0.length d0) := fun W hW => (hW.cell (by simp)).trans ((HR.out.im.cell 4).trans HY0.out)
          by_cases hal : a < L0.length
          case neg =>
            have d1 : decide ((L0.length : Int) ≤ (a : Int)) = true := decide_eq_true (by omega)
            have d2 : decide (L0.length ≤ a) = true := decide_eq_true (by omega)
            have hnil : L0.drop a = [] := List.drop_eq_nil_of_le (by omega)
            have HN : Hid (RIn w IM rz M B1 B4 B5 L0 L1 L2 m 1 false e m wr.drew) := .not HRd.out (fun _ => by rw [hnil]; rfl) (fun h => absurd h (by omega)) (fun h => absurd h (by omega)) ⟨fun he => have h := HEE.out.1 he; ⟨fun _ => hnil, fun h => absurd h (by omega), fun h => absurd h (by omega)⟩, fun h => HEE.out.2 ⟨fun h => absurd h (by omega), fun h => absurd h (by omega), fun h => absurd h (by omega)⟩⟩
            clear hal hnil HR HRd hS HEE
            go_wp2_with fail
            refine wp_region_S (Keeps [B1, B4] wr) [(0, true), (1, true), (2, true), (3, true), (4, true), (5, true), (6, true), (7, true), (8, true)] (by kernel_rfl) (by kernel_rfl) (fun _ _ d _ _ h => by cases d <;> exact h) K0 ?_
            simp only [pickE, List.getElem?_cons_zero, List.getElem?_cons_succ]
            generalize wr.drew = w5 at *
            repeat (refine wpF_pure (by rfl) (fun W hW => by go_simp; with_reducible rfl) ?_; simp only [Act.put, List.setIfInBounds_toArray, List.set_cons_zero, List.set_cons_succ])
            refine wpF_nil ?_
            clear qa qy K0 d1 d2
            go_wp2_with fail
            go_roundw
            case rel => exact ⟨false, e, 1, m, by omega, hn, fun _ => by omega, rfl, rfl, by go_num, rfl, HN⟩
            case measure => simp [intOf]
          have d1 : decide ((L0.length : Int) ≤ (a : Int)) = false := decide_eq_false (by omega)
          have d2 : decide (L0.length ≤ a) = false := decide_eq_false (by omega)
          go_wp2_with fail
          refine wp_region_S (Keeps [B1, B4] wr) [(0, true), (1, true), (2, true), (3, true), (4, true), (5, true), (6, true), (7, true), (8, true)] (by kernel_rfl) (by kernel_rfl) (fun _ _ d _ _ h => by cases d <;> exact h) K0 ?_
          simp only [pickE, List.getElem?_cons_zero, List.getElem?_cons_succ]
          generalize wr.drew = w5 at *
          repeat (refine wpF_pure (by rfl) (fun W hW => by go_simp; with_reducible rfl) ?_; simp only [Act.put, List.setIfInBounds_toArray, List.set_cons_zero, List.set_cons_succ])
          refine wpF_nil ?_
          clear qa qy K0 d1 d2 HR
          have HR := HRd
          clear HRd
          obtain ⟨_, _, e9, _, _, hcf⟩ := (hS.below HR.out.ext (Nat.le_refl _)).form
          cases e9
          have hcm : L0[a]? = some L0[a] := List.getElem?_eq_getElem hal
          obtain ⟨bs, off, hA, bh, c0, c1, c2, c3, c4, c5, c6, c7, c8, c9, c10, c11, c12, c13⟩ := hcf a _ hcm
          subst hA
          have hdr : L0.drop a = L0[a] :: L0.drop (a + 1) := List.drop_eq_getElem_cons hal
          have hmay : Isa.mayB L0[a] = true := HR.out.pl.a _ (by rw [hdr]; exact List.mem_cons_self)
          clear hcf hcm hS
          generalize L0[a] = x at *
          have HDR := Lib.hid hdr
          clear hdr
          have hin := sem_in hmay
          have HPL := Lib.hid HR.out.pl
          go_wp2_with fail
          refine wp_region_N 47 #[.int .i64 0, .int .i64 0, .int .i64 0, .int .i64 0, .int .i64 0, .int .i64 0, .int .i64 0, .int .i64 0, .int .i64 0, .int .i64 0, .int .i64 0, .int .i64 0, .int .i64 0, .int .i64 0] #[.int .i64 x.k, .int .i64 x.s, .int .i64 x.n, .int .i64 x.f, .int .i64 x.r, .int .i64 x.o, .int .i64 x.d, .int .i64 x.p, .int .i64 x.i0, .int .i64 x.i1, .int .i64 x.b0, .int .i64 x.b1, .int .i64 x.h0, .int .i64 x.h1] [0, 1, 2, 3, 4, 5, 6, 7, 8] [⟨9, [], MT.mine⟩, ⟨10, [9], MT.tied⟩] (by kernel_rfl) (by kernel_rfl) (fun _ _ d _ _ h => by cases d <;> exact h) (fun u2 hE hsz => ?_)
          have nb4 : ∀ W, RN w5.heap.size 47 #[.int .i64 0, .int .i64 0, .int .i64 0, .int .i64 0, .int .i64 0, .int .i64 0, .int .i64 0, .int .i64 0, .int .i64 0, .int .i64 0, .int .i64 0, .int .i64 0, .int .i64 0, .int .i64 0] #[.int .i64 x.k, .int .i64 x.s, .int .i64 x.n, .int .i64 x.f, .int .i64 x.r, .int .i64 x.o, .int .i64 x.d, .int .i64 x.p, .int .i64 x.i0, .int .i64 x.i1, .int .i64 x.b0, .int .i64 x.b1, .int .i64 x.h0, .int .i64 x.h1] u2 W → W.cell? ⟨B4, 0, none⟩ = some (.int .i64 (a : Int)) := fun W h => (h.blk (HR.out.at_.ext hE) HR.out.at_.lt).cell 0
          have nb1 : ∀ W, RN w5.heap.size 47 #[.int .i64 0, .int .i64 0, .int .i64 0, .int .i64 0, .int .i64 0, .int .i64 0, .int .i64 0, .int .i64 0, .int .i64 0, .int .i64 0, .int .i64 0, .int .i64 0, .int .i64 0, .int .i64 0] #[.int .i64 x.k, .int .i64 x.s, .int .i64 x.n, .int .i64 x.f, .int .i64 x.r, .int .i64 x.o, .int .i64 x.d, .int .i64 x.p, .int .i64 x.i0, .int .i64 x.i1, .int .i64 x.b0, .int .i64 x.b1, .int .i64 x.h0, .int .i64 x.h1] u2 W → W.cell? ⟨B1, 4, none⟩ = some (.slice (some ⟨bs, off, none⟩) L0.length d0) := fun W h => ((h.blk (HR.out.im.ext hE) HR.out.im.lt).cell 4).trans HY0.out
          have x0 : ∀ W, RN w5.heap.size 47 #[.int .i64 0, .int .i64 0, .int .i64 0, .int .i64 0, .int .i64 0, .int .i64 0, .int .i64 0, .int .i64 0, .int .i64 0, .int .i64 0, .int .i64 0, .int .i64 0, .int .i64 0, .int .i64 0] #[.int .i64 x.k, .int .i64 x.s, .int .i64 x.n, .int .i64 x.f, .int .i64 x.r, .int .i64 x.o, .int .i64 x.d, .int .i64 x.p, .int .i64 x.i0, .int .i64 x.i1, .int .i64 x.b0, .int .i64 x.b1, .int .i64 x.h0, .int .i64 x.h1] u2 W → W.cell? ⟨bs, off + a * 14, none⟩ = some (.int .i64 x.k) := fun W h => (h.bel.cell (p := ⟨bs, off + a * 14, none⟩) bh).trans (cell_ext c0 _ hE)
          have x1 : ∀ W, RN w5.heap.size 47 #[.int .i64 0, .int .i64 0, .int .i64 0, .int .i64 0, .int .i64 0, .int .i64 0, .int .i64 0, .int .i64 0, .int .i64 0, .int .i64 0, .int .i64 0, .int .i64 0, .int .i64 0, .int .i64 0] #[.int .i64 x.k, .int .i64 x.s, .int .i64 x.n, .int .i64 x.f, .int .i64 x.r, .int .i64 x.o, .int .i64 x.d, .int .i64 x.p, .int .i64 x.i0, .int .i64 x.i1, .int .i64 x.b0, .int .i64 x.b1, .int .i64 x.h0, .int .i64 x.h1] u2 W → W.cell? ⟨bs, off + a * 14 + 1, none⟩ = some (.int .i64 x.s) := fun W h => (h.bel.cell (p := ⟨bs, off + a * 14 + 1, none⟩) bh).trans (cell_ext c1 _ hE)
          have x2 : ∀ W, RN w5.heap.size 47 #[.int .i64 0, .int .i64 0, .int .i64 0, .int .i64 0, .int .i64 0, .int .i64 0, .int .i64 0, .int .i64 0, .int .i64 0, .int .i64 0, .int .i64 0, .int .i64 0, .int .i64 0, .int .i64 0] #[.int .i64 x.k, .int .i64 x.s, .int .i64 x.n, .int .i64 x.f, .int .i64 x.r, .int .i64 x.o, .int .i64 x.d, .int .i64 x.p, .int .i64 x.i0, .int .i64 x.i1, .int .i64 x.b0, .int .i64 x.b1, .int .i64 x.h0, .int .i64 x.h1] u2 W → W.cell? ⟨bs, off + a * 14 + 2, none⟩ = some (.int .i64 x.n) := fun W h => (h.bel.cell (p := ⟨bs, off + a * 14 + 2, none⟩) bh).trans (cell_ext c2 _ hE)
          have x3 : ∀ W, RN w5.heap.size 47 #[.int .i64 0, .int .i64 0, .int .i64 0, .int .i64 0, .int .i64 0, .int .i64 0, .int .i64 0, .int .i64 0, .int .i64 0, .int .i64 0, .int .i64 0, .int .i64 0, .int .i64 0, .int .i64 0] #[.int .i64 x.k, .int .i64 x.s, .int .i64 x.n, .int .i64 x.f, .int .i64 x.r, .int .i64 x.o, .int .i64 x.d, .int .i64 x.p, .int .i64 x.i0, .int .i64 x.i1, .int .i64 x.b0, .int .i64 x.b1, .int .i64 x.h0, .int .i64 x.h1] u2 W → W.cell? ⟨bs, off + a * 14 + 3, none⟩ = some (.int .i64 x.f) := fun W h => (h.bel.cell (p := ⟨bs, off + a * 14 + 3, none⟩) bh).trans (cell_ext c3 _ hE)
          have x4 : ∀ W, RN w5.heap.size 47 #[.int .i64 0, .int .i64 0, .int .i64 0, .int .i64 0, .int .i64 0, .int .i64 0, .int .i64 0, .int .i64 0, .int .i64 0, .int .i64 0, .int .i64 0, .int .i64 0, .int .i64 0, .int .i64 0] #[.int .i64 x.k, .int .i64 x.s, .int .i64 x.n, .int .i64 x.f, .int .i64 x.r, .int .i64 x.o, .int .i64 x.d, .int .i64 x.p, .int .i64 x.i0, .int .i64 x.i1, .int .i64 x.b0, .int .i64 x.b1, .int .i64 x.h0, .int .i64 x.h1] u2 W → W.cell? ⟨bs, off + a * 14 + 4, none⟩ = some (.int .i64 x.r) := fun W h => (h.bel.cell (p := ⟨bs, off + a * 14 + 4, none⟩) bh).trans (cell_ext c4 _ hE)
          have x5 : ∀ W, RN w5.heap.size 47 #[.int .i64 0, .int .i64 0, .int .i64 0, .int .i64 0, .int .i64 0, .int .i64 0, .int .i64 0, .int .i64 0, .int .i64 0, .int .i64 0, .int .i64 0, .int .i64 0, .int .i64 0, .int .i64 0] #[.int .i64 x.k, .int .i64 x.s, .int .i64 x.n, .int .i64 x.f, .int .i64 x.r, .int .i64 x.o, .int .i64 x.d, .int .i64 x.p, .int .i64 x.i0, .int .i64 x.i1, .int .i64 x.b0, .int .i64 x.b1, .int .i64 x.h0, .int .i64 x.h1] u2 W → W.cell? ⟨bs, off + a * 14 + 5, none⟩ = some (.int .i64 x.o) := fun W h => (h.bel.cell (p := ⟨bs, off + a * 14 + 5, none⟩) bh).trans (cell_ext c5 _ hE)
          have x6 : ∀ W, RN w5.heap.size 47 #[.int .i64 0, .int .i64 0, .int .i64 0, .int .i64 0, .int .i64 0, .int .i64 0, .int .i64 0, .int .i64 0, .int .i64 0, .int .i64 0, .int .i64 0, .int .i64 0, .int .i64 0, .int .i64 0] #[.int .i64 x.k, .int .i64 x.s, .int .i64 x.n, .int .i64 x.f, .int .i64 x.r, .int .i64 x.o, .int .i64 x.d, .int .i64 x.p, .int .i64 x.i0, .int .i64 x.i1, .int .i64 x.b0, .int .i64 x.b1, .int .i64 x.h0, .int .i64 x.h1] u2 W → W.cell? ⟨bs, off + a * 14 + 6, none⟩ = some (.int .i64 x.d) := fun W h => (h.bel.cell (p := ⟨bs, off + a * 14 + 6, none⟩) bh).trans (cell_ext c6 _ hE)
          have x7 : ∀ W, RN w5.heap.size 47 #[.int .i64 0, .int .i64 0, .int .i64 0, .int .i64 0, .int .i64 0, .int .i64 0, .int .i64 0, .int .i64 0, .int .i64 0, .int .i64 0, .int .i64 0, .int .i64 0, .int .i64 0, .int .i64 0] #[.int .i64 x.k, .int .i64 x.s, .int .i64 x.n, .int .i64 x.f, .int .i64 x.r, .int .i64 x.o, .int .i64 x.d, .int .i64 x.p, .int .i64 x.i0, .int .i64 x.i1, .int .i64 x.b0, .int .i64 x.b1, .int .i64 x.h0, .int .i64 x.h1] u2 W → W.cell? ⟨bs, off + a * 14 + 7, none⟩ = some (.int .i64 x.p) := fun W h => (h.bel.cell (p := ⟨bs, off + a * 14 + 7, none⟩) bh).trans (cell_ext c7 _ hE)
          have x8 : ∀ W, RN w5.heap.size 47 #[.int .i64 0, .int .i64 0, .int .i64 0, .int .i64 0, .int .i64 0, .int .i64 0, .int .i64 0, .int .i64 0, .int .i64 0, .int .i64 0, .int .i64 0, .int .i64 0, .int .i64 0, .int .i64 0] #[.int .i64 x.k, .int .i64 x.s, .int .i64 x.n, .int .i64 x.f, .int .i64 x.r, .int .i64 x.o, .int .i64 x.d, .int .i64 x.p, .int .i64 x.i0, .int .i64 x.i1, .int .i64 x.b0, .int .i64 x.b1, .int .i64 x.h0, .int .i64 x.h1] u2 W → W.cell? ⟨bs, off + a * 14 + 8, none⟩ = some (.int .i64 x.i0) := fun W h => (h.bel.cell (p := ⟨bs, off + a * 14 + 8, none⟩) bh).trans (cell_ext c8 _ hE)
          have x9 : ∀ W, RN w5.heap.size 47 #[.int .i64 0, .int .i64 0, .int .i64 0, .int .i64 0, .int .i64 0, .int .i64 0, .int .i64 0, .int .i64 0, .int .i64 0, .int .i64 0, .int .i64 0, .int .i64 0, .int .i64 0, .int .i64 0] #[.int .i64 x.k, .int .i64 x.s, .int .i64 x.n, .int .i64 x.f, .int .i64 x.r, .int .i64 x.o, .int .i64 x.d, .int .i64 x.p, .int .i64 x.i0, .int .i64 x.i1, .int .i64 x.b0, .int .i64 x.b1, .int .i64 x.h0, .int .i64 x.h1] u2 W → W.cell? ⟨bs, off + a * 14 + 9, none⟩ = some (.int .i64 x.i1) := fun W h => (h.bel.cell (p := ⟨bs, off + a * 14 + 9, none⟩) bh).trans (cell_ext c9 _ hE)
          have x10 : ∀ W, RN w5.heap.size 47 #[.int .i64 0, .int .i64 0, .int .i64 0, .int .i64 0, .int .i64 0, .int .i64 0, .int .i64 0, .int .i64 0, .int .i64 0, .int .i64 0, .int .i64 0, .int .i64 0, .int .i64 0, .int .i64 0] #[.int .i64 x.k, .int .i64 x.s, .int .i64 x.n, .int .i64 x.f, .int .i64 x.r, .int .i64 x.o, .int .i64 x.d, .int .i64 x.p, .int .i64 x.i0, .int .i64 x.i1, .int .i64 x.b0, .int .i64 x.b1, .int .i64 x.h0, .int .i64 x.h1] u2 W → W.cell? ⟨bs, off + a * 14 + 10, none⟩ = some (.int .i64 x.b0) := fun W h => (h.bel.cell (p := ⟨bs, off + a * 14 + 10, none⟩) bh).trans (cell_ext c10 _ hE)
          have x11 : ∀ W, RN w5.heap.size 47 #[.int .i64 0, .int .i64 0, .int .i64 0, .int .i64 0, .int .i64 0, .int .i64 0, .int .i64 0, .int .i64 0, .int .i64 0, .int .i64 0, .int .i64 0, .int .i64 0, .int .i64 0, .int .i64 0] #[.int .i64 x.k, .int .i64 x.s, .int .i64 x.n, .int .i64 x.f, .int .i64 x.r, .int .i64 x.o, .int .i64 x.d, .int .i64 x.p, .int .i64 x.i0, .int .i64 x.i1, .int .i64 x.b0, .int .i64 x.b1, .int .i64 x.h0, .int .i64 x.h1] u2 W → W.cell? ⟨bs, off + a * 14 + 11, none⟩ = some (.int .i64 x.b1) := fun W h => (h.bel.cell (p := ⟨bs, off + a * 14 + 11, none⟩) bh).trans (cell_ext c11 _ hE)
          have x12 : ∀ W, RN w5.heap.size 47 #[.int .i64 0, .int .i64 0, .int .i64 0, .int .i64 0, .int .i64 0, .int .i64 0, .int .i64 0, .int .i64 0, .int .i64 0, .int .i64 0, .int .i64 0, .int .i64 0, .int .i64 0, .int .i64 0] #[.int .i64 x.k, .int .i64 x.s, .int .i64 x.n, .int .i64 x.f, .int .i64 x.r, .int .i64 x.o, .int .i64 x.d, .int .i64 x.p, .int .i64 x.i0, .int .i64 x.i1, .int .i64 x.b0, .int .i64 x.b1, .int .i64 x.h0, .int .i64 x.h1] u2 W → W.cell? ⟨bs, off + a * 14 + 12, none⟩ = some (.int .i64 x.h0) := fun W h => (h.bel.cell (p := ⟨bs, off + a * 14 + 12, none⟩) bh).trans (cell_ext c12 _ hE)
          have x13 : ∀ W, RN w5.heap.size 47 #[.int .i64 0, .int .i64 0, .int .i64 0, .int .i64 0, .int .i64 0, .int .i64 0, .int .i64 0, .int .i64 0, .int .i64 0, .int .i64 0, .int .i64 0, .int .i64 0, .int .i64 0, .int .i64 0] #[.int .i64 x.k, .int .i64 x.s, .int .i64 x.n, .int .i64 x.f, .int .i64 x.r, .int .i64 x.o, .int .i64 x.d, .int .i64 x.p, .int .i64 x.i0, .int .i64 x.i1, .int .i64 x.b0, .int .i64 x.b1, .int .i64 x.h0, .int .i64 x.h1] u2 W → W.cell? ⟨bs, off + a * 14 + 13, none⟩ = some (.int .i64 x.h1) := fun W h => (h.bel.cell (p := ⟨bs, off + a * 14 + 13, none⟩) bh).trans (cell_ext c13 _ hE)
          repeat (first | (refine wpP_pure rfl (by rfl) (fun W hW => by go_simp; with_reducible rfl) ?_; simp only [Act.put, List.setIfInBounds_toArray, List.set_cons_zero, List.set_cons_succ]) | (refine wpP_skip rfl (by rfl) ?_; simp only [Act.put, List.setIfInBounds_toArray, List.set_cons_zero, List.set_cons_succ]))
          refine ⟨?_, fun W hR => ?_⟩
          · simp only [rSteps, rNeed, rStep, both_top, tie, TP.top, TP.mine, MP.top, MP.mine, MT.mine, MT.tied, MT.done, MT.is, List.reverse_cons, List.reverse_nil, List.nil_append, List.cons_append, ME.is, MP.is, MP.done, ME.ints, ME.row, Region.wanted, yielded, List.getElem?_toArray, phi, dstAt, List.getElem?_cons_zero, List.getElem?_cons_succ, Option.bind_some, Act.put, List.setIfInBounds_toArray, List.set_cons_zero, List.set_cons_succ, and_true, forall_eq, reduceIte, Nat.reduceEqDiff, beq_iff_eq, Option.some.injEq, Bool.false_eq_true, reduceCtorEq, implies_true, true_and]
            refine ⟨fun W hR => ?_, fun W hR v9 h9 => ?_⟩
            · have hN : w5.heap.size ≤ W.heap.size := by have := hR.bel.size; omega
              go_simp
              exact ⟨_, rfl, RN.ext (ext_alloc _ _) hN, _, hN, rfl, .inl (Blk.new _ _ _)⟩
            · obtain ⟨Bn, hBn, rfl, hb8⟩ := h9
              refine wp_store_N _ _ _ rfl rfl rfl hb8 hBn (by kernel_rfl) rfl (by simp [Value.oneCell']) (fun hs => ⟨trivial, Bn, rfl, hs⟩)
          · simp only [rFin, envAt, TP.top, TP.mine, MP.top, MP.mine, MT.mine, MT.tied, MT.done, MT.is, List.map_cons, List.map_nil, true_implies, List.head?_cons, ME.is, MP.is, MP.done, ME.ints, ME.row, phi, dstAt, List.getElem?_cons_zero, List.getElem?_cons_succ, Option.bind_some, Act.put, List.setIfInBounds_toArray, List.set_cons_zero, List.set_cons_succ, and_true, forall_eq, reduceIte, Nat.reduceEqDiff, beq_iff_eq, Option.some.injEq, Bool.false_eq_true, reduceCtorEq, implies_true, true_and]
            rintro v9 ⟨B7, hB7, rfl, _⟩ v10 ⟨Bx, e9, hb7⟩
            cases e9
            have hEE : Ext w5 W := hE.trans (by have := hR.bel; rw [← hsz] at this; exact this)
            have hne4 : B4 ≠ B7 := by have := HR.out.at_.lt; omega
            have hne5 : B5 ≠ B7 := by have := HR.out.sem.lt; omega
            have hne1 : B1 ≠ B7 := by have := HR.out.im.lt; omega
            have HR8 := Lib.hid (HR.out.later hEE)
            clear nb4 nb1 x0 x1 x2 x3 x4 x5 x6 x7 x8 x9 x10 x11 x12 x13 c0 c1 c2 c3 c4 c5 c6 c7 c8 c9 c10 c11 c12 c13 hEE hE hsz hR bh HR
            have r0 : World.cell? W ⟨B7, 0, none⟩ = some (.int .i64 x.k) := hb7.cell 0
            have r1 : World.cell? W ⟨B7, 1, none⟩ = some (.int .i64 x.s) := hb7.cell 1
            have hi1 := hin.1
            have hi2 := hin.2
            have hlen8 := HPL.out.len
            have q0 : World.cell? W ⟨B5, x.s.toNat, none⟩ = some (.int .i64 (cs[x.s.toNat]?.getD 0)) := by rw [HR8.out.sem.cell]; exact cnt_get cs _ (by omega)
            have hlow := low_at HPL.out.low x.s.toNat
            have HTR := Lib.hid (tryZ_ref HPL.out.low x (L0.drop (a + 1)))
            rw [← HDR.out] at HTR
            have HGO : Hid (goes cs (L0.drop a) = cs.set x.s.toNat (cs[x.s.toNat]?.getD 0 + movZ x)) := by show _ = _; rw [HDR.out]; rfl
            have HNE : Hid (L0.drop a ≠ []) := by show _ ≠ _; rw [HDR.out]; simp
            have hid0 : cs.set x.s.toNat (cs[x.s.toNat]?.getD 0) = cs := by
              have h8 : x.s.toNat < cs.length := by omega
              rw [List.getElem?_eq_getElem h8]
              simp
            have HID := Lib.hid hid0
            have hmv := movZ_cases x
            generalize cs[x.s.toNat]?.getD 0 = y at *
            have hf5 := HR8.out.sem.frozen x.s.toNat
            have hl5 := HR8.out.sem.lt
            clear hin hlen8 hid0 hmay
            rcases hmv with ⟨xk, xm⟩ | ⟨xk, xm⟩ | ⟨xk, xk6, xm⟩
            · have g5 : (x.k == 5) = true := by rw [beq_iff_eq]; exact xk
              have g6 : (x.k == 6) = false := by rw [beq_eq_false_iff_ne]; omega
              by_cases hy : y = 0
              · have gy : (y == 0) = true := by rw [beq_iff_eq]; exact hy
                have hz : tryZ cs (L0.drop a) = 0 := by rw [HTR.out, if_pos ⟨xk, hy⟩]
                have HN : Hid (RIn w IM rz M B1 B4 B5 L0 L1 L2 m 1 false false m W) := .not HR8.out (fun _ => hz) (fun h => absurd h (by omega)) (fun h => absurd h (by omega)) ⟨fun h => (by cases h), fun h => absurd (h.1 (by omega)) HNE.out⟩
                clear hz hy xk xm HR8 HTR HGO HNE HDR HEE
                go_wp2_with fail
                go_roundw
                case rel => exact ⟨false, false, 1, m, by omega, hn, fun _ => by omega, rfl, rfl, by go_num, rfl, HN⟩
                case measure => simp [intOf]
              · have gy : (y == 0) = false := by rw [beq_eq_false_iff_ne]; exact hy
                have hz2 : tryZ cs (L0.drop a) = 2 := by rw [HTR.out, if_neg (fun h => hy h.2), if_neg (fun h => by have := h.1; omega)]
                have mw : IntKind.i64.wrap (y - 1) = y - 1 := IntWalk.i64_in _ (by omega)
                have S2 := HR8.out.sem.set x.s.toNat (.int .i64 (y - 1))
                rw [cnt_set, show y - 1 = y + -1 from rfl, ← xm, ← HGO.out] at S2
                have I2 := HR8.out.im.other (show B1 ≠ B5 by have := HW.out; omega) x.s.toNat (.int .i64 (y + movZ x))
                have A2 := HR8.out.at_.other (show B4 ≠ B5 by have := HW.out; omega) x.s.toNat (.int .i64 (y + movZ x))
                have E2 : Ext w _ := Below.setCell HR8.out.ext (p := ⟨B5, x.s.toNat, none⟩) (by show w.heap.size ≤ B5; have := HW.out; omega) (.int .i64 (y + movZ x))
                have b72 := hb7.other (Ne.symm hne5) x.s.toNat (.int .i64 (y + movZ x))
                rw [xm, show y + -1 = y - 1 from rfl] at S2 I2 A2 E2 b72
                clear xm xk hy
                go_upto_region 17 with fail
                generalize World.setCell W _ _ = W2 at *
                clear r0 r1 q0 hf5 hl5 g5 gy mw
                have r0 : World.cell? W2 ⟨B7, 0, none⟩ = some (.int .i64 x.k) := b72.cell 0
                have hA3 := A2.set 0 (.int .i64 ((a : Int) + 1))
                rw [atC_set0] at hA3
                have I3 := I2.other (show B1 ≠ B4 by have := HW.out; omega) 0 (.int .i64 ((a : Int) + 1))
                have S3 := S2.other (show B5 ≠ B4 by have := HW.out; omega) 0 (.int .i64 ((a : Int) + 1))
                have E3 : Ext w _ := Below.setCell E2 (p := ⟨B4, 0, none⟩) (by show w.heap.size ≤ B4; have := HW.out; omega) (.int .i64 ((a : Int) + 1))
                obtain ⟨HR3, hM3⟩ := HR8.out.go0  hz2 I3 hA3 S3 E3
                have HN := Lib.hid (RIn.gone (k := 1) (e := false) hM3 HR3)
                have qat : World.cell? W2 ⟨B4, 0, none⟩ = some (.int .i64 (a : Int)) := A2.cell 0
                have hf4 := A2.frozen 0
                have hl4 := A2.lt
                have mwa : IntKind.i64.wrap ((a : Int) + 1) = (a : Int) + 1 := IntWalk.i64_in _ (by omega)
                have HM3 := Lib.hid hM3
                clear hA3 I3 S3 E3 HR3 A2 I2 S2 E2 hz2 HTR HGO HDR HPL HT0 HT1 HT2 HEE HNE HR8 hM3
                go_wp2_with fail
                go_roundw
                case rel => exact ⟨true, false, 1, m + 1, by omega, HM3.out, (fun h => by cases h), rfl, rfl, by go_num, by go_num, HN⟩
                case measure => simp [intOf]
            · have g5 : (x.k == 5) = false := by rw [beq_eq_false_iff_ne]; omega
              have g6 : (x.k == 6) = true := by rw [beq_iff_eq]; exact xk
              by_cases hy : 15 ≤ y
              · have gy : decide (15 ≤ y) = true := decide_eq_true hy
                have hz1 : tryZ cs (L0.drop a) = 1 := by rw [HTR.out, if_neg (fun h => by have := h.1; omega), if_pos ⟨xk, hy⟩]
                have HZ1 := Lib.hid (HR8.out.full0  hz1)
                have HE := Lib.hid HR8.out.ext
                clear hz1 hy xk xm HR8 HTR HGO HNE HDR HEE
                go_wp2_with fail
                exact HP.out _ _ _ HZ1.out HE.out
              · have gy : decide (15 ≤ y) = false := decide_eq_false hy
                have hz2 : tryZ cs (L0.drop a) = 2 := by rw [HTR.out, if_neg (fun h => by have := h.1; omega), if_neg (fun h => hy h.2)]
                have mw : IntKind.i64.wrap (y + 1) = y + 1 := IntWalk.i64_in _ (by omega)
                have S2 := HR8.out.sem.set x.s.toNat (.int .i64 (y + movZ x))
                rw [cnt_set, ← HGO.out] at S2
                have I2 := HR8.out.im.other (show B1 ≠ B5 by have := HW.out; omega) x.s.toNat (.int .i64 (y + movZ x))
                have A2 := HR8.out.at_.other (show B4 ≠ B5 by have := HW.out; omega) x.s.toNat (.int .i64 (y + movZ x))
                have E2 : Ext w _ := Below.setCell HR8.out.ext (p := ⟨B5, x.s.toNat, none⟩) (by show w.heap.size ≤ B5; have := HW.out; omega) (.int .i64 (y + movZ x))
                rw [xm] at S2 I2 A2 E2
                clear xm xk hy
                go_upto_region 21 with fail
                generalize World.setCell W _ _ = W2 at *
                clear r0 r1 q0 hf5 hl5 g5 g6 gy mw
                have hA3 := A2.set 0 (.int .i64 ((a : Int) + 1))
                rw [atC_set0] at hA3
                have I3 := I2.other (show B1 ≠ B4 by have := HW.out; omega) 0 (.int .i64 ((a : Int) + 1))
                have S3 := S2.other (show B5 ≠ B4 by have := HW.out; omega) 0 (.int .i64 ((a : Int) + 1))
                have E3 : Ext w _ := Below.setCell E2 (p := ⟨B4, 0, none⟩) (by show w.heap.size ≤ B4; have := HW.out; omega) (.int .i64 ((a : Int) + 1))
                obtain ⟨HR3, hM3⟩ := HR8.out.go0  hz2 I3 hA3 S3 E3
                have HN := Lib.hid (RIn.gone (k := 1) (e := false) hM3 HR3)
                have qat : World.cell? W2 ⟨B4, 0, none⟩ = some (.int .i64 (a : Int)) := A2.cell 0
                have hf4 := A2.frozen 0
                have hl4 := A2.lt
                have mwa : IntKind.i64.wrap ((a : Int) + 1) = (a : Int) + 1 := IntWalk.i64_in _ (by omega)
                have HM3 := Lib.hid hM3
                clear hA3 I3 S3 E3 HR3 A2 I2 S2 E2 hz2 HTR HGO HDR HPL HT0 HT1 HT2 HEE HNE HR8 hM3
                go_wp2_with fail
                go_roundw
                case rel => exact ⟨true, false, 1, m + 1, by omega, HM3.out, (fun h => by cases h), rfl, rfl, by go_num, by go_num, HN⟩
                case measure => simp [intOf]
            · have g5 : (x.k == 5) = false := by rw [beq_eq_false_iff_ne]; exact xk
              have g6 : (x.k == 6) = false := by rw [beq_eq_false_iff_ne]; exact xk6
              have hz2 : tryZ cs (L0.drop a) = 2 := by rw [HTR.out, if_neg (fun h => xk h.1), if_neg (fun h => xk6 h.1)]
              have S2 := HR8.out.sem
              have hgo : goes cs (L0.drop a) = cs := by rw [HGO.out, xm, Int.add_zero, HID.out]
              rw [← hgo] at S2
              have I2 := HR8.out.im
              have A2 := HR8.out.at_
              have E2 := HR8.out.ext
              clear xm xk xk6 hgo q0 hf5 hl5
              have hA3 := A2.set 0 (.int .i64 ((a : Int) + 1))
              rw [atC_set0] at hA3
              have I3 := I2.other (show B1 ≠ B4 by have := HW.out; omega) 0 (.int .i64 ((a : Int) + 1))
              have S3 := S2.other (show B5 ≠ B4 by have := HW.out; omega) 0 (.int .i64 ((a : Int) + 1))
              have E3 : Ext w _ := Below.setCell E2 (p := ⟨B4, 0, none⟩) (by show w.heap.size ≤ B4; have := HW.out; omega) (.int .i64 ((a : Int) + 1))
              obtain ⟨HR3, hM3⟩ := HR8.out.go0  hz2 I3 hA3 S3 E3
              have HN := Lib.hid (RIn.gone (k := 1) (e := false) hM3 HR3)
              have qat : World.cell? W ⟨B4, 0, none⟩ = some (.int .i64 (a : Int)) := A2.cell 0
              have hf4 := A2.frozen 0
              have hl4 := A2.lt
              have mwa : IntKind.i64.wrap ((a : Int) + 1) = (a : Int) + 1 := IntWalk.i64_in _ (by omega)
              have HM3 := Lib.hid hM3
              clear hA3 I3 S3 E3 HR3 A2 I2 S2 E2 hz2 HTR HGO HDR HPL HT0 HT1 HT2 HEE HNE HR8 hM3
              go_wp2_with fail
              go_roundw
              case rel => exact ⟨true, false, 1, m + 1, by omega, HM3.out, (fun h => by cases h), rfl, rfl, by go_num, by go_num, HN⟩
              case measure => simp [intOf]
        · rw [show ((1 : Nat) : Int) = 1 from rfl]
          have hS := HC1.out
          rw [HE1.out] at hS
          have HRd := Lib.hid (HR.out.later (Ext.drew wr))
          have K0 : Keeps [B1, B4] wr wr.drew := Keeps.drew _ _
          have qa : ∀ W, Keeps [B1, B4] wr W → World.cell? W ⟨B4, 1, none⟩ = some (.int .i64 (b : Int)) := fun W hW => (hW.cell (by simp)).trans (HR.out.at_.cell 1)
          have qy : ∀ W, Keeps [B1, B4] wr W → World.cell? W ⟨B1, 5, none⟩ = some (.slice A1 L1.length d1) := fun W hW => (hW.cell (by simp)).trans ((HR.out.im.cell 5).trans HY1.out)
          by_cases hal : b < L1.length
          case neg =>
            have d1 : decide ((L1.length : Int) ≤ (b : Int)) = true := decide_eq_true (by omega)
            have d2 : decide (L1.length ≤ b) = true := decide_eq_true (by omega)
            have hnil : L1.drop b = [] := List.drop_eq_nil_of_le (by omega)
            have HN : Hid (RIn w IM rz M B1 B4 B5 L0 L1 L2 m 2 false e m wr.drew) := .not HRd.out (fun _ => HT0.out (by omega)) (fun _ => by rw [hnil]; rfl) (fun h => absurd h (by omega)) ⟨fun he => have h := HEE.out.1 he; ⟨fun _ => h.1 (by omega), fun _ => hnil, fun h => absurd h (by omega)⟩, fun h => HEE.out.2 ⟨fun _ => h.1 (by omega), fun h => absurd h (by omega), fun h => absurd h (by omega)⟩⟩
            clear hal hnil HR HRd hS HEE
            go_wp2_with fail
            refine wp_region_S (Keeps [B1, B4] wr) [(0, true), (1, true), (2, true), (3, true), (4, true), (5, true), (6, true), (7, true), (8, true)] (by kernel_rfl) (by kernel_rfl) (fun _ _ d _ _ h => by cases d <;> exact h) K0 ?_
            simp only [pickE, List.getElem?_cons_zero, List.getElem?_cons_succ]
            generalize wr.drew = w5 at *
            repeat (refine wpF_pure (by rfl) (fun W hW => by go_simp; with_reducible rfl) ?_; simp only [Act.put, List.setIfInBounds_toArray, List.set_cons_zero, List.set_cons_succ])
            refine wpF_nil ?_
            clear qa qy K0 d1 d2
            go_wp2_with fail
            go_roundw
            case rel => exact ⟨false, e, 2, m, by omega, hn, fun _ => by omega, rfl, rfl, by go_num, rfl, HN⟩
            case measure => simp [intOf]
          have d1 : decide ((L1.length : Int) ≤ (b : Int)) = false := decide_eq_false (by omega)
          have d2 : decide (L1.length ≤ b) = false := decide_eq_false (by omega)
          go_wp2_with fail
          refine wp_region_S (Keeps [B1, B4] wr) [(0, true), (1, true), (2, true), (3, true), (4, true), (5, true), (6, true), (7, true), (8, true)] (by kernel_rfl) (by kernel_rfl) (fun _ _ d _ _ h => by cases d <;> exact h) K0 ?_
          simp only [pickE, List.getElem?_cons_zero, List.getElem?_cons_succ]
          generalize wr.drew = w5 at *
          repeat (refine wpF_pure (by rfl) (fun W hW => by go_simp; with_reducible rfl) ?_; simp only [Act.put, List.setIfInBounds_toArray, List.set_cons_zero, List.set_cons_succ])
          refine wpF_nil ?_
          clear qa qy K0 d1 d2 HR
          have HR := HRd
          clear HRd
          obtain ⟨_, _, e9, _, _, hcf⟩ := (hS.below HR.out.ext (Nat.le_refl _)).form
          cases e9
          have hcm : L1[b]? = some L1[b] := List.getElem?_eq_getElem hal
          obtain ⟨bs, off, hA, bh, c0, c1, c2, c3, c4, c5, c6, c7, c8, c9, c10, c11, c12, c13⟩ := hcf b _ hcm
          subst hA
          have hdr : L1.drop b = L1[b] :: L1.drop (b + 1) := List.drop_eq_getElem_cons hal
          have hmay : Isa.mayB L1[b] = true := HR.out.pl.b _ (by rw [hdr]; exact List.mem_cons_self)
          clear hcf hcm hS
          generalize L1[b] = x at *
          have HDR := Lib.hid hdr
          clear hdr
          have hin := sem_in hmay
          have HPL := Lib.hid HR.out.pl
          go_wp2_with fail
          refine wp_region_N 47 #[.int .i64 0, .int .i64 0, .int .i64 0, .int .i64 0, .int .i64 0, .int .i64 0, .int .i64 0, .int .i64 0, .int .i64 0, .int .i64 0, .int .i64 0, .int .i64 0, .int .i64 0, .int .i64 0] #[.int .i64 x.k, .int .i64 x.s, .int .i64 x.n, .int .i64 x.f, .int .i64 x.r, .int .i64 x.o, .int .i64 x.d, .int .i64 x.p, .int .i64 x.i0, .int .i64 x.i1, .int .i64 x.b0, .int .i64 x.b1, .int .i64 x.h0, .int .i64 x.h1] [0, 1, 2, 3, 4, 5, 6, 7, 8] [⟨9, [], MT.mine⟩, ⟨10, [9], MT.tied⟩] (by kernel_rfl) (by kernel_rfl) (fun _ _ d _ _ h => by cases d <;> exact h) (fun u2 hE hsz => ?_)
          have nb4 : ∀ W, RN w5.heap.size 47 #[.int .i64 0, .int .i64 0, .int .i64 0, .int .i64 0, .int .i64 0, .int .i64 0, .int .i64 0, .int .i64 0, .int .i64 0, .int .i64 0, .int .i64 0, .int .i64 0, .int .i64 0, .int .i64 0] #[.int .i64 x.k, .int .i64 x.s, .int .i64 x.n, .int .i64 x.f, .int .i64 x.r, .int .i64 x.o, .int .i64 x.d, .int .i64 x.p, .int .i64 x.i0, .int .i64 x.i1, .int .i64 x.b0, .int .i64 x.b1, .int .i64 x.h0, .int .i64 x.h1] u2 W → W.cell? ⟨B4, 1, none⟩ = some (.int .i64 (b : Int)) := fun W h => (h.blk (HR.out.at_.ext hE) HR.out.at_.lt).cell 1
          have nb1 : ∀ W, RN w5.heap.size 47 #[.int .i64 0, .int .i64 0, .int .i64 0, .int .i64 0, .int .i64 0, .int .i64 0, .int .i64 0, .int .i64 0, .int .i64 0, .int .i64 0, .int .i64 0, .int .i64 0, .int .i64 0, .int .i64 0] #[.int .i64 x.k, .int .i64 x.s, .int .i64 x.n, .int .i64 x.f, .int .i64 x.r, .int .i64 x.o, .int .i64 x.d, .int .i64 x.p, .int .i64 x.i0, .int .i64 x.i1, .int .i64 x.b0, .int .i64 x.b1, .int .i64 x.h0, .int .i64 x.h1] u2 W → W.cell? ⟨B1, 5, none⟩ = some (.slice (some ⟨bs, off, none⟩) L1.length d1) := fun W h => ((h.blk (HR.out.im.ext hE) HR.out.im.lt).cell 5).trans HY1.out
          have x0 : ∀ W, RN w5.heap.size 47 #[.int .i64 0, .int .i64 0, .int .i64 0, .int .i64 0, .int .i64 0, .int .i64 0, .int .i64 0, .int .i64 0, .int .i64 0, .int .i64 0, .int .i64 0, .int .i64 0, .int .i64 0, .int .i64 0] #[.int .i64 x.k, .int .i64 x.s, .int .i64 x.n, .int .i64 x.f, .int .i64 x.r, .int .i64 x.o, .int .i64 x.d, .int .i64 x.p, .int .i64 x.i0, .int .i64 x.i1, .int .i64 x.b0, .int .i64 x.b1, .int .i64 x.h0, .int .i64 x.h1] u2 W → W.cell? ⟨bs, off + b * 14, none⟩ = some (.int .i64 x.k) := fun W h => (h.bel.cell (p := ⟨bs, off + b * 14, none⟩) bh).trans (cell_ext c0 _ hE)
          have x1 : ∀ W, RN w5.heap.size 47 #[.int .i64 0, .int .i64 0, .int .i64 0, .int .i64 0, .int .i64 0, .int .i64 0, .int .i64 0, .int .i64 0, .int .i64 0, .int .i64 0, .int .i64 0, .int .i64 0, .int .i64 0, .int .i64 0] #[.int .i64 x.k, .int .i64 x.s, .int .i64 x.n, .int .i64 x.f, .int .i64 x.r, .int .i64 x.o, .int .i64 x.d, .int .i64 x.p, .int .i64 x.i0, .int .i64 x.i1, .int .i64 x.b0, .int .i64 x.b1, .int .i64 x.h0, .int .i64 x.h1] u2 W → W.cell? ⟨bs, off + b * 14 + 1, none⟩ = some (.int .i64 x.s) := fun W h => (h.bel.cell (p := ⟨bs, off + b * 14 + 1, none⟩) bh).trans (cell_ext c1 _ hE)
          have x2 : ∀ W, RN w5.heap.size 47 #[.int .i64 0, .int .i64 0, .int .i64 0, .int .i64 0, .int .i64 0, .int .i64 0, .int .i64 0, .int .i64 0, .int .i64 0, .int .i64 0, .int .i64 0, .int .i64 0, .int .i64 0, .int .i64 0] #[.int .i64 x.k, .int .i64 x.s, .int .i64 x.n, .int .i64 x.f, .int .i64 x.r, .int .i64 x.o, .int .i64 x.d, .int .i64 x.p, .int .i64 x.i0, .int .i64 x.i1, .int .i64 x.b0, .int .i64 x.b1, .int .i64 x.h0, .int .i64 x.h1] u2 W → W.cell? ⟨bs, off + b * 14 + 2, none⟩ = some (.int .i64 x.n) := fun W h => (h.bel.cell (p := ⟨bs, off + b * 14 + 2, none⟩) bh).trans (cell_ext c2 _ hE)
          have x3 : ∀ W, RN w5.heap.size 47 #[.int .i64 0, .int .i64 0, .int .i64 0, .int .i64 0, .int .i64 0, .int .i64 0, .int .i64 0, .int .i64 0, .int .i64 0, .int .i64 0, .int .i64 0, .int .i64 0, .int .i64 0, .int .i64 0] #[.int .i64 x.k, .int .i64 x.s, .int .i64 x.n, .int .i64 x.f, .int .i64 x.r, .int .i64 x.o, .int .i64 x.d, .int .i64 x.p, .int .i64 x.i0, .int .i64 x.i1, .int .i64 x.b0, .int .i64 x.b1, .int .i64 x.h0, .int .i64 x.h1] u2 W → W.cell? ⟨bs, off + b * 14 + 3, none⟩ = some (.int .i64 x.f) := fun W h => (h.bel.cell (p := ⟨bs, off + b * 14 + 3, none⟩) bh).trans (cell_ext c3 _ hE)
          have x4 : ∀ W, RN w5.heap.size 47 #[.int .i64 0, .int .i64 0, .int .i64 0, .int .i64 0, .int .i64 0, .int .i64 0, .int .i64 0, .int .i64 0, .int .i64 0, .int .i64 0, .int .i64 0, .int .i64 0, .int .i64 0, .int .i64 0] #[.int .i64 x.k, .int .i64 x.s, .int .i64 x.n, .int .i64 x.f, .int .i64 x.r, .int .i64 x.o, .int .i64 x.d, .int .i64 x.p, .int .i64 x.i0, .int .i64 x.i1, .int .i64 x.b0, .int .i64 x.b1, .int .i64 x.h0, .int .i64 x.h1] u2 W → W.cell? ⟨bs, off + b * 14 + 4, none⟩ = some (.int .i64 x.r) := fun W h => (h.bel.cell (p := ⟨bs, off + b * 14 + 4, none⟩) bh).trans (cell_ext c4 _ hE)
          have x5 : ∀ W, RN w5.heap.size 47 #[.int .i64 0, .int .i64 0, .int .i64 0, .int .i64 0, .int .i64 0, .int .i64 0, .int .i64 0, .int .i64 0, .int .i64 0, .int .i64 0, .int .i64 0, .int .i64 0, .int .i64 0, .int .i64 0] #[.int .i64 x.k, .int .i64 x.s, .int .i64 x.n, .int .i64 x.f, .int .i64 x.r, .int .i64 x.o, .int .i64 x.d, .int .i64 x.p, .int .i64 x.i0, .int .i64 x.i1, .int .i64 x.b0, .int .i64 x.b1, .int .i64 x.h0, .int .i64 x.h1] u2 W → W.cell? ⟨bs, off + b * 14 + 5, none⟩ = some (.int .i64 x.o) := fun W h => (h.bel.cell (p := ⟨bs, off + b * 14 + 5, none⟩) bh).trans (cell_ext c5 _ hE)
          have x6 : ∀ W, RN w5.heap.size 47 #[.int .i64 0, .int .i64 0, .int .i64 0, .int .i64 0, .int .i64 0, .int .i64 0, .int .i64 0, .int .i64 0, .int .i64 0, .int .i64 0, .int .i64 0, .int .i64 0, .int .i64 0, .int .i64 0] #[.int .i64 x.k, .int .i64 x.s, .int .i64 x.n, .int .i64 x.f, .int .i64 x.r, .int .i64 x.o, .int .i64 x.d, .int .i64 x.p, .int .i64 x.i0, .int .i64 x.i1, .int .i64 x.b0, .int .i64 x.b1, .int .i64 x.h0, .int .i64 x.h1] u2 W → W.cell? ⟨bs, off + b * 14 + 6, none⟩ = some (.int .i64 x.d) := fun W h => (h.bel.cell (p := ⟨bs, off + b * 14 + 6, none⟩) bh).trans (cell_ext c6 _ hE)
          have x7 : ∀ W, RN w5.heap.size 47 #[.int .i64 0, .int .i64 0, .int .i64 0, .int .i64 0, .int .i64 0, .int .i64 0, .int .i64 0, .int .i64 0, .int .i64 0, .int .i64 0, .int .i64 0, .int .i64 0, .int .i64 0, .int .i64 0] #[.int .i64 x.k, .int .i64 x.s, .int .i64 x.n, .int .i64 x.f, .int .i64 x.r, .int .i64 x.o, .int .i64 x.d, .int .i64 x.p, .int .i64 x.i0, .int .i64 x.i1, .int .i64 x.b0, .int .i64 x.b1, .int .i64 x.h0, .int .i64 x.h1] u2 W → W.cell? ⟨bs, off + b * 14 + 7, none⟩ = some (.int .i64 x.p) := fun W h => (h.bel.cell (p := ⟨bs, off + b * 14 + 7, none⟩) bh).trans (cell_ext c7 _ hE)
          have x8 : ∀ W, RN w5.heap.size 47 #[.int .i64 0, .int .i64 0, .int .i64 0, .int .i64 0, .int .i64 0, .int .i64 0, .int .i64 0, .int .i64 0, .int .i64 0, .int .i64 0, .int .i64 0, .int .i64 0, .int .i64 0, .int .i64 0] #[.int .i64 x.k, .int .i64 x.s, .int .i64 x.n, .int .i64 x.f, .int .i64 x.r, .int .i64 x.o, .int .i64 x.d, .int .i64 x.p, .int .i64 x.i0, .int .i64 x.i1, .int .i64 x.b0, .int .i64 x.b1, .int .i64 x.h0, .int .i64 x.h1] u2 W → W.cell? ⟨bs, off + b * 14 + 8, none⟩ = some (.int .i64 x.i0) := fun W h => (h.bel.cell (p := ⟨bs, off + b * 14 + 8, none⟩) bh).trans (cell_ext c8 _ hE)
          have x9 : ∀ W, RN w5.heap.size 47 #[.int .i64 0, .int .i64 0, .int .i64 0, .int .i64 0, .int .i64 0, .int .i64 0, .int .i64 0, .int .i64 0, .int .i64 0, .int .i64 0, .int .i64 0, .int .i64 0, .int .i64 0, .int .i64 0] #[.int .i64 x.k, .int .i64 x.s, .int .i64 x.n, .int .i64 x.f, .int .i64 x.r, .int .i64 x.o, .int .i64 x.d, .int .i64 x.p, .int .i64 x.i0, .int .i64 x.i1, .int .i64 x.b0, .int .i64 x.b1, .int .i64 x.h0, .int .i64 x.h1] u2 W → W.cell? ⟨bs, off + b * 14 + 9, none⟩ = some (.int .i64 x.i1) := fun W h => (h.bel.cell (p := ⟨bs, off + b * 14 + 9, none⟩) bh).trans (cell_ext c9 _ hE)
          have x10 : ∀ W, RN w5.heap.size 47 #[.int .i64 0, .int .i64 0, .int .i64 0, .int .i64 0, .int .i64 0, .int .i64 0, .int .i64 0, .int .i64 0, .int .i64 0, .int .i64 0, .int .i64 0, .int .i64 0, .int .i64 0, .int .i64 0] #[.int .i64 x.k, .int .i64 x.s, .int .i64 x.n, .int .i64 x.f, .int .i64 x.r, .int .i64 x.o, .int .i64 x.d, .int .i64 x.p, .int .i64 x.i0, .int .i64 x.i1, .int .i64 x.b0, .int .i64 x.b1, .int .i64 x.h0, .int .i64 x.h1] u2 W → W.cell? ⟨bs, off + b * 14 + 10, none⟩ = some (.int .i64 x.b0) := fun W h => (h.bel.cell (p := ⟨bs, off + b * 14 + 10, none⟩) bh).trans (cell_ext c10 _ hE)
          have x11 : ∀ W, RN w5.heap.size 47 #[.int .i64 0, .int .i64 0, .int .i64 0, .int .i64 0, .int .i64 0, .int .i64 0, .int .i64 0, .int .i64 0, .int .i64 0, .int .i64 0, .int .i64 0, .int .i64 0, .int .i64 0, .int .i64 0] #[.int .i64 x.k, .int .i64 x.s, .int .i64 x.n, .int .i64 x.f, .int .i64 x.r, .int .i64 x.o, .int .i64 x.d, .int .i64 x.p, .int .i64 x.i0, .int .i64 x.i1, .int .i64 x.b0, .int .i64 x.b1, .int .i64 x.h0, .int .i64 x.h1] u2 W → W.cell? ⟨bs, off + b * 14 + 11, none⟩ = some (.int .i64 x.b1) := fun W h => (h.bel.cell (p := ⟨bs, off + b * 14 + 11, none⟩) bh).trans (cell_ext c11 _ hE)
          have x12 : ∀ W, RN w5.heap.size 47 #[.int .i64 0, .int .i64 0, .int .i64 0, .int .i64 0, .int .i64 0, .int .i64 0, .int .i64 0, .int .i64 0, .int .i64 0, .int .i64 0, .int .i64 0, .int .i64 0, .int .i64 0, .int .i64 0] #[.int .i64 x.k, .int .i64 x.s, .int .i64 x.n, .int .i64 x.f, .int .i64 x.r, .int .i64 x.o, .int .i64 x.d, .int .i64 x.p, .int .i64 x.i0, .int .i64 x.i1, .int .i64 x.b0, .int .i64 x.b1, .int .i64 x.h0, .int .i64 x.h1] u2 W → W.cell? ⟨bs, off + b * 14 + 12, none⟩ = some (.int .i64 x.h0) := fun W h => (h.bel.cell (p := ⟨bs, off + b * 14 + 12, none⟩) bh).trans (cell_ext c12 _ hE)
          have x13 : ∀ W, RN w5.heap.size 47 #[.int .i64 0, .int .i64 0, .int .i64 0, .int .i64 0, .int .i64 0, .int .i64 0, .int .i64 0, .int .i64 0, .int .i64 0, .int .i64 0, .int .i64 0, .int .i64 0, .int .i64 0, .int .i64 0] #[.int .i64 x.k, .int .i64 x.s, .int .i64 x.n, .int .i64 x.f, .int .i64 x.r, .int .i64 x.o, .int .i64 x.d, .int .i64 x.p, .int .i64 x.i0, .int .i64 x.i1, .int .i64 x.b0, .int .i64 x.b1, .int .i64 x.h0, .int .i64 x.h1] u2 W → W.cell? ⟨bs, off + b * 14 + 13, none⟩ = some (.int .i64 x.h1) := fun W h => (h.bel.cell (p := ⟨bs, off + b * 14 + 13, none⟩) bh).trans (cell_ext c13 _ hE)
          repeat (first | (refine wpP_pure rfl (by rfl) (fun W hW => by go_simp; with_reducible rfl) ?_; simp only [Act.put, List.setIfInBounds_toArray, List.set_cons_zero, List.set_cons_succ]) | (refine wpP_skip rfl (by rfl) ?_; simp only [Act.put, List.setIfInBounds_toArray, List.set_cons_zero, List.set_cons_succ]))
          refine ⟨?_, fun W hR => ?_⟩
          · simp only [rSteps, rNeed, rStep, both_top, tie, TP.top, TP.mine, MP.top, MP.mine, MT.mine, MT.tied, MT.done, MT.is, List.reverse_cons, List.reverse_nil, List.nil_append, List.cons_append, ME.is, MP.is, MP.done, ME.ints, ME.row, Region.wanted, yielded, List.getElem?_toArray, phi, dstAt, List.getElem?_cons_zero, List.getElem?_cons_succ, Option.bind_some, Act.put, List.setIfInBounds_toArray, List.set_cons_zero, List.set_cons_succ, and_true, forall_eq, reduceIte, Nat.reduceEqDiff, beq_iff_eq, Option.some.injEq, Bool.false_eq_true, reduceCtorEq, implies_true, true_and]
            refine ⟨fun W hR => ?_, fun W hR v9 h9 => ?_⟩
            · have hN : w5.heap.size ≤ W.heap.size := by have := hR.bel.size; omega
              go_simp
              exact ⟨_, rfl, RN.ext (ext_alloc _ _) hN, _, hN, rfl, .inl (Blk.new _ _ _)⟩
            · obtain ⟨Bn, hBn, rfl, hb8⟩ := h9
              refine wp_store_N _ _ _ rfl rfl rfl hb8 hBn (by kernel_rfl) rfl (by simp [Value.oneCell']) (fun hs => ⟨trivial, Bn, rfl, hs⟩)
          · simp only [rFin, envAt, TP.top, TP.mine, MP.top, MP.mine, MT.mine, MT.tied, MT.done, MT.is, List.map_cons, List.map_nil, true_implies, List.head?_cons, ME.is, MP.is, MP.done, ME.ints, ME.row, phi, dstAt, List.getElem?_cons_zero, List.getElem?_cons_succ, Option.bind_some, Act.put, List.setIfInBounds_toArray, List.set_cons_zero, List.set_cons_succ, and_true, forall_eq, reduceIte, Nat.reduceEqDiff, beq_iff_eq, Option.some.injEq, Bool.false_eq_true, reduceCtorEq, implies_true, true_and]
            rintro v9 ⟨B7, hB7, rfl, _⟩ v10 ⟨Bx, e9, hb7⟩
            cases e9
            have hEE : Ext w5 W := hE.trans (by have := hR.bel; rw [← hsz] at this; exact this)
            have hne4 : B4 ≠ B7 := by have := HR.out.at_.lt; omega
            have hne5 : B5 ≠ B7 := by have := HR.out.sem.lt; omega
            have hne1 : B1 ≠ B7 := by have := HR.out.im.lt; omega
            have HR8 := Lib.hid (HR.out.later hEE)
            clear nb4 nb1 x0 x1 x2 x3 x4 x5 x6 x7 x8 x9 x10 x11 x12 x13 c0 c1 c2 c3 c4 c5 c6 c7 c8 c9 c10 c11 c12 c13 hEE hE hsz hR bh HR
            have r0 : World.cell? W ⟨B7, 0, none⟩ = some (.int .i64 x.k) := hb7.cell 0
            have r1 : World.cell? W ⟨B7, 1, none⟩ = some (.int .i64 x.s) := hb7.cell 1
            have hi1 := hin.1
            have hi2 := hin.2
            have hlen8 := HPL.out.len
            have q0 : World.cell? W ⟨B5, x.s.toNat, none⟩ = some (.int .i64 (cs[x.s.toNat]?.getD 0)) := by rw [HR8.out.sem.cell]; exact cnt_get cs _ (by omega)
            have hlow := low_at HPL.out.low x.s.toNat
            have HTR := Lib.hid (tryZ_ref HPL.out.low x (L1.drop (b + 1)))
            rw [← HDR.out] at HTR
            have HGO : Hid (goes cs (L1.drop b) = cs.set x.s.toNat (cs[x.s.toNat]?.getD 0 + movZ x)) := by show _ = _; rw [HDR.out]; rfl
            have HNE : Hid (L1.drop b ≠ []) := by show _ ≠ _; rw [HDR.out]; simp
            have hid0 : cs.set x.s.toNat (cs[x.s.toNat]?.getD 0) = cs := by
              have h8 : x.s.toNat < cs.length := by omega
              rw [List.getElem?_eq_getElem h8]
              simp
            have HID := Lib.hid hid0
            have hmv := movZ_cases x
            generalize cs[x.s.toNat]?.getD 0 = y at *
            have hf5 := HR8.out.sem.frozen x.s.toNat
            have hl5 := HR8.out.sem.lt
            clear hin hlen8 hid0 hmay
            rcases hmv with ⟨xk, xm⟩ | ⟨xk, xm⟩ | ⟨xk, xk6, xm⟩
            · have g5 : (x.k == 5) = true := by rw [beq_iff_eq]; exact xk
              have g6 : (x.k == 6) = false := by rw [beq_eq_false_iff_ne]; omega
              by_cases hy : y = 0
              · have gy : (y == 0) = true := by rw [beq_iff_eq]; exact hy
                have hz : tryZ cs (L1.drop b) = 0 := by rw [HTR.out, if_pos ⟨xk, hy⟩]
                have HN : Hid (RIn w IM rz M B1 B4 B5 L0 L1 L2 m 2 false false m W) := .not HR8.out (fun _ => HT0.out (by omega)) (fun _ => hz) (fun h => absurd h (by omega)) ⟨fun h => (by cases h), fun h => absurd (h.2.1 (by omega)) HNE.out⟩
                clear hz hy xk xm HR8 HTR HGO HNE HDR HEE
                go_wp2_with fail
                go_roundw
                case rel => exact ⟨false, false, 2, m, by omega, hn, fun _ => by omega, rfl, rfl, by go_num, rfl, HN⟩
                case measure => simp [intOf]
              · have gy : (y == 0) = false := by rw [beq_eq_false_iff_ne]; exact hy
                have hz2 : tryZ cs (L1.drop b) = 2 := by rw [HTR.out, if_neg (fun h => hy h.2), if_neg (fun h => by have := h.1; omega)]
                have mw : IntKind.i64.wrap (y - 1) = y - 1 := IntWalk.i64_in _ (by omega)
                have S2 := HR8.out.sem.set x.s.toNat (.int .i64 (y - 1))
                rw [cnt_set, show y - 1 = y + -1 from rfl, ← xm, ← HGO.out] at S2
                have I2 := HR8.out.im.other (show B1 ≠ B5 by have := HW.out; omega) x.s.toNat (.int .i64 (y + movZ x))
                have A2 := HR8.out.at_.other (show B4 ≠ B5 by have := HW.out; omega) x.s.toNat (.int .i64 (y + movZ x))
                have E2 : Ext w _ := Below.setCell HR8.out.ext (p := ⟨B5, x.s.toNat, none⟩) (by show w.heap.size ≤ B5; have := HW.out; omega) (.int .i64 (y + movZ x))
                have b72 := hb7.other (Ne.symm hne5) x.s.toNat (.int .i64 (y + movZ x))
                rw [xm, show y + -1 = y - 1 from rfl] at S2 I2 A2 E2 b72
                clear xm xk hy
                go_upto_region 17 with fail
                generalize World.setCell W _ _ = W2 at *
                clear r0 r1 q0 hf5 hl5 g5 gy mw
                have r0 : World.cell? W2 ⟨B7, 0, none⟩ = some (.int .i64 x.k) := b72.cell 0
                have hA3 := A2.set 1 (.int .i64 ((b : Int) + 1))
                rw [atC_set1] at hA3
                have I3 := I2.other (show B1 ≠ B4 by have := HW.out; omega) 1 (.int .i64 ((b : Int) + 1))
                have S3 := S2.other (show B5 ≠ B4 by have := HW.out; omega) 1 (.int .i64 ((b : Int) + 1))
                have E3 : Ext w _ := Below.setCell E2 (p := ⟨B4, 1, none⟩) (by show w.heap.size ≤ B4; have := HW.out; omega) (.int .i64 ((b : Int) + 1))
                obtain ⟨HR3, hM3⟩ := HR8.out.go1 (HT0.out (by omega)) hz2 I3 hA3 S3 E3
                have HN := Lib.hid (RIn.gone (k := 2) (e := false) hM3 HR3)
                have qat : World.cell? W2 ⟨B4, 1, none⟩ = some (.int .i64 (b : Int)) := A2.cell 1
                have hf4 := A2.frozen 1
                have hl4 := A2.lt
                have mwa : IntKind.i64.wrap ((b : Int) + 1) = (b : Int) + 1 := IntWalk.i64_in _ (by omega)
                have HM3 := Lib.hid hM3
                clear hA3 I3 S3 E3 HR3 A2 I2 S2 E2 hz2 HTR HGO HDR HPL HT0 HT1 HT2 HEE HNE HR8 hM3
                go_wp2_with fail
                go_roundw
                case rel => exact ⟨true, false, 2, m + 1, by omega, HM3.out, (fun h => by cases h), rfl, rfl, by go_num, by go_num, HN⟩
                case measure => simp [intOf]
            · have g5 : (x.k == 5) = false := by rw [beq_eq_false_iff_ne]; omega
              have g6 : (x.k == 6) = true := by rw [beq_iff_eq]; exact xk
              by_cases hy : 15 ≤ y
              · have gy : decide (15 ≤ y) = true := decide_eq_true hy
                have hz1 : tryZ cs (L1.drop b) = 1 := by rw [HTR.out, if_neg (fun h => by have := h.1; omega), if_pos ⟨xk, hy⟩]
                have HZ1 := Lib.hid (HR8.out.full1 (HT0.out (by omega)) hz1)
                have HE := Lib.hid HR8.out.ext
                clear hz1 hy xk xm HR8 HTR HGO HNE HDR HEE
                go_wp2_with fail
                exact HP.out _ _ _ HZ1.out HE.out
              · have gy : decide (15 ≤ y) = false := decide_eq_false hy
                have hz2 : tryZ cs (L1.drop b) = 2 := by rw [HTR.out, if_neg (fun h => by have := h.1; omega), if_neg (fun h => hy h.2)]
                have mw : IntKind.i64.wrap (y + 1) = y + 1 := IntWalk.i64_in _ (by omega)
                have S2 := HR8.out.sem.set x.s.toNat (.int .i64 (y + movZ x))
                rw [cnt_set, ← HGO.out] at S2
                have I2 := HR8.out.im.other (show B1 ≠ B5 by have := HW.out; omega) x.s.toNat (.int .i64 (y + movZ x))
                have A2 := HR8.out.at_.other (show B4 ≠ B5 by have := HW.out; omega) x.s.toNat (.int .i64 (y + movZ x))
                have E2 : Ext w _ := Below.setCell HR8.out.ext (p := ⟨B5, x.s.toNat, none⟩) (by show w.heap.size ≤ B5; have := HW.out; omega) (.int .i64 (y + movZ x))
                rw [xm] at S2 I2 A2 E2
                clear xm xk hy
                go_upto_region 21 with fail
                generalize World.setCell W _ _ = W2 at *
                clear r0 r1 q0 hf5 hl5 g5 g6 gy mw
                have hA3 := A2.set 1 (.int .i64 ((b : Int) + 1))
                rw [atC_set1] at hA3
                have I3 := I2.other (show B1 ≠ B4 by have := HW.out; omega) 1 (.int .i64 ((b : Int) + 1))
                have S3 := S2.other (show B5 ≠ B4 by have := HW.out; omega) 1 (.int .i64 ((b : Int) + 1))
                have E3 : Ext w _ := Below.setCell E2 (p := ⟨B4, 1, none⟩) (by show w.heap.size ≤ B4; have := HW.out; omega) (.int .i64 ((b : Int) + 1))
                obtain ⟨HR3, hM3⟩ := HR8.out.go1 (HT0.out (by omega)) hz2 I3 hA3 S3 E3
                have HN := Lib.hid (RIn.gone (k := 2) (e := false) hM3 HR3)
                have qat : World.cell? W2 ⟨B4, 1, none⟩ = some (.int .i64 (b : Int)) := A2.cell 1
                have hf4 := A2.frozen 1
                have hl4 := A2.lt
                have mwa : IntKind.i64.wrap ((b : Int) + 1) = (b : Int) + 1 := IntWalk.i64_in _ (by omega)
                have HM3 := Lib.hid hM3
                clear hA3 I3 S3 E3 HR3 A2 I2 S2 E2 hz2 HTR HGO HDR HPL HT0 HT1 HT2 HEE HNE HR8 hM3
                go_wp2_with fail
                go_roundw
                case rel => exact ⟨true, false, 2, m + 1, by omega, HM3.out, (fun h => by cases h), rfl, rfl, by go_num, by go_num, HN⟩
                case measure => simp [intOf]
            · have g5 : (x.k == 5) = false := by rw [beq_eq_false_iff_ne]; exact xk
              have g6 : (x.k == 6) = false := by rw [beq_eq_false_iff_ne]; exact xk6
              have hz2 : tryZ cs (L1.drop b) = 2 := by rw [HTR.out, if_neg (fun h => xk h.1), if_neg (fun h => xk6 h.1)]
              have S2 := HR8.out.sem
              have hgo : goes cs (L1.drop b) = cs := by rw [HGO.out, xm, Int.add_zero, HID.out]
              rw [← hgo] at S2
              have I2 := HR8.out.im
              have A2 := HR8.out.at_
              have E2 := HR8.out.ext
              clear xm xk xk6 hgo q0 hf5 hl5
              have hA3 := A2.set 1 (.int .i64 ((b : Int) + 1))
              rw [atC_set1] at hA3
              have I3 := I2.other (show B1 ≠ B4 by have := HW.out; omega) 1 (.int .i64 ((b : Int) + 1))
              have S3 := S2.other (show B5 ≠ B4 by have := HW.out; omega) 1 (.int .i64 ((b : Int) + 1))
              have E3 : Ext w _ := Below.setCell E2 (p := ⟨B4, 1, none⟩) (by show w.heap.size ≤ B4; have := HW.out; omega) (.int .i64 ((b : Int) + 1))
              obtain ⟨HR3, hM3⟩ := HR8.out.go1 (HT0.out (by omega)) hz2 I3 hA3 S3 E3
              have HN := Lib.hid (RIn.gone (k := 2) (e := false) hM3 HR3)
              have qat : World.cell? W ⟨B4, 1, none⟩ = some (.int .i64 (b : Int)) := A2.cell 1
              have hf4 := A2.frozen 1
              have hl4 := A2.lt
              have mwa : IntKind.i64.wrap ((b : Int) + 1) = (b : Int) + 1 := IntWalk.i64_in _ (by omega)
              have HM3 := Lib.hid hM3
              clear hA3 I3 S3 E3 HR3 A2 I2 S2 E2 hz2 HTR HGO HDR HPL HT0 HT1 HT2 HEE HNE HR8 hM3
              go_wp2_with fail
              go_roundw
              case rel => exact ⟨true, false, 2, m + 1, by omega, HM3.out, (fun h => by cases h), rfl, rfl, by go_num, by go_num, HN⟩
              case measure => simp [intOf]
        · rw [show ((2 : Nat) : Int) = 2 from rfl]
          have hS := HC2.out
          rw [HE2.out] at hS
          have HRd := Lib.hid (HR.out.later (Ext.drew wr))
          have K0 : Keeps [B1, B4] wr wr.drew := Keeps.drew _ _
          have qa : ∀ W, Keeps [B1, B4] wr W → World.cell? W ⟨B4, 2, none⟩ = some (.int .i64 (c : Int)) := fun W hW => (hW.cell (by simp)).trans (HR.out.at_.cell 2)
          have qy : ∀ W, Keeps [B1, B4] wr W → World.cell? W ⟨B1, 6, none⟩ = some (.slice A2 L2.length d2) := fun W hW => (hW.cell (by simp)).trans ((HR.out.im.cell 6).trans HY2.out)
          by_cases hal : c < L2.length
          case neg =>
            have d1 : decide ((L2.length : Int) ≤ (c : Int)) = true := decide_eq_true (by omega)
            have d2 : decide (L2.length ≤ c) = true := decide_eq_true (by omega)
            have hnil : L2.drop c = [] := List.drop_eq_nil_of_le (by omega)
            have HN : Hid (RIn w IM rz M B1 B4 B5 L0 L1 L2 m 3 false e m wr.drew) := .not HRd.out (fun _ => HT0.out (by omega)) (fun _ => HT1.out (by omega)) (fun _ => by rw [hnil]; rfl) ⟨fun he => have h := HEE.out.1 he; ⟨fun _ => h.1 (by omega), fun _ => h.2.1 (by omega), fun _ => hnil⟩, fun h => HEE.out.2 ⟨fun _ => h.1 (by omega), fun _ => h.2.1 (by omega), fun h => absurd h (by omega)⟩⟩
            clear hal hnil HR HRd hS HEE
            go_wp2_with fail
            refine wp_region_S (Keeps [B1, B4] wr) [(0, true), (1, true), (2, true), (3, true), (4, true), (5, true), (6, true), (7, true), (8, true)] (by kernel_rfl) (by kernel_rfl) (fun _ _ d _ _ h => by cases d <;> exact h) K0 ?_
            simp only [pickE, List.getElem?_cons_zero, List.getElem?_cons_succ]
            generalize wr.drew = w5 at *
            repeat (refine wpF_pure (by rfl) (fun W hW => by go_simp; with_reducible rfl) ?_; simp only [Act.put, List.setIfInBounds_toArray, List.set_cons_zero, List.set_cons_succ])
            refine wpF_nil ?_
            clear qa qy K0 d1 d2
            go_wp2_with fail
            go_roundw
            case rel => exact ⟨false, e, 3, m, by omega, hn, fun _ => by omega, rfl, rfl, by go_num, rfl, HN⟩
            case measure => simp [intOf]
          have d1 : decide ((L2.length : Int) ≤ (c : Int)) = false := decide_eq_false (by omega)
          have d2 : decide (L2.length ≤ c) = false := decide_eq_false (by omega)
          go_wp2_with fail
          refine wp_region_S (Keeps [B1, B4] wr) [(0, true), (1, true), (2, true), (3, true), (4, true), (5, true), (6, true), (7, true), (8, true)] (by kernel_rfl) (by kernel_rfl) (fun _ _ d _ _ h => by cases d <;> exact h) K0 ?_
          simp only [pickE, List.getElem?_cons_zero, List.getElem?_cons_succ]
          generalize wr.drew = w5 at *
          repeat (refine wpF_pure (by rfl) (fun W hW => by go_simp; with_reducible rfl) ?_; simp only [Act.put, List.setIfInBounds_toArray, List.set_cons_zero, List.set_cons_succ])
          refine wpF_nil ?_
          clear qa qy K0 d1 d2 HR
          have HR := HRd
          clear HRd
          obtain ⟨_, _, e9, _, _, hcf⟩ := (hS.below HR.out.ext (Nat.le_refl _)).form
          cases e9
          have hcm : L2[c]? = some L2[c] := List.getElem?_eq_getElem hal
          obtain ⟨bs, off, hA, bh, c0, c1, c2, c3, c4, c5, c6, c7, c8, c9, c10, c11, c12, c13⟩ := hcf c _ hcm
          subst hA
          have hdr : L2.drop c = L2[c] :: L2.drop (c + 1) := List.drop_eq_getElem_cons hal
          have hmay : Isa.mayB L2[c] = true := HR.out.pl.c _ (by rw [hdr]; exact List.mem_cons_self)
          clear hcf hcm hS
          generalize L2[c] = x at *
          have HDR := Lib.hid hdr
          clear hdr
          have hin := sem_in hmay
          have HPL := Lib.hid HR.out.pl
          go_wp2_with fail
          refine wp_region_N 47 #[.int .i64 0, .int .i64 0, .int .i64 0, .int .i64 0, .int .i64 0, .int .i64 0, .int .i64 0, .int .i64 0, .int .i64 0, .int .i64 0, .int .i64 0, .int .i64 0, .int .i64 0, .int .i64 0] #[.int .i64 x.k, .int .i64 x.s, .int .i64 x.n, .int .i64 x.f, .int .i64 x.r, .int .i64 x.o, .int .i64 x.d, .int .i64 x.p, .int .i64 x.i0, .int .i64 x.i1, .int .i64 x.b0, .int .i64 x.b1, .int .i64 x.h0, .int .i64 x.h1] [0, 1, 2, 3, 4, 5, 6, 7, 8] [⟨9, [], MT.mine⟩, ⟨10, [9], MT.tied⟩] (by kernel_rfl) (by kernel_rfl) (fun _ _ d _ _ h => by cases d <;> exact h) (fun u2 hE hsz => ?_)
          have nb4 : ∀ W, RN w5.heap.size 47 #[.int .i64 0, .int .i64 0, .int .i64 0, .int .i64 0, .int .i64 0, .int .i64 0, .int .i64 0, .int .i64 0, .int .i64 0, .int .i64 0, .int .i64 0, .int .i64 0, .int .i64 0, .int .i64 0] #[.int .i64 x.k, .int .i64 x.s, .int .i64 x.n, .int .i64 x.f, .int .i64 x.r, .int .i64 x.o, .int .i64 x.d, .int .i64 x.p, .int .i64 x.i0, .int .i64 x.i1, .int .i64 x.b0, .int .i64 x.b1, .int .i64 x.h0, .int .i64 x.h1] u2 W → W.cell? ⟨B4, 2, none⟩ = some (.int .i64 (c : Int)) := fun W h => (h.blk (HR.out.at_.ext hE) HR.out.at_.lt).cell 2
          have nb1 : ∀ W, RN w5.heap.size 47 #[.int .i64 0, .int .i64 0, .int .i64 0, .int .i64 0, .int .i64 0, .int .i64 0, .int .i64 0, .int .i64 0, .int .i64 0, .int .i64 0, .int .i64 0, .int .i64 0, .int .i64 0, .int .i64 0] #[.int .i64 x.k, .int .i64 x.s, .int .i64 x.n, .int .i64 x.f, .int .i64 x.r, .int .i64 x.o, .int .i64 x.d, .int .i64 x.p, .int .i64 x.i0, .int .i64 x.i1, .int .i64 x.b0, .int .i64 x.b1, .int .i64 x.h0, .int .i64 x.h1] u2 W → W.cell? ⟨B1, 6, none⟩ = some (.slice (some ⟨bs, off, none⟩) L2.length d2) := fun W h => ((h.blk (HR.out.im.ext hE) HR.out.im.lt).cell 6).trans HY2.out
          have x0 : ∀ W, RN w5.heap.size 47 #[.int .i64 0, .int .i64 0, .int .i64 0, .int .i64 0, .int .i64 0, .int .i64 0, .int .i64 0, .int .i64 0, .int .i64 0, .int .i64 0, .int .i64 0, .int .i64 0, .int .i64 0, .int .i64 0] #[.int .i64 x.k, .int .i64 x.s, .int .i64 x.n, .int .i64 x.f, .int .i64 x.r, .int .i64 x.o, .int .i64 x.d, .int .i64 x.p, .int .i64 x.i0, .int .i64 x.i1, .int .i64 x.b0, .int .i64 x.b1, .int .i64 x.h0, .int .i64 x.h1] u2 W → W.cell? ⟨bs, off + c * 14, none⟩ = some (.int .i64 x.k) := fun W h => (h.bel.cell (p := ⟨bs, off + c * 14, none⟩) bh).trans (cell_ext c0 _ hE)
          have x1 : ∀ W, RN w5.heap.size 47 #[.int .i64 0, .int .i64 0, .int .i64 0, .int .i64 0, .int .i64 0, .int .i64 0, .int .i64 0, .int .i64 0, .int .i64 0, .int .i64 0, .int .i64 0, .int .i64 0, .int .i64 0, .int .i64 0] #[.int .i64 x.k, .int .i64 x.s, .int .i64 x.n, .int .i64 x.f, .int .i64 x.r, .int .i64 x.o, .int .i64 x.d, .int .i64 x.p, .int .i64 x.i0, .int .i64 x.i1, .int .i64 x.b0, .int .i64 x.b1, .int .i64 x.h0, .int .i64 x.h1] u2 W → W.cell? ⟨bs, off + c * 14 + 1, none⟩ = some (.int .i64 x.s) := fun W h => (h.bel.cell (p := ⟨bs, off + c * 14 + 1, none⟩) bh).trans (cell_ext c1 _ hE)
          have x2 : ∀ W, RN w5.heap.size 47 #[.int .i64 0, .int .i64 0, .int .i64 0, .int .i64 0, .int .i64 0, .int .i64 0, .int .i64 0, .int .i64 0, .int .i64 0, .int .i64 0, .int .i64 0, .int .i64 0, .int .i64 0, .int .i64 0] #[.int .i64 x.k, .int .i64 x.s, .int .i64 x.n, .int .i64 x.f, .int .i64 x.r, .int .i64 x.o, .int .i64 x.d, .int .i64 x.p, .int .i64 x.i0, .int .i64 x.i1, .int .i64 x.b0, .int .i64 x.b1, .int .i64 x.h0, .int .i64 x.h1] u2 W → W.cell? ⟨bs, off + c * 14 + 2, none⟩ = some (.int .i64 x.n) := fun W h => (h.bel.cell (p := ⟨bs, off + c * 14 + 2, none⟩) bh).trans (cell_ext c2 _ hE)
          have x3 : ∀ W, RN w5.heap.size 47 #[.int .i64 0, .int .i64 0, .int .i64 0, .int .i64 0, .int .i64 0, .int .i64 0, .int .i64 0, .int .i64 0, .int .i64 0, .int .i64 0, .int .i64 0, .int .i64 0, .int .i64 0, .int .i64 0] #[.int .i64 x.k, .int .i64 x.s, .int .i64 x.n, .int .i64 x.f, .int .i64 x.r, .int .i64 x.o, .int .i64 x.d, .int .i64 x.p, .int .i64 x.i0, .int .i64 x.i1, .int .i64 x.b0, .int .i64 x.b1, .int .i64 x.h0, .int .i64 x.h1] u2 W → W.cell? ⟨bs, off + c * 14 + 3, none⟩ = some (.int .i64 x.f) := fun W h => (h.bel.cell (p := ⟨bs, off + c * 14 + 3, none⟩) bh).trans (cell_ext c3 _ hE)
          have x4 : ∀ W, RN w5.heap.size 47 #[.int .i64 0, .int .i64 0, .int .i64 0, .int .i64 0, .int .i64 0, .int .i64 0, .int .i64 0, .int .i64 0, .int .i64 0, .int .i64 0, .int .i64 0, .int .i64 0, .int .i64 0, .int .i64 0] #[.int .i64 x.k, .int .i64 x.s, .int .i64 x.n, .int .i64 x.f, .int .i64 x.r, .int .i64 x.o, .int .i64 x.d, .int .i64 x.p, .int .i64 x.i0, .int .i64 x.i1, .int .i64 x.b0, .int .i64 x.b1, .int .i64 x.h0, .int .i64 x.h1] u2 W → W.cell? ⟨bs, off + c * 14 + 4, none⟩ = some (.int .i64 x.r) := fun W h => (h.bel.cell (p := ⟨bs, off + c * 14 + 4, none⟩) bh).trans (cell_ext c4 _ hE)
          have x5 : ∀ W, RN w5.heap.size 47 #[.int .i64 0, .int .i64 0, .int .i64 0, .int .i64 0, .int .i64 0, .int .i64 0, .int .i64 0, .int .i64 0, .int .i64 0, .int .i64 0, .int .i64 0, .int .i64 0, .int .i64 0, .int .i64 0] #[.int .i64 x.k, .int .i64 x.s, .int .i64 x.n, .int .i64 x.f, .int .i64 x.r, .int .i64 x.o, .int .i64 x.d, .int .i64 x.p, .int .i64 x.i0, .int .i64 x.i1, .int .i64 x.b0, .int .i64 x.b1, .int .i64 x.h0, .int .i64 x.h1] u2 W → W.cell? ⟨bs, off + c * 14 + 5, none⟩ = some (.int .i64 x.o) := fun W h => (h.bel.cell (p := ⟨bs, off + c * 14 + 5, none⟩) bh).trans (cell_ext c5 _ hE)
          have x6 : ∀ W, RN w5.heap.size 47 #[.int .i64 0, .int .i64 0, .int .i64 0, .int .i64 0, .int .i64 0, .int .i64 0, .int .i64 0, .int .i64 0, .int .i64 0, .int .i64 0, .int .i64 0, .int .i64 0, .int .i64 0, .int .i64 0] #[.int .i64 x.k, .int .i64 x.s, .int .i64 x.n, .int .i64 x.f, .int .i64 x.r, .int .i64 x.o, .int .i64 x.d, .int .i64 x.p, .int .i64 x.i0, .int .i64 x.i1, .int .i64 x.b0, .int .i64 x.b1, .int .i64 x.h0, .int .i64 x.h1] u2 W → W.cell? ⟨bs, off + c * 14 + 6, none⟩ = some (.int .i64 x.d) := fun W h => (h.bel.cell (p := ⟨bs, off + c * 14 + 6, none⟩) bh).trans (cell_ext c6 _ hE)
          have x7 : ∀ W, RN w5.heap.size 47 #[.int .i64 0, .int .i64 0, .int .i64 0, .int .i64 0, .int .i64 0, .int .i64 0, .int .i64 0, .int .i64 0, .int .i64 0, .int .i64 0, .int .i64 0, .int .i64 0, .int .i64 0, .int .i64 0] #[.int .i64 x.k, .int .i64 x.s, .int .i64 x.n, .int .i64 x.f, .int .i64 x.r, .int .i64 x.o, .int .i64 x.d, .int .i64 x.p, .int .i64 x.i0, .int .i64 x.i1, .int .i64 x.b0, .int .i64 x.b1, .int .i64 x.h0, .int .i64 x.h1] u2 W → W.cell? ⟨bs, off + c * 14 + 7, none⟩ = some (.int .i64 x.p) := fun W h => (h.bel.cell (p := ⟨bs, off + c * 14 + 7, none⟩) bh).trans (cell_ext c7 _ hE)
          have x8 : ∀ W, RN w5.heap.size 47 #[.int .i64 0, .int .i64 0, .int .i64 0, .int .i64 0, .int .i64 0, .int .i64 0, .int .i64 0, .int .i64 0, .int .i64 0, .int .i64 0, .int .i64 0, .int .i64 0, .int .i64 0, .int .i64 0] #[.int .i64 x.k, .int .i64 x.s, .int .i64 x.n, .int .i64 x.f, .int .i64 x.r, .int .i64 x.o, .int .i64 x.d, .int .i64 x.p, .int .i64 x.i0, .int .i64 x.i1, .int .i64 x.b0, .int .i64 x.b1, .int .i64 x.h0, .int .i64 x.h1] u2 W → W.cell? ⟨bs, off + c * 14 + 8, none⟩ = some (.int .i64 x.i0) := fun W h => (h.bel.cell (p := ⟨bs, off + c * 14 + 8, none⟩) bh).trans (cell_ext c8 _ hE)
          have x9 : ∀ W, RN w5.heap.size 47 #[.int .i64 0, .int .i64 0, .int .i64 0, .int .i64 0, .int .i64 0, .int .i64 0, .int .i64 0, .int .i64 0, .int .i64 0, .int .i64 0, .int .i64 0, .int .i64 0, .int .i64 0, .int .i64 0] #[.int .i64 x.k, .int .i64 x.s, .int .i64 x.n, .int .i64 x.f, .int .i64 x.r, .int .i64 x.o, .int .i64 x.d, .int .i64 x.p, .int .i64 x.i0, .int .i64 x.i1, .int .i64 x.b0, .int .i64 x.b1, .int .i64 x.h0, .int .i64 x.h1] u2 W → W.cell? ⟨bs, off + c * 14 + 9, none⟩ = some (.int .i64 x.i1) := fun W h => (h.bel.cell (p := ⟨bs, off + c * 14 + 9, none⟩) bh).trans (cell_ext c9 _ hE)
          have x10 : ∀ W, RN w5.heap.size 47 #[.int .i64 0, .int .i64 0, .int .i64 0, .int .i64 0, .int .i64 0, .int .i64 0, .int .i64 0, .int .i64 0, .int .i64 0, .int .i64 0, .int .i64 0, .int .i64 0, .int .i64 0, .int .i64 0] #[.int .i64 x.k, .int .i64 x.s, .int .i64 x.n, .int .i64 x.f, .int .i64 x.r, .int .i64 x.o, .int .i64 x.d, .int .i64 x.p, .int .i64 x.i0, .int .i64 x.i1, .int .i64 x.b0, .int .i64 x.b1, .int .i64 x.h0, .int .i64 x.h1] u2 W → W.cell? ⟨bs, off + c * 14 + 10, none⟩ = some (.int .i64 x.b0) := fun W h => (h.bel.cell (p := ⟨bs, off + c * 14 + 10, none⟩) bh).trans (cell_ext c10 _ hE)
          have x11 : ∀ W, RN w5.heap.size 47 #[.int .i64 0, .int .i64 0, .int .i64 0, .int .i64 0, .int .i64 0, .int .i64 0, .int .i64 0, .int .i64 0, .int .i64 0, .int .i64 0, .int .i64 0, .int .i64 0, .int .i64 0, .int .i64 0] #[.int .i64 x.k, .int .i64 x.s, .int .i64 x.n, .int .i64 x.f, .int .i64 x.r, .int .i64 x.o, .int .i64 x.d, .int .i64 x.p, .int .i64 x.i0, .int .i64 x.i1, .int .i64 x.b0, .int .i64 x.b1, .int .i64 x.h0, .int .i64 x.h1] u2 W → W.cell? ⟨bs, off + c * 14 + 11, none⟩ = some (.int .i64 x.b1) := fun W h => (h.bel.cell (p := ⟨bs, off + c * 14 + 11, none⟩) bh).trans (cell_ext c11 _ hE)
          have x12 : ∀ W, RN w5.heap.size 47 #[.int .i64 0, .int .i64 0, .int .i64 0, .int .i64 0, .int .i64 0, .int .i64 0, .int .i64 0, .int .i64 0, .int .i64 0, .int .i64 0, .int .i64 0, .int .i64 0, .int .i64 0, .int .i64 0] #[.int .i64 x.k, .int .i64 x.s, .int .i64 x.n, .int .i64 x.f, .int .i64 x.r, .int .i64 x.o, .int .i64 x.d, .int .i64 x.p, .int .i64 x.i0, .int .i64 x.i1, .int .i64 x.b0, .int .i64 x.b1, .int .i64 x.h0, .int .i64 x.h1] u2 W → W.cell? ⟨bs, off + c * 14 + 12, none⟩ = some (.int .i64 x.h0) := fun W h => (h.bel.cell (p := ⟨bs, off + c * 14 + 12, none⟩) bh).trans (cell_ext c12 _ hE)
          have x13 : ∀ W, RN w5.heap.size 47 #[.int .i64 0, .int .i64 0, .int .i64 0, .int .i64 0, .int .i64 0, .int .i64 0, .int .i64 0, .int .i64 0, .int .i64 0, .int .i64 0, .int .i64 0, .int .i64 0, .int .i64 0, .int .i64 0] #[.int .i64 x.k, .int .i64 x.s, .int .i64 x.n, .int .i64 x.f, .int .i64 x.r, .int .i64 x.o, .int .i64 x.d, .int .i64 x.p, .int .i64 x.i0, .int .i64 x.i1, .int .i64 x.b0, .int .i64 x.b1, .int .i64 x.h0, .int .i64 x.h1] u2 W → W.cell? ⟨bs, off + c * 14 + 13, none⟩ = some (.int .i64 x.h1) := fun W h => (h.bel.cell (p := ⟨bs, off + c * 14 + 13, none⟩) bh).trans (cell_ext c13 _ hE)
          repeat (first | (refine wpP_pure rfl (by rfl) (fun W hW => by go_simp; with_reducible rfl) ?_; simp only [Act.put, List.setIfInBounds_toArray, List.set_cons_zero, List.set_cons_succ]) | (refine wpP_skip rfl (by rfl) ?_; simp only [Act.put, List.setIfInBounds_toArray, List.set_cons_zero, List.set_cons_succ]))
          refine ⟨?_, fun W hR => ?_⟩
          · simp only [rSteps, rNeed, rStep, both_top, tie, TP.top, TP.mine, MP.top, MP.mine, MT.mine, MT.tied, MT.done, MT.is, List.reverse_cons, List.reverse_nil, List.nil_append, List.cons_append, ME.is, MP.is, MP.done, ME.ints, ME.row, Region.wanted, yielded, List.getElem?_toArray, phi, dstAt, List.getElem?_cons_zero, List.getElem?_cons_succ, Option.bind_some, Act.put, List.setIfInBounds_toArray, List.set_cons_zero, List.set_cons_succ, and_true, forall_eq, reduceIte, Nat.reduceEqDiff, beq_iff_eq, Option.some.injEq, Bool.false_eq_true, reduceCtorEq, implies_true, true_and]
            refine ⟨fun W hR => ?_, fun W hR v9 h9 => ?_⟩
            · have hN : w5.heap.size ≤ W.heap.size := by have := hR.bel.size; omega
              go_simp
              exact ⟨_, rfl, RN.ext (ext_alloc _ _) hN, _, hN, rfl, .inl (Blk.new _ _ _)⟩
            · obtain ⟨Bn, hBn, rfl, hb8⟩ := h9
              refine wp_store_N _ _ _ rfl rfl rfl hb8 hBn (by kernel_rfl) rfl (by simp [Value.oneCell']) (fun hs => ⟨trivial, Bn, rfl, hs⟩)
          · simp only [rFin, envAt, TP.top, TP.mine, MP.top, MP.mine, MT.mine, MT.tied, MT.done, MT.is, List.map_cons, List.map_nil, true_implies, List.head?_cons, ME.is, MP.is, MP.done, ME.ints, ME.row, phi, dstAt, List.getElem?_cons_zero, List.getElem?_cons_succ, Option.bind_some, Act.put, List.setIfInBounds_toArray, List.set_cons_zero, List.set_cons_succ, and_true, forall_eq, reduceIte, Nat.reduceEqDiff, beq_iff_eq, Option.some.injEq, Bool.false_eq_true, reduceCtorEq, implies_true, true_and]
            rintro v9 ⟨B7, hB7, rfl, _⟩ v10 ⟨Bx, e9, hb7⟩
            cases e9
            have hEE : Ext w5 W := hE.trans (by have := hR.bel; rw [← hsz] at this; exact this)
            have hne4 : B4 ≠ B7 := by have := HR.out.at_.lt; omega
            have hne5 : B5 ≠ B7 := by have := HR.out.sem.lt; omega
            have hne1 : B1 ≠ B7 := by have := HR.out.im.lt; omega
            have HR8 := Lib.hid (HR.out.later hEE)
            clear nb4 nb1 x0 x1 x2 x3 x4 x5 x6 x7 x8 x9 x10 x11 x12 x13 c0 c1 c2 c3 c4 c5 c6 c7 c8 c9 c10 c11 c12 c13 hEE hE hsz hR bh HR
            have r0 : World.cell? W ⟨B7, 0, none⟩ = some (.int .i64 x.k) := hb7.cell 0
            have r1 : World.cell? W ⟨B7, 1, none⟩ = some (.int .i64 x.s) := hb7.cell 1
            have hi1 := hin.1
            have hi2 := hin.2
            have hlen8 := HPL.out.len
            have q0 : World.cell? W ⟨B5, x.s.toNat, none⟩ = some (.int .i64 (cs[x.s.toNat]?.getD 0)) := by rw [HR8.out.sem.cell]; exact cnt_get cs _ (by omega)
            have hlow := low_at HPL.out.low x.s.toNat
            have HTR := Lib.hid (tryZ_ref HPL.out.low x (L2.drop (c + 1)))
            rw [← HDR.out] at HTR
            have HGO : Hid (goes cs (L2.drop c) = cs.set x.s.toNat (cs[x.s.toNat]?.getD 0 + movZ x)) := by show _ = _; rw [HDR.out]; rfl
            have HNE : Hid (L2.drop c ≠ []) := by show _ ≠ _; rw [HDR.out]; simp
            have hid0 : cs.set x.s.toNat (cs[x.s.toNat]?.getD 0) = cs := by
              have h8 : x.s.toNat < cs.length := by omega
              rw [List.getElem?_eq_getElem h8]
              simp
            have HID := Lib.hid hid0
            have hmv := movZ_cases x
            generalize cs[x.s.toNat]?.getD 0 = y at *
            have hf5 := HR8.out.sem.frozen x.s.toNat
            have hl5 := HR8.out.sem.lt
            clear hin hlen8 hid0 hmay
            rcases hmv with ⟨xk, xm⟩ | ⟨xk, xm⟩ | ⟨xk, xk6, xm⟩
            · have g5 : (x.k == 5) = true := by rw [beq_iff_eq]; exact xk
              have g6 : (x.k == 6) = false := by rw [beq_eq_false_iff_ne]; omega
              by_cases hy : y = 0
              · have gy : (y == 0) = true := by rw [beq_iff_eq]; exact hy
                have hz : tryZ cs (L2.drop c) = 0 := by rw [HTR.out, if_pos ⟨xk, hy⟩]
                have HN : Hid (RIn w IM rz M B1 B4 B5 L0 L1 L2 m 3 false false m W) := .not HR8.out (fun _ => HT0.out (by omega)) (fun _ => HT1.out (by omega)) (fun _ => hz) ⟨fun h => (by cases h), fun h => absurd (h.2.2 (by omega)) HNE.out⟩
                clear hz hy xk xm HR8 HTR HGO HNE HDR HEE
                go_wp2_with fail
                go_roundw
                case rel => exact ⟨false, false, 3, m, by omega, hn, fun _ => by omega, rfl, rfl, by go_num, rfl, HN⟩
                case measure => simp [intOf]
              · have gy : (y == 0) = false := by rw [beq_eq_false_iff_ne]; exact hy
                have hz2 : tryZ cs (L2.drop c) = 2 := by rw [HTR.out, if_neg (fun h => hy h.2), if_neg (fun h => by have := h.1; omega)]
                have mw : IntKind.i64.wrap (y - 1) = y - 1 := IntWalk.i64_in _ (by omega)
                have S2 := HR8.out.sem.set x.s.toNat (.int .i64 (y - 1))
                rw [cnt_set, show y - 1 = y + -1 from rfl, ← xm, ← HGO.out] at S2
                have I2 := HR8.out.im.other (show B1 ≠ B5 by have := HW.out; omega) x.s.toNat (.int .i64 (y + movZ x))
                have A2 := HR8.out.at_.other (show B4 ≠ B5 by have := HW.out; omega) x.s.toNat (.int .i64 (y + movZ x))
                have E2 : Ext w _ := Below.setCell HR8.out.ext (p := ⟨B5, x.s.toNat, none⟩) (by show w.heap.size ≤ B5; have := HW.out; omega) (.int .i64 (y + movZ x))
                have b72 := hb7.other (Ne.symm hne5) x.s.toNat (.int .i64 (y + movZ x))
                rw [xm, show y + -1 = y - 1 from rfl] at S2 I2 A2 E2 b72
                clear xm xk hy
                go_upto_region 17 with fail
                generalize World.setCell W _ _ = W2 at *
                clear r0 r1 q0 hf5 hl5 g5 gy mw
                have r0 : World.cell? W2 ⟨B7, 0, none⟩ = some (.int .i64 x.k) := b72.cell 0
                have hA3 := A2.set 2 (.int .i64 ((c : Int) + 1))
                rw [atC_set2] at hA3
                have I3 := I2.other (show B1 ≠ B4 by have := HW.out; omega) 2 (.int .i64 ((c : Int) + 1))
                have S3 := S2.other (show B5 ≠ B4 by have := HW.out; omega) 2 (.int .i64 ((c : Int) + 1))
                have E3 : Ext w _ := Below.setCell E2 (p := ⟨B4, 2, none⟩) (by show w.heap.size ≤ B4; have := HW.out; omega) (.int .i64 ((c : Int) + 1))
                obtain ⟨HR3, hM3⟩ := HR8.out.go2 (HT0.out (by omega)) (HT1.out (by omega)) hz2 I3 hA3 S3 E3
                have HN := Lib.hid (RIn.gone (k := 3) (e := false) hM3 HR3)
                have qat : World.cell? W2 ⟨B4, 2, none⟩ = some (.int .i64 (c : Int)) := A2.cell 2
                have hf4 := A2.frozen 2
                have hl4 := A2.lt
                have mwa : IntKind.i64.wrap ((c : Int) + 1) = (c : Int) + 1 := IntWalk.i64_in _ (by omega)
                have HM3 := Lib.hid hM3
                clear hA3 I3 S3 E3 HR3 A2 I2 S2 E2 hz2 HTR HGO HDR HPL HT0 HT1 HT2 HEE HNE HR8 hM3
                go_wp2_with fail
                go_roundw
                case rel => exact ⟨true, false, 3, m + 1, by omega, HM3.out, (fun h => by cases h), rfl, rfl, by go_num, by go_num, HN⟩
                case measure => simp [intOf]
            · have g5 : (x.k == 5) = false := by rw [beq_eq_false_iff_ne]; omega
              have g6 : (x.k == 6) = true := by rw [beq_iff_eq]; exact xk
              by_cases hy : 15 ≤ y
              · have gy : decide (15 ≤ y) = true := decide_eq_true hy
                have hz1 : tryZ cs (L2.drop c) = 1 := by rw [HTR.out, if_neg (fun h => by have := h.1; omega), if_pos ⟨xk, hy⟩]
                have HZ1 := Lib.hid (HR8.out.full2 (HT0.out (by omega)) (HT1.out (by omega)) hz1)
                have HE := Lib.hid HR8.out.ext
                clear hz1 hy xk xm HR8 HTR HGO HNE HDR HEE
                go_wp2_with fail
                exact HP.out _ _ _ HZ1.out HE.out
              · have gy : decide (15 ≤ y) = false := decide_eq_false hy
                have hz2 : tryZ cs (L2.drop c) = 2 := by rw [HTR.out, if_neg (fun h => by have := h.1; omega), if_neg (fun h => hy h.2)]
                have mw : IntKind.i64.wrap (y + 1) = y + 1 := IntWalk.i64_in _ (by omega)
                have S2 := HR8.out.sem.set x.s.toNat (.int .i64 (y + movZ x))
                rw [cnt_set, ← HGO.out] at S2
                have I2 := HR8.out.im.other (show B1 ≠ B5 by have := HW.out; omega) x.s.toNat (.int .i64 (y + movZ x))
                have A2 := HR8.out.at_.other (show B4 ≠ B5 by have := HW.out; omega) x.s.toNat (.int .i64 (y + movZ x))
                have E2 : Ext w _ := Below.setCell HR8.out.ext (p := ⟨B5, x.s.toNat, none⟩) (by show w.heap.size ≤ B5; have := HW.out; omega) (.int .i64 (y + movZ x))
                rw [xm] at S2 I2 A2 E2
                clear xm xk hy
                go_upto_region 21 with fail
                generalize World.setCell W _ _ = W2 at *
                clear r0 r1 q0 hf5 hl5 g5 g6 gy mw
                have hA3 := A2.set 2 (.int .i64 ((c : Int) + 1))
                rw [atC_set2] at hA3
                have I3 := I2.other (show B1 ≠ B4 by have := HW.out; omega) 2 (.int .i64 ((c : Int) + 1))
                have S3 := S2.other (show B5 ≠ B4 by have := HW.out; omega) 2 (.int .i64 ((c : Int) + 1))
                have E3 : Ext w _ := Below.setCell E2 (p := ⟨B4, 2, none⟩) (by show w.heap.size ≤ B4; have := HW.out; omega) (.int .i64 ((c : Int) + 1))
                obtain ⟨HR3, hM3⟩ := HR8.out.go2 (HT0.out (by omega)) (HT1.out (by omega)) hz2 I3 hA3 S3 E3
                have HN := Lib.hid (RIn.gone (k := 3) (e := false) hM3 HR3)
                have qat : World.cell? W2 ⟨B4, 2, none⟩ = some (.int .i64 (c : Int)) := A2.cell 2
                have hf4 := A2.frozen 2
                have hl4 := A2.lt
                have mwa : IntKind.i64.wrap ((c : Int) + 1) = (c : Int) + 1 := IntWalk.i64_in _ (by omega)
                have HM3 := Lib.hid hM3
                clear hA3 I3 S3 E3 HR3 A2 I2 S2 E2 hz2 HTR HGO HDR HPL HT0 HT1 HT2 HEE HNE HR8 hM3
                go_wp2_with fail
                go_roundw
                case rel => exact ⟨true, false, 3, m + 1, by omega, HM3.out, (fun h => by cases h), rfl, rfl, by go_num, by go_num, HN⟩
                case measure => simp [intOf]
            · have g5 : (x.k == 5) = false := by rw [beq_eq_false_iff_ne]; exact xk
              have g6 : (x.k == 6) = false := by rw [beq_eq_false_iff_ne]; exact xk6
              have hz2 : tryZ cs (L2.drop c) = 2 := by rw [HTR.out, if_neg (fun h => xk h.1), if_neg (fun h => xk6 h.1)]
              have S2 := HR8.out.sem
              have hgo : goes cs (L2.drop c) = cs := by rw [HGO.out, xm, Int.add_zero, HID.out]
              rw [← hgo] at S2
              have I2 := HR8.out.im
              have A2 := HR8.out.at_
              have E2 := HR8.out.ext
              clear xm xk xk6 hgo q0 hf5 hl5
              have hA3 := A2.set 2 (.int .i64 ((c : Int) + 1))
              rw [atC_set2] at hA3
              have I3 := I2.other (show B1 ≠ B4 by have := HW.out; omega) 2 (.int .i64 ((c : Int) + 1))
              have S3 := S2.other (show B5 ≠ B4 by have := HW.out; omega) 2 (.int .i64 ((c : Int) + 1))
              have E3 : Ext w _ := Below.setCell E2 (p := ⟨B4, 2, none⟩) (by show w.heap.size ≤ B4; have := HW.out; omega) (.int .i64 ((c : Int) + 1))
              obtain ⟨HR3, hM3⟩ := HR8.out.go2 (HT0.out (by omega)) (HT1.out (by omega)) hz2 I3 hA3 S3 E3
              have HN := Lib.hid (RIn.gone (k := 3) (e := false) hM3 HR3)
              have qat : World.cell? W ⟨B4, 2, none⟩ = some (.int .i64 (c : Int)) := A2.cell 2
              have hf4 := A2.frozen 2
              have hl4 := A2.lt
              have mwa : IntKind.i64.wrap ((c : Int) + 1) = (c : Int) + 1 := IntWalk.i64_in _ (by omega)
              have HM3 := Lib.hid hM3
              clear hA3 I3 S3 E3 HR3 A2 I2 S2 E2 hz2 HTR HGO HDR HPL HT0 HT1 HT2 HEE HNE HR8 hM3
              go_wp2_with fail
              go_roundw
              case rel => exact ⟨true, false, 3, m + 1, by omega, HM3.out, (fun h => by cases h), rfl, rfl, by go_num, by go_num, HN⟩
              case measure => simp [intOf]
        · have HN : Hid (rz = if e = true then ((m : Int), 0) else (0, 20)) := by
            show _ = _
            rw [HR.out.is, playZ_end (HT0.out (by omega)) (HT1.out (by omega)) (HT2.out (by omega))]
            by_cases h9 : e = true
            · have h := HEE.out.1 h9
              rw [if_pos h9, if_pos ⟨h.1 (by omega), h.2.1 (by omega), h.2.2 (by omega)⟩]
            · rw [if_neg h9, if_neg (fun h => h9 (HEE.out.2 ⟨fun _ => h.1, fun _ => h.2.1, fun _ => h.2.2⟩))]
          have HE := Lib.hid HR.out.ext
          clear HEE HT0 HT1 HT2 HR
          cases e with
          | true =>
            go_wp2_with fail
            exact HP.out _ _ _ HN.out HE.out
          | false =>
            go_wp2_with fail
            exact HP.out _ _ _ HN.out HE.out

end Go.Proofs.Ytmddlhfahfelpaa
