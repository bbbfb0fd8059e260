/- The walk of image.May. -/
/- The plain law of package verify: what is told of an image's streams, semaphores and turns. -/
import Derived.Test.YtmddlhfahfelpaaNsaQ
import Derived.Test.YtmddlhfahfelpaaNsaP
import Derived.Test.YtmddlhfahfelpaaRga
set_option linter.unusedSimpArgs false
set_option linter.unusedVariables false
set_option linter.unnecessarySimpa false
namespace Go.Proofs.Ytmddlhfahfelpaa
open Go.RowKit

/-- What image.May answers. -/
def mayI (g : Gr) (pl : List Int) (L0 L1 L2 : List Isa.Cm) : Int :=
  if (valuesR g).2 ≠ 0 then (valuesR g).2 else
  if fitsB (valuesR g).1 pl = false then 1 else
  if Isa.putErr L0 ≠ 0 then Isa.putErr L0 else
  if Isa.putErr L1 ≠ 0 then Isa.putErr L1 else Isa.putErr L2
def pick3 {α : Type} (a b c : α) (j : Nat) : α := if j = 0 then a else if j = 1 then b else c

def MayP (z : Int) (w : World) (e : Ending) (w' : World) : Prop := e = .returned (.int .i64 z) ∧ Ext w w'

set_option maxRecDepth 8000 in
set_option maxHeartbeats 6400000 in
theorem imay_calls (g : Gr) (pV s0 s1 s2 : Value) (pl : List Int) (L0 L1 L2 : List Isa.Cm) (w : World) (hg : GrAt w g) (hp : Ints .i64 w pV pl) (hpk : ∀ z ∈ pl, InK .i64 z)
    (h0 : Isa.Cmds w s0 L0) (h1 : Isa.Cmds w s1 L1) (h2 : Isa.Cmds w s2 L2) :
    Calls Try.prog 19 #[.agg #[g.iV, g.nV, g.oV, pV, s0, s1, s2]] w (MayP (mayI g pl L0 L1 L2) w) := by
  have HM0 : Hid (mayI g pl L0 L1 L2 = if (valuesR g).2 ≠ 0 then (valuesR g).2 else if fitsB (valuesR g).1 pl = false then 1 else if Isa.putErr L0 ≠ 0 then Isa.putErr L0 else if Isa.putErr L1 ≠ 0 then Isa.putErr L1 else Isa.putErr L2) := rfl
  have HP : Hid (∀ e w', e = .returned (.int .i64 (mayI g pl L0 L1 L2)) → Ext w w' → MayP (mayI g pl L0 L1 L2) w e w') := fun e w' h1 h2 => ⟨h1, h2⟩
  generalize MayP (mayI g pl L0 L1 L2) w = PP at *
  have hvc := fun W (h : Ext w W) => values_calls g W (hg.ext h)
  have hb0 := Blk.new w #[g.iV, g.nV, g.oV, pV, s0, s1, s2] 30
  have hE1 := ext_alloc w (.cells #[g.iV, g.nV, g.oV, pV, s0, s1, s2] 30)
  go_enter Try.func19, Try.ntmps19
  go_upto_region 1 with fail
  generalize World.alloc w _ = w1 at *
  replace hvc := hvc _ hE1
  unfold ValsPost at hvc
  have q0 : World.cell? w1 ⟨w.heap.size, 0, none⟩ = some g.iV := hb0.cell 0
  have q1 : World.cell? w1 ⟨w.heap.size, 1, none⟩ = some g.nV := hb0.cell 1
  have q2 : World.cell? w1 ⟨w.heap.size, 2, none⟩ = some g.oV := hb0.cell 2
  by_cases hv0 : (valuesR g).2 = 0
  · have HM1 := HM0.out
    rw [if_neg (show ¬ ((valuesR g).2 ≠ 0) from fun h => h hv0)] at HM1
    go_wp2_with fail
    refine hvc.mono ?_
    rintro e w2 ⟨hA, _, hE2⟩
    obtain ⟨vV, rfl, hown⟩ := hA hv0
    have hEw := hE1.trans hE2
    replace hb0 := hb0.ext hE2
    clear q0 q1 q2 hvc hA hv0 HM0
    generalize (valuesR g).1 = vs at *
    have hvls : Vls w2 vV vs := row_of_own hown
    have heq := fun W (h : Ext w2 W) => eqVP_calls vV pV vs pl W (hvls.ext h) ((hp.ext hEw).ext h) hpk
    replace heq := heq w2 (Ext.refl _)
    have q3 : World.cell? w2 ⟨w.heap.size, 3, none⟩ = some pV := hb0.cell 3
    by_cases hf : fitsB vs pl = true
    · rw [if_neg (by rw [hf]; simp)] at HM1
      have HM := Lib.hid HM1
      rw [hf] at heq
      clear HM1 hf
      go_wp2_with fail
      refine heq.mono ?_
      rintro e w3 ⟨rfl, hE3⟩
      replace hEw := hEw.trans hE3
      replace hb0 := hb0.ext hE3
      clear q3 heq hE1 hE2 hown hvls hE3
      have q4 : World.cell? w3 ⟨w.heap.size, 4, none⟩ = some s0 := hb0.cell 4
      have q5 : World.cell? w3 ⟨w.heap.size, 5, none⟩ = some s1 := hb0.cell 5
      have q6 : World.cell? w3 ⟨w.heap.size, 6, none⟩ = some s2 := hb0.cell 6
      replace h0 := h0.below hEw (Nat.le_refl _)
      replace h1 := h1.below hEw (Nat.le_refl _)
      replace h2 := h2.below hEw (Nat.le_refl _)
      have x0 : ∀ W : World, (Instr.index 28 (.agg #[s0, s1, s2]) (.int .i64 0)).run Try.prog W = .ok s0 W := fun _ => by kernel_rfl
      have x1 : ∀ W : World, (Instr.index 28 (.agg #[s0, s1, s2]) (.int .i64 1)).run Try.prog W = .ok s1 W := fun _ => by kernel_rfl
      have x2 : ∀ W : World, (Instr.index 28 (.agg #[s0, s1, s2]) (.int .i64 2)).run Try.prog W = .ok s2 W := fun _ => by kernel_rfl
      go_wp2_with fail
      clear q4 q5 q6
      go_loopw [27] (fun i wr => ∃ k : Nat, k ≤ 3 ∧ i = .int .i64 k ∧ Hid (∀ j, j < k → Isa.putErr (pick3 L0 L1 L2 j) = 0) ∧ Ext w3 wr) (fun i _ => 3 - (intOf i).toNat)
      case atStart => exact ⟨0, by omega, rfl, (fun j hj => by omega), Ext.refl _⟩
      case round =>
        obtain ⟨k, hk, rfl, HA, hE⟩ := hrel
        rcases (by omega : k = 0 ∨ k = 1 ∨ k = 2 ∨ k = 3) with rfl | rfl | rfl | rfl
        · have hput := Isa.put_calls s0 L0 wr (h0.below hE (Nat.le_refl _))
          unfold Isa.PutPost at hput
          by_cases he : Isa.putErr L0 = 0
          · rw [he] at hput
            have HN : Hid (∀ j, j < 1 → Isa.putErr (pick3 L0 L1 L2 j) = 0) := by
              intro j hj
              rcases Nat.lt_or_ge j 0 with h | h
              · exact HA.out j h
              · obtain rfl : j = 0 := by omega
                exact he
            clear he HA
            go_wp2_with fail
            refine hput.mono ?_
            rintro e wa ⟨vb, rfl, _, hEa⟩
            have hE2 := hE.trans hEa
            clear hput hEa hE
            go_wp2_with fail
            go_roundw
            case rel => exact ⟨1, by omega, rfl, HN, hE2⟩
            case measure => simp [intOf]
          · have HV : Hid (mayI g pl L0 L1 L2 = Isa.putErr L0) := by
              show _ = _
              rw [HM.out, if_pos he]
            have hne : (Isa.putErr L0 != 0) = true := by simpa using he
            have hEr := hEw.trans hE
            clear he HA
            generalize Isa.putErr L0 = z at *
            go_wp2_with fail
            refine hput.mono ?_
            rintro e wa ⟨vb, rfl, _, hEa⟩
            have HH := Lib.hid (hEr.trans hEa)
            clear hput hEa hE hEr
            go_wp2_with fail
            exact HP.out _ _ (by rw [HV.out]; (try rfl)) HH.out
        · have hput := Isa.put_calls s1 L1 wr (h1.below hE (Nat.le_refl _))
          unfold Isa.PutPost at hput
          by_cases he : Isa.putErr L1 = 0
          · rw [he] at hput
            have HN : Hid (∀ j, j < 2 → Isa.putErr (pick3 L0 L1 L2 j) = 0) := by
              intro j hj
              rcases Nat.lt_or_ge j 1 with h | h
              · exact HA.out j h
              · obtain rfl : j = 1 := by omega
                exact he
            clear he HA
            go_wp2_with fail
            refine hput.mono ?_
            rintro e wa ⟨vb, rfl, _, hEa⟩
            have hE2 := hE.trans hEa
            clear hput hEa hE
            go_wp2_with fail
            go_roundw
            case rel => exact ⟨2, by omega, rfl, HN, hE2⟩
            case measure => simp [intOf]
          · have HV : Hid (mayI g pl L0 L1 L2 = Isa.putErr L1) := by
              show _ = _
              rw [HM.out, if_neg (show ¬ (Isa.putErr L0 ≠ 0) from fun h => h (HA.out 0 (by omega))), if_pos he]
            have hne : (Isa.putErr L1 != 0) = true := by simpa using he
            have hEr := hEw.trans hE
            clear he HA
            generalize Isa.putErr L1 = z at *
            go_wp2_with fail
            refine hput.mono ?_
            rintro e wa ⟨vb, rfl, _, hEa⟩
            have HH := Lib.hid (hEr.trans hEa)
            clear hput hEa hE hEr
            go_wp2_with fail
            exact HP.out _ _ (by rw [HV.out]; (try rfl)) HH.out
        · have hput := Isa.put_calls s2 L2 wr (h2.below hE (Nat.le_refl _))
          unfold Isa.PutPost at hput
          by_cases he : Isa.putErr L2 = 0
          · rw [he] at hput
            have HN : Hid (∀ j, j < 3 → Isa.putErr (pick3 L0 L1 L2 j) = 0) := by
              intro j hj
              rcases Nat.lt_or_ge j 2 with h | h
              · exact HA.out j h
              · obtain rfl : j = 2 := by omega
                exact he
            clear he HA
            go_wp2_with fail
            refine hput.mono ?_
            rintro e wa ⟨vb, rfl, _, hEa⟩
            have hE2 := hE.trans hEa
            clear hput hEa hE
            go_wp2_with fail
            go_roundw
            case rel => exact ⟨3, by omega, rfl, HN, hE2⟩
            case measure => simp [intOf]
          · have HV : Hid (mayI g pl L0 L1 L2 = Isa.putErr L2) := by
              show _ = _
              rw [HM.out, if_neg (show ¬ (Isa.putErr L0 ≠ 0) from fun h => h (HA.out 0 (by omega))), if_neg (show ¬ (Isa.putErr L1 ≠ 0) from fun h => h (HA.out 1 (by omega)))]
            have hne : (Isa.putErr L2 != 0) = true := by simpa using he
            have hEr := hEw.trans hE
            clear he HA
            generalize Isa.putErr L2 = z at *
            go_wp2_with fail
            refine hput.mono ?_
            rintro e wa ⟨vb, rfl, _, hEa⟩
            have HH := Lib.hid (hEr.trans hEa)
            clear hput hEa hE hEr
            go_wp2_with fail
            exact HP.out _ _ (by rw [HV.out]; (try rfl)) HH.out
        · have HV : Hid (mayI g pl L0 L1 L2 = 0) := by
            show _ = _
            rw [HM.out, if_neg (show ¬ (Isa.putErr L0 ≠ 0) from fun h => h (HA.out 0 (by omega))), if_neg (show ¬ (Isa.putErr L1 ≠ 0) from fun h => h (HA.out 1 (by omega)))]
            exact HA.out 2 (by omega)
          have HH := Lib.hid (hEw.trans hE)
          go_wp2_with fail
          exact HP.out _ _ (by rw [HV.out]; (try rfl)) HH.out
    · have hf' : fitsB vs pl = false := by simpa using hf
      rw [if_pos hf'] at HM1
      have HM := Lib.hid HM1
      rw [hf'] at heq
      clear HM1 hf hf'
      go_wp2_with fail
      refine heq.mono ?_
      rintro e w3 ⟨rfl, hE3⟩
      have HH := Lib.hid (hEw.trans hE3)
      clear heq q3
      go_wp2_with fail
      exact HP.out _ _ (by rw [HM.out]; (try rfl)) HH.out
  · have HM : Hid (mayI g pl L0 L1 L2 = (valuesR g).2) := by show _ = _; rw [HM0.out, if_pos hv0]
    have hz1 : ((valuesR g).2 != 0) = true := by simpa using hv0
    go_wp2_with fail
    refine hvc.mono ?_
    rintro e w2 ⟨_, hA, hE2⟩
    obtain rfl := hA hv0
    have HH := Lib.hid (hE1.trans hE2)
    clear hvc hA hv0 q0 q1 q2 HM0
    generalize (valuesR g).2 = z at *
    go_wp2_with fail
    exact HP.out _ _ (by rw [HM.out]; (try rfl)) HH.out

end Go.Proofs.Ytmddlhfahfelpaa

namespace Go.Proofs.Ytmddlhfahfelpaa
open Go.RowKit

/-- Does a stream end with a halt, and has no other? -/
def haltB (L : List Isa.Cm) : Bool := (L.getLast?.map (·.k) == some 7) && L.dropLast.all (fun c => c.k != 7)
/-- What is wrong with a command of an engine's stream. -/
def cmErr (g : Gr) (pl : List Int) (k : Int) (c : Isa.Cm) : Int := if 0 ≤ engineZ c ∧ engineZ c ≠ k then 27 else (ofR g pl c).2
def rowErr (g : Gr) (pl : List Int) (k : Int) : List Isa.Cm → Int
  | [] => 0
  | c :: l => if cmErr g pl k c ≠ 0 then cmErr g pl k c else rowErr g pl k l
def streamsZ (g : Gr) (pl : List Int) (A B C : List Isa.Cm) : Int :=
  if mayI g pl A B C ≠ 0 then mayI g pl A B C else
  if (haltB A && haltB B && haltB C) = false then 27 else
  if rowErr g pl 0 A ≠ 0 then rowErr g pl 0 A else
  if rowErr g pl 1 B ≠ 0 then rowErr g pl 1 B else rowErr g pl 2 C

/-- What a command adds to its semaphore. -/
def movZ (c : Isa.Cm) : Int := if c.k = 6 then 1 else if c.k = 5 then -1 else 0
def addB (cs : List Int) (c : Isa.Cm) : List Int := if 0 ≤ c.s ∧ c.s < 8 then cs.set c.s.toNat (cs[c.s.toNat]?.getD 0 + movZ c) else cs
def noughts : List Int := List.replicate 8 0
def balZ (A B C : List Isa.Cm) : List Int := (A ++ B ++ C).foldl addB noughts

/-- Can the first command of a stream go on: 0 no, 1 it counts too much, 2 it goes. -/
def tryZ (cs : List Int) : List Isa.Cm → Nat
  | [] => 0
  | c :: _ => if cs[c.s.toNat]?.getD 0 + movZ c < 0 then 0 else if 15 < cs[c.s.toNat]?.getD 0 + movZ c then 1 else 2
def goes (cs : List Int) : List Isa.Cm → List Int
  | [] => cs
  | c :: _ => cs.set c.s.toNat (cs[c.s.toNat]?.getD 0 + movZ c)
def playZ : Nat → List Int → List Isa.Cm → List Isa.Cm → List Isa.Cm → Nat → Int × Int
  | 0, _, _, _, _, _ => (0, 0)
  | f + 1, cs, A, B, C, n =>
    if tryZ cs A = 2 then playZ f (goes cs A) A.tail B C (n + 1) else if tryZ cs A = 1 then (0, 22) else
    if tryZ cs B = 2 then playZ f (goes cs B) A B.tail C (n + 1) else if tryZ cs B = 1 then (0, 22) else
    if tryZ cs C = 2 then playZ f (goes cs C) A B C.tail (n + 1) else if tryZ cs C = 1 then (0, 22) else
    if A = [] ∧ B = [] ∧ C = [] then ((n : Int), 0) else (0, 20)
def turnsZ (g : Gr) (pl : List Int) (A B C : List Isa.Cm) : Int × Int :=
  if streamsZ g pl A B C ≠ 0 then (0, 27) else playZ (A.length + B.length + C.length + 1) noughts A B C 0
def checkZ (g : Gr) (pl : List Int) (A B C : List Isa.Cm) : Int :=
  if streamsZ g pl A B C ≠ 0 then streamsZ g pl A B C else if (balZ A B C).any (· != 0) then 27 else (turnsZ g pl A B C).2

/-! Streams that may be. -/
theorem putErr_all {L : List Isa.Cm} (h : Isa.putErr L = 0) : ∀ c ∈ L, Isa.mayB c = true := by
  unfold Isa.putErr at h
  split at h
  · cases h
  · split at h
    · rename_i h2
      exact List.all_eq_true.1 h2
    · cases h
theorem mayI_all {g : Gr} {pl : List Int} {A B C : List Isa.Cm} (h : mayI g pl A B C = 0) : (∀ c ∈ A, Isa.mayB c = true) ∧ (∀ c ∈ B, Isa.mayB c = true) ∧ (∀ c ∈ C, Isa.mayB c = true) := by
  unfold mayI at h
  split at h
  · rename_i h1; exact absurd h h1
  split at h
  · cases h
  split at h
  · rename_i h1; exact absurd h h1
  rename_i h2
  split at h
  · rename_i h1; exact absurd h h1
  rename_i h3
  exact ⟨putErr_all (by simpa using h2), putErr_all (by simpa using h3), putErr_all h⟩
theorem sem_in {c : Isa.Cm} (h : Isa.mayB c = true) : 0 ≤ c.s ∧ c.s < 8 := by
  have hk := Isa.mayB_kind h
  rcases (by omega : c.k = 1 ∨ c.k = 2 ∨ c.k = 3 ∨ c.k = 4 ∨ c.k = 5 ∨ c.k = 6 ∨ c.k = 7) with k | k | k | k | k | k | k
  · have := ((Isa.mayB_load (.inl k)).1 h).2.1; omega
  · have := ((Isa.mayB_load (.inr k)).1 h).2.1; omega
  · have := ((Isa.mayB_tile k).1 h).2; omega
  · have := ((Isa.mayB_kernel k).1 h).2.1; omega
  · have := ((Isa.mayB_sem (.inl k)).1 h).1; omega
  · have := ((Isa.mayB_sem (.inr k)).1 h).1; omega
  · have := ((Isa.mayB_halt k).1 h).1; omega
theorem streamsZ_may {g : Gr} {pl : List Int} {A B C : List Isa.Cm} (h : streamsZ g pl A B C = 0) : mayI g pl A B C = 0 := by
  unfold streamsZ at h
  split at h
  · rename_i h1; exact absurd h h1
  · rename_i h1; simpa using h1

/-- What a stream's errors are, from where one stands. -/
theorem rowErr_cons (g : Gr) (pl : List Int) (k : Int) (c : Isa.Cm) (l : List Isa.Cm) : rowErr g pl k (c :: l) = if cmErr g pl k c ≠ 0 then cmErr g pl k c else rowErr g pl k l := rfl

/-! Semaphores. -/
theorem addB_len (cs : List Int) (c : Isa.Cm) : (addB cs c).length = cs.length := by
  unfold addB
  split <;> simp
theorem foldB_len (l : List Isa.Cm) : ∀ cs : List Int, (l.foldl addB cs).length = cs.length := by
  induction l with
  | nil => intro cs; rfl
  | cons c l ih => intro cs; rw [List.foldl_cons, ih, addB_len]
theorem balZ_len (A B C : List Isa.Cm) : (balZ A B C).length = 8 := by unfold balZ; rw [foldB_len]; rfl
/-- What all commands add to one semaphore. -/
def semSum (i : Nat) : List Isa.Cm → Int
  | [] => 0
  | c :: l => (if c.s = (i : Int) then movZ c else 0) + semSum i l
theorem semSum_append (i : Nat) (l m : List Isa.Cm) : semSum i (l ++ m) = semSum i l + semSum i m := by
  induction l with
  | nil => simp [semSum]
  | cons c l ih => simp only [List.cons_append, semSum, ih]; omega
theorem addB_get (cs : List Int) (c : Isa.Cm) (i : Nat) (hi : i < 8) (hl : cs.length = 8) : (addB cs c)[i]?.getD 0 = cs[i]?.getD 0 + if c.s = (i : Int) then movZ c else 0 := by
  unfold addB
  by_cases h : 0 ≤ c.s ∧ c.s < 8
  · rw [if_pos h]
    by_cases e : c.s = (i : Int)
    · have : c.s.toNat = i := by omega
      rw [if_pos e, this, List.getElem?_set_self (by omega)]
      rfl
    · rw [if_neg e, List.getElem?_set_ne (by omega)]
      omega
  · rw [if_neg h, if_neg (by omega)]
    omega
theorem foldB_get (i : Nat) (hi : i < 8) (l : List Isa.Cm) : ∀ cs : List Int, cs.length = 8 → (l.foldl addB cs)[i]?.getD 0 = cs[i]?.getD 0 + semSum i l := by
  induction l with
  | nil => intro cs _; simp [semSum]
  | cons c l ih => intro cs h; rw [List.foldl_cons, ih _ (by rw [addB_len, h]), addB_get _ _ _ hi h, semSum]; omega
theorem balZ_get (i : Nat) (hi : i < 8) (A B C : List Isa.Cm) : (balZ A B C)[i]?.getD 0 = semSum i A + semSum i B + semSum i C := by
  unfold balZ
  rw [foldB_get i hi _ _ rfl, semSum_append, semSum_append]
  have : noughts[i]?.getD 0 = 0 := by unfold noughts; rw [List.getElem?_replicate]; split <;> rfl
  omega
/-- The balance of streams one behind the other. -/
theorem balZ_both (i : Nat) (hi : i < 8) (A B C D E F : List Isa.Cm) : (balZ (A ++ D) (B ++ E) (C ++ F))[i]?.getD 0 = (balZ A B C)[i]?.getD 0 + (balZ D E F)[i]?.getD 0 := by
  rw [balZ_get i hi, balZ_get i hi, balZ_get i hi, semSum_append, semSum_append, semSum_append]
  omega
theorem semSum_abs (i : Nat) (l : List Isa.Cm) : -(l.length : Int) ≤ semSum i l ∧ semSum i l ≤ l.length := by
  induction l with
  | nil => simp [semSum]
  | cons c l ih =>
    have : -1 ≤ movZ c ∧ movZ c ≤ 1 := by unfold movZ; split <;> (try split) <;> omega
    simp only [semSum, List.length_cons]
    split <;> omega

/-! Turns. -/
theorem tryZ_two {cs : List Int} {A : List Isa.Cm} (h : tryZ cs A = 2) : ∃ c l, A = c :: l ∧ 0 ≤ cs[c.s.toNat]?.getD 0 + movZ c ∧ cs[c.s.toNat]?.getD 0 + movZ c ≤ 15 := by
  cases A with
  | nil => cases h
  | cons c l =>
    simp only [tryZ] at h
    refine ⟨c, l, rfl, ?_, ?_⟩
    · by_cases h1 : cs[c.s.toNat]?.getD 0 + movZ c < 0
      · rw [if_pos h1] at h; cases h
      · omega
    · by_cases h1 : cs[c.s.toNat]?.getD 0 + movZ c < 0
      · rw [if_pos h1] at h; cases h
      · rw [if_neg h1] at h
        by_cases h2 : 15 < cs[c.s.toNat]?.getD 0 + movZ c
        · rw [if_pos h2] at h; cases h
        · omega
/-- A play that ends well has gone through all. -/
theorem playZ_ok : ∀ (f : Nat) (cs : List Int) (A B C : List Isa.Cm) (n : Nat) (m : Int), A.length + B.length + C.length < f → playZ f cs A B C n = (m, 0) → m = ((n + (A.length + B.length + C.length) : Nat) : Int)
  | 0, _, _, _, _, _, _, hf, _ => by omega
  | f + 1, cs, A, B, C, n, m, hf, h => by
    unfold playZ at h
    split at h
    · rename_i h2
      obtain ⟨c, l, rfl, _⟩ := tryZ_two h2
      have := playZ_ok f _ _ _ _ _ _ (by simp only [List.tail_cons, List.length_cons] at hf ⊢; omega) h
      simp only [List.tail_cons, List.length_cons] at this ⊢
      omega
    split at h
    · cases h
    split at h
    · rename_i h2
      obtain ⟨c, l, rfl, _⟩ := tryZ_two h2
      have := playZ_ok f _ _ _ _ _ _ (by simp only [List.tail_cons, List.length_cons] at hf ⊢; omega) h
      simp only [List.tail_cons, List.length_cons] at this ⊢
      omega
    split at h
    · cases h
    split at h
    · rename_i h2
      obtain ⟨c, l, rfl, _⟩ := tryZ_two h2
      have := playZ_ok f _ _ _ _ _ _ (by simp only [List.tail_cons, List.length_cons] at hf ⊢; omega) h
      simp only [List.tail_cons, List.length_cons] at this ⊢
      omega
    split at h
    · cases h
    split at h
    · rename_i h3
      obtain ⟨rfl, rfl, rfl⟩ := h3
      simp only [Prod.mk.injEq, and_true] at h
      simp
      omega
    · simp at h
theorem turnsZ_ok {g : Gr} {pl : List Int} {A B C : List Isa.Cm} {m : Int} (h : turnsZ g pl A B C = (m, 0)) : streamsZ g pl A B C = 0 ∧ m = ((A.length + B.length + C.length : Nat) : Int) := by
  unfold turnsZ at h
  split at h
  · cases h
  · rename_i h1
    exact ⟨by simpa using h1, by have := playZ_ok _ _ _ _ _ _ _ (by omega) h; omega⟩
theorem turnsZ_bad {g : Gr} {pl : List Int} {A B C : List Isa.Cm} (h : streamsZ g pl A B C ≠ 0) : turnsZ g pl A B C = (0, 27) := by unfold turnsZ; rw [if_pos h]
theorem checkZ_ok {g : Gr} {pl : List Int} {A B C : List Isa.Cm} (h : checkZ g pl A B C = 0) : streamsZ g pl A B C = 0 ∧ (turnsZ g pl A B C).2 = 0 ∧ (balZ A B C).all (· == 0) = true := by
  unfold checkZ at h
  split at h
  · rename_i h1; exact absurd h h1
  rename_i h1
  split at h
  · cases h
  rename_i h2
  refine ⟨by simpa using h1, h, ?_⟩
  rw [List.all_eq_true]
  intro x hx
  simp only [List.any_eq_true, not_exists, not_and] at h2
  have := h2 x hx
  simpa using this

/-- The state of a play: eight numbers, each within its bounds; all commands may be. -/
structure PlZ (cs : List Int) (A B C : List Isa.Cm) : Prop where
  len : cs.length = 8
  low : ∀ z ∈ cs, 0 ≤ z ∧ z ≤ 15
  a : ∀ c ∈ A, Isa.mayB c = true
  b : ∀ c ∈ B, Isa.mayB c = true
  c : ∀ c ∈ C, Isa.mayB c = true
theorem noughts_low : ∀ z ∈ noughts, 0 ≤ z ∧ z ≤ 15 := by
  intro z h
  unfold noughts at h
  have := List.eq_of_mem_replicate h
  omega
theorem goes_low {cs : List Int} {A : List Isa.Cm} (h : ∀ z ∈ cs, 0 ≤ z ∧ z ≤ 15) (h2 : tryZ cs A = 2) : ∀ z ∈ goes cs A, 0 ≤ z ∧ z ≤ 15 := by
  obtain ⟨c, l, rfl, h3, h4⟩ := tryZ_two h2
  intro z hz
  rcases List.mem_or_eq_of_mem_set hz with h5 | h5
  · exact h z h5
  · omega
theorem goes_len (cs : List Int) (A : List Isa.Cm) : (goes cs A).length = cs.length := by cases A <;> simp [goes]
theorem PlZ.goA {cs : List Int} {A B C : List Isa.Cm} (h : PlZ cs A B C) (h2 : tryZ cs A = 2) : PlZ (goes cs A) A.tail B C :=
  ⟨by rw [goes_len, h.len], goes_low h.low h2, fun c hc => h.a c (List.mem_of_mem_tail hc), h.b, h.c⟩
theorem PlZ.goB {cs : List Int} {A B C : List Isa.Cm} (h : PlZ cs A B C) (h2 : tryZ cs B = 2) : PlZ (goes cs B) A B.tail C :=
  ⟨by rw [goes_len, h.len], goes_low h.low h2, h.a, fun c hc => h.b c (List.mem_of_mem_tail hc), h.c⟩
theorem PlZ.goC {cs : List Int} {A B C : List Isa.Cm} (h : PlZ cs A B C) (h2 : tryZ cs C = 2) : PlZ (goes cs C) A B C.tail :=
  ⟨by rw [goes_len, h.len], goes_low h.low h2, h.a, h.b, fun c hc => h.c c (List.mem_of_mem_tail hc)⟩

end Go.Proofs.Ytmddlhfahfelpaa
