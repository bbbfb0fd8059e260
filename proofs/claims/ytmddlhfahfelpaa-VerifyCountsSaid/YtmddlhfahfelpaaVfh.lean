/- The walk of goes of a play. -/
import Derived.Test.YtmddlhfahfelpaaVfe
import Derived.Test.YtmddlhfahfelpaaVfd
import Derived.WalkMore
set_option linter.unusedSimpArgs false
set_option linter.unusedVariables false
set_option linter.unnecessarySimpa false
namespace Go.Proofs.Ytmddlhfahfelpaa
set_option maxRecDepth 10000
open Go.RowKit

/-- The cells of a play. -/
def playC (a b c : Value) (cs : List Int) : Array Value := ([a, b, c] ++ cs.map (Value.int .i64)).toArray
theorem playC_n (a b c : Value) (cs : List Int) (i : Nat) (h : i < cs.length) : (playC a b c cs)[3 + i]? = some (.int .i64 (cs[i]?.getD 0)) := by
  unfold playC
  rw [List.getElem?_toArray, List.getElem?_append_right (by simp)]
  simp [h]
theorem playC_set0 (a b c v : Value) (cs : List Int) : (playC a b c cs).setIfInBounds 0 v = playC v b c cs := by simp [playC]
theorem playC_set1 (a b c v : Value) (cs : List Int) : (playC a b c cs).setIfInBounds 1 v = playC a v c cs := by simp [playC]
theorem playC_set2 (a b c v : Value) (cs : List Int) : (playC a b c cs).setIfInBounds 2 v = playC a b v cs := by simp [playC]
theorem playC_setn (a b c : Value) (cs : List Int) (i : Nat) (z : Int) : (playC a b c cs).setIfInBounds (3 + i) (.int .i64 z) = playC a b c (cs.set i z) := by
  have : 3 + i = i + 1 + 1 + 1 := by omega
  simp [playC, this, List.map_set]

/-- A stream without its first command. -/
def tailV (A : Option Addr) (n c : Nat) : Value := .slice (if c = 1 then A else A.map (·.add 14)) (n - 1) (c - 1)
theorem Isa.Cmds.tail {w : World} {A : Option Addr} {n k : Nat} {c : Isa.Cm} {l : List Isa.Cm} (h : Isa.Cmds w (.slice A n k) (c :: l)) : Isa.Cmds w (tailV A n k) l := by
  obtain ⟨A', k', e, h1, h2, h3, h4⟩ := h
  cases e
  simp only [List.length_cons] at h1 h3
  refine ⟨_, k - 1, by unfold tailV; rw [show (c :: l).length - 1 = l.length from rfl], by omega, by omega, Isa.ccs_len l, ?_⟩
  split
  · have : l = [] := List.eq_nil_of_length_eq_zero (by omega)
    subst this
    exact At.nil _ _
  · intro j u hj
    have h5 := h4 (14 + j) u (by rw [List.flatMap_cons, List.getElem?_append_right (by rw [show c.cs.length = 14 from rfl]; omega), show 14 + j - c.cs.length = j from by rw [show c.cs.length = 14 from rfl]; omega]; exact hj)
    obtain ⟨b, off, rfl, hc⟩ := h5
    refine ⟨b, off + 14, by simp [Addr.add], ?_⟩
    rw [← hc, Nat.add_assoc]
theorem run_tail1 (A : Option Addr) (n c : Nat) (hn : 1 ≤ n) (w : World) : (Instr.sliceAt 27 (.slice A n c) (some (.int .i64 1)) none none).run Try.prog w = .ok (tailV A n c) w := by
  have hu : Try.prog.underlying 27 = some (.slice (Try.prog.elem 27)) := by kernel_rfl
  rw [run_sliceAt_slice w _ _ _ _ _ hu, run_slice_l w _ A n c hu .i64 1 (by omega) (by omega)]
  have hz : (Go.sizeOf (Try.prog.elem 27)).run Try.prog w = .ok 14 w := by kernel_rfl
  rw [hz]
  rfl

/-- What a play does: how it goes on, and what is left. -/
def goZ (cs : List Int) (A B C : List Isa.Cm) : Bool × Int × List Int × List Isa.Cm × List Isa.Cm × List Isa.Cm :=
  if tryZ cs A = 2 then (true, 0, goes cs A, A.tail, B, C) else if tryZ cs A = 1 then (false, 22, cs, A, B, C) else
  if tryZ cs B = 2 then (true, 0, goes cs B, A, B.tail, C) else if tryZ cs B = 1 then (false, 22, cs, A, B, C) else
  if tryZ cs C = 2 then (true, 0, goes cs C, A, B, C.tail) else if tryZ cs C = 1 then (false, 22, cs, A, B, C) else (false, 0, cs, A, B, C)
def playGo (f n : Nat) (r : Bool × Int × List Int × List Isa.Cm × List Isa.Cm × List Isa.Cm) : Int × Int :=
  if r.1 = true then playZ f r.2.2.1 r.2.2.2.1 r.2.2.2.2.1 r.2.2.2.2.2 (n + 1) else if r.2.1 ≠ 0 then (0, r.2.1) else
  if r.2.2.2.1 = [] ∧ r.2.2.2.2.1 = [] ∧ r.2.2.2.2.2 = [] then ((n : Int), 0) else (0, 20)
theorem playZ_go (f : Nat) (cs : List Int) (A B C : List Isa.Cm) (n : Nat) : playZ (f + 1) cs A B C n = playGo f n (goZ cs A B C) := by
  unfold playZ goZ
  by_cases h1 : tryZ cs A = 2
  · simp only [if_pos h1]; rfl
  by_cases h2 : tryZ cs A = 1
  · simp only [if_neg h1, if_pos h2]; rfl
  by_cases h3 : tryZ cs B = 2
  · simp only [if_neg h1, if_neg h2, if_pos h3]; rfl
  by_cases h4 : tryZ cs B = 1
  · simp only [if_neg h1, if_neg h2, if_neg h3, if_pos h4]; rfl
  by_cases h5 : tryZ cs C = 2
  · simp only [if_neg h1, if_neg h2, if_neg h3, if_neg h4, if_pos h5]; rfl
  by_cases h6 : tryZ cs C = 1
  · simp only [if_neg h1, if_neg h2, if_neg h3, if_neg h4, if_neg h5, if_pos h6]; rfl
  simp only [if_neg h1, if_neg h2, if_neg h3, if_neg h4, if_neg h5, if_neg h6]; rfl
theorem goZ_pl {cs : List Int} {A B C : List Isa.Cm} (h : PlZ cs A B C) {q : Bool} {z : Int} {cs' : List Int} {A' B' C' : List Isa.Cm} (e : goZ cs A B C = (q, z, cs', A', B', C')) :
    PlZ cs' A' B' C' ∧ (q = true → z = 0 ∧ A.length + B.length + C.length = A'.length + B'.length + C'.length + 1) ∧ (q = false → cs' = cs ∧ A' = A ∧ B' = B ∧ C' = C) := by
  have tl : ∀ {D : List Isa.Cm}, tryZ cs D = 2 → D.length = D.tail.length + 1 := by
    intro D hD
    obtain ⟨c, l, rfl, _⟩ := tryZ_two hD
    rfl
  unfold goZ at e
  split at e
  · rename_i h1
    cases e
    exact ⟨h.goA h1, fun _ => ⟨rfl, by rw [tl h1]; omega⟩, fun h => by cases h⟩
  split at e
  · cases e
    exact ⟨h, fun h => (by cases h), fun _ => ⟨rfl, rfl, rfl, rfl⟩⟩
  split at e
  · rename_i h1
    cases e
    exact ⟨h.goB h1, fun _ => ⟨rfl, by rw [tl h1]; omega⟩, fun h => by cases h⟩
  split at e
  · cases e
    exact ⟨h, fun h => (by cases h), fun _ => ⟨rfl, rfl, rfl, rfl⟩⟩
  split at e
  · rename_i h1
    cases e
    exact ⟨h.goC h1, fun _ => ⟨rfl, by rw [tl h1]; omega⟩, fun h => by cases h⟩
  split at e
  · cases e
    exact ⟨h, fun h => (by cases h), fun _ => ⟨rfl, rfl, rfl, rfl⟩⟩
  cases e
  exact ⟨h, fun h => (by cases h), fun _ => ⟨rfl, rfl, rfl, rfl⟩⟩

def GoesP (w0 : World) (B0 : Nat) (r : Bool × Int × List Int × List Isa.Cm × List Isa.Cm × List Isa.Cm) (e : Ending) (w' : World) : Prop :=
  ∃ a b c, e = .returned (.tuple #[.bool r.1, .int .i64 r.2.1]) ∧ Blk w' B0 (playC a b c r.2.2.1) 55 ∧ Isa.Cmds w0 a r.2.2.2.1 ∧ Isa.Cmds w0 b r.2.2.2.2.1 ∧ Isa.Cmds w0 c r.2.2.2.2.2 ∧ Ext w0 w'

set_option maxRecDepth 20000 in
set_option maxHeartbeats 6400000 in
theorem goes_calls (w0 w : World) (B0 : Nat) (s0 s1 s2 : Value) (cs : List Int) (L0 L1 L2 : List Isa.Cm) (hB : Blk w B0 (playC s0 s1 s2 cs) 55) (hE : Ext w0 w) (hlt : w0.heap.size ≤ B0)
    (h0 : Isa.Cmds w0 s0 L0) (h1 : Isa.Cmds w0 s1 L1) (h2 : Isa.Cmds w0 s2 L2) (hp : PlZ cs L0 L1 L2) :
    Calls Try.prog 16 #[.pointer (some ⟨B0, 0, none⟩)] w (GoesP w0 B0 (goZ cs L0 L1 L2)) := by
  have HP : Hid (∀ (q : Bool) (z : Int) cs' A' B' C' a b c w', goZ cs L0 L1 L2 = (q, z, cs', A', B', C') → Blk w' B0 (playC a b c cs') 55 → Isa.Cmds w0 a A' → Isa.Cmds w0 b B' → Isa.Cmds w0 c C' → Ext w0 w' → GoesP w0 B0 (goZ cs L0 L1 L2) (.returned (.tuple #[.bool q, .int .i64 z])) w') :=
    fun q z cs' A' B' C' a b c w' e k1 k2 k3 k4 k5 => ⟨a, b, c, by rw [e], by rw [e]; exact k1, by rw [e]; exact k2, by rw [e]; exact k3, by rw [e]; exact k4, k5⟩
  have HG : Hid (goZ cs L0 L1 L2 = if tryZ cs L0 = 2 then (true, 0, goes cs L0, L0.tail, L1, L2) else if tryZ cs L0 = 1 then (false, 22, cs, L0, L1, L2) else
    if tryZ cs L1 = 2 then (true, 0, goes cs L1, L0, L1.tail, L2) else if tryZ cs L1 = 1 then (false, 22, cs, L0, L1, L2) else
    if tryZ cs L2 = 2 then (true, 0, goes cs L2, L0, L1, L2.tail) else if tryZ cs L2 = 1 then (false, 22, cs, L0, L1, L2) else (false, 0, cs, L0, L1, L2)) := rfl
  generalize goZ cs L0 L1 L2 = gz at *
  generalize GoesP w0 B0 gz = PP at *
  obtain ⟨A0, d0, e0, m0, n0, _⟩ := id h0.form
  obtain ⟨A1, d1, e1, m1, n1, _⟩ := id h1.form
  obtain ⟨A2, d2, e2, m2, n2, _⟩ := id h2.form
  unfold maxLen at n0 n1 n2
  subst e0 e1 e2
  have HC0 := Lib.hid h0
  have HC1 := Lib.hid h1
  have HC2 := Lib.hid h2
  have HL := Lib.hid hp.len
  have HPZ := Lib.hid hp
  have HE := Lib.hid hE
  clear h0 h1 h2 hp hE
  have y0 : World.cell? w ⟨B0, 0, none⟩ = some (.slice A0 L0.length d0) := hB.cell 0
  have y1 : World.cell? w ⟨B0, 1, none⟩ = some (.slice A1 L1.length d1) := hB.cell 1
  have y2 : World.cell? w ⟨B0, 2, none⟩ = some (.slice A2 L2.length d2) := hB.cell 2
  have x0 : ∀ W : World, (Instr.index 28 (.agg #[.slice A0 L0.length d0, .slice A1 L1.length d1, .slice A2 L2.length d2]) (.int .i64 0)).run Try.prog W = .ok (.slice A0 L0.length d0) W := fun _ => by kernel_rfl
  have x1 : ∀ W : World, (Instr.index 28 (.agg #[.slice A0 L0.length d0, .slice A1 L1.length d1, .slice A2 L2.length d2]) (.int .i64 1)).run Try.prog W = .ok (.slice A1 L1.length d1) W := fun _ => by kernel_rfl
  have x2 : ∀ W : World, (Instr.index 28 (.agg #[.slice A0 L0.length d0, .slice A1 L1.length d1, .slice A2 L2.length d2]) (.int .i64 2)).run Try.prog W = .ok (.slice A2 L2.length d2) W := fun _ => by kernel_rfl
  go_enter Try.func16, Try.ntmps16
  go_wp2_with fail
  go_step3
  go_wp2_with fail
  go_step3
  go_wp2_with fail
  clear y0 y1 y2
  go_loopw [12] (fun i wr => ∃ k : Nat, k ≤ 3 ∧ i = .int .i64 k ∧ Hid ((0 < k → tryZ cs L0 = 0) ∧ (1 < k → tryZ cs L1 = 0) ∧ (2 < k → tryZ cs L2 = 0)) ∧ Blk wr B0 (playC (.slice A0 L0.length d0) (.slice A1 L1.length d1) (.slice A2 L2.length d2) cs) 55 ∧ Hid (Ext w wr)) (fun i _ => 3 - (intOf i).toNat)
  case atStart => exact ⟨0, by omega, rfl, ⟨fun h => by omega, fun h => by omega, fun h => by omega⟩, hB, Ext.refl _⟩
  case round =>
    clear hB
    obtain ⟨k, hk, rfl, HT, hB, HX⟩ := hrel
    rcases (by omega : k = 0 ∨ k = 1 ∨ k = 2 ∨ k = 3) with rfl | rfl | rfl | rfl
    · rw [show ((0 : Nat) : Int) = 0 from rfl]
      have HG2 : Hid (tryZ cs L0 = 2 → gz = (true, 0, goes cs L0, L0.tail, L1, L2)) := by
        show _ → _
        intro hz
        have HG1 := HG.out
        rw [if_pos hz] at HG1
        exact HG1
      have HG3 : Hid (tryZ cs L0 = 1 → gz = (false, 22, cs, L0, L1, L2)) := by
        show _ → _
        intro hz
        have HG1 := HG.out
        rw [if_neg (by rw [hz]; decide), if_pos hz] at HG1
        exact HG1
      have HN : Hid (tryZ cs L0 = 0 → (0 < 1 → tryZ cs L0 = 0) ∧ (1 < 1 → tryZ cs L1 = 0) ∧ (2 < 1 → tryZ cs L2 = 0)) := by
        show _ → _
        intro hz0
        exact ⟨fun _ => hz0, fun h => absurd h (by omega), fun h => absurd h (by omega)⟩
      clear HT
      by_cases hne : 0 < L0.length
      case neg =>
        have hnil : L0 = [] := List.eq_nil_of_length_eq_zero (by omega)
        have hl0 : ((L0.length : Int) == 0) = true := by rw [hnil]; rfl
        have HN1 := Lib.hid (HN.out (by rw [hnil]; rfl))
        clear HN HG2 HG3 hne hnil
        go_wp2_with fail
        go_roundw
        case rel => exact ⟨1, by omega, rfl, HN1, hB, HX⟩
        case measure => simp [intOf]
      have hl0 : ((L0.length : Int) == 0) = false := by rw [beq_eq_false_iff_ne]; omega
      obtain ⟨c, l, hcl⟩ : ∃ c l, L0 = c :: l := by
        cases hx : L0 with
        | nil => rw [hx] at hne; exact absurd hne (by decide)
        | cons c l => exact ⟨c, l, rfl⟩
      have HCL := Lib.hid hcl
      have HTR := Lib.hid (show tryZ cs (c :: l) = if cs[c.s.toNat]?.getD 0 + movZ c < 0 then 0 else if 15 < cs[c.s.toNat]?.getD 0 + movZ c then 1 else 2 from rfl)
      rw [← HCL.out] at HTR
      have hin := sem_in (HPZ.out.a c (by rw [HCL.out]; simp))
      obtain ⟨_, _, e9, _, _, hcf⟩ := (HC0.out.below (HE.out.trans HX.out) (Nat.le_refl _)).form
      cases e9
      obtain ⟨b, off, hA, _, c0, c1, c2, c3, c4, c5, c6, c7, c8, c9, c10, c11, c12, c13⟩ := hcf 0 c (by rw [HCL.out]; rfl)
      rw [Nat.zero_mul, Nat.add_zero] at c0 c1 c2 c3 c4 c5 c6 c7 c8 c9 c10 c11 c12 c13
      subst hA
      have HTL : Hid (Isa.Cmds w0 (tailV (some ⟨b, off, none⟩) L0.length d0) L0.tail) := by
        have h9 := HC0.out
        show Isa.Cmds _ _ _
        obtain ⟨L', hL'⟩ : ∃ L', L0 = L' := ⟨_, rfl⟩
        rw [hL'] at h9 hcl ⊢
        subst hcl
        exact h9.tail
      have hsl := fun W => run_tail1 (some ⟨b, off, none⟩) L0.length d0 (by omega) W
      obtain ⟨tA, tn, tc, htv⟩ : ∃ A n c, tailV (some ⟨b, off, none⟩) L0.length d0 = .slice A n c := ⟨_, _, _, rfl⟩
      rw [htv] at HTL hsl
      clear htv
      have HSL := Lib.hid hsl
      clear hcf hcl hsl
      have hz7 := Blk.new wr #[.int .i64 0, .int .i64 0, .int .i64 0, .int .i64 0, .int .i64 0, .int .i64 0, .int .i64 0, .int .i64 0, .int .i64 0, .int .i64 0, .int .i64 0, .int .i64 0, .int .i64 0, .int .i64 0] 47
      have hb7 : Blk ((wr.alloc (.cells #[.int .i64 0, .int .i64 0, .int .i64 0, .int .i64 0, .int .i64 0, .int .i64 0, .int .i64 0, .int .i64 0, .int .i64 0, .int .i64 0, .int .i64 0, .int .i64 0, .int .i64 0, .int .i64 0] 47)).setRow wr.heap.size #[.int .i64 c.k, .int .i64 c.s, .int .i64 c.n, .int .i64 c.f, .int .i64 c.r, .int .i64 c.o, .int .i64 c.d, .int .i64 c.p, .int .i64 c.i0, .int .i64 c.i1, .int .i64 c.b0, .int .i64 c.b1, .int .i64 c.h0, .int .i64 c.h1]) wr.heap.size #[.int .i64 c.k, .int .i64 c.s, .int .i64 c.n, .int .i64 c.f, .int .i64 c.r, .int .i64 c.o, .int .i64 c.d, .int .i64 c.p, .int .i64 c.i0, .int .i64 c.i1, .int .i64 c.b0, .int .i64 c.b1, .int .i64 c.h0, .int .i64 c.h1] 47 := setRow_heap _ _ _ _ _ _ hz7
      have hQ : Ext wr ((wr.alloc (.cells #[.int .i64 0, .int .i64 0, .int .i64 0, .int .i64 0, .int .i64 0, .int .i64 0, .int .i64 0, .int .i64 0, .int .i64 0, .int .i64 0, .int .i64 0, .int .i64 0, .int .i64 0, .int .i64 0] 47)).setRow wr.heap.size #[.int .i64 c.k, .int .i64 c.s, .int .i64 c.n, .int .i64 c.f, .int .i64 c.r, .int .i64 c.o, .int .i64 c.d, .int .i64 c.p, .int .i64 c.i0, .int .i64 c.i1, .int .i64 c.b0, .int .i64 c.b1, .int .i64 c.h0, .int .i64 c.h1]) := ext_setRow (ext_alloc _ _) _ (Nat.le_refl _)
      have hneB : B0 ≠ wr.heap.size := by have := hB.lt; omega
      go_upto_region 6 with (refine wpList_store_row rfl 47 _ _ rfl wr.heap.size #[.int .i64 c.k, .int .i64 c.s, .int .i64 c.n, .int .i64 c.f, .int .i64 c.r, .int .i64 c.o, .int .i64 c.d, .int .i64 c.p, .int .i64 c.i0, .int .i64 c.i1, .int .i64 c.b0, .int .i64 c.b1, .int .i64 c.h0, .int .i64 c.h1] rfl rfl 47 _ hz7 (by kernel_rfl) rfl (by simp [Value.oneCell']) ?_)
      clear c0 c1 c2 c3 c4 c5 c6 c7 c8 c9 c10 c11 c12 c13 hz7
      replace hB := hB.ext hQ
      have HX5 := Lib.hid (HX.out.trans hQ)
      clear hQ HX
      generalize World.setRow (wr.alloc _) _ _ = w5 at *
      generalize wr.heap.size = b7 at *
      have hi1 := hin.1
      have hi2 := hin.2
      have hlen := HL.out
      have q0 : World.cell? w5 ⟨B0, 3 + c.s.toNat, none⟩ = some (.int .i64 (cs[c.s.toNat]?.getD 0)) := by rw [hB.cell]; exact playC_n _ _ _ cs _ (by omega)
      have HQX : Hid ((playC (.slice (some ⟨b, off, none⟩) L0.length d0) (.slice A1 L1.length d1) (.slice A2 L2.length d2) cs)[3 + c.s.toNat]? = some (.int .i64 (cs[c.s.toNat]?.getD 0))) := playC_n _ _ _ cs _ (by omega)
      have hlow := low_at HPZ.out.low c.s.toNat
      have hmc := fun W => moves_calls c W
      have hmv : -1 ≤ movZ c ∧ movZ c ≤ 1 := by unfold movZ; split <;> (try split) <;> omega
      have HGO : Hid (goes cs L0 = cs.set c.s.toNat (cs[c.s.toNat]?.getD 0 + movZ c)) := by show _ = _; rw [HCL.out]; rfl
      generalize cs[c.s.toNat]?.getD 0 = x at *
      generalize movZ c = mv at *
      have mw : IntKind.i64.wrap (x + mv) = x + mv := IntWalk.i64_in _ (by omega)
      clear hin hlen
      have K0 : Keeps [B0, b7] w5 w5.drew := Keeps.drew _ _
      have q : ∀ W, Keeps [B0, b7] w5 W → World.cell? W ⟨B0, 3 + c.s.toNat, none⟩ = some (.int .i64 x) := fun W hW => (hW.cell (by simp)).trans q0
      have r0 : ∀ W, Keeps [B0, b7] w5 W → World.cell? W ⟨b7, 0, none⟩ = some (.int .i64 c.k) := fun W hW => (hW.cell (by simp)).trans (hb7.cell 0)
      have r1 : ∀ W, Keeps [B0, b7] w5 W → World.cell? W ⟨b7, 1, none⟩ = some (.int .i64 c.s) := fun W hW => (hW.cell (by simp)).trans (hb7.cell 1)
      have r2 : ∀ W, Keeps [B0, b7] w5 W → World.cell? W ⟨b7, 2, none⟩ = some (.int .i64 c.n) := fun W hW => (hW.cell (by simp)).trans (hb7.cell 2)
      have r3 : ∀ W, Keeps [B0, b7] w5 W → World.cell? W ⟨b7, 3, none⟩ = some (.int .i64 c.f) := fun W hW => (hW.cell (by simp)).trans (hb7.cell 3)
      have r4 : ∀ W, Keeps [B0, b7] w5 W → World.cell? W ⟨b7, 4, none⟩ = some (.int .i64 c.r) := fun W hW => (hW.cell (by simp)).trans (hb7.cell 4)
      have r5 : ∀ W, Keeps [B0, b7] w5 W → World.cell? W ⟨b7, 5, none⟩ = some (.int .i64 c.o) := fun W hW => (hW.cell (by simp)).trans (hb7.cell 5)
      have r6 : ∀ W, Keeps [B0, b7] w5 W → World.cell? W ⟨b7, 6, none⟩ = some (.int .i64 c.d) := fun W hW => (hW.cell (by simp)).trans (hb7.cell 6)
      have r7 : ∀ W, Keeps [B0, b7] w5 W → World.cell? W ⟨b7, 7, none⟩ = some (.int .i64 c.p) := fun W hW => (hW.cell (by simp)).trans (hb7.cell 7)
      have r8 : ∀ W, Keeps [B0, b7] w5 W → World.cell? W ⟨b7, 8, none⟩ = some (.int .i64 c.i0) := fun W hW => (hW.cell (by simp)).trans (hb7.cell 8)
      have r9 : ∀ W, Keeps [B0, b7] w5 W → World.cell? W ⟨b7, 9, none⟩ = some (.int .i64 c.i1) := fun W hW => (hW.cell (by simp)).trans (hb7.cell 9)
      have r10 : ∀ W, Keeps [B0, b7] w5 W → World.cell? W ⟨b7, 10, none⟩ = some (.int .i64 c.b0) := fun W hW => (hW.cell (by simp)).trans (hb7.cell 10)
      have r11 : ∀ W, Keeps [B0, b7] w5 W → World.cell? W ⟨b7, 11, none⟩ = some (.int .i64 c.b1) := fun W hW => (hW.cell (by simp)).trans (hb7.cell 11)
      have r12 : ∀ W, Keeps [B0, b7] w5 W → World.cell? W ⟨b7, 12, none⟩ = some (.int .i64 c.h0) := fun W hW => (hW.cell (by simp)).trans (hb7.cell 12)
      have r13 : ∀ W, Keeps [B0, b7] w5 W → World.cell? W ⟨b7, 13, none⟩ = some (.int .i64 c.h1) := fun W hW => (hW.cell (by simp)).trans (hb7.cell 13)
      have hb7l := hb7.lt
      have hBl := hB.lt
      refine wp_region_S (Keeps [B0, b7] w5) [(0, true), (1, true), (2, true), (3, true), (4, true), (5, true), (6, true), (7, true), (8, false), (9, true), (10, true)] (by kernel_rfl) (by kernel_rfl) (fun _ _ d _ _ h => by cases d <;> exact h) K0 ?_
      simp only [pickE, List.getElem?_cons_zero, List.getElem?_cons_succ]
      repeat (refine wpF_pure (by rfl) (fun W hW => by go_simp; with_reducible rfl) ?_; simp only [Act.put, List.setIfInBounds_toArray, List.set_cons_zero, List.set_cons_succ])
      obtain ⟨wd, hwd⟩ : ∃ W, w5.drew = W := ⟨_, rfl⟩
      have hEd : Ext w5 wd := by rw [← hwd]; exact Ext.drew w5
      rw [hwd] at K0 ⊢
      clear hwd
      refine wpF_step (by rfl) (fun K hK => ?_)
      go_simp
      refine (hmc wd).mono ?_
      rintro e w6 ⟨rfl, hE6⟩
      have hE6 : Ext wd w6 := hE6
      have K1 : Keeps [B0, b7] w5 w6 := K0.trans (Keeps.below hE6 (fun q hq => by simp at hq; rcases hq with rfl | rfl <;> exact Nat.lt_of_lt_of_le (by assumption) K0.1))
      refine hK _ _ K1 ?_
      clear hK K hmc
      try simp only [Act.put, List.setIfInBounds_toArray, List.set_cons_zero, List.set_cons_succ]
      repeat (refine wpF_pure (by rfl) (fun W hW => by go_simp; with_reducible rfl) ?_; simp only [Act.put, List.setIfInBounds_toArray, List.set_cons_zero, List.set_cons_succ])
      refine wpF_nil ?_
      have hEt := hEd.trans hE6
      replace hB := hB.ext hEt
      replace hb7 := hb7.ext hEt
      have HX6 := Lib.hid (HX5.out.trans hEt)
      clear q r0 r1 r2 r3 r4 r5 r6 r7 r8 r9 r10 r11 r12 r13 K0 K1 hE6 hEd hEt q0 HX5
      by_cases hx1 : x + mv < 0
      · have g1 : decide (x + mv < 0) = true := decide_eq_true hx1
        have HN1 := Lib.hid (HN.out (by rw [HTR.out, if_pos hx1]))
        clear HN HG2 HG3 HTR hx1 mw
        generalize x + mv = y at *
        go_wp2_with fail
        go_roundw
        case rel => exact ⟨1, by omega, rfl, HN1, hB, HX6⟩
        case measure => simp [intOf]
      have g1 : decide (x + mv < 0) = false := decide_eq_false hx1
      by_cases hx2 : 15 < x + mv
      · have g2 : decide (15 < x + mv) = true := decide_eq_true hx2
        have HZ := Lib.hid (HG3.out (by rw [HTR.out, if_neg hx1, if_pos hx2]))
        clear HN HG2 HG3 HTR hx1 hx2 mw
        generalize x + mv = y at *
        go_wp2_with fail
        exact HP.out _ _ _ _ _ _ _ _ _ _ HZ.out hB HC0.out HC1.out HC2.out (HE.out.trans HX6.out)
      have g2 : decide (15 < x + mv) = false := decide_eq_false hx2
      have HZ := Lib.hid (HG2.out (by rw [HTR.out, if_neg hx1, if_neg hx2]))
      rw [HGO.out] at HZ
      clear HN HG2 HG3 HTR hx1 hx2 mw HGO hlow hmv
      generalize x + mv = y at *
      go_upto_region 7 with fail
      have K0 : Keeps [b7] w6 w6.drew := Keeps.drew _ _
      have hb7k := hb7.ext (Ext.drew w6)
      have r1 : ∀ W, Keeps [b7] w6 W → World.cell? W ⟨b7, 1, none⟩ = some (.int .i64 c.s) := fun W hW => (hW.cell (by simp)).trans (hb7.cell 1)
      refine wp_region_S (Keeps [b7] w6) [(0, true), (1, true), (2, true), (3, true), (4, true), (5, true), (6, true), (7, false)] (by kernel_rfl) (by kernel_rfl) (fun _ _ d _ _ h => by cases d <;> exact h) K0 ?_
      simp only [pickE, List.getElem?_cons_zero, List.getElem?_cons_succ]
      repeat (refine wpF_pure (by rfl) (fun W hW => by go_simp; with_reducible rfl) ?_; simp only [Act.put, List.setIfInBounds_toArray, List.set_cons_zero, List.set_cons_succ])
      have HX7 := Lib.hid (HX6.out.trans (Ext.drew w6))
      replace hB := hB.ext (Ext.drew w6)
      generalize w6.drew = w7 at *
      have K9 : Keeps [b7] w6 (w7.setCell ⟨B0, 3 + c.s.toNat, none⟩ (.int .i64 y)) := K0.trans (Keeps.grown (setCell_grown w7 B0 _ _) (fun q hq => by simp at hq; subst hq; exact ⟨hb7k.lt, by simpa using Ne.symm hneB⟩))
      have hf6 := hB.frozen (3 + c.s.toNat)
      have hq6 : World.cell? w7 ⟨B0, 3 + c.s.toNat, none⟩ = some (.int .i64 x) := (hB.cell _).trans HQX.out
      have hl6 := hB.lt
      have hB8 := hB.set (3 + c.s.toNat) (.int .i64 y)
      rw [playC_setn] at hB8
      have hE8 := Below.setCell (HE.out.trans HX7.out) (p := ⟨B0, 3 + c.s.toNat, none⟩) (by show w0.heap.size ≤ B0; exact hlt) (.int .i64 y)
      refine wpF_step (by rfl) (fun K hK => ?_)
      go_simp
      refine hK _ _ K9 ?_
      clear hK K hq6 hf6 hl6 K0 r1 hB HX7 K9 hb7k
      try simp only [Act.put, List.setIfInBounds_toArray, List.set_cons_zero, List.set_cons_succ]
      refine wpF_nil ?_
      generalize World.setCell w7 _ _ = w8 at *
      replace hE8 : Ext w0 w8 := hE8
      go_upto_region 11 with fail
      have hsl := HSL.out
      refine wp_region_S (fun _ => True) [(0, true), (1, true), (2, true), (3, true), (4, true), (5, true), (6, true), (7, false)] (by kernel_rfl) (by kernel_rfl) (fun _ _ d _ _ h => by cases d <;> exact h) trivial ?_
      simp only [pickE, List.getElem?_cons_zero, List.getElem?_cons_succ]
      repeat (refine wpF_pure (by rfl) (fun W hW => by go_simp; with_reducible rfl) ?_; simp only [Act.put, List.setIfInBounds_toArray, List.set_cons_zero, List.set_cons_succ])
      have hE9 := hE8.trans (Ext.drew w8)
      replace hB8 := hB8.ext (Ext.drew w8)
      generalize w8.drew = w9 at *
      have hfk := hB8.frozen 0
      have hlk := hB8.lt
      have hqk : World.cell? w9 ⟨B0, 0, none⟩ = some (.slice (some ⟨b, off, none⟩) L0.length d0) := hB8.cell 0
      have hB10 := hB8.set 0 (.slice tA tn tc)
      rw [playC_set0] at hB10
      have hE10 := Below.setCell hE9 (p := ⟨B0, 0, none⟩) (by show w0.heap.size ≤ B0; exact hlt) (.slice tA tn tc)
      have HF := Lib.hid (HP.out _ _ _ _ _ _ _ _ _ _ HZ.out hB10 HTL.out HC1.out HC2.out hE10)
      refine wpF_step (by rfl) (fun K hK => ?_)
      go_simp
      refine hK _ _ trivial ?_
      clear hK K hfk hlk hqk hB8 hB10 hE9 hE10 hE8
      try simp only [Act.put, List.setIfInBounds_toArray, List.set_cons_zero, List.set_cons_succ]
      refine wpF_nil ?_
      go_wp2_with fail
      exact HF.out
    · rw [show ((1 : Nat) : Int) = 1 from rfl]
      have HG2 : Hid (tryZ cs L1 = 2 → gz = (true, 0, goes cs L1, L0, L1.tail, L2)) := by
        show _ → _
        intro hz
        have HG1 := HG.out
        rw [if_neg (by rw [HT.out.1 (by omega)]; decide), if_neg (by rw [HT.out.1 (by omega)]; decide)] at HG1
        rw [if_pos hz] at HG1
        exact HG1
      have HG3 : Hid (tryZ cs L1 = 1 → gz = (false, 22, cs, L0, L1, L2)) := by
        show _ → _
        intro hz
        have HG1 := HG.out
        rw [if_neg (by rw [HT.out.1 (by omega)]; decide), if_neg (by rw [HT.out.1 (by omega)]; decide)] at HG1
        rw [if_neg (by rw [hz]; decide), if_pos hz] at HG1
        exact HG1
      have HN : Hid (tryZ cs L1 = 0 → (0 < 2 → tryZ cs L0 = 0) ∧ (1 < 2 → tryZ cs L1 = 0) ∧ (2 < 2 → tryZ cs L2 = 0)) := by
        show _ → _
        intro hz0
        exact ⟨fun _ => HT.out.1 (by omega), fun _ => hz0, fun h => absurd h (by omega)⟩
      clear HT
      by_cases hne : 0 < L1.length
      case neg =>
        have hnil : L1 = [] := List.eq_nil_of_length_eq_zero (by omega)
        have hl0 : ((L1.length : Int) == 0) = true := by rw [hnil]; rfl
        have HN1 := Lib.hid (HN.out (by rw [hnil]; rfl))
        clear HN HG2 HG3 hne hnil
        go_wp2_with fail
        go_roundw
        case rel => exact ⟨2, by omega, rfl, HN1, hB, HX⟩
        case measure => simp [intOf]
      have hl0 : ((L1.length : Int) == 0) = false := by rw [beq_eq_false_iff_ne]; omega
      obtain ⟨c, l, hcl⟩ : ∃ c l, L1 = c :: l := by
        cases hx : L1 with
        | nil => rw [hx] at hne; exact absurd hne (by decide)
        | cons c l => exact ⟨c, l, rfl⟩
      have HCL := Lib.hid hcl
      have HTR := Lib.hid (show tryZ cs (c :: l) = if cs[c.s.toNat]?.getD 0 + movZ c < 0 then 0 else if 15 < cs[c.s.toNat]?.getD 0 + movZ c then 1 else 2 from rfl)
      rw [← HCL.out] at HTR
      have hin := sem_in (HPZ.out.b c (by rw [HCL.out]; simp))
      obtain ⟨_, _, e9, _, _, hcf⟩ := (HC1.out.below (HE.out.trans HX.out) (Nat.le_refl _)).form
      cases e9
      obtain ⟨b, off, hA, _, c0, c1, c2, c3, c4, c5, c6, c7, c8, c9, c10, c11, c12, c13⟩ := hcf 0 c (by rw [HCL.out]; rfl)
      rw [Nat.zero_mul, Nat.add_zero] at c0 c1 c2 c3 c4 c5 c6 c7 c8 c9 c10 c11 c12 c13
      subst hA
      have HTL : Hid (Isa.Cmds w0 (tailV (some ⟨b, off, none⟩) L1.length d1) L1.tail) := by
        have h9 := HC1.out
        show Isa.Cmds _ _ _
        obtain ⟨L', hL'⟩ : ∃ L', L1 = L' := ⟨_, rfl⟩
        rw [hL'] at h9 hcl ⊢
        subst hcl
        exact h9.tail
      have hsl := fun W => run_tail1 (some ⟨b, off, none⟩) L1.length d1 (by omega) W
      obtain ⟨tA, tn, tc, htv⟩ : ∃ A n c, tailV (some ⟨b, off, none⟩) L1.length d1 = .slice A n c := ⟨_, _, _, rfl⟩
      rw [htv] at HTL hsl
      clear htv
      have HSL := Lib.hid hsl
      clear hcf hcl hsl
      have hz7 := Blk.new wr #[.int .i64 0, .int .i64 0, .int .i64 0, .int .i64 0, .int .i64 0, .int .i64 0, .int .i64 0, .int .i64 0, .int .i64 0, .int .i64 0, .int .i64 0, .int .i64 0, .int .i64 0, .int .i64 0] 47
      have hb7 : Blk ((wr.alloc (.cells #[.int .i64 0, .int .i64 0, .int .i64 0, .int .i64 0, .int .i64 0, .int .i64 0, .int .i64 0, .int .i64 0, .int .i64 0, .int .i64 0, .int .i64 0, .int .i64 0, .int .i64 0, .int .i64 0] 47)).setRow wr.heap.size #[.int .i64 c.k, .int .i64 c.s, .int .i64 c.n, .int .i64 c.f, .int .i64 c.r, .int .i64 c.o, .int .i64 c.d, .int .i64 c.p, .int .i64 c.i0, .int .i64 c.i1, .int .i64 c.b0, .int .i64 c.b1, .int .i64 c.h0, .int .i64 c.h1]) wr.heap.size #[.int .i64 c.k, .int .i64 c.s, .int .i64 c.n, .int .i64 c.f, .int .i64 c.r, .int .i64 c.o, .int .i64 c.d, .int .i64 c.p, .int .i64 c.i0, .int .i64 c.i1, .int .i64 c.b0, .int .i64 c.b1, .int .i64 c.h0, .int .i64 c.h1] 47 := setRow_heap _ _ _ _ _ _ hz7
      have hQ : Ext wr ((wr.alloc (.cells #[.int .i64 0, .int .i64 0, .int .i64 0, .int .i64 0, .int .i64 0, .int .i64 0, .int .i64 0, .int .i64 0, .int .i64 0, .int .i64 0, .int .i64 0, .int .i64 0, .int .i64 0, .int .i64 0] 47)).setRow wr.heap.size #[.int .i64 c.k, .int .i64 c.s, .int .i64 c.n, .int .i64 c.f, .int .i64 c.r, .int .i64 c.o, .int .i64 c.d, .int .i64 c.p, .int .i64 c.i0, .int .i64 c.i1, .int .i64 c.b0, .int .i64 c.b1, .int .i64 c.h0, .int .i64 c.h1]) := ext_setRow (ext_alloc _ _) _ (Nat.le_refl _)
      have hneB : B0 ≠ wr.heap.size := by have := hB.lt; omega
      go_upto_region 6 with (refine wpList_store_row rfl 47 _ _ rfl wr.heap.size #[.int .i64 c.k, .int .i64 c.s, .int .i64 c.n, .int .i64 c.f, .int .i64 c.r, .int .i64 c.o, .int .i64 c.d, .int .i64 c.p, .int .i64 c.i0, .int .i64 c.i1, .int .i64 c.b0, .int .i64 c.b1, .int .i64 c.h0, .int .i64 c.h1] rfl rfl 47 _ hz7 (by kernel_rfl) rfl (by simp [Value.oneCell']) ?_)
      clear c0 c1 c2 c3 c4 c5 c6 c7 c8 c9 c10 c11 c12 c13 hz7
      replace hB := hB.ext hQ
      have HX5 := Lib.hid (HX.out.trans hQ)
      clear hQ HX
      generalize World.setRow (wr.alloc _) _ _ = w5 at *
      generalize wr.heap.size = b7 at *
      have hi1 := hin.1
      have hi2 := hin.2
      have hlen := HL.out
      have q0 : World.cell? w5 ⟨B0, 3 + c.s.toNat, none⟩ = some (.int .i64 (cs[c.s.toNat]?.getD 0)) := by rw [hB.cell]; exact playC_n _ _ _ cs _ (by omega)
      have HQX : Hid ((playC (.slice A0 L0.length d0) (.slice (some ⟨b, off, none⟩) L1.length d1) (.slice A2 L2.length d2) cs)[3 + c.s.toNat]? = some (.int .i64 (cs[c.s.toNat]?.getD 0))) := playC_n _ _ _ cs _ (by omega)
      have hlow := low_at HPZ.out.low c.s.toNat
      have hmc := fun W => moves_calls c W
      have hmv : -1 ≤ movZ c ∧ movZ c ≤ 1 := by unfold movZ; split <;> (try split) <;> omega
      have HGO : Hid (goes cs L1 = cs.set c.s.toNat (cs[c.s.toNat]?.getD 0 + movZ c)) := by show _ = _; rw [HCL.out]; rfl
      generalize cs[c.s.toNat]?.getD 0 = x at *
      generalize movZ c = mv at *
      have mw : IntKind.i64.wrap (x + mv) = x + mv := IntWalk.i64_in _ (by omega)
      clear hin hlen
      have K0 : Keeps [B0, b7] w5 w5.drew := Keeps.drew _ _
      have q : ∀ W, Keeps [B0, b7] w5 W → World.cell? W ⟨B0, 3 + c.s.toNat, none⟩ = some (.int .i64 x) := fun W hW => (hW.cell (by simp)).trans q0
      have r0 : ∀ W, Keeps [B0, b7] w5 W → World.cell? W ⟨b7, 0, none⟩ = some (.int .i64 c.k) := fun W hW => (hW.cell (by simp)).trans (hb7.cell 0)
      have r1 : ∀ W, Keeps [B0, b7] w5 W → World.cell? W ⟨b7, 1, none⟩ = some (.int .i64 c.s) := fun W hW => (hW.cell (by simp)).trans (hb7.cell 1)
      have r2 : ∀ W, Keeps [B0, b7] w5 W → World.cell? W ⟨b7, 2, none⟩ = some (.int .i64 c.n) := fun W hW => (hW.cell (by simp)).trans (hb7.cell 2)
      have r3 : ∀ W, Keeps [B0, b7] w5 W → World.cell? W ⟨b7, 3, none⟩ = some (.int .i64 c.f) := fun W hW => (hW.cell (by simp)).trans (hb7.cell 3)
      have r4 : ∀ W, Keeps [B0, b7] w5 W → World.cell? W ⟨b7, 4, none⟩ = some (.int .i64 c.r) := fun W hW => (hW.cell (by simp)).trans (hb7.cell 4)
      have r5 : ∀ W, Keeps [B0, b7] w5 W → World.cell? W ⟨b7, 5, none⟩ = some (.int .i64 c.o) := fun W hW => (hW.cell (by simp)).trans (hb7.cell 5)
      have r6 : ∀ W, Keeps [B0, b7] w5 W → World.cell? W ⟨b7, 6, none⟩ = some (.int .i64 c.d) := fun W hW => (hW.cell (by simp)).trans (hb7.cell 6)
      have r7 : ∀ W, Keeps [B0, b7] w5 W → World.cell? W ⟨b7, 7, none⟩ = some (.int .i64 c.p) := fun W hW => (hW.cell (by simp)).trans (hb7.cell 7)
      have r8 : ∀ W, Keeps [B0, b7] w5 W → World.cell? W ⟨b7, 8, none⟩ = some (.int .i64 c.i0) := fun W hW => (hW.cell (by simp)).trans (hb7.cell 8)
      have r9 : ∀ W, Keeps [B0, b7] w5 W → World.cell? W ⟨b7, 9, none⟩ = some (.int .i64 c.i1) := fun W hW => (hW.cell (by simp)).trans (hb7.cell 9)
      have r10 : ∀ W, Keeps [B0, b7] w5 W → World.cell? W ⟨b7, 10, none⟩ = some (.int .i64 c.b0) := fun W hW => (hW.cell (by simp)).trans (hb7.cell 10)
      have r11 : ∀ W, Keeps [B0, b7] w5 W → World.cell? W ⟨b7, 11, none⟩ = some (.int .i64 c.b1) := fun W hW => (hW.cell (by simp)).trans (hb7.cell 11)
      have r12 : ∀ W, Keeps [B0, b7] w5 W → World.cell? W ⟨b7, 12, none⟩ = some (.int .i64 c.h0) := fun W hW => (hW.cell (by simp)).trans (hb7.cell 12)
      have r13 : ∀ W, Keeps [B0, b7] w5 W → World.cell? W ⟨b7, 13, none⟩ = some (.int .i64 c.h1) := fun W hW => (hW.cell (by simp)).trans (hb7.cell 13)
      have hb7l := hb7.lt
      have hBl := hB.lt
      refine wp_region_S (Keeps [B0, b7] w5) [(0, true), (1, true), (2, true), (3, true), (4, true), (5, true), (6, true), (7, true), (8, false), (9, true), (10, true)] (by kernel_rfl) (by kernel_rfl) (fun _ _ d _ _ h => by cases d <;> exact h) K0 ?_
      simp only [pickE, List.getElem?_cons_zero, List.getElem?_cons_succ]
      repeat (refine wpF_pure (by rfl) (fun W hW => by go_simp; with_reducible rfl) ?_; simp only [Act.put, List.setIfInBounds_toArray, List.set_cons_zero, List.set_cons_succ])
      obtain ⟨wd, hwd⟩ : ∃ W, w5.drew = W := ⟨_, rfl⟩
      have hEd : Ext w5 wd := by rw [← hwd]; exact Ext.drew w5
      rw [hwd] at K0 ⊢
      clear hwd
      refine wpF_step (by rfl) (fun K hK => ?_)
      go_simp
      refine (hmc wd).mono ?_
      rintro e w6 ⟨rfl, hE6⟩
      have hE6 : Ext wd w6 := hE6
      have K1 : Keeps [B0, b7] w5 w6 := K0.trans (Keeps.below hE6 (fun q hq => by simp at hq; rcases hq with rfl | rfl <;> exact Nat.lt_of_lt_of_le (by assumption) K0.1))
      refine hK _ _ K1 ?_
      clear hK K hmc
      try simp only [Act.put, List.setIfInBounds_toArray, List.set_cons_zero, List.set_cons_succ]
      repeat (refine wpF_pure (by rfl) (fun W hW => by go_simp; with_reducible rfl) ?_; simp only [Act.put, List.setIfInBounds_toArray, List.set_cons_zero, List.set_cons_succ])
      refine wpF_nil ?_
      have hEt := hEd.trans hE6
      replace hB := hB.ext hEt
      replace hb7 := hb7.ext hEt
      have HX6 := Lib.hid (HX5.out.trans hEt)
      clear q r0 r1 r2 r3 r4 r5 r6 r7 r8 r9 r10 r11 r12 r13 K0 K1 hE6 hEd hEt q0 HX5
      by_cases hx1 : x + mv < 0
      · have g1 : decide (x + mv < 0) = true := decide_eq_true hx1
        have HN1 := Lib.hid (HN.out (by rw [HTR.out, if_pos hx1]))
        clear HN HG2 HG3 HTR hx1 mw
        generalize x + mv = y at *
        go_wp2_with fail
        go_roundw
        case rel => exact ⟨2, by omega, rfl, HN1, hB, HX6⟩
        case measure => simp [intOf]
      have g1 : decide (x + mv < 0) = false := decide_eq_false hx1
      by_cases hx2 : 15 < x + mv
      · have g2 : decide (15 < x + mv) = true := decide_eq_true hx2
        have HZ := Lib.hid (HG3.out (by rw [HTR.out, if_neg hx1, if_pos hx2]))
        clear HN HG2 HG3 HTR hx1 hx2 mw
        generalize x + mv = y at *
        go_wp2_with fail
        exact HP.out _ _ _ _ _ _ _ _ _ _ HZ.out hB HC0.out HC1.out HC2.out (HE.out.trans HX6.out)
      have g2 : decide (15 < x + mv) = false := decide_eq_false hx2
      have HZ := Lib.hid (HG2.out (by rw [HTR.out, if_neg hx1, if_neg hx2]))
      rw [HGO.out] at HZ
      clear HN HG2 HG3 HTR hx1 hx2 mw HGO hlow hmv
      generalize x + mv = y at *
      go_upto_region 7 with fail
      have K0 : Keeps [b7] w6 w6.drew := Keeps.drew _ _
      have hb7k := hb7.ext (Ext.drew w6)
      have r1 : ∀ W, Keeps [b7] w6 W → World.cell? W ⟨b7, 1, none⟩ = some (.int .i64 c.s) := fun W hW => (hW.cell (by simp)).trans (hb7.cell 1)
      refine wp_region_S (Keeps [b7] w6) [(0, true), (1, true), (2, true), (3, true), (4, true), (5, true), (6, true), (7, false)] (by kernel_rfl) (by kernel_rfl) (fun _ _ d _ _ h => by cases d <;> exact h) K0 ?_
      simp only [pickE, List.getElem?_cons_zero, List.getElem?_cons_succ]
      repeat (refine wpF_pure (by rfl) (fun W hW => by go_simp; with_reducible rfl) ?_; simp only [Act.put, List.setIfInBounds_toArray, List.set_cons_zero, List.set_cons_succ])
      have HX7 := Lib.hid (HX6.out.trans (Ext.drew w6))
      replace hB := hB.ext (Ext.drew w6)
      generalize w6.drew = w7 at *
      have K9 : Keeps [b7] w6 (w7.setCell ⟨B0, 3 + c.s.toNat, none⟩ (.int .i64 y)) := K0.trans (Keeps.grown (setCell_grown w7 B0 _ _) (fun q hq => by simp at hq; subst hq; exact ⟨hb7k.lt, by simpa using Ne.symm hneB⟩))
      have hf6 := hB.frozen (3 + c.s.toNat)
      have hq6 : World.cell? w7 ⟨B0, 3 + c.s.toNat, none⟩ = some (.int .i64 x) := (hB.cell _).trans HQX.out
      have hl6 := hB.lt
      have hB8 := hB.set (3 + c.s.toNat) (.int .i64 y)
      rw [playC_setn] at hB8
      have hE8 := Below.setCell (HE.out.trans HX7.out) (p := ⟨B0, 3 + c.s.toNat, none⟩) (by show w0.heap.size ≤ B0; exact hlt) (.int .i64 y)
      refine wpF_step (by rfl) (fun K hK => ?_)
      go_simp
      refine hK _ _ K9 ?_
      clear hK K hq6 hf6 hl6 K0 r1 hB HX7 K9 hb7k
      try simp only [Act.put, List.setIfInBounds_toArray, List.set_cons_zero, List.set_cons_succ]
      refine wpF_nil ?_
      generalize World.setCell w7 _ _ = w8 at *
      replace hE8 : Ext w0 w8 := hE8
      go_upto_region 11 with fail
      have hsl := HSL.out
      refine wp_region_S (fun _ => True) [(0, true), (1, true), (2, true), (3, true), (4, true), (5, true), (6, true), (7, false)] (by kernel_rfl) (by kernel_rfl) (fun _ _ d _ _ h => by cases d <;> exact h) trivial ?_
      simp only [pickE, List.getElem?_cons_zero, List.getElem?_cons_succ]
      repeat (refine wpF_pure (by rfl) (fun W hW => by go_simp; with_reducible rfl) ?_; simp only [Act.put, List.setIfInBounds_toArray, List.set_cons_zero, List.set_cons_succ])
      have hE9 := hE8.trans (Ext.drew w8)
      replace hB8 := hB8.ext (Ext.drew w8)
      generalize w8.drew = w9 at *
      have hfk := hB8.frozen 1
      have hlk := hB8.lt
      have hqk : World.cell? w9 ⟨B0, 1, none⟩ = some (.slice (some ⟨b, off, none⟩) L1.length d1) := hB8.cell 1
      have hB10 := hB8.set 1 (.slice tA tn tc)
      rw [playC_set1] at hB10
      have hE10 := Below.setCell hE9 (p := ⟨B0, 1, none⟩) (by show w0.heap.size ≤ B0; exact hlt) (.slice tA tn tc)
      have HF := Lib.hid (HP.out _ _ _ _ _ _ _ _ _ _ HZ.out hB10 HC0.out HTL.out HC2.out hE10)
      refine wpF_step (by rfl) (fun K hK => ?_)
      go_simp
      refine hK _ _ trivial ?_
      clear hK K hfk hlk hqk hB8 hB10 hE9 hE10 hE8
      try simp only [Act.put, List.setIfInBounds_toArray, List.set_cons_zero, List.set_cons_succ]
      refine wpF_nil ?_
      go_wp2_with fail
      exact HF.out
    · rw [show ((2 : Nat) : Int) = 2 from rfl]
      have HG2 : Hid (tryZ cs L2 = 2 → gz = (true, 0, goes cs L2, L0, L1, L2.tail)) := by
        show _ → _
        intro hz
        have HG1 := HG.out
        rw [if_neg (by rw [HT.out.1 (by omega)]; decide), if_neg (by rw [HT.out.1 (by omega)]; decide)] at HG1
        rw [if_neg (by rw [HT.out.2.1 (by omega)]; decide), if_neg (by rw [HT.out.2.1 (by omega)]; decide)] at HG1
        rw [if_pos hz] at HG1
        exact HG1
      have HG3 : Hid (tryZ cs L2 = 1 → gz = (false, 22, cs, L0, L1, L2)) := by
        show _ → _
        intro hz
        have HG1 := HG.out
        rw [if_neg (by rw [HT.out.1 (by omega)]; decide), if_neg (by rw [HT.out.1 (by omega)]; decide)] at HG1
        rw [if_neg (by rw [HT.out.2.1 (by omega)]; decide), if_neg (by rw [HT.out.2.1 (by omega)]; decide)] at HG1
        rw [if_neg (by rw [hz]; decide), if_pos hz] at HG1
        exact HG1
      have HN : Hid (tryZ cs L2 = 0 → (0 < 3 → tryZ cs L0 = 0) ∧ (1 < 3 → tryZ cs L1 = 0) ∧ (2 < 3 → tryZ cs L2 = 0)) := by
        show _ → _
        intro hz0
        exact ⟨fun _ => HT.out.1 (by omega), fun _ => HT.out.2.1 (by omega), fun _ => hz0⟩
      clear HT
      by_cases hne : 0 < L2.length
      case neg =>
        have hnil : L2 = [] := List.eq_nil_of_length_eq_zero (by omega)
        have hl0 : ((L2.length : Int) == 0) = true := by rw [hnil]; rfl
        have HN1 := Lib.hid (HN.out (by rw [hnil]; rfl))
        clear HN HG2 HG3 hne hnil
        go_wp2_with fail
        go_roundw
        case rel => exact ⟨3, by omega, rfl, HN1, hB, HX⟩
        case measure => simp [intOf]
      have hl0 : ((L2.length : Int) == 0) = false := by rw [beq_eq_false_iff_ne]; omega
      obtain ⟨c, l, hcl⟩ : ∃ c l, L2 = c :: l := by
        cases hx : L2 with
        | nil => rw [hx] at hne; exact absurd hne (by decide)
        | cons c l => exact ⟨c, l, rfl⟩
      have HCL := Lib.hid hcl
      have HTR := Lib.hid (show tryZ cs (c :: l) = if cs[c.s.toNat]?.getD 0 + movZ c < 0 then 0 else if 15 < cs[c.s.toNat]?.getD 0 + movZ c then 1 else 2 from rfl)
      rw [← HCL.out] at HTR
      have hin := sem_in (HPZ.out.c c (by rw [HCL.out]; simp))
      obtain ⟨_, _, e9, _, _, hcf⟩ := (HC2.out.below (HE.out.trans HX.out) (Nat.le_refl _)).form
      cases e9
      obtain ⟨b, off, hA, _, c0, c1, c2, c3, c4, c5, c6, c7, c8, c9, c10, c11, c12, c13⟩ := hcf 0 c (by rw [HCL.out]; rfl)
      rw [Nat.zero_mul, Nat.add_zero] at c0 c1 c2 c3 c4 c5 c6 c7 c8 c9 c10 c11 c12 c13
      subst hA
      have HTL : Hid (Isa.Cmds w0 (tailV (some ⟨b, off, none⟩) L2.length d2) L2.tail) := by
        have h9 := HC2.out
        show Isa.Cmds _ _ _
        obtain ⟨L', hL'⟩ : ∃ L', L2 = L' := ⟨_, rfl⟩
        rw [hL'] at h9 hcl ⊢
        subst hcl
        exact h9.tail
      have hsl := fun W => run_tail1 (some ⟨b, off, none⟩) L2.length d2 (by omega) W
      obtain ⟨tA, tn, tc, htv⟩ : ∃ A n c, tailV (some ⟨b, off, none⟩) L2.length d2 = .slice A n c := ⟨_, _, _, rfl⟩
      rw [htv] at HTL hsl
      clear htv
      have HSL := Lib.hid hsl
      clear hcf hcl hsl
      have hz7 := Blk.new wr #[.int .i64 0, .int .i64 0, .int .i64 0, .int .i64 0, .int .i64 0, .int .i64 0, .int .i64 0, .int .i64 0, .int .i64 0, .int .i64 0, .int .i64 0, .int .i64 0, .int .i64 0, .int .i64 0] 47
      have hb7 : Blk ((wr.alloc (.cells #[.int .i64 0, .int .i64 0, .int .i64 0, .int .i64 0, .int .i64 0, .int .i64 0, .int .i64 0, .int .i64 0, .int .i64 0, .int .i64 0, .int .i64 0, .int .i64 0, .int .i64 0, .int .i64 0] 47)).setRow wr.heap.size #[.int .i64 c.k, .int .i64 c.s, .int .i64 c.n, .int .i64 c.f, .int .i64 c.r, .int .i64 c.o, .int .i64 c.d, .int .i64 c.p, .int .i64 c.i0, .int .i64 c.i1, .int .i64 c.b0, .int .i64 c.b1, .int .i64 c.h0, .int .i64 c.h1]) wr.heap.size #[.int .i64 c.k, .int .i64 c.s, .int .i64 c.n, .int .i64 c.f, .int .i64 c.r, .int .i64 c.o, .int .i64 c.d, .int .i64 c.p, .int .i64 c.i0, .int .i64 c.i1, .int .i64 c.b0, .int .i64 c.b1, .int .i64 c.h0, .int .i64 c.h1] 47 := setRow_heap _ _ _ _ _ _ hz7
      have hQ : Ext wr ((wr.alloc (.cells #[.int .i64 0, .int .i64 0, .int .i64 0, .int .i64 0, .int .i64 0, .int .i64 0, .int .i64 0, .int .i64 0, .int .i64 0, .int .i64 0, .int .i64 0, .int .i64 0, .int .i64 0, .int .i64 0] 47)).setRow wr.heap.size #[.int .i64 c.k, .int .i64 c.s, .int .i64 c.n, .int .i64 c.f, .int .i64 c.r, .int .i64 c.o, .int .i64 c.d, .int .i64 c.p, .int .i64 c.i0, .int .i64 c.i1, .int .i64 c.b0, .int .i64 c.b1, .int .i64 c.h0, .int .i64 c.h1]) := ext_setRow (ext_alloc _ _) _ (Nat.le_refl _)
      have hneB : B0 ≠ wr.heap.size := by have := hB.lt; omega
      go_upto_region 6 with (refine wpList_store_row rfl 47 _ _ rfl wr.heap.size #[.int .i64 c.k, .int .i64 c.s, .int .i64 c.n, .int .i64 c.f, .int .i64 c.r, .int .i64 c.o, .int .i64 c.d, .int .i64 c.p, .int .i64 c.i0, .int .i64 c.i1, .int .i64 c.b0, .int .i64 c.b1, .int .i64 c.h0, .int .i64 c.h1] rfl rfl 47 _ hz7 (by kernel_rfl) rfl (by simp [Value.oneCell']) ?_)
      clear c0 c1 c2 c3 c4 c5 c6 c7 c8 c9 c10 c11 c12 c13 hz7
      replace hB := hB.ext hQ
      have HX5 := Lib.hid (HX.out.trans hQ)
      clear hQ HX
      generalize World.setRow (wr.alloc _) _ _ = w5 at *
      generalize wr.heap.size = b7 at *
      have hi1 := hin.1
      have hi2 := hin.2
      have hlen := HL.out
      have q0 : World.cell? w5 ⟨B0, 3 + c.s.toNat, none⟩ = some (.int .i64 (cs[c.s.toNat]?.getD 0)) := by rw [hB.cell]; exact playC_n _ _ _ cs _ (by omega)
      have HQX : Hid ((playC (.slice A0 L0.length d0) (.slice A1 L1.length d1) (.slice (some ⟨b, off, none⟩) L2.length d2) cs)[3 + c.s.toNat]? = some (.int .i64 (cs[c.s.toNat]?.getD 0))) := playC_n _ _ _ cs _ (by omega)
      have hlow := low_at HPZ.out.low c.s.toNat
      have hmc := fun W => moves_calls c W
      have hmv : -1 ≤ movZ c ∧ movZ c ≤ 1 := by unfold movZ; split <;> (try split) <;> omega
      have HGO : Hid (goes cs L2 = cs.set c.s.toNat (cs[c.s.toNat]?.getD 0 + movZ c)) := by show _ = _; rw [HCL.out]; rfl
      generalize cs[c.s.toNat]?.getD 0 = x at *
      generalize movZ c = mv at *
      have mw : IntKind.i64.wrap (x + mv) = x + mv := IntWalk.i64_in _ (by omega)
      clear hin hlen
      have K0 : Keeps [B0, b7] w5 w5.drew := Keeps.drew _ _
      have q : ∀ W, Keeps [B0, b7] w5 W → World.cell? W ⟨B0, 3 + c.s.toNat, none⟩ = some (.int .i64 x) := fun W hW => (hW.cell (by simp)).trans q0
      have r0 : ∀ W, Keeps [B0, b7] w5 W → World.cell? W ⟨b7, 0, none⟩ = some (.int .i64 c.k) := fun W hW => (hW.cell (by simp)).trans (hb7.cell 0)
      have r1 : ∀ W, Keeps [B0, b7] w5 W → World.cell? W ⟨b7, 1, none⟩ = some (.int .i64 c.s) := fun W hW => (hW.cell (by simp)).trans (hb7.cell 1)
      have r2 : ∀ W, Keeps [B0, b7] w5 W → World.cell? W ⟨b7, 2, none⟩ = some (.int .i64 c.n) := fun W hW => (hW.cell (by simp)).trans (hb7.cell 2)
      have r3 : ∀ W, Keeps [B0, b7] w5 W → World.cell? W ⟨b7, 3, none⟩ = some (.int .i64 c.f) := fun W hW => (hW.cell (by simp)).trans (hb7.cell 3)
      have r4 : ∀ W, Keeps [B0, b7] w5 W → World.cell? W ⟨b7, 4, none⟩ = some (.int .i64 c.r) := fun W hW => (hW.cell (by simp)).trans (hb7.cell 4)
      have r5 : ∀ W, Keeps [B0, b7] w5 W → World.cell? W ⟨b7, 5, none⟩ = some (.int .i64 c.o) := fun W hW => (hW.cell (by simp)).trans (hb7.cell 5)
      have r6 : ∀ W, Keeps [B0, b7] w5 W → World.cell? W ⟨b7, 6, none⟩ = some (.int .i64 c.d) := fun W hW => (hW.cell (by simp)).trans (hb7.cell 6)
      have r7 : ∀ W, Keeps [B0, b7] w5 W → World.cell? W ⟨b7, 7, none⟩ = some (.int .i64 c.p) := fun W hW => (hW.cell (by simp)).trans (hb7.cell 7)
      have r8 : ∀ W, Keeps [B0, b7] w5 W → World.cell? W ⟨b7, 8, none⟩ = some (.int .i64 c.i0) := fun W hW => (hW.cell (by simp)).trans (hb7.cell 8)
      have r9 : ∀ W, Keeps [B0, b7] w5 W → World.cell? W ⟨b7, 9, none⟩ = some (.int .i64 c.i1) := fun W hW => (hW.cell (by simp)).trans (hb7.cell 9)
      have r10 : ∀ W, Keeps [B0, b7] w5 W → World.cell? W ⟨b7, 10, none⟩ = some (.int .i64 c.b0) := fun W hW => (hW.cell (by simp)).trans (hb7.cell 10)
      have r11 : ∀ W, Keeps [B0, b7] w5 W → World.cell? W ⟨b7, 11, none⟩ = some (.int .i64 c.b1) := fun W hW => (hW.cell (by simp)).trans (hb7.cell 11)
      have r12 : ∀ W, Keeps [B0, b7] w5 W → World.cell? W ⟨b7, 12, none⟩ = some (.int .i64 c.h0) := fun W hW => (hW.cell (by simp)).trans (hb7.cell 12)
      have r13 : ∀ W, Keeps [B0, b7] w5 W → World.cell? W ⟨b7, 13, none⟩ = some (.int .i64 c.h1) := fun W hW => (hW.cell (by simp)).trans (hb7.cell 13)
      have hb7l := hb7.lt
      have hBl := hB.lt
      refine wp_region_S (Keeps [B0, b7] w5) [(0, true), (1, true), (2, true), (3, true), (4, true), (5, true), (6, true), (7, true), (8, false), (9, true), (10, true)] (by kernel_rfl) (by kernel_rfl) (fun _ _ d _ _ h => by cases d <;> exact h) K0 ?_
      simp only [pickE, List.getElem?_cons_zero, List.getElem?_cons_succ]
      repeat (refine wpF_pure (by rfl) (fun W hW => by go_simp; with_reducible rfl) ?_; simp only [Act.put, List.setIfInBounds_toArray, List.set_cons_zero, List.set_cons_succ])
      obtain ⟨wd, hwd⟩ : ∃ W, w5.drew = W := ⟨_, rfl⟩
      have hEd : Ext w5 wd := by rw [← hwd]; exact Ext.drew w5
      rw [hwd] at K0 ⊢
      clear hwd
      refine wpF_step (by rfl) (fun K hK => ?_)
      go_simp
      refine (hmc wd).mono ?_
      rintro e w6 ⟨rfl, hE6⟩
      have hE6 : Ext wd w6 := hE6
      have K1 : Keeps [B0, b7] w5 w6 := K0.trans (Keeps.below hE6 (fun q hq => by simp at hq; rcases hq with rfl | rfl <;> exact Nat.lt_of_lt_of_le (by assumption) K0.1))
      refine hK _ _ K1 ?_
      clear hK K hmc
      try simp only [Act.put, List.setIfInBounds_toArray, List.set_cons_zero, List.set_cons_succ]
      repeat (refine wpF_pure (by rfl) (fun W hW => by go_simp; with_reducible rfl) ?_; simp only [Act.put, List.setIfInBounds_toArray, List.set_cons_zero, List.set_cons_succ])
      refine wpF_nil ?_
      have hEt := hEd.trans hE6
      replace hB := hB.ext hEt
      replace hb7 := hb7.ext hEt
      have HX6 := Lib.hid (HX5.out.trans hEt)
      clear q r0 r1 r2 r3 r4 r5 r6 r7 r8 r9 r10 r11 r12 r13 K0 K1 hE6 hEd hEt q0 HX5
      by_cases hx1 : x + mv < 0
      · have g1 : decide (x + mv < 0) = true := decide_eq_true hx1
        have HN1 := Lib.hid (HN.out (by rw [HTR.out, if_pos hx1]))
        clear HN HG2 HG3 HTR hx1 mw
        generalize x + mv = y at *
        go_wp2_with fail
        go_roundw
        case rel => exact ⟨3, by omega, rfl, HN1, hB, HX6⟩
        case measure => simp [intOf]
      have g1 : decide (x + mv < 0) = false := decide_eq_false hx1
      by_cases hx2 : 15 < x + mv
      · have g2 : decide (15 < x + mv) = true := decide_eq_true hx2
        have HZ := Lib.hid (HG3.out (by rw [HTR.out, if_neg hx1, if_pos hx2]))
        clear HN HG2 HG3 HTR hx1 hx2 mw
        generalize x + mv = y at *
        go_wp2_with fail
        exact HP.out _ _ _ _ _ _ _ _ _ _ HZ.out hB HC0.out HC1.out HC2.out (HE.out.trans HX6.out)
      have g2 : decide (15 < x + mv) = false := decide_eq_false hx2
      have HZ := Lib.hid (HG2.out (by rw [HTR.out, if_neg hx1, if_neg hx2]))
      rw [HGO.out] at HZ
      clear HN HG2 HG3 HTR hx1 hx2 mw HGO hlow hmv
      generalize x + mv = y at *
      go_upto_region 7 with fail
      have K0 : Keeps [b7] w6 w6.drew := Keeps.drew _ _
      have hb7k := hb7.ext (Ext.drew w6)
      have r1 : ∀ W, Keeps [b7] w6 W → World.cell? W ⟨b7, 1, none⟩ = some (.int .i64 c.s) := fun W hW => (hW.cell (by simp)).trans (hb7.cell 1)
      refine wp_region_S (Keeps [b7] w6) [(0, true), (1, true), (2, true), (3, true), (4, true), (5, true), (6, true), (7, false)] (by kernel_rfl) (by kernel_rfl) (fun _ _ d _ _ h => by cases d <;> exact h) K0 ?_
      simp only [pickE, List.getElem?_cons_zero, List.getElem?_cons_succ]
      repeat (refine wpF_pure (by rfl) (fun W hW => by go_simp; with_reducible rfl) ?_; simp only [Act.put, List.setIfInBounds_toArray, List.set_cons_zero, List.set_cons_succ])
      have HX7 := Lib.hid (HX6.out.trans (Ext.drew w6))
      replace hB := hB.ext (Ext.drew w6)
      generalize w6.drew = w7 at *
      have K9 : Keeps [b7] w6 (w7.setCell ⟨B0, 3 + c.s.toNat, none⟩ (.int .i64 y)) := K0.trans (Keeps.grown (setCell_grown w7 B0 _ _) (fun q hq => by simp at hq; subst hq; exact ⟨hb7k.lt, by simpa using Ne.symm hneB⟩))
      have hf6 := hB.frozen (3 + c.s.toNat)
      have hq6 : World.cell? w7 ⟨B0, 3 + c.s.toNat, none⟩ = some (.int .i64 x) := (hB.cell _).trans HQX.out
      have hl6 := hB.lt
      have hB8 := hB.set (3 + c.s.toNat) (.int .i64 y)
      rw [playC_setn] at hB8
      have hE8 := Below.setCell (HE.out.trans HX7.out) (p := ⟨B0, 3 + c.s.toNat, none⟩) (by show w0.heap.size ≤ B0; exact hlt) (.int .i64 y)
      refine wpF_step (by rfl) (fun K hK => ?_)
      go_simp
      refine hK _ _ K9 ?_
      clear hK K hq6 hf6 hl6 K0 r1 hB HX7 K9 hb7k
      try simp only [Act.put, List.setIfInBounds_toArray, List.set_cons_zero, List.set_cons_succ]
      refine wpF_nil ?_
      generalize World.setCell w7 _ _ = w8 at *
      replace hE8 : Ext w0 w8 := hE8
      go_upto_region 11 with fail
      have hsl := HSL.out
      refine wp_region_S (fun _ => True) [(0, true), (1, true), (2, true), (3, true), (4, true), (5, true), (6, true), (7, false)] (by kernel_rfl) (by kernel_rfl) (fun _ _ d _ _ h => by cases d <;> exact h) trivial ?_
      simp only [pickE, List.getElem?_cons_zero, List.getElem?_cons_succ]
      repeat (refine wpF_pure (by rfl) (fun W hW => by go_simp; with_reducible rfl) ?_; simp only [Act.put, List.setIfInBounds_toArray, List.set_cons_zero, List.set_cons_succ])
      have hE9 := hE8.trans (Ext.drew w8)
      replace hB8 := hB8.ext (Ext.drew w8)
      generalize w8.drew = w9 at *
      have hfk := hB8.frozen 2
      have hlk := hB8.lt
      have hqk : World.cell? w9 ⟨B0, 2, none⟩ = some (.slice (some ⟨b, off, none⟩) L2.length d2) := hB8.cell 2
      have hB10 := hB8.set 2 (.slice tA tn tc)
      rw [playC_set2] at hB10
      have hE10 := Below.setCell hE9 (p := ⟨B0, 2, none⟩) (by show w0.heap.size ≤ B0; exact hlt) (.slice tA tn tc)
      have HF := Lib.hid (HP.out _ _ _ _ _ _ _ _ _ _ HZ.out hB10 HC0.out HC1.out HTL.out hE10)
      refine wpF_step (by rfl) (fun K hK => ?_)
      go_simp
      refine hK _ _ trivial ?_
      clear hK K hfk hlk hqk hB8 hB10 hE9 hE10 hE8
      try simp only [Act.put, List.setIfInBounds_toArray, List.set_cons_zero, List.set_cons_succ]
      refine wpF_nil ?_
      go_wp2_with fail
      exact HF.out
    · have HZ : Hid (gz = (false, 0, cs, L0, L1, L2)) := by
        show _ = _
        rw [HG.out, if_neg (by rw [HT.out.1 (by omega)]; decide), if_neg (by rw [HT.out.1 (by omega)]; decide), if_neg (by rw [HT.out.2.1 (by omega)]; decide), if_neg (by rw [HT.out.2.1 (by omega)]; decide), if_neg (by rw [HT.out.2.2 (by omega)]; decide), if_neg (by rw [HT.out.2.2 (by omega)]; decide)]
      clear HT
      go_wp2_with fail
      exact HP.out _ _ _ _ _ _ _ _ _ _ HZ.out hB HC0.out HC1.out HC2.out (HE.out.trans HX.out)

end Go.Proofs.Ytmddlhfahfelpaa
