/- The walk of isa.Take. -/
/- The walk of Same of the reference. -/
/- image.May's look at the places: the function value, and slices.EqualFunc over values and places. -/
import Derived.Test.YtdhdbmfipkppiaaGreatNsaC
import Derived.OwnWalk
import Derived.Test.YtdhdbmfipkppiaaGreatBytes
set_option linter.unusedSimpArgs false
set_option linter.unusedVariables false
set_option linter.unnecessarySimpa false
namespace Go.Proofs.YtdhdbmfipkppiaaGreat.Isa
set_option maxRecDepth 10000
open Go.RowKit

def toCm (cs : List Int) : Cm := ⟨cs[0]?.getD 0, cs[1]?.getD 0, cs[2]?.getD 0, cs[3]?.getD 0, cs[4]?.getD 0, cs[5]?.getD 0, cs[6]?.getD 0, cs[7]?.getD 0, cs[8]?.getD 0, cs[9]?.getD 0, cs[10]?.getD 0, cs[11]?.getD 0, cs[12]?.getD 0, cs[13]?.getD 0⟩
def stepOk (s : List Int × Bool × List Int × Int) : Bool := okK s.2.2.2 && !s.2.1 && mayB (toCm s.2.2.1)

/-- So many commands are taken off the beginning. -/
def goTake : Nat → List Int → Option (List Cm × List Int)
  | 0, zs => some ([], zs)
  | n + 1, zs => if stepOk (cmdStep zs false) then (goTake n (cmdStep zs false).1).map fun p => (toCm (cmdStep zs false).2.2.1 :: p.1, p.2) else none

def takeL (zs : List Int) : Option (List Cm × Nat) :=
  if zs.length < 2 ∨ 4096 < numOf (zs.take 2) then none else (goTake (numOf (zs.take 2)).toNat (zs.drop 2)).map fun p => (p.1, zs.length - p.2.length)

theorem readF_le : ∀ (l : List Fd) (zs : List Int) (bad : Bool) (cs : List Int), (readF zs bad cs l).1.length ≤ zs.length
  | [], zs, bad, cs => Nat.le_refl _
  | x :: l, zs, bad, cs => by
    rw [readF]
    exact Nat.le_trans (readF_le l _ _ _) (numStep_le zs bad x.wide)
theorem cmdStep_le (zs : List Int) (bad : Bool) : (cmdStep zs bad).1.length ≤ zs.length := by
  unfold cmdStep
  exact Nat.le_trans (readF_le _ _ _ _) (numStep_le zs bad 1)

theorem elem_cmd : ElemT Tryz.prog 29 75 14 112 := elemT_of (z := .agg #[.int .i64 0, .int .i64 0, .int .i64 0, .int .i64 0, .int .i64 0, .int .i64 0, .int .i64 0, .int .i64 0, .int .i64 0, .int .i64 0, .int .i64 0, .int .i64 0, .int .i64 0, .int .i64 0]) Tryz.underlying29 (by kernel_rfl) rfl (by omega)

/-- What Take answers. -/
def TakePost (r : Option (List Cm × Nat)) (w : World) (e : Ending) (w' : World) : Prop :=
  (r = none → e = .returned (.tuple #[.slice none 0 0, .int .i64 0, .int .i64 2])) ∧
  (∀ l n, r = some (l, n) → ∃ v', e = .returned (.tuple #[v', .int .i64 n, .int .i64 0]) ∧ w'.ownsRow w.heap.size 75 14 v' l.length (l.flatMap Cm.cs)) ∧ Below w.heap.size w w'

theorem ownsRow_base {w : World} {base base' : Nat} {e : TypeId} {sz : Nat} {v : Value} {n : Nat} {xs : List Value} (h : w.ownsRow base e sz v n xs) (hb : base' ≤ base) : w.ownsRow base' e sz v n xs := by
  refine ⟨h.1, ?_⟩
  rcases h.2 with h2 | ⟨g, cap, cur, h3, h4, h5⟩
  · exact Or.inl h2
  · exact Or.inr ⟨g, cap, cur, h3, Nat.le_trans hb h4, h5⟩

set_option maxHeartbeats 3200000 in
theorem take_calls (v : Value) (zs : List Int) (w : World) (hv : Ints .u8 w v zs) (hz : ∀ z ∈ zs, 0 ≤ z ∧ z ≤ 255) :
    Calls Tryz.prog 11 #[v] w (TakePost (takeL zs) w) := by
  have hP : ∀ e w', ((takeL zs = none → e = .returned (.tuple #[.slice none 0 0, .int .i64 0, .int .i64 2])) ∧ (∀ l n, takeL zs = some (l, n) → ∃ v', e = .returned (.tuple #[v', .int .i64 n, .int .i64 0]) ∧ w'.ownsRow w.heap.size 75 14 v' l.length (l.flatMap Cm.cs)) ∧ Below w.heap.size w w') → TakePost (takeL zs) w e w' := fun e w' h => h
  have HP := Lib.hid hP
  clear hP
  have HT : Hid (takeL zs = if zs.length < 2 ∨ 4096 < numOf (zs.take 2) then none else (goTake (numOf (zs.take 2)).toNat (zs.drop 2)).map fun p => (p.1, zs.length - p.2.length)) := rfl
  generalize TakePost (takeL zs) w = R at *
  generalize takeL zs = tk at *
  obtain ⟨A, c, rfl, hlc, hcm, _⟩ := id hv.form
  unfold maxLen at hcm
  have hb0 := below_alloc (Below.refl w.heap.size w) (Nat.le_refl _) (.cells #[.slice A zs.length c, .bool false] 71)
  have hr0 : Rd (w.alloc (.cells #[.slice A zs.length c, .bool false] 71)) w.heap.size (.slice A zs.length c) zs false := ⟨heap_alloc_new w _, Row.below hv hb0, hz, by
    rcases hv.lt with h | h
    · exact Or.inl h
    · exact Or.inr fun e => by have := h _ e; omega⟩
  have hn := number_step w.heap.size _ zs false 2 _ hr0 (by omega)
  go_enter Tryz.func11, Tryz.ntmps11
  go_wp2_with fail
  generalize w.alloc _ = w0 at *
  refine hn.mono ?_
  rintro e w1 ⟨rfl, ⟨l1, hr1, ho1⟩, hg1⟩
  have hb1 : Below w.heap.size w w1 := Below.grown hb0 hg1 hb0.size (fun k hk => by cases hk; exact Nat.le_refl _)
  clear hn hr0 hg1
  obtain ⟨x0, x1, _⟩ := hr1.cells
  by_cases h2 : zs.length < 2
  · have e : numStep zs false 2 = (0, zs, true) := by unfold numStep; rw [if_neg (by omega)]
    rw [e] at x1 ⊢
    simp only at x1 ⊢
    have HN : Hid (tk = none) := by show _ = _; rw [HT.out, if_pos (Or.inl h2)]
    clear e HT
    go_wp2_with fail
    go_ret3
    exact HP.out _ _ ⟨fun _ => rfl, (fun l n h => by rw [HN.out] at h; cases h), hb1⟩
  · have e : numStep zs false 2 = (numOf (zs.take 2), zs.drop 2, false) := by unfold numStep; rw [if_pos (by omega)]
    rw [e] at x1 hr1 ⊢
    simp only at x1 hr1 ⊢
    have hrg := numOf_range 2 (zs.take 2) (by rw [List.length_take]; omega) (fun z hm => hz z (List.mem_of_mem_take hm))
    obtain ⟨N, hN⟩ := Int.eq_ofNat_of_zero_le hrg.1
    rw [hN] at HT ⊢
    clear e hrg hN
    by_cases h3 : 4096 < (N : Int)
    · have HN : Hid (tk = none) := by show _ = _; rw [HT.out, if_pos (Or.inr h3)]
      clear HT
      go_wp2_with fail
      go_ret3
      exact HP.out _ _ ⟨fun _ => rfl, (fun l n h => by rw [HN.out] at h; cases h), hb1⟩
    · have HT2 : Hid (tk = (goTake N (zs.drop 2)).map fun p => (p.1, zs.length - p.2.length)) := by
        show _ = _
        rw [HT.out, if_neg (by omega), Int.toNat_natCast]
      clear HT
      go_wp2_with fail
      have hblt := hr1.lt
      have HO1 := Lib.hid ho1
      have HV := Lib.hid hv.lt
      clear ho1
      have hnil : w1.ownsRow (w.heap.size + 1) 75 14 (.slice none 0 0) ([] : List Cm).length (([] : List Cm).flatMap Cm.cs) := World.ownsRow_nil _ _ _ _
      go_loopw [7, 24] (fun b i wr => ∃ (k : Nat) (lk : List Cm) (zk : List Int) (lv : Value), k ≤ N ∧ i = .int .i64 k ∧ Hid (goTake N (zs.drop 2) = (goTake (N - k) zk).map fun p => (lk ++ p.1, p.2)) ∧ Hid (lk.length = k) ∧ Hid (zk.length ≤ zs.length) ∧ Hid (lv.ownBlock = (Value.slice A zs.length c).ownBlock) ∧ Rd wr w.heap.size lv zk false ∧ wr.ownsRow (w.heap.size + 1) 75 14 b lk.length (lk.flatMap Cm.cs) ∧ Below w.heap.size w wr) (fun _ i _ => N - (intOf i).toNat)
      case atStart => exact ⟨0, [], zs.drop 2, l1, by omega, rfl, by show _ = _; simp, rfl, by show _ ≤ _; simp, HO1.out, hr1, hnil, hb1⟩
      case round =>
        clear hr1 hnil hb1 x0 x1 hblt
        obtain ⟨k, lk, zk, lv, hk, rfl, hgo, hlk, hzk, hlo, hrd, hown, hbel⟩ := hrel
        by_cases hlt : k < N
        · have hc := command_calls w.heap.size lv zk false wr hrd
          obtain ⟨M, hM⟩ : ∃ M, N - k = M + 1 := ⟨N - k - 1, by omega⟩
          have hM' : N - (k + 1) = M := by omega
          have HG : Hid (goTake N (zs.drop 2) = (if stepOk (cmdStep zk false) then (goTake M (cmdStep zk false).1).map fun p => (toCm (cmdStep zk false).2.2.1 :: p.1, p.2) else none).map fun p => (lk ++ p.1, p.2)) := by
            show _ = _
            rw [hgo.out, hM, goTake]
          have HM := Lib.hid hM'
          clear hM hM' hgo
          go_wp2_with fail
          refine hc.mono ?_
          rintro e w2 ⟨x, hx, rfl, ⟨lv2, hrd2, ho2⟩, hg2⟩
          have hown2 := hown.kept hg2 (by
            cases hq : u7.ownBlock with
            | none => exact Or.inl rfl
            | some j => exact Or.inr fun e => by have := (hown.lt j hq).1; have := Option.some.inj e; omega)
          have hb2 : Below w.heap.size w w2 := Below.grown hbel hg2 hbel.size (fun k hk => by cases hk; exact Nat.le_refl _)
          have hb3 := below_alloc hb2 hb2.size (.cells #[.int .i64 x.k, .int .i64 x.s, .int .i64 x.n, .int .i64 x.f, .int .i64 x.r, .int .i64 x.o, .int .i64 x.d, .int .i64 x.p, .int .i64 x.i0, .int .i64 x.i1, .int .i64 x.b0, .int .i64 x.b1, .int .i64 x.h0, .int .i64 x.h1] 75)
          have hx2 : toCm (cmdStep zk false).2.2.1 = x := by rw [← hx]; rfl
          have hst : (okK (cmdStep zk false).2.2.2 && !(cmdStep zk false).2.1 && mayB x) = stepOk (cmdStep zk false) := by unfold stepOk; rw [hx2]
          have hle := Nat.le_trans (cmdStep_le zk false) hzk.out
          rw [hst]
          rw [hx2] at HG
          have hbad : stepOk (cmdStep zk false) = true → (cmdStep zk false).2.1 = false := fun h => by
            unfold stepOk at h
            simp only [Bool.and_eq_true, Bool.not_eq_true'] at h
            exact h.1.2
          have HBD := Lib.hid hbad
          have HLE := Lib.hid hle
          clear hc hst hx hx2 hbad hle hown hg2 hbel
          generalize stepOk (cmdStep zk false) = q at *
          cases q with
          | false =>
            have HN : Hid (tk = none) := by
              show _ = _
              rw [HT2.out, HG.out]
              rfl
            clear HG HT2
            unfold Cm.v
            go_wp2_with fail
            go_ret3
            exact HP.out _ _ ⟨fun _ => rfl, (fun l n h => by rw [HN.out] at h; cases h), hb3⟩
          | true =>
            have hbf := HBD.out rfl
            rw [hbf] at hrd2
            clear hbf HBD
            have hlk1 := hlk.out
            have hkN : k < 4096 := by omega
            have hb4 := below_alloc hb3 hb3.size (.cells #[.int .i64 x.k, .int .i64 x.s, .int .i64 x.n, .int .i64 x.f, .int .i64 x.r, .int .i64 x.o, .int .i64 x.d, .int .i64 x.p, .int .i64 x.i0, .int .i64 x.i1, .int .i64 x.b0, .int .i64 x.b1, .int .i64 x.h0, .int .i64 x.h1] 75)
            have hnew : Row ((w2.alloc (.cells #[.int .i64 x.k, .int .i64 x.s, .int .i64 x.n, .int .i64 x.f, .int .i64 x.r, .int .i64 x.o, .int .i64 x.d, .int .i64 x.p, .int .i64 x.i0, .int .i64 x.i1, .int .i64 x.b0, .int .i64 x.b1, .int .i64 x.h0, .int .i64 x.h1] 75)).alloc (.cells #[.int .i64 x.k, .int .i64 x.s, .int .i64 x.n, .int .i64 x.f, .int .i64 x.r, .int .i64 x.o, .int .i64 x.d, .int .i64 x.p, .int .i64 x.i0, .int .i64 x.i1, .int .i64 x.b0, .int .i64 x.b1, .int .i64 x.h0, .int .i64 x.h1] 75)) (.slice (some ⟨w2.heap.size + 1, 0, none⟩) 1 1) 1 14 x.cs := row_lit (w2.alloc (.cells #[.int .i64 x.k, .int .i64 x.s, .int .i64 x.n, .int .i64 x.f, .int .i64 x.r, .int .i64 x.o, .int .i64 x.d, .int .i64 x.p, .int .i64 x.i0, .int .i64 x.i1, .int .i64 x.b0, .int .i64 x.b1, .int .i64 x.h0, .int .i64 x.h1] 75)) #[.int .i64 x.k, .int .i64 x.s, .int .i64 x.n, .int .i64 x.f, .int .i64 x.r, .int .i64 x.o, .int .i64 x.d, .int .i64 x.p, .int .i64 x.i0, .int .i64 x.i1, .int .i64 x.b0, .int .i64 x.b1, .int .i64 x.h0, .int .i64 x.h1] 75 1 14 (w2.heap.size + 1) (by simp) rfl (by unfold maxLen; omega)
            have hown3 := (hown2.alloc (.cells #[.int .i64 x.k, .int .i64 x.s, .int .i64 x.n, .int .i64 x.f, .int .i64 x.r, .int .i64 x.o, .int .i64 x.d, .int .i64 x.p, .int .i64 x.i0, .int .i64 x.i1, .int .i64 x.b0, .int .i64 x.b1, .int .i64 x.h0, .int .i64 x.h1] 75 (0, 0))).alloc (.cells #[.int .i64 x.k, .int .i64 x.s, .int .i64 x.n, .int .i64 x.f, .int .i64 x.r, .int .i64 x.o, .int .i64 x.d, .int .i64 x.p, .int .i64 x.i0, .int .i64 x.i1, .int .i64 x.b0, .int .i64 x.b1, .int .i64 x.h0, .int .i64 x.h1] 75 (0, 0))
            have hrd3 := (hrd2.below (below_alloc (Below.refl w2.heap.size w2) (Nat.le_refl _) (.cells #[.int .i64 x.k, .int .i64 x.s, .int .i64 x.n, .int .i64 x.f, .int .i64 x.r, .int .i64 x.o, .int .i64 x.d, .int .i64 x.p, .int .i64 x.i0, .int .i64 x.i1, .int .i64 x.b0, .int .i64 x.b1, .int .i64 x.h0, .int .i64 x.h1] 75))).below (below_alloc (Below.refl _ _) (Nat.le_refl _) (.cells #[.int .i64 x.k, .int .i64 x.s, .int .i64 x.n, .int .i64 x.f, .int .i64 x.r, .int .i64 x.o, .int .i64 x.d, .int .i64 x.p, .int .i64 x.i0, .int .i64 x.i1, .int .i64 x.b0, .int .i64 x.b1, .int .i64 x.h0, .int .i64 x.h1] 75))
            unfold Cm.v
            go_wp2_with (at_builtin; refine stopped ?_)
            refine wpList_append_row rfl rfl elem_cmd hown3 rfl hnew rfl (one_ints _ _) (by omega) (by omega) (by have := hrd2.lt; simp; omega) ?_
            intro v5 w5 ho hgr hn
            have hlo2 : Hid (lv2.ownBlock = (Value.slice A zs.length c).ownBlock) := ho2.trans hlo.out
            have hrd5 := hrd3.grown hgr (fun e => by have := (hown2.lt _ e.symm).1; omega) (by
              rcases HV.out with h | h
              · refine Or.inl (List.eq_nil_of_length_eq_zero ?_)
                have h2 := HLE.out
                rw [h] at h2
                simpa using h2
              · cases hq : lv2.ownBlock with
                | none => exact Or.inr (Or.inl rfl)
                | some j => exact Or.inr (Or.inr (fun e => by
                    have h3 := h j (by rw [← hlo2.out]; exact hq)
                    have := (hown2.lt j e.symm).1
                    omega)))
            have hb5 : Below w.heap.size w w5 := Below.grown hb4 hgr hb4.size (fun k hk => by have := (hown2.lt k hk).1; omega)
            have ho5 : w5.ownsRow (w.heap.size + 1) 75 14 v5 (lk ++ [x]).length ((lk ++ [x]).flatMap Cm.cs) := by
              rw [List.length_append, List.flatMap_append]
              simpa using ho
            have hlk5 : Hid ((lk ++ [x]).length = k + 1) := by show _ = _; rw [List.length_append, hlk1]; rfl
            have HG5 : Hid (goTake N (zs.drop 2) = (goTake (N - (k + 1)) (cmdStep zk false).1).map fun p => ((lk ++ [x]) ++ p.1, p.2)) := by
              show _ = _
              rw [HG.out, HM.out]
              simp [Option.map_map, Function.comp_def]
            clear HG hlk hlk1 ho hgr hn hnew hown2 hown3 hrd2 hrd3 hb2 hb3 hb4 ho2 hlo hrd HM
            go_wp2_with fail
            go_roundw
            case rel => exact ⟨k + 1, lk ++ [x], _, lv2, by omega, by go_num, HG5, hlk5, HLE.out, hlo2, hrd5, ho5, hb5⟩
            case measure => simp [intOf]; omega
        · have hkN : N - k = 0 := by omega
          have HF : Hid (tk = some (lk, zs.length - zk.length)) := by
            show _ = _
            rw [HT2.out, hgo.out, hkN, goTake]
            simp
          obtain ⟨y0, _, _⟩ := hrd.cells
          obtain ⟨A2, c2, rfl, _⟩ := id hrd.2.1.form
          clear hkN
          go_wp2_with fail
          go_region
          go_wp2_with fail
          go_ret3
          refine HP.out _ _ ⟨(fun h => by rw [HF.out] at h; cases h), (fun l n h => ?_), hbel.drew⟩
          rw [HF.out] at h
          cases h
          refine ⟨u7, ?_, ownsRow_drew (ownsRow_base hown (by omega))⟩
          show Ending.returned (Value.tuple #[u7, .int .i64 (wrap64 ((zs.length : Int) - (zk.length : Int))), .int .i64 0]) = _
          have h4 : wrap64 ((zs.length : Int) - (zk.length : Int)) = ((zs.length - zk.length : Nat) : Int) := by
            have := hzk.out
            unfold wrap64
            omega
          rw [h4]

end Go.Proofs.YtdhdbmfipkppiaaGreat.Isa

namespace Go.Proofs.YtdhdbmfipkppiaaGreat.Isa
set_option maxRecDepth 10000
open Go.RowKit

theorem neqGuard : Tryz.prog.eqGuardType Tryz.prog.depth 75 = false := by kernel_rfl

set_option maxHeartbeats 1600000 in
theorem same_calls (v u : Value) (l m : List Cm) (w : World) (hv : Cmds w v l) (hu : Cmds w u m) :
    Calls Tryz.prog 19 #[v, u] w fun e w' => e = .returned (.bool (decide (l = m))) ∧ Below w.heap.size w w' := by
  obtain ⟨A, c, rfl, hlc, hcm, _⟩ := hv.form
  obtain ⟨B, d, rfl, hld, hdm, _⟩ := hu.form
  unfold maxLen at hcm hdm
  by_cases hl : l.length = m.length
  · have HL := Lib.hid hl
    rw [hl] at hlc ⊢
    clear hl
    go_enter Tryz.func19, Tryz.ntmps19
    go_wp2
    go_loopw [5] (fun i wr => ∃ k : Nat, k ≤ m.length ∧ i = .int .i64 k ∧ Hid (l.take k = m.take k) ∧ Below w.heap.size w wr) (fun i _ => m.length - (intOf i).toNat)
    case atStart => exact ⟨0, by omega, rfl, rfl, Below.refl _ _⟩
    case round =>
      obtain ⟨k, hk, rfl, heq, hbel⟩ := hrel
      by_cases hlt : k < m.length
      · have hlz : k < l.length := by rw [HL.out]; exact hlt
        obtain ⟨_, _, e1, _, _, hc1⟩ := (hv.below hbel (Nat.le_refl _)).form
        obtain ⟨_, _, e2, _, _, hc2⟩ := (hu.below hbel (Nat.le_refl _)).form
        injection e1 with e3 e4 e5
        injection e2 with e6 e7 e8
        subst e3 e5 e6 e8
        clear e4 e7
        obtain ⟨g, off, rfl, hg, x0, x1, x2, x3, x4, x5, x6, x7, x8, x9, x10, x11, x12, x13⟩ := hc1 k l[k] (by simp [hlz])
        obtain ⟨g2, off2, rfl, hg2, y0, y1, y2, y3, y4, y5, y6, y7, y8, y9, y10, y11, y12, y13⟩ := hc2 k m[k] (by simp [hlt])
        have HS : Hid (l[k] = m[k] → l.take (k + 1) = m.take (k + 1)) := by
          show _ → _
          intro e
          rw [List.take_succ_eq_append_getElem hlz, List.take_succ_eq_append_getElem hlt, heq.out, e]
        have HN : Hid (l[k] ≠ m[k] → decide (l = m) = false) := by
          show _ → _
          intro e
          refine decide_eq_false (fun h => e ?_)
          subst h
          rfl
        clear hc1 hc2
        generalize l[k] = x at *
        generalize m[k] = y at *
        have hq := fun w => cmd_neq x y w
        unfold Cm.v at hq
        have hgd := neqGuard
        go_wp2_with fail
        refine wp_region_R [(0, true), (1, true), (2, true), (3, true), (4, true), (5, true), (6, true), (7, true), (8, true)] (by kernel_rfl) (by kernel_rfl) (fun _ _ d _ _ h => by cases d <;> exact h) ?_
        simp only [pickE, List.getElem?_cons_zero, List.getElem?_cons_succ]
        repeat (refine wpF_pure (by rfl) (fun W hW => by subst hW; go_simp; with_reducible rfl) ?_; simp only [Act.put, List.setIfInBounds_toArray, List.set_cons_zero, List.set_cons_succ])
        refine wpF_nil ?_
        by_cases hxy : x = y
        · have HS1 := Lib.hid (HS.out hxy)
          rw [decide_eq_true hxy]
          clear HS HN hq hxy x0 x1 x2 x3 x4 x5 x6 x7 x8 x9 x10 x11 x12 x13 y0 y1 y2 y3 y4 y5 y6 y7 y8 y9 y10 y11 y12 y13
          go_wp2_with fail
          go_roundw
          case rel => exact ⟨k + 1, by omega, by go_num, HS1, hbel.drew⟩
          case measure => simp [intOf]; omega
        · have HN1 := Lib.hid (HN.out hxy)
          rw [decide_eq_false hxy]
          clear HS HN hq hxy x0 x1 x2 x3 x4 x5 x6 x7 x8 x9 x10 x11 x12 x13 y0 y1 y2 y3 y4 y5 y6 y7 y8 y9 y10 y11 y12 y13
          go_wp2_with fail
          go_ret
          exact ⟨by rw [HN1.out]; rfl, hbel.drew⟩
      · have hkk : k = m.length := by omega
        have HE : Hid (decide (l = m) = true) := by
          show _ = _
          have h1 := heq.out
          rw [hkk, List.take_length, ← HL.out, List.take_length] at h1
          exact decide_eq_true h1
        go_wp2
        go_ret
        exact ⟨by rw [HE.out]; rfl, hbel⟩
  · have HN : Hid (decide (l = m) = false) := decide_eq_false (fun h => hl (by rw [h]))
    go_enter Tryz.func19, Tryz.ntmps19
    go_wp2
    go_ret
    exact ⟨by rw [HN.out]; rfl, Below.refl _ _⟩

end Go.Proofs.YtdhdbmfipkppiaaGreat.Isa

namespace Go.Proofs.YtdhdbmfipkppiaaGreat
open Go.RowKit

/-- Does a value fit at a place? -/
def fitB (v : Vl) (p : Int) : Bool := decide (0 ≤ p) && decide (p ≤ 65536 - sizeZ v.s)
def fitsB (vs : List Vl) (pl : List Int) : Bool := decide (vs.length = pl.length) && (List.range vs.length).all fun j => fitB (vs[j]?.getD default) (pl[j]?.getD 0)

set_option maxHeartbeats 1600000 in
theorem fit1_calls (x : Vl) (p : Int) (w : World) (hp : InK .i64 p) : Calls Tryz.prog 37 #[.agg #[.int .i64 x.s.h, .int .i64 x.s.w, .int .i64 x.s.c, .int .i64 x.z], .int .i64 p] w fun e w' => e = .returned (.bool (fitB x p)) ∧ Ext w w' := by
  have HF : Hid (fitB x p = (decide (0 ≤ p) && decide (p ≤ 65536 - sizeZ x.s))) := rfl
  have hsz := sizeZ_range x.s
  have hs := fun W => size_calls x.s W
  have hE := ext_alloc w (.cells #[.int .i64 x.s.h, .int .i64 x.s.w, .int .i64 x.s.c, .int .i64 x.z] 41)
  have hb := Blk.new w #[.int .i64 x.s.h, .int .i64 x.s.w, .int .i64 x.s.c, .int .i64 x.z] 41
  generalize fitB x p = q at *
  generalize sizeZ x.s = sz at *
  simp only [InK] at hp
  by_cases h0 : 0 ≤ p
  · have HQ : Hid (q = decide (p ≤ 65536 - sz)) := by show _ = _; rw [HF.out, decide_eq_true h0]; rfl
    have hw1 : IntKind.i64.wrap (65536 - sz) = 65536 - sz := IntWalk.i64_in _ (by omega)
    clear HF
    go_enter Tryz.func37, Tryz.ntmps37
    go_upto_region 1 with fail
    generalize World.alloc w _ = w1 at *
    have c0 : World.cell? w1 ⟨w.heap.size, 0, none⟩ = some (.int .i64 x.s.h) := hb.cell 0
    have c1 : World.cell? w1 ⟨w.heap.size, 1, none⟩ = some (.int .i64 x.s.w) := hb.cell 1
    have c2 : World.cell? w1 ⟨w.heap.size, 2, none⟩ = some (.int .i64 x.s.c) := hb.cell 2
    go_wp2_with fail
    refine (hs _).mono ?_
    rintro e w2 ⟨rfl, h2⟩
    clear c0 c1 c2 hs hb
    go_wp2_with fail
    go_ret
    exact ⟨ret_bool HQ.out.symm, hE.trans h2⟩
  · have HQ : Hid (q = false) := by show _ = _; rw [HF.out, decide_eq_false h0]; rfl
    clear HF
    go_enter Tryz.func37, Tryz.ntmps37
    go_wp2_with fail
    go_ret
    exact ⟨ret_bool HQ.out.symm, hE⟩

set_option maxRecDepth 8000 in
set_option maxHeartbeats 3200000 in
theorem eqVP_calls (vV pV : Value) (vs : List Vl) (pl : List Int) (w : World) (hv : Vls w vV vs) (hp : Ints .i64 w pV pl) (hpk : ∀ z ∈ pl, InK .i64 z) :
    Calls Tryz.prog 36 #[vV, pV, .func (.func 37) #[] #[]] w fun e w' => e = .returned (.bool (fitsB vs pl)) ∧ Ext w w' := by
  obtain ⟨Av, cv, rfl, hv1, hv2, hvc⟩ := id hv.form
  obtain ⟨Ap, cp, rfl, hp1, hp2, hpc⟩ := id hp.form
  unfold maxLen at hv2 hp2
  have HVC := Lib.hid hvc
  have HPC := Lib.hid hpc
  have eg := enters_of Tryz.func37 (by kernel_rfl) rfl
  have HF : Hid (fitsB vs pl = (decide (vs.length = pl.length) && (List.range vs.length).all fun j => fitB (vs[j]?.getD default) (pl[j]?.getD 0))) := rfl
  generalize fitsB vs pl = q at *
  clear hvc hpc hv hp
  by_cases hl : vs.length = pl.length
  · have HL := Lib.hid hl
    have hln : ((vs.length : Int) != (pl.length : Int)) = false := by rw [bne_eq_false_iff_eq]; exact_mod_cast hl
    have HT : Hid ((∀ j, j < vs.length → fitB (vs[j]?.getD default) (pl[j]?.getD 0) = true) → q = true) := by
      show _ → _
      intro h
      rw [HF.out, decide_eq_true hl, Bool.true_and, List.all_eq_true]
      intro j hj
      exact h j (by simpa using hj)
    have HX : Hid (∀ j, j < vs.length → fitB (vs[j]?.getD default) (pl[j]?.getD 0) = false → q = false) := by
      intro j hj h
      rw [HF.out, decide_eq_true hl, Bool.true_and, Bool.eq_false_iff]
      intro ha
      have := List.all_eq_true.1 ha j (by simpa using hj)
      rw [h] at this
      cases this
    clear HF hl
    go_enter Tryz.func36, Tryz.ntmps36
    go_wp2_with fail
    go_loopw [17] (fun i wr => ∃ k : Nat, k ≤ vs.length ∧ i = .int .i64 k ∧ Hid (∀ j, j < k → fitB (vs[j]?.getD default) (pl[j]?.getD 0) = true) ∧ Ext w wr) (fun i _ => vs.length - (intOf i).toNat)
    case atStart => exact ⟨0, by omega, rfl, (fun j hj => by omega), Ext.refl _⟩
    case round =>
      obtain ⟨k, hk, rfl, HA, hE⟩ := hrel
      by_cases hlt : k < vs.length
      · have hlp : k < pl.length := by have := HL.out; omega
        have hvs : vs[k]? = some vs[k] := by simp [hlt]
        have hps : pl[k]? = some pl[k] := by simp [hlp]
        obtain ⟨bv, offv, rfl, hbv, hc⟩ := HVC.out k _ hvs
        obtain ⟨bp, offp, rfl, d0⟩ := HPC.out k hlp
        have hk0 := HX.out k hlt
        have hkp := hpk _ (List.getElem_mem hlp)
        have HK1 : Hid (fitB (vs[k]?.getD default) (pl[k]?.getD 0) = true → ∀ j, j < k + 1 → fitB (vs[j]?.getD default) (pl[j]?.getD 0) = true) := by
          show _ → _
          intro h j hj
          rcases Nat.lt_or_ge j k with h1 | h1
          · exact HA.out j h1
          · obtain rfl : j = k := by omega
            exact h
        rw [hvs, hps] at hk0 HK1
        rw [hps] at d0
        simp only [Option.getD_some] at hk0 HK1 d0
        generalize vs[k] = x at *
        generalize pl[k] = p at *
        have hfc := fun W => fit1_calls x p W hkp
        have v0 : World.cell? wr ⟨bv, offv + k * 4, none⟩ = some (.int .i64 x.s.h) := cell_ext (hc 0 _ rfl) _ hE
        have v1 : World.cell? wr ⟨bv, offv + k * 4 + 1, none⟩ = some (.int .i64 x.s.w) := cell_ext (hc 1 _ rfl) _ hE
        have v2 : World.cell? wr ⟨bv, offv + k * 4 + 2, none⟩ = some (.int .i64 x.s.c) := cell_ext (hc 2 _ rfl) _ hE
        have v3 : World.cell? wr ⟨bv, offv + k * 4 + 3, none⟩ = some (.int .i64 x.z) := cell_ext (hc 3 _ rfl) _ hE
        replace d0 := cell_ext d0 _ hE
        have hz := Blk.new wr #[.int .i64 0, .int .i64 0, .int .i64 0, .int .i64 0] 41
        have hb8 : Blk ((wr.alloc (.cells #[.int .i64 0, .int .i64 0, .int .i64 0, .int .i64 0] 41)).setRow wr.heap.size #[.int .i64 x.s.h, .int .i64 x.s.w, .int .i64 x.s.c, .int .i64 x.z]) wr.heap.size #[.int .i64 x.s.h, .int .i64 x.s.w, .int .i64 x.s.c, .int .i64 x.z] 41 := setRow_heap _ _ _ _ _ _ hz
        have hQ : Ext wr ((wr.alloc (.cells #[.int .i64 0, .int .i64 0, .int .i64 0, .int .i64 0] 41)).setRow wr.heap.size #[.int .i64 x.s.h, .int .i64 x.s.w, .int .i64 x.s.c, .int .i64 x.z]) := ext_setRow (ext_alloc _ _) _ (Nat.le_refl _)
        have d1 := cell_ext d0 _ hQ
        have hE2 := hE.trans hQ
        clear hvs hps hc hQ d0 hkp HA
        go_upto_region 6 with (refine wpList_store_row rfl 41 _ _ rfl wr.heap.size #[.int .i64 x.s.h, .int .i64 x.s.w, .int .i64 x.s.c, .int .i64 x.z] rfl rfl 41 _ hz (by kernel_rfl) rfl (by simp [Value.oneCell']) ?_)
        clear v0 v1 v2 v3 hz
        generalize World.setRow (World.alloc wr _) _ _ = w1 at *
        generalize wr.heap.size = b8 at *
        have u0 : World.cell? w1 ⟨b8, 0, none⟩ = some (.int .i64 x.s.h) := hb8.cell 0
        have u1 : World.cell? w1 ⟨b8, 1, none⟩ = some (.int .i64 x.s.w) := hb8.cell 1
        have u2 : World.cell? w1 ⟨b8, 2, none⟩ = some (.int .i64 x.s.c) := hb8.cell 2
        have u3 : World.cell? w1 ⟨b8, 3, none⟩ = some (.int .i64 x.z) := hb8.cell 3
        replace hfc := hfc w1
        cases hq : fitB x p with
        | true =>
          have HT1 := Lib.hid (HK1.out hq)
          rw [hq] at hfc
          clear HK1 hq hk0
          go_wp2_with fail
          refine hfc.mono ?_
          rintro e w2 ⟨rfl, h2⟩
          clear u0 u1 u2 u3 d1 hfc
          go_wp2_with fail
          go_roundw
          case rel => exact ⟨k + 1, by omega, by go_num, HT1, hE2.trans h2⟩
          case measure => simp [intOf]; omega
        | false =>
          have HT1 := Lib.hid (hk0 hq)
          rw [hq] at hfc
          clear HK1 hq hk0
          go_wp2_with fail
          refine hfc.mono ?_
          rintro e w2 ⟨rfl, h2⟩
          clear u0 u1 u2 u3 d1 hfc
          go_wp2_with fail
          go_ret
          exact ⟨ret_bool HT1.out.symm, hE2.trans h2⟩
      · have hkk : k = vs.length := by omega
        subst hkk
        have HT1 := Lib.hid (HT.out HA.out)
        go_wp2_with fail
        go_ret
        exact ⟨ret_bool HT1.out.symm, hE⟩
  · have hln : ((vs.length : Int) != (pl.length : Int)) = true := by rw [bne_iff_ne]; exact_mod_cast hl
    have HQ : Hid (q = false) := by show _ = _; rw [HF.out, decide_eq_false hl]; rfl
    clear HF hl
    go_enter Tryz.func36, Tryz.ntmps36
    go_wp2_with fail
    go_ret
    exact ⟨ret_bool HQ.out.symm, Ext.refl _⟩

end Go.Proofs.YtdhdbmfipkppiaaGreat
