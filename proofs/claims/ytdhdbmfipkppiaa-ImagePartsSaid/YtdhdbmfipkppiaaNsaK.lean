/- The walk of isa.Take. -/
import Derived.Test.YtdhdbmfipkppiaaNsaC
import Derived.OwnWalk
namespace Go.Proofs.Ytdhdbmfipkppiaa.Isa
set_option linter.unusedSimpArgs false
set_option linter.unusedVariables false
set_option linter.unnecessarySimpa false
set_option maxRecDepth 10000
open Go.RowKit

def toCm (cs : List Int) : Cm := ⟨cs[0]?.getD 0, cs[1]?.getD 0, cs[2]?.getD 0, cs[3]?.getD 0, cs[4]?.getD 0, cs[5]?.getD 0, cs[6]?.getD 0, cs[7]?.getD 0, cs[8]?.getD 0, cs[9]?.getD 0, cs[10]?.getD 0, cs[11]?.getD 0, cs[12]?.getD 0, cs[13]?.getD 0⟩
theorem toCm_l (c : Cm) : toCm c.l = c := rfl

def stepOk (s : List Int × Bool × List Int × Int) : Bool := okK s.2.2.2 && !s.2.1 && mayB (toCm s.2.2.1)

/-- So many commands are taken off the beginning. -/
def goTake : Nat → List Int → Option (List Cm × List Int)
  | 0, zs => some ([], zs)
  | n + 1, zs => if stepOk (cmdStep zs false) then (goTake n (cmdStep zs false).1).map fun p => (toCm (cmdStep zs false).2.2.1 :: p.1, p.2) else none

def takeL (zs : List Int) : Option (List Cm × Nat) :=
  if zs.length < 2 ∨ 4096 < numOf (zs.take 2) then none else (goTake (numOf (zs.take 2)).toNat (zs.drop 2)).map fun p => (p.1, zs.length - p.2.length)

theorem readF_le : ∀ (l : List Fd) (zs : List Int) (bad : Bool) (cs : List Int), (readF zs bad cs l).1.length ≤ zs.length
  | [], zs, bad, cs => Nat.le_refl _
  | x :: l, zs, bad, cs => by
    rw [readF]
    exact Nat.le_trans (readF_le l _ _ _) (numStep_le zs bad x.wide)
theorem cmdStep_le (zs : List Int) (bad : Bool) : (cmdStep zs bad).1.length ≤ zs.length := by
  unfold cmdStep
  exact Nat.le_trans (readF_le _ _ _ _) (numStep_le zs bad 1)

theorem elem_cmd : ElemT Try.prog 51 57 14 112 := elemT_of (z := .agg #[.int .i64 0, .int .i64 0, .int .i64 0, .int .i64 0, .int .i64 0, .int .i64 0, .int .i64 0, .int .i64 0, .int .i64 0, .int .i64 0, .int .i64 0, .int .i64 0, .int .i64 0, .int .i64 0]) Try.underlying51 (by kernel_rfl) rfl (by omega)

/-- What Take answers. -/
def TakePost (r : Option (List Cm × Nat)) (w : World) (e : Ending) (w' : World) : Prop :=
  (r = none → e = .returned (.tuple #[.slice none 0 0, .int .i64 0, .int .i64 2])) ∧
  (∀ l n, r = some (l, n) → ∃ v', e = .returned (.tuple #[v', .int .i64 n, .int .i64 0]) ∧ w'.ownsRow w.heap.size 57 14 v' l.length (l.flatMap Cm.cs)) ∧ Below w.heap.size w w'

theorem ownsRow_base {w : World} {base base' : Nat} {e : TypeId} {sz : Nat} {v : Value} {n : Nat} {xs : List Value} (h : w.ownsRow base e sz v n xs) (hb : base' ≤ base) : w.ownsRow base' e sz v n xs := by
  refine ⟨h.1, ?_⟩
  rcases h.2 with h2 | ⟨g, cap, cur, h3, h4, h5⟩
  · exact Or.inl h2
  · exact Or.inr ⟨g, cap, cur, h3, Nat.le_trans hb h4, h5⟩

theorem below_grown {w w' : World} {b : Nat} (h : w.grownBy w' (some b)) (hb : w.heap.size ≤ b) : Below w.heap.size w w' := Below.grown (Below.refl _ _) h (Nat.le_refl _) (fun k hk => by cases hk; exact hb)

set_option maxHeartbeats 3200000 in
theorem take_calls (v : Value) (zs : List Int) (w : World) (hv : Ints .u8 w v zs) (hz : ∀ z ∈ zs, 0 ≤ z ∧ z ≤ 255) :
    Calls Try.prog 86 #[v] w (TakePost (takeL zs) w) := by
  have hP : ∀ e w', ((takeL zs = none → e = .returned (.tuple #[.slice none 0 0, .int .i64 0, .int .i64 2])) ∧ (∀ l n, takeL zs = some (l, n) → ∃ v', e = .returned (.tuple #[v', .int .i64 n, .int .i64 0]) ∧ w'.ownsRow w.heap.size 57 14 v' l.length (l.flatMap Cm.cs)) ∧ Below w.heap.size w w') → TakePost (takeL zs) w e w' := fun e w' h => h
  have HP := Lib.hid hP
  clear hP
  have HT : Hid (takeL zs = if zs.length < 2 ∨ 4096 < numOf (zs.take 2) then none else (goTake (numOf (zs.take 2)).toNat (zs.drop 2)).map fun p => (p.1, zs.length - p.2.length)) := rfl
  generalize TakePost (takeL zs) w = R at *
  generalize takeL zs = tk at *
  obtain ⟨A, c, rfl, hlc, hcm, _⟩ := id hv.form
  unfold maxLen at hcm
  have hb0 := below_alloc (Below.refl w.heap.size w) (Nat.le_refl _) (.cells #[.slice A zs.length c, .bool false] 156)
  have hr0 : Rd (w.alloc (.cells #[.slice A zs.length c, .bool false] 156)) w.heap.size (.slice A zs.length c) zs false := ⟨heap_alloc_new w _, Row.below hv hb0, hz, by
    rcases hv.lt with h | h
    · exact Or.inl h
    · exact Or.inr fun e => by have := h _ e; omega⟩
  have hn := number_step w.heap.size _ zs false 2 _ hr0 (by omega)
  go_enter Try.func86, Try.ntmps86
  go_wp2_with fail
  generalize w.alloc _ = w0 at *
  refine hn.mono ?_
  rintro e w1 ⟨rfl, ⟨l1, hr1, ho1⟩, hg1⟩
  have hb1 : Below w.heap.size w w1 := Below.grown hb0 hg1 hb0.size (fun k hk => by cases hk; exact Nat.le_refl _)
  clear hn hr0 hg1
  obtain ⟨x0, x1, _⟩ := hr1.cells
  by_cases h2 : zs.length < 2
  · have e : numStep zs false 2 = (0, zs, true) := by unfold numStep; rw [if_neg (by omega)]
    rw [e] at x1 ⊢
    simp only at x1 ⊢
    have HN : Hid (tk = none) := by show _ = _; rw [HT.out, if_pos (Or.inl h2)]
    clear e HT
    go_wp2_with fail
    go_ret3
    exact HP.out _ _ ⟨fun _ => rfl, (fun l n h => by rw [HN.out] at h; cases h), hb1⟩
  · have e : numStep zs false 2 = (numOf (zs.take 2), zs.drop 2, false) := by unfold numStep; rw [if_pos (by omega)]
    rw [e] at x1 hr1 ⊢
    simp only at x1 hr1 ⊢
    have hrg := numOf_range 2 (zs.take 2) (by rw [List.length_take]; omega) (fun z hm => hz z (List.mem_of_mem_take hm))
    obtain ⟨N, hN⟩ := Int.eq_ofNat_of_zero_le hrg.1
    rw [hN] at HT ⊢
    clear e hrg hN
    by_cases h3 : 4096 < (N : Int)
    · have HN : Hid (tk = none) := by show _ = _; rw [HT.out, if_pos (Or.inr h3)]
      clear HT
      go_wp2_with fail
      go_ret3
      exact HP.out _ _ ⟨fun _ => rfl, (fun l n h => by rw [HN.out] at h; cases h), hb1⟩
    · have HT2 : Hid (tk = (goTake N (zs.drop 2)).map fun p => (p.1, zs.length - p.2.length)) := by
        show _ = _
        rw [HT.out, if_neg (by omega), Int.toNat_natCast]
      clear HT
      go_wp2_with fail
      have hblt := hr1.lt
      have HO1 := Lib.hid ho1
      have HV := Lib.hid hv.lt
      clear ho1
      have hnil : w1.ownsRow (w.heap.size + 1) 57 14 (.slice none 0 0) ([] : List Cm).length (([] : List Cm).flatMap Cm.cs) := World.ownsRow_nil _ _ _ _
      go_loopw [7, 24] (fun b i wr => ∃ (k : Nat) (lk : List Cm) (zk : List Int) (lv : Value), k ≤ N ∧ i = .int .i64 k ∧ Hid (goTake N (zs.drop 2) = (goTake (N - k) zk).map fun p => (lk ++ p.1, p.2)) ∧ Hid (lk.length = k) ∧ Hid (zk.length ≤ zs.length) ∧ Hid (lv.ownBlock = (Value.slice A zs.length c).ownBlock) ∧ Rd wr w.heap.size lv zk false ∧ wr.ownsRow (w.heap.size + 1) 57 14 b lk.length (lk.flatMap Cm.cs) ∧ Below w.heap.size w wr) (fun _ i _ => N - (intOf i).toNat)
      case atStart => exact ⟨0, [], zs.drop 2, l1, by omega, rfl, by show _ = _; simp, rfl, by show _ ≤ _; simp, HO1.out, hr1, hnil, hb1⟩
      case round =>
        clear hr1 hnil hb1 x0 x1 hblt
        obtain ⟨k, lk, zk, lv, hk, rfl, hgo, hlk, hzk, hlo, hrd, hown, hbel⟩ := hrel
        by_cases hlt : k < N
        · have hc := command_calls w.heap.size lv zk false wr hrd
          obtain ⟨M, hM⟩ : ∃ M, N - k = M + 1 := ⟨N - k - 1, by omega⟩
          have hM' : N - (k + 1) = M := by omega
          have HG : Hid (goTake N (zs.drop 2) = (if stepOk (cmdStep zk false) then (goTake M (cmdStep zk false).1).map fun p => (toCm (cmdStep zk false).2.2.1 :: p.1, p.2) else none).map fun p => (lk ++ p.1, p.2)) := by
            show _ = _
            rw [hgo.out, hM, goTake]
          have HM := Lib.hid hM'
          clear hM hM' hgo
          go_wp2_with fail
          refine hc.mono ?_
          rintro e w2 ⟨x, hx, rfl, ⟨lv2, hrd2, ho2⟩, hg2⟩
          have hown2 := hown.kept hg2 (by
            cases hq : u7.ownBlock with
            | none => exact Or.inl rfl
            | some j => exact Or.inr fun e => by have := (hown.lt j hq).1; have := Option.some.inj e; omega)
          have hb2 : Below w.heap.size w w2 := Below.grown hbel hg2 hbel.size (fun k hk => by cases hk; exact Nat.le_refl _)
          have hb3 := below_alloc hb2 hb2.size (.cells #[.int .i64 x.k, .int .i64 x.s, .int .i64 x.n, .int .i64 x.f, .int .i64 x.r, .int .i64 x.o, .int .i64 x.d, .int .i64 x.p, .int .i64 x.i0, .int .i64 x.i1, .int .i64 x.b0, .int .i64 x.b1, .int .i64 x.h0, .int .i64 x.h1] 57)
          have hx2 : toCm (cmdStep zk false).2.2.1 = x := by rw [← hx]; rfl
          have hst : (okK (cmdStep zk false).2.2.2 && !(cmdStep zk false).2.1 && mayB x) = stepOk (cmdStep zk false) := by unfold stepOk; rw [hx2]
          have hle := Nat.le_trans (cmdStep_le zk false) hzk.out
          rw [hst]
          rw [hx2] at HG
          have hbad : stepOk (cmdStep zk false) = true → (cmdStep zk false).2.1 = false := fun h => by
            unfold stepOk at h
            simp only [Bool.and_eq_true, Bool.not_eq_true'] at h
            exact h.1.2
          have HBD := Lib.hid hbad
          have HLE := Lib.hid hle
          clear hc hst hx hx2 hbad hle hown hg2 hbel
          generalize stepOk (cmdStep zk false) = q at *
          cases q with
          | false =>
            have HN : Hid (tk = none) := by
              show _ = _
              rw [HT2.out, HG.out]
              rfl
            clear HG HT2
            unfold Cm.v
            go_wp2_with fail
            go_ret3
            exact HP.out _ _ ⟨fun _ => rfl, (fun l n h => by rw [HN.out] at h; cases h), hb3⟩
          | true =>
            have hbf := HBD.out rfl
            rw [hbf] at hrd2
            clear hbf HBD
            have hlk1 := hlk.out
            have hkN : k < 4096 := by omega
            have hb4 := below_alloc hb3 hb3.size (.cells #[.int .i64 x.k, .int .i64 x.s, .int .i64 x.n, .int .i64 x.f, .int .i64 x.r, .int .i64 x.o, .int .i64 x.d, .int .i64 x.p, .int .i64 x.i0, .int .i64 x.i1, .int .i64 x.b0, .int .i64 x.b1, .int .i64 x.h0, .int .i64 x.h1] 57)
            have hnew : Row ((w2.alloc (.cells #[.int .i64 x.k, .int .i64 x.s, .int .i64 x.n, .int .i64 x.f, .int .i64 x.r, .int .i64 x.o, .int .i64 x.d, .int .i64 x.p, .int .i64 x.i0, .int .i64 x.i1, .int .i64 x.b0, .int .i64 x.b1, .int .i64 x.h0, .int .i64 x.h1] 57)).alloc (.cells #[.int .i64 x.k, .int .i64 x.s, .int .i64 x.n, .int .i64 x.f, .int .i64 x.r, .int .i64 x.o, .int .i64 x.d, .int .i64 x.p, .int .i64 x.i0, .int .i64 x.i1, .int .i64 x.b0, .int .i64 x.b1, .int .i64 x.h0, .int .i64 x.h1] 57)) (.slice (some ⟨w2.heap.size + 1, 0, none⟩) 1 1) 1 14 x.cs := row_lit (w2.alloc (.cells #[.int .i64 x.k, .int .i64 x.s, .int .i64 x.n, .int .i64 x.f, .int .i64 x.r, .int .i64 x.o, .int .i64 x.d, .int .i64 x.p, .int .i64 x.i0, .int .i64 x.i1, .int .i64 x.b0, .int .i64 x.b1, .int .i64 x.h0, .int .i64 x.h1] 57)) #[.int .i64 x.k, .int .i64 x.s, .int .i64 x.n, .int .i64 x.f, .int .i64 x.r, .int .i64 x.o, .int .i64 x.d, .int .i64 x.p, .int .i64 x.i0, .int .i64 x.i1, .int .i64 x.b0, .int .i64 x.b1, .int .i64 x.h0, .int .i64 x.h1] 57 1 14 (w2.heap.size + 1) (by simp) rfl (by unfold maxLen; omega)
            have hown3 := (hown2.alloc (.cells #[.int .i64 x.k, .int .i64 x.s, .int .i64 x.n, .int .i64 x.f, .int .i64 x.r, .int .i64 x.o, .int .i64 x.d, .int .i64 x.p, .int .i64 x.i0, .int .i64 x.i1, .int .i64 x.b0, .int .i64 x.b1, .int .i64 x.h0, .int .i64 x.h1] 57 (0, 0))).alloc (.cells #[.int .i64 x.k, .int .i64 x.s, .int .i64 x.n, .int .i64 x.f, .int .i64 x.r, .int .i64 x.o, .int .i64 x.d, .int .i64 x.p, .int .i64 x.i0, .int .i64 x.i1, .int .i64 x.b0, .int .i64 x.b1, .int .i64 x.h0, .int .i64 x.h1] 57 (0, 0))
            have hrd3 := (hrd2.below (below_alloc (Below.refl w2.heap.size w2) (Nat.le_refl _) (.cells #[.int .i64 x.k, .int .i64 x.s, .int .i64 x.n, .int .i64 x.f, .int .i64 x.r, .int .i64 x.o, .int .i64 x.d, .int .i64 x.p, .int .i64 x.i0, .int .i64 x.i1, .int .i64 x.b0, .int .i64 x.b1, .int .i64 x.h0, .int .i64 x.h1] 57))).below (below_alloc (Below.refl _ _) (Nat.le_refl _) (.cells #[.int .i64 x.k, .int .i64 x.s, .int .i64 x.n, .int .i64 x.f, .int .i64 x.r, .int .i64 x.o, .int .i64 x.d, .int .i64 x.p, .int .i64 x.i0, .int .i64 x.i1, .int .i64 x.b0, .int .i64 x.b1, .int .i64 x.h0, .int .i64 x.h1] 57))
            unfold Cm.v
            go_wp2_with (at_builtin; refine stopped ?_)
            refine wpList_append_row rfl rfl elem_cmd hown3 rfl hnew rfl (one_ints _ _) (by omega) (by omega) (by have := hrd2.lt; simp; omega) ?_
            intro v5 w5 ho hgr hn
            have hlo2 : Hid (lv2.ownBlock = (Value.slice A zs.length c).ownBlock) := ho2.trans hlo.out
            have hrd5 := hrd3.grown hgr (fun e => by have := (hown2.lt _ e.symm).1; omega) (by
              rcases HV.out with h | h
              · refine Or.inl (List.eq_nil_of_length_eq_zero ?_)
                have h2 := HLE.out
                rw [h] at h2
                simpa using h2
              · cases hq : lv2.ownBlock with
                | none => exact Or.inr (Or.inl rfl)
                | some j => exact Or.inr (Or.inr (fun e => by
                    have h3 := h j (by rw [← hlo2.out]; exact hq)
                    have := (hown2.lt j e.symm).1
                    omega)))
            have hb5 : Below w.heap.size w w5 := Below.grown hb4 hgr hb4.size (fun k hk => by have := (hown2.lt k hk).1; omega)
            have ho5 : w5.ownsRow (w.heap.size + 1) 57 14 v5 (lk ++ [x]).length ((lk ++ [x]).flatMap Cm.cs) := by
              rw [List.length_append, List.flatMap_append]
              simpa using ho
            have hlk5 : Hid ((lk ++ [x]).length = k + 1) := by show _ = _; rw [List.length_append, hlk1]; rfl
            have HG5 : Hid (goTake N (zs.drop 2) = (goTake (N - (k + 1)) (cmdStep zk false).1).map fun p => ((lk ++ [x]) ++ p.1, p.2)) := by
              show _ = _
              rw [HG.out, HM.out]
              simp [Option.map_map, Function.comp_def]
            clear HG hlk hlk1 ho hgr hn hnew hown2 hown3 hrd2 hrd3 hb2 hb3 hb4 ho2 hlo hrd HM
            go_wp2_with fail
            go_roundw
            case rel => exact ⟨k + 1, lk ++ [x], _, lv2, by omega, by go_num, HG5, hlk5, HLE.out, hlo2, hrd5, ho5, hb5⟩
            case measure => simp [intOf]; omega
        · have hkN : N - k = 0 := by omega
          have HF : Hid (tk = some (lk, zs.length - zk.length)) := by
            show _ = _
            rw [HT2.out, hgo.out, hkN, goTake]
            simp
          obtain ⟨y0, _, _⟩ := hrd.cells
          obtain ⟨A2, c2, rfl, _⟩ := id hrd.2.1.form
          clear hkN
          go_wp2_with fail
          go_region
          go_wp2_with fail
          go_ret3
          refine HP.out _ _ ⟨(fun h => by rw [HF.out] at h; cases h), (fun l n h => ?_), hbel.drew⟩
          rw [HF.out] at h
          cases h
          refine ⟨u7, ?_, ownsRow_drew (ownsRow_base hown (by omega))⟩
          show Ending.returned (Value.tuple #[u7, .int .i64 (wrap64 ((zs.length : Int) - (zk.length : Int))), .int .i64 0]) = _
          have h4 : wrap64 ((zs.length : Int) - (zk.length : Int)) = ((zs.length - zk.length : Nat) : Int) := by
            have := hzk.out
            unfold wrap64
            omega
          rw [h4]

end Go.Proofs.Ytdhdbmfipkppiaa.Isa
