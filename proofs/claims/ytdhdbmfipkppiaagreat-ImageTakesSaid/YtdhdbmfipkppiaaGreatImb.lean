/- The walk of isa.Put. -/
/- The walk of image.May. -/
import Derived.Test.YtdhdbmfipkppiaaGreatNsaB
import Derived.Test.YtdhdbmfipkppiaaGreatIma
set_option linter.unusedSimpArgs false
set_option linter.unusedVariables false
set_option linter.unnecessarySimpa false
namespace Go.Proofs.YtdhdbmfipkppiaaGreat.Isa
set_option maxRecDepth 10000
open Go.RowKit

set_option maxHeartbeats 3200000 in
theorem put_calls (v : Value) (l : List Cm) (w : World) (hl : Cmds w v l) :
    Calls Tryz.prog 21 #[v] w (PutPost l w) := by
  obtain ⟨A, c, rfl, hlc, hcm, _⟩ := id hl.form
  unfold maxLen at hcm
  by_cases hbig : 4096 < l.length
  · have h1 := Lib.hid (show putErr l = 3 from if_pos hbig)
    have h2 := Lib.hid (show putB l = [] from if_pos hbig)
    go_enter Tryz.func21, Tryz.ntmps21
    go_wp2
    go_ret2
    refine ⟨.slice none 0 0, by rw [h1.out]; rfl, ?_, Below.refl _ _⟩
    rw [h2.out]
    exact World.ownsRow_nil _ _ _ _
  · have h1 := Lib.hid (show putErr l = if l.all mayB then 0 else 1 from if_neg hbig)
    have h2 := Lib.hid (show putB l = if l.all mayB then encs l else [] from if_neg hbig)
    have hlit := row_lit w #[.int .i64 l.length] 3 1 1 w.heap.size rfl rfl (by unfold maxLen; omega)
    have hnil : (w.alloc (.cells #[.int .i64 l.length] 3)).ownsRow w.heap.size 5 1 (.slice none 0 0) ([] : List Int).length (([] : List Int).map (Value.int .u8)) := World.ownsRow_nil _ _ _ _
    have hb0 := below_alloc (Below.refl w.heap.size w) (Nat.le_refl _) (.cells #[.int .i64 l.length] 3)
    go_enter Tryz.func21, Tryz.ntmps21
    go_wp2_with fail
    refine (numbers_calls w.heap.size (.slice none 0 0) (.slice (some ⟨w.heap.size, 0, none⟩) 1 1) [] 2 [l.length] _ hnil hb0.size hlit (fun k hk => by cases hk) (fun k hk => by cases hk; simp) (by omega) (by omega) (by simp)).mono ?_
    rintro e w1 ⟨v1, rfl, hg⟩
    have hown := hg.own
    have hb1 := hb0.trans (hg.base hb0.size (fun k hk => by cases hk))
    have e1 : ([] ++ [(l.length : Int)].flatMap (be · 2)) = be l.length 2 := by simp
    rw [e1] at hown
    clear hg e1 hlit hnil hb0
    have hl1 := hl.below hb1 (Nat.le_refl _)
    go_wp2_with fail
    go_loopw [4, 21] (fun b i wr => ∃ (k : Nat) (bk : List Int), k ≤ l.length ∧ i = .int .i64 k ∧ Hid ((l.take k).all mayB = true) ∧ Hid (bk = be l.length 2 ++ (l.take k).flatMap enc) ∧ Hid (bk.length ≤ 2 + k * 14) ∧ wr.ownsRow w.heap.size 5 1 b bk.length (bk.map (.int .u8)) ∧ Below w.heap.size w wr) (fun _ i _ => l.length - (intOf i).toNat)
    case atStart => exact ⟨0, _, by omega, rfl, rfl, by show _ = _; simp, by show _ ≤ _; rw [be_len]; omega, hown, hb1⟩
    case round =>
      clear hown hb1 hl1
      obtain ⟨k, bk, hk, rfl, hall, hbk, hbl, hown, hbel⟩ := hrel
      by_cases hlt : k < l.length
      · have hs : l[k]? = some l[k] := by simp [hlt]
        obtain ⟨_, _, e1, _, _, hcells⟩ := (hl.below hbel (Nat.le_refl _)).form
        cases e1
        obtain ⟨g, off, rfl, hg, x0, x1, x2, x3, x4, x5, x6, x7, x8, x9, x10, x11, x12, x13⟩ := hcells k _ hs
        have HT := Lib.hid (show l.take (k + 1) = l.take k ++ [l[k]] from List.take_succ_eq_append_getElem hlt)
        have HM := Lib.hid (show mayB l[k] = false → l.all mayB = false from fun h => by
          rw [Bool.eq_false_iff]; intro h'; rw [List.all_eq_true.1 h' _ (List.getElem_mem hlt)] at h; cases h)
        clear hcells hs
        generalize l[k] = x at *
        have hbox := cbox_new wr x
        have hm := may_calls x (wr.alloc (.cells #[.int .i64 x.k, .int .i64 x.s, .int .i64 x.n, .int .i64 x.f, .int .i64 x.r, .int .i64 x.o, .int .i64 x.d, .int .i64 x.p, .int .i64 x.i0, .int .i64 x.i1, .int .i64 x.b0, .int .i64 x.b1, .int .i64 x.h0, .int .i64 x.h1] 75))
        have hba := below_alloc (Below.refl wr.heap.size wr) (Nat.le_refl _) (.cells #[.int .i64 x.k, .int .i64 x.s, .int .i64 x.n, .int .i64 x.f, .int .i64 x.r, .int .i64 x.o, .int .i64 x.d, .int .i64 x.p, .int .i64 x.i0, .int .i64 x.i1, .int .i64 x.b0, .int .i64 x.b1, .int .i64 x.h0, .int .i64 x.h1] 75)
        unfold Cm.v at hm
        go_wp2_with fail
        refine hm.mono ?_
        rintro e w2 ⟨rfl, hb2⟩
        have hbox2 := hbox.below hb2 (by simp)
        have hown2 := hown.kept (row := none) (grown_of_ext (Ext.trans (b := wr.alloc _) hba hb2)) (by cases u4.ownBlock <;> simp)
        have hb2' := hbel.trans ((Below.trans hba (hb2.mono (by simp))).mono hbel.size)
        have hsz2 : wr.heap.size < w2.heap.size := hbox2.lt
        have hlt4 : ∀ k, u4.ownBlock = some k → k < wr.heap.size := fun k hk => (hown.lt k hk).2
        clear hm hba hbox hb2 hown hbel x0 x1 x2 x3 x4 x5 x6 x7 x8 x9 x10 x11 x12 x13
        cases hq : mayB x with
        | false =>
          have hme : mayE x = 1 := by unfold mayE; rw [hq]; rfl
          have HA := Lib.hid (HM.out hq)
          rw [hme]
          clear hme hq HM
          go_wp2_with fail
          go_ret2
          refine ⟨.slice none 0 0, by rw [h1.out, HA.out]; rfl, ?_, hb2'⟩
          rw [h2.out, HA.out]
          exact World.ownsRow_nil _ _ _ _
        | true =>
          have hme : mayE x = 0 := by unfold mayE; rw [hq]; rfl
          have HA : Hid ((l.take (k + 1)).all mayB = true) := by
            show _ = _
            rw [HT.out, List.all_append, hall.out]
            simp [hq]
          rw [hme]
          clear hme hq HM hall
          obtain ⟨y0, y1, y2, y3, y4, y5, y6, y7, y8, y9, y10, y11, y12, y13⟩ := hbox2.all
          clear y1 y2 y3 y4 y5 y6 y7 y8 y9 y10 y11 y12 y13
          have hlit := row_lit w2 #[.int .i64 x.k] 3 1 1 w2.heap.size rfl rfl (by unfold maxLen; omega)
          have hb3 := below_alloc (Below.refl w2.heap.size w2) (Nat.le_refl _) (.cells #[.int .i64 x.k] 3)
          have hown3 := hown2.alloc (.cells #[.int .i64 x.k] 3 (0, 0))
          have hsz0 := hb2'.size
          have hbl1 := hbl.out
          have hn := numbers_calls w.heap.size u4 (.slice (some ⟨w2.heap.size, 0, none⟩) 1 1) bk 1 [x.k] _ hown3 (by simp; omega) hlit (sep_new hown2 1 1) (fun k hk => by cases hk; simp) (by omega) (by omega) (by simp; omega)
          clear hbl1
          go_wp2_with fail
          refine hn.mono ?_
          rintro e w4 ⟨v4, rfl, hg4⟩
          have e1 : (bk ++ [x.k].flatMap (be · ((1 : Nat)))) = bk ++ be x.k 1 := by simp
          have hown4 := hg4.own
          rw [e1] at hown4
          have hb4 := hb2'.trans ((hb3.mono (hb2'.size)).trans (hg4.base (by simp; omega) (fun k hk => (hown3.lt k hk).1)))
          have hbox4 : CBox w4 wr.heap.size x.l := (hg4.grown.block _ (by simp; omega) (fun e => by have := hlt4 _ e.symm; omega)).trans (hbox2.below hb3 hsz2)
          have hsz4 : wr.heap.size < w4.heap.size := hbox4.lt
          have hvl : some wr.heap.size ≠ v4.ownBlock := fun e => by
            rcases hg4.near _ e.symm with h | h
            · have := hlt4 _ h; omega
            · simp at h; omega
          clear hn hlit hb3 hown3 hg4 e1 hbox2 hown2 hb2' hsz0 hlt4 y0
          have hf := fields_calls wr.heap.size x.k w4 hbox4.all.1
          go_wp2_with fail
          refine hf.mono ?_
          rintro e w5 ⟨vf, rfl, hrow, hfr, hb5⟩
          have hbox5 := hbox4.below hb5 hsz4
          have hown5 := hown4.kept (row := none) (grown_of_ext hb5) (by cases v4.ownBlock <;> simp)
          have hsep : Sep v4 vf := fun k hk e => by have := hfr k e; have := (hown4.lt k hk).2; omega
          have hb5' := hb4.trans (hb5.mono hb4.size)
          have hsz5 : wr.heap.size < w5.heap.size := hbox5.lt
          have HE : Hid (enc x = be x.k 1 ++ (tbl x.k).flatMap fun y => be (x.l[y.at_]?.getD 0) y.wide) := rfl
          have hat := tbl_at x.k
          have hT10 := tbl_len x.k
          have hsum : Hid ((enc x).length ≤ 14) := enc_len x
          clear hf hfr hb5 hbox4 hown4 hb4 hsz4
          generalize tbl x.k = T at *
          generalize wr.heap.size = B at *
          have hg0 := Grew.refl hown5
          obtain ⟨F, cf, rfl, hlf, hcf, _⟩ := id (fds_form hrow)
          unfold maxLen at hcf
          have hbl1 := hbl.out
          have hB0 : Hid ((bk ++ be x.k 1).length ≤ 2 + k * 14 + 1) := by show _ ≤ _; rw [List.length_append, be_len]; omega
          clear hbl1
          go_wp2_with fail
          go_loopw [4, 41] (fun b i wi => ∃ (j : Nat) (bj : List Int), j ≤ T.length ∧ i = .int .i64 j ∧ Hid (bj = (bk ++ be x.k 1) ++ (T.take j).flatMap fun y => be (x.l[y.at_]?.getD 0) y.wide) ∧ Hid (bj.length ≤ 2 + k * 14 + 1 + 3 * j) ∧ Grew w5 w.heap.size 5 1 v4 bj.length (bj.map (.int .u8)) wi b) (fun _ i _ => T.length - (intOf i).toNat)
          case atStart => exact ⟨0, _, by omega, rfl, by show _ = _; simp, hB0, hg0⟩
          case round =>
            clear hg0 hB0
            obtain ⟨j, bj, hj, rfl, hbj, hbjl, hg⟩ := hrel
            by_cases hjl : j < T.length
            · have hx : T[j]? = some T[j] := by simp [hjl]
              obtain ⟨hxa, hxb, hw1, hw3⟩ := hat T[j] (List.getElem_mem hjl)
              obtain ⟨_, _, e1, _, _, hcells⟩ := fds_form (Row.grown hrow hg.grown hsep.or)
              cases e1
              obtain ⟨gf, of, rfl, c0, c1, c2, c3⟩ := hcells j _ hx
              have HF := Lib.hid (show T.take (j + 1) = T.take j ++ [T[j]] from List.take_succ_eq_append_getElem hjl)
              clear hcells hx
              generalize T[j] = y at *
              have hbw : CBox wr B x.l := (hg.grown.block _ hsz5 hvl).trans hbox5
              have hsw : B < wr.heap.size := hbw.lt
              have hgl := World.block_lt_of_cell? wr _ c0
              simp only at hgl
              go_wp2_with fail
              have hbel6 := below_alloc (Below.refl wr.heap.size wr) (Nat.le_refl _) (.cells #[.pointer (some ⟨B, y.at_, none⟩), .int .i64 y.wide, .int .i64 y.low, .int .i64 y.high] 106)
              have n0 : (wr.alloc (.cells #[.pointer (some ⟨B, y.at_, none⟩), .int .i64 y.wide, .int .i64 y.low, .int .i64 y.high] 106)).cell? ⟨wr.heap.size, 0, none⟩ = some (.pointer (some ⟨B, y.at_, none⟩)) := by
                rw [cell_of_row _ _ 0 _ _ _ (heap_alloc_new wr _)]; rfl
              have n1 : (wr.alloc (.cells #[.pointer (some ⟨B, y.at_, none⟩), .int .i64 y.wide, .int .i64 y.low, .int .i64 y.high] 106)).cell? ⟨wr.heap.size, 1, none⟩ = some (.int .i64 y.wide) := by
                rw [cell_of_row _ _ 1 _ _ _ (heap_alloc_new wr _)]; rfl
              have n2 := (hbw.below hbel6 hsw).cell (i := y.at_) hxa
              have hg6 := hg.alloc (.cells #[.pointer (some ⟨B, y.at_, none⟩), .int .i64 y.wide, .int .i64 y.low, .int .i64 y.high] 106)
              have hs6 : wr.heap.size < (wr.alloc (.cells #[.pointer (some ⟨B, y.at_, none⟩), .int .i64 y.wide, .int .i64 y.low, .int .i64 y.high] 106)).heap.size := by simp
              have hvr : some wr.heap.size ≠ u4.ownBlock := fun e => by have := (hg.own.lt _ e.symm).2; omega
              have hvB : some B ≠ u4.ownBlock := fun e => by
                rcases hg.near _ e.symm with h | h
                · exact hvl h.symm
                · omega
              generalize hX : x.l[y.at_]?.getD 0 = z at *
              have HX := Lib.hid hX
              clear hX hbw c0 c1 c2 c3 hbel6 hg
              generalize wr.alloc (.cells #[.pointer (some ⟨B, y.at_, none⟩), .int .i64 y.wide, .int .i64 y.low, .int .i64 y.high] 106) = w6 at *
              generalize wr.heap.size = G at *
              have k0 : ∀ W, Keeps [G, B] w6 W → W.cell? ⟨G, 0, none⟩ = some (.pointer (some ⟨B, y.at_, none⟩)) := fun W hW => (hW.cell (by simp)).trans n0
              have k1 : ∀ W, Keeps [G, B] w6 W → W.cell? ⟨G, 1, none⟩ = some (.int .i64 y.wide) := fun W hW => (hW.cell (by simp)).trans n1
              have k2 : ∀ W, Keeps [G, B] w6 W → W.cell? ⟨B, y.at_, none⟩ = some (.int .i64 z) := fun W hW => (hW.cell (by simp)).trans n2
              clear n0 n1 n2
              refine wp_region_S (Keeps [G, B] w6) [(0, true), (1, true), (2, true), (3, true), (4, true), (5, true), (6, true), (7, false), (8, false), (9, true)] (by kernel_rfl) (by kernel_rfl) (fun _ _ d _ _ h => by cases d <;> exact h) (Keeps.drew _ _) ?_
              simp only [pickE, List.getElem?_cons_zero, List.getElem?_cons_succ]
              repeat (refine wpF_pure (by rfl) (fun W hW => by go_simp; with_reducible rfl) ?_; simp only [Act.put, List.setIfInBounds_toArray, List.set_cons_zero, List.set_cons_succ])
              have hg7 := hg6.drew
              have hK7 : Keeps [G, B] w6 w6.drew := Keeps.drew _ _
              have hs7 : G < w6.drew.heap.size := hs6
              have hsz7 : w.heap.size ≤ w6.drew.heap.size := Nat.le_trans hb5'.size hg7.grown.size
              clear hg6 hs6 k0 k1 k2
              generalize w6.drew = w7 at *
              have hlit := row_lit w7 #[.int .i64 z] 3 1 1 w7.heap.size rfl rfl (by unfold maxLen; omega)
              have hg8 := hg7.alloc (.cells #[.int .i64 z] 3)
              have hK8 := hK7.trans (Keeps.below (below_alloc (Below.refl w7.heap.size w7) (Nat.le_refl _) (.cells #[.int .i64 z] 3)) (bs := [G, B]) (by simp; omega))
              have hbjl1 := hbjl.out
              have hn := numbers_calls w.heap.size u4 (.slice (some ⟨w7.heap.size, 0, none⟩) 1 1) bj y.wide [z] _ hg8.own (by simp; omega) hlit (sep_new hg7.own 1 1) (fun k hk => by cases hk; simp) hw1 (by omega) (by simp; omega)
              clear hbjl1
              refine wpF_step (by rfl) (fun K hK => ?_)
              go_simp
              refine hK _ _ hK8 ?_
              clear hK K
              refine wpF_step (by rfl) (fun K hK => ?_)
              go_simp
              refine hn.mono ?_
              rintro e w9 ⟨v9, rfl, hg9⟩
              refine hK _ _ (hK8.trans (Keeps.grown hg9.grown (fun k hk => by
                simp only [List.mem_cons, List.not_mem_nil, or_false] at hk
                rcases hk with rfl | rfl
                · exact ⟨by simp; omega, hvr⟩
                · exact ⟨by simp; omega, hvB⟩))) ?_
              clear hK K
              have e2 : (bj ++ [z].flatMap (be · y.wide)) = bj ++ be z y.wide := by simp
              rw [e2] at hg9
              have hg10 := hg8.trans hg9
              have hbj2 : Hid (bj ++ be z y.wide = (bk ++ be x.k 1) ++ (T.take (j + 1)).flatMap fun y => be (x.l[y.at_]?.getD 0) y.wide) := by
                show _ = _
                rw [HF.out, List.flatMap_append, hbj.out]
                simp [HX.out]
              have hbl2 : Hid ((bj ++ be z y.wide).length ≤ 2 + k * 14 + 1 + 3 * (j + 1)) := by
                show _ ≤ _
                have := hbjl.out
                rw [List.length_append, be_len]
                omega
              clear e2 hg8 hg9 hg7 hlit hn hK7 hK8 HF hbj hbjl
              refine wpF_pure (by rfl) (fun W hW => by go_simp; with_reducible rfl) ?_
              simp only [Act.put, List.setIfInBounds_toArray, List.set_cons_zero, List.set_cons_succ]
              refine wpF_nil ?_
              go_wp2_with fail
              go_roundw
              case rel => exact ⟨j + 1, _, by omega, by go_num, hbj2, hbl2, hg10⟩
              case measure => simp [intOf]; omega
            · have hjj : T.take j = T := List.take_of_length_le (by omega)
              have hbj2 : Hid (bj = be l.length 2 ++ (l.take (k + 1)).flatMap enc) := by
                show _ = _
                rw [hbj.out, hjj, hbk.out, HT.out, List.flatMap_append, List.append_assoc, List.append_assoc]
                simp [HE.out]
              have hbl2 : Hid (bj.length ≤ 2 + (k + 1) * 14) := by
                show _ ≤ _
                have h1 := hsum.out
                have h3 := hbl.out
                rw [hbj.out, hjj, List.append_assoc, ← HE.out, List.length_append]
                omega
              have hownF := hg.own
              have hbelF := hb5'.trans (hg.base hb5'.size (fun k hk => (hown5.lt k hk).1))
              clear hg hjj hbj hbjl hbk hbl HE HT
              go_wp2_with fail
              go_roundw
              case rel => exact ⟨k + 1, bj, by omega, by go_num, HA, hbj2, hbl2, hownF, hbelF⟩
              case measure => simp [intOf]; omega
      · have hkk : k = l.length := by omega
        have hA : Hid (l.all mayB = true) := by
          have := hall.out
          rwa [hkk, List.take_length] at this
        have hB : Hid (bk = encs l) := by
          show _ = _
          rw [hbk.out, hkk, List.take_length]
          rfl
        clear hall hbk hbl
        go_wp2_with fail
        go_ret2
        refine ⟨_, by rw [h1.out, hA.out]; rfl, ?_, hbel⟩
        rw [h2.out, hA.out, if_pos rfl, ← hB.out]
        exact hown

end Go.Proofs.YtdhdbmfipkppiaaGreat.Isa

namespace Go.Proofs.YtdhdbmfipkppiaaGreat
open Go.RowKit

/-- What image.May answers. -/
def mayI (g : Gr) (pl : List Int) (L0 L1 L2 : List Isa.Cm) : Int :=
  if (valuesR g).2 ≠ 0 then (valuesR g).2 else
  if fitsB (valuesR g).1 pl = false then 1 else
  if Isa.putErr L0 ≠ 0 then Isa.putErr L0 else
  if Isa.putErr L1 ≠ 0 then Isa.putErr L1 else Isa.putErr L2
def pick3 {α : Type} (a b c : α) (j : Nat) : α := if j = 0 then a else if j = 1 then b else c

def MayP (z : Int) (w : World) (e : Ending) (w' : World) : Prop := e = .returned (.int .i64 z) ∧ Ext w w'

set_option maxRecDepth 8000 in
set_option maxHeartbeats 6400000 in
theorem imay_calls (g : Gr) (pV s0 s1 s2 : Value) (pl : List Int) (L0 L1 L2 : List Isa.Cm) (w : World) (hg : GrAt w g) (hp : Ints .i64 w pV pl) (hpk : ∀ z ∈ pl, InK .i64 z)
    (h0 : Isa.Cmds w s0 L0) (h1 : Isa.Cmds w s1 L1) (h2 : Isa.Cmds w s2 L2) :
    Calls Tryz.prog 12 #[.agg #[g.iV, g.nV, g.oV, pV, s0, s1, s2]] w (MayP (mayI g pl L0 L1 L2) w) := by
  have HM0 : Hid (mayI g pl L0 L1 L2 = if (valuesR g).2 ≠ 0 then (valuesR g).2 else if fitsB (valuesR g).1 pl = false then 1 else if Isa.putErr L0 ≠ 0 then Isa.putErr L0 else if Isa.putErr L1 ≠ 0 then Isa.putErr L1 else Isa.putErr L2) := rfl
  have HP : Hid (∀ e w', e = .returned (.int .i64 (mayI g pl L0 L1 L2)) → Ext w w' → MayP (mayI g pl L0 L1 L2) w e w') := fun e w' h1 h2 => ⟨h1, h2⟩
  generalize MayP (mayI g pl L0 L1 L2) w = PP at *
  have hvc := fun W (h : Ext w W) => values_calls g W (hg.ext h)
  have hb0 := Blk.new w #[g.iV, g.nV, g.oV, pV, s0, s1, s2] 32
  have hE1 := ext_alloc w (.cells #[g.iV, g.nV, g.oV, pV, s0, s1, s2] 32)
  go_enter Tryz.func12, Tryz.ntmps12
  go_upto_region 1 with fail
  generalize World.alloc w _ = w1 at *
  replace hvc := hvc _ hE1
  unfold ValsPost at hvc
  have q0 : World.cell? w1 ⟨w.heap.size, 0, none⟩ = some g.iV := hb0.cell 0
  have q1 : World.cell? w1 ⟨w.heap.size, 1, none⟩ = some g.nV := hb0.cell 1
  have q2 : World.cell? w1 ⟨w.heap.size, 2, none⟩ = some g.oV := hb0.cell 2
  by_cases hv0 : (valuesR g).2 = 0
  · have HM1 := HM0.out
    rw [if_neg (show ¬ ((valuesR g).2 ≠ 0) from fun h => h hv0)] at HM1
    go_wp2_with fail
    refine hvc.mono ?_
    rintro e w2 ⟨hA, _, hE2⟩
    obtain ⟨vV, rfl, hown⟩ := hA hv0
    have hEw := hE1.trans hE2
    replace hb0 := hb0.ext hE2
    clear q0 q1 q2 hvc hA hv0 HM0
    generalize (valuesR g).1 = vs at *
    have hvls : Vls w2 vV vs := row_of_own hown
    have heq := fun W (h : Ext w2 W) => eqVP_calls vV pV vs pl W (hvls.ext h) ((hp.ext hEw).ext h) hpk
    replace heq := heq w2 (Ext.refl _)
    have q3 : World.cell? w2 ⟨w.heap.size, 3, none⟩ = some pV := hb0.cell 3
    by_cases hf : fitsB vs pl = true
    · rw [if_neg (by rw [hf]; simp)] at HM1
      have HM := Lib.hid HM1
      rw [hf] at heq
      clear HM1 hf
      go_wp2_with fail
      refine heq.mono ?_
      rintro e w3 ⟨rfl, hE3⟩
      replace hEw := hEw.trans hE3
      replace hb0 := hb0.ext hE3
      clear q3 heq hE1 hE2 hown hvls hE3
      have q4 : World.cell? w3 ⟨w.heap.size, 4, none⟩ = some s0 := hb0.cell 4
      have q5 : World.cell? w3 ⟨w.heap.size, 5, none⟩ = some s1 := hb0.cell 5
      have q6 : World.cell? w3 ⟨w.heap.size, 6, none⟩ = some s2 := hb0.cell 6
      replace h0 := h0.below hEw (Nat.le_refl _)
      replace h1 := h1.below hEw (Nat.le_refl _)
      replace h2 := h2.below hEw (Nat.le_refl _)
      have x0 : ∀ W : World, (Instr.index 30 (.agg #[s0, s1, s2]) (.int .i64 0)).run Tryz.prog W = .ok s0 W := fun _ => by kernel_rfl
      have x1 : ∀ W : World, (Instr.index 30 (.agg #[s0, s1, s2]) (.int .i64 1)).run Tryz.prog W = .ok s1 W := fun _ => by kernel_rfl
      have x2 : ∀ W : World, (Instr.index 30 (.agg #[s0, s1, s2]) (.int .i64 2)).run Tryz.prog W = .ok s2 W := fun _ => by kernel_rfl
      go_wp2_with fail
      clear q4 q5 q6
      go_loopw [27] (fun i wr => ∃ k : Nat, k ≤ 3 ∧ i = .int .i64 k ∧ Hid (∀ j, j < k → Isa.putErr (pick3 L0 L1 L2 j) = 0) ∧ Ext w3 wr) (fun i _ => 3 - (intOf i).toNat)
      case atStart => exact ⟨0, by omega, rfl, (fun j hj => by omega), Ext.refl _⟩
      case round =>
        obtain ⟨k, hk, rfl, HA, hE⟩ := hrel
        rcases (by omega : k = 0 ∨ k = 1 ∨ k = 2 ∨ k = 3) with rfl | rfl | rfl | rfl
        · have hput := Isa.put_calls s0 L0 wr (h0.below hE (Nat.le_refl _))
          unfold Isa.PutPost at hput
          by_cases he : Isa.putErr L0 = 0
          · rw [he] at hput
            have HN : Hid (∀ j, j < 1 → Isa.putErr (pick3 L0 L1 L2 j) = 0) := by
              intro j hj
              rcases Nat.lt_or_ge j 0 with h | h
              · exact HA.out j h
              · obtain rfl : j = 0 := by omega
                exact he
            clear he HA
            go_wp2_with fail
            refine hput.mono ?_
            rintro e wa ⟨vb, rfl, _, hEa⟩
            have hE2 := hE.trans hEa
            clear hput hEa hE
            go_wp2_with fail
            go_roundw
            case rel => exact ⟨1, by omega, rfl, HN, hE2⟩
            case measure => simp [intOf]
          · have HV : Hid (mayI g pl L0 L1 L2 = Isa.putErr L0) := by
              show _ = _
              rw [HM.out, if_pos he]
            have hne : (Isa.putErr L0 != 0) = true := by simpa using he
            have hEr := hEw.trans hE
            clear he HA
            generalize Isa.putErr L0 = z at *
            go_wp2_with fail
            refine hput.mono ?_
            rintro e wa ⟨vb, rfl, _, hEa⟩
            have HH := Lib.hid (hEr.trans hEa)
            clear hput hEa hE hEr
            go_wp2_with fail
            exact HP.out _ _ (by rw [HV.out]; (try rfl)) HH.out
        · have hput := Isa.put_calls s1 L1 wr (h1.below hE (Nat.le_refl _))
          unfold Isa.PutPost at hput
          by_cases he : Isa.putErr L1 = 0
          · rw [he] at hput
            have HN : Hid (∀ j, j < 2 → Isa.putErr (pick3 L0 L1 L2 j) = 0) := by
              intro j hj
              rcases Nat.lt_or_ge j 1 with h | h
              · exact HA.out j h
              · obtain rfl : j = 1 := by omega
                exact he
            clear he HA
            go_wp2_with fail
            refine hput.mono ?_
            rintro e wa ⟨vb, rfl, _, hEa⟩
            have hE2 := hE.trans hEa
            clear hput hEa hE
            go_wp2_with fail
            go_roundw
            case rel => exact ⟨2, by omega, rfl, HN, hE2⟩
            case measure => simp [intOf]
          · have HV : Hid (mayI g pl L0 L1 L2 = Isa.putErr L1) := by
              show _ = _
              rw [HM.out, if_neg (show ¬ (Isa.putErr L0 ≠ 0) from fun h => h (HA.out 0 (by omega))), if_pos he]
            have hne : (Isa.putErr L1 != 0) = true := by simpa using he
            have hEr := hEw.trans hE
            clear he HA
            generalize Isa.putErr L1 = z at *
            go_wp2_with fail
            refine hput.mono ?_
            rintro e wa ⟨vb, rfl, _, hEa⟩
            have HH := Lib.hid (hEr.trans hEa)
            clear hput hEa hE hEr
            go_wp2_with fail
            exact HP.out _ _ (by rw [HV.out]; (try rfl)) HH.out
        · have hput := Isa.put_calls s2 L2 wr (h2.below hE (Nat.le_refl _))
          unfold Isa.PutPost at hput
          by_cases he : Isa.putErr L2 = 0
          · rw [he] at hput
            have HN : Hid (∀ j, j < 3 → Isa.putErr (pick3 L0 L1 L2 j) = 0) := by
              intro j hj
              rcases Nat.lt_or_ge j 2 with h | h
              · exact HA.out j h
              · obtain rfl : j = 2 := by omega
                exact he
            clear he HA
            go_wp2_with fail
            refine hput.mono ?_
            rintro e wa ⟨vb, rfl, _, hEa⟩
            have hE2 := hE.trans hEa
            clear hput hEa hE
            go_wp2_with fail
            go_roundw
            case rel => exact ⟨3, by omega, rfl, HN, hE2⟩
            case measure => simp [intOf]
          · have HV : Hid (mayI g pl L0 L1 L2 = Isa.putErr L2) := by
              show _ = _
              rw [HM.out, if_neg (show ¬ (Isa.putErr L0 ≠ 0) from fun h => h (HA.out 0 (by omega))), if_neg (show ¬ (Isa.putErr L1 ≠ 0) from fun h => h (HA.out 1 (by omega)))]
            have hne : (Isa.putErr L2 != 0) = true := by simpa using he
            have hEr := hEw.trans hE
            clear he HA
            generalize Isa.putErr L2 = z at *
            go_wp2_with fail
            refine hput.mono ?_
            rintro e wa ⟨vb, rfl, _, hEa⟩
            have HH := Lib.hid (hEr.trans hEa)
            clear hput hEa hE hEr
            go_wp2_with fail
            exact HP.out _ _ (by rw [HV.out]; (try rfl)) HH.out
        · have HV : Hid (mayI g pl L0 L1 L2 = 0) := by
            show _ = _
            rw [HM.out, if_neg (show ¬ (Isa.putErr L0 ≠ 0) from fun h => h (HA.out 0 (by omega))), if_neg (show ¬ (Isa.putErr L1 ≠ 0) from fun h => h (HA.out 1 (by omega)))]
            exact HA.out 2 (by omega)
          have HH := Lib.hid (hEw.trans hE)
          go_wp2_with fail
          exact HP.out _ _ (by rw [HV.out]; (try rfl)) HH.out
    · have hf' : fitsB vs pl = false := by simpa using hf
      rw [if_pos hf'] at HM1
      have HM := Lib.hid HM1
      rw [hf'] at heq
      clear HM1 hf hf'
      go_wp2_with fail
      refine heq.mono ?_
      rintro e w3 ⟨rfl, hE3⟩
      have HH := Lib.hid (hEw.trans hE3)
      clear heq q3
      go_wp2_with fail
      exact HP.out _ _ (by rw [HM.out]; (try rfl)) HH.out
  · have HM : Hid (mayI g pl L0 L1 L2 = (valuesR g).2) := by show _ = _; rw [HM0.out, if_pos hv0]
    have hz1 : ((valuesR g).2 != 0) = true := by simpa using hv0
    go_wp2_with fail
    refine hvc.mono ?_
    rintro e w2 ⟨_, hA, hE2⟩
    obtain rfl := hA hv0
    have HH := Lib.hid (hE1.trans hE2)
    clear hvc hA hv0 q0 q1 q2 HM0
    generalize (valuesR g).2 = z at *
    go_wp2_with fail
    exact HP.out _ _ (by rw [HM.out]; (try rfl)) HH.out

end Go.Proofs.YtdhdbmfipkppiaaGreat
