/- The walk of isa.May. -/
/- The walk of isa.numbers. -/
import Derived.Test.YtmddlhfahfelpaaNsaQ
import Derived.Test.YtmddlhfahfelpaaVok
set_option linter.unusedSimpArgs false
set_option linter.unusedVariables false
set_option linter.unnecessarySimpa false
namespace Go.Proofs.Ytmddlhfahfelpaa.Isa
set_option maxRecDepth 10000
open Go.RowKit

theorem cm_of_list : ∀ cs : List Int, cs.length = 14 → ∃ c : Cm, cs = c.l
  | [k, s, n, f, r, o, d, p, i0, i1, b0, b1, h0, h1], _ => ⟨⟨k, s, n, f, r, o, d, p, i0, i1, b0, b1, h0, h1⟩, rfl⟩

theorem set_head {cs : List Int} {i : Nat} (h : 1 ≤ i) (z : Int) : (cs.set i z)[0]?.getD 0 = cs[0]?.getD 0 := by
  rw [List.getElem?_set_ne (by omega)]

set_option maxHeartbeats 3200000 in
theorem may_calls (c : Cm) (w : World) :
    Calls Try.prog 38 #[c.v] w fun e w' => e = .returned (.int .i64 (mayE c)) ∧ Below w.heap.size w w' := by
  have HM : Hid (mayE c = if mayB c then 0 else 1) := rfl
  have HB : Hid (mayB c = ((runF c.l (okK c.k) (tbl c.k)).2 && decide ((runF c.l (okK c.k) (tbl c.k)).1 = (Cm.of c.k).l))) := rfl
  have hbox := cbox_new w c
  have hnew := below_alloc (Below.refl w.heap.size w) (Nat.le_refl _) (.cells #[.int .i64 c.k, .int .i64 c.s, .int .i64 c.n, .int .i64 c.f, .int .i64 c.r, .int .i64 c.o, .int .i64 c.d, .int .i64 c.p, .int .i64 c.i0, .int .i64 c.i1, .int .i64 c.b0, .int .i64 c.b1, .int .i64 c.h0, .int .i64 c.h1] 47)
  generalize mayE c = me at *
  generalize mayB c = mb at *
  unfold Cm.v
  go_enter Try.func38, Try.ntmps38
  go_wp2_with fail
  generalize w.alloc _ = w0 at *
  have hlt0 := hbox.lt
  refine (fields_calls w.heap.size c.k w0 hbox.all.1).mono ?_
  rintro e w1 ⟨v, rfl, hrow, hfr, hb1⟩
  have hbox1 := hbox.below hb1 hlt0
  have hb1 := hnew.trans (hb1.mono hnew.size)
  have hvb : v.ownBlock ≠ some w.heap.size := fun e => by have := hfr _ e; omega
  have hat := tbl_at c.k
  clear hbox hnew hfr hlt0
  generalize hL : c.l = L at *
  have hL14 : L.length = 14 := by rw [← hL]; rfl
  have hLz : L[0]?.getD 0 = c.k := by rw [← hL]; rfl
  clear hL
  generalize hK : c.k = z at *
  clear hK
  generalize tbl z = T at *
  obtain ⟨A, cp, rfl, hlc, hcm, _⟩ := fds_form hrow
  unfold maxLen at hcm
  go_wp2_with fail
  go_loopw [4, 13] (fun o i wr => ∃ (k : Nat) (ok : Bool) (cs : List Int), k ≤ T.length ∧ i = .int .i64 k ∧ o = .bool ok ∧ Hid (runF cs ok (T.drop k) = runF L (okK z) T) ∧ Hid (cs.length = 14) ∧ Hid (cs[0]?.getD 0 = z) ∧ CBox wr w.heap.size cs ∧ Row wr (.slice A T.length cp) T.length 4 (Fds w.heap.size T) ∧ Below w.heap.size w wr) (fun _ i _ => T.length - (intOf i).toNat)
  case atStart => exact ⟨0, okK z, L, by omega, rfl, rfl, rfl, hL14, hLz, hbox1, hrow, hb1⟩
  case round =>
    clear hbox1 hrow hb1 hL14 hLz
    obtain ⟨k, ok, cs, hk, rfl, rfl, hrun, hlen, hz, hbox, hrow, hbel⟩ := hrel
    by_cases hlt : k < T.length
    · have hx : T[k]? = some T[k] := by simp [hlt]
      obtain ⟨hxa, hxb, _, _⟩ := hat T[k] (List.getElem_mem hlt)
      obtain ⟨_, _, e1, _, _, hcells⟩ := fds_form hrow
      cases e1
      obtain ⟨g, off, rfl, c0, c1, c2, c3⟩ := hcells k _ hx
      have HR : Hid (runF (cs.set T[k].at_ 0) (ok && decide (T[k].low ≤ cs[T[k].at_]?.getD 0) && decide (cs[T[k].at_]?.getD 0 ≤ T[k].high)) (T.drop (k + 1)) = runF L (okK z) T) := by
        show _ = _
        rw [← hrun.out, List.drop_eq_getElem_cons hlt, runF]
      clear hcells hx hrun
      generalize T[k] = x at *
      have hg := World.block_lt_of_cell? wr _ c0
      have hy := hbox.cell (i := x.at_) (by rw [hlen.out]; exact hxa)
      have hfz := hbox.frozen x.at_
      have hbl := hbox.lt
      simp only at hg
      generalize cs[x.at_]?.getD 0 = y at *
      go_wp2_with fail
      have hal := below_alloc hbel hbel.size (.cells #[.pointer (some ⟨w.heap.size, x.at_, none⟩), .int .i64 x.wide, .int .i64 x.low, .int .i64 x.high] 101)
      have hbox5 := (hbox.below (below_alloc (Below.refl wr.heap.size wr) (Nat.le_refl _) (.cells #[.pointer (some ⟨w.heap.size, x.at_, none⟩), .int .i64 x.wide, .int .i64 x.low, .int .i64 x.high] 101)) hbl).drew
      have hrow5 := (hrow.below (below_alloc (Below.refl wr.heap.size wr) (Nat.le_refl _) (.cells #[.pointer (some ⟨w.heap.size, x.at_, none⟩), .int .i64 x.wide, .int .i64 x.low, .int .i64 x.high] 101))).drew
      have hbel5 := hal.drew
      have n0 : (wr.alloc (.cells #[.pointer (some ⟨w.heap.size, x.at_, none⟩), .int .i64 x.wide, .int .i64 x.low, .int .i64 x.high] 101)).drew.cell? ⟨wr.heap.size, 0, none⟩ = some (.pointer (some ⟨w.heap.size, x.at_, none⟩)) := by
        show (wr.alloc _).cell? _ = _
        rw [cell_of_row _ _ 0 _ _ _ (heap_alloc_new wr _)]; rfl
      clear hal hbox hrow hbel
      cases ok with
      | false =>
        have d1 : True := trivial
        have d2 : True := trivial
        refine wp_region_R [(0, true), (1, true), (2, true), (3, true), (4, true), (5, true), (6, true), (7, true), (8, true), (9, true), (10, true), (11, true), (12, true), (13, true), (14, true), (15, true), (16, true), (17, true), (18, true), (19, true)] (by kernel_rfl) (by kernel_rfl) (fun _ _ d _ _ h => by cases d <;> exact h) ?_
        simp only [pickE, List.getElem?_cons_zero, List.getElem?_cons_succ]
        repeat (first
          | (refine wpF_skip (by rfl) ?_; simp only [Act.put, List.setIfInBounds_toArray, List.set_cons_zero, List.set_cons_succ])
          | (refine wpF_pure (by rfl) (fun W hW => by subst hW; go_simp; with_reducible rfl) ?_; simp only [Act.put, List.setIfInBounds_toArray, List.set_cons_zero, List.set_cons_succ]))
        refine wpF_nil ?_
        clear d1 d2 c0 c1 c2 c3 hy hfz hg
        generalize (wr.alloc _).drew = w5 at *
        have hfz := hbox5.frozen x.at_
        have hlt5 := hbox5.cell (i := x.at_) (by rw [hlen.out]; exact hxa)
        go_wp2_with fail
        have hbox6 := hbox5.set x.at_ 0
        have hrow6 := hrow5.setCell (b := w.heap.size) hvb x.at_ (.int .i64 0)
        have hbel6 := hbel5.setCell (p := ⟨w.heap.size, x.at_, none⟩) (Nat.le_refl _) (.int .i64 0)
        go_roundw
        case rel => exact ⟨k + 1, _, _, by omega, by go_num, rfl, HR, by rw [List.length_set]; exact hlen.out, (set_head hxb 0).trans hz.out, hbox6, hrow6, hbel6⟩
        case measure => simp [intOf]; omega
      | true =>
        by_cases y1 : x.low ≤ y
        · have d1 : decide (x.low ≤ y) = true := decide_eq_true y1
          by_cases y2 : y ≤ x.high
          · have d2 : decide (y ≤ x.high) = true := decide_eq_true y2
            rw [d1, d2] at HR
            refine wp_region_R [(0, true), (1, true), (2, true), (3, true), (4, true), (5, true), (6, true), (7, true), (8, true), (9, true), (10, true), (11, true), (12, true), (13, true), (14, true), (15, true), (16, true), (17, true), (18, true), (19, true)] (by kernel_rfl) (by kernel_rfl) (fun _ _ d _ _ h => by cases d <;> exact h) ?_
            simp only [pickE, List.getElem?_cons_zero, List.getElem?_cons_succ]
            repeat (first
              | (refine wpF_skip (by rfl) ?_; simp only [Act.put, List.setIfInBounds_toArray, List.set_cons_zero, List.set_cons_succ])
              | (refine wpF_pure (by rfl) (fun W hW => by subst hW; go_simp; with_reducible rfl) ?_; simp only [Act.put, List.setIfInBounds_toArray, List.set_cons_zero, List.set_cons_succ]))
            refine wpF_nil ?_
            clear d1 d2 c0 c1 c2 c3 hy hfz hg
            generalize (wr.alloc _).drew = w5 at *
            have hfz := hbox5.frozen x.at_
            have hlt5 := hbox5.cell (i := x.at_) (by rw [hlen.out]; exact hxa)
            go_wp2_with fail
            have hbox6 := hbox5.set x.at_ 0
            have hrow6 := hrow5.setCell (b := w.heap.size) hvb x.at_ (.int .i64 0)
            have hbel6 := hbel5.setCell (p := ⟨w.heap.size, x.at_, none⟩) (Nat.le_refl _) (.int .i64 0)
            go_roundw
            case rel => exact ⟨k + 1, _, _, by omega, by go_num, rfl, HR, by rw [List.length_set]; exact hlen.out, (set_head hxb 0).trans hz.out, hbox6, hrow6, hbel6⟩
            case measure => simp [intOf]; omega
          · have d2 : decide (y ≤ x.high) = false := decide_eq_false y2
            rw [d1, d2] at HR
            refine wp_region_R [(0, true), (1, true), (2, true), (3, true), (4, true), (5, true), (6, true), (7, true), (8, true), (9, true), (10, true), (11, true), (12, true), (13, true), (14, true), (15, true), (16, true), (17, true), (18, true), (19, true)] (by kernel_rfl) (by kernel_rfl) (fun _ _ d _ _ h => by cases d <;> exact h) ?_
            simp only [pickE, List.getElem?_cons_zero, List.getElem?_cons_succ]
            repeat (first
              | (refine wpF_skip (by rfl) ?_; simp only [Act.put, List.setIfInBounds_toArray, List.set_cons_zero, List.set_cons_succ])
              | (refine wpF_pure (by rfl) (fun W hW => by subst hW; go_simp; with_reducible rfl) ?_; simp only [Act.put, List.setIfInBounds_toArray, List.set_cons_zero, List.set_cons_succ]))
            refine wpF_nil ?_
            clear d1 d2 c0 c1 c2 c3 hy hfz hg
            generalize (wr.alloc _).drew = w5 at *
            have hfz := hbox5.frozen x.at_
            have hlt5 := hbox5.cell (i := x.at_) (by rw [hlen.out]; exact hxa)
            go_wp2_with fail
            have hbox6 := hbox5.set x.at_ 0
            have hrow6 := hrow5.setCell (b := w.heap.size) hvb x.at_ (.int .i64 0)
            have hbel6 := hbel5.setCell (p := ⟨w.heap.size, x.at_, none⟩) (Nat.le_refl _) (.int .i64 0)
            go_roundw
            case rel => exact ⟨k + 1, _, _, by omega, by go_num, rfl, HR, by rw [List.length_set]; exact hlen.out, (set_head hxb 0).trans hz.out, hbox6, hrow6, hbel6⟩
            case measure => simp [intOf]; omega
        · have d1 : decide (x.low ≤ y) = false := decide_eq_false y1
          have d2 : True := trivial
          rw [d1] at HR
          refine wp_region_R [(0, true), (1, true), (2, true), (3, true), (4, true), (5, true), (6, true), (7, true), (8, true), (9, true), (10, true), (11, true), (12, true), (13, true), (14, true), (15, true), (16, true), (17, true), (18, true), (19, true)] (by kernel_rfl) (by kernel_rfl) (fun _ _ d _ _ h => by cases d <;> exact h) ?_
          simp only [pickE, List.getElem?_cons_zero, List.getElem?_cons_succ]
          repeat (first
            | (refine wpF_skip (by rfl) ?_; simp only [Act.put, List.setIfInBounds_toArray, List.set_cons_zero, List.set_cons_succ])
            | (refine wpF_pure (by rfl) (fun W hW => by subst hW; go_simp; with_reducible rfl) ?_; simp only [Act.put, List.setIfInBounds_toArray, List.set_cons_zero, List.set_cons_succ]))
          refine wpF_nil ?_
          clear d1 d2 c0 c1 c2 c3 hy hfz hg
          generalize (wr.alloc _).drew = w5 at *
          have hfz := hbox5.frozen x.at_
          have hlt5 := hbox5.cell (i := x.at_) (by rw [hlen.out]; exact hxa)
          go_wp2_with fail
          have hbox6 := hbox5.set x.at_ 0
          have hrow6 := hrow5.setCell (b := w.heap.size) hvb x.at_ (.int .i64 0)
          have hbel6 := hbel5.setCell (p := ⟨w.heap.size, x.at_, none⟩) (Nat.le_refl _) (.int .i64 0)
          go_roundw
          case rel => exact ⟨k + 1, _, _, by omega, by go_num, rfl, HR, by rw [List.length_set]; exact hlen.out, (set_head hxb 0).trans hz.out, hbox6, hrow6, hbel6⟩
          case measure => simp [intOf]; omega
    · have HD : Hid (runF L (okK z) T = (cs, ok)) := by
        show _ = _
        rw [← hrun.out, List.drop_of_length_le (by omega), runF]
      obtain ⟨c', rfl⟩ := cm_of_list cs hlen.out
      have hzk : c'.k = z := hz.out
      have HB' : Hid (mb = (ok && decide (c' = Cm.of z))) := by
        show _ = _
        rw [HB.out, HD.out]
        congr 1
        rw [Bool.eq_iff_iff, decide_eq_true_iff, decide_eq_true_iff]
        exact ⟨fun h => l_inj h, fun h => by rw [h]⟩
      subst hzk
      have hq := fun w => cmd_neq c' (Cm.of c'.k) w
      unfold Cm.v Cm.of at hq
      simp only at hq
      unfold Cm.of at HB'
      generalize decide (c' = ⟨c'.k, 0, 0, 0, 0, 0, 0, 0, 0, 0, 0, 0, 0, 0⟩) = q at *
      obtain ⟨x0, x1, x2, x3, x4, x5, x6, x7, x8, x9, x10, x11, x12, x13⟩ := hbox.all
      have hgd : Try.prog.eqGuardType Try.prog.depth 47 = false := by kernel_rfl
      clear hbox hrow hrun hlen hz HB HD hk hat
      cases ok <;> cases q
      all_goals
        go_wp2_with fail
        go_ret
        exact ⟨ret_int (by rw [HM.out, HB'.out]; rfl), hbel⟩

end Go.Proofs.Ytmddlhfahfelpaa.Isa

namespace Go.Proofs.Ytmddlhfahfelpaa.Isa
set_option maxRecDepth 10000
open Go.RowKit

def GrewPost (w : World) (base : Nat) (e : TypeId) (sz : Nat) (v : Value) (n : Nat) (xs : List Value) (ed : Ending) (w' : World) : Prop := ∃ v', ed = .returned v' ∧ Grew w base e sz v n xs w' v'

theorem shift_i64 {wide i : Nat} (h : i < wide) : (8 * ((wide : Int) - 1 - (i : Int))).toNat = 8 * (wide - 1 - i) := by omega

set_option maxHeartbeats 1600000 in
theorem numbers_calls (base : Nat) (v lv : Value) (bs : List Int) (wide : Nat) (zs : List Int) (w : World)
    (hown : w.ownsRow base 5 1 v bs.length (bs.map (.int .u8))) (hbase : base ≤ w.heap.size) (hl : Ints .i64 w lv zs) (hsep : Sep v lv) (hll : ∀ k, lv.ownBlock = some k → k < w.heap.size) (hw : 1 ≤ wide) (hw8 : wide ≤ 8) (hn : bs.length + zs.length * wide ≤ 1099511627776) :
    Calls Try.prog 55 #[v, .int .i64 wide, lv] w (GrewPost w base 5 1 v (bs ++ zs.flatMap (be · wide)).length ((bs ++ zs.flatMap (be · wide)).map (.int .u8))) := by
  obtain ⟨A, c, rfl, hlc, hcm, _⟩ := id hl.form
  unfold maxLen at hcm
  have hg0 := Grew.refl hown
  go_enter Try.func55, Try.ntmps55
  go_wp2_with fail
  go_loopw [0, 12] (fun b i wr => ∃ (k : Nat) (bk : List Int), k ≤ zs.length ∧ i = .int .i64 k ∧ Hid (bk = bs ++ (zs.take k).flatMap (be · wide)) ∧ Hid (bk.length = bs.length + k * wide) ∧ Grew w base 5 1 v bk.length (bk.map (.int .u8)) wr b) (fun _ i _ => zs.length - (intOf i).toNat)
  case atStart => exact ⟨0, bs, by omega, rfl, by show _ = _; simp, by show _ = _; simp, hg0⟩
  case round =>
    obtain ⟨k, bk, hk, rfl, hbk, hbl, hg⟩ := hrel
    by_cases hlt : k < zs.length
    · have hl1 := Row.grown hl hg.grown hsep.or
      obtain ⟨_, _, e1, _, _, hcells⟩ := Ints.form (k := .i64) (zs := zs) hl1
      cases e1
      obtain ⟨g, off, rfl, c0⟩ := hcells k hlt
      have hx : zs[k]? = some (zs[k]?.getD 0) := by simp [hlt]
      have HS : Hid (∀ ys, bs ++ (zs.take k).flatMap (be · wide) ++ ys = bs ++ (zs.take (k + 1)).flatMap (be · wide) ↔ ys = be (zs[k]?.getD 0) wide) := by
        show ∀ ys, _ ↔ _
        intro ys
        rw [List.take_add_one, hx]
        simp [List.flatMap_append]
      have hroom : bk.length + wide ≤ 1099511627776 := by
        have h1 := hbl.out
        have h2 : (k + 1) * wide ≤ zs.length * wide := Nat.mul_le_mul_right _ hlt
        rw [Nat.add_mul, Nat.one_mul] at h2
        omega
      clear hcells hl1 hx
      generalize zs[k]?.getD 0 = x at *
      have hg0 : Grew w base 5 1 v (bk ++ (be x wide).take 0).length ((bk ++ (be x wide).take 0).map (.int .u8)) wr u0 := by simpa using hg
      have hgz := hg.grown.size
      go_wp2_with fail
      go_loopw [0, 17] (fun b i wr => ∃ (j : Nat), j ≤ wide ∧ i = .int .i64 j ∧ Grew w base 5 1 v (bk ++ (be x wide).take j).length ((bk ++ (be x wide).take j).map (.int .u8)) wr b) (fun _ i _ => wide - (intOf i).toNat)
      case atStart => exact ⟨0, by omega, rfl, hg0⟩
      case round =>
        clear hg0 hg c0 hgz
        obtain ⟨j, hj, rfl, hg⟩ := hrel
        by_cases hjlt : j < wide
        · have hs := shift_i64 hjlt
          have hs0 : (0 : Int) ≤ 8 * ((wide : Int) - 1 - (j : Int)) := by omega
          have hs1 : 8 * ((wide : Int) - 1 - (j : Int)) ≤ 64 := by omega
          have HT := Lib.hid (be_take_succ x hjlt)
          have hlen : (bk ++ (be x wide).take j).length = bk.length + j := by rw [List.length_append, List.length_take, be_len]; omega
          have hlen := Lib.hid hlen
          go_wp2_with (at_builtin; refine stopped ?_)
          have hnew := row_lit wr #[.int .u8 (x / 2 ^ (8 * (wide - 1 - j)) % 256)] 5 1 1 wr.heap.size rfl rfl (by unfold maxLen; omega)
          have hg1 := hg.alloc (.cells #[.int .u8 (x / 2 ^ (8 * (wide - 1 - j)) % 256)] 5)
          have hl1 := hlen.out
          refine wpList_append_row rfl rfl elem_u8 hg1.own rfl hnew rfl (by intro u hu; simp at hu; subst hu; rfl) (by omega) (by omega) (Nat.le_trans hbase hg1.grown.size) ?_
          intro v' w' ho hgr hn
          have hg2 : Grew w base 5 1 v (bk ++ (be x wide).take (j + 1)).length ((bk ++ (be x wide).take (j + 1)).map (.int .u8)) w' v' := by
            refine hg1.append ?_ hgr hn
            rw [HT.out, ← List.append_assoc, List.length_append, List.map_append]
            exact ho
          clear hg hg1 ho hgr hn hnew hl1
          go_wp2_with fail
          go_roundw
          case rel => exact ⟨j + 1, by omega, by go_num, hg2⟩
          case measure => simp [intOf]; omega
        · obtain rfl : j = wide := by omega
          have hb2 : Hid (bk ++ be x j = bs ++ (zs.take (k + 1)).flatMap (be · j)) := by
            show _ = _
            rw [hbk.out]
            exact (HS.out _).2 rfl
          have hb3 : Hid ((bk ++ be x j).length = bs.length + (k + 1) * j) := by
            show _ = _
            rw [List.length_append, be_len, hbl.out, Nat.add_mul, Nat.one_mul, Nat.add_assoc]
          have hg2 : Grew w base 5 1 v (bk ++ be x j).length ((bk ++ be x j).map (.int .u8)) wr u0 := by
            have e : (be x j).take j = be x j := List.take_of_length_le (by rw [be_len]; omega)
            rw [e] at hg
            exact hg
          clear hg HS
          go_wp2_with fail
          go_roundw
          case rel => exact ⟨k + 1, bk ++ be x j, by omega, by go_num, hb2, hb3, hg2⟩
          case measure => simp [intOf]; omega
    · have hkk : k = zs.length := by omega
      have hb : Hid (bk = bs ++ zs.flatMap (be · wide)) := by
        show _ = _
        rw [hbk.out, hkk, List.take_length]
      have hg2 := hg
      rw [hb.out] at hg2
      clear hg hbk hbl
      go_wp2_with fail
      go_ret
      exact ⟨_, rfl, hg2⟩

end Go.Proofs.Ytmddlhfahfelpaa.Isa
