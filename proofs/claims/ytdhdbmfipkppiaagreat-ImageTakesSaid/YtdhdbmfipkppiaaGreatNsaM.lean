/- The walk of isa.fields. -/
/- Commands compared: a whole command against another. -/
/- The walk of isa.May. -/
import Derived.Test.YtdhdbmfipkppiaaGreatNsaV
import Derived.Deep.CutBlock
import Derived.DeepKeys
set_option linter.unusedSimpArgs false
set_option linter.unusedVariables false
set_option linter.unnecessarySimpa false
namespace Go.Proofs.YtdhdbmfipkppiaaGreat.Isa
set_option maxRecDepth 10000
open Go.RowKit

theorem row_lit (W : World) (cs : Array Value) (e : TypeId) (n sz g : Nat) (hg : W.heap.size = g) (h : cs.size = n * sz) (hn : n ≤ maxLen) : Row (W.alloc (.cells cs e)) (.slice (some ⟨g, 0, none⟩) n n) n sz cs.toList := by
  subst hg
  exact row_new W cs e n sz h hn
theorem own_lit (W : World) (cs : Array Value) (e : TypeId) (n sz g base : Nat) (hg : W.heap.size = g) (hb : base ≤ g) (h : cs.size = n * sz) (hn : n ≤ maxLen) : (W.alloc (.cells cs e)).ownsRow base e sz (.slice (some ⟨g, 0, none⟩) n n) n cs.toList := by
  subst hg
  exact ⟨by simpa using h, .inr ⟨W.heap.size, n, cs, rfl, hb, heap_alloc_new W _, Nat.le_refl _, hn, h, List.take_of_length_le (by rw [Array.length_toList, h]; exact Nat.le_refl _)⟩⟩

theorem heap_old (w : World) (o : Obj) (k : Nat) (h : k < w.heap.size) : (w.alloc o).heap[k]? = w.heap[k]? := (below_alloc (Below.refl _ _) (Nat.le_refl _) o).block k h
theorem heap_new (w : World) (o : Obj) (k : Nat) (h : w.heap.size = k) : (w.alloc o).heap[k]? = some o := by subst h; exact heap_alloc_new w o

/-- The cells of one field that stand in a block. -/
def FdBox (w : World) (g b : Nat) (x : Fd) : Prop := w.heap[g]? = some (.cells #[.pointer (some ⟨b, x.at_, none⟩), .int .i64 x.wide, .int .i64 x.low, .int .i64 x.high] 106 (0, 0))
theorem FdBox.cells {w : World} {g b : Nat} {x : Fd} (h : FdBox w g b x) : w.cell? ⟨g, 0, none⟩ = some (.pointer (some ⟨b, x.at_, none⟩)) ∧ w.cell? ⟨g, 1, none⟩ = some (.int .i64 x.wide) ∧ w.cell? ⟨g, 2, none⟩ = some (.int .i64 x.low) ∧ w.cell? ⟨g, 3, none⟩ = some (.int .i64 x.high) := by
  unfold FdBox at h
  refine ⟨?_, ?_, ?_, ?_⟩ <;> simp [World.cell?, h]

theorem three_boxes (w : World) (b : Nat) : ∀ W, W = ((w.alloc (.cells #[.pointer (some ⟨b, 4, none⟩), .int .i64 1, .int .i64 1, .int .i64 16] 106)).alloc (.cells #[.pointer (some ⟨b, 2, none⟩), .int .i64 1, .int .i64 0, .int .i64 11] 106)).alloc (.cells #[.pointer (some ⟨b, 7, none⟩), .int .i64 2, .int .i64 0, .int .i64 1023] 106) →
    Below w.heap.size w W ∧ W.heap.size = w.heap.size + 1 + 1 + 1 ∧ FdBox W w.heap.size b ⟨4, 1, 1, 16⟩ ∧ FdBox W (w.heap.size + 1) b ⟨2, 1, 0, 11⟩ ∧ FdBox W (w.heap.size + 1 + 1) b ⟨7, 2, 0, 1023⟩ := by
  rintro W rfl
  refine ⟨below_alloc (below_alloc (below_alloc (Below.refl _ _) (Nat.le_refl _) _) (by simp) _) (by simp; omega) _, by simp, ?_, ?_, ?_⟩
  · unfold FdBox
    rw [heap_old _ _ _ (by simp; omega), heap_old _ _ _ (by simp), heap_alloc_new]
    rfl
  · unfold FdBox
    rw [heap_old _ _ _ (by simp)]
    exact heap_new _ _ _ (by simp)
  · unfold FdBox
    exact heap_new _ _ _ (by simp)

set_option maxHeartbeats 3200000 in
theorem fields_calls (b : Nat) (z : Int) (w : World) (hc : w.cell? ⟨b, 0, none⟩ = some (.int .i64 z)) :
    Calls Tryz.prog 61 #[.pointer (some ⟨b, 0, none⟩)] w (FieldsPost b z w) := by
  have hb := World.block_lt_of_cell? w _ hc
  simp only at hb
  go_enter Tryz.func61, Tryz.ntmps61
  have hb1 : b < w.heap.size + 1 := by omega
  have hb2 : b < w.heap.size + 1 + 1 := by omega
  go_upto_block 0 with fail
  clear hb1 hb2
  obtain ⟨hB, hsz, f4, f5, f6⟩ := three_boxes w b _ rfl
  generalize ((w.alloc _).alloc _).alloc _ = W at *
  have z0 := hc
  rw [← hB.cell (p := ⟨b, 0, none⟩) hb] at z0
  obtain ⟨x40, x41, x42, x43⟩ := f4.cells
  obtain ⟨x50, x51, x52, x53⟩ := f5.cells
  obtain ⟨x60, x61, x62, x63⟩ := f6.cells
  have HS := Lib.hid hsz
  clear f4 f5 f6 hc hsz
  by_cases h1 : z = 1 ∨ z = 2
  · rcases h1 with rfl | rfl
    all_goals
      go_wp2_with fail
      go_region
      go_wp2_with fail
      go_ret2
      exact ⟨_, rfl, (row_lit _ _ _ 4 4 _ rfl rfl (by unfold maxLen; omega)).drew, fun k hk => by cases hk; exact hB.size, (below_alloc hB hB.size _).drew⟩
  · by_cases h3 : z = 3
    · subst h3
      go_wp2_with fail
      go_region
      have hown := ownsRow_drew (own_lit W #[.pointer (some ⟨b, 2, none⟩), .int .i64 1, .int .i64 0, .int .i64 11, .pointer (some ⟨b, 3, none⟩), .int .i64 1, .int .i64 0, .int .i64 15, .pointer (some ⟨b, 4, none⟩), .int .i64 1, .int .i64 1, .int .i64 16, .pointer (some ⟨b, 7, none⟩), .int .i64 2, .int .i64 0, .int .i64 1023] 106 4 4 W.heap.size w.heap.size rfl hB.size rfl (by unfold maxLen; omega))
      have hbel := (below_alloc hB hB.size (.cells #[.pointer (some ⟨b, 2, none⟩), .int .i64 1, .int .i64 0, .int .i64 11, .pointer (some ⟨b, 3, none⟩), .int .i64 1, .int .i64 0, .int .i64 15, .pointer (some ⟨b, 4, none⟩), .int .i64 1, .int .i64 1, .int .i64 16, .pointer (some ⟨b, 7, none⟩), .int .i64 2, .int .i64 0, .int .i64 1023] 106)).drew
      clear z0 x40 x41 x42 x43 x50 x51 x52 x53 x60 x61 x62 x63
      go_upto_block 1 with fail
      go_wp2_with fail
      go_loopw [7, 49] (fun v i wr => ∃ k : Nat, k ≤ 2 ∧ i = .int .i64 k ∧ wr.ownsRow w.heap.size 106 4 v (4 + 3 * k) (Fds b (tileN k)) ∧ Below w.heap.size w wr) (fun _ i _ => 2 - (intOf i).toNat)
      case atStart => exact ⟨0, by omega, rfl, hown, hbel⟩
      case round =>
        clear hown hbel
        obtain ⟨k, hk, rfl, hown, hbel⟩ := hrel
        by_cases hlt : k < 2
        · go_wp2_with fail
          refine wp_region_S (fun _ => True) [(0, true), (1, true), (2, true), (3, true), (4, true), (5, true), (6, true), (7, true), (8, true), (9, true), (10, true), (11, true), (12, true), (13, true), (14, true), (15, true), (16, true), (17, true), (18, true), (19, false), (20, false), (21, true)] (by kernel_rfl) (by kernel_rfl) (fun _ _ d _ _ h => by cases d <;> exact h) trivial ?_
          simp only [pickE, List.getElem?_cons_zero, List.getElem?_cons_succ]
          repeat (refine wpF_pure (by rfl) (fun W _ => by go_simp; with_reducible rfl) ?_; simp only [Act.put, List.setIfInBounds_toArray, List.set_cons_zero, List.set_cons_succ])
          refine wpF_step (by rfl) (fun K hK => ?_)
          go_simp
          refine hK _ _ trivial ?_
          clear hK K
          have hnew := row_lit wr.drew #[.pointer (some ⟨b, 8 + k, none⟩), .int .i64 2, .int .i64 0, .int .i64 1023, .pointer (some ⟨b, 10 + k, none⟩), .int .i64 1, .int .i64 0, .int .i64 15, .pointer (some ⟨b, 12 + k, none⟩), .int .i64 1, .int .i64 0, .int .i64 16] 106 3 4 wr.heap.size rfl rfl (by unfold maxLen; omega)
          have hown1 := (ownsRow_drew hown).alloc (.cells #[.pointer (some ⟨b, 8 + k, none⟩), .int .i64 2, .int .i64 0, .int .i64 1023, .pointer (some ⟨b, 10 + k, none⟩), .int .i64 1, .int .i64 0, .int .i64 15, .pointer (some ⟨b, 12 + k, none⟩), .int .i64 1, .int .i64 0, .int .i64 16] 106 (0, 0))
          have hbel1 := below_alloc hbel.drew hbel.drew.size (.cells #[.pointer (some ⟨b, 8 + k, none⟩), .int .i64 2, .int .i64 0, .int .i64 1023, .pointer (some ⟨b, 10 + k, none⟩), .int .i64 1, .int .i64 0, .int .i64 15, .pointer (some ⟨b, 12 + k, none⟩), .int .i64 1, .int .i64 0, .int .i64 16] 106 (0, 0))
          refine wpF_step (by rfl) (fun K hK => ?_)
          refine wp_append_row rfl elem_fd hown1 rfl hnew rfl (fds_one b (tileIn k)) (by omega) (by omega) hbel1.size (fun v' w' ho hg hn => hK _ _ trivial ?_)
          clear hK K
          have hown2 : w'.ownsRow w.heap.size 106 4 v' (4 + 3 * (k + 1)) (Fds b (tileN (k + 1))) := by
            have e : Fds b (tileN (k + 1)) = Fds b (tileN k) ++ Fds b (tileIn k) := fds_append b _ _
            rw [e, show 4 + 3 * (k + 1) = 4 + 3 * k + 3 from by omega]
            exact ho
          have hbel2 := below_own hbel1 hbel1.size hown1 (Nat.le_refl _) hg
          clear hown1 hbel1 ho hg hn hnew
          simp only [Act.put, List.setIfInBounds_toArray, List.set_cons_zero, List.set_cons_succ]
          repeat (refine wpF_pure (by rfl) (fun W _ => by go_simp; with_reducible rfl) ?_; simp only [Act.put, List.setIfInBounds_toArray, List.set_cons_zero, List.set_cons_succ])
          refine wpF_nil ?_
          go_wp2_with fail
          go_roundw
          case rel => exact ⟨k + 1, by omega, by go_num, hown2, hbel2⟩
          case measure => simp [intOf]; omega
        · obtain rfl : k = 2 := by omega
          go_wp2_with fail
          go_ret2
          exact ⟨_, rfl, row_of_own hown, fun k hk => (hown.lt k hk).1, hbel⟩
    · by_cases h4 : z = 4
      · subst h4
        go_wp2_with fail
        go_ret2
        exact ⟨_, rfl, row_lit _ _ _ 2 4 _ rfl rfl (by unfold maxLen; omega), fun k hk => by cases hk; exact hB.size, below_alloc hB hB.size _⟩
      · by_cases h5 : z = 5 ∨ z = 6
        · rcases h5 with rfl | rfl
          all_goals
            go_wp2_with fail
            go_ret2
            exact ⟨_, rfl, row_lit _ _ _ 1 4 _ rfl rfl (by unfold maxLen; omega), fun k hk => by cases hk; exact hB.size, below_alloc hB hB.size _⟩
        · have h12 : ¬ z = 1 ∧ ¬ z = 2 ∧ ¬ z = 3 ∧ ¬ z = 4 ∧ ¬ z = 5 ∧ ¬ z = 6 := by omega
          obtain ⟨g1, g2, g3, g4, g5, g6⟩ := h12
          have HT : Hid (tbl z = []) := by
            show _ = _
            unfold tbl
            rw [if_neg (by omega), if_neg (by omega), if_neg (by omega), if_neg (by omega)]
          have HO : Hid (okK z = (z == 7)) := by
            show _ = _
            unfold okK
            rw [Bool.eq_iff_iff, decide_eq_true_iff, beq_iff_eq]
            omega
          go_wp2_with fail
          go_region
          go_wp2_with fail
          go_ret2
          refine ⟨.slice none 0 0, by rw [HO.out]; rfl, ?_, (fun k hk => by cases hk), hB.drew⟩
          rw [HT.out]
          exact row_nil _ _

end Go.Proofs.YtdhdbmfipkppiaaGreat.Isa

namespace Go.Proofs.YtdhdbmfipkppiaaGreat.Isa
set_option maxRecDepth 10000
open Go.RowKit

section
variable {P : Program} {d : Nat} {xs ys : Array Value} {a b : Value} {r s : Bool} {w : World}

theorem eqFields_step {f : Field} {fs : List Field} (hn : f.name ≠ "_") (ha : (part f.type xs f.offset).run P w = .ok a w) (hb : (part f.type ys f.offset).run P w = .ok b w) (he : (Op.equalIn d f.type a b).run P w = .ok r w)
    (hr : (Op.eqFields d xs ys fs).run P w = .ok s w) : (Op.eqFields d xs ys (f :: fs)).run P w = .ok (r && s) w := by
  rw [Op.eqFields]
  simp only [if_pos hn, Sem.run_bind, ha, hb, he, Result.andThen_ok]
  cases r
  · simp
  · simpa using hr

theorem eqItems_step {e : TypeId} {c i : Nat} {is : List Nat} (ha : (part e xs (i * c)).run P w = .ok a w) (hb : (part e ys (i * c)).run P w = .ok b w) (he : (Op.equalIn d e a b).run P w = .ok r w)
    (hr : (Op.eqItems d e c xs ys is).run P w = .ok s w) : (Op.eqItems d e c xs ys (i :: is)).run P w = .ok (r && s) w := by
  rw [Op.eqItems]
  simp only [Sem.run_bind, ha, hb, he, Result.andThen_ok]
  cases r
  · simp
  · simpa using hr
end

theorem eq_i64 (d : Nat) (w : World) (x y : Int) : (Op.equalIn (d + 1) 3 (.int .i64 x) (.int .i64 y)).run Tryz.prog w = .ok (x == y) w := run_equalIn_int w d _ _ _ _ _ Tryz.underlying3

theorem eq_pair (d : Nat) (w : World) (x0 x1 y0 y1 : Int) : (Op.equalIn (d + 2) 73 (.agg #[.int .i64 x0, .int .i64 x1]) (.agg #[.int .i64 y0, .int .i64 y1])).run Tryz.prog w = .ok ((x0 == y0) && ((x1 == y1) && true)) w := by
  obtain ⟨i, hi⟩ := info_of_underlying (P := Tryz.prog) Tryz.underlying3
  rw [run_equalIn_array w (d + 1) _ _ Tryz.underlying73 hi]
  have hc : Tryz.prog.cellsOf 3 = 1 := by kernel_rfl
  rw [hc]
  refine eqItems_step (by kernel_rfl) (by kernel_rfl) (eq_i64 _ _ _ _) ?_
  refine eqItems_step (by kernel_rfl) (by kernel_rfl) (eq_i64 _ _ _ _) ?_
  simp [Op.eqItems]

theorem l_inj {c c' : Cm} (h : c.l = c'.l) : c = c' := by
  obtain ⟨k, s, n, f, r, o, d, p, i0, i1, b0, b1, h0, h1⟩ := c
  obtain ⟨k', s', n', f', r', o', d', p', i0', i1', b0', b1', h0', h1'⟩ := c'
  simp only [Cm.l, List.cons.injEq, and_true] at h
  obtain ⟨rfl, rfl, rfl, rfl, rfl, rfl, rfl, rfl, rfl, rfl, rfl, rfl, rfl, rfl⟩ := h
  rfl

theorem cmd_equal (c c' : Cm) (w : World) : (Op.equalIn 10000 75 c.v c'.v).run Tryz.prog w = .ok (decide (c = c')) w := by
  have h : (Op.equalIn (9999 + 1) 75 c.v c'.v).run Tryz.prog w = .ok ((c.k == c'.k) && ((c.s == c'.s) && ((c.n == c'.n) && ((c.f == c'.f) && ((c.r == c'.r) && ((c.o == c'.o) && ((c.d == c'.d) && ((c.p == c'.p) &&
      (((c.i0 == c'.i0) && ((c.i1 == c'.i1) && true)) && (((c.b0 == c'.b0) && ((c.b1 == c'.b1) && true)) && (((c.h0 == c'.h0) && ((c.h1 == c'.h1) && true)) && true))))))))))) w := by
    unfold Cm.v
    rw [run_equalIn_agg w 9999 _ _ _ (by kernel_rfl) (by kernel_rfl)]
    refine eqFields_step (by decide) (by kernel_rfl) (by kernel_rfl) (eq_i64 9998 _ _ _) ?_
    refine eqFields_step (by decide) (by kernel_rfl) (by kernel_rfl) (eq_i64 9998 _ _ _) ?_
    refine eqFields_step (by decide) (by kernel_rfl) (by kernel_rfl) (eq_i64 9998 _ _ _) ?_
    refine eqFields_step (by decide) (by kernel_rfl) (by kernel_rfl) (eq_i64 9998 _ _ _) ?_
    refine eqFields_step (by decide) (by kernel_rfl) (by kernel_rfl) (eq_i64 9998 _ _ _) ?_
    refine eqFields_step (by decide) (by kernel_rfl) (by kernel_rfl) (eq_i64 9998 _ _ _) ?_
    refine eqFields_step (by decide) (by kernel_rfl) (by kernel_rfl) (eq_i64 9998 _ _ _) ?_
    refine eqFields_step (by decide) (by kernel_rfl) (by kernel_rfl) (eq_i64 9998 _ _ _) ?_
    refine eqFields_step (by decide) (by kernel_rfl) (by kernel_rfl) (eq_pair 9997 _ _ _ _ _) ?_
    refine eqFields_step (by decide) (by kernel_rfl) (by kernel_rfl) (eq_pair 9997 _ _ _ _ _) ?_
    refine eqFields_step (by decide) (by kernel_rfl) (by kernel_rfl) (eq_pair 9997 _ _ _ _ _) ?_
    simp [Op.eqFields]
  rw [show (10000 : Nat) = 9999 + 1 from rfl, h]
  congr 1
  rw [Bool.eq_iff_iff, decide_eq_true_iff]
  simp only [Bool.and_eq_true, beq_iff_eq, and_true]
  constructor
  · rintro ⟨h1, h2, h3, h4, h5, h6, h7, h8, ⟨h9, h10⟩, ⟨h11, h12⟩, h13, h14⟩
    refine l_inj ?_
    unfold Cm.l
    rw [h1, h2, h3, h4, h5, h6, h7, h8, h9, h10, h11, h12, h13, h14]
  · rintro rfl
    simp

theorem cmd_neq (c c' : Cm) (w : World) : (binOp .neq 75 c.v c'.v).run Tryz.prog w = .ok (.bool (!decide (c = c'))) w := by
  have := cmd_equal c c' w
  unfold Cm.v at this ⊢
  rw [run_neq_struct, this]
  rfl

end Go.Proofs.YtdhdbmfipkppiaaGreat.Isa

namespace Go.Proofs.YtdhdbmfipkppiaaGreat.Isa
set_option maxRecDepth 10000
open Go.RowKit

theorem cm_of_list : ∀ cs : List Int, cs.length = 14 → ∃ c : Cm, cs = c.l
  | [k, s, n, f, r, o, d, p, i0, i1, b0, b1, h0, h1], _ => ⟨⟨k, s, n, f, r, o, d, p, i0, i1, b0, b1, h0, h1⟩, rfl⟩

theorem set_head {cs : List Int} {i : Nat} (h : 1 ≤ i) (z : Int) : (cs.set i z)[0]?.getD 0 = cs[0]?.getD 0 := by
  rw [List.getElem?_set_ne (by omega)]

set_option maxHeartbeats 3200000 in
theorem may_calls (c : Cm) (w : World) :
    Calls Tryz.prog 60 #[c.v] w fun e w' => e = .returned (.int .i64 (mayE c)) ∧ Below w.heap.size w w' := by
  have HM : Hid (mayE c = if mayB c then 0 else 1) := rfl
  have HB : Hid (mayB c = ((runF c.l (okK c.k) (tbl c.k)).2 && decide ((runF c.l (okK c.k) (tbl c.k)).1 = (Cm.of c.k).l))) := rfl
  have hbox := cbox_new w c
  have hnew := below_alloc (Below.refl w.heap.size w) (Nat.le_refl _) (.cells #[.int .i64 c.k, .int .i64 c.s, .int .i64 c.n, .int .i64 c.f, .int .i64 c.r, .int .i64 c.o, .int .i64 c.d, .int .i64 c.p, .int .i64 c.i0, .int .i64 c.i1, .int .i64 c.b0, .int .i64 c.b1, .int .i64 c.h0, .int .i64 c.h1] 75)
  generalize mayE c = me at *
  generalize mayB c = mb at *
  unfold Cm.v
  go_enter Tryz.func60, Tryz.ntmps60
  go_wp2_with fail
  generalize w.alloc _ = w0 at *
  have hlt0 := hbox.lt
  refine (fields_calls w.heap.size c.k w0 hbox.all.1).mono ?_
  rintro e w1 ⟨v, rfl, hrow, hfr, hb1⟩
  have hbox1 := hbox.below hb1 hlt0
  have hb1 := hnew.trans (hb1.mono hnew.size)
  have hvb : v.ownBlock ≠ some w.heap.size := fun e => by have := hfr _ e; omega
  have hat := tbl_at c.k
  clear hbox hnew hfr hlt0
  generalize hL : c.l = L at *
  have hL14 : L.length = 14 := by rw [← hL]; rfl
  have hLz : L[0]?.getD 0 = c.k := by rw [← hL]; rfl
  clear hL
  generalize hK : c.k = z at *
  clear hK
  generalize tbl z = T at *
  obtain ⟨A, cp, rfl, hlc, hcm, _⟩ := fds_form hrow
  unfold maxLen at hcm
  go_wp2_with fail
  go_loopw [4, 13] (fun o i wr => ∃ (k : Nat) (ok : Bool) (cs : List Int), k ≤ T.length ∧ i = .int .i64 k ∧ o = .bool ok ∧ Hid (runF cs ok (T.drop k) = runF L (okK z) T) ∧ Hid (cs.length = 14) ∧ Hid (cs[0]?.getD 0 = z) ∧ CBox wr w.heap.size cs ∧ Row wr (.slice A T.length cp) T.length 4 (Fds w.heap.size T) ∧ Below w.heap.size w wr) (fun _ i _ => T.length - (intOf i).toNat)
  case atStart => exact ⟨0, okK z, L, by omega, rfl, rfl, rfl, hL14, hLz, hbox1, hrow, hb1⟩
  case round =>
    clear hbox1 hrow hb1 hL14 hLz
    obtain ⟨k, ok, cs, hk, rfl, rfl, hrun, hlen, hz, hbox, hrow, hbel⟩ := hrel
    by_cases hlt : k < T.length
    · have hx : T[k]? = some T[k] := by simp [hlt]
      obtain ⟨hxa, hxb, _, _⟩ := hat T[k] (List.getElem_mem hlt)
      obtain ⟨_, _, e1, _, _, hcells⟩ := fds_form hrow
      cases e1
      obtain ⟨g, off, rfl, c0, c1, c2, c3⟩ := hcells k _ hx
      have HR : Hid (runF (cs.set T[k].at_ 0) (ok && decide (T[k].low ≤ cs[T[k].at_]?.getD 0) && decide (cs[T[k].at_]?.getD 0 ≤ T[k].high)) (T.drop (k + 1)) = runF L (okK z) T) := by
        show _ = _
        rw [← hrun.out, List.drop_eq_getElem_cons hlt, runF]
      clear hcells hx hrun
      generalize T[k] = x at *
      have hg := World.block_lt_of_cell? wr _ c0
      have hy := hbox.cell (i := x.at_) (by rw [hlen.out]; exact hxa)
      have hfz := hbox.frozen x.at_
      have hbl := hbox.lt
      simp only at hg
      generalize cs[x.at_]?.getD 0 = y at *
      go_wp2_with fail
      have hal := below_alloc hbel hbel.size (.cells #[.pointer (some ⟨w.heap.size, x.at_, none⟩), .int .i64 x.wide, .int .i64 x.low, .int .i64 x.high] 106)
      have hbox5 := (hbox.below (below_alloc (Below.refl wr.heap.size wr) (Nat.le_refl _) (.cells #[.pointer (some ⟨w.heap.size, x.at_, none⟩), .int .i64 x.wide, .int .i64 x.low, .int .i64 x.high] 106)) hbl).drew
      have hrow5 := (hrow.below (below_alloc (Below.refl wr.heap.size wr) (Nat.le_refl _) (.cells #[.pointer (some ⟨w.heap.size, x.at_, none⟩), .int .i64 x.wide, .int .i64 x.low, .int .i64 x.high] 106))).drew
      have hbel5 := hal.drew
      have n0 : (wr.alloc (.cells #[.pointer (some ⟨w.heap.size, x.at_, none⟩), .int .i64 x.wide, .int .i64 x.low, .int .i64 x.high] 106)).drew.cell? ⟨wr.heap.size, 0, none⟩ = some (.pointer (some ⟨w.heap.size, x.at_, none⟩)) := by
        show (wr.alloc _).cell? _ = _
        rw [cell_of_row _ _ 0 _ _ _ (heap_alloc_new wr _)]; rfl
      clear hal hbox hrow hbel
      cases ok with
      | false =>
        have d1 : True := trivial
        have d2 : True := trivial
        refine wp_region_R [(0, true), (1, true), (2, true), (3, true), (4, true), (5, true), (6, true), (7, true), (8, true), (9, true), (10, true), (11, true), (12, true), (13, true), (14, true), (15, true), (16, true), (17, true), (18, true), (19, true)] (by kernel_rfl) (by kernel_rfl) (fun _ _ d _ _ h => by cases d <;> exact h) ?_
        simp only [pickE, List.getElem?_cons_zero, List.getElem?_cons_succ]
        repeat (first
          | (refine wpF_skip (by rfl) ?_; simp only [Act.put, List.setIfInBounds_toArray, List.set_cons_zero, List.set_cons_succ])
          | (refine wpF_pure (by rfl) (fun W hW => by subst hW; go_simp; with_reducible rfl) ?_; simp only [Act.put, List.setIfInBounds_toArray, List.set_cons_zero, List.set_cons_succ]))
        refine wpF_nil ?_
        clear d1 d2 c0 c1 c2 c3 hy hfz hg
        generalize (wr.alloc _).drew = w5 at *
        have hfz := hbox5.frozen x.at_
        have hlt5 := hbox5.cell (i := x.at_) (by rw [hlen.out]; exact hxa)
        go_wp2_with fail
        have hbox6 := hbox5.set x.at_ 0
        have hrow6 := hrow5.setCell (b := w.heap.size) hvb x.at_ (.int .i64 0)
        have hbel6 := hbel5.setCell (p := ⟨w.heap.size, x.at_, none⟩) (Nat.le_refl _) (.int .i64 0)
        go_roundw
        case rel => exact ⟨k + 1, _, _, by omega, by go_num, rfl, HR, by rw [List.length_set]; exact hlen.out, (set_head hxb 0).trans hz.out, hbox6, hrow6, hbel6⟩
        case measure => simp [intOf]; omega
      | true =>
        by_cases y1 : x.low ≤ y
        · have d1 : decide (x.low ≤ y) = true := decide_eq_true y1
          by_cases y2 : y ≤ x.high
          · have d2 : decide (y ≤ x.high) = true := decide_eq_true y2
            rw [d1, d2] at HR
            refine wp_region_R [(0, true), (1, true), (2, true), (3, true), (4, true), (5, true), (6, true), (7, true), (8, true), (9, true), (10, true), (11, true), (12, true), (13, true), (14, true), (15, true), (16, true), (17, true), (18, true), (19, true)] (by kernel_rfl) (by kernel_rfl) (fun _ _ d _ _ h => by cases d <;> exact h) ?_
            simp only [pickE, List.getElem?_cons_zero, List.getElem?_cons_succ]
            repeat (first
              | (refine wpF_skip (by rfl) ?_; simp only [Act.put, List.setIfInBounds_toArray, List.set_cons_zero, List.set_cons_succ])
              | (refine wpF_pure (by rfl) (fun W hW => by subst hW; go_simp; with_reducible rfl) ?_; simp only [Act.put, List.setIfInBounds_toArray, List.set_cons_zero, List.set_cons_succ]))
            refine wpF_nil ?_
            clear d1 d2 c0 c1 c2 c3 hy hfz hg
            generalize (wr.alloc _).drew = w5 at *
            have hfz := hbox5.frozen x.at_
            have hlt5 := hbox5.cell (i := x.at_) (by rw [hlen.out]; exact hxa)
            go_wp2_with fail
            have hbox6 := hbox5.set x.at_ 0
            have hrow6 := hrow5.setCell (b := w.heap.size) hvb x.at_ (.int .i64 0)
            have hbel6 := hbel5.setCell (p := ⟨w.heap.size, x.at_, none⟩) (Nat.le_refl _) (.int .i64 0)
            go_roundw
            case rel => exact ⟨k + 1, _, _, by omega, by go_num, rfl, HR, by rw [List.length_set]; exact hlen.out, (set_head hxb 0).trans hz.out, hbox6, hrow6, hbel6⟩
            case measure => simp [intOf]; omega
          · have d2 : decide (y ≤ x.high) = false := decide_eq_false y2
            rw [d1, d2] at HR
            refine wp_region_R [(0, true), (1, true), (2, true), (3, true), (4, true), (5, true), (6, true), (7, true), (8, true), (9, true), (10, true), (11, true), (12, true), (13, true), (14, true), (15, true), (16, true), (17, true), (18, true), (19, true)] (by kernel_rfl) (by kernel_rfl) (fun _ _ d _ _ h => by cases d <;> exact h) ?_
            simp only [pickE, List.getElem?_cons_zero, List.getElem?_cons_succ]
            repeat (first
              | (refine wpF_skip (by rfl) ?_; simp only [Act.put, List.setIfInBounds_toArray, List.set_cons_zero, List.set_cons_succ])
              | (refine wpF_pure (by rfl) (fun W hW => by subst hW; go_simp; with_reducible rfl) ?_; simp only [Act.put, List.setIfInBounds_toArray, List.set_cons_zero, List.set_cons_succ]))
            refine wpF_nil ?_
            clear d1 d2 c0 c1 c2 c3 hy hfz hg
            generalize (wr.alloc _).drew = w5 at *
            have hfz := hbox5.frozen x.at_
            have hlt5 := hbox5.cell (i := x.at_) (by rw [hlen.out]; exact hxa)
            go_wp2_with fail
            have hbox6 := hbox5.set x.at_ 0
            have hrow6 := hrow5.setCell (b := w.heap.size) hvb x.at_ (.int .i64 0)
            have hbel6 := hbel5.setCell (p := ⟨w.heap.size, x.at_, none⟩) (Nat.le_refl _) (.int .i64 0)
            go_roundw
            case rel => exact ⟨k + 1, _, _, by omega, by go_num, rfl, HR, by rw [List.length_set]; exact hlen.out, (set_head hxb 0).trans hz.out, hbox6, hrow6, hbel6⟩
            case measure => simp [intOf]; omega
        · have d1 : decide (x.low ≤ y) = false := decide_eq_false y1
          have d2 : True := trivial
          rw [d1] at HR
          refine wp_region_R [(0, true), (1, true), (2, true), (3, true), (4, true), (5, true), (6, true), (7, true), (8, true), (9, true), (10, true), (11, true), (12, true), (13, true), (14, true), (15, true), (16, true), (17, true), (18, true), (19, true)] (by kernel_rfl) (by kernel_rfl) (fun _ _ d _ _ h => by cases d <;> exact h) ?_
          simp only [pickE, List.getElem?_cons_zero, List.getElem?_cons_succ]
          repeat (first
            | (refine wpF_skip (by rfl) ?_; simp only [Act.put, List.setIfInBounds_toArray, List.set_cons_zero, List.set_cons_succ])
            | (refine wpF_pure (by rfl) (fun W hW => by subst hW; go_simp; with_reducible rfl) ?_; simp only [Act.put, List.setIfInBounds_toArray, List.set_cons_zero, List.set_cons_succ]))
          refine wpF_nil ?_
          clear d1 d2 c0 c1 c2 c3 hy hfz hg
          generalize (wr.alloc _).drew = w5 at *
          have hfz := hbox5.frozen x.at_
          have hlt5 := hbox5.cell (i := x.at_) (by rw [hlen.out]; exact hxa)
          go_wp2_with fail
          have hbox6 := hbox5.set x.at_ 0
          have hrow6 := hrow5.setCell (b := w.heap.size) hvb x.at_ (.int .i64 0)
          have hbel6 := hbel5.setCell (p := ⟨w.heap.size, x.at_, none⟩) (Nat.le_refl _) (.int .i64 0)
          go_roundw
          case rel => exact ⟨k + 1, _, _, by omega, by go_num, rfl, HR, by rw [List.length_set]; exact hlen.out, (set_head hxb 0).trans hz.out, hbox6, hrow6, hbel6⟩
          case measure => simp [intOf]; omega
    · have HD : Hid (runF L (okK z) T = (cs, ok)) := by
        show _ = _
        rw [← hrun.out, List.drop_of_length_le (by omega), runF]
      obtain ⟨c', rfl⟩ := cm_of_list cs hlen.out
      have hzk : c'.k = z := hz.out
      have HB' : Hid (mb = (ok && decide (c' = Cm.of z))) := by
        show _ = _
        rw [HB.out, HD.out]
        congr 1
        rw [Bool.eq_iff_iff, decide_eq_true_iff, decide_eq_true_iff]
        exact ⟨fun h => l_inj h, fun h => by rw [h]⟩
      subst hzk
      have hq := fun w => cmd_neq c' (Cm.of c'.k) w
      unfold Cm.v Cm.of at hq
      simp only at hq
      unfold Cm.of at HB'
      generalize decide (c' = ⟨c'.k, 0, 0, 0, 0, 0, 0, 0, 0, 0, 0, 0, 0, 0⟩) = q at *
      obtain ⟨x0, x1, x2, x3, x4, x5, x6, x7, x8, x9, x10, x11, x12, x13⟩ := hbox.all
      have hgd : Tryz.prog.eqGuardType Tryz.prog.depth 75 = false := by kernel_rfl
      clear hbox hrow hrun hlen hz HB HD hk hat
      cases ok <;> cases q
      all_goals
        go_wp2_with fail
        go_ret
        exact ⟨ret_int (by rw [HM.out, HB'.out]; rfl), hbel⟩

end Go.Proofs.YtdhdbmfipkppiaaGreat.Isa
