/- The walk of isa.fields. -/
import Derived.Test.YtgchdgnephbafaaIsaV
import Derived.Deep.CutBlock
namespace Go.Proofs.Ytgchdgnephbafaa
open Go.RowKit

theorem row_lit (W : World) (cs : Array Value) (e : TypeId) (n sz g : Nat) (hg : W.heap.size = g) (h : cs.size = n * sz) (hn : n ≤ maxLen) : Row (W.alloc (.cells cs e)) (.slice (some ⟨g, 0, none⟩) n n) n sz cs.toList := by
  subst hg
  exact row_new W cs e n sz h hn
theorem own_lit (W : World) (cs : Array Value) (e : TypeId) (n sz g base : Nat) (hg : W.heap.size = g) (hb : base ≤ g) (h : cs.size = n * sz) (hn : n ≤ maxLen) : (W.alloc (.cells cs e)).ownsRow base e sz (.slice (some ⟨g, 0, none⟩) n n) n cs.toList := by
  subst hg
  exact ⟨by simpa using h, .inr ⟨W.heap.size, n, cs, rfl, hb, heap_alloc_new W _, Nat.le_refl _, hn, h, List.take_of_length_le (by rw [Array.length_toList, h]; exact Nat.le_refl _)⟩⟩

theorem heap_old (w : World) (o : Obj) (k : Nat) (h : k < w.heap.size) : (w.alloc o).heap[k]? = w.heap[k]? := (below_alloc (Below.refl _ _) (Nat.le_refl _) o).block k h
theorem heap_new (w : World) (o : Obj) (k : Nat) (h : w.heap.size = k) : (w.alloc o).heap[k]? = some o := by subst h; exact heap_alloc_new w o

/-- The cells of one field that stand in a block. -/
def FdBox (w : World) (g b : Nat) (x : Fd) : Prop := w.heap[g]? = some (.cells #[.pointer (some ⟨b, x.at_, none⟩), .int .i64 x.wide, .int .i64 x.low, .int .i64 x.high] 50 (0, 0))
theorem FdBox.cells {w : World} {g b : Nat} {x : Fd} (h : FdBox w g b x) : w.cell? ⟨g, 0, none⟩ = some (.pointer (some ⟨b, x.at_, none⟩)) ∧ w.cell? ⟨g, 1, none⟩ = some (.int .i64 x.wide) ∧ w.cell? ⟨g, 2, none⟩ = some (.int .i64 x.low) ∧ w.cell? ⟨g, 3, none⟩ = some (.int .i64 x.high) := by
  unfold FdBox at h
  refine ⟨?_, ?_, ?_, ?_⟩ <;> simp [World.cell?, h]

theorem three_boxes (w : World) (b : Nat) : ∀ W, W = ((w.alloc (.cells #[.pointer (some ⟨b, 4, none⟩), .int .i64 1, .int .i64 1, .int .i64 16] 50)).alloc (.cells #[.pointer (some ⟨b, 2, none⟩), .int .i64 1, .int .i64 0, .int .i64 11] 50)).alloc (.cells #[.pointer (some ⟨b, 7, none⟩), .int .i64 2, .int .i64 0, .int .i64 1023] 50) →
    Below w.heap.size w W ∧ W.heap.size = w.heap.size + 1 + 1 + 1 ∧ FdBox W w.heap.size b ⟨4, 1, 1, 16⟩ ∧ FdBox W (w.heap.size + 1) b ⟨2, 1, 0, 11⟩ ∧ FdBox W (w.heap.size + 1 + 1) b ⟨7, 2, 0, 1023⟩ := by
  rintro W rfl
  refine ⟨below_alloc (below_alloc (below_alloc (Below.refl _ _) (Nat.le_refl _) _) (by simp) _) (by simp; omega) _, by simp, ?_, ?_, ?_⟩
  · unfold FdBox
    rw [heap_old _ _ _ (by simp; omega), heap_old _ _ _ (by simp), heap_alloc_new]
    rfl
  · unfold FdBox
    rw [heap_old _ _ _ (by simp)]
    exact heap_new _ _ _ (by simp)
  · unfold FdBox
    exact heap_new _ _ _ (by simp)

set_option maxHeartbeats 3200000 in
theorem fields_calls (b : Nat) (z : Int) (w : World) (hc : w.cell? ⟨b, 0, none⟩ = some (.int .i64 z)) :
    Calls Try.prog 21 #[.pointer (some ⟨b, 0, none⟩)] w (FieldsPost b z w) := by
  have hb := World.block_lt_of_cell? w _ hc
  simp only at hb
  go_enter Try.func21, Try.ntmps21
  have hb1 : b < w.heap.size + 1 := by omega
  have hb2 : b < w.heap.size + 1 + 1 := by omega
  go_upto_block 0 with fail
  clear hb1 hb2
  obtain ⟨hB, hsz, f4, f5, f6⟩ := three_boxes w b _ rfl
  generalize ((w.alloc _).alloc _).alloc _ = W at *
  have z0 := hc
  rw [← hB.cell (p := ⟨b, 0, none⟩) hb] at z0
  obtain ⟨x40, x41, x42, x43⟩ := f4.cells
  obtain ⟨x50, x51, x52, x53⟩ := f5.cells
  obtain ⟨x60, x61, x62, x63⟩ := f6.cells
  have HS := Lib.hid hsz
  clear f4 f5 f6 hc hsz
  by_cases h1 : z = 1 ∨ z = 2
  · rcases h1 with rfl | rfl
    all_goals
      go_wp2_with fail
      go_region
      go_wp2_with fail
      go_ret2
      exact ⟨_, rfl, (row_lit _ _ _ 4 4 _ rfl rfl (by unfold maxLen; omega)).drew, fun k hk => by cases hk; exact hB.size, (below_alloc hB hB.size _).drew⟩
  · by_cases h3 : z = 3
    · subst h3
      go_wp2_with fail
      go_region
      have hown := ownsRow_drew (own_lit W #[.pointer (some ⟨b, 2, none⟩), .int .i64 1, .int .i64 0, .int .i64 11, .pointer (some ⟨b, 3, none⟩), .int .i64 1, .int .i64 0, .int .i64 15, .pointer (some ⟨b, 4, none⟩), .int .i64 1, .int .i64 1, .int .i64 16, .pointer (some ⟨b, 7, none⟩), .int .i64 2, .int .i64 0, .int .i64 1023] 50 4 4 W.heap.size w.heap.size rfl hB.size rfl (by unfold maxLen; omega))
      have hbel := (below_alloc hB hB.size (.cells #[.pointer (some ⟨b, 2, none⟩), .int .i64 1, .int .i64 0, .int .i64 11, .pointer (some ⟨b, 3, none⟩), .int .i64 1, .int .i64 0, .int .i64 15, .pointer (some ⟨b, 4, none⟩), .int .i64 1, .int .i64 1, .int .i64 16, .pointer (some ⟨b, 7, none⟩), .int .i64 2, .int .i64 0, .int .i64 1023] 50)).drew
      clear z0 x40 x41 x42 x43 x50 x51 x52 x53 x60 x61 x62 x63
      go_upto_block 1 with fail
      go_wp2_with fail
      go_loopw [7, 49] (fun v i wr => ∃ k : Nat, k ≤ 2 ∧ i = .int .i64 k ∧ wr.ownsRow w.heap.size 50 4 v (4 + 3 * k) (Fds b (tileN k)) ∧ Below w.heap.size w wr) (fun _ i _ => 2 - (intOf i).toNat)
      case atStart => exact ⟨0, by omega, rfl, hown, hbel⟩
      case round =>
        clear hown hbel
        obtain ⟨k, hk, rfl, hown, hbel⟩ := hrel
        by_cases hlt : k < 2
        · go_wp2_with fail
          refine wp_region_S (fun _ => True) [(0, true), (1, true), (2, true), (3, true), (4, true), (5, true), (6, true), (7, true), (8, true), (9, true), (10, true), (11, true), (12, true), (13, true), (14, true), (15, true), (16, true), (17, true), (18, true), (19, false), (20, false), (21, true)] (by kernel_rfl) (by kernel_rfl) (fun _ _ d _ _ h => by cases d <;> exact h) trivial ?_
          simp only [pickE, List.getElem?_cons_zero, List.getElem?_cons_succ]
          repeat (refine wpF_pure (by rfl) (fun W _ => by go_simp; with_reducible rfl) ?_; simp only [Act.put, List.setIfInBounds_toArray, List.set_cons_zero, List.set_cons_succ])
          refine wpF_step (by rfl) (fun K hK => ?_)
          go_simp
          refine hK _ _ trivial ?_
          clear hK K
          have hnew := row_lit wr.drew #[.pointer (some ⟨b, 8 + k, none⟩), .int .i64 2, .int .i64 0, .int .i64 1023, .pointer (some ⟨b, 10 + k, none⟩), .int .i64 1, .int .i64 0, .int .i64 15, .pointer (some ⟨b, 12 + k, none⟩), .int .i64 1, .int .i64 0, .int .i64 16] 50 3 4 wr.heap.size rfl rfl (by unfold maxLen; omega)
          have hown1 := (ownsRow_drew hown).alloc (.cells #[.pointer (some ⟨b, 8 + k, none⟩), .int .i64 2, .int .i64 0, .int .i64 1023, .pointer (some ⟨b, 10 + k, none⟩), .int .i64 1, .int .i64 0, .int .i64 15, .pointer (some ⟨b, 12 + k, none⟩), .int .i64 1, .int .i64 0, .int .i64 16] 50 (0, 0))
          have hbel1 := below_alloc hbel.drew hbel.drew.size (.cells #[.pointer (some ⟨b, 8 + k, none⟩), .int .i64 2, .int .i64 0, .int .i64 1023, .pointer (some ⟨b, 10 + k, none⟩), .int .i64 1, .int .i64 0, .int .i64 15, .pointer (some ⟨b, 12 + k, none⟩), .int .i64 1, .int .i64 0, .int .i64 16] 50 (0, 0))
          refine wpF_step (by rfl) (fun K hK => ?_)
          refine wp_append_row rfl elem_fd hown1 rfl hnew rfl (fds_one b (tileIn k)) (by omega) (by omega) hbel1.size (fun v' w' ho hg hn => hK _ _ trivial ?_)
          clear hK K
          have hown2 : w'.ownsRow w.heap.size 50 4 v' (4 + 3 * (k + 1)) (Fds b (tileN (k + 1))) := by
            have e : Fds b (tileN (k + 1)) = Fds b (tileN k) ++ Fds b (tileIn k) := fds_append b _ _
            rw [e, show 4 + 3 * (k + 1) = 4 + 3 * k + 3 from by omega]
            exact ho
          have hbel2 := below_own hbel1 hbel1.size hown1 (Nat.le_refl _) hg
          clear hown1 hbel1 ho hg hn hnew
          simp only [Act.put, List.setIfInBounds_toArray, List.set_cons_zero, List.set_cons_succ]
          repeat (refine wpF_pure (by rfl) (fun W _ => by go_simp; with_reducible rfl) ?_; simp only [Act.put, List.setIfInBounds_toArray, List.set_cons_zero, List.set_cons_succ])
          refine wpF_nil ?_
          go_wp2_with fail
          go_roundw
          case rel => exact ⟨k + 1, by omega, by go_num, hown2, hbel2⟩
          case measure => simp [intOf]; omega
        · obtain rfl : k = 2 := by omega
          go_wp2_with fail
          go_ret2
          exact ⟨_, rfl, row_of_own hown, fun k hk => (hown.lt k hk).1, hbel⟩
    · by_cases h4 : z = 4
      · subst h4
        go_wp2_with fail
        go_ret2
        exact ⟨_, rfl, row_lit _ _ _ 2 4 _ rfl rfl (by unfold maxLen; omega), fun k hk => by cases hk; exact hB.size, below_alloc hB hB.size _⟩
      · by_cases h5 : z = 5 ∨ z = 6
        · rcases h5 with rfl | rfl
          all_goals
            go_wp2_with fail
            go_ret2
            exact ⟨_, rfl, row_lit _ _ _ 1 4 _ rfl rfl (by unfold maxLen; omega), fun k hk => by cases hk; exact hB.size, below_alloc hB hB.size _⟩
        · have h12 : ¬ z = 1 ∧ ¬ z = 2 ∧ ¬ z = 3 ∧ ¬ z = 4 ∧ ¬ z = 5 ∧ ¬ z = 6 := by omega
          obtain ⟨g1, g2, g3, g4, g5, g6⟩ := h12
          have HT : Hid (tbl z = []) := by
            show _ = _
            unfold tbl
            rw [if_neg (by omega), if_neg (by omega), if_neg (by omega), if_neg (by omega)]
          have HO : Hid (okK z = (z == 7)) := by
            show _ = _
            unfold okK
            rw [Bool.eq_iff_iff, decide_eq_true_iff, beq_iff_eq]
            omega
          go_wp2_with fail
          go_region
          go_wp2_with fail
          go_ret2
          refine ⟨.slice none 0 0, by rw [HO.out]; rfl, ?_, (fun k hk => by cases hk), hB.drew⟩
          rw [HT.out]
          exact row_nil _ _

end Go.Proofs.Ytgchdgnephbafaa
