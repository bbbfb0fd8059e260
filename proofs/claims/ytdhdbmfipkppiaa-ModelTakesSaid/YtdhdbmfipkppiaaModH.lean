/- The walks of model.Whole and of short. -/
import Derived.Test.YtdhdbmfipkppiaaModF
namespace Go.Proofs.Ytdhdbmfipkppiaa
set_option linter.unusedSimpArgs false
set_option linter.unusedVariables false
set_option linter.unnecessarySimpa false
open Go.RowKit

theorem OwnG.lower {base base' : Nat} {W : World} {g : Gr} (h : OwnG base W g) (hb : base' ≤ base) : OwnG base' W g := ⟨h.own.lower hb, h.fit, h.il, h.nl, h.ol⟩

def WholePost (bs : List Int) (w : World) (e : Ending) (w' : World) : Prop :=
  (∀ c, taken bs = some (c, bs.length) → ∃ g : Gr, g.c = c ∧ e = .returned (.tuple #[.agg #[g.iV, g.nV, g.oV], .int .i64 0]) ∧ OwnG w.heap.size w' g) ∧
  ((∀ c, taken bs ≠ some (c, bs.length)) → e = .returned (.tuple #[.agg #[.slice none 0 0, .slice none 0 0, .slice none 0 0], .int .i64 2])) ∧ Ext w w'

set_option maxRecDepth 8000 in
set_option maxHeartbeats 3200000 in
theorem whole_calls (v : Value) (bs : List Int) (w : World) (hv : Ints .u8 w v bs) (hb : BytesL bs) :
    Calls Try.prog 22 #[v] w (WholePost bs w) := by
  have HP : Hid (∀ e w', ((∀ c, taken bs = some (c, bs.length) → ∃ g : Gr, g.c = c ∧ e = .returned (.tuple #[.agg #[g.iV, g.nV, g.oV], .int .i64 0]) ∧ OwnG w.heap.size w' g) ∧
    ((∀ c, taken bs ≠ some (c, bs.length)) → e = .returned (.tuple #[.agg #[.slice none 0 0, .slice none 0 0, .slice none 0 0], .int .i64 2])) ∧ Ext w w') → WholePost bs w e w') := fun e w' h => h
  generalize WholePost bs w = PP at *
  obtain ⟨A, c, rfl, hlc, hcm, _⟩ := id hv.form
  unfold maxLen at hcm
  have hE1 := ext_alloc w (.cells #[.slice none 0 0, .slice none 0 0, .slice none 0 0] 26)
  have hb0 := Blk.new w #[.slice none 0 0, .slice none 0 0, .slice none 0 0] 26
  have hbase : w.heap.size < (w.alloc (.cells #[.slice none 0 0, .slice none 0 0, .slice none 0 0] 26)).heap.size := by simp
  have htk := take_calls _ bs _ (hv.ext hE1) hb
  unfold TakePost at htk
  go_enter Try.func22, Try.ntmps22
  go_wp2_with fail
  generalize w.alloc _ = w1 at *
  refine htk.mono ?_
  rintro e w2 ⟨hn, hs, h2⟩
  clear htk
  have hb2 := hb0.ext h2
  have hE2 := hE1.trans h2
  have hz := Blk.new w2 #[.slice none 0 0, .slice none 0 0, .slice none 0 0] 26
  cases ht : taken bs with
  | none =>
    have e1 := hn ht
    subst e1
    have h3 : Ext w2 ((w2.alloc (.cells #[.slice none 0 0, .slice none 0 0, .slice none 0 0] 26)).setRow w2.heap.size #[.slice none 0 0, .slice none 0 0, .slice none 0 0]) := ext_setRow (ext_alloc _ _) _ (Nat.le_refl _)
    have hb3 := hb2.ext h3
    have hx := ext_setRow (hE2.trans h3) #[.slice none 0 0, .slice none 0 0, .slice none 0 0] (Nat.le_refl _)
    go_upto_region 2 with (refine wpList_store_row rfl 26 _ _ rfl w2.heap.size #[.slice none 0 0, .slice none 0 0, .slice none 0 0] rfl rfl 26 _ hz (by kernel_rfl) rfl (by simp [Value.oneCell']) ?_)
    generalize World.setRow (w2.alloc _) _ _ = w3 at *
    go_wp2_with (refine wpList_store_row rfl 26 _ _ rfl w.heap.size #[.slice none 0 0, .slice none 0 0, .slice none 0 0] rfl rfl 26 _ hb3 (by kernel_rfl) rfl (by simp [Value.oneCell']) ?_)
    refine bodyPost_ret (v := .tuple #[.agg _, .int .i64 2]) (results_cell_tmp Try.results22 _ _ w.heap.size 26 _ (0, 0) _ rfl (setRow_heap _ _ _ _ _ _ hb3) (by kernel_rfl : Try.prog.underlying 26 = some (.struct (Try.prog.fieldsOf 26))) rfl (by kernel_rfl)) rfl ?_
    exact HP.out _ _ ⟨fun c h => (by rw [ht] at h; cases h), fun _ => rfl, hx⟩
  | some q =>
    obtain ⟨gc, n⟩ := q
    obtain ⟨g, hgc, rfl, hG⟩ := hs gc n ht
    have h3 : Ext w2 ((w2.alloc (.cells #[.slice none 0 0, .slice none 0 0, .slice none 0 0] 26)).setRow w2.heap.size #[g.iV, g.nV, g.oV]) := ext_setRow (ext_alloc _ _) _ (Nat.le_refl _)
    have hb3 := hb2.ext h3
    have hG3 := hG.ext h3
    have hb4 : Blk ((w2.alloc (.cells #[.slice none 0 0, .slice none 0 0, .slice none 0 0] 26)).setRow w2.heap.size #[g.iV, g.nV, g.oV]) w2.heap.size #[g.iV, g.nV, g.oV] 26 := setRow_heap _ _ _ _ _ _ hz
    have HO := Lib.hid hG.one
    clear hn hs
    go_upto_region 2 with (refine wpList_store_row rfl 26 _ _ rfl w2.heap.size #[g.iV, g.nV, g.oV] rfl rfl 26 _ hz (by kernel_rfl) rfl HO.out ?_)
    have hE3 := hE2.trans h3
    generalize World.setRow (w2.alloc _) _ _ = w3 at *
    generalize w2.heap.size = b4 at *
    have j0 : World.cell? w3 ⟨b4, 0, none⟩ = some g.iV := hb4.cell 0
    have j1 : World.cell? w3 ⟨b4, 1, none⟩ = some g.nV := hb4.cell 1
    have j2 : World.cell? w3 ⟨b4, 2, none⟩ = some g.oV := hb4.cell 2
    clear hG h3 hz hb2 hE2 hb4
    by_cases hl : n = bs.length
    · have t1 : ((n : Int) != (bs.length : Int)) = false := by simp [hl]
      have hx := ext_setRow hE3 #[g.iV, g.nV, g.oV] (Nat.le_refl _)
      have hGF := (hG3.setRow hbase #[g.iV, g.nV, g.oV]).lower (Nat.le_of_lt hbase)
      have HGF := Lib.hid hGF
      have HL := Lib.hid hl
      clear hl hG3 hGF
      go_wp2_with (refine wpList_store_row rfl 26 _ _ rfl w.heap.size #[g.iV, g.nV, g.oV] rfl rfl 26 _ hb3 (by kernel_rfl) rfl HO.out ?_)
      refine bodyPost_ret (v := .tuple #[.agg _, .int .i64 0]) (results_cell_tmp Try.results22 _ _ w.heap.size 26 _ (0, 0) _ rfl (setRow_heap _ _ _ _ _ _ hb3) (by kernel_rfl : Try.prog.underlying 26 = some (.struct (Try.prog.fieldsOf 26))) rfl (by kernel_rfl)) rfl ?_
      refine HP.out _ _ ⟨fun c h => ?_, fun h => ?_, hx⟩
      · rw [ht] at h
        cases h
        exact ⟨g, hgc, rfl, HGF.out⟩
      · exact absurd (by rw [ht, HL.out]) (h gc)
    · have t1 : ((n : Int) != (bs.length : Int)) = true := by rw [bne_iff_ne]; omega
      have hx := ext_setRow hE3 #[.slice none 0 0, .slice none 0 0, .slice none 0 0] (Nat.le_refl _)
      have HL := Lib.hid hl
      clear hl hG3
      go_wp2_with (refine wpList_store_row rfl 26 _ _ rfl w.heap.size #[.slice none 0 0, .slice none 0 0, .slice none 0 0] rfl rfl 26 _ hb3 (by kernel_rfl) rfl (by simp [Value.oneCell']) ?_)
      refine bodyPost_ret (v := .tuple #[.agg _, .int .i64 2]) (results_cell_tmp Try.results22 _ _ w.heap.size 26 _ (0, 0) _ rfl (setRow_heap _ _ _ _ _ _ hb3) (by kernel_rfl : Try.prog.underlying 26 = some (.struct (Try.prog.fieldsOf 26))) rfl (by kernel_rfl)) rfl ?_
      exact HP.out _ _ ⟨fun c h => (by rw [ht] at h; cases h; exact absurd rfl HL.out), fun _ => rfl, hx⟩

set_option maxHeartbeats 800000 in
theorem short_calls (v : Value) (bs : List Int) (w : World) (hv : Ints .u8 w v bs) :
    Calls Try.prog 18 #[v] w fun e w' => (∃ u, e = .returned u ∧ Ints .u8 w u (bs.take 20000)) ∧ w = w' := by
  obtain ⟨A, c, rfl, hlc, hcm, _⟩ := id hv.form
  unfold maxLen at hcm
  by_cases h : 20000 < bs.length
  · have h1 := Ints.first hv (m := 20000) (by omega)
    go_enter Try.func18, Try.ntmps18
    go_wp2_with fail
    go_ret
    exact ⟨⟨_, rfl, h1⟩, rfl⟩
  · have h1 : bs.take 20000 = bs := List.take_of_length_le (by omega)
    have H1 := Lib.hid h1
    clear h1
    go_enter Try.func18, Try.ntmps18
    go_wp2_with fail
    go_ret
    exact ⟨⟨_, rfl, by rw [H1.out]; exact hv⟩, rfl⟩

end Go.Proofs.Ytdhdbmfipkppiaa
