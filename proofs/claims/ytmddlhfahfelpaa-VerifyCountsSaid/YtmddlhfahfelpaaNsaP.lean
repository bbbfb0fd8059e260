/- Rows of commands, and what they are laid down as. -/
/- The walk of isa.Put. -/
import Derived.Test.YtmddlhfahfelpaaNsaN
set_option linter.unusedSimpArgs false
set_option linter.unusedVariables false
set_option linter.unnecessarySimpa false
namespace Go.Proofs.Ytmddlhfahfelpaa.Isa
set_option maxRecDepth 10000
open Go.RowKit

/-- A slice of commands. -/
def Cmds (w : World) (v : Value) (l : List Cm) : Prop := Row w v l.length 14 (l.flatMap Cm.cs)

theorem ccs_get : ∀ (l : List Cm) (j i : Nat), i < 14 → (l.flatMap Cm.cs)[j * 14 + i]? = (l[j]?).bind fun s => s.cs[i]?
  | [], j, i, _ => by simp
  | s :: l, 0, i, hi => by
    rw [List.flatMap_cons, Nat.zero_mul, Nat.zero_add, List.getElem?_append_left (by rw [Cm.cs_len]; exact hi)]
    rfl
  | s :: l, j + 1, i, hi => by
    rw [List.flatMap_cons, List.getElem?_append_right (by rw [Cm.cs_len]; omega), show (j + 1) * 14 + i - s.cs.length = j * 14 + i from by rw [Cm.cs_len]; omega, ccs_get l j i hi]
    rfl

theorem ccs_len (l : List Cm) : (l.flatMap Cm.cs).length = l.length * 14 := by
  induction l with
  | nil => rfl
  | cons x l ih => rw [List.flatMap_cons, List.length_append, ih, Cm.cs_len, List.length_cons]; omega

theorem ccs_one (l : List Cm) : ∀ u ∈ l.flatMap Cm.cs, u.oneCell' = true := by
  intro u hu
  obtain ⟨x, _, hx⟩ := List.mem_flatMap.1 hu
  exact one_ints .i64 _ u hx

theorem Cmds.below {w w' : World} {v : Value} {l : List Cm} (h : Cmds w v l) {B : Nat} (hb : Below B w w') (hB : w.heap.size ≤ B) : Cmds w' v l := Row.below h (hb.mono hB)

theorem Cmds.form {w : World} {v : Value} {l : List Cm} (h : Cmds w v l) : ∃ A c, v = .slice A l.length c ∧ l.length ≤ c ∧ c ≤ maxLen ∧
    (∀ j s, l[j]? = some s → ∃ b off, A = some ⟨b, off, none⟩ ∧ b < w.heap.size ∧ w.cell? ⟨b, off + j * 14, none⟩ = some (.int .i64 s.k) ∧ w.cell? ⟨b, off + j * 14 + 1, none⟩ = some (.int .i64 s.s) ∧ w.cell? ⟨b, off + j * 14 + 2, none⟩ = some (.int .i64 s.n) ∧
      w.cell? ⟨b, off + j * 14 + 3, none⟩ = some (.int .i64 s.f) ∧ w.cell? ⟨b, off + j * 14 + 4, none⟩ = some (.int .i64 s.r) ∧ w.cell? ⟨b, off + j * 14 + 5, none⟩ = some (.int .i64 s.o) ∧ w.cell? ⟨b, off + j * 14 + 6, none⟩ = some (.int .i64 s.d) ∧
      w.cell? ⟨b, off + j * 14 + 7, none⟩ = some (.int .i64 s.p) ∧ w.cell? ⟨b, off + j * 14 + 8, none⟩ = some (.int .i64 s.i0) ∧ w.cell? ⟨b, off + j * 14 + 9, none⟩ = some (.int .i64 s.i1) ∧ w.cell? ⟨b, off + j * 14 + 10, none⟩ = some (.int .i64 s.b0) ∧
      w.cell? ⟨b, off + j * 14 + 11, none⟩ = some (.int .i64 s.b1) ∧ w.cell? ⟨b, off + j * 14 + 12, none⟩ = some (.int .i64 s.h0) ∧ w.cell? ⟨b, off + j * 14 + 13, none⟩ = some (.int .i64 s.h1)) := by
  obtain ⟨A, c, e, h1, h2, h3, h4⟩ := h
  refine ⟨A, c, e, h1, h2, fun j s hj => ?_⟩
  have g := fun i u (hi : i < 14) (hu : s.cs[i]? = some u) => h4 (j * 14 + i) u (by rw [ccs_get _ _ _ hi, hj]; exact hu)
  obtain ⟨b, off, rfl, k0⟩ := g 0 _ (by omega) rfl
  have g' : ∀ i u, i < 14 → s.cs[i]? = some u → w.cell? ⟨b, off + j * 14 + i, none⟩ = some u := fun i u hi hu => by
    obtain ⟨_, _, e1, k1⟩ := g i u hi hu
    cases e1
    rw [← Nat.add_assoc] at k1
    exact k1
  exact ⟨b, off, rfl, World.block_lt_of_cell? w _ k0, g' 0 _ (by omega) rfl, g' 1 _ (by omega) rfl, g' 2 _ (by omega) rfl, g' 3 _ (by omega) rfl, g' 4 _ (by omega) rfl, g' 5 _ (by omega) rfl, g' 6 _ (by omega) rfl, g' 7 _ (by omega) rfl, g' 8 _ (by omega) rfl, g' 9 _ (by omega) rfl, g' 10 _ (by omega) rfl, g' 11 _ (by omega) rfl, g' 12 _ (by omega) rfl, g' 13 _ (by omega) rfl⟩

theorem Cmds.first {w : World} {A : Option Addr} {n c : Nat} {l : List Cm} (h : Cmds w (.slice A n c) l) {m : Nat} (hm : m ≤ l.length) : Cmds w (.slice A m c) (l.take m) := by
  obtain ⟨A', c', e, h1, h2, h3, h4⟩ := h
  cases e
  have hl : (l.take m).length = m := by rw [List.length_take]; omega
  refine ⟨A, c, by rw [hl], by omega, h2, by rw [ccs_len], ?_⟩
  have e2 : (l.take m).flatMap Cm.cs = (l.flatMap Cm.cs).take (m * 14) := by
    have : ∀ (l : List Cm) (m : Nat), (l.take m).flatMap Cm.cs = (l.flatMap Cm.cs).take (m * 14) := by
      intro l
      induction l with
      | nil => intro m; simp
      | cons x l ih =>
        intro m
        cases m with
        | zero => simp
        | succ m =>
          rw [List.take_succ_cons, List.flatMap_cons, List.flatMap_cons, ih, List.take_append, Cm.cs_len, List.take_of_length_le (l := x.cs) (by rw [Cm.cs_len]; omega), show (m + 1) * 14 - 14 = m * 14 from by omega]
    exact this l m
  rw [e2]
  exact h4.take _

/-- What a command is laid down as. -/
def enc (c : Cm) : List Int := be c.k 1 ++ (tbl c.k).flatMap fun x => be (c.l[x.at_]?.getD 0) x.wide
def encs (l : List Cm) : List Int := be l.length 2 ++ l.flatMap enc
def putErr (l : List Cm) : Int := if 4096 < l.length then 3 else if l.all mayB then 0 else 1
def putB (l : List Cm) : List Int := if 4096 < l.length then [] else if l.all mayB then encs l else []

theorem enc_len (c : Cm) : (enc c).length ≤ 14 := by
  unfold enc
  rw [List.length_append, be_len]
  have : ∀ T : List Fd, (T.flatMap fun x => be (c.l[x.at_]?.getD 0) x.wide).length = (T.map (·.wide)).sum := by
    intro T
    induction T with
    | nil => rfl
    | cons x T ih => rw [List.flatMap_cons, List.length_append, be_len, ih]; rfl
  rw [this]
  unfold tbl
  split
  · decide
  · split
    · decide
    · split
      · decide
      · split <;> decide

theorem sep_new {w : World} {base : Nat} {e : TypeId} {sz : Nat} {v : Value} {n : Nat} {xs : List Value} (h : w.ownsRow base e sz v n xs) (m c : Nat) : Sep v (.slice (some ⟨w.heap.size, 0, none⟩) m c) := fun k hk e => by
  have := (h.lt k hk).2
  simp only [Value.ownBlock, Option.some.injEq] at e
  omega

/-- What Put answers. -/
def PutPost (l : List Cm) (w : World) (e : Ending) (w' : World) : Prop :=
  ∃ v', e = .returned (.tuple #[v', .int .i64 (putErr l)]) ∧ w'.ownsRow w.heap.size 5 1 v' (putB l).length ((putB l).map (.int .u8)) ∧ Below w.heap.size w w'

end Go.Proofs.Ytmddlhfahfelpaa.Isa

namespace Go.Proofs.Ytmddlhfahfelpaa.Isa
set_option maxRecDepth 10000
open Go.RowKit

set_option maxHeartbeats 3200000 in
theorem put_calls (v : Value) (l : List Cm) (w : World) (hl : Cmds w v l) :
    Calls Try.prog 34 #[v] w (PutPost l w) := by
  obtain ⟨A, c, rfl, hlc, hcm, _⟩ := id hl.form
  unfold maxLen at hcm
  by_cases hbig : 4096 < l.length
  · have h1 := Lib.hid (show putErr l = 3 from if_pos hbig)
    have h2 := Lib.hid (show putB l = [] from if_pos hbig)
    go_enter Try.func34, Try.ntmps34
    go_wp2
    go_ret2
    refine ⟨.slice none 0 0, by rw [h1.out]; rfl, ?_, Below.refl _ _⟩
    rw [h2.out]
    exact World.ownsRow_nil _ _ _ _
  · have h1 := Lib.hid (show putErr l = if l.all mayB then 0 else 1 from if_neg hbig)
    have h2 := Lib.hid (show putB l = if l.all mayB then encs l else [] from if_neg hbig)
    have hlit := row_lit w #[.int .i64 l.length] 3 1 1 w.heap.size rfl rfl (by unfold maxLen; omega)
    have hnil : (w.alloc (.cells #[.int .i64 l.length] 3)).ownsRow w.heap.size 5 1 (.slice none 0 0) ([] : List Int).length (([] : List Int).map (Value.int .u8)) := World.ownsRow_nil _ _ _ _
    have hb0 := below_alloc (Below.refl w.heap.size w) (Nat.le_refl _) (.cells #[.int .i64 l.length] 3)
    go_enter Try.func34, Try.ntmps34
    go_wp2_with fail
    refine (numbers_calls w.heap.size (.slice none 0 0) (.slice (some ⟨w.heap.size, 0, none⟩) 1 1) [] 2 [l.length] _ hnil hb0.size hlit (fun k hk => by cases hk) (fun k hk => by cases hk; simp) (by omega) (by omega) (by simp)).mono ?_
    rintro e w1 ⟨v1, rfl, hg⟩
    have hown := hg.own
    have hb1 := hb0.trans (hg.base hb0.size (fun k hk => by cases hk))
    have e1 : ([] ++ [(l.length : Int)].flatMap (be · 2)) = be l.length 2 := by simp
    rw [e1] at hown
    clear hg e1 hlit hnil hb0
    have hl1 := hl.below hb1 (Nat.le_refl _)
    go_wp2_with fail
    go_loopw [4, 21] (fun b i wr => ∃ (k : Nat) (bk : List Int), k ≤ l.length ∧ i = .int .i64 k ∧ Hid ((l.take k).all mayB = true) ∧ Hid (bk = be l.length 2 ++ (l.take k).flatMap enc) ∧ Hid (bk.length ≤ 2 + k * 14) ∧ wr.ownsRow w.heap.size 5 1 b bk.length (bk.map (.int .u8)) ∧ Below w.heap.size w wr) (fun _ i _ => l.length - (intOf i).toNat)
    case atStart => exact ⟨0, _, by omega, rfl, rfl, by show _ = _; simp, by show _ ≤ _; rw [be_len]; omega, hown, hb1⟩
    case round =>
      clear hown hb1 hl1
      obtain ⟨k, bk, hk, rfl, hall, hbk, hbl, hown, hbel⟩ := hrel
      by_cases hlt : k < l.length
      · have hs : l[k]? = some l[k] := by simp [hlt]
        obtain ⟨_, _, e1, _, _, hcells⟩ := (hl.below hbel (Nat.le_refl _)).form
        cases e1
        obtain ⟨g, off, rfl, hg, x0, x1, x2, x3, x4, x5, x6, x7, x8, x9, x10, x11, x12, x13⟩ := hcells k _ hs
        have HT := Lib.hid (show l.take (k + 1) = l.take k ++ [l[k]] from List.take_succ_eq_append_getElem hlt)
        have HM := Lib.hid (show mayB l[k] = false → l.all mayB = false from fun h => by
          rw [Bool.eq_false_iff]; intro h'; rw [List.all_eq_true.1 h' _ (List.getElem_mem hlt)] at h; cases h)
        clear hcells hs
        generalize l[k] = x at *
        have hbox := cbox_new wr x
        have hm := may_calls x (wr.alloc (.cells #[.int .i64 x.k, .int .i64 x.s, .int .i64 x.n, .int .i64 x.f, .int .i64 x.r, .int .i64 x.o, .int .i64 x.d, .int .i64 x.p, .int .i64 x.i0, .int .i64 x.i1, .int .i64 x.b0, .int .i64 x.b1, .int .i64 x.h0, .int .i64 x.h1] 47))
        have hba := below_alloc (Below.refl wr.heap.size wr) (Nat.le_refl _) (.cells #[.int .i64 x.k, .int .i64 x.s, .int .i64 x.n, .int .i64 x.f, .int .i64 x.r, .int .i64 x.o, .int .i64 x.d, .int .i64 x.p, .int .i64 x.i0, .int .i64 x.i1, .int .i64 x.b0, .int .i64 x.b1, .int .i64 x.h0, .int .i64 x.h1] 47)
        unfold Cm.v at hm
        go_wp2_with fail
        refine hm.mono ?_
        rintro e w2 ⟨rfl, hb2⟩
        have hbox2 := hbox.below hb2 (by simp)
        have hown2 := hown.kept (row := none) (grown_of_ext (Ext.trans (b := wr.alloc _) hba hb2)) (by cases u4.ownBlock <;> simp)
        have hb2' := hbel.trans ((Below.trans hba (hb2.mono (by simp))).mono hbel.size)
        have hsz2 : wr.heap.size < w2.heap.size := hbox2.lt
        have hlt4 : ∀ k, u4.ownBlock = some k → k < wr.heap.size := fun k hk => (hown.lt k hk).2
        clear hm hba hbox hb2 hown hbel x0 x1 x2 x3 x4 x5 x6 x7 x8 x9 x10 x11 x12 x13
        cases hq : mayB x with
        | false =>
          have hme : mayE x = 1 := by unfold mayE; rw [hq]; rfl
          have HA := Lib.hid (HM.out hq)
          rw [hme]
          clear hme hq HM
          go_wp2_with fail
          go_ret2
          refine ⟨.slice none 0 0, by rw [h1.out, HA.out]; rfl, ?_, hb2'⟩
          rw [h2.out, HA.out]
          exact World.ownsRow_nil _ _ _ _
        | true =>
          have hme : mayE x = 0 := by unfold mayE; rw [hq]; rfl
          have HA : Hid ((l.take (k + 1)).all mayB = true) := by
            show _ = _
            rw [HT.out, List.all_append, hall.out]
            simp [hq]
          rw [hme]
          clear hme hq HM hall
          obtain ⟨y0, y1, y2, y3, y4, y5, y6, y7, y8, y9, y10, y11, y12, y13⟩ := hbox2.all
          clear y1 y2 y3 y4 y5 y6 y7 y8 y9 y10 y11 y12 y13
          have hlit := row_lit w2 #[.int .i64 x.k] 3 1 1 w2.heap.size rfl rfl (by unfold maxLen; omega)
          have hb3 := below_alloc (Below.refl w2.heap.size w2) (Nat.le_refl _) (.cells #[.int .i64 x.k] 3)
          have hown3 := hown2.alloc (.cells #[.int .i64 x.k] 3 (0, 0))
          have hsz0 := hb2'.size
          have hbl1 := hbl.out
          have hn := numbers_calls w.heap.size u4 (.slice (some ⟨w2.heap.size, 0, none⟩) 1 1) bk 1 [x.k] _ hown3 (by simp; omega) hlit (sep_new hown2 1 1) (fun k hk => by cases hk; simp) (by omega) (by omega) (by simp; omega)
          clear hbl1
          go_wp2_with fail
          refine hn.mono ?_
          rintro e w4 ⟨v4, rfl, hg4⟩
          have e1 : (bk ++ [x.k].flatMap (be · ((1 : Nat)))) = bk ++ be x.k 1 := by simp
          have hown4 := hg4.own
          rw [e1] at hown4
          have hb4 := hb2'.trans ((hb3.mono (hb2'.size)).trans (hg4.base (by simp; omega) (fun k hk => (hown3.lt k hk).1)))
          have hbox4 : CBox w4 wr.heap.size x.l := (hg4.grown.block _ (by simp; omega) (fun e => by have := hlt4 _ e.symm; omega)).trans (hbox2.below hb3 hsz2)
          have hsz4 : wr.heap.size < w4.heap.size := hbox4.lt
          have hvl : some wr.heap.size ≠ v4.ownBlock := fun e => by
            rcases hg4.near _ e.symm with h | h
            · have := hlt4 _ h; omega
            · simp at h; omega
          clear hn hlit hb3 hown3 hg4 e1 hbox2 hown2 hb2' hsz0 hlt4 y0
          have hf := fields_calls wr.heap.size x.k w4 hbox4.all.1
          go_wp2_with fail
          refine hf.mono ?_
          rintro e w5 ⟨vf, rfl, hrow, hfr, hb5⟩
          have hbox5 := hbox4.below hb5 hsz4
          have hown5 := hown4.kept (row := none) (grown_of_ext hb5) (by cases v4.ownBlock <;> simp)
          have hsep : Sep v4 vf := fun k hk e => by have := hfr k e; have := (hown4.lt k hk).2; omega
          have hb5' := hb4.trans (hb5.mono hb4.size)
          have hsz5 : wr.heap.size < w5.heap.size := hbox5.lt
          have HE : Hid (enc x = be x.k 1 ++ (tbl x.k).flatMap fun y => be (x.l[y.at_]?.getD 0) y.wide) := rfl
          have hat := tbl_at x.k
          have hT10 := tbl_len x.k
          have hsum : Hid ((enc x).length ≤ 14) := enc_len x
          clear hf hfr hb5 hbox4 hown4 hb4 hsz4
          generalize tbl x.k = T at *
          generalize wr.heap.size = B at *
          have hg0 := Grew.refl hown5
          obtain ⟨F, cf, rfl, hlf, hcf, _⟩ := id (fds_form hrow)
          unfold maxLen at hcf
          have hbl1 := hbl.out
          have hB0 : Hid ((bk ++ be x.k 1).length ≤ 2 + k * 14 + 1) := by show _ ≤ _; rw [List.length_append, be_len]; omega
          clear hbl1
          go_wp2_with fail
          go_loopw [4, 41] (fun b i wi => ∃ (j : Nat) (bj : List Int), j ≤ T.length ∧ i = .int .i64 j ∧ Hid (bj = (bk ++ be x.k 1) ++ (T.take j).flatMap fun y => be (x.l[y.at_]?.getD 0) y.wide) ∧ Hid (bj.length ≤ 2 + k * 14 + 1 + 3 * j) ∧ Grew w5 w.heap.size 5 1 v4 bj.length (bj.map (.int .u8)) wi b) (fun _ i _ => T.length - (intOf i).toNat)
          case atStart => exact ⟨0, _, by omega, rfl, by show _ = _; simp, hB0, hg0⟩
          case round =>
            clear hg0 hB0
            obtain ⟨j, bj, hj, rfl, hbj, hbjl, hg⟩ := hrel
            by_cases hjl : j < T.length
            · have hx : T[j]? = some T[j] := by simp [hjl]
              obtain ⟨hxa, hxb, hw1, hw3⟩ := hat T[j] (List.getElem_mem hjl)
              obtain ⟨_, _, e1, _, _, hcells⟩ := fds_form (Row.grown hrow hg.grown hsep.or)
              cases e1
              obtain ⟨gf, of, rfl, c0, c1, c2, c3⟩ := hcells j _ hx
              have HF := Lib.hid (show T.take (j + 1) = T.take j ++ [T[j]] from List.take_succ_eq_append_getElem hjl)
              clear hcells hx
              generalize T[j] = y at *
              have hbw : CBox wr B x.l := (hg.grown.block _ hsz5 hvl).trans hbox5
              have hsw : B < wr.heap.size := hbw.lt
              have hgl := World.block_lt_of_cell? wr _ c0
              simp only at hgl
              go_wp2_with fail
              have hbel6 := below_alloc (Below.refl wr.heap.size wr) (Nat.le_refl _) (.cells #[.pointer (some ⟨B, y.at_, none⟩), .int .i64 y.wide, .int .i64 y.low, .int .i64 y.high] 101)
              have n0 : (wr.alloc (.cells #[.pointer (some ⟨B, y.at_, none⟩), .int .i64 y.wide, .int .i64 y.low, .int .i64 y.high] 101)).cell? ⟨wr.heap.size, 0, none⟩ = some (.pointer (some ⟨B, y.at_, none⟩)) := by
                rw [cell_of_row _ _ 0 _ _ _ (heap_alloc_new wr _)]; rfl
              have n1 : (wr.alloc (.cells #[.pointer (some ⟨B, y.at_, none⟩), .int .i64 y.wide, .int .i64 y.low, .int .i64 y.high] 101)).cell? ⟨wr.heap.size, 1, none⟩ = some (.int .i64 y.wide) := by
                rw [cell_of_row _ _ 1 _ _ _ (heap_alloc_new wr _)]; rfl
              have n2 := (hbw.below hbel6 hsw).cell (i := y.at_) hxa
              have hg6 := hg.alloc (.cells #[.pointer (some ⟨B, y.at_, none⟩), .int .i64 y.wide, .int .i64 y.low, .int .i64 y.high] 101)
              have hs6 : wr.heap.size < (wr.alloc (.cells #[.pointer (some ⟨B, y.at_, none⟩), .int .i64 y.wide, .int .i64 y.low, .int .i64 y.high] 101)).heap.size := by simp
              have hvr : some wr.heap.size ≠ u4.ownBlock := fun e => by have := (hg.own.lt _ e.symm).2; omega
              have hvB : some B ≠ u4.ownBlock := fun e => by
                rcases hg.near _ e.symm with h | h
                · exact hvl h.symm
                · omega
              generalize hX : x.l[y.at_]?.getD 0 = z at *
              have HX := Lib.hid hX
              clear hX hbw c0 c1 c2 c3 hbel6 hg
              generalize wr.alloc (.cells #[.pointer (some ⟨B, y.at_, none⟩), .int .i64 y.wide, .int .i64 y.low, .int .i64 y.high] 101) = w6 at *
              generalize wr.heap.size = G at *
              have k0 : ∀ W, Keeps [G, B] w6 W → W.cell? ⟨G, 0, none⟩ = some (.pointer (some ⟨B, y.at_, none⟩)) := fun W hW => (hW.cell (by simp)).trans n0
              have k1 : ∀ W, Keeps [G, B] w6 W → W.cell? ⟨G, 1, none⟩ = some (.int .i64 y.wide) := fun W hW => (hW.cell (by simp)).trans n1
              have k2 : ∀ W, Keeps [G, B] w6 W → W.cell? ⟨B, y.at_, none⟩ = some (.int .i64 z) := fun W hW => (hW.cell (by simp)).trans n2
              clear n0 n1 n2
              refine wp_region_S (Keeps [G, B] w6) [(0, true), (1, true), (2, true), (3, true), (4, true), (5, true), (6, true), (7, false), (8, false), (9, true)] (by kernel_rfl) (by kernel_rfl) (fun _ _ d _ _ h => by cases d <;> exact h) (Keeps.drew _ _) ?_
              simp only [pickE, List.getElem?_cons_zero, List.getElem?_cons_succ]
              repeat (refine wpF_pure (by rfl) (fun W hW => by go_simp; with_reducible rfl) ?_; simp only [Act.put, List.setIfInBounds_toArray, List.set_cons_zero, List.set_cons_succ])
              have hg7 := hg6.drew
              have hK7 : Keeps [G, B] w6 w6.drew := Keeps.drew _ _
              have hs7 : G < w6.drew.heap.size := hs6
              have hsz7 : w.heap.size ≤ w6.drew.heap.size := Nat.le_trans hb5'.size hg7.grown.size
              clear hg6 hs6 k0 k1 k2
              generalize w6.drew = w7 at *
              have hlit := row_lit w7 #[.int .i64 z] 3 1 1 w7.heap.size rfl rfl (by unfold maxLen; omega)
              have hg8 := hg7.alloc (.cells #[.int .i64 z] 3)
              have hK8 := hK7.trans (Keeps.below (below_alloc (Below.refl w7.heap.size w7) (Nat.le_refl _) (.cells #[.int .i64 z] 3)) (bs := [G, B]) (by simp; omega))
              have hbjl1 := hbjl.out
              have hn := numbers_calls w.heap.size u4 (.slice (some ⟨w7.heap.size, 0, none⟩) 1 1) bj y.wide [z] _ hg8.own (by simp; omega) hlit (sep_new hg7.own 1 1) (fun k hk => by cases hk; simp) hw1 (by omega) (by simp; omega)
              clear hbjl1
              refine wpF_step (by rfl) (fun K hK => ?_)
              go_simp
              refine hK _ _ hK8 ?_
              clear hK K
              refine wpF_step (by rfl) (fun K hK => ?_)
              go_simp
              refine hn.mono ?_
              rintro e w9 ⟨v9, rfl, hg9⟩
              refine hK _ _ (hK8.trans (Keeps.grown hg9.grown (fun k hk => by
                simp only [List.mem_cons, List.not_mem_nil, or_false] at hk
                rcases hk with rfl | rfl
                · exact ⟨by simp; omega, hvr⟩
                · exact ⟨by simp; omega, hvB⟩))) ?_
              clear hK K
              have e2 : (bj ++ [z].flatMap (be · y.wide)) = bj ++ be z y.wide := by simp
              rw [e2] at hg9
              have hg10 := hg8.trans hg9
              have hbj2 : Hid (bj ++ be z y.wide = (bk ++ be x.k 1) ++ (T.take (j + 1)).flatMap fun y => be (x.l[y.at_]?.getD 0) y.wide) := by
                show _ = _
                rw [HF.out, List.flatMap_append, hbj.out]
                simp [HX.out]
              have hbl2 : Hid ((bj ++ be z y.wide).length ≤ 2 + k * 14 + 1 + 3 * (j + 1)) := by
                show _ ≤ _
                have := hbjl.out
                rw [List.length_append, be_len]
                omega
              clear e2 hg8 hg9 hg7 hlit hn hK7 hK8 HF hbj hbjl
              refine wpF_pure (by rfl) (fun W hW => by go_simp; with_reducible rfl) ?_
              simp only [Act.put, List.setIfInBounds_toArray, List.set_cons_zero, List.set_cons_succ]
              refine wpF_nil ?_
              go_wp2_with fail
              go_roundw
              case rel => exact ⟨j + 1, _, by omega, by go_num, hbj2, hbl2, hg10⟩
              case measure => simp [intOf]; omega
            · have hjj : T.take j = T := List.take_of_length_le (by omega)
              have hbj2 : Hid (bj = be l.length 2 ++ (l.take (k + 1)).flatMap enc) := by
                show _ = _
                rw [hbj.out, hjj, hbk.out, HT.out, List.flatMap_append, List.append_assoc, List.append_assoc]
                simp [HE.out]
              have hbl2 : Hid (bj.length ≤ 2 + (k + 1) * 14) := by
                show _ ≤ _
                have h1 := hsum.out
                have h3 := hbl.out
                rw [hbj.out, hjj, List.append_assoc, ← HE.out, List.length_append]
                omega
              have hownF := hg.own
              have hbelF := hb5'.trans (hg.base hb5'.size (fun k hk => (hown5.lt k hk).1))
              clear hg hjj hbj hbjl hbk hbl HE HT
              go_wp2_with fail
              go_roundw
              case rel => exact ⟨k + 1, bj, by omega, by go_num, HA, hbj2, hbl2, hownF, hbelF⟩
              case measure => simp [intOf]; omega
      · have hkk : k = l.length := by omega
        have hA : Hid (l.all mayB = true) := by
          have := hall.out
          rwa [hkk, List.take_length] at this
        have hB : Hid (bk = encs l) := by
          show _ = _
          rw [hbk.out, hkk, List.take_length]
          rfl
        clear hall hbk hbl
        go_wp2_with fail
        go_ret2
        refine ⟨_, by rw [h1.out, hA.out]; rfl, ?_, hbel⟩
        rw [h2.out, hA.out, if_pos rfl, ← hB.out]
        exact hown

end Go.Proofs.Ytmddlhfahfelpaa.Isa
