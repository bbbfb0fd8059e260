/- The walk of region.Of. -/
import Derived.Test.YtmddlhfahfelpaaRgd
import Derived.Test.YtmddlhfahfelpaaNsaN
import Derived.Test.YtmddlhfahfelpaaCut
set_option linter.unusedSimpArgs false
set_option linter.unusedVariables false
set_option linter.unnecessarySimpa false
namespace Go.Proofs.Ytmddlhfahfelpaa
open Go.RowKit

def OfPost (r : List Sp × Int) (w : World) (e : Ending) (w' : World) : Prop := ∃ v, e = .returned (.tuple #[v, .int .i64 r.2]) ∧ Spans w' v r.1 ∧ Ext w w'

theorem lookSp_none {l : List Sp} (h : ∀ s ∈ l, mayE s = 0) : ofR.lookSp l = (l, 0) := by
  unfold ofR.lookSp
  rw [List.find?_eq_none.2 (fun s hs => by simp [h s hs])]

theorem find_some : ∀ {l : List Sp} {k : Nat} {s : Sp}, l[k]? = some s → (∀ x ∈ l.take k, mayE x = 0) → mayE s ≠ 0 → l.find? (fun s => decide (mayE s ≠ 0)) = some s := by
  intro l
  induction l with
  | nil => intro k s h; simp at h
  | cons a l ih =>
    intro k s h h0 hs
    cases k with
    | zero =>
      simp only [List.getElem?_cons_zero, Option.some.injEq] at h
      subst h
      rw [List.find?_cons_of_pos (by simpa using hs)]
    | succ k =>
      have ha : mayE a = 0 := h0 a (by simp)
      rw [List.find?_cons_of_neg (by simp [ha])]
      exact ih (k := k) (by simpa using h) (fun x hx => h0 x (by simp [hx])) hs

theorem lookSp_some {l : List Sp} {k : Nat} {s : Sp} (h : l[k]? = some s) (h0 : ∀ x ∈ l.take k, mayE x = 0) (hs : mayE s ≠ 0) : ofR.lookSp l = ([], mayE s) := by
  unfold ofR.lookSp
  rw [find_some h h0 hs]

theorem SpB.new (w : World) : SpB [] w (w.alloc (.cells #[.slice none 0 0] 81)) w.heap.size (.slice none 0 0) [] :=
  ⟨Blk.new w _ _, ⟨by simp, .inl ⟨rfl, rfl⟩⟩, ext_alloc _ _, Nat.le_refl _, by simp [Value.ownBlock], fun s hs => by cases hs⟩

theorem spans_nil (w : World) : Spans w (.slice none 0 0) [] := row_nil w _

theorem spz_in {m f n : Int} {wr : Bool} (h : 0 ≤ f ∧ f ≤ 1000000) (h2 : 0 ≤ n ∧ n ≤ 1000000) : spz m f n wr = ⟨m, f, f + n, wr⟩ := by unfold spz; rw [IntWalk.i64_in _ (by omega)]

set_option maxRecDepth 8000 in
set_option maxHeartbeats 12800000 in
theorem regOf_calls (g : Gr) (pV s0 s1 s2 : Value) (pl : List Int) (c : Isa.Cm) (w : World) (hg : GrAt w g) (hp : Ints .i64 w pV pl) :
    Calls Try.prog 24 #[.agg #[g.iV, g.nV, g.oV, pV, s0, s1, s2], .agg #[.int .i64 c.k, .int .i64 c.s, .int .i64 c.n, .int .i64 c.f, .int .i64 c.r, .int .i64 c.o, .int .i64 c.d, .int .i64 c.p, .int .i64 c.i0, .int .i64 c.i1, .int .i64 c.b0, .int .i64 c.b1, .int .i64 c.h0, .int .i64 c.h1]] w (OfPost (ofR g pl c) w) := by
  have HOF : Hid (ofR g pl c = (if (valuesR g).2 ≠ 0 then ([], (valuesR g).2) else
    if Isa.mayB c = false ∨ pl.length ≠ (valuesR g).1.length then ([], 1) else
    if (c.k = 3 ∨ c.k = 4) ∧ (g.nodes.length ≤ c.n ∨ rowsOk c ((valuesR g).1[g.ins.length + c.n.toNat]?.getD default).s = false) then ([], 27) else
    ofR.lookSp (if c.k = 3 ∨ c.k = 4 then nodeSp (valuesR g).1 pl c ((g.nodes[c.n.toNat]?.map Nd.ins).getD []) (g.ins.length + c.n.toNat) else moveSp c))) := rfl
  have HP : Hid (∀ e w', (∃ v, e = .returned (.tuple #[v, .int .i64 (ofR g pl c).2]) ∧ Spans w' v (ofR g pl c).1 ∧ Ext w w') → OfPost (ofR g pl c) w e w') := fun e w' h => h
  generalize OfPost (ofR g pl c) w = PP at *
  have HE : Hid (∀ e w' z, ofR g pl c = ([], z) → e = .returned (.tuple #[.slice none 0 0, .int .i64 z]) → Ext w w' → PP e w') := fun e w' z h1 h2 h3 => HP.out e w' ⟨.slice none 0 0, by rw [h1]; exact h2, by rw [h1]; exact spans_nil _, h3⟩
  obtain ⟨Ap, cp, ep, hp1, hp2, _⟩ := id hp.form
  unfold maxLen at hp2
  have EP := Lib.hid ep
  clear ep
  have hvok := fun h => vals_ok (g := g) h
  have hvc := fun W (h : Ext w W) => values_calls g W (hg.ext h)
  have hmay := fun W => Isa.may_calls c W
  unfold Isa.Cm.v at hmay
  have hb0 := Blk.new w #[g.iV, g.nV, g.oV, pV, s0, s1, s2] 30
  have hE1 := ext_alloc w (.cells #[g.iV, g.nV, g.oV, pV, s0, s1, s2] 30)
  have hE2 := ext_alloc (w.alloc (.cells #[g.iV, g.nV, g.oV, pV, s0, s1, s2] 30)) (.cells #[.int .i64 c.k, .int .i64 c.s, .int .i64 c.n, .int .i64 c.f, .int .i64 c.r, .int .i64 c.o, .int .i64 c.d, .int .i64 c.p, .int .i64 c.i0, .int .i64 c.i1, .int .i64 c.b0, .int .i64 c.b1, .int .i64 c.h0, .int .i64 c.h1] 47)
  have hb1 := Blk.new (w.alloc (.cells #[g.iV, g.nV, g.oV, pV, s0, s1, s2] 30)) #[.int .i64 c.k, .int .i64 c.s, .int .i64 c.n, .int .i64 c.f, .int .i64 c.r, .int .i64 c.o, .int .i64 c.d, .int .i64 c.p, .int .i64 c.i0, .int .i64 c.i1, .int .i64 c.b0, .int .i64 c.b1, .int .i64 c.h0, .int .i64 c.h1] 47
  rw [show (w.alloc (.cells #[g.iV, g.nV, g.oV, pV, s0, s1, s2] 30)).heap.size = w.heap.size + 1 from by simp] at hb1
  replace hb0 := hb0.ext hE2
  have h1 := hE1.trans hE2
  clear hE1 hE2
  go_enter Try.func24, Try.ntmps24
  go_upto_region 1 with fail
  generalize World.alloc (World.alloc w _) _ = w1 at *
  have q0 : World.cell? w1 ⟨w.heap.size, 0, none⟩ = some g.iV := hb0.cell 0
  have q1 : World.cell? w1 ⟨w.heap.size, 1, none⟩ = some g.nV := hb0.cell 1
  have q2 : World.cell? w1 ⟨w.heap.size, 2, none⟩ = some g.oV := hb0.cell 2
  replace hvc := hvc _ h1
  generalize w.heap.size = b2 at *
  obtain ⟨vr, hvr⟩ : ∃ vr, valuesR g = vr := ⟨_, rfl⟩
  rw [hvr] at hvc HOF hvok
  unfold ValsPost at hvc
  by_cases hv0 : vr.2 = 0
  · replace hvok := hvok hv0
    go_wp2_with fail
    refine hvc.mono ?_
    rintro e w2 ⟨hA, _, hE2⟩
    obtain ⟨vV, rfl, hown⟩ := hA hv0
    have h2 := h1.trans hE2
    replace hb0 := hb0.ext hE2
    replace hb1 := hb1.ext hE2
    have hvls := row_of_own hown
    clear q0 q1 q2 hE2 hA hvc hown
    have HOF2 := HOF.out
    rw [if_neg (show ¬ (vr.2 ≠ 0) from fun h => h hv0)] at HOF2
    obtain ⟨vs, z⟩ := vr
    simp only at hv0 hvok HOF2 hvls
    subst hv0
    replace HOF := Lib.hid HOF2
    clear HOF2 hvr h1
    replace hvls : Vls w2 vV vs := hvls
    obtain ⟨Av, cv, ev, hv1, hv2, _⟩ := id hvls.form
    unfold maxLen at hv2
    subst ev
    have p0 : World.cell? w2 ⟨b2 + 1, 0, none⟩ = some (.int .i64 c.k) := hb1.cell 0
    have p1 : World.cell? w2 ⟨b2 + 1, 1, none⟩ = some (.int .i64 c.s) := hb1.cell 1
    have p2 : World.cell? w2 ⟨b2 + 1, 2, none⟩ = some (.int .i64 c.n) := hb1.cell 2
    have p3 : World.cell? w2 ⟨b2 + 1, 3, none⟩ = some (.int .i64 c.f) := hb1.cell 3
    have p4 : World.cell? w2 ⟨b2 + 1, 4, none⟩ = some (.int .i64 c.r) := hb1.cell 4
    have p5 : World.cell? w2 ⟨b2 + 1, 5, none⟩ = some (.int .i64 c.o) := hb1.cell 5
    have p6 : World.cell? w2 ⟨b2 + 1, 6, none⟩ = some (.int .i64 c.d) := hb1.cell 6
    have p7 : World.cell? w2 ⟨b2 + 1, 7, none⟩ = some (.int .i64 c.p) := hb1.cell 7
    have p8 : World.cell? w2 ⟨b2 + 1, 8, none⟩ = some (.int .i64 c.i0) := hb1.cell 8
    have p9 : World.cell? w2 ⟨b2 + 1, 9, none⟩ = some (.int .i64 c.i1) := hb1.cell 9
    have p10 : World.cell? w2 ⟨b2 + 1, 10, none⟩ = some (.int .i64 c.b0) := hb1.cell 10
    have p11 : World.cell? w2 ⟨b2 + 1, 11, none⟩ = some (.int .i64 c.b1) := hb1.cell 11
    have p12 : World.cell? w2 ⟨b2 + 1, 12, none⟩ = some (.int .i64 c.h0) := hb1.cell 12
    have p13 : World.cell? w2 ⟨b2 + 1, 13, none⟩ = some (.int .i64 c.h1) := hb1.cell 13
    have q3 : World.cell? w2 ⟨b2, 3, none⟩ = some (.slice Ap pl.length cp) := by rw [← EP.out]; exact hb0.cell 3
    by_cases hm : Isa.mayB c = true
    · have hme : Isa.mayE c = 0 := by unfold Isa.mayE; rw [if_pos hm]
      rw [hme] at hmay
      have HM := Lib.hid hm
      clear hme hm
      go_wp2_with fail
      refine (hmay _).mono ?_
      rintro e w3 ⟨rfl, hE3⟩
      have hE3 : Ext w2 w3 := hE3
      clear p0 p1 p2 p3 p4 p5 p6 p7 p8 p9 p10 p11 p12 p13 hmay
      replace q3 : World.cell? w3 ⟨b2, 3, none⟩ = some (.slice Ap pl.length cp) := cell_ext q3 _ hE3
      have h3 := h2.trans hE3
      replace hb0 := hb0.ext hE3
      replace hb1 := hb1.ext hE3
      replace hvls := hvls.ext hE3
      clear hE3 h2
      by_cases hl : pl.length = vs.length
      · have hln : ((pl.length : Int) != (vs.length : Int)) = false := by rw [bne_eq_false_iff_eq]; exact_mod_cast hl
        have HOF2 := HOF.out
        rw [if_neg (show ¬ (Isa.mayB c = false ∨ pl.length ≠ vs.length) by rw [HM.out]; simp [hl])] at HOF2
        replace HOF := Lib.hid HOF2
        have HL := Lib.hid hl
        clear HOF2 hl
        have p0 : World.cell? w3 ⟨b2 + 1, 0, none⟩ = some (.int .i64 c.k) := hb1.cell 0
        go_upto_region 7 with fail
        clear p0 q3 hln
        have hbW6 : World.cell? w3 ⟨b2 + 1, 6, none⟩ = some (.int .i64 c.d) := hb1.cell 6
        have hbW7 : World.cell? w3 ⟨b2 + 1, 7, none⟩ = some (.int .i64 c.p) := hb1.cell 7
        have hS0 := SpB.new w3
        have hE4 := ext_alloc w3 (.cells #[.slice none 0 0] 81)
        have h4 := h3.trans hE4
        replace hb0 := hb0.ext hE4
        replace hb1 := hb1.ext hE4
        clear hE4
        generalize World.alloc w3 _ = w4 at *
        generalize w3.heap.size = B at *
        have p0 : World.cell? w4 ⟨b2 + 1, 0, none⟩ = some (.int .i64 c.k) := hb1.cell 0
        go_upto_block 1 with fail
        clear p0
        refine cut_code (fun a W => ∃ (v : Value) (l : List Sp), LitA a (fun f => ({ tmps := #[f 0, f 1, f 2, f 3, .slice none 0 0, .int .i64 0, f 6, f 7, .pointer (some ⟨B, 0, none⟩), f 9, f 10, f 11, f 12, f 13, f 14, f 15, f 16, f 17, f 18, f 19, f 20, f 21, f 22, f 23, f 24, f 25, f 26, f 27, f 28, f 29, f 30, f 31, f 32, f 33, f 34, f 35, f 36, f 37, f 38, f 39, f 40, f 41, f 42, f 43, f 44, f 45, f 46, f 47, f 48, f 49, f 50, f 51, f 52, f 53, f 54, f 55, f 56, f 57, f 58, f 59, f 60, f 61, f 62, f 63, f 64, f 65, f 66, f 67, f 68, f 69, f 70, f 71, f 72, f 73, f 74, f 75, f 76, f 77, f 78, f 79, f 80, f 81, f 82, f 83, f 84, f 85, f 86, f 87], defers := [] } : Act)) ∧ SpB [] w3 W B v l ∧ ofR g pl c = ofR.lookSp l) (fun K hK => ?_) ?_
        rotate_left
        · rintro a wq ⟨v, l, ⟨f, rfl⟩, hS, hof⟩
          have hrow := row_of_own hS.own
          have hsp : Spans wq v l := hrow
          obtain ⟨Al, cl, el, hl1, hl2, hlc⟩ := hsp.form
          unfold maxLen at hl2
          subst el
          have hc0 : World.cell? wq ⟨B, 0, none⟩ = some (.slice Al l.length cl) := hS.box.cell 0
          have hbB := hS.box
          have h5 := h3.trans hS.ext
          have HSP := Lib.hid hsp
          have HOF3 := Lib.hid hof
          have HLC := Lib.hid hlc
          clear hS hrow hsp hof hlc h4 hb0 hb1 hS0 HL HM HOF hvls h3
          go_wp2_with fail
          clear hc0
          go_loopw [76] (fun i wx => ∃ k : Nat, k ≤ l.length ∧ i = .int .i64 k ∧ Hid (∀ s ∈ l.take k, mayE s = 0) ∧ Ext wq wx) (fun i _ => l.length - (intOf i).toNat)
          case atStart => exact ⟨0, by omega, rfl, (fun s hs => by simp at hs), Ext.refl _⟩
          case round =>
            obtain ⟨k, hk, rfl, HZ, hE⟩ := hrel
            by_cases hlt : k < l.length
            · have hs : l[k]? = some l[k] := by simp [hlt]
              obtain ⟨b, off, rfl, c0, c1, c2, c3⟩ := HLC.out k _ hs
              have HS : Hid (mayE l[k] ≠ 0 → ofR g pl c = ([], mayE l[k])) := fun h => by rw [HOF3.out]; exact lookSp_some hs HZ.out h
              have HN : Hid (mayE l[k] = 0 → ∀ s ∈ l.take (k + 1), mayE s = 0) := fun h s hs2 => by
                rw [List.take_succ_eq_append_getElem hlt] at hs2
                rcases List.mem_append.1 hs2 with h5 | h5
                · exact HZ.out s h5
                · obtain rfl := List.mem_singleton.1 h5; exact h
              generalize l[k] = s at *
              replace c0 := cell_ext c0 _ hE
              replace c1 := cell_ext c1 _ hE
              replace c2 := cell_ext c2 _ hE
              replace c3 := cell_ext c3 _ hE
              have hmy := fun W => may_calls s W
              unfold Sp.v at hmy
              generalize mayE s = me at *
              have hz := Blk.new wr #[.int .i64 0, .int .i64 0, .int .i64 0, .bool false] 85
              have hb12 : Blk ((wr.alloc (.cells #[.int .i64 0, .int .i64 0, .int .i64 0, .bool false] 85)).setRow wr.heap.size #[.int .i64 s.mem, .int .i64 s.frm, .int .i64 s.to, .bool s.wr]) wr.heap.size #[.int .i64 s.mem, .int .i64 s.frm, .int .i64 s.to, .bool s.wr] 85 := setRow_heap _ _ _ _ _ _ hz
              have hQ : Ext wr ((wr.alloc (.cells #[.int .i64 0, .int .i64 0, .int .i64 0, .bool false] 85)).setRow wr.heap.size #[.int .i64 s.mem, .int .i64 s.frm, .int .i64 s.to, .bool s.wr]) := ext_setRow (ext_alloc _ _) _ (Nat.le_refl _)
              replace hE := hE.trans hQ
              clear hs hQ
              go_upto_region 23 with (refine wpList_store_row rfl 85 _ _ rfl wr.heap.size #[.int .i64 s.mem, .int .i64 s.frm, .int .i64 s.to, .bool s.wr] rfl rfl 85 _ hz (by kernel_rfl) rfl (by simp [Value.oneCell']) ?_)
              clear c0 c1 c2 c3 hz
              generalize World.setRow (World.alloc _ _) _ _ = wy at *
              generalize wr.heap.size = b12 at *
              have t0 : World.cell? wy ⟨b12, 0, none⟩ = some (.int .i64 s.mem) := hb12.cell 0
              have t1 : World.cell? wy ⟨b12, 1, none⟩ = some (.int .i64 s.frm) := hb12.cell 1
              have t2 : World.cell? wy ⟨b12, 2, none⟩ = some (.int .i64 s.to) := hb12.cell 2
              have t3 : World.cell? wy ⟨b12, 3, none⟩ = some (.bool s.wr) := hb12.cell 3
              by_cases hme : me = 0
              · have HT := Lib.hid (HN.out hme)
                clear HN HS
                rw [hme] at hmy
                clear hme
                go_wp2_with fail
                refine (hmy _).mono ?_
                rintro e wz ⟨rfl, hEz⟩
                replace hE := hE.trans hEz
                clear hmy t0 t1 t2 t3
                go_wp2_with fail
                go_roundw
                case rel => exact ⟨k + 1, by omega, by go_num, HT, hE⟩
                case measure => simp [intOf]; omega
              · have HV := Lib.hid (HS.out hme)
                have hmz : (me != 0) = true := by simpa using hme
                clear HN HS hme
                go_wp2_with fail
                refine (hmy _).mono ?_
                rintro e wz ⟨rfl, hEz⟩
                replace hE := hE.trans hEz
                clear hmy t0 t1 t2 t3
                go_wp2_with fail
                exact HE.out _ _ _ HV.out rfl (h5.trans hE)
            · have hkk : k = l.length := by omega
              subst hkk
              have HV : Hid (ofR g pl c = (l, 0)) := by
                show _ = _
                rw [HOF3.out]
                have hz := HZ.out
                rw [List.take_length] at hz
                exact lookSp_none hz
              have hc0 : World.cell? wr ⟨B, 0, none⟩ = some (.slice Al l.length cl) := (hbB.ext hE).cell 0
              go_wp2_with fail
              exact HP.out _ _ ⟨.slice Al l.length cl, by rw [HV.out]; rfl, by rw [HV.out]; exact HSP.out.below hE, h5.trans hE⟩
        · have HK := Lib.hid hK
          clear hK
          have hkr := Isa.mayB_kind HM.out
          by_cases h34 : c.k = 3 ∨ c.k = 4
          · have hcn : 0 ≤ c.n := by
              rcases h34 with h | h
              · have := (Isa.mayB_tile h).1 HM.out; omega
              · have := (Isa.mayB_kernel h).1 HM.out; omega
            obtain ⟨n, hn⟩ := Int.eq_ofNat_of_zero_le hcn
            have hI : NodeIn w3 g pV pl (.slice Av vs.length cv) vs := ⟨hg.ext h3, hp.ext h3, hvls, hvok, HL.out⟩
            have hnd : Calls Try.prog 40 #[.pointer (some ⟨B, 0, none⟩), .agg #[g.iV, g.nV, g.oV, pV, s0, s1, s2], .slice Av vs.length cv, .agg #[.int .i64 c.k, .int .i64 c.s, .int .i64 c.n, .int .i64 c.f, .int .i64 c.r, .int .i64 c.o, .int .i64 c.d, .int .i64 c.p, .int .i64 c.i0, .int .i64 c.i1, .int .i64 c.b0, .int .i64 c.b1, .int .i64 c.h0, .int .i64 c.h1]] w4 (NodeP (decide (n < g.nodes.length) && rowsOk c (vs[g.ins.length + n]?.getD default).s) (nodeSp vs pl c ((g.nodes[n]?.map Nd.ins).getD []) (g.ins.length + n)) w3 B) := by
              rcases h34 with h | h
              · exact lnode3_calls g pV s0 s1 s2 _ pl vs c n w3 w4 B _ hI HM.out h hn hS0
              · exact lnode4_calls g pV s0 s1 s2 _ pl vs c n w3 w4 B _ hI HM.out h hn hS0
            have HO2 := HOF.out
            rw [hn, Int.toNat_natCast, if_pos h34] at HO2
            have HGB : Hid ((decide (n < g.nodes.length) && rowsOk c (vs[g.ins.length + n]?.getD default).s) = true → ofR g pl c = ofR.lookSp (nodeSp vs pl c ((g.nodes[n]?.map Nd.ins).getD []) (g.ins.length + n))) := by
              show _ → _
              intro h
              simp only [Bool.and_eq_true, decide_eq_true_eq] at h
              rw [HO2, if_neg (by rintro ⟨_, h5 | h5⟩; (have := h.1; omega); (rw [h.2] at h5; cases h5))]
            have HGX : Hid ((decide (n < g.nodes.length) && rowsOk c (vs[g.ins.length + n]?.getD default).s) = false → ofR g pl c = ([], 27)) := by
              show _ → _
              intro h
              rw [HO2, if_pos ⟨h34, by
                rw [Bool.and_eq_false_iff] at h
                rcases h with h | h
                · left; have := of_decide_eq_false h; omega
                · right; exact h⟩]
            unfold NodeP at hnd
            generalize (decide (n < g.nodes.length) && rowsOk c (vs[g.ins.length + n]?.getD default).s) = gd at *
            generalize nodeSp vs pl c ((g.nodes[n]?.map Nd.ins).getD []) (g.ins.length + n) = NS at *
            have k1 : (c.k == 1) = false := by rw [beq_eq_false_iff_ne]; omega
            have k2 : (c.k == 2) = false := by rw [beq_eq_false_iff_ne]; omega
            clear HO2 hI hS0 hvls hvok HL hcn hn hkr HOF
            have p0 : World.cell? w4 ⟨b2 + 1, 0, none⟩ = some (.int .i64 c.k) := hb1.cell 0
            have p1 : World.cell? w4 ⟨b2 + 1, 1, none⟩ = some (.int .i64 c.s) := hb1.cell 1
            have p2 : World.cell? w4 ⟨b2 + 1, 2, none⟩ = some (.int .i64 c.n) := hb1.cell 2
            have p3 : World.cell? w4 ⟨b2 + 1, 3, none⟩ = some (.int .i64 c.f) := hb1.cell 3
            have p4 : World.cell? w4 ⟨b2 + 1, 4, none⟩ = some (.int .i64 c.r) := hb1.cell 4
            have p5 : World.cell? w4 ⟨b2 + 1, 5, none⟩ = some (.int .i64 c.o) := hb1.cell 5
            have p6 : World.cell? w4 ⟨b2 + 1, 6, none⟩ = some (.int .i64 c.d) := hb1.cell 6
            have p7 : World.cell? w4 ⟨b2 + 1, 7, none⟩ = some (.int .i64 c.p) := hb1.cell 7
            have p8 : World.cell? w4 ⟨b2 + 1, 8, none⟩ = some (.int .i64 c.i0) := hb1.cell 8
            have p9 : World.cell? w4 ⟨b2 + 1, 9, none⟩ = some (.int .i64 c.i1) := hb1.cell 9
            have p10 : World.cell? w4 ⟨b2 + 1, 10, none⟩ = some (.int .i64 c.b0) := hb1.cell 10
            have p11 : World.cell? w4 ⟨b2 + 1, 11, none⟩ = some (.int .i64 c.b1) := hb1.cell 11
            have p12 : World.cell? w4 ⟨b2 + 1, 12, none⟩ = some (.int .i64 c.h0) := hb1.cell 12
            have p13 : World.cell? w4 ⟨b2 + 1, 13, none⟩ = some (.int .i64 c.h1) := hb1.cell 13
            have q0 : World.cell? w4 ⟨b2, 0, none⟩ = some g.iV := hb0.cell 0
            have q1 : World.cell? w4 ⟨b2, 1, none⟩ = some g.nV := hb0.cell 1
            have q2 : World.cell? w4 ⟨b2, 2, none⟩ = some g.oV := hb0.cell 2
            have q3 : World.cell? w4 ⟨b2, 3, none⟩ = some pV := hb0.cell 3
            have q4 : World.cell? w4 ⟨b2, 4, none⟩ = some s0 := hb0.cell 4
            have q5 : World.cell? w4 ⟨b2, 5, none⟩ = some s1 := hb0.cell 5
            have q6 : World.cell? w4 ⟨b2, 6, none⟩ = some s2 := hb0.cell 6
            rcases h34 with h | h
            · have k3 : (c.k == 3) = true := by rw [beq_iff_eq]; exact h
              clear h
              go_wp2_with fail
              refine hnd.mono ?_
              rintro e w5 ⟨rfl, v5, l5, hS5, hl5⟩
              have h5 := h3.trans hS5.ext
              cases gd with
              | true =>
                have HQ : Hid (ofR g pl c = ofR.lookSp l5) := by show _ = _; rw [hl5 rfl]; exact HGB.out rfl
                have HS5 := Lib.hid hS5
                clear hnd HGB HGX hl5 hS5 hb0 hb1 q0 q1 q2 q3 q4 q5 q6 p0 p1 p2 p3 p4 p5 p6 p7 p8 p9 p10 p11 p12 p13
                go_wp2_with fail
                exact HK.out _ _ ⟨v5, l5, .of rfl, HS5.out, HQ.out⟩
              | false =>
                have HQ := Lib.hid (HGX.out rfl)
                clear hnd HGB HGX hl5 hS5 hb0 hb1 q0 q1 q2 q3 q4 q5 q6 p0 p1 p2 p3 p4 p5 p6 p7 p8 p9 p10 p11 p12 p13
                go_wp2_with fail
                exact HE.out _ _ _ HQ.out rfl h5
            · have k3 : (c.k == 3) = false := by rw [beq_eq_false_iff_ne]; omega
              have k4 : (c.k == 4) = true := by rw [beq_iff_eq]; exact h
              clear h
              go_wp2_with fail
              refine hnd.mono ?_
              rintro e w5 ⟨rfl, v5, l5, hS5, hl5⟩
              have h5 := h3.trans hS5.ext
              cases gd with
              | true =>
                have HQ : Hid (ofR g pl c = ofR.lookSp l5) := by show _ = _; rw [hl5 rfl]; exact HGB.out rfl
                have HS5 := Lib.hid hS5
                clear hnd HGB HGX hl5 hS5 hb0 hb1 q0 q1 q2 q3 q4 q5 q6 p0 p1 p2 p3 p4 p5 p6 p7 p8 p9 p10 p11 p12 p13
                go_wp2_with fail
                exact HK.out _ _ ⟨v5, l5, .of rfl, HS5.out, HQ.out⟩
              | false =>
                have HQ := Lib.hid (HGX.out rfl)
                clear hnd HGB HGX hl5 hS5 hb0 hb1 q0 q1 q2 q3 q4 q5 q6 p0 p1 p2 p3 p4 p5 p6 p7 p8 p9 p10 p11 p12 p13
                go_wp2_with fail
                exact HE.out _ _ _ HQ.out rfl h5
          · have HO2 := HOF.out
            rw [if_neg (fun h => h34 h.1), if_neg h34] at HO2
            have HO3 := Lib.hid HO2
            clear HO2 HOF hvls hvok HL
            rcases (by omega : c.k = 1 ∨ c.k = 2 ∨ 5 ≤ c.k) with h | h | h
            · have hbd := (Isa.mayB_load (Or.inl h)).1 HM.out
              obtain ⟨hx1, hx2⟩ := mul_range hbd.1.1.1 hbd.1.1.2 hbd.1.2.1.1 hbd.1.2.1.2
              have m0 : IntKind.i64.wrap (c.r * c.o) = c.r * c.o := IntWalk.i64_in _ (by omega)
              have HQ : Hid (ofR g pl c = ofR.lookSp [spz 0 c.d (c.r * c.o) false, spz 1 c.p (c.r * c.o) true]) := by
                show _ = _
                rw [HO3.out, spz_in (by omega) (by omega), spz_in (by omega) (by omega)]
                unfold moveSp
                rw [if_pos h]
              obtain ⟨x, hx⟩ : ∃ x, c.r * c.o = x := ⟨_, rfl⟩
              have m1 : IntKind.i64.wrap (c.r * c.o) = x := by rw [m0, hx]
              rw [hx] at HQ
              have k1 : (c.k == 1) = true := by rw [beq_iff_eq]; omega
              have HS0 := Lib.hid hS0
              clear m0 hx hx1 hx2 hbd HO3 h h34 hkr hS0
              have p0 : World.cell? w4 ⟨b2 + 1, 0, none⟩ = some (.int .i64 c.k) := hb1.cell 0
              go_upto_region 10 with fail
              clear p0
              refine wp_region_X [0, 1, 2, 3, 4, 5, 6, 7, 8, 9] [] (by kernel_rfl) (by kernel_rfl) (fun _ _ d _ _ h => by cases d <;> exact h) (fun w5 hE => ?_)
              have r0 : ∀ W, Ext w5 W → World.cell? W ⟨b2 + 1, 0, none⟩ = some (.int .i64 c.k) := fun W h => ((hb1.ext hE).ext h).cell 0
              have r4 : ∀ W, Ext w5 W → World.cell? W ⟨b2 + 1, 4, none⟩ = some (.int .i64 c.r) := fun W h => ((hb1.ext hE).ext h).cell 4
              have r5 : ∀ W, Ext w5 W → World.cell? W ⟨b2 + 1, 5, none⟩ = some (.int .i64 c.o) := fun W h => ((hb1.ext hE).ext h).cell 5
              repeat (first | (refine wpP_pure rfl (by rfl) (fun W hW => by go_simp; with_reducible rfl) ?_; simp only [Act.put, List.setIfInBounds_toArray, List.set_cons_zero, List.set_cons_succ]) | (refine wpP_skip rfl (by rfl) ?_; simp only [Act.put, List.setIfInBounds_toArray, List.set_cons_zero, List.set_cons_succ]))
              refine ⟨trivial, fun W hR => ?_⟩
              simp only [rFin, envAt, TP.top, TP.mine, MP.top, MP.mine, MT.mine, MT.tied, MT.done, MT.is, List.map_cons, List.map_nil, true_implies, List.head?_cons, ME.is, MP.is, MP.done, ME.ints, ME.row, phi, dstAt, List.getElem?_cons_zero, List.getElem?_cons_succ, Option.bind_some, Act.put, List.setIfInBounds_toArray, List.set_cons_zero, List.set_cons_succ, and_true, forall_eq, reduceIte, Nat.reduceEqDiff, beq_iff_eq, Option.some.injEq, Bool.false_eq_true, reduceCtorEq, implies_true, true_and]
              have hE6 := hE.trans hR
              have hS6 := HS0.out.later hE6
              replace hb1 := hb1.ext hE6
              clear HS0 r0 r4 r5 hR hE hE6
              have p6 : World.cell? W ⟨b2 + 1, 6, none⟩ = some (.int .i64 c.d) := hb1.cell 6
              have p7 : World.cell? W ⟨b2 + 1, 7, none⟩ = some (.int .i64 c.p) := hb1.cell 7
              have hp1' := lput_calls w3 W B _ [] 0 c.d x false hS6 (by simp)
              have HB : Hid (∀ W' v', SpB [] w3 W' B v' ([] ++ [spz 0 c.d x false]) → World.cell? W' ⟨b2 + 1, 6, none⟩ = some (.int .i64 c.d) ∧ World.cell? W' ⟨b2 + 1, 7, none⟩ = some (.int .i64 c.p)) := fun W' v' h => ⟨cell_ext hbW6 _ h.ext, cell_ext hbW7 _ h.ext⟩
              clear hS6
              go_wp2_with fail
              refine hp1'.mono ?_
              rintro e w6 ⟨rfl, v6, hS7⟩
              clear hp1' p6 p7
              obtain ⟨p6, p7⟩ := HB.out _ _ hS7
              have hp2' := lput_calls w3 w6 B v6 _ 1 c.p x true hS7 (by simp)
              clear hS7 HB
              go_wp2_with fail
              refine hp2'.mono ?_
              rintro e w7 ⟨rfl, v7, hS8⟩
              have HS8 := Lib.hid hS8
              clear hp2' p6 p7 hS8 hb1 hb0
              go_wp2_with fail
              exact HK.out _ _ ⟨v7, _, .of rfl, HS8.out, HQ.out⟩
            · have hbd := (Isa.mayB_load (Or.inr h)).1 HM.out
              obtain ⟨hx1, hx2⟩ := mul_range hbd.1.1.1 hbd.1.1.2 hbd.1.2.1.1 hbd.1.2.1.2
              have m0 : IntKind.i64.wrap (c.r * c.o) = c.r * c.o := IntWalk.i64_in _ (by omega)
              have HQ : Hid (ofR g pl c = ofR.lookSp [spz 1 c.p (c.r * c.o) false, spz 0 c.d (c.r * c.o) true]) := by
                show _ = _
                rw [HO3.out, spz_in (by omega) (by omega), spz_in (by omega) (by omega)]
                unfold moveSp
                rw [if_neg (by omega), if_pos h]
              obtain ⟨x, hx⟩ : ∃ x, c.r * c.o = x := ⟨_, rfl⟩
              have m1 : IntKind.i64.wrap (c.r * c.o) = x := by rw [m0, hx]
              rw [hx] at HQ
              have k1 : (c.k == 1) = false := by rw [beq_eq_false_iff_ne]; omega
              have k2 : (c.k == 2) = true := by rw [beq_iff_eq]; omega
              have HS0 := Lib.hid hS0
              clear m0 hx hx1 hx2 hbd HO3 h h34 hkr hS0
              have p0 : World.cell? w4 ⟨b2 + 1, 0, none⟩ = some (.int .i64 c.k) := hb1.cell 0
              go_upto_region 10 with fail
              clear p0
              refine wp_region_X [0, 1, 2, 3, 4, 5, 6, 7, 8, 9] [] (by kernel_rfl) (by kernel_rfl) (fun _ _ d _ _ h => by cases d <;> exact h) (fun w5 hE => ?_)
              have r0 : ∀ W, Ext w5 W → World.cell? W ⟨b2 + 1, 0, none⟩ = some (.int .i64 c.k) := fun W h => ((hb1.ext hE).ext h).cell 0
              have r4 : ∀ W, Ext w5 W → World.cell? W ⟨b2 + 1, 4, none⟩ = some (.int .i64 c.r) := fun W h => ((hb1.ext hE).ext h).cell 4
              have r5 : ∀ W, Ext w5 W → World.cell? W ⟨b2 + 1, 5, none⟩ = some (.int .i64 c.o) := fun W h => ((hb1.ext hE).ext h).cell 5
              repeat (first | (refine wpP_pure rfl (by rfl) (fun W hW => by go_simp; with_reducible rfl) ?_; simp only [Act.put, List.setIfInBounds_toArray, List.set_cons_zero, List.set_cons_succ]) | (refine wpP_skip rfl (by rfl) ?_; simp only [Act.put, List.setIfInBounds_toArray, List.set_cons_zero, List.set_cons_succ]))
              refine ⟨trivial, fun W hR => ?_⟩
              simp only [rFin, envAt, TP.top, TP.mine, MP.top, MP.mine, MT.mine, MT.tied, MT.done, MT.is, List.map_cons, List.map_nil, true_implies, List.head?_cons, ME.is, MP.is, MP.done, ME.ints, ME.row, phi, dstAt, List.getElem?_cons_zero, List.getElem?_cons_succ, Option.bind_some, Act.put, List.setIfInBounds_toArray, List.set_cons_zero, List.set_cons_succ, and_true, forall_eq, reduceIte, Nat.reduceEqDiff, beq_iff_eq, Option.some.injEq, Bool.false_eq_true, reduceCtorEq, implies_true, true_and]
              have hE6 := hE.trans hR
              have hS6 := HS0.out.later hE6
              replace hb1 := hb1.ext hE6
              clear HS0 r0 r4 r5 hR hE hE6
              have p6 : World.cell? W ⟨b2 + 1, 6, none⟩ = some (.int .i64 c.d) := hb1.cell 6
              have p7 : World.cell? W ⟨b2 + 1, 7, none⟩ = some (.int .i64 c.p) := hb1.cell 7
              have hp1' := lput_calls w3 W B _ [] 1 c.p x false hS6 (by simp)
              have HB : Hid (∀ W' v', SpB [] w3 W' B v' ([] ++ [spz 1 c.p x false]) → World.cell? W' ⟨b2 + 1, 6, none⟩ = some (.int .i64 c.d) ∧ World.cell? W' ⟨b2 + 1, 7, none⟩ = some (.int .i64 c.p)) := fun W' v' h => ⟨cell_ext hbW6 _ h.ext, cell_ext hbW7 _ h.ext⟩
              clear hS6
              go_wp2_with fail
              refine hp1'.mono ?_
              rintro e w6 ⟨rfl, v6, hS7⟩
              clear hp1' p6 p7
              obtain ⟨p6, p7⟩ := HB.out _ _ hS7
              have hp2' := lput_calls w3 w6 B v6 _ 0 c.d x true hS7 (by simp)
              clear hS7 HB
              go_wp2_with fail
              refine hp2'.mono ?_
              rintro e w7 ⟨rfl, v7, hS8⟩
              have HS8 := Lib.hid hS8
              clear hp2' p6 p7 hS8 hb1 hb0
              go_wp2_with fail
              exact HK.out _ _ ⟨v7, _, .of rfl, HS8.out, HQ.out⟩
            · have k1 : (c.k == 1) = false := by rw [beq_eq_false_iff_ne]; omega
              have k2 : (c.k == 2) = false := by rw [beq_eq_false_iff_ne]; omega
              have k3 : (c.k == 3) = false := by rw [beq_eq_false_iff_ne]; omega
              have k4 : (c.k == 4) = false := by rw [beq_eq_false_iff_ne]; omega
              have HQ : Hid (ofR g pl c = ofR.lookSp []) := by show _ = _; rw [HO3.out]; unfold moveSp; rw [if_neg (by omega), if_neg (by omega)]
              have p0 : World.cell? w4 ⟨b2 + 1, 0, none⟩ = some (.int .i64 c.k) := hb1.cell 0
              have HS5 := Lib.hid hS0
              clear h h34 hkr hS0 hb0 hb1 HO3
              go_wp2_with fail
              exact HK.out _ _ ⟨_, [], .of rfl, HS5.out, HQ.out⟩
      · have hln : ((pl.length : Int) != (vs.length : Int)) = true := by rw [bne_iff_ne]; exact_mod_cast hl
        have HV : Hid (ofR g pl c = ([], 1)) := by show _ = _; rw [HOF.out, if_pos (Or.inr hl)]
        clear HOF hl
        go_wp2_with fail
        exact HE.out _ _ _ HV.out rfl h3
    · have hme : Isa.mayE c = 1 := by unfold Isa.mayE; rw [if_neg hm]
      rw [hme] at hmay
      have HV : Hid (ofR g pl c = ([], 1)) := by show _ = _; rw [HOF.out, if_pos (Or.inl (by simpa using hm))]
      clear hme hm HOF
      go_wp2_with fail
      refine (hmay _).mono ?_
      rintro e w3 ⟨rfl, hE3⟩
      have h3 := h2.trans hE3
      clear hmay
      go_wp2_with fail
      exact HE.out _ _ _ HV.out rfl h3
  · have HV : Hid (ofR g pl c = ([], vr.2)) := by show _ = _; rw [HOF.out, if_pos hv0]
    have hz1 : (vr.2 != 0) = true := by simpa using hv0
    go_wp2_with fail
    refine hvc.mono ?_
    rintro e w2 ⟨_, hA, hE2⟩
    obtain rfl := hA hv0
    have h2 := h1.trans hE2
    clear hvc hA hvr hv0 HOF
    generalize vr.2 = z at *
    go_wp2_with fail
    exact HE.out _ _ _ HV.out rfl h2

end Go.Proofs.Ytmddlhfahfelpaa
