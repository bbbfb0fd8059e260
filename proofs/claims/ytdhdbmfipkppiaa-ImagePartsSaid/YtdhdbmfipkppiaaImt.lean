/- The walk of the law ImageParts. -/
import Derived.Test.YtdhdbmfipkppiaaEqd
import Derived.Test.YtdhdbmfipkppiaaImq
import Derived.Test.YtdhdbmfipkppiaaImd
import Derived.Test.YtdhdbmfipkppiaaIml
namespace Go.Proofs.Ytdhdbmfipkppiaa
set_option linter.unusedSimpArgs false
set_option linter.unusedVariables false
set_option linter.unnecessarySimpa false
set_option maxRecDepth 10000
open Go.RowKit

theorem img_one {w0 W : World} {base : Nat} {x : Gr} {pX t0 t1 t2 : Value} {pl : List Int} {L0 L1 L2 : List Isa.Cm} (hL : GrL w0 base W x) (hp : Ints .i64 w0 pX pl) (h0 : Isa.Cmds w0 t0 L0) (h1 : Isa.Cmds w0 t1 L1) (h2 : Isa.Cmds w0 t2 L2) :
    Array.all #[x.iV, x.nV, x.oV, pX, t0, t1, t2] (·.oneCell') = true := by
  obtain ⟨_, _, e1, _⟩ := hL.ins.form
  obtain ⟨_, _, e2, _⟩ := row_of_own hL.own
  obtain ⟨_, _, e3, _⟩ := hL.outs.form
  obtain ⟨_, _, e4, _⟩ := hp.form
  obtain ⟨_, _, e5, _⟩ := id (show Row _ _ _ _ _ from h0)
  obtain ⟨_, _, e6, _⟩ := id (show Row _ _ _ _ _ from h1)
  obtain ⟨_, _, e7, _⟩ := id (show Row _ _ _ _ _ from h2)
  rw [e1, e2, e3, e4, e5, e6, e7]
  simp [Value.oneCell']

def PartsP (w : World) (e : Ending) (w' : World) : Prop := e = .returned (.bool true) ∧ Below w.heap.size w w'

set_option maxRecDepth 20000 in
set_option maxHeartbeats 12800000 in
theorem imageParts_calls (g h : Gr) (pV s0 s1 s2 qV r0 r1 r2 : Value) (pl ql : List Int) (L0 L1 L2 M0 M1 M2 : List Isa.Cm) (w : World) (hg : GrIn w g) (hp : Ints .i64 w pV pl) (hpk : ∀ z ∈ pl, InK .i64 z)
    (hs0 : Isa.Cmds w s0 L0) (hs1 : Isa.Cmds w s1 L1) (hs2 : Isa.Cmds w s2 L2) (hh : GrIn w h) (hq : Ints .i64 w qV ql) (hqk : ∀ z ∈ ql, InK .i64 z) (hr0 : Isa.Cmds w r0 M0) (hr1 : Isa.Cmds w r1 M1) (hr2 : Isa.Cmds w r2 M2) :
    Calls Try.prog 12 #[.agg #[g.iV, g.nV, g.oV, pV, s0, s1, s2], .agg #[h.iV, h.nV, h.oV, qV, r0, r1, r2]] w (PartsP w) := by
  have HP : Hid (∀ e w', e = .returned (.bool true) → Ext w w' → PartsP w e w') := fun e w' h1 h2 => ⟨h1, h2⟩
  generalize PartsP w = PP at *
  have hE1 := (ext_alloc w (.cells #[g.iV, g.nV, g.oV, pV, s0, s1, s2] 54)).trans (ext_alloc _ (.cells #[h.iV, h.nV, h.oV, qV, r0, r1, r2] 54))
  have hb1 := (Blk.new w #[g.iV, g.nV, g.oV, pV, s0, s1, s2] 54).ext (ext_alloc _ (.cells #[h.iV, h.nV, h.oV, qV, r0, r1, r2] 54))
  have hb2 := Blk.new (w.alloc (.cells #[g.iV, g.nV, g.oV, pV, s0, s1, s2] 54)) #[h.iV, h.nV, h.oV, qV, r0, r1, r2] 54
  rw [show (w.alloc (.cells #[g.iV, g.nV, g.oV, pV, s0, s1, s2] 54)).heap.size = w.heap.size + 1 from by simp] at hb2
  have hla := fun W (e : Ext w W) => less09_calls g pV s0 s1 s2 pl L0 L1 L2 w W hg hp hs0 hs1 hs2 e
  have hlb := fun W (e : Ext w W) => less09_calls h qV r0 r1 r2 ql M0 M1 M2 w W hh hq hr0 hr1 hr2 e
  unfold LessJPost at hla hlb
  have hsh := fun W => shown09_calls W
  have HPK := Lib.hid (And.intro hpk hqk)
  clear hpk hqk
  go_enter Try.func12, Try.ntmps12
  go_upto_region 1 with fail
  generalize World.alloc (World.alloc w _) _ = w1 at *
  go_upto_region 2 with (go_at_call 33; refine (hsh _).mono ?_; rintro e w2 ⟨rfl, h2⟩)
  have h2 : Ext w1 w2 := h2
  replace hb1 := hb1.ext h2
  replace hb2 := hb2.ext h2
  replace hE1 := hE1.trans h2
  have hsz2 : w.heap.size + 1 < w2.heap.size := hb2.lt
  clear hsh h2
  have q0 : World.cell? w2 ⟨w.heap.size, 0, none⟩ = some g.iV := hb1.cell 0
  have q1 : World.cell? w2 ⟨w.heap.size, 1, none⟩ = some g.nV := hb1.cell 1
  have q2 : World.cell? w2 ⟨w.heap.size, 2, none⟩ = some g.oV := hb1.cell 2
  have q3 : World.cell? w2 ⟨w.heap.size, 3, none⟩ = some pV := hb1.cell 3
  have q4 : World.cell? w2 ⟨w.heap.size, 4, none⟩ = some s0 := hb1.cell 4
  have q5 : World.cell? w2 ⟨w.heap.size, 5, none⟩ = some s1 := hb1.cell 5
  have q6 : World.cell? w2 ⟨w.heap.size, 6, none⟩ = some s2 := hb1.cell 6
  have hc := hla _ hE1
  clear hla
  go_wp2_with fail
  refine hc.mono ?_
  rintro e w3 ⟨x, pX, t0, t1, t2, pl', rfl, hL, hpx, hpm, hpl, hT0, hT1, hT2, h3⟩
  clear q0 q1 q2 q3 q4 q5 q6 hc
  replace hb1 := hb1.ext h3
  replace hb2 := hb2.ext h3
  have hE3 := hE1.trans h3
  have HO := Lib.hid (img_one hL hpx hT0 hT1 hT2)
  have hL4 := hL.setRow (b := w.heap.size) (Nat.le_refl _) (by omega) #[x.iV, x.nV, x.oV, pX, t0, t1, t2]
  have hb4 : Blk (w3.setRow w.heap.size #[x.iV, x.nV, x.oV, pX, t0, t1, t2]) w.heap.size #[x.iV, x.nV, x.oV, pX, t0, t1, t2] 54 := setRow_heap _ _ _ _ _ _ hb1
  have hc4 := hb2.grown (setRow_grown w3 w.heap.size #[x.iV, x.nV, x.oV, pX, t0, t1, t2]) (by simp)
  have hE4 : Ext w (w3.setRow w.heap.size #[x.iV, x.nV, x.oV, pX, t0, t1, t2]) := ext_setRow hE3 _ (Nat.le_refl _)
  clear hL hE1 hE3 hb2 h3
  go_upto_region 3 with (refine wpList_store_row rfl 54 _ _ rfl w.heap.size #[x.iV, x.nV, x.oV, pX, t0, t1, t2] rfl rfl 54 _ hb1 (by kernel_rfl) rfl HO.out ?_)
  clear hb1 HO
  generalize World.setRow w3 _ _ = w4 at *
  have q0 : World.cell? w4 ⟨w.heap.size + 1, 0, none⟩ = some h.iV := hc4.cell 0
  have q1 : World.cell? w4 ⟨w.heap.size + 1, 1, none⟩ = some h.nV := hc4.cell 1
  have q2 : World.cell? w4 ⟨w.heap.size + 1, 2, none⟩ = some h.oV := hc4.cell 2
  have q3 : World.cell? w4 ⟨w.heap.size + 1, 3, none⟩ = some qV := hc4.cell 3
  have q4 : World.cell? w4 ⟨w.heap.size + 1, 4, none⟩ = some r0 := hc4.cell 4
  have q5 : World.cell? w4 ⟨w.heap.size + 1, 5, none⟩ = some r1 := hc4.cell 5
  have q6 : World.cell? w4 ⟨w.heap.size + 1, 6, none⟩ = some r2 := hc4.cell 6
  have hc := hlb _ hE4
  clear hlb
  go_wp2_with fail
  refine hc.mono ?_
  rintro e w5 ⟨y, qX, u0, u1, u2, ql', rfl, hM, hqx, hqm, hql, hU0, hU1, hU2, h5⟩
  clear q0 q1 q2 q3 q4 q5 q6 hc
  have hsz4 : w.heap.size + 1 < w4.heap.size := hc4.lt
  replace hb4 := hb4.ext h5
  replace hc4 := hc4.ext h5
  replace hL4 := hL4.later h5
  have hE5 := hE4.trans h5
  have HO := Lib.hid (img_one hM hqx hU0 hU1 hU2)
  have hL6 := (hL4.setRow (b := w.heap.size + 1) (by omega) (by omega) #[y.iV, y.nV, y.oV, qX, u0, u1, u2]).at
  have hM6 := (hM.setRow (b := w.heap.size + 1) (by omega) (by omega) #[y.iV, y.nV, y.oV, qX, u0, u1, u2]).at
  have hb6 : Blk (w5.setRow (w.heap.size + 1) #[y.iV, y.nV, y.oV, qX, u0, u1, u2]) (w.heap.size + 1) #[y.iV, y.nV, y.oV, qX, u0, u1, u2] 54 := setRow_heap _ _ _ _ _ _ hc4
  have ha6 := hb4.grown (setRow_grown w5 (w.heap.size + 1) #[y.iV, y.nV, y.oV, qX, u0, u1, u2]) (by simp)
  have hE6 : Ext w (w5.setRow (w.heap.size + 1) #[y.iV, y.nV, y.oV, qX, u0, u1, u2]) := ext_setRow hE5 _ (by omega)
  clear hL4 hM hE4 hE5 hb4 h5 hsz2 hsz4
  go_upto_region 4 with (refine wpList_store_row rfl 54 _ _ rfl (w.heap.size + 1) #[y.iV, y.nV, y.oV, qX, u0, u1, u2] rfl rfl 54 _ hc4 (by kernel_rfl) rfl HO.out ?_)
  clear hc4 HO
  generalize World.setRow w5 _ _ = w6 at *
  have hkA : ∀ z ∈ pl', InK .i64 z := fun z hz => HPK.out.1 z (hpm z hz)
  have hkB : ∀ z ∈ ql', InK .i64 z := fun z hz => HPK.out.2 z (hqm z hz)
  have l0 : (L0.take 300).length ≤ 300 := by rw [List.length_take]; omega
  have l1 : (L1.take 300).length ≤ 300 := by rw [List.length_take]; omega
  have l2 : (L2.take 300).length ≤ 300 := by rw [List.length_take]; omega
  have m0 : (M0.take 300).length ≤ 300 := by rw [List.length_take]; omega
  have m1 : (M1.take 300).length ≤ 300 := by rw [List.length_take]; omega
  have m2 : (M2.take 300).length ≤ 300 := by rw [List.length_take]; omega
  generalize L0.take 300 = A0 at *
  generalize L1.take 300 = A1 at *
  generalize L2.take 300 = A2 at *
  generalize M0.take 300 = B0 at *
  generalize M1.take 300 = B1 at *
  generalize M2.take 300 = B2 at *
  have hpa := iput_calls x pX t0 t1 t2 pl' A0 A1 A2 w6 hL6 (hpx.ext hE6) hkA (hT0.below hE6 (Nat.le_refl _)) (hT1.below hE6 (Nat.le_refl _)) (hT2.below hE6 (Nat.le_refl _)) l0 l1 l2
  have HPB := Lib.hid (fun W (e : Ext w6 W) => iput_calls y qX u0 u1 u2 ql' B0 B1 B2 W (hM6.ext e) (hqx.ext (hE6.trans e)) hkB (hU0.below (hE6.trans e) (Nat.le_refl _)) (hU1.below (hE6.trans e) (Nat.le_refl _)) (hU2.below (hE6.trans e) (Nat.le_refl _)) m0 m1 m2)
  have HSM := Lib.hid (fun W (e : Ext w6 W) => imageSame_calls x y pX t0 t1 t2 qX u0 u1 u2 pl' ql' A0 A1 A2 B0 B1 B2 W (hL6.ext e) (hM6.ext e) (hpx.ext (hE6.trans e)) (hqx.ext (hE6.trans e)) (hT0.below (hE6.trans e) (Nat.le_refl _)) (hT1.below (hE6.trans e) (Nat.le_refl _)) (hT2.below (hE6.trans e) (Nat.le_refl _)) (hU0.below (hE6.trans e) (Nat.le_refl _)) (hU1.below (hE6.trans e) (Nat.le_refl _)) (hU2.below (hE6.trans e) (Nat.le_refl _)))
  have HSN := Lib.hid (fun W (e : Ext w6 W) => imageSame_calls y x qX u0 u1 u2 pX t0 t1 t2 ql' pl' B0 B1 B2 A0 A1 A2 W (hM6.ext e) (hL6.ext e) (hqx.ext (hE6.trans e)) (hpx.ext (hE6.trans e)) (hU0.below (hE6.trans e) (Nat.le_refl _)) (hU1.below (hE6.trans e) (Nat.le_refl _)) (hU2.below (hE6.trans e) (Nat.le_refl _)) (hT0.below (hE6.trans e) (Nat.le_refl _)) (hT1.below (hE6.trans e) (Nat.le_refl _)) (hT2.below (hE6.trans e) (Nat.le_refl _)))
  unfold IPutPost at hpa HPB
  unfold SamePost at HSM HSN
  have hia : ∀ n ∈ x.nodes, NdIn n := fun n hn => (hL6.each n hn).isIn
  have hib : ∀ n ∈ y.nodes, NdIn n := fun n hn => (hM6.each n hn).isIn
  have HINJ : Hid (mayI x pl' A0 A1 A2 = 0 → mayI y ql' B0 B1 B2 = 0 → sameI x pl' A0 A1 A2 y ql' B0 B1 B2 = decide (seal_ (imgB x pl' A0 A1 A2) = seal_ (imgB y ql' B0 B1 B2)) ∧ sameI y ql' B0 B1 B2 x pl' A0 A1 A2 = decide (seal_ (imgB x pl' A0 A1 A2) = seal_ (imgB y ql' B0 B1 B2))) := by
    show _ → _ → _
    intro ha hb
    constructor
    · rw [Bool.eq_iff_iff, sameI_iff, decide_eq_true_iff]
      constructor
      · rintro ⟨e1, e2, e3, e4, e5⟩
        rw [img_same e1 e2 e3 e4 e5]
      · intro e
        exact img_inj ha hb hia hib (seal_inj e)
    · rw [Bool.eq_iff_iff, sameI_iff, decide_eq_true_iff]
      constructor
      · rintro ⟨e1, e2, e3, e4, e5⟩
        rw [img_same e1 e2 e3 e4 e5]
      · intro e
        exact img_inj hb ha hib hia (seal_inj e).symm
  have HBY : Hid (mayI x pl' A0 A1 A2 = 0 → mayI y ql' B0 B1 B2 = 0 → (∀ z ∈ seal_ (imgB x pl' A0 A1 A2), 0 ≤ z ∧ z ≤ 255) ∧ ∀ z ∈ seal_ (imgB y ql' B0 B1 B2), 0 ≤ z ∧ z ≤ 255) := by
    show _ → _ → _
    intro ha hb
    exact ⟨bytes_seal (img_bytes x A0 A1 A2 (fits_range (mayI_ok ha).2.1).2), bytes_seal (img_bytes y B0 B1 B2 (fits_range (mayI_ok hb).2.1).2)⟩
  have HE := Lib.hid hE6
  clear hL6 hM6 hpx hqx hT0 hT1 hT2 hU0 hU1 hU2 hpm hqm hpl hql l0 l1 l2 m0 m1 m2 hkA hkB hia hib hE6
  generalize mayI x pl' A0 A1 A2 = za at *
  generalize mayI y ql' B0 B1 B2 = zb at *
  generalize seal_ (imgB x pl' A0 A1 A2) = sa at *
  generalize seal_ (imgB y ql' B0 B1 B2) = sb at *
  generalize sameI x pl' A0 A1 A2 y ql' B0 B1 B2 = b1 at *
  generalize sameI y ql' B0 B1 B2 x pl' A0 A1 A2 = b2 at *
  have q0 : World.cell? w6 ⟨w.heap.size, 0, none⟩ = some x.iV := ha6.cell 0
  have q1 : World.cell? w6 ⟨w.heap.size, 1, none⟩ = some x.nV := ha6.cell 1
  have q2 : World.cell? w6 ⟨w.heap.size, 2, none⟩ = some x.oV := ha6.cell 2
  have q3 : World.cell? w6 ⟨w.heap.size, 3, none⟩ = some pX := ha6.cell 3
  have q4 : World.cell? w6 ⟨w.heap.size, 4, none⟩ = some t0 := ha6.cell 4
  have q5 : World.cell? w6 ⟨w.heap.size, 5, none⟩ = some t1 := ha6.cell 5
  have q6 : World.cell? w6 ⟨w.heap.size, 6, none⟩ = some t2 := ha6.cell 6
  go_wp2_with fail
  refine hpa.mono ?_
  rintro e w7 ⟨hA0, hA1, hE7⟩
  have hE7 : Ext w6 w7 := hE7
  clear q0 q1 q2 q3 q4 q5 q6 hpa
  replace ha6 := ha6.ext hE7
  replace hb6 := hb6.ext hE7
  have hpb := HPB.out w7 hE7
  clear HPB
  have q0 : World.cell? w7 ⟨w.heap.size + 1, 0, none⟩ = some y.iV := hb6.cell 0
  have q1 : World.cell? w7 ⟨w.heap.size + 1, 1, none⟩ = some y.nV := hb6.cell 1
  have q2 : World.cell? w7 ⟨w.heap.size + 1, 2, none⟩ = some y.oV := hb6.cell 2
  have q3 : World.cell? w7 ⟨w.heap.size + 1, 3, none⟩ = some qX := hb6.cell 3
  have q4 : World.cell? w7 ⟨w.heap.size + 1, 4, none⟩ = some u0 := hb6.cell 4
  have q5 : World.cell? w7 ⟨w.heap.size + 1, 5, none⟩ = some u1 := hb6.cell 5
  have q6 : World.cell? w7 ⟨w.heap.size + 1, 6, none⟩ = some u2 := hb6.cell 6
  by_cases hza : za = 0
  · obtain ⟨va, rfl, hva⟩ := hA0 hza
    clear hA0 hA1
    go_wp2_with fail
    refine hpb.mono ?_
    rintro e w8 ⟨hB0, hB1, hE8⟩
    have hE8 : Ext w7 w8 := hE8
    clear q0 q1 q2 q3 q4 q5 q6 hpb
    replace ha6 := ha6.ext hE8
    replace hb6 := hb6.ext hE8
    by_cases hzb : zb = 0
    · obtain ⟨vb, rfl, hvb⟩ := hB0 hzb
      clear hB0 hB1
      obtain ⟨e1, e2⟩ := HINJ.out hza hzb
      obtain ⟨y1, y2⟩ := HBY.out hza hzb
      have hst := strEq y1 y2
      rw [e1] at HSM
      rw [e2] at HSN
      generalize decide (sa = sb) = d at *
      have hca := conv_ext (P := Try.prog) ((ints_of_own hva).ext hE8) (src := 29) (dst := 9) Try.underlying29 Try.underlying5 Try.underlying9
      have hcb := conv_ext (P := Try.prog) (ints_of_own hvb) (src := 29) (dst := 9) Try.underlying29 Try.underlying5 Try.underlying9
      have hdd : (d == d) = true := by simp
      have a0 : ∀ W, Ext w8 W → World.cell? W ⟨w.heap.size, 0, none⟩ = some x.iV := fun W e => (ha6.ext e).cell 0
      have a1 : ∀ W, Ext w8 W → World.cell? W ⟨w.heap.size, 1, none⟩ = some x.nV := fun W e => (ha6.ext e).cell 1
      have a2 : ∀ W, Ext w8 W → World.cell? W ⟨w.heap.size, 2, none⟩ = some x.oV := fun W e => (ha6.ext e).cell 2
      have a3 : ∀ W, Ext w8 W → World.cell? W ⟨w.heap.size, 3, none⟩ = some pX := fun W e => (ha6.ext e).cell 3
      have a4 : ∀ W, Ext w8 W → World.cell? W ⟨w.heap.size, 4, none⟩ = some t0 := fun W e => (ha6.ext e).cell 4
      have a5 : ∀ W, Ext w8 W → World.cell? W ⟨w.heap.size, 5, none⟩ = some t1 := fun W e => (ha6.ext e).cell 5
      have a6 : ∀ W, Ext w8 W → World.cell? W ⟨w.heap.size, 6, none⟩ = some t2 := fun W e => (ha6.ext e).cell 6
      have b0 : ∀ W, Ext w8 W → World.cell? W ⟨w.heap.size + 1, 0, none⟩ = some y.iV := fun W e => (hb6.ext e).cell 0
      have b1 : ∀ W, Ext w8 W → World.cell? W ⟨w.heap.size + 1, 1, none⟩ = some y.nV := fun W e => (hb6.ext e).cell 1
      have b2 : ∀ W, Ext w8 W → World.cell? W ⟨w.heap.size + 1, 2, none⟩ = some y.oV := fun W e => (hb6.ext e).cell 2
      have b3 : ∀ W, Ext w8 W → World.cell? W ⟨w.heap.size + 1, 3, none⟩ = some qX := fun W e => (hb6.ext e).cell 3
      have b4 : ∀ W, Ext w8 W → World.cell? W ⟨w.heap.size + 1, 4, none⟩ = some u0 := fun W e => (hb6.ext e).cell 4
      have b5 : ∀ W, Ext w8 W → World.cell? W ⟨w.heap.size + 1, 5, none⟩ = some u1 := fun W e => (hb6.ext e).cell 5
      have b6 : ∀ W, Ext w8 W → World.cell? W ⟨w.heap.size + 1, 6, none⟩ = some u2 := fun W e => (hb6.ext e).cell 6
      have hXd := (hE7.trans hE8).trans (Ext.drew w8)
      have hYd := Ext.drew w8
      have HH := Lib.hid HE.out
      clear e1 e2 y1 y2 hva hvb hza hzb HINJ HBY
      go_wp2_with fail
      refine wp_region_S (fun W => Ext w8 W) [(0, true), (1, true), (2, true), (3, true), (5, true), (6, true), (7, true), (8, true), (9, true), (4, false), (10, true), (11, true), (12, true), (13, true), (14, true), (16, true), (17, true), (15, false), (18, false), (19, true), (20, true), (21, true)] (by kernel_rfl) (by kernel_rfl) (fun _ _ d _ _ h => by cases d <;> exact h) hYd ?_
      simp only [pickE, List.getElem?_cons_zero, List.getElem?_cons_succ]
      generalize w8.drew = w9 at *
      repeat (first | (refine wpF_pure (by rfl) (fun W hW => by go_simp; with_reducible rfl) ?_; simp only [Act.put, List.setIfInBounds_toArray, List.set_cons_zero, List.set_cons_succ]) | (refine wpF_skip (by rfl) ?_; simp only [Act.put, List.setIfInBounds_toArray, List.set_cons_zero, List.set_cons_succ]))
      refine wpF_step (by rfl) (fun K hK => ?_)
      go_simp
      refine (HSM.out w9 hXd).mono ?_
      rintro e v1 ⟨rfl, hX1⟩
      have HX1 := Lib.hid (Ext.trans hXd hX1)
      have HY1 := Lib.hid (Ext.trans hYd hX1)
      refine hK _ _ HY1.out ?_
      clear hK K hX1
      try simp only [Act.put, List.setIfInBounds_toArray, List.set_cons_zero, List.set_cons_succ]
      repeat (first | (refine wpF_pure (by rfl) (fun W hW => by go_simp; with_reducible rfl) ?_; simp only [Act.put, List.setIfInBounds_toArray, List.set_cons_zero, List.set_cons_succ]) | (refine wpF_skip (by rfl) ?_; simp only [Act.put, List.setIfInBounds_toArray, List.set_cons_zero, List.set_cons_succ]))
      refine wpF_step (by rfl) (fun K hK => ?_)
      go_simp
      refine (HSM.out v1 HX1.out).mono ?_
      rintro e v2 ⟨rfl, hX2⟩
      have HX2 := Lib.hid (Ext.trans HX1.out hX2)
      have HY2 := Lib.hid (Ext.trans HY1.out hX2)
      refine hK _ _ HY2.out ?_
      clear hK K hX2
      try simp only [Act.put, List.setIfInBounds_toArray, List.set_cons_zero, List.set_cons_succ]
      repeat (first | (refine wpF_pure (by rfl) (fun W hW => by go_simp; with_reducible rfl) ?_; simp only [Act.put, List.setIfInBounds_toArray, List.set_cons_zero, List.set_cons_succ]) | (refine wpF_skip (by rfl) ?_; simp only [Act.put, List.setIfInBounds_toArray, List.set_cons_zero, List.set_cons_succ]))
      refine wpF_step (by rfl) (fun K hK => ?_)
      go_simp
      refine (HSN.out v2 HX2.out).mono ?_
      rintro e v3 ⟨rfl, hX3⟩
      have HX3 := Lib.hid (Ext.trans HX2.out hX3)
      have HY3 := Lib.hid (Ext.trans HY2.out hX3)
      refine hK _ _ HY3.out ?_
      clear hK K hX3
      try simp only [Act.put, List.setIfInBounds_toArray, List.set_cons_zero, List.set_cons_succ]
      repeat (first | (refine wpF_pure (by rfl) (fun W hW => by go_simp; with_reducible rfl) ?_; simp only [Act.put, List.setIfInBounds_toArray, List.set_cons_zero, List.set_cons_succ]) | (refine wpF_skip (by rfl) ?_; simp only [Act.put, List.setIfInBounds_toArray, List.set_cons_zero, List.set_cons_succ]))
      refine wpF_nil ?_
      have HF := Lib.hid (HH.out.trans HX3.out)
      clear hca hcb hst hdd ha6 hb6 hXd hYd HX1 HX2 HX3 HY1 HY2 HY3 a0 b0 a1 b1 a2 b2 a3 b3 a4 b4 a5 b5 a6 b6
      go_wp2_with fail
      exact HP.out _ _ rfl HF.out
    · obtain rfl := hB1 hzb
      have hnz : (zb != 0) = true := by simpa using hzb
      have HH := Lib.hid ((HE.out.trans hE7).trans hE8)
      clear hB0 hB1 hzb hva hE7 hE8 ha6 hb6
      go_wp2_with fail
      exact HP.out _ _ rfl HH.out
  · obtain rfl := hA1 hza
    have hnz : (za != 0) = true := by simpa using hza
    clear hA0 hA1 hza
    go_wp2_with fail
    refine hpb.mono ?_
    rintro e w8 ⟨hB0, hB1, hE8⟩
    have hE8 : Ext w7 w8 := hE8
    have HH := Lib.hid ((HE.out.trans hE7).trans hE8)
    clear q0 q1 q2 q3 q4 q5 q6 hpb
    by_cases hzb : zb = 0
    · obtain ⟨vb, rfl, hvb⟩ := hB0 hzb
      clear hB0 hB1 hzb hvb hE7 hE8 ha6 hb6
      go_wp2_with fail
      exact HP.out _ _ rfl HH.out
    · obtain rfl := hB1 hzb
      clear hB0 hB1 hzb hE7 hE8 ha6 hb6
      go_wp2_with fail
      exact HP.out _ _ rfl HH.out

end Go.Proofs.Ytdhdbmfipkppiaa
