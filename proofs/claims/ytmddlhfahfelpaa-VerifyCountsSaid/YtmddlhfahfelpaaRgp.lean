/- The walks of the reference's Same: rows of values, of numbers. -/
/- The walk of the law VerifyAll. -/
/- The walk of the law VerifyCounts. -/
/- How an image and a command that came in are opened. -/
import Derived.Test.YtmddlhfahfelpaaVok
import Derived.DeepKeys
import Derived.Deep.CutBlock
import Derived.Deep.DeepCutAuto
import Derived.Test.YtmddlhfahfelpaaNsaR
import Derived.Test.YtmddlhfahfelpaaVfn
import Derived.Test.YtmddlhfahfelpaaVfl
import Derived.Test.YtmddlhfahfelpaaRgk
import Derived.Test.YtmddlhfahfelpaaNsaN
set_option linter.unusedSimpArgs false
set_option linter.unusedVariables false
set_option linter.unnecessarySimpa false
namespace Go.Proofs.Ytmddlhfahfelpaa
open Go.RowKit

section
variable {P : Program} {d : Nat} {xs ys : Array Value} {a b : Value} {r s : Bool} {w : World}

theorem eqFields_step {f : Field} {fs : List Field} (hn : f.name ≠ "_") (ha : (part f.type xs f.offset).run P w = .ok a w) (hb : (part f.type ys f.offset).run P w = .ok b w) (he : (Op.equalIn d f.type a b).run P w = .ok r w)
    (hr : (Op.eqFields d xs ys fs).run P w = .ok s w) : (Op.eqFields d xs ys (f :: fs)).run P w = .ok (r && s) w := by
  rw [Op.eqFields]
  simp only [if_pos hn, Sem.run_bind, ha, hb, he, Result.andThen_ok]
  cases r
  · simp
  · simpa using hr
end

theorem eq_i64 (d : Nat) (w : World) (x y : Int) : (Op.equalIn (d + 1) 3 (.int .i64 x) (.int .i64 y)).run Try.prog w = .ok (x == y) w := run_equalIn_int w d _ _ _ _ _ Try.underlying3

end Go.Proofs.Ytmddlhfahfelpaa

namespace Go.Proofs.Ytmddlhfahfelpaa
set_option maxRecDepth 10000
open Go.RowKit

theorem img_oneV {w0 W : World} {base : Nat} {x : Gr} {pX t0 t1 t2 : Value} {pl : List Int} {L0 L1 L2 : List Isa.Cm} (hL : GrL w0 base W x) (hp : Ints .i64 w0 pX pl) (h0 : Isa.Cmds w0 t0 L0) (h1 : Isa.Cmds w0 t1 L1) (h2 : Isa.Cmds w0 t2 L2) :
    Array.all #[x.iV, x.nV, x.oV, pX, t0, t1, t2] (·.oneCell') = true := by
  obtain ⟨_, _, e1, _⟩ := hL.ins.form
  obtain ⟨_, _, e2, _⟩ := row_of_own hL.own
  obtain ⟨_, _, e3, _⟩ := hL.outs.form
  obtain ⟨_, _, e4, _⟩ := hp.form
  obtain ⟨_, _, e5, _⟩ := id (show Row _ _ _ _ _ from h0)
  obtain ⟨_, _, e6, _⟩ := id (show Row _ _ _ _ _ from h1)
  obtain ⟨_, _, e7, _⟩ := id (show Row _ _ _ _ _ from h2)
  rw [e1, e2, e3, e4, e5, e6, e7]
  simp [Value.oneCell']

def AllVP (w : World) (e : Ending) (w' : World) : Prop := e = .returned (.bool true) ∧ Below w.heap.size w w'

end Go.Proofs.Ytmddlhfahfelpaa

namespace Go.Proofs.Ytmddlhfahfelpaa
set_option maxRecDepth 10000
open Go.RowKit

theorem elem_cmdV : ElemT Try.prog 27 47 14 112 := elemT_of (z := .agg #[.int .i64 0, .int .i64 0, .int .i64 0, .int .i64 0, .int .i64 0, .int .i64 0, .int .i64 0, .int .i64 0, .int .i64 0, .int .i64 0, .int .i64 0, .int .i64 0, .int .i64 0, .int .i64 0]) Try.underlying27 (by kernel_rfl) rfl (by omega)
/-- A stream of both: laid already, or not yet. -/
def CRow (wr : World) (B6 : Nat) (q : Prop) (u t : Value) (l : List Isa.Cm) : Prop := (q → Isa.Cmds wr u l ∧ u.ownBlock ≠ some B6) ∧ (¬ q → u = t)
theorem CRow.later {wr W : World} {B6 : Nat} {q : Prop} {u t : Value} {l : List Isa.Cm} (h : CRow wr B6 q u t l) (e : Ext wr W) : CRow W B6 q u t l := ⟨fun hq => ⟨(h.1 hq).1.below e (Nat.le_refl _), (h.1 hq).2⟩, h.2⟩
theorem CRow.grown {wr W : World} {B6 : Nat} {q : Prop} {u t : Value} {l : List Isa.Cm} (h : CRow wr B6 q u t l) (e : wr.grownBy W (some B6)) : CRow W B6 q u t l := ⟨fun hq => ⟨Row.grown (h.1 hq).1 e (.inr (h.1 hq).2), (h.1 hq).2⟩, h.2⟩
/-- The state of the loop that lays streams one behind the other. -/
structure CSt (w : World) (B6 : Nat) (iV nV oV pX t0 t1 t2 : Value) (A0 A1 A2 D0 D1 D2 : List Isa.Cm) (k m : Nat) (v0 v1 v2 : Value) (wr : World) : Prop where
  blk : Blk wr B6 #[iV, nV, oV, pX, v0, v1, v2] 30
  r0 : CRow wr B6 (0 < k) v0 t0 (A0 ++ D0)
  r1 : CRow wr B6 (1 < k) v1 t1 (A1 ++ D1)
  r2 : CRow wr B6 (2 < k) v2 t2 (A2 ++ D2)
  many : m = (if 0 < k then A0.length else 0) + (if 1 < k then A1.length else 0) + (if 2 < k then A2.length else 0)
  ext : Ext w wr

set_option maxRecDepth 20000 in
set_option maxHeartbeats 12800000 in
theorem verifyCounts_calls (g h : Gr) (pV s0 s1 s2 qV r0 r1 r2 : Value) (pl ql : List Int) (L0 L1 L2 M0 M1 M2 : List Isa.Cm) (w : World) (hg : GrIn w g) (hp : Ints .i64 w pV pl) (hpk : ∀ z ∈ pl, InK .i64 z)
    (hs0 : Isa.Cmds w s0 L0) (hs1 : Isa.Cmds w s1 L1) (hs2 : Isa.Cmds w s2 L2) (hh : GrIn w h) (hq : Ints .i64 w qV ql) (hqk : ∀ z ∈ ql, InK .i64 z) (hr0 : Isa.Cmds w r0 M0) (hr1 : Isa.Cmds w r1 M1) (hr2 : Isa.Cmds w r2 M2) :
    Calls Try.prog 4 #[.agg #[g.iV, g.nV, g.oV, pV, s0, s1, s2], .agg #[h.iV, h.nV, h.oV, qV, r0, r1, r2]] w (AllVP w) := by
  have HP : Hid (∀ e w', e = .returned (.bool true) → Ext w w' → AllVP w e w') := fun e w' h1 h2 => ⟨h1, h2⟩
  generalize AllVP w = PP at *
  have hE1 := (ext_alloc w (.cells #[g.iV, g.nV, g.oV, pV, s0, s1, s2] 30)).trans (ext_alloc _ (.cells #[h.iV, h.nV, h.oV, qV, r0, r1, r2] 30))
  have hb1 := (Blk.new w #[g.iV, g.nV, g.oV, pV, s0, s1, s2] 30).ext (ext_alloc _ (.cells #[h.iV, h.nV, h.oV, qV, r0, r1, r2] 30))
  have hb2 := Blk.new (w.alloc (.cells #[g.iV, g.nV, g.oV, pV, s0, s1, s2] 30)) #[h.iV, h.nV, h.oV, qV, r0, r1, r2] 30
  rw [show (w.alloc (.cells #[g.iV, g.nV, g.oV, pV, s0, s1, s2] 30)).heap.size = w.heap.size + 1 from by simp] at hb2
  have hla := fun W (e : Ext w W) => less20_calls g pV s0 s1 s2 pl L0 L1 L2 w W hg hp hs0 hs1 hs2 e
  have hlb := fun W (e : Ext w W) => less20_calls h qV r0 r1 r2 ql M0 M1 M2 w W hh hq hr0 hr1 hr2 e
  unfold LessJPost at hla hlb
  have hsh := fun W => shown20_calls W
  have HPK := Lib.hid (And.intro hpk hqk)
  clear hpk hqk
  go_enter Try.func4, Try.ntmps4
  go_upto_region 1 with fail
  generalize World.alloc (World.alloc w _) _ = w1 at *
  go_upto_region 2 with (go_at_call 5; refine (hsh _).mono ?_; rintro e w2 ⟨rfl, h2⟩)
  have h2 : Ext w1 w2 := h2
  replace hb1 := hb1.ext h2
  replace hb2 := hb2.ext h2
  replace hE1 := hE1.trans h2
  have hsz2 : w.heap.size + 1 < w2.heap.size := hb2.lt
  clear hsh h2
  have q0 : World.cell? w2 ⟨w.heap.size, 0, none⟩ = some g.iV := hb1.cell 0
  have q1 : World.cell? w2 ⟨w.heap.size, 1, none⟩ = some g.nV := hb1.cell 1
  have q2 : World.cell? w2 ⟨w.heap.size, 2, none⟩ = some g.oV := hb1.cell 2
  have q3 : World.cell? w2 ⟨w.heap.size, 3, none⟩ = some pV := hb1.cell 3
  have q4 : World.cell? w2 ⟨w.heap.size, 4, none⟩ = some s0 := hb1.cell 4
  have q5 : World.cell? w2 ⟨w.heap.size, 5, none⟩ = some s1 := hb1.cell 5
  have q6 : World.cell? w2 ⟨w.heap.size, 6, none⟩ = some s2 := hb1.cell 6
  have hc := hla _ hE1
  clear hla
  go_wp2_with fail
  refine hc.mono ?_
  rintro e w3 ⟨x, pX, t0, t1, t2, pl', rfl, hL, hpx, hpm, hpl, hT0, hT1, hT2, h3⟩
  clear q0 q1 q2 q3 q4 q5 q6 hc
  replace hb1 := hb1.ext h3
  replace hb2 := hb2.ext h3
  have hE3 := hE1.trans h3
  have HO := Lib.hid (img_oneV hL hpx hT0 hT1 hT2)
  have hL4 := hL.setRow (b := w.heap.size) (Nat.le_refl _) (by omega) #[x.iV, x.nV, x.oV, pX, t0, t1, t2]
  have hb4 : Blk (w3.setRow w.heap.size #[x.iV, x.nV, x.oV, pX, t0, t1, t2]) w.heap.size #[x.iV, x.nV, x.oV, pX, t0, t1, t2] 30 := setRow_heap _ _ _ _ _ _ hb1
  have hc4 := hb2.grown (setRow_grown w3 w.heap.size #[x.iV, x.nV, x.oV, pX, t0, t1, t2]) (by simp)
  have hE4 : Ext w (w3.setRow w.heap.size #[x.iV, x.nV, x.oV, pX, t0, t1, t2]) := ext_setRow hE3 _ (Nat.le_refl _)
  clear hL hE1 hE3 hb2 h3
  go_upto_region 3 with (refine wpList_store_row rfl 30 _ _ rfl w.heap.size #[x.iV, x.nV, x.oV, pX, t0, t1, t2] rfl rfl 30 _ hb1 (by kernel_rfl) rfl HO.out ?_)
  clear hb1 HO
  generalize World.setRow w3 _ _ = w4 at *
  have q0 : World.cell? w4 ⟨w.heap.size + 1, 0, none⟩ = some h.iV := hc4.cell 0
  have q1 : World.cell? w4 ⟨w.heap.size + 1, 1, none⟩ = some h.nV := hc4.cell 1
  have q2 : World.cell? w4 ⟨w.heap.size + 1, 2, none⟩ = some h.oV := hc4.cell 2
  have q3 : World.cell? w4 ⟨w.heap.size + 1, 3, none⟩ = some qV := hc4.cell 3
  have q4 : World.cell? w4 ⟨w.heap.size + 1, 4, none⟩ = some r0 := hc4.cell 4
  have q5 : World.cell? w4 ⟨w.heap.size + 1, 5, none⟩ = some r1 := hc4.cell 5
  have q6 : World.cell? w4 ⟨w.heap.size + 1, 6, none⟩ = some r2 := hc4.cell 6
  have hc := hlb _ hE4
  clear hlb
  go_wp2_with fail
  refine hc.mono ?_
  rintro e w5 ⟨y, qX, u0, u1, u2, ql', rfl, hM, hqx, hqm, hql, hU0, hU1, hU2, h5⟩
  clear q0 q1 q2 q3 q4 q5 q6 hc
  have hsz4 : w.heap.size + 1 < w4.heap.size := hc4.lt
  replace hb4 := hb4.ext h5
  replace hc4 := hc4.ext h5
  replace hL4 := hL4.later h5
  have hE5 := hE4.trans h5
  have HO := Lib.hid (img_oneV hM hqx hU0 hU1 hU2)
  have hL6 := (hL4.setRow (b := w.heap.size + 1) (by omega) (by omega) #[y.iV, y.nV, y.oV, qX, u0, u1, u2]).at
  have hM6 := (hM.setRow (b := w.heap.size + 1) (by omega) (by omega) #[y.iV, y.nV, y.oV, qX, u0, u1, u2]).at
  have hb6 : Blk (w5.setRow (w.heap.size + 1) #[y.iV, y.nV, y.oV, qX, u0, u1, u2]) (w.heap.size + 1) #[y.iV, y.nV, y.oV, qX, u0, u1, u2] 30 := setRow_heap _ _ _ _ _ _ hc4
  have ha6 := hb4.grown (setRow_grown w5 (w.heap.size + 1) #[y.iV, y.nV, y.oV, qX, u0, u1, u2]) (by simp)
  have hE6 : Ext w (w5.setRow (w.heap.size + 1) #[y.iV, y.nV, y.oV, qX, u0, u1, u2]) := ext_setRow hE5 _ (by omega)
  clear hL4 hM hE4 hE5 hb4 h5 hsz2 hsz4
  go_upto_region 4 with (refine wpList_store_row rfl 30 _ _ rfl (w.heap.size + 1) #[y.iV, y.nV, y.oV, qX, u0, u1, u2] rfl rfl 30 _ hc4 (by kernel_rfl) rfl HO.out ?_)
  clear hc4 HO
  generalize World.setRow w5 _ _ = w6 at *
  have hkA : ∀ z ∈ pl', InK .i64 z := fun z hz => HPK.out.1 z (hpm z hz)
  have hkB : ∀ z ∈ ql', InK .i64 z := fun z hz => HPK.out.2 z (hqm z hz)
  have lA0 : (L0.take 40).length ≤ 40 := by rw [List.length_take]; omega
  generalize L0.take 40 = A0 at *
  have lA1 : (L1.take 40).length ≤ 40 := by rw [List.length_take]; omega
  generalize L1.take 40 = A1 at *
  have lA2 : (L2.take 40).length ≤ 40 := by rw [List.length_take]; omega
  generalize L2.take 40 = A2 at *
  have lD0 : (M0.take 40).length ≤ 40 := by rw [List.length_take]; omega
  generalize M0.take 40 = D0 at *
  have lD1 : (M1.take 40).length ≤ 40 := by rw [List.length_take]; omega
  generalize M1.take 40 = D1 at *
  have lD2 : (M2.take 40).length ≤ 40 := by rw [List.length_take]; omega
  generalize M2.take 40 = D2 at *
  obtain ⟨a0, d0, rfl, ma0, na0, _⟩ := id hT0.form
  obtain ⟨b0, e0, rfl, mb0, nb0, _⟩ := id hU0.form
  obtain ⟨a1, d1, rfl, ma1, na1, _⟩ := id hT1.form
  obtain ⟨b1, e1, rfl, mb1, nb1, _⟩ := id hU1.form
  obtain ⟨a2, d2, rfl, ma2, na2, _⟩ := id hT2.form
  obtain ⟨b2, e2, rfl, mb2, nb2, _⟩ := id hU2.form
  unfold maxLen at na0 na1 na2 nb0 nb1 nb2
  have HTu := Lib.hid (fun W (e : Ext w6 W) => turns_calls x pX (.slice a0 A0.length d0) (.slice a1 A1.length d1) (.slice a2 A2.length d2) pl' A0 A1 A2 W (hL6.ext e) (hpx.ext (hE6.trans e)) hkA (hT0.below (hE6.trans e) (Nat.le_refl _)) (hT1.below (hE6.trans e) (Nat.le_refl _)) (hT2.below (hE6.trans e) (Nat.le_refl _)))
  have HSt := Lib.hid (fun W (e : Ext w6 W) => streams_calls x pX (.slice a0 A0.length d0) (.slice a1 A1.length d1) (.slice a2 A2.length d2) pl' A0 A1 A2 W (hL6.ext e) (hpx.ext (hE6.trans e)) hkA (hT0.below (hE6.trans e) (Nat.le_refl _)) (hT1.below (hE6.trans e) (Nat.le_refl _)) (hT2.below (hE6.trans e) (Nat.le_refl _)))
  have HCh := Lib.hid (fun W (e : Ext w6 W) => vcheck_calls x pX (.slice a0 A0.length d0) (.slice a1 A1.length d1) (.slice a2 A2.length d2) pl' A0 A1 A2 W (hL6.ext e) (hpx.ext (hE6.trans e)) hkA (hT0.below (hE6.trans e) (Nat.le_refl _)) (hT1.below (hE6.trans e) (Nat.le_refl _)) (hT2.below (hE6.trans e) (Nat.le_refl _)))
  have HBa := Lib.hid (fun W (e : Ext w6 W) => balance_calls x pX (.slice a0 A0.length d0) (.slice a1 A1.length d1) (.slice a2 A2.length d2) A0 A1 A2 W (hT0.below (hE6.trans e) (Nat.le_refl _)) (hT1.below (hE6.trans e) (Nat.le_refl _)) (hT2.below (hE6.trans e) (Nat.le_refl _)) (by omega) (by omega) (by omega))
  have HBb := Lib.hid (fun W (e : Ext w6 W) => balance_calls y qX (.slice b0 D0.length e0) (.slice b1 D1.length e1) (.slice b2 D2.length e2) D0 D1 D2 W (hU0.below (hE6.trans e) (Nat.le_refl _)) (hU1.below (hE6.trans e) (Nat.le_refl _)) (hU2.below (hE6.trans e) (Nat.le_refl _)) (by omega) (by omega) (by omega))
  have HBc := Lib.hid (fun W v0 v1 v2 (h0 : Isa.Cmds W v0 (A0 ++ D0)) (h1 : Isa.Cmds W v1 (A1 ++ D1)) (h2 : Isa.Cmds W v2 (A2 ++ D2)) => balance_calls x pX v0 v1 v2 (A0 ++ D0) (A1 ++ D1) (A2 ++ D2) W h0 h1 h2 (by rw [List.length_append]; omega) (by rw [List.length_append]; omega) (by rw [List.length_append]; omega))
  unfold TurnP at HTu
  unfold MayP at HSt HCh
  unfold BalP at HBa HBb HBc
  have HSaid := Lib.hid (counts_said x pl' A0 A1 A2)
  have HBoth := Lib.hid (fun i (hi : i < 8) => balZ_both i hi A0 A1 A2 D0 D1 D2)
  have HLen := Lib.hid (And.intro (balZ_len A0 A1 A2) (And.intro (balZ_len D0 D1 D2) (balZ_len (A0 ++ D0) (A1 ++ D1) (A2 ++ D2))))
  have HIn := Lib.hid (And.intro (balZ_in A0 A1 A2 (by omega)) (balZ_in D0 D1 D2 (by omega)))
  have HAbs := Lib.hid (And.intro (fun i => foldB_abs (A0 ++ A1 ++ A2) i) (fun i => foldB_abs (D0 ++ D1 ++ D2) i))
  have HAbs2 : Hid (∀ i : Nat, (-120 ≤ (balZ A0 A1 A2)[i]?.getD 0 ∧ (balZ A0 A1 A2)[i]?.getD 0 ≤ 120) ∧ (-120 ≤ (balZ D0 D1 D2)[i]?.getD 0 ∧ (balZ D0 D1 D2)[i]?.getD 0 ≤ 120)) := by
    show ∀ _, _
    intro i
    have h1 := HAbs.out.1 i
    have h2 := HAbs.out.2 i
    simp only [List.length_append] at h1 h2
    have e1 : (balZ A0 A1 A2)[i]?.getD 0 = ((A0 ++ A1 ++ A2).foldl addB noughts)[i]?.getD 0 := rfl
    have e2 : (balZ D0 D1 D2)[i]?.getD 0 = ((D0 ++ D1 ++ D2).foldl addB noughts)[i]?.getD 0 := rfl
    rw [e1, e2]
    omega
  have HTT := Lib.hid (And.intro (And.intro hT0 (And.intro hT1 hT2)) (And.intro hU0 (And.intro hU1 hU2)))
  have HE := Lib.hid hE6
  have HO1 := Lib.hid (show Array.all #[x.iV, x.nV, x.oV, pX, .slice a0 A0.length d0, .slice a1 A1.length d1, .slice a2 A2.length d2] (·.oneCell') = true from by
    obtain ⟨_, _, e1, _⟩ := hL6.ins.form
    obtain ⟨_, _, e2, _⟩ := id (show Row _ _ _ _ _ from hL6.nodes)
    obtain ⟨_, _, e3, _⟩ := hL6.outs.form
    obtain ⟨_, _, e4, _⟩ := hpx.form
    rw [e1, e2, e3, e4]
    simp [Value.oneCell'])
  clear HAbs hL6 hM6 hpx hqx hT0 hT1 hT2 hU0 hU1 hU2 hpm hqm hpl hql hkA hkB hE6
  generalize turnsZ x pl' A0 A1 A2 = tz at *
  generalize streamsZ x pl' A0 A1 A2 = sz at *
  generalize checkZ x pl' A0 A1 A2 = cz at *
  generalize balZ A0 A1 A2 = ba at *
  generalize balZ D0 D1 D2 = bb at *
  generalize balZ (A0 ++ D0) (A1 ++ D1) (A2 ++ D2) = bc at *
  obtain ⟨t1z, t2z⟩ := tz
  dsimp only at HTu HSaid
  generalize w.heap.size + 1 = Bb at *
  generalize w.heap.size = Ba at *
  have hz7 := Blk.new w6 #[.slice none 0 0, .slice none 0 0, .slice none 0 0, .slice none 0 0, .slice none 0 0, .slice none 0 0, .slice none 0 0] 30
  have hb7 : Blk ((w6.alloc (.cells #[.slice none 0 0, .slice none 0 0, .slice none 0 0, .slice none 0 0, .slice none 0 0, .slice none 0 0, .slice none 0 0] 30)).setRow w6.heap.size #[x.iV, x.nV, x.oV, pX, .slice a0 A0.length d0, .slice a1 A1.length d1, .slice a2 A2.length d2]) w6.heap.size #[x.iV, x.nV, x.oV, pX, .slice a0 A0.length d0, .slice a1 A1.length d1, .slice a2 A2.length d2] 30 := setRow_heap _ _ _ _ _ _ hz7
  have hQ : Ext w6 ((w6.alloc (.cells #[.slice none 0 0, .slice none 0 0, .slice none 0 0, .slice none 0 0, .slice none 0 0, .slice none 0 0, .slice none 0 0] 30)).setRow w6.heap.size #[x.iV, x.nV, x.oV, pX, .slice a0 A0.length d0, .slice a1 A1.length d1, .slice a2 A2.length d2]) := ext_setRow (ext_alloc _ _) _ (Nat.le_refl _)
  have q0 : World.cell? w6 ⟨Ba, 0, none⟩ = some x.iV := ha6.cell 0
  have q1 : World.cell? w6 ⟨Ba, 1, none⟩ = some x.nV := ha6.cell 1
  have q2 : World.cell? w6 ⟨Ba, 2, none⟩ = some x.oV := ha6.cell 2
  have q3 : World.cell? w6 ⟨Ba, 3, none⟩ = some pX := ha6.cell 3
  have q4 : World.cell? w6 ⟨Ba, 4, none⟩ = some (.slice a0 A0.length d0) := ha6.cell 4
  have q5 : World.cell? w6 ⟨Ba, 5, none⟩ = some (.slice a1 A1.length d1) := ha6.cell 5
  have q6 : World.cell? w6 ⟨Ba, 6, none⟩ = some (.slice a2 A2.length d2) := ha6.cell 6
  go_upto_region 5 with (refine wpList_store_row rfl 30 _ _ rfl w6.heap.size #[x.iV, x.nV, x.oV, pX, .slice a0 A0.length d0, .slice a1 A1.length d1, .slice a2 A2.length d2] rfl rfl 30 _ hz7 (by kernel_rfl) rfl HO1.out ?_)
  clear q0 q1 q2 q3 q4 q5 q6
  clear hz7 HO1
  have HBA := Lib.hid (And.intro ha6 hb6)
  have hlta := ha6.lt
  have hltb := hb6.lt
  generalize World.setRow (World.alloc w6 _) _ _ = w7 at *
  have HLT := Lib.hid (Nat.le_refl w6.heap.size)
  obtain ⟨B6, hB6⟩ : ∃ B6, w6.heap.size = B6 := ⟨_, rfl⟩
  rw [hB6] at hb7 hlta hltb HLT
  have HB6 := Lib.hid hB6
  rw [hB6]
  clear hB6 ha6 hb6
  have HS : Hid (CSt w6 B6 x.iV x.nV x.oV pX (.slice a0 A0.length d0) (.slice a1 A1.length d1) (.slice a2 A2.length d2) A0 A1 A2 D0 D1 D2 0 0 (.slice a0 A0.length d0) (.slice a1 A1.length d1) (.slice a2 A2.length d2) w7) :=
    ⟨hb7, ⟨fun h => absurd h (by omega), fun _ => rfl⟩, ⟨fun h => absurd h (by omega), fun _ => rfl⟩, ⟨fun h => absurd h (by omega), fun _ => rfl⟩, rfl, hQ⟩
  clear hb7 hQ
  go_wp2_with fail
  go_loopw [8, 7] (fun i mm wr => ∃ (k m : Nat) (v0 v1 v2 : Value), k ≤ 3 ∧ m ≤ 120 ∧ i = .int .i64 k ∧ mm = .int .i64 m ∧ Hid (CSt w6 B6 x.iV x.nV x.oV pX (.slice a0 A0.length d0) (.slice a1 A1.length d1) (.slice a2 A2.length d2) A0 A1 A2 D0 D1 D2 k m v0 v1 v2 wr)) (fun i _ _ => 3 - (intOf i).toNat)
  case atStart => exact ⟨0, 0, _, _, _, by omega, by omega, rfl, rfl, HS⟩
  case round =>
    clear HS
    obtain ⟨k, m, v0, v1, v2, hk, hm, rfl, rfl, HS⟩ := hrel
    rcases (by omega : k = 0 ∨ k = 1 ∨ k = 2 ∨ k = 3) with rfl | rfl | rfl | rfl
    · rw [show ((0 : Nat) : Int) = 0 from rfl]
      have hvk := HS.out.r0.2 (by omega)
      subst hvk
      have hBs := HS.out.blk
      have p0 : ∀ W, Keeps [Ba, Bb] wr W → World.cell? W ⟨Ba, 4, none⟩ = some (.slice a0 A0.length d0) := fun W hW => (hW.cell (by simp)).trans ((HBA.out.1.ext HS.out.ext).cell 4)
      have p1 : ∀ W, Keeps [Ba, Bb] wr W → World.cell? W ⟨Bb, 4, none⟩ = some (.slice b0 D0.length e0) := fun W hW => (hW.cell (by simp)).trans ((HBA.out.2.ext HS.out.ext).cell 4)
      have K0 : Keeps [Ba, Bb] wr wr.drew := Keeps.drew _ _
      have hltw : Ba < wr.heap.size ∧ Bb < wr.heap.size := ⟨(HBA.out.1.ext HS.out.ext).lt, (HBA.out.2.ext HS.out.ext).lt⟩
      have hX0 := Ext.drew wr
      have hrA := HTT.out.1.1.below (HE.out.trans (HS.out.ext.trans hX0)) (Nat.le_refl _)
      have hrB := HTT.out.2.1.below (HE.out.trans (HS.out.ext.trans hX0)) (Nat.le_refl _)
      go_wp2_with fail
      refine wp_region_S (Keeps [Ba, Bb] wr) [(0, true), (2, true), (3, true), (4, true), (5, true), (7, true), (8, true), (9, true), (10, true), (12, true), (1, false), (6, false), (11, false), (13, true), (14, false)] (by kernel_rfl) (by kernel_rfl) (fun _ _ d _ _ h => by cases d <;> exact h) K0 ?_
      simp only [pickE, List.getElem?_cons_zero, List.getElem?_cons_succ]
      generalize wr.drew = wd at *
      repeat (first | (refine wpF_pure (by rfl) (fun W hW => by go_simp; with_reducible rfl) ?_; simp only [Act.put, List.setIfInBounds_toArray, List.set_cons_zero, List.set_cons_succ]) | (refine wpF_skip (by rfl) ?_; simp only [Act.put, List.setIfInBounds_toArray, List.set_cons_zero, List.set_cons_succ]))
      refine wpF_step (by rfl) (fun K hK => ?_)
      go_simp
      have hXa := ext_alloc wd (.cells #[] 47)
      have hown0 := World.ownsRow_made (base := wd.heap.size) (e := 47) (size := 14) wd #[] 0 (Nat.le_refl _) (Nat.zero_le _) (by simp)
      refine hK _ _ (K0.trans (Keeps.below hXa (fun q hq => by simp at hq; rcases hq with rfl | rfl <;> have := K0.1 <;> omega))) ?_
      have K1 : Keeps [Ba, Bb] wr (wd.alloc (.cells #[] 47)) := K0.trans (Keeps.below hXa (fun q hq => by simp at hq; rcases hq with rfl | rfl <;> have := K0.1 <;> omega))
      clear hK K
      try simp only [Act.put, List.setIfInBounds_toArray, List.set_cons_zero, List.set_cons_succ]
      refine wpF_step (by rfl) (fun K hK => ?_)
      refine wp_append_row rfl elem_cmdV hown0 rfl (hrA.below hXa (Nat.le_refl _)) rfl (Isa.ccs_one _) (by omega) (by omega) (by simp) (fun v5 w8 ho1 hg1 hn1 => ?_)
      have hX6 : Ext wd w8 := below_own (below_alloc (Below.refl _ _) (Nat.le_refl _) _) (by simp) hown0 (Nat.le_refl _) hg1
      have K2 : Keeps [Ba, Bb] wr w8 := K0.trans (Keeps.below hX6 (fun q hq => by simp at hq; rcases hq with rfl | rfl <;> have := K0.1 <;> omega))
      refine hK _ _ K2 ?_
      clear hK K
      try simp only [Act.put, List.setIfInBounds_toArray, List.set_cons_zero, List.set_cons_succ]
      refine wpF_step (by rfl) (fun K hK => ?_)
      refine wp_append_row rfl elem_cmdV ho1 rfl (hrB.below hX6 (Nat.le_refl _)) rfl (Isa.ccs_one _) (by omega) (by omega) hX6.size (fun v6 w9 ho2 hg2 hn2 => ?_)
      have hX11 : Ext wd w9 := below_own hX6 hX6.size ho1 (Nat.le_refl _) hg2
      have K3 : Keeps [Ba, Bb] wr w9 := K0.trans (Keeps.below hX11 (fun q hq => by simp at hq; rcases hq with rfl | rfl <;> have := K0.1 <;> omega))
      refine hK _ _ K3 ?_
      clear hK K hown0 hn1 hn2
      try simp only [Act.put, List.setIfInBounds_toArray, List.set_cons_zero, List.set_cons_succ]
      have hcm9 : Isa.Cmds w9 v6 (A0 ++ D0) := by
        have h := row_of_own ho2
        simp only [Nat.zero_add, List.nil_append] at h
        unfold Isa.Cmds
        rw [List.length_append, List.flatMap_append]
        exact h
      have hBd := (hBs.ext hX0).ext hX11
      have hne12 : v6.ownBlock ≠ some B6 := fun h => own_ne ho2 (hBs.ext hX0).lt h.symm
      obtain ⟨rA, rc, rfl, _⟩ := hcm9.form
      obtain ⟨rn, hrn⟩ : ∃ rn, (A0 ++ D0).length = rn := ⟨_, rfl⟩
      rw [hrn] at hcm9 hne12 ⊢
      clear ho1 ho2 hg1 hg2 hX6 hrA hrB
      repeat (first | (refine wpF_pure (by rfl) (fun W hW => by go_simp; with_reducible rfl) ?_; simp only [Act.put, List.setIfInBounds_toArray, List.set_cons_zero, List.set_cons_succ]) | (refine wpF_skip (by rfl) ?_; simp only [Act.put, List.setIfInBounds_toArray, List.set_cons_zero, List.set_cons_succ]))
      have hfk := hBd.frozen 4
      have hlk := hBd.lt
      have hqk : World.cell? w9 ⟨B6, 4, none⟩ = some (.slice a0 A0.length d0) := hBd.cell 4
      have hG := setCell_grown w9 B6 4 (.slice rA rn rc)
      have K9 : Keeps [Ba, Bb] wr (w9.setCell ⟨B6, 4, none⟩ (.slice rA rn rc)) := K3.trans (Keeps.grown hG (fun q hq => by have h1 := K3.1; simp at hq; rcases hq with rfl | rfl <;> exact ⟨by omega, by simp; omega⟩))
      have hXw := hX0.trans hX11
      have hm2 : m + A0.length ≤ 120 := by have h := HS.out.many; simp at h; omega
      have HN : Hid (CSt w6 B6 x.iV x.nV x.oV pX (.slice a0 A0.length d0) (.slice a1 A1.length d1) (.slice a2 A2.length d2) A0 A1 A2 D0 D1 D2 1 (m + A0.length) (.slice rA rn rc) v1 v2 (w9.setCell ⟨B6, 4, none⟩ (.slice rA rn rc))) := by
        have h0 := (HS.out.r0.later hXw).grown hG
        have h1 := (HS.out.r1.later hXw).grown hG
        have h2 := (HS.out.r2.later hXw).grown hG
        have hcm12 : Isa.Cmds (w9.setCell ⟨B6, 4, none⟩ (.slice rA rn rc)) (.slice rA rn rc) (A0 ++ D0) := Row.grown hcm9 hG (.inr hne12)
        exact ⟨by simpa using hBd.set 4 (.slice rA rn rc), ⟨fun _ => ⟨hcm12, hne12⟩, fun h => absurd (by omega) h⟩, ⟨fun h => (h1.1 (by omega)), fun h => h1.2 (by omega)⟩, ⟨fun h => (h2.1 (by omega)), fun h => h2.2 (by omega)⟩, by have h := HS.out.many; simp at h ⊢; omega, Below.setCell (HS.out.ext.trans hXw) (p := ⟨B6, 4, none⟩) (by show w6.heap.size ≤ B6; exact Nat.le_of_eq HB6.out) _⟩
      refine wpF_step (by rfl) (fun K hK => ?_)
      go_simp
      refine hK _ _ K9 ?_
      have p0f := p0 _ K9
      clear hK K hfk hlk hqk hG K9 hXw hBd hne12 hcm9 p0 p1 K0 K1 K2 K3 hX11 hX0 hBs hXa
      try simp only [Act.put, List.setIfInBounds_toArray, List.set_cons_zero, List.set_cons_succ]
      refine wpF_nil ?_
      generalize World.setCell w9 _ _ = w10 at *
      go_wp2_with fail
      go_roundw
      case rel => exact ⟨1, m + A0.length, _, _, _, by omega, hm2, by go_num, by go_num, HN⟩
      case measure => simp [intOf]
    · rw [show ((1 : Nat) : Int) = 1 from rfl]
      have hvk := HS.out.r1.2 (by omega)
      subst hvk
      have hBs := HS.out.blk
      have p0 : ∀ W, Keeps [Ba, Bb] wr W → World.cell? W ⟨Ba, 5, none⟩ = some (.slice a1 A1.length d1) := fun W hW => (hW.cell (by simp)).trans ((HBA.out.1.ext HS.out.ext).cell 5)
      have p1 : ∀ W, Keeps [Ba, Bb] wr W → World.cell? W ⟨Bb, 5, none⟩ = some (.slice b1 D1.length e1) := fun W hW => (hW.cell (by simp)).trans ((HBA.out.2.ext HS.out.ext).cell 5)
      have K0 : Keeps [Ba, Bb] wr wr.drew := Keeps.drew _ _
      have hltw : Ba < wr.heap.size ∧ Bb < wr.heap.size := ⟨(HBA.out.1.ext HS.out.ext).lt, (HBA.out.2.ext HS.out.ext).lt⟩
      have hX0 := Ext.drew wr
      have hrA := HTT.out.1.2.1.below (HE.out.trans (HS.out.ext.trans hX0)) (Nat.le_refl _)
      have hrB := HTT.out.2.2.1.below (HE.out.trans (HS.out.ext.trans hX0)) (Nat.le_refl _)
      go_wp2_with fail
      refine wp_region_S (Keeps [Ba, Bb] wr) [(0, true), (2, true), (3, true), (4, true), (5, true), (7, true), (8, true), (9, true), (10, true), (12, true), (1, false), (6, false), (11, false), (13, true), (14, false)] (by kernel_rfl) (by kernel_rfl) (fun _ _ d _ _ h => by cases d <;> exact h) K0 ?_
      simp only [pickE, List.getElem?_cons_zero, List.getElem?_cons_succ]
      generalize wr.drew = wd at *
      repeat (first | (refine wpF_pure (by rfl) (fun W hW => by go_simp; with_reducible rfl) ?_; simp only [Act.put, List.setIfInBounds_toArray, List.set_cons_zero, List.set_cons_succ]) | (refine wpF_skip (by rfl) ?_; simp only [Act.put, List.setIfInBounds_toArray, List.set_cons_zero, List.set_cons_succ]))
      refine wpF_step (by rfl) (fun K hK => ?_)
      go_simp
      have hXa := ext_alloc wd (.cells #[] 47)
      have hown0 := World.ownsRow_made (base := wd.heap.size) (e := 47) (size := 14) wd #[] 0 (Nat.le_refl _) (Nat.zero_le _) (by simp)
      refine hK _ _ (K0.trans (Keeps.below hXa (fun q hq => by simp at hq; rcases hq with rfl | rfl <;> have := K0.1 <;> omega))) ?_
      have K1 : Keeps [Ba, Bb] wr (wd.alloc (.cells #[] 47)) := K0.trans (Keeps.below hXa (fun q hq => by simp at hq; rcases hq with rfl | rfl <;> have := K0.1 <;> omega))
      clear hK K
      try simp only [Act.put, List.setIfInBounds_toArray, List.set_cons_zero, List.set_cons_succ]
      refine wpF_step (by rfl) (fun K hK => ?_)
      refine wp_append_row rfl elem_cmdV hown0 rfl (hrA.below hXa (Nat.le_refl _)) rfl (Isa.ccs_one _) (by omega) (by omega) (by simp) (fun v5 w8 ho1 hg1 hn1 => ?_)
      have hX6 : Ext wd w8 := below_own (below_alloc (Below.refl _ _) (Nat.le_refl _) _) (by simp) hown0 (Nat.le_refl _) hg1
      have K2 : Keeps [Ba, Bb] wr w8 := K0.trans (Keeps.below hX6 (fun q hq => by simp at hq; rcases hq with rfl | rfl <;> have := K0.1 <;> omega))
      refine hK _ _ K2 ?_
      clear hK K
      try simp only [Act.put, List.setIfInBounds_toArray, List.set_cons_zero, List.set_cons_succ]
      refine wpF_step (by rfl) (fun K hK => ?_)
      refine wp_append_row rfl elem_cmdV ho1 rfl (hrB.below hX6 (Nat.le_refl _)) rfl (Isa.ccs_one _) (by omega) (by omega) hX6.size (fun v6 w9 ho2 hg2 hn2 => ?_)
      have hX11 : Ext wd w9 := below_own hX6 hX6.size ho1 (Nat.le_refl _) hg2
      have K3 : Keeps [Ba, Bb] wr w9 := K0.trans (Keeps.below hX11 (fun q hq => by simp at hq; rcases hq with rfl | rfl <;> have := K0.1 <;> omega))
      refine hK _ _ K3 ?_
      clear hK K hown0 hn1 hn2
      try simp only [Act.put, List.setIfInBounds_toArray, List.set_cons_zero, List.set_cons_succ]
      have hcm9 : Isa.Cmds w9 v6 (A1 ++ D1) := by
        have h := row_of_own ho2
        simp only [Nat.zero_add, List.nil_append] at h
        unfold Isa.Cmds
        rw [List.length_append, List.flatMap_append]
        exact h
      have hBd := (hBs.ext hX0).ext hX11
      have hne12 : v6.ownBlock ≠ some B6 := fun h => own_ne ho2 (hBs.ext hX0).lt h.symm
      obtain ⟨rA, rc, rfl, _⟩ := hcm9.form
      obtain ⟨rn, hrn⟩ : ∃ rn, (A1 ++ D1).length = rn := ⟨_, rfl⟩
      rw [hrn] at hcm9 hne12 ⊢
      clear ho1 ho2 hg1 hg2 hX6 hrA hrB
      repeat (first | (refine wpF_pure (by rfl) (fun W hW => by go_simp; with_reducible rfl) ?_; simp only [Act.put, List.setIfInBounds_toArray, List.set_cons_zero, List.set_cons_succ]) | (refine wpF_skip (by rfl) ?_; simp only [Act.put, List.setIfInBounds_toArray, List.set_cons_zero, List.set_cons_succ]))
      have hfk := hBd.frozen 5
      have hlk := hBd.lt
      have hqk : World.cell? w9 ⟨B6, 5, none⟩ = some (.slice a1 A1.length d1) := hBd.cell 5
      have hG := setCell_grown w9 B6 5 (.slice rA rn rc)
      have K9 : Keeps [Ba, Bb] wr (w9.setCell ⟨B6, 5, none⟩ (.slice rA rn rc)) := K3.trans (Keeps.grown hG (fun q hq => by have h1 := K3.1; simp at hq; rcases hq with rfl | rfl <;> exact ⟨by omega, by simp; omega⟩))
      have hXw := hX0.trans hX11
      have hm2 : m + A1.length ≤ 120 := by have h := HS.out.many; simp at h; omega
      have HN : Hid (CSt w6 B6 x.iV x.nV x.oV pX (.slice a0 A0.length d0) (.slice a1 A1.length d1) (.slice a2 A2.length d2) A0 A1 A2 D0 D1 D2 2 (m + A1.length) v0 (.slice rA rn rc) v2 (w9.setCell ⟨B6, 5, none⟩ (.slice rA rn rc))) := by
        have h0 := (HS.out.r0.later hXw).grown hG
        have h1 := (HS.out.r1.later hXw).grown hG
        have h2 := (HS.out.r2.later hXw).grown hG
        have hcm12 : Isa.Cmds (w9.setCell ⟨B6, 5, none⟩ (.slice rA rn rc)) (.slice rA rn rc) (A1 ++ D1) := Row.grown hcm9 hG (.inr hne12)
        exact ⟨by simpa using hBd.set 5 (.slice rA rn rc), ⟨fun h => (h0.1 (by omega)), fun h => h0.2 (by omega)⟩, ⟨fun _ => ⟨hcm12, hne12⟩, fun h => absurd (by omega) h⟩, ⟨fun h => (h2.1 (by omega)), fun h => h2.2 (by omega)⟩, by have h := HS.out.many; simp at h ⊢; omega, Below.setCell (HS.out.ext.trans hXw) (p := ⟨B6, 5, none⟩) (by show w6.heap.size ≤ B6; exact Nat.le_of_eq HB6.out) _⟩
      refine wpF_step (by rfl) (fun K hK => ?_)
      go_simp
      refine hK _ _ K9 ?_
      have p0f := p0 _ K9
      clear hK K hfk hlk hqk hG K9 hXw hBd hne12 hcm9 p0 p1 K0 K1 K2 K3 hX11 hX0 hBs hXa
      try simp only [Act.put, List.setIfInBounds_toArray, List.set_cons_zero, List.set_cons_succ]
      refine wpF_nil ?_
      generalize World.setCell w9 _ _ = w10 at *
      go_wp2_with fail
      go_roundw
      case rel => exact ⟨2, m + A1.length, _, _, _, by omega, hm2, by go_num, by go_num, HN⟩
      case measure => simp [intOf]
    · rw [show ((2 : Nat) : Int) = 2 from rfl]
      have hvk := HS.out.r2.2 (by omega)
      subst hvk
      have hBs := HS.out.blk
      have p0 : ∀ W, Keeps [Ba, Bb] wr W → World.cell? W ⟨Ba, 6, none⟩ = some (.slice a2 A2.length d2) := fun W hW => (hW.cell (by simp)).trans ((HBA.out.1.ext HS.out.ext).cell 6)
      have p1 : ∀ W, Keeps [Ba, Bb] wr W → World.cell? W ⟨Bb, 6, none⟩ = some (.slice b2 D2.length e2) := fun W hW => (hW.cell (by simp)).trans ((HBA.out.2.ext HS.out.ext).cell 6)
      have K0 : Keeps [Ba, Bb] wr wr.drew := Keeps.drew _ _
      have hltw : Ba < wr.heap.size ∧ Bb < wr.heap.size := ⟨(HBA.out.1.ext HS.out.ext).lt, (HBA.out.2.ext HS.out.ext).lt⟩
      have hX0 := Ext.drew wr
      have hrA := HTT.out.1.2.2.below (HE.out.trans (HS.out.ext.trans hX0)) (Nat.le_refl _)
      have hrB := HTT.out.2.2.2.below (HE.out.trans (HS.out.ext.trans hX0)) (Nat.le_refl _)
      go_wp2_with fail
      refine wp_region_S (Keeps [Ba, Bb] wr) [(0, true), (2, true), (3, true), (4, true), (5, true), (7, true), (8, true), (9, true), (10, true), (12, true), (1, false), (6, false), (11, false), (13, true), (14, false)] (by kernel_rfl) (by kernel_rfl) (fun _ _ d _ _ h => by cases d <;> exact h) K0 ?_
      simp only [pickE, List.getElem?_cons_zero, List.getElem?_cons_succ]
      generalize wr.drew = wd at *
      repeat (first | (refine wpF_pure (by rfl) (fun W hW => by go_simp; with_reducible rfl) ?_; simp only [Act.put, List.setIfInBounds_toArray, List.set_cons_zero, List.set_cons_succ]) | (refine wpF_skip (by rfl) ?_; simp only [Act.put, List.setIfInBounds_toArray, List.set_cons_zero, List.set_cons_succ]))
      refine wpF_step (by rfl) (fun K hK => ?_)
      go_simp
      have hXa := ext_alloc wd (.cells #[] 47)
      have hown0 := World.ownsRow_made (base := wd.heap.size) (e := 47) (size := 14) wd #[] 0 (Nat.le_refl _) (Nat.zero_le _) (by simp)
      refine hK _ _ (K0.trans (Keeps.below hXa (fun q hq => by simp at hq; rcases hq with rfl | rfl <;> have := K0.1 <;> omega))) ?_
      have K1 : Keeps [Ba, Bb] wr (wd.alloc (.cells #[] 47)) := K0.trans (Keeps.below hXa (fun q hq => by simp at hq; rcases hq with rfl | rfl <;> have := K0.1 <;> omega))
      clear hK K
      try simp only [Act.put, List.setIfInBounds_toArray, List.set_cons_zero, List.set_cons_succ]
      refine wpF_step (by rfl) (fun K hK => ?_)
      refine wp_append_row rfl elem_cmdV hown0 rfl (hrA.below hXa (Nat.le_refl _)) rfl (Isa.ccs_one _) (by omega) (by omega) (by simp) (fun v5 w8 ho1 hg1 hn1 => ?_)
      have hX6 : Ext wd w8 := below_own (below_alloc (Below.refl _ _) (Nat.le_refl _) _) (by simp) hown0 (Nat.le_refl _) hg1
      have K2 : Keeps [Ba, Bb] wr w8 := K0.trans (Keeps.below hX6 (fun q hq => by simp at hq; rcases hq with rfl | rfl <;> have := K0.1 <;> omega))
      refine hK _ _ K2 ?_
      clear hK K
      try simp only [Act.put, List.setIfInBounds_toArray, List.set_cons_zero, List.set_cons_succ]
      refine wpF_step (by rfl) (fun K hK => ?_)
      refine wp_append_row rfl elem_cmdV ho1 rfl (hrB.below hX6 (Nat.le_refl _)) rfl (Isa.ccs_one _) (by omega) (by omega) hX6.size (fun v6 w9 ho2 hg2 hn2 => ?_)
      have hX11 : Ext wd w9 := below_own hX6 hX6.size ho1 (Nat.le_refl _) hg2
      have K3 : Keeps [Ba, Bb] wr w9 := K0.trans (Keeps.below hX11 (fun q hq => by simp at hq; rcases hq with rfl | rfl <;> have := K0.1 <;> omega))
      refine hK _ _ K3 ?_
      clear hK K hown0 hn1 hn2
      try simp only [Act.put, List.setIfInBounds_toArray, List.set_cons_zero, List.set_cons_succ]
      have hcm9 : Isa.Cmds w9 v6 (A2 ++ D2) := by
        have h := row_of_own ho2
        simp only [Nat.zero_add, List.nil_append] at h
        unfold Isa.Cmds
        rw [List.length_append, List.flatMap_append]
        exact h
      have hBd := (hBs.ext hX0).ext hX11
      have hne12 : v6.ownBlock ≠ some B6 := fun h => own_ne ho2 (hBs.ext hX0).lt h.symm
      obtain ⟨rA, rc, rfl, _⟩ := hcm9.form
      obtain ⟨rn, hrn⟩ : ∃ rn, (A2 ++ D2).length = rn := ⟨_, rfl⟩
      rw [hrn] at hcm9 hne12 ⊢
      clear ho1 ho2 hg1 hg2 hX6 hrA hrB
      repeat (first | (refine wpF_pure (by rfl) (fun W hW => by go_simp; with_reducible rfl) ?_; simp only [Act.put, List.setIfInBounds_toArray, List.set_cons_zero, List.set_cons_succ]) | (refine wpF_skip (by rfl) ?_; simp only [Act.put, List.setIfInBounds_toArray, List.set_cons_zero, List.set_cons_succ]))
      have hfk := hBd.frozen 6
      have hlk := hBd.lt
      have hqk : World.cell? w9 ⟨B6, 6, none⟩ = some (.slice a2 A2.length d2) := hBd.cell 6
      have hG := setCell_grown w9 B6 6 (.slice rA rn rc)
      have K9 : Keeps [Ba, Bb] wr (w9.setCell ⟨B6, 6, none⟩ (.slice rA rn rc)) := K3.trans (Keeps.grown hG (fun q hq => by have h1 := K3.1; simp at hq; rcases hq with rfl | rfl <;> exact ⟨by omega, by simp; omega⟩))
      have hXw := hX0.trans hX11
      have hm2 : m + A2.length ≤ 120 := by have h := HS.out.many; simp at h; omega
      have HN : Hid (CSt w6 B6 x.iV x.nV x.oV pX (.slice a0 A0.length d0) (.slice a1 A1.length d1) (.slice a2 A2.length d2) A0 A1 A2 D0 D1 D2 3 (m + A2.length) v0 v1 (.slice rA rn rc) (w9.setCell ⟨B6, 6, none⟩ (.slice rA rn rc))) := by
        have h0 := (HS.out.r0.later hXw).grown hG
        have h1 := (HS.out.r1.later hXw).grown hG
        have h2 := (HS.out.r2.later hXw).grown hG
        have hcm12 : Isa.Cmds (w9.setCell ⟨B6, 6, none⟩ (.slice rA rn rc)) (.slice rA rn rc) (A2 ++ D2) := Row.grown hcm9 hG (.inr hne12)
        exact ⟨by simpa using hBd.set 6 (.slice rA rn rc), ⟨fun h => (h0.1 (by omega)), fun h => h0.2 (by omega)⟩, ⟨fun h => (h1.1 (by omega)), fun h => h1.2 (by omega)⟩, ⟨fun _ => ⟨hcm12, hne12⟩, fun h => absurd (by omega) h⟩, by have h := HS.out.many; simp at h ⊢; omega, Below.setCell (HS.out.ext.trans hXw) (p := ⟨B6, 6, none⟩) (by show w6.heap.size ≤ B6; exact Nat.le_of_eq HB6.out) _⟩
      refine wpF_step (by rfl) (fun K hK => ?_)
      go_simp
      refine hK _ _ K9 ?_
      have p0f := p0 _ K9
      clear hK K hfk hlk hqk hG K9 hXw hBd hne12 hcm9 p0 p1 K0 K1 K2 K3 hX11 hX0 hBs hXa
      try simp only [Act.put, List.setIfInBounds_toArray, List.set_cons_zero, List.set_cons_succ]
      refine wpF_nil ?_
      generalize World.setCell w9 _ _ = w10 at *
      go_wp2_with fail
      go_roundw
      case rel => exact ⟨3, m + A2.length, _, _, _, by omega, hm2, by go_num, by go_num, HN⟩
      case measure => simp [intOf]
    · rw [show ((3 : Nat) : Int) = 3 from rfl]
      have hV0 := (HS.out.r0.1 (by omega)).1
      have hV1 := (HS.out.r1.1 (by omega)).1
      have hV2 := (HS.out.r2.1 (by omega)).1
      have hBs := HS.out.blk
      have hEr := HS.out.ext
      have hmm : m = A0.length + A1.length + A2.length := by have h := HS.out.many; simp at h; exact h
      have HM := Lib.hid hmm
      have hbA := HBA.out.1.ext hEr
      have hbB := HBA.out.2.ext hEr
      clear HS hmm lA0 lA1 lA2 lD0 lD1 lD2
      have q0 : World.cell? wr ⟨Ba, 0, none⟩ = some x.iV := hbA.cell 0
      have q1 : World.cell? wr ⟨Ba, 1, none⟩ = some x.nV := hbA.cell 1
      have q2 : World.cell? wr ⟨Ba, 2, none⟩ = some x.oV := hbA.cell 2
      have q3 : World.cell? wr ⟨Ba, 3, none⟩ = some pX := hbA.cell 3
      have q4 : World.cell? wr ⟨Ba, 4, none⟩ = some (.slice a0 A0.length d0) := hbA.cell 4
      have q5 : World.cell? wr ⟨Ba, 5, none⟩ = some (.slice a1 A1.length d1) := hbA.cell 5
      have q6 : World.cell? wr ⟨Ba, 6, none⟩ = some (.slice a2 A2.length d2) := hbA.cell 6
      go_wp2_with fail
      refine (HBa.out wr hEr).mono ?_
      rintro e w8 ⟨va, rfl, hva, hX8⟩
      have hX8 : Ext wr w8 := hX8
      clear q0 q1 q2 q3 q4 q5 q6
      replace hbA := hbA.ext hX8
      replace hbB := hbB.ext hX8
      replace hBs := hBs.ext hX8
      replace hEr := hEr.trans hX8
      replace hV0 := hV0.below hX8 (Nat.le_refl _)
      replace hV1 := hV1.below hX8 (Nat.le_refl _)
      replace hV2 := hV2.below hX8 (Nat.le_refl _)
      have q0 : World.cell? w8 ⟨Bb, 0, none⟩ = some y.iV := hbB.cell 0
      have q1 : World.cell? w8 ⟨Bb, 1, none⟩ = some y.nV := hbB.cell 1
      have q2 : World.cell? w8 ⟨Bb, 2, none⟩ = some y.oV := hbB.cell 2
      have q3 : World.cell? w8 ⟨Bb, 3, none⟩ = some qX := hbB.cell 3
      have q4 : World.cell? w8 ⟨Bb, 4, none⟩ = some (.slice b0 D0.length e0) := hbB.cell 4
      have q5 : World.cell? w8 ⟨Bb, 5, none⟩ = some (.slice b1 D1.length e1) := hbB.cell 5
      have q6 : World.cell? w8 ⟨Bb, 6, none⟩ = some (.slice b2 D2.length e2) := hbB.cell 6
      go_wp2_with fail
      refine (HBb.out w8 hEr).mono ?_
      rintro e w9 ⟨vb, rfl, hvb, hX9⟩
      have hX9 : Ext w8 w9 := hX9
      clear q0 q1 q2 q3 q4 q5 q6
      replace hbA := hbA.ext hX9
      replace hBs := hBs.ext hX9
      replace hEr := hEr.trans hX9
      replace hV0 := hV0.below hX9 (Nat.le_refl _)
      replace hV1 := hV1.below hX9 (Nat.le_refl _)
      replace hV2 := hV2.below hX9 (Nat.le_refl _)
      replace hva := hva.ext hX9
      have hbc := HBc.out w9 v0 v1 v2 hV0 hV1 hV2
      have q0 : World.cell? w9 ⟨B6, 0, none⟩ = some x.iV := hBs.cell 0
      have q1 : World.cell? w9 ⟨B6, 1, none⟩ = some x.nV := hBs.cell 1
      have q2 : World.cell? w9 ⟨B6, 2, none⟩ = some x.oV := hBs.cell 2
      have q3 : World.cell? w9 ⟨B6, 3, none⟩ = some pX := hBs.cell 3
      have q4 : World.cell? w9 ⟨B6, 4, none⟩ = some v0 := hBs.cell 4
      have q5 : World.cell? w9 ⟨B6, 5, none⟩ = some v1 := hBs.cell 5
      have q6 : World.cell? w9 ⟨B6, 6, none⟩ = some v2 := hBs.cell 6
      go_wp2_with fail
      refine hbc.mono ?_
      rintro e w10 ⟨vc, rfl, hvc, hX10⟩
      have hX10 : Ext w9 w10 := hX10
      clear q0 q1 q2 q3 q4 q5 q6
      replace hbA := hbA.ext hX10
      replace hEr := hEr.trans hX10
      replace hva := hva.ext hX10
      replace hvb := hvb.ext hX10
      clear hbc hV0 hV1 hV2 hBs hbB hX8 hX9 hX10
      obtain ⟨ra, ca, rfl, fa1, fa2, fa⟩ := hva.form
      obtain ⟨rb, cb, rfl, fb1, fb2, fb⟩ := hvb.form
      obtain ⟨rc, cc, rfl, fc1, fc2, fc⟩ := hvc.form
      have n1 : ((ba.length : Int) != 8) = false := by rw [bne_eq_false_iff_eq, HLen.out.1]; rfl
      have n2 : ((bb.length : Int) != 8) = false := by rw [bne_eq_false_iff_eq, HLen.out.2.1]; rfl
      have n3 : ((bc.length : Int) != 8) = false := by rw [bne_eq_false_iff_eq, HLen.out.2.2]; rfl
      unfold maxLen at fa2 fb2 fc2
      have HFa := Lib.hid fa
      have HFb := Lib.hid fb
      have HFc := Lib.hid fc
      have HbA := Lib.hid hbA
      clear hva hvb hvc fa fb fc hbA
      go_wp2_with fail
      clear n1 n2 n3
      go_loopw [12] (fun i wr => ∃ j : Nat, j ≤ 8 ∧ i = .int .i64 j ∧ Ext w10 wr) (fun i _ => 8 - (intOf i).toNat)
      case atStart => exact ⟨0, by omega, rfl, Ext.refl _⟩
      case round =>
        obtain ⟨j, hj, rfl, hX⟩ := hrel
        by_cases hj8 : j < 8
        · have ja : j < ba.length := by rw [HLen.out.1]; exact hj8
          have jb : j < bb.length := by rw [HLen.out.2.1]; exact hj8
          have jc : j < bc.length := by rw [HLen.out.2.2]; exact hj8
          obtain ⟨b1, o1, h1, c1⟩ := HFa.out j ja
          obtain ⟨b2, o2, h2, c2⟩ := HFb.out j jb
          obtain ⟨b3, o3, h3, c3⟩ := HFc.out j jc
          have hsum := HBoth.out j hj8
          have habs := HAbs2.out j
          rw [hsum] at c3
          clear hsum
          generalize ba[j]?.getD 0 = xa at *
          generalize bb[j]?.getD 0 = xb at *
          subst h1 h2 h3
          have k1 : ∀ W, Ext w10 W → World.cell? W ⟨b1, o1 + j, none⟩ = some (.int .i64 xa) := fun W e => cell_ext c1 _ e
          have k2 : ∀ W, Ext w10 W → World.cell? W ⟨b2, o2 + j, none⟩ = some (.int .i64 xb) := fun W e => cell_ext c2 _ e
          have k3 : ∀ W, Ext w10 W → World.cell? W ⟨b3, o3 + j, none⟩ = some (.int .i64 (xa + xb)) := fun W e => cell_ext c3 _ e
          have mw : IntKind.i64.wrap (xa + xb) = xa + xb := IntWalk.i64_in _ (by omega)
          have hX2 := hX.trans (Ext.drew wr)
          clear c1 c2 c3 habs hX
          go_wp2_with fail
          refine wp_region_S (fun W => Ext w10 W) [(0, true), (1, true), (2, true), (3, true), (4, true), (5, true), (6, true), (7, true), (8, true), (9, true), (10, true), (11, true), (12, true), (13, true)] (by kernel_rfl) (by kernel_rfl) (fun _ _ d _ _ h => by cases d <;> exact h) hX2 ?_
          simp only [pickE, List.getElem?_cons_zero, List.getElem?_cons_succ]
          generalize wr.drew = wd at *
          repeat (first | (refine wpF_pure (by rfl) (fun W hW => by go_simp; with_reducible rfl) ?_; simp only [Act.put, List.setIfInBounds_toArray, List.set_cons_zero, List.set_cons_succ]) | (refine wpF_skip (by rfl) ?_; simp only [Act.put, List.setIfInBounds_toArray, List.set_cons_zero, List.set_cons_succ]))
          refine wpF_nil ?_
          have gne : ((xa + xb) != (xa + xb)) = false := by simp
          clear k1 k2 k3 mw
          go_wp2_with fail
          go_roundw
          case rel => exact ⟨j + 1, by omega, by go_num, hX2⟩
          case measure => simp [intOf]; omega
        · have hEr2 := hEr.trans hX
          have hbA := HbA.out.ext hX
          clear hX HFa HFb HFc hEr HLen HBoth HAbs2 HIn
          have q0 : World.cell? wr ⟨Ba, 0, none⟩ = some x.iV := hbA.cell 0
          have q1 : World.cell? wr ⟨Ba, 1, none⟩ = some x.nV := hbA.cell 1
          have q2 : World.cell? wr ⟨Ba, 2, none⟩ = some x.oV := hbA.cell 2
          have q3 : World.cell? wr ⟨Ba, 3, none⟩ = some pX := hbA.cell 3
          have q4 : World.cell? wr ⟨Ba, 4, none⟩ = some (.slice a0 A0.length d0) := hbA.cell 4
          have q5 : World.cell? wr ⟨Ba, 5, none⟩ = some (.slice a1 A1.length d1) := hbA.cell 5
          have q6 : World.cell? wr ⟨Ba, 6, none⟩ = some (.slice a2 A2.length d2) := hbA.cell 6
          go_wp2_with fail
          refine (HTu.out wr hEr2).mono ?_
          rintro e w11 ⟨rfl, hX11⟩
          have hX11 : Ext wr w11 := hX11
          clear q0 q1 q2 q3 q4 q5 q6
          replace hbA := hbA.ext hX11
          replace hEr2 := hEr2.trans hX11
          have q0 : World.cell? w11 ⟨Ba, 0, none⟩ = some x.iV := hbA.cell 0
          have q1 : World.cell? w11 ⟨Ba, 1, none⟩ = some x.nV := hbA.cell 1
          have q2 : World.cell? w11 ⟨Ba, 2, none⟩ = some x.oV := hbA.cell 2
          have q3 : World.cell? w11 ⟨Ba, 3, none⟩ = some pX := hbA.cell 3
          have q4 : World.cell? w11 ⟨Ba, 4, none⟩ = some (.slice a0 A0.length d0) := hbA.cell 4
          have q5 : World.cell? w11 ⟨Ba, 5, none⟩ = some (.slice a1 A1.length d1) := hbA.cell 5
          have q6 : World.cell? w11 ⟨Ba, 6, none⟩ = some (.slice a2 A2.length d2) := hbA.cell 6
          go_wp2_with fail
          refine (HSt.out w11 hEr2).mono ?_
          rintro e w12 ⟨rfl, hX12⟩
          have hX12 : Ext w11 w12 := hX12
          clear q0 q1 q2 q3 q4 q5 q6
          replace hbA := hbA.ext hX12
          replace hEr2 := hEr2.trans hX12
          have hch := HCh.out w12 hEr2
          have HEE := Lib.hid (HE.out.trans hEr2)
          have q0 : World.cell? w12 ⟨Ba, 0, none⟩ = some x.iV := hbA.cell 0
          have q1 : World.cell? w12 ⟨Ba, 1, none⟩ = some x.nV := hbA.cell 1
          have q2 : World.cell? w12 ⟨Ba, 2, none⟩ = some x.oV := hbA.cell 2
          have q3 : World.cell? w12 ⟨Ba, 3, none⟩ = some pX := hbA.cell 3
          have q4 : World.cell? w12 ⟨Ba, 4, none⟩ = some (.slice a0 A0.length d0) := hbA.cell 4
          have q5 : World.cell? w12 ⟨Ba, 5, none⟩ = some (.slice a1 A1.length d1) := hbA.cell 5
          have q6 : World.cell? w12 ⟨Ba, 6, none⟩ = some (.slice a2 A2.length d2) := hbA.cell 6
          have hs := HSaid.out
          rw [← HM.out] at hs
          obtain ⟨hs1, hs2, hs3⟩ := hs
          clear hbA hX11 hX12 hEr2 HSaid HM
          have hs1' : t2z ≠ 0 ∨ t2z = 0 ∧ t1z = (m : Int) := by
            by_cases h : t2z = 0
            · exact .inr ⟨h, hs1.resolve_left (fun h2 => h2 h)⟩
            · exact .inl h
          have hs3' : cz ≠ 0 ∨ cz = 0 ∧ sz = 0 ∧ t2z = 0 := by
            by_cases h : cz = 0
            · exact .inr ⟨h, hs3.resolve_left (fun h2 => h2 h)⟩
            · exact .inl h
          have hs2' : sz = 0 ∨ sz ≠ 0 ∧ t2z = 27 ∧ t1z = 0 := by
            by_cases h : sz = 0
            · exact .inl h
            · exact .inr ⟨h, hs2.resolve_left h⟩
          clear hs1 hs2 hs3
          rcases hs1' with ha | ⟨ha, ha2⟩
          · have g1 : (t2z != 0) = true := by simpa using ha
            rcases hs2' with hb | ⟨hb, hb2, hb3⟩
            · have g2 : (sz == 0) = true := by simpa using hb
              rcases hs3' with hc | ⟨_, _, hc⟩
              · have g3 : (cz != 0) = true := by simpa using hc
                clear ha hb hc
                go_wp2_with fail
                refine hch.mono ?_
                rintro e w13 ⟨rfl, hX13⟩
                have HF := Lib.hid (HEE.out.trans hX13)
                clear hX13 hch q0 q1 q2 q3 q4 q5 q6
                go_wp2_with fail
                exact HP.out _ _ (by first | rfl | simp) HF.out
              · exact absurd hc ha
            · have g2 : (sz == 0) = false := by simpa using hb
              rcases hs3' with hc | ⟨_, hc, _⟩
              · have g3 : (cz != 0) = true := by simpa using hc
                subst hb2 hb3
                clear ha hb hc
                go_wp2_with fail
                refine hch.mono ?_
                rintro e w13 ⟨rfl, hX13⟩
                have HF := Lib.hid (HEE.out.trans hX13)
                clear hX13 hch q0 q1 q2 q3 q4 q5 q6
                go_wp2_with fail
                exact HP.out _ _ (by first | rfl | simp) HF.out
              · exact absurd hc hb
          · subst ha ha2
            have g0 : ((m : Int) == (m : Int)) = true := by simp
            rcases hs2' with hb | ⟨hb, hb2, hb3⟩
            · have g2 : (sz == 0) = true := by simpa using hb
              clear hb
              rcases hs3' with hc | ⟨hc, _, _⟩
              · have g3 : (cz != 0) = true := by simpa using hc
                clear hc
                go_wp2_with fail
                refine hch.mono ?_
                rintro e w13 ⟨rfl, hX13⟩
                have HF := Lib.hid (HEE.out.trans hX13)
                clear hX13 hch q0 q1 q2 q3 q4 q5 q6
                go_wp2_with fail
                exact HP.out _ _ (by first | rfl | simp) HF.out
              · have g3 : (cz != 0) = false := by simpa using hc
                clear hc
                go_wp2_with fail
                refine hch.mono ?_
                rintro e w13 ⟨rfl, hX13⟩
                have HF := Lib.hid (HEE.out.trans hX13)
                clear hX13 hch q0 q1 q2 q3 q4 q5 q6
                go_wp2_with fail
                exact HP.out _ _ (by first | rfl | simp) HF.out
            · cases hb2

end Go.Proofs.Ytmddlhfahfelpaa

namespace Go.Proofs.Ytmddlhfahfelpaa
open Go.RowKit

def cmdTy : Ty := .st (i64x 8 (.pair (.st (i64x 2 .unit)) (.pair (.st (i64x 2 .unit)) (.pair (.st (i64x 2 .unit)) .unit))))
def imageTy : Ty := .st (.pair graphTy (.pair (.sl (.int .i64)) (.pair (.st (.pair (.sl cmdTy) (.pair (.sl cmdTy) (.pair (.sl cmdTy) .unit)))) .unit)))

end Go.Proofs.Ytmddlhfahfelpaa
