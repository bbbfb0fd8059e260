/- The walk of the law ImageBack. -/
import Derived.Test.YtdhdbmfipkppiaaEqd
import Derived.Test.YtdhdbmfipkppiaaTkb
import Derived.Test.YtdhdbmfipkppiaaTkc
import Derived.Test.YtdhdbmfipkppiaaNsb
import Derived.Test.YtdhdbmfipkppiaaImd
import Derived.Test.YtdhdbmfipkppiaaIml
import Derived.BigRegion
import Derived.Laws.BitsAllLaws
namespace Go.Proofs.Ytdhdbmfipkppiaa
set_option linter.unusedSimpArgs false
set_option linter.unusedVariables false
set_option linter.unnecessarySimpa false
set_option maxRecDepth 10000
open Go.RowKit

theorem img_oneB {w0 W : World} {base : Nat} {x : Gr} {pX t0 t1 t2 : Value} {pl : List Int} {L0 L1 L2 : List Isa.Cm} (hL : GrL w0 base W x) (hp : Ints .i64 w0 pX pl) (h0 : Isa.Cmds w0 t0 L0) (h1 : Isa.Cmds w0 t1 L1) (h2 : Isa.Cmds w0 t2 L2) :
    Array.all #[x.iV, x.nV, x.oV, pX, t0, t1, t2] (·.oneCell') = true := by
  obtain ⟨_, _, e1, _⟩ := hL.ins.form
  obtain ⟨_, _, e2, _⟩ := row_of_own hL.own
  obtain ⟨_, _, e3, _⟩ := hL.outs.form
  obtain ⟨_, _, e4, _⟩ := hp.form
  obtain ⟨_, _, e5, _⟩ := id (show Row _ _ _ _ _ from h0)
  obtain ⟨_, _, e6, _⟩ := id (show Row _ _ _ _ _ from h1)
  obtain ⟨_, _, e7, _⟩ := id (show Row _ _ _ _ _ from h2)
  rw [e1, e2, e3, e4, e5, e6, e7]
  simp [Value.oneCell']
theorem img_oneA {W : World} {x : Gr} {pX t0 t1 t2 : Value} {pl : List Int} {L0 L1 L2 : List Isa.Cm} (hL : GrAt W x) (hp : Ints .i64 W pX pl) (h0 : Isa.Cmds W t0 L0) (h1 : Isa.Cmds W t1 L1) (h2 : Isa.Cmds W t2 L2) :
    Array.all #[x.iV, x.nV, x.oV, pX, t0, t1, t2] (·.oneCell') = true := by
  obtain ⟨_, _, e1, _⟩ := hL.ins
  obtain ⟨_, _, e2, _⟩ := hL.nodes
  obtain ⟨_, _, e3, _⟩ := hL.outs
  obtain ⟨_, _, e4, _⟩ := hp
  obtain ⟨_, _, e5, _⟩ := id (show Row _ _ _ _ _ from h0)
  obtain ⟨_, _, e6, _⟩ := id (show Row _ _ _ _ _ from h1)
  obtain ⟨_, _, e7, _⟩ := id (show Row _ _ _ _ _ from h2)
  rw [e1, e2, e3, e4, e5, e6, e7]
  simp [Value.oneCell']

theorem u8_xorT (x y : Int) (h1 : 0 ≤ x) (h2 : x < 256) (h3 : 0 ≤ y) (h4 : y < 256) : bits .xor .u8 x y = ((x.toNat ^^^ y.toNat : Nat) : Int) := by
  obtain ⟨a, rfl⟩ := Int.eq_ofNat_of_zero_le h1
  obtain ⟨b, rfl⟩ := Int.eq_ofNat_of_zero_le h3
  exact u8_xor_nat a b (by omega) (by omega)

def BackP (w : World) (e : Ending) (w' : World) : Prop := e = .returned (.bool true) ∧ Below w.heap.size w w'

set_option maxRecDepth 20000 in
set_option maxHeartbeats 12800000 in
theorem imageBack_calls (g : Gr) (pV s0 s1 s2 : Value) (pl : List Int) (L0 L1 L2 : List Isa.Cm) (at_ b0 b1 b2 b3 : Int) (w : World) (hg : GrIn w g) (hp : Ints .i64 w pV pl) (hpk : ∀ z ∈ pl, InK .i64 z)
    (hs0 : Isa.Cmds w s0 L0) (hs1 : Isa.Cmds w s1 L1) (hs2 : Isa.Cmds w s2 L2) (hat : -9223372036854775808 ≤ at_ ∧ at_ ≤ 9223372036854775807) (k0 : 0 ≤ b0 ∧ b0 ≤ 255) (k1 : 0 ≤ b1 ∧ b1 ≤ 255) (k2 : 0 ≤ b2 ∧ b2 ≤ 255) (k3 : 0 ≤ b3 ∧ b3 ≤ 255) :
    Calls Try.prog 13 #[.agg #[g.iV, g.nV, g.oV, pV, s0, s1, s2], .int .i64 at_, .agg #[.int .u8 b0, .int .u8 b1, .int .u8 b2, .int .u8 b3]] w (BackP w) := by
  have HP : Hid (∀ e w', e = .returned (.bool true) → Ext w w' → BackP w e w') := fun e w' h1 h2 => ⟨h1, h2⟩
  generalize BackP w = PP at *
  have hE1 := (ext_alloc w (.cells #[g.iV, g.nV, g.oV, pV, s0, s1, s2] 54)).trans (ext_alloc _ (.cells #[.int .u8 b0, .int .u8 b1, .int .u8 b2, .int .u8 b3] 78))
  have hb1 := (Blk.new w #[g.iV, g.nV, g.oV, pV, s0, s1, s2] 54).ext (ext_alloc _ (.cells #[.int .u8 b0, .int .u8 b1, .int .u8 b2, .int .u8 b3] 78))
  have hb2 := Blk.new (w.alloc (.cells #[g.iV, g.nV, g.oV, pV, s0, s1, s2] 54)) #[.int .u8 b0, .int .u8 b1, .int .u8 b2, .int .u8 b3] 78
  rw [show (w.alloc (.cells #[g.iV, g.nV, g.oV, pV, s0, s1, s2] 54)).heap.size = w.heap.size + 1 from by simp] at hb2
  have hla := fun W (e : Ext w W) => less09_calls g pV s0 s1 s2 pl L0 L1 L2 w W hg hp hs0 hs1 hs2 e
  unfold LessJPost at hla
  have hsh := fun W => shown09_calls W
  have HPK := Lib.hid hpk
  have HBY : Hid (Bytes [b0, b1, b2, b3]) := by show Bytes _; intro z hz; simp at hz; omega
  clear hpk k0 k1 k2 k3
  go_enter Try.func13, Try.ntmps13
  go_upto_region 1 with fail
  generalize World.alloc (World.alloc w _) _ = w1 at *
  go_upto_region 2 with (go_at_call 33; refine (hsh _).mono ?_; rintro e w2 ⟨rfl, h2⟩)
  have h2 : Ext w1 w2 := h2
  replace hb1 := hb1.ext h2
  replace hb2 := hb2.ext h2
  replace hE1 := hE1.trans h2
  have hsz2 : w.heap.size + 1 < w2.heap.size := hb2.lt
  clear hsh h2
  have q0 : World.cell? w2 ⟨w.heap.size, 0, none⟩ = some (g.iV) := hb1.cell 0
  have q1 : World.cell? w2 ⟨w.heap.size, 1, none⟩ = some (g.nV) := hb1.cell 1
  have q2 : World.cell? w2 ⟨w.heap.size, 2, none⟩ = some (g.oV) := hb1.cell 2
  have q3 : World.cell? w2 ⟨w.heap.size, 3, none⟩ = some (pV) := hb1.cell 3
  have q4 : World.cell? w2 ⟨w.heap.size, 4, none⟩ = some (s0) := hb1.cell 4
  have q5 : World.cell? w2 ⟨w.heap.size, 5, none⟩ = some (s1) := hb1.cell 5
  have q6 : World.cell? w2 ⟨w.heap.size, 6, none⟩ = some (s2) := hb1.cell 6
  have hc := hla _ hE1
  clear hla
  go_wp2_with fail
  refine hc.mono ?_
  rintro e w3 ⟨x, pX, t0, t1, t2, pl', rfl, hL, hpx, hpm, hpl, hT0, hT1, hT2, h3⟩
  clear q0 q1 q2 q3 q4 q5 q6 hc
  replace hb1 := hb1.ext h3
  replace hb2 := hb2.ext h3
  have hE3 := hE1.trans h3
  have HO := Lib.hid (img_oneB hL hpx hT0 hT1 hT2)
  have hL4 := (hL.setRow (b := w.heap.size) (Nat.le_refl _) (by omega) #[x.iV, x.nV, x.oV, pX, t0, t1, t2]).at
  have hb4 : Blk (w3.setRow w.heap.size #[x.iV, x.nV, x.oV, pX, t0, t1, t2]) w.heap.size #[x.iV, x.nV, x.oV, pX, t0, t1, t2] 54 := setRow_heap _ _ _ _ _ _ hb1
  have hc4 := hb2.grown (setRow_grown w3 w.heap.size #[x.iV, x.nV, x.oV, pX, t0, t1, t2]) (by simp)
  have hE4 : Ext w (w3.setRow w.heap.size #[x.iV, x.nV, x.oV, pX, t0, t1, t2]) := ext_setRow hE3 _ (Nat.le_refl _)
  clear hL hE1 hE3 hb2 h3 hsz2
  go_upto_region 3 with (refine wpList_store_row rfl 54 _ _ rfl w.heap.size #[x.iV, x.nV, x.oV, pX, t0, t1, t2] rfl rfl 54 _ hb1 (by kernel_rfl) rfl HO.out ?_)
  clear hb1 HO
  generalize World.setRow w3 _ _ = w4 at *
  have l0 : (L0.take 300).length ≤ 300 := by rw [List.length_take]; omega
  have l1 : (L1.take 300).length ≤ 300 := by rw [List.length_take]; omega
  have l2 : (L2.take 300).length ≤ 300 := by rw [List.length_take]; omega
  generalize L0.take 300 = A0 at *
  generalize L1.take 300 = A1 at *
  generalize L2.take 300 = A2 at *
  have hpxx := hpx.ext hE4
  have hTT0 := hT0.below hE4 (Nat.le_refl _)
  have hTT1 := hT1.below hE4 (Nat.le_refl _)
  have hTT2 := hT2.below hE4 (Nat.le_refl _)
  have hput := iput_calls x pX t0 t1 t2 pl' A0 A1 A2 w4 hL4 hpxx (fun z hz => HPK.out z (hpm z hz)) hTT0 hTT1 hTT2 l0 l1 l2
  unfold IPutPost at hput
  have hia : ∀ n ∈ x.nodes, NdIn n := fun n hn => (hL4.each n hn).isIn
  clear hpx hT0 hT1 hT2 hpm hpl
  have q0 : World.cell? w4 ⟨w.heap.size, 0, none⟩ = some (x.iV) := hb4.cell 0
  have q1 : World.cell? w4 ⟨w.heap.size, 1, none⟩ = some (x.nV) := hb4.cell 1
  have q2 : World.cell? w4 ⟨w.heap.size, 2, none⟩ = some (x.oV) := hb4.cell 2
  have q3 : World.cell? w4 ⟨w.heap.size, 3, none⟩ = some (pX) := hb4.cell 3
  have q4 : World.cell? w4 ⟨w.heap.size, 4, none⟩ = some (t0) := hb4.cell 4
  have q5 : World.cell? w4 ⟨w.heap.size, 5, none⟩ = some (t1) := hb4.cell 5
  have q6 : World.cell? w4 ⟨w.heap.size, 6, none⟩ = some (t2) := hb4.cell 6
  go_wp2_with fail
  refine hput.mono ?_
  rintro e w5 ⟨hA0, hA1, hE5⟩
  have hE5 : Ext w4 w5 := hE5
  clear q0 q1 q2 q3 q4 q5 q6 hput
  by_cases hz : mayI x pl' A0 A1 A2 = 0
  case neg =>
    obtain rfl := hA1 hz
    have hnz : (mayI x pl' A0 A1 A2 != 0) = true := by simpa using hz
    generalize mayI x pl' A0 A1 A2 = za at *
    have HH := Lib.hid (hE4.trans hE5)
    clear hA0 hA1 hz hE4 hE5 hb4 hc4
    go_wp2_with fail
    exact HP.out _ _ rfl HH.out
  obtain ⟨va, rfl, hva⟩ := hA0 hz
  clear hA0 hA1
  have HSB : Hid (Bytes (seal_ (imgB x pl' A0 A1 A2))) := bytes_seal (img_bytes x A0 A1 A2 (fits_range (mayI_ok hz).2.1).2)
  have HSL : Hid ((seal_ (imgB x pl' A0 A1 A2)).length ≤ 90004 ∧ 4 ≤ (seal_ (imgB x pl' A0 A1 A2)).length) := by
    show _ ∧ _
    have h1 : (seal_ (imgB x pl' A0 A1 A2)).length = (imgB x pl' A0 A1 A2).length + 4 := by simp [seal_, le4_length]
    have h2 := mayI_ok hz
    have h3 := (fits_range h2.2.1).1
    have h4 := (vals_ok h2.1)
    have h5 := stB_le (encG x.c ++ pl'.flatMap plB) A0 A1 A2 3 (by
      have := encG_le h2.1 hia
      have := h4.len
      have := h4.il
      have := h4.nl
      rw [List.length_append, plB_len]
      omega) l0 l1 l2
    have h6 : (imgB x pl' A0 A1 A2).length ≤ 90000 := h5
    omega
  have HT1 := Lib.hid (takeI_img hz hia)
  have HT2 := Lib.hid (takeI_more hz hia)
  have HT3 : Hid (∀ (by_ : List Int) (q : Nat), Bytes by_ → by_.length ≤ 4 → q + by_.length ≤ (seal_ (imgB x pl' A0 A1 A2)).length → takeI (xorL (seal_ (imgB x pl' A0 A1 A2)) (burst (seal_ (imgB x pl' A0 A1 A2)).length q by_)) = if anyNZ by_ = true then none else some (x.c, pl', [A0, A1, A2])) := fun by_ q h1 h2 h3 => takeI_burst hz hia h1 h2 h3 HSB.out
  generalize seal_ (imgB x pl' A0 A1 A2) = sa at *
  have HVA := Lib.hid (show w5.ownsRow w4.heap.size 5 1 va sa.length (sa.map (.int .u8)) from hva)
  have HL5 := Lib.hid (And.intro (hL4.ext hE5) (And.intro (hpxx.ext hE5) (And.intro (hTT0.below hE5 (Nat.le_refl _)) (And.intro (hTT1.below hE5 (Nat.le_refl _)) (hTT2.below hE5 (Nat.le_refl _))))))
  have hB5 := hb4.ext hE5
  have hC5 := hc4.ext hE5
  have HE := Lib.hid (hE4.trans hE5)
  have hs45 := hE4.size
  obtain ⟨gA, cA, rfl, hsc1, hsc2⟩ : ∃ gA cA, va = .slice (some ⟨gA, 0, none⟩) sa.length cA ∧ sa.length ≤ cA ∧ cA ≤ maxLen := by
    have h4 := HSL.out.2
    rcases hva.2 with ⟨rfl, h0⟩ | ⟨gA, cap, cur, rfl, _, _, h5, h6, _⟩
    · omega
    · exact ⟨gA, cap, rfl, h5, h6⟩
  have hgA := HVA.out.lt gA rfl
  have HGA : Hid (w.heap.size ≤ gA ∧ gA < w5.heap.size ∧ w.heap.size + 1 < w4.heap.size ∧ w4.heap.size ≤ gA) := ⟨by omega, hgA.2, hc4.lt, hgA.1⟩
  unfold maxLen at hsc2
  clear hL4 hpxx hTT0 hTT1 hTT2 hE4 hE5 hb4 hc4 hva hia hz l0 l1 l2 hgA hs45
  have HB5 := Lib.hid hB5
  have HC5 := Lib.hid hC5
  clear hB5 hC5
  go_wp2_with (at_builtin; refine stopped ?_)
  refine wpList_append_fresh rfl rfl elem_u8 rfl (ints_of_own HVA.out) rfl (one_ints _ _) (by have := HSL.out; omega) (by have := HSL.out; omega) ?_
  intro v6 w6 hown6 hE6
  have hE6 : Ext w5 w6 := hE6
  have htk := itake_calls v6 sa w6 (ints_of_own hown6) HSB.out (by have := HSL.out; omega)
  unfold TakeIPost at htk
  clear hown6
  go_wp2_with fail
  refine htk.mono ?_
  rintro e w7 ⟨_, hyes, hE7⟩
  obtain ⟨y, qX, u0, u1, u2, hyc, rfl, hgy, hpy, hU0, hU1, hU2⟩ := hyes _ _ _ HT1.out
  clear htk hyes
  simp only [List.getElem?_cons_zero, List.getElem?_cons_succ, Option.getD_some] at hU0 hU1 hU2
  have hz7 := Blk.new w7 #[.slice none 0 0, .slice none 0 0, .slice none 0 0, .slice none 0 0, .slice none 0 0, .slice none 0 0, .slice none 0 0] 54
  have hb10 : Blk ((w7.alloc (.cells #[.slice none 0 0, .slice none 0 0, .slice none 0 0, .slice none 0 0, .slice none 0 0, .slice none 0 0, .slice none 0 0] 54)).setRow w7.heap.size #[y.iV, y.nV, y.oV, qX, u0, u1, u2]) w7.heap.size #[y.iV, y.nV, y.oV, qX, u0, u1, u2] 54 := setRow_heap _ _ _ _ _ _ hz7
  have hQ : Ext w7 ((w7.alloc (.cells #[.slice none 0 0, .slice none 0 0, .slice none 0 0, .slice none 0 0, .slice none 0 0, .slice none 0 0, .slice none 0 0] 54)).setRow w7.heap.size #[y.iV, y.nV, y.oV, qX, u0, u1, u2]) := ext_setRow (ext_alloc _ _) _ (Nat.le_refl _)
  have HO := Lib.hid (img_oneA hgy hpy hU0 hU1 hU2)
  go_upto_region 7 with (refine wpList_store_row rfl 54 _ _ rfl w7.heap.size #[y.iV, y.nV, y.oV, qX, u0, u1, u2] rfl rfl 54 _ hz7 (by kernel_rfl) rfl HO.out ?_)
  have hE8 := (hE6.trans hE7).trans hQ
  have HK := Lib.hid (And.intro (hgy.ext hQ) (And.intro (hpy.ext hQ) (And.intro (hU0.below hQ (Nat.le_refl _)) (And.intro (hU1.below hQ (Nat.le_refl _)) (hU2.below hQ (Nat.le_refl _))))))
  clear hz7 hQ HO hgy hpy hU0 hU1 hU2 hE6 hE7
  generalize World.setRow (World.alloc w7 _) _ _ = w8 at *
  generalize w7.heap.size = b10 at *
  have hsame := imageSame_calls y x qX u0 u1 u2 pX t0 t1 t2 pl' pl' A0 A1 A2 A0 A1 A2 w8 HK.out.1 (HL5.out.1.ext hE8) HK.out.2.1 (HL5.out.2.1.ext hE8) HK.out.2.2.1 HK.out.2.2.2.1 HK.out.2.2.2.2 (HL5.out.2.2.1.below hE8 (Nat.le_refl _)) (HL5.out.2.2.2.1.below hE8 (Nat.le_refl _)) (HL5.out.2.2.2.2.below hE8 (Nat.le_refl _))
  unfold SamePost at hsame
  rw [(sameI_iff y pl' A0 A1 A2 x pl' A0 A1 A2).2 ⟨hyc, rfl, rfl, rfl, rfl⟩] at hsame
  have hb3 := HB5.out.ext hE8
  have q0 : World.cell? w8 ⟨b10, 0, none⟩ = some (y.iV) := hb10.cell 0
  have q1 : World.cell? w8 ⟨b10, 1, none⟩ = some (y.nV) := hb10.cell 1
  have q2 : World.cell? w8 ⟨b10, 2, none⟩ = some (y.oV) := hb10.cell 2
  have q3 : World.cell? w8 ⟨b10, 3, none⟩ = some (qX) := hb10.cell 3
  have q4 : World.cell? w8 ⟨b10, 4, none⟩ = some (u0) := hb10.cell 4
  have q5 : World.cell? w8 ⟨b10, 5, none⟩ = some (u1) := hb10.cell 5
  have q6 : World.cell? w8 ⟨b10, 6, none⟩ = some (u2) := hb10.cell 6
  have m0 : World.cell? w8 ⟨w.heap.size, 0, none⟩ = some (x.iV) := hb3.cell 0
  have m1 : World.cell? w8 ⟨w.heap.size, 1, none⟩ = some (x.nV) := hb3.cell 1
  have m2 : World.cell? w8 ⟨w.heap.size, 2, none⟩ = some (x.oV) := hb3.cell 2
  have m3 : World.cell? w8 ⟨w.heap.size, 3, none⟩ = some (pX) := hb3.cell 3
  have m4 : World.cell? w8 ⟨w.heap.size, 4, none⟩ = some (t0) := hb3.cell 4
  have m5 : World.cell? w8 ⟨w.heap.size, 5, none⟩ = some (t1) := hb3.cell 5
  have m6 : World.cell? w8 ⟨w.heap.size, 6, none⟩ = some (t2) := hb3.cell 6
  go_wp2_with fail
  refine hsame.mono ?_
  rintro e w9 ⟨rfl, hE9⟩
  clear q0 q1 q2 q3 q4 q5 q6 m0 m1 m2 m3 m4 m5 m6 hsame hb3 hyc
  replace hb10 := hb10.ext hE9
  have HK9 := Lib.hid (And.intro (HK.out.2.2.1.below hE9 (Nat.le_refl _)) (And.intro (HK.out.2.2.2.1.below hE9 (Nat.le_refl _)) (HK.out.2.2.2.2.below hE9 (Nat.le_refl _))))
  have hE59 := hE8.trans hE9
  clear HK hE8 hE9
  have HB10 := Lib.hid hb10
  clear hb10
  go_wp2_with (at_builtin; refine stopped ?_)
  refine wpList_append_fresh rfl rfl elem_u8 rfl ((ints_of_own HVA.out).ext hE59) rfl (one_ints _ _) (by have := HSL.out; omega) (by have := HSL.out; omega) ?_
  intro v10 w10 hown10 hE10
  have hone0 : ∀ u ∈ #[Value.int .u8 0].toList, u.oneCell' = true := by intro u hu; simp at hu; subst hu; rfl
  have hnew := row_new w10 #[.int .u8 0] 5 1 1 rfl (by decide)
  have hownA := World.ownsRow.alloc hown10 (.cells #[.int .u8 0] 5)
  have hEA : Ext w9 (w10.alloc (.cells #[.int .u8 0] 5)) := Ext.trans (show Ext w9 w10 from hE10) (ext_alloc w10 _)
  have hbase := hEA.size
  go_wp2_with (at_builtin; refine stopped ?_)
  refine wpList_append_row rfl rfl elem_u8 hownA rfl hnew rfl hone0 (by have := HSL.out; omega) (by have := HSL.out; omega) hbase ?_
  intro v11 w11 ho11 hg11 _
  have hE11 : Ext w9 w11 := Below.grown hEA hg11 hbase (fun q hq => (hownA.lt q hq).1)
  have hi11 : Ints .u8 w11 v11 (sa ++ [0]) := by
    have h := row_of_own ho11
    show Row _ _ _ _ _
    rw [List.length_append, List.map_append]
    exact h
  have htk := itake_calls v11 (sa ++ [0]) w11 hi11 (fun z hz => by
    rcases List.mem_append.1 hz with h | h
    · exact HSB.out z h
    · obtain rfl := List.mem_singleton.1 h; omega) (by rw [List.length_append]; have := HSL.out; simp; omega)
  unfold TakeIPost at htk
  clear hown10 hone0 hnew hownA hEA hbase ho11 hg11 hi11 hE10
  go_wp2_with fail
  refine htk.mono ?_
  rintro e w12 ⟨hno, _, hE12⟩
  obtain rfl := hno HT2.out
  clear htk hno
  have hz7 := Blk.new w12 #[.slice none 0 0, .slice none 0 0, .slice none 0 0, .slice none 0 0, .slice none 0 0, .slice none 0 0, .slice none 0 0] 54
  have hQ : Ext w12 ((w12.alloc (.cells #[.slice none 0 0, .slice none 0 0, .slice none 0 0, .slice none 0 0, .slice none 0 0, .slice none 0 0, .slice none 0 0] 54)).setRow w12.heap.size #[.slice none 0 0, .slice none 0 0, .slice none 0 0, .slice none 0 0, .slice none 0 0, .slice none 0 0, .slice none 0 0]) := ext_setRow (ext_alloc _ _) _ (Nat.le_refl _)
  go_upto_region 9 with (refine wpList_store_row rfl 54 _ _ rfl w12.heap.size #[.slice none 0 0, .slice none 0 0, .slice none 0 0, .slice none 0 0, .slice none 0 0, .slice none 0 0, .slice none 0 0] rfl rfl 54 _ hz7 (by kernel_rfl) rfl (by simp [Value.oneCell']) ?_)
  have hE913 := (hE11.trans hE12).trans hQ
  clear hz7 hQ hE11 hE12
  generalize World.setRow (World.alloc w12 _) _ _ = w13 at *
  generalize w12.heap.size = b13 at *
  have HX59 := Lib.hid hE59
  have HXC := Lib.hid hE913
  clear hE59 hE913
  have HT0 := Lib.hid (fun W (e : Ext w9 W) => Isa.same_calls u0 t0 A0 A0 W (HK9.out.1.below e (Nat.le_refl _)) (HL5.out.2.2.1.below (HX59.out.trans e) (Nat.le_refl _)))
  have HTT1 := Lib.hid (fun W (e : Ext w9 W) => Isa.same_calls u1 t1 A1 A1 W (HK9.out.2.1.below e (Nat.le_refl _)) (HL5.out.2.2.2.1.below (HX59.out.trans e) (Nat.le_refl _)))
  have HTT2 := Lib.hid (fun W (e : Ext w9 W) => Isa.same_calls u2 t2 A2 A2 W (HK9.out.2.2.below e (Nat.le_refl _)) (HL5.out.2.2.2.2.below (HX59.out.trans e) (Nat.le_refl _)))
  go_wp2_with fail
  go_loopw [15] (fun i wr => ∃ k : Nat, k ≤ 3 ∧ i = .int .i64 k ∧ Hid (Ext w9 wr)) (fun i _ => 3 - (intOf i).toNat)
  case atStart => exact ⟨0, by omega, rfl, HXC⟩
  case round =>
    obtain ⟨k, hk, rfl, HX⟩ := hrel
    rcases (by omega : k = 0 ∨ k = 1 ∨ k = 2 ∨ k = 3) with rfl | rfl | rfl | rfl
    · have c1 : ∀ W, Ext w9 W → World.cell? W ⟨b10, 4, none⟩ = some u0 := fun W e => (HB10.out.ext e).cell 4
      have c2 : ∀ W, Ext w9 W → World.cell? W ⟨w.heap.size, 4, none⟩ = some t0 := fun W e => (HB5.out.ext (HX59.out.trans e)).cell 4
      have hXd := HX.out.trans (Ext.drew wr)
      go_wp2_with fail
      refine wp_region_S (fun W => Ext w9 W) [(0, true), (1, true), (2, true), (3, true), (4, true), (5, true), (6, true), (7, true), (8, false), (9, true)] (by kernel_rfl) (by kernel_rfl) (fun _ _ d _ _ h => by cases d <;> exact h) hXd ?_
      simp only [pickE, List.getElem?_cons_zero, List.getElem?_cons_succ]
      generalize wr.drew = v0 at *
      repeat (first | (refine wpF_pure (by rfl) (fun W hW => by go_simp; with_reducible rfl) ?_; simp only [Act.put, List.setIfInBounds_toArray, List.set_cons_zero, List.set_cons_succ]) | (refine wpF_skip (by rfl) ?_; simp only [Act.put, List.setIfInBounds_toArray, List.set_cons_zero, List.set_cons_succ]))
      refine wpF_step (by rfl) (fun K hK => ?_)
      go_simp
      refine (HT0.out v0 hXd).mono ?_
      rintro e v1 ⟨rfl, hX1⟩
      have hX1 : Ext v0 v1 := hX1
      have HX1 := Lib.hid (hXd.trans hX1)
      refine hK _ _ HX1.out ?_
      clear hK K hX1
      try rw [decide_eq_true (rfl : A0 = A0)]
      try simp only [decide_true]
      try simp only [Act.put, List.setIfInBounds_toArray, List.set_cons_zero, List.set_cons_succ]
      repeat (first | (refine wpF_pure (by rfl) (fun W hW => by go_simp; with_reducible rfl) ?_; simp only [Act.put, List.setIfInBounds_toArray, List.set_cons_zero, List.set_cons_succ]) | (refine wpF_skip (by rfl) ?_; simp only [Act.put, List.setIfInBounds_toArray, List.set_cons_zero, List.set_cons_succ]))
      refine wpF_nil ?_
      clear c1 c2 hXd
      go_wp2_with fail
      go_roundw
      case rel => exact ⟨1, by omega, by go_num, HX1⟩
      case measure => simp [intOf]
    · have c1 : ∀ W, Ext w9 W → World.cell? W ⟨b10, 5, none⟩ = some u1 := fun W e => (HB10.out.ext e).cell 5
      have c2 : ∀ W, Ext w9 W → World.cell? W ⟨w.heap.size, 5, none⟩ = some t1 := fun W e => (HB5.out.ext (HX59.out.trans e)).cell 5
      have hXd := HX.out.trans (Ext.drew wr)
      go_wp2_with fail
      refine wp_region_S (fun W => Ext w9 W) [(0, true), (1, true), (2, true), (3, true), (4, true), (5, true), (6, true), (7, true), (8, false), (9, true)] (by kernel_rfl) (by kernel_rfl) (fun _ _ d _ _ h => by cases d <;> exact h) hXd ?_
      simp only [pickE, List.getElem?_cons_zero, List.getElem?_cons_succ]
      generalize wr.drew = v0 at *
      repeat (first | (refine wpF_pure (by rfl) (fun W hW => by go_simp; with_reducible rfl) ?_; simp only [Act.put, List.setIfInBounds_toArray, List.set_cons_zero, List.set_cons_succ]) | (refine wpF_skip (by rfl) ?_; simp only [Act.put, List.setIfInBounds_toArray, List.set_cons_zero, List.set_cons_succ]))
      refine wpF_step (by rfl) (fun K hK => ?_)
      go_simp
      refine (HTT1.out v0 hXd).mono ?_
      rintro e v1 ⟨rfl, hX1⟩
      have hX1 : Ext v0 v1 := hX1
      have HX1 := Lib.hid (hXd.trans hX1)
      refine hK _ _ HX1.out ?_
      clear hK K hX1
      try rw [decide_eq_true (rfl : A1 = A1)]
      try simp only [decide_true]
      try simp only [Act.put, List.setIfInBounds_toArray, List.set_cons_zero, List.set_cons_succ]
      repeat (first | (refine wpF_pure (by rfl) (fun W hW => by go_simp; with_reducible rfl) ?_; simp only [Act.put, List.setIfInBounds_toArray, List.set_cons_zero, List.set_cons_succ]) | (refine wpF_skip (by rfl) ?_; simp only [Act.put, List.setIfInBounds_toArray, List.set_cons_zero, List.set_cons_succ]))
      refine wpF_nil ?_
      clear c1 c2 hXd
      go_wp2_with fail
      go_roundw
      case rel => exact ⟨2, by omega, by go_num, HX1⟩
      case measure => simp [intOf]
    · have c1 : ∀ W, Ext w9 W → World.cell? W ⟨b10, 6, none⟩ = some u2 := fun W e => (HB10.out.ext e).cell 6
      have c2 : ∀ W, Ext w9 W → World.cell? W ⟨w.heap.size, 6, none⟩ = some t2 := fun W e => (HB5.out.ext (HX59.out.trans e)).cell 6
      have hXd := HX.out.trans (Ext.drew wr)
      go_wp2_with fail
      refine wp_region_S (fun W => Ext w9 W) [(0, true), (1, true), (2, true), (3, true), (4, true), (5, true), (6, true), (7, true), (8, false), (9, true)] (by kernel_rfl) (by kernel_rfl) (fun _ _ d _ _ h => by cases d <;> exact h) hXd ?_
      simp only [pickE, List.getElem?_cons_zero, List.getElem?_cons_succ]
      generalize wr.drew = v0 at *
      repeat (first | (refine wpF_pure (by rfl) (fun W hW => by go_simp; with_reducible rfl) ?_; simp only [Act.put, List.setIfInBounds_toArray, List.set_cons_zero, List.set_cons_succ]) | (refine wpF_skip (by rfl) ?_; simp only [Act.put, List.setIfInBounds_toArray, List.set_cons_zero, List.set_cons_succ]))
      refine wpF_step (by rfl) (fun K hK => ?_)
      go_simp
      refine (HTT2.out v0 hXd).mono ?_
      rintro e v1 ⟨rfl, hX1⟩
      have hX1 : Ext v0 v1 := hX1
      have HX1 := Lib.hid (hXd.trans hX1)
      refine hK _ _ HX1.out ?_
      clear hK K hX1
      try rw [decide_eq_true (rfl : A2 = A2)]
      try simp only [decide_true]
      try simp only [Act.put, List.setIfInBounds_toArray, List.set_cons_zero, List.set_cons_succ]
      repeat (first | (refine wpF_pure (by rfl) (fun W hW => by go_simp; with_reducible rfl) ?_; simp only [Act.put, List.setIfInBounds_toArray, List.set_cons_zero, List.set_cons_succ]) | (refine wpF_skip (by rfl) ?_; simp only [Act.put, List.setIfInBounds_toArray, List.set_cons_zero, List.set_cons_succ]))
      refine wpF_nil ?_
      clear c1 c2 hXd
      go_wp2_with fail
      go_roundw
      case rel => exact ⟨3, by omega, by go_num, HX1⟩
      case measure => simp [intOf]
    · clear HT0 HTT1 HTT2 HK9 HB10 HT2 HT1
      have hXw : Ext w wr := (HE.out.trans HX59.out).trans HX.out
      have hX5 : Ext w5 wr := HX59.out.trans HX.out
      have hown := World.ownsRow.kept (row := none) HVA.out (grown_of_ext hX5) (by simp [Value.ownBlock])
      have hcb := HC5.out.ext hX5
      have HBF := Lib.hid hXw
      rcases Int.lt_or_le at_ 0 with hn | hn
      · clear hXw hX5 hown hcb
        go_wp2_with fail
        exact HP.out _ _ rfl HBF.out
      obtain ⟨q, rfl⟩ := Int.eq_ofNat_of_zero_le hn
      rcases Nat.lt_or_ge q sa.length with hq | hq
      case inr =>
        have hq1 : ¬ ((q : Int) < 0) := by omega
        clear hXw hX5 hown hcb
        go_wp2_with fail
        exact HP.out _ _ rfl HBF.out
      have e0 := turn_none (by_ := [b0, b1, b2, b3]) (a := q) HSB.out (by omega)
      have hcell : ∀ j, j < 4 → wr.cell? ⟨w.heap.size + 1, j, none⟩ = some (.int .u8 ([b0, b1, b2, b3][j]?.getD 0)) := by
        intro j hj
        rw [hcb.cell]
        obtain rfl | rfl | rfl | rfl : j = 0 ∨ j = 1 ∨ j = 2 ∨ j = 3 := by omega
        all_goals rfl
      have hbz := HBY.out
      have hbl : ([b0, b1, b2, b3] : List Int).length ≤ 4 := by simp
      have hbl' : 4 ≤ ([b0, b1, b2, b3] : List Int).length := by simp
      obtain ⟨bb, hbb⟩ : ∃ bb, bb = [b0, b1, b2, b3] := ⟨_, rfl⟩
      rw [← hbb] at e0 hcell hbz hbl hbl'
      clear hbb
      have HO := Lib.hid (show wr.ownsRow w4.heap.size 5 1 (.slice (some ⟨gA, 0, none⟩) sa.length cA) sa.length ((xorL sa (burst sa.length q (bb.take 0))).map (.int .u8)) by rw [e0]; exact hown)
      have HC := Lib.hid hcell
      have HBZ := Lib.hid hbz
      have hq1 : ¬ ((q : Int) < 0) := by omega
      have hqi : ¬ ((sa.length : Int) ≤ (q : Int)) := by omega
      clear hXw hX5 hown hcb e0 hcell hbz HBY hn
      go_wp2_with fail
      go_loopw [17, 18] (fun t i wr => ∃ k : Nat, k ≤ 4 ∧ q + k ≤ sa.length ∧ i = .int .i64 k ∧ t = .bool (anyNZ (bb.take k)) ∧
          Hid (wr.ownsRow w4.heap.size 5 1 (.slice (some ⟨gA, 0, none⟩) sa.length cA) sa.length ((xorL sa (burst sa.length q (bb.take k))).map (.int .u8))) ∧ Hid (∀ j, j < 4 → wr.cell? ⟨w.heap.size + 1, j, none⟩ = some (.int .u8 (bb[j]?.getD 0))) ∧ Hid (Below w.heap.size w wr))
        (fun _ i _ => 4 - (intOf i).toNat)
      case atStart => exact ⟨0, by omega, by omega, rfl, rfl, HO, HC, HBF⟩
      case round =>
        clear HO HC HBF
        obtain ⟨k, hk, hqk, rfl, rfl, HO, HC, HB⟩ := hrel
        by_cases hin : k < 4 ∧ q + k < sa.length
        · obtain ⟨hk4, hqk4⟩ := hin
          have hlen : (xorL sa (burst sa.length q (bb.take k))).length = sa.length := turn_length (by rw [List.length_take]; omega)
          have hx1 : wr.cell? ⟨gA, q + k, none⟩ = some (.int .u8 (sa[q + k]?.getD 0)) := by
            have h := HO.out.cells (g := gA) rfl (q + k) (.int .u8 (sa[q + k]?.getD 0)) (by
              rw [List.getElem?_map, ← turn_at HSB.out hqk4 (show k < bb.length by omega)]
              have : q + k < (xorL sa (burst sa.length q (bb.take k))).length := by omega
              simp [this])
            rwa [add_lit, Nat.zero_add] at h
          have hx2 := HC.out k hk4
          have hx3 := HO.out.frozenAt (q + k)
          have hy1 := bytes_at HSB.out hqk4
          have hy2 := bytes_at HBZ.out (k := k) (by omega)
          have HST := Lib.hid (turn_step hqk4 (show k < bb.length by omega))
          have HAN := Lib.hid (anyNZ_snoc (show k < bb.length by omega))
          have HX2 := Lib.hid (u8_xorT (sa[q + k]?.getD 0) (bb[k]?.getD 0) hy1.1 (by omega) hy2.1 (by omega))
          clear hlen
          have hk0 : (0 : Int) ≤ (k : Int) := by omega
          have hq0 : (0 : Int) ≤ (q : Int) + (k : Int) := by omega
          have hk44 : (k : Int) < 4 := by omega
          have hqkc : (q : Int) + (k : Int) < (sa.length : Int) := by omega
          have hqw : IntKind.i64.wrap ((q : Int) + (k : Int)) = (q : Int) + (k : Int) := IntWalk.i64_in _ (by omega)
          have hqn : ((q : Int) + (k : Int)).toNat = q + k := by omega
          generalize sa[q + k]?.getD 0 = x9 at *
          go_wp2_with fail
          go_region
          have hst := HO.out.stored (q + k) (.int .u8 (bits .xor .u8 x9 (bb[k]?.getD 0)))
          have hs1 := ownsRow_drew hst.1
          have hgb : w.heap.size ≤ gA := HGA.out.1
          have hgw : w.heap.size + 1 ≠ gA := by have := HGA.out; omega
          have HB7 : Hid (Below w.heap.size w (wr.setCell ⟨gA, q + k, none⟩ (.int .u8 (bits .xor .u8 x9 (bb[k]?.getD 0)))).drew) := (HB.out.setCell hgb _).drew
          have HC7 : Hid (∀ j, j < 4 → (wr.setCell ⟨gA, q + k, none⟩ (.int .u8 (bits .xor .u8 x9 (bb[k]?.getD 0)))).drew.cell? ⟨w.heap.size + 1, j, none⟩ = some (.int .u8 (bb[j]?.getD 0))) := fun j hj => by
            rw [World.cell?_drew, World.cell?_setCell_other]
            · exact HC.out j hj
            · intro e; injection e with e1 _; exact hgw e1.symm
          clear hst HO HB HC hx1 hx2 hx3 hgb hgw
          generalize (wr.setCell ⟨gA, q + k, none⟩ (.int .u8 (bits .xor .u8 x9 (bb[k]?.getD 0)))).drew = v7 at *
          rw [HX2.out, ← List.map_set, HST.out] at hs1
          have HS1 := Lib.hid hs1
          clear hs1
          have hx2 := HC7.out k hk4
          cases hA : anyNZ (bb.take k)
          all_goals
            rw [hA] at HAN
            go_wp2_with fail
            go_roundw
            case measure => simp [intOf]; omega
            case rel => exact ⟨k + 1, by omega, by omega, by go_num, by rw [HAN.out]; rfl, HS1, HC7, HB7⟩
        · have hend : Hid (k = 4 ∨ q + k = sa.length) := by show _ ∨ _; omega
          have hbk : Bytes (bb.take k) := bytes_take HBZ.out k
          have hlk : (bb.take k).length = k := by rw [List.length_take]; omega
          have ht3 := HT3.out (bb.take k) q hbk (by omega) (by omega)
          have hlen : (xorL sa (burst sa.length q (bb.take k))).length = sa.length := turn_length (by omega)
          have hbt : Bytes (xorL sa (burst sa.length q (bb.take k))) := xorL_bytes HSB.out (burst_bytes hbk)
          have hi := ints_of_own HO.out
          have htk := itake_calls (.slice (some ⟨gA, 0, none⟩) sa.length cA) _ wr hi hbt (by have := HSL.out; omega)
          unfold TakeIPost at htk
          rw [ht3] at htk
          have HB9 := HB
          clear hbk hlk ht3 hlen hbt hi HO HC HT3 hin HSB
          generalize xorL sa (burst sa.length q (bb.take k)) = tt at *
          have hwlk : (k < 4 ∧ q + k = sa.length) ∨ k = 4 := by have := hend.out; omega
          clear hend
          cases hA : anyNZ (bb.take k) with
          | false =>
            rw [hA, if_neg (by simp)] at htk
            rcases hwlk with ⟨hk4, hqe⟩ | rfl
            all_goals
              try have hqn : ¬ ((q : Int) + (k : Int) < (sa.length : Int)) := by omega
              try clear hqe
              go_wp2_with fail
              refine htk.mono ?_
              rintro e w6 ⟨_, hyes, hE6⟩
              obtain ⟨z, qZ, a0, a1, a2, _, rfl, hgz, hpz, hz0, hz1, hz2⟩ := hyes _ _ _ rfl
              have hzz := Blk.new w6 #[.slice none 0 0, .slice none 0 0, .slice none 0 0, .slice none 0 0, .slice none 0 0, .slice none 0 0, .slice none 0 0] 54
              have HO := Lib.hid (img_oneA hgz hpz hz0 hz1 hz2)
              have HF : Hid (Ext w ((w6.alloc (.cells #[.slice none 0 0, .slice none 0 0, .slice none 0 0, .slice none 0 0, .slice none 0 0, .slice none 0 0, .slice none 0 0] 54)).setRow w6.heap.size #[z.iV, z.nV, z.oV, qZ, a0, a1, a2])) := (Ext.trans HB9.out hE6).trans (ext_setRow (ext_alloc _ _) _ (Nat.le_refl _))
              clear htk hyes hgz hpz hz0 hz1 hz2 hE6
              go_wp2_with (first | (refine wpList_store_row rfl 54 _ _ rfl w6.heap.size #[z.iV, z.nV, z.oV, qZ, a0, a1, a2] rfl rfl 54 _ hzz (by kernel_rfl) rfl HO.out ?_))
              exact HP.out _ _ rfl HF.out
          | true =>
            rw [hA, if_pos rfl] at htk
            rcases hwlk with ⟨hk4, hqe⟩ | rfl
            all_goals
              try have hqn : ¬ ((q : Int) + (k : Int) < (sa.length : Int)) := by omega
              try clear hqe
              go_wp2_with fail
              refine htk.mono ?_
              rintro e w6 ⟨hno, _, hE6⟩
              obtain rfl := hno (by trivial)
              have hzz := Blk.new w6 #[.slice none 0 0, .slice none 0 0, .slice none 0 0, .slice none 0 0, .slice none 0 0, .slice none 0 0, .slice none 0 0] 54
              have HF : Hid (Ext w ((w6.alloc (.cells #[.slice none 0 0, .slice none 0 0, .slice none 0 0, .slice none 0 0, .slice none 0 0, .slice none 0 0, .slice none 0 0] 54)).setRow w6.heap.size #[.slice none 0 0, .slice none 0 0, .slice none 0 0, .slice none 0 0, .slice none 0 0, .slice none 0 0, .slice none 0 0])) := (Ext.trans HB9.out hE6).trans (ext_setRow (ext_alloc _ _) _ (Nat.le_refl _))
              clear htk hno hE6
              go_wp2_with (first | (refine wpList_store_row rfl 54 _ _ rfl w6.heap.size #[.slice none 0 0, .slice none 0 0, .slice none 0 0, .slice none 0 0, .slice none 0 0, .slice none 0 0, .slice none 0 0] rfl rfl 54 _ hzz (by kernel_rfl) rfl (by simp [Value.oneCell']) ?_))
              exact HP.out _ _ rfl HF.out

end Go.Proofs.Ytdhdbmfipkppiaa
