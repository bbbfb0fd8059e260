/- The walk of Same of the images' reference, over images that are the same. -/
/- The check of bytes in plain numbers: one round, one byte, all bytes. -/
/- The walks of package sum: Sum, Seal, Open, and what they call. -/
/- What is known of a graph that may be. -/
import Derived.Test.YtdhdbmfipkppiaaGreatNsaV
import Derived.Test.YtdhdbmfipkppiaaGreatIma
import Derived.Test.YtdhdbmfipkppiaaGreatImb
import Derived.Laws.BitsAllLaws
import Derived.Test.YtdhdbmfipkppiaaGreatTypes
import Derived.Test.YtdhdbmfipkppiaaGreatModK0
set_option linter.unusedSimpArgs false
set_option linter.unusedVariables false
set_option linter.unnecessarySimpa false
namespace Go.Proofs.YtdhdbmfipkppiaaGreat
set_option maxRecDepth 10000
open Go.RowKit

theorem rInts_calls (u v : Value) (a : List Int) (w : World) (hu : Ints .i64 w u a) (hv : Ints .i64 w v a) :
    Calls Tryz.prog 18 #[u, v] w fun e w' => e = .returned (.bool true) ∧ Ext w w' := by
  have hc := sameInts_calls u v a a w hu hv
  rw [decide_eq_true (rfl : a = a)] at hc
  go_enter Tryz.func18, Tryz.ntmps18
  go_wp2_with fail
  refine hc.mono ?_
  rintro e w' ⟨rfl, hE⟩
  go_wp2_with fail
  go_ret
  exact ⟨rfl, hE⟩

def RSameP (w : World) (e : Ending) (w' : World) : Prop := e = .returned (.bool true) ∧ Ext w w'

set_option maxRecDepth 20000 in
set_option maxHeartbeats 6400000 in
theorem rsame_calls (g h : Gr) (pV s0 s1 s2 qV r0 r1 r2 : Value) (pl : List Int) (L0 L1 L2 : List Isa.Cm) (w : World) (hc : g.c = h.c) (hg : GrAt w g) (hh : GrAt w h) (hp : Ints .i64 w pV pl) (hq : Ints .i64 w qV pl)
    (h0 : Isa.Cmds w s0 L0) (h1 : Isa.Cmds w s1 L1) (h2 : Isa.Cmds w s2 L2) (k0 : Isa.Cmds w r0 L0) (k1 : Isa.Cmds w r1 L1) (k2 : Isa.Cmds w r2 L2) :
    Calls Tryz.prog 7 #[.agg #[g.iV, g.nV, g.oV, pV, s0, s1, s2], .agg #[h.iV, h.nV, h.oV, qV, r0, r1, r2]] w (RSameP w) := by
  have HP : Hid (∀ w', Ext w w' → RSameP w (.returned (.bool true)) w') := fun w' h2 => ⟨rfl, h2⟩
  generalize RSameP w = PP at *
  have hb1 := (Blk.new w #[g.iV, g.nV, g.oV, pV, s0, s1, s2] 32).ext (ext_alloc _ (.cells #[h.iV, h.nV, h.oV, qV, r0, r1, r2] 32))
  have hb2 := Blk.new (w.alloc (.cells #[g.iV, g.nV, g.oV, pV, s0, s1, s2] 32)) #[h.iV, h.nV, h.oV, qV, r0, r1, r2] 32
  rw [show (w.alloc (.cells #[g.iV, g.nV, g.oV, pV, s0, s1, s2] 32)).heap.size = w.heap.size + 1 from by simp] at hb2
  have hE := (ext_alloc w (.cells #[g.iV, g.nV, g.oV, pV, s0, s1, s2] 32)).trans (ext_alloc _ (.cells #[h.iV, h.nV, h.oV, qV, r0, r1, r2] 32))
  have HC0 := Lib.hid (fun W (e : Ext w W) => Isa.same_calls s0 r0 L0 L0 W (h0.below e (Nat.le_refl _)) (k0.below e (Nat.le_refl _)))
  have HC1 := Lib.hid (fun W (e : Ext w W) => Isa.same_calls s1 r1 L1 L1 W (h1.below e (Nat.le_refl _)) (k1.below e (Nat.le_refl _)))
  have HC2 := Lib.hid (fun W (e : Ext w W) => Isa.same_calls s2 r2 L2 L2 W (h2.below e (Nat.le_refl _)) (k2.below e (Nat.le_refl _)))
  have hsg := fun W (e : Ext w W) => same_calls g h W (hg.ext e) (hh.ext e)
  rw [decide_eq_true hc] at hsg
  have HSG := Lib.hid hsg
  have HSP := Lib.hid (fun W (e : Ext w W) => rInts_calls pV qV pl W (hp.ext e) (hq.ext e))
  clear h0 h1 h2 k0 k1 k2 hg hh hp hq hsg hc
  go_enter Tryz.func7, Tryz.ntmps7
  go_upto_region 1 with fail
  generalize World.alloc (World.alloc w _) _ = w1 at *
  have x0 : World.cell? w1 ⟨w.heap.size, 0, none⟩ = some g.iV := hb1.cell 0
  have y0 : World.cell? w1 ⟨w.heap.size + 1, 0, none⟩ = some h.iV := hb2.cell 0
  have x1 : World.cell? w1 ⟨w.heap.size, 1, none⟩ = some g.nV := hb1.cell 1
  have y1 : World.cell? w1 ⟨w.heap.size + 1, 1, none⟩ = some h.nV := hb2.cell 1
  have x2 : World.cell? w1 ⟨w.heap.size, 2, none⟩ = some g.oV := hb1.cell 2
  have y2 : World.cell? w1 ⟨w.heap.size + 1, 2, none⟩ = some h.oV := hb2.cell 2
  have hc := HSG.out w1 hE
  go_wp2_with fail
  refine hc.mono ?_
  rintro e w2 ⟨rfl, h2⟩
  replace hb1 := hb1.ext h2
  replace hb2 := hb2.ext h2
  replace hE := hE.trans h2
  clear x0 y0 x1 y1 x2 y2 hc h2
  have x3 : World.cell? w2 ⟨w.heap.size, 3, none⟩ = some pV := hb1.cell 3
  have y3 : World.cell? w2 ⟨w.heap.size + 1, 3, none⟩ = some qV := hb2.cell 3
  have hc := HSP.out w2 hE
  go_wp2_with fail
  refine hc.mono ?_
  rintro e w3 ⟨rfl, h2⟩
  have HB1 := Lib.hid (hb1.ext h2)
  have HB2 := Lib.hid (hb2.ext h2)
  have HE := Lib.hid (hE.trans h2)
  clear x3 y3 hc h2 hb1 hb2 hE
  go_wp2_with fail
  go_loopw [7] (fun i wr => ∃ k : Nat, k ≤ 3 ∧ i = .int .i64 k ∧ Hid (Ext w3 wr)) (fun i _ => 3 - (intOf i).toNat)
  case atStart => exact ⟨0, by omega, rfl, Ext.refl _⟩
  case round =>
    obtain ⟨k, hk, rfl, HX⟩ := hrel
    rcases (by omega : k = 0 ∨ k = 1 ∨ k = 2 ∨ k = 3) with rfl | rfl | rfl | rfl
    · have c1 : ∀ W, Ext w3 W → World.cell? W ⟨w.heap.size, 4, none⟩ = some s0 := fun W e => (HB1.out.ext e).cell 4
      have c2 : ∀ W, Ext w3 W → World.cell? W ⟨w.heap.size + 1, 4, none⟩ = some r0 := fun W e => (HB2.out.ext e).cell 4
      have hXd := HX.out.trans (Ext.drew wr)
      go_wp2_with fail
      refine wp_region_S (fun W => Ext w3 W) [(0, true), (1, true), (2, true), (3, true), (4, true), (5, true), (6, true), (7, true), (8, false), (9, true)] (by kernel_rfl) (by kernel_rfl) (fun _ _ d _ _ h => by cases d <;> exact h) hXd ?_
      simp only [pickE, List.getElem?_cons_zero, List.getElem?_cons_succ]
      generalize wr.drew = v0 at *
      repeat (first | (refine wpF_pure (by rfl) (fun W hW => by go_simp; with_reducible rfl) ?_; simp only [Act.put, List.setIfInBounds_toArray, List.set_cons_zero, List.set_cons_succ]) | (refine wpF_skip (by rfl) ?_; simp only [Act.put, List.setIfInBounds_toArray, List.set_cons_zero, List.set_cons_succ]))
      refine wpF_step (by rfl) (fun K hK => ?_)
      go_simp
      refine (HC0.out v0 (HE.out.trans hXd)).mono ?_
      rintro e v1 ⟨rfl, hX1⟩
      have hX1 : Ext v0 v1 := hX1
      have HX1 := Lib.hid (hXd.trans hX1)
      refine hK _ _ HX1.out ?_
      clear hK K hX1
      try rw [decide_eq_true (rfl : L0 = L0)]
      try simp only [decide_true]
      try simp only [Act.put, List.setIfInBounds_toArray, List.set_cons_zero, List.set_cons_succ]
      repeat (first | (refine wpF_pure (by rfl) (fun W hW => by go_simp; with_reducible rfl) ?_; simp only [Act.put, List.setIfInBounds_toArray, List.set_cons_zero, List.set_cons_succ]) | (refine wpF_skip (by rfl) ?_; simp only [Act.put, List.setIfInBounds_toArray, List.set_cons_zero, List.set_cons_succ]))
      refine wpF_nil ?_
      clear c1 c2 hXd
      go_wp2_with fail
      go_roundw
      case rel => exact ⟨1, by omega, by go_num, HX1⟩
      case measure => simp [intOf]
    · have c1 : ∀ W, Ext w3 W → World.cell? W ⟨w.heap.size, 5, none⟩ = some s1 := fun W e => (HB1.out.ext e).cell 5
      have c2 : ∀ W, Ext w3 W → World.cell? W ⟨w.heap.size + 1, 5, none⟩ = some r1 := fun W e => (HB2.out.ext e).cell 5
      have hXd := HX.out.trans (Ext.drew wr)
      go_wp2_with fail
      refine wp_region_S (fun W => Ext w3 W) [(0, true), (1, true), (2, true), (3, true), (4, true), (5, true), (6, true), (7, true), (8, false), (9, true)] (by kernel_rfl) (by kernel_rfl) (fun _ _ d _ _ h => by cases d <;> exact h) hXd ?_
      simp only [pickE, List.getElem?_cons_zero, List.getElem?_cons_succ]
      generalize wr.drew = v0 at *
      repeat (first | (refine wpF_pure (by rfl) (fun W hW => by go_simp; with_reducible rfl) ?_; simp only [Act.put, List.setIfInBounds_toArray, List.set_cons_zero, List.set_cons_succ]) | (refine wpF_skip (by rfl) ?_; simp only [Act.put, List.setIfInBounds_toArray, List.set_cons_zero, List.set_cons_succ]))
      refine wpF_step (by rfl) (fun K hK => ?_)
      go_simp
      refine (HC1.out v0 (HE.out.trans hXd)).mono ?_
      rintro e v1 ⟨rfl, hX1⟩
      have hX1 : Ext v0 v1 := hX1
      have HX1 := Lib.hid (hXd.trans hX1)
      refine hK _ _ HX1.out ?_
      clear hK K hX1
      try rw [decide_eq_true (rfl : L1 = L1)]
      try simp only [decide_true]
      try simp only [Act.put, List.setIfInBounds_toArray, List.set_cons_zero, List.set_cons_succ]
      repeat (first | (refine wpF_pure (by rfl) (fun W hW => by go_simp; with_reducible rfl) ?_; simp only [Act.put, List.setIfInBounds_toArray, List.set_cons_zero, List.set_cons_succ]) | (refine wpF_skip (by rfl) ?_; simp only [Act.put, List.setIfInBounds_toArray, List.set_cons_zero, List.set_cons_succ]))
      refine wpF_nil ?_
      clear c1 c2 hXd
      go_wp2_with fail
      go_roundw
      case rel => exact ⟨2, by omega, by go_num, HX1⟩
      case measure => simp [intOf]
    · have c1 : ∀ W, Ext w3 W → World.cell? W ⟨w.heap.size, 6, none⟩ = some s2 := fun W e => (HB1.out.ext e).cell 6
      have c2 : ∀ W, Ext w3 W → World.cell? W ⟨w.heap.size + 1, 6, none⟩ = some r2 := fun W e => (HB2.out.ext e).cell 6
      have hXd := HX.out.trans (Ext.drew wr)
      go_wp2_with fail
      refine wp_region_S (fun W => Ext w3 W) [(0, true), (1, true), (2, true), (3, true), (4, true), (5, true), (6, true), (7, true), (8, false), (9, true)] (by kernel_rfl) (by kernel_rfl) (fun _ _ d _ _ h => by cases d <;> exact h) hXd ?_
      simp only [pickE, List.getElem?_cons_zero, List.getElem?_cons_succ]
      generalize wr.drew = v0 at *
      repeat (first | (refine wpF_pure (by rfl) (fun W hW => by go_simp; with_reducible rfl) ?_; simp only [Act.put, List.setIfInBounds_toArray, List.set_cons_zero, List.set_cons_succ]) | (refine wpF_skip (by rfl) ?_; simp only [Act.put, List.setIfInBounds_toArray, List.set_cons_zero, List.set_cons_succ]))
      refine wpF_step (by rfl) (fun K hK => ?_)
      go_simp
      refine (HC2.out v0 (HE.out.trans hXd)).mono ?_
      rintro e v1 ⟨rfl, hX1⟩
      have hX1 : Ext v0 v1 := hX1
      have HX1 := Lib.hid (hXd.trans hX1)
      refine hK _ _ HX1.out ?_
      clear hK K hX1
      try rw [decide_eq_true (rfl : L2 = L2)]
      try simp only [decide_true]
      try simp only [Act.put, List.setIfInBounds_toArray, List.set_cons_zero, List.set_cons_succ]
      repeat (first | (refine wpF_pure (by rfl) (fun W hW => by go_simp; with_reducible rfl) ?_; simp only [Act.put, List.setIfInBounds_toArray, List.set_cons_zero, List.set_cons_succ]) | (refine wpF_skip (by rfl) ?_; simp only [Act.put, List.setIfInBounds_toArray, List.set_cons_zero, List.set_cons_succ]))
      refine wpF_nil ?_
      clear c1 c2 hXd
      go_wp2_with fail
      go_roundw
      case rel => exact ⟨3, by omega, by go_num, HX1⟩
      case measure => simp [intOf]
    · go_wp2_with fail
      exact HP.out _ (HE.out.trans HX.out)

end Go.Proofs.YtdhdbmfipkppiaaGreat

namespace Go.Proofs.YtdhdbmfipkppiaaGreat

def rnd (r : Nat) : Nat := (r / 2) ^^^ ((r % 2) * 3988292384)
def rounds : Nat → Nat → Nat
  | 0, r => r
  | k + 1, r => rnd (rounds k r)
def upd (r : Nat) (z : Int) : Nat := rounds 8 (r ^^^ z.toNat)
def raw (r : Nat) (zs : List Int) : Nat := zs.foldl upd r
def crc (zs : List Int) : Nat := 4294967295 ^^^ raw 4294967295 zs
/-- The four bytes of a number, the lowest first. -/
def le4 (s : Nat) : List Int := [(s % 256 : Nat), (s / 256 % 256 : Nat), (s / 65536 % 256 : Nat), (s / 16777216 % 256 : Nat)]
def seal_ (zs : List Int) : List Int := zs ++ le4 (crc zs)

def Bytes (zs : List Int) : Prop := ∀ z ∈ zs, 0 ≤ z ∧ z ≤ 255

theorem rnd_lt {r : Nat} (h : r < 4294967296) : rnd r < 4294967296 := by
  unfold rnd
  have h1 : r / 2 < 2 ^ 32 := by omega
  have h2 : (r % 2) * 3988292384 < 2 ^ 32 := by omega
  exact Nat.xor_lt_two_pow h1 h2

theorem rounds_lt {r : Nat} (h : r < 4294967296) : ∀ k, rounds k r < 4294967296
  | 0 => h
  | k + 1 => rnd_lt (rounds_lt h k)

theorem xor_lt {a b : Nat} (h : a < 4294967296) (h' : b < 4294967296) : a ^^^ b < 4294967296 := Nat.xor_lt_two_pow (n := 32) h h'

theorem upd_lt {r : Nat} {z : Int} (h : r < 4294967296) (hz : 0 ≤ z ∧ z ≤ 255) : upd r z < 4294967296 := rounds_lt (xor_lt h (by omega)) 8

theorem raw_lt {r : Nat} {zs : List Int} (h : r < 4294967296) (hz : Bytes zs) : raw r zs < 4294967296 := by
  induction zs generalizing r with
  | nil => exact h
  | cons z zs ih => exact ih (upd_lt h (hz z (by simp))) (fun y hy => hz y (by simp [hy]))

theorem crc_lt {zs : List Int} (hz : Bytes zs) : crc zs < 4294967296 := xor_lt (by omega) (raw_lt (by omega) hz)

/-- One round as the walk spells it. -/
theorem rnd_walk (y : Nat) (h : y < 4294967296) : bits .xor .u32 ((y : Int) / 2) (bits .and .u32 (y : Int) 1 * 3988292384 % 4294967296) = (rnd y : Nat) := by
  have h1 : bits .and .u32 (y : Int) 1 = ((y % 2 : Nat) : Int) := by
    have := u32_and_nat y 1 h (by omega)
    rw [Nat.and_one_is_mod] at this
    exact_mod_cast this
  rw [h1]
  have h2 : (((y % 2 : Nat) : Int) * 3988292384 % 4294967296) = (((y % 2) * 3988292384 : Nat) : Int) := by omega
  rw [h2, show ((y : Int) / 2) = ((y / 2 : Nat) : Int) from by omega]
  exact u32_xor_nat _ _ (by omega) (by omega)

theorem xor_walk (x : Nat) (z : Int) (h : x < 4294967296) (hz : 0 ≤ z ∧ z ≤ 255) : Value.int .u32 (bits .xor .u32 (x : Int) z) = .int .u32 ((x ^^^ z.toNat : Nat) : Int) := by
  obtain ⟨n, rfl⟩ := Int.eq_ofNat_of_zero_le hz.1
  rw [Int.toNat_natCast]
  congr 1
  exact u32_xor_nat _ _ h (by omega)

theorem not_walk (x : Nat) (h : x < 4294967296) : bits .xor .u32 IntKind.u32.max (x : Int) = ((4294967295 ^^^ x : Nat) : Int) := by
  have := u32_xor_nat 4294967295 x (by omega) h
  have e : IntKind.u32.max = ((4294967295 : Nat) : Int) := by decide
  rw [e]; exact this

theorem raw_snoc (r : Nat) (zs : List Int) (k : Nat) (h : k < zs.length) : raw r (zs.take (k + 1)) = upd (raw r (zs.take k)) (zs[k]?.getD 0) := by
  unfold raw
  rw [List.take_succ_eq_append_getElem h, List.foldl_append]
  simp [h]

theorem bytes_at {zs : List Int} (hz : Bytes zs) {k : Nat} (h : k < zs.length) : 0 ≤ zs[k]?.getD 0 ∧ zs[k]?.getD 0 ≤ 255 := by
  simp [h]
  exact hz _ (List.getElem_mem h)

theorem bytes_take {zs : List Int} (hz : Bytes zs) (k : Nat) : Bytes (zs.take k) := fun z h => hz z (List.mem_of_mem_take h)

end Go.Proofs.YtdhdbmfipkppiaaGreat

namespace Go.Proofs.YtdhdbmfipkppiaaGreat
open Go.RowKit

set_option maxHeartbeats 400000 in
theorem sum_calls (v : Value) (zs : List Int) (w : World) (hv : Ints .u8 w v zs) (hz : Bytes zs) :
    Calls Tryz.prog 62 #[v] w fun e w' => e = .returned (.int .u32 (crc zs : Nat)) ∧ w = w' := by
  obtain ⟨A, c, rfl, hlc, hcm, hc⟩ := hv.form
  unfold maxLen at hcm
  clear hv
  go_enter Tryz.func62, Tryz.ntmps62
  go_wp2
  go_loop [3, 8] (fun r i => ∃ k : Nat, k ≤ zs.length ∧ i = .int .i64 k ∧ r = .int .u32 (raw 4294967295 (zs.take k) : Nat))
    (fun _ i => zs.length - (intOf i).toNat)
  case atStart => exact ⟨0, by omega, rfl, rfl⟩
  case round =>
    obtain ⟨k, hk, rfl, rfl⟩ := hrel
    have hx : raw 4294967295 (zs.take k) < 4294967296 := raw_lt (by omega) (bytes_take hz k)
    by_cases hlt : k < zs.length
    · obtain ⟨b, off, rfl, hcell⟩ := hc k hlt
      have hzk := bytes_at hz hlt
      have HS := Lib.hid (raw_snoc 4294967295 zs k hlt)
      generalize raw 4294967295 (zs.take k) = x at *
      generalize zs[k]?.getD 0 = z at *
      have hxz : x ^^^ z.toNat < 4294967296 := xor_lt hx (by omega)
      have HX := Lib.hid (xor_walk x z hx hzk)
      go_wp2
      go_loop [3, 16] (fun r i => ∃ m : Nat, m ≤ 8 ∧ i = .int .i64 m ∧ r = .int .u32 (rounds m (x ^^^ z.toNat) : Nat))
        (fun _ i => 8 - (intOf i).toNat)
      case atStart => exact ⟨0, by omega, rfl, HX.out⟩
      case round =>
        obtain ⟨m, hm, rfl, rfl⟩ := hrel
        have hr := rounds_lt hxz m
        have HR := Lib.hid (rnd_walk _ hr)
        have e : (rounds (m + 1) (x ^^^ z.toNat)) = rnd (rounds m (x ^^^ z.toNat)) := rfl
        have HE := Lib.hid e
        clear e
        by_cases h8 : m < 8
        · go_wp2
          go_round
          case rel => exact ⟨m + 1, by omega, by go_num, by rw [HE.out, ← HR.out]⟩
          case measure => simp [intOf]; omega
        · have h9 : m = 8 := by omega
          subst h9
          go_wp2
          go_round
          case rel => exact ⟨k + 1, by omega, by go_num, by rw [HS.out]; rfl⟩
          case measure => simp [intOf]; omega
    · have hkk : k = zs.length := by omega
      subst hkk
      have HN := Lib.hid (not_walk _ hx)
      go_wp2
      go_ret
      refine ⟨ret_int ?_, rfl⟩
      rw [List.take_length] at HN
      exact HN.out

set_option maxHeartbeats 400000 in
theorem cloneU8_calls (v : Value) (zs : List Int) (w : World) (hv : Ints .u8 w v zs) (hl : zs.length ≤ 1000000) :
    Calls Tryz.prog 24 #[v] w (Made 5 1 zs.length (zs.map (.int .u8)) w) := by
  have hv' := hv
  obtain ⟨A, c, rfl, hlc, hcm, _, hA⟩ := hv
  have hq := fun w : World => Lib.run_eql_slice_nil (P := Tryz.prog) w 22 5 A zs.length c 0 0 Tryz.underlying22
  cases A with
  | none =>
    have h0 := Lib.hid (show zs = [] by simpa using hA.none)
    clear hA
    go_enter Tryz.func24, Tryz.ntmps24
    go_wp2
    go_ret
    have h0 := h0.out
    subst h0
    exact ⟨_, rfl, World.ownsRow_nil _ _ _ _, Below.refl _ _⟩
  | some ad =>
    clear hA
    have hown := World.ownsRow_made (base := w.heap.size) (e := 5) (size := 1) w #[] 0 (Nat.le_refl _) (Nat.zero_le _) rfl
    go_enter Tryz.func24, Tryz.ntmps24
    go_wp2_with (at_builtin; refine wpList_append_row rfl rfl elem_u8 hown rfl (Row.below hv' (below_alloc (Below.refl _ _) (Nat.le_refl _) _)) rfl (one_ints _ _) (by omega) (by omega) (by simp) ?_; intro v1 w1 hown1 hg1 _)
    go_ret
    exact ⟨_, rfl, by simpa using hown1, below_own (below_alloc (Below.refl _ _) (Nat.le_refl _) _) (by simp) hown (Nat.le_refl _) hg1⟩

theorem le4_length (s : Nat) : (le4 s).length = 4 := rfl

set_option maxHeartbeats 800000 in
theorem seal_calls (v : Value) (zs : List Int) (w : World) (hv : Ints .u8 w v zs) (hz : Bytes zs) (hl : zs.length ≤ 100000) :
    Calls Tryz.prog 22 #[v] w (Made 5 1 (seal_ zs).length ((seal_ zs).map (.int .u8)) w) := by
  have hs := crc_lt hz
  go_enter Tryz.func22, Tryz.ntmps22
  go_wp2_with (first | (go_at_call 62; refine (sum_calls _ zs _ hv hz).mono ?_; rintro e w' ⟨rfl, rfl⟩) | (go_at_call 24; refine (cloneU8_calls _ zs _ hv (by omega)).mono ?_; rintro e w1 ⟨v1, rfl, hown, hbel⟩))
  have HS : Hid (seal_ zs = zs ++ le4 (crc zs)) := rfl
  generalize crc zs = s at *
  go_loopw [4, 10] (fun v i wr => ∃ k : Nat, k ≤ 4 ∧ i = .int .i64 k ∧ wr.ownsRow w.heap.size 5 1 v (zs.length + k) ((zs ++ (le4 s).take k).map (.int .u8)) ∧ Below w.heap.size w wr)
    (fun _ i _ => 4 - (intOf i).toNat)
  case atStart => exact ⟨0, by omega, rfl, by simpa using hown, hbel⟩
  case round =>
    obtain ⟨k, hk, rfl, hown', hbel'⟩ := hrel
    clear hown hbel
    have hsz := hbel'.size
    by_cases h4 : k < 4
    · have hd : s / 16777216 % 256 = s / 16777216 := by omega
      have hd := Lib.hid hd
      obtain rfl | rfl | rfl | rfl : k = 0 ∨ k = 1 ∨ k = 2 ∨ k = 3 := by omega
      all_goals
        go_wp2_with (at_builtin; refine wpList_append_row rfl rfl elem_u8 (hown'.alloc _) rfl (row_new wr _ 5 1 1 rfl (by decide)) rfl (by intro u hu; simp at hu; subst hu; rfl) (by omega) (by omega) (by simp; omega) ?_; intro v2 w2 hown2 hg2 _)
        go_roundw
        case measure => simp [intOf]
        case rel =>
          have hd := hd.out
          refine ⟨_, ?_, rfl, ?_, below_own (below_alloc hbel' (by omega) _) (by simp; omega) (hown'.alloc _) (Nat.le_refl _) hg2⟩
          · simp
          · simpa [le4, hd, Nat.add_assoc] using hown2
    · obtain rfl : k = 4 := by omega
      go_wp2
      go_ret
      refine ⟨_, rfl, ?_, hbel'⟩
      rw [HS.out]
      have h4 : (le4 s).take 4 = le4 s := rfl
      rw [h4] at hown'
      simpa [le4_length] using hown'

set_option maxHeartbeats 400000 in
theorem bytesEq_calls (v u : Value) (zs ys : List Int) (w : World) (hv : Ints .u8 w v zs) (hu : Ints .u8 w u ys) (hz : Bytes zs) (hy : Bytes ys) :
    Calls Tryz.prog 23 #[v, u] w fun e w' => e = .returned (.bool (decide (zs = ys))) ∧ w = w' := by
  have h1 := conv_bytes (P := Tryz.prog) hv Tryz.underlying22 Tryz.underlying5 Tryz.underlying9
  have h2 := conv_bytes (P := Tryz.prog) hu Tryz.underlying22 Tryz.underlying5 Tryz.underlying9
  have HE := Lib.hid (strEq hz hy)
  go_enter Tryz.func23, Tryz.ntmps23
  go_wp2
  go_ret
  exact ⟨ret_bool HE.out, rfl⟩

/-- What Open answers: the bytes before the check, if it is theirs. -/
def openOk (zs : List Int) : Prop := seal_ (zs.take (zs.length - 4)) = zs
instance (zs : List Int) : Decidable (openOk zs) := by unfold openOk; infer_instance

def OpenPost (zs : List Int) (w : World) (ed : Ending) (w' : World) : Prop :=
  ∃ v', ed = .returned (.tuple #[v', .int .i64 (if openOk zs then 0 else 2)]) ∧ Below w.heap.size w w' ∧
    (openOk zs → w'.ownsRow w.heap.size 5 1 v' (zs.length - 4) ((zs.take (zs.length - 4)).map (.int .u8))) ∧ (¬ openOk zs → v' = .slice none 0 0)

theorem ownsRow_base {w : World} {base base' : Nat} {e : TypeId} {sz : Nat} {v : Value} {n : Nat} {xs : List Value} (h : w.ownsRow base e sz v n xs) (hb : base' ≤ base) : w.ownsRow base' e sz v n xs := by
  refine ⟨h.1, ?_⟩
  rcases h.2 with h | ⟨g, cap, cur, e1, h1, r⟩
  · exact Or.inl h
  · exact Or.inr ⟨g, cap, cur, e1, by omega, r⟩

theorem bytes_seal {zs : List Int} (hz : Bytes zs) : Bytes (seal_ zs) := by
  intro z hm
  rcases List.mem_append.1 hm with h | h
  · exact hz z h
  · simp [le4] at h
    omega

set_option maxHeartbeats 1600000 in
theorem open_calls (v : Value) (zs : List Int) (w : World) (hv : Ints .u8 w v zs) (hz : Bytes zs) (hl : zs.length ≤ 100000) :
    Calls Tryz.prog 9 #[v] w (OpenPost zs w) := by
  have hv0 := hv
  obtain ⟨A, c, rfl, hlc, hcm, _, hA⟩ := hv
  unfold maxLen at hcm
  clear hA
  have hp := hv0.first (m := zs.length - 4) (by omega)
  have hpl : (zs.take (zs.length - 4)).length = zs.length - 4 := by rw [List.length_take]; omega
  have hpz : Bytes (zs.take (zs.length - 4)) := bytes_take hz _
  have hok : Hid (openOk zs ↔ seal_ (zs.take (zs.length - 4)) = zs) := Iff.rfl
  obtain ⟨p, HE⟩ : ∃ p, Hid (zs.take (zs.length - 4) = p) := ⟨_, rfl⟩
  rw [HE.out] at hp hpl hpz hok
  have HP := Lib.hid hpl
  clear hpl
  rw [show zs.length - 4 = (max 0 ((zs.length : Int) - 4)).toNat from by omega] at hp
  go_enter Tryz.func9, Tryz.ntmps9
  go_wp2_with fail
  refine (seal_calls _ p _ hp hpz (by have := HP.out; omega)).mono ?_
  rintro e w1 ⟨v1, rfl, hown1, hbel1⟩
  have hrow1 : Ints .u8 w1 v1 (seal_ p) := row_of_own hown1
  have hv1 := hv0.below hbel1
  go_wp2_with fail
  refine (bytesEq_calls _ _ _ _ _ hrow1 hv1 (bytes_seal hpz) hz).mono ?_
  rintro e w1 ⟨rfl, rfl⟩
  by_cases hk : seal_ p = zs
  · have hd := Lib.hid (show decide (seal_ p = zs) = true from decide_eq_true hk)
    have hk' : openOk zs := hok.out.2 hk
    clear hk
    rw [hd.out]
    go_wp2_with fail
    refine (cloneU8_calls _ p _ (hp.below hbel1) (by have := HP.out; omega)).mono ?_
    rintro e w2 ⟨v2, rfl, hown2, hbel2⟩
    go_wp2_with fail
    go_ret2
    refine ⟨v2, by rw [if_pos hk']; rfl, hbel1.trans (hbel2.mono hbel1.size), fun _ => ?_, fun h => absurd hk' h⟩
    rw [HP.out] at hown2
    rw [HE.out]
    exact ownsRow_base hown2 hbel1.size
  · have hd := Lib.hid (show decide (seal_ p = zs) = false from decide_eq_false hk)
    have hk' : ¬ openOk zs := fun h => hk (hok.out.1 h)
    clear hk
    rw [hd.out]
    go_wp2_with fail
    go_ret2
    exact ⟨_, by rw [if_neg hk']; rfl, hbel1, fun h => absurd h hk', fun _ => rfl⟩

end Go.Proofs.YtdhdbmfipkppiaaGreat

namespace Go.Proofs.YtdhdbmfipkppiaaGreat
open Go.RowKit

theorem valueR_ok {n : Nd} {l : List Vl} (h : (valueR n l).2 = 0) : (1 ≤ l.length ∧ l.length ≤ 2) ∧ (valueR n l).1.s.ok = true := by
  unfold valueR at h ⊢
  cases hk : kindOf n.op with
  | none => rw [hk] at h; simp at h
  | some k =>
    rw [hk] at h
    simp only at h ⊢
    by_cases h1 : nodeOk k n l.length = false
    · rw [if_pos h1] at h; simp at h
    rw [if_neg h1] at h ⊢
    by_cases h2 : (k.keeps && l.any fun x => !decide (x.z = n.zero)) = true
    · rw [if_pos h2] at h; simp at h
    rw [if_neg h2] at h ⊢
    by_cases h3 : (l.any fun x => !x.s.ok) = true
    · rw [if_pos h3] at h; simp at h
    rw [if_neg h3] at h ⊢
    by_cases h4 : (madeZ n (l[0]?.getD default).s (l[l.length - 1]?.getD default).s).ok = false
    · rw [if_pos h4] at h; simp at h
    rw [if_neg h4] at h ⊢
    by_cases h5 : ((n.ws.length : Int) ≠ (wbZ n (l[0]?.getD default).s).1 ∨ (n.bs.length : Int) ≠ (wbZ n (l[0]?.getD default).s).2) ∨ (n.bs.any fun x => !inB (-16777216) 16777216 x) = true
    · rw [if_pos h5] at h; simp at h
    rw [if_neg h5]
    refine ⟨?_, by simpa using h4⟩
    have h1' : nodeOk k n l.length = true := by simpa using h1
    simp only [nodeOk, ok1, Bool.and_eq_true, decide_eq_true_eq] at h1'
    have hm : (l.length : Int) = k.many := h1'.1.1.1.1.1.1.1
    have hk2 : k.many = 1 ∨ k.many = 2 := by
      have hr := kind_range hk
      rcases (by omega : n.op = 1 ∨ n.op = 2 ∨ n.op = 3 ∨ n.op = 4 ∨ n.op = 5 ∨ n.op = 6 ∨ n.op = 7 ∨ n.op = 8 ∨ n.op = 9 ∨ n.op = 10 ∨ n.op = 11 ∨ n.op = 12) with ho | ho | ho | ho | ho | ho | ho | ho | ho | ho | ho | ho
      all_goals
        rw [ho] at hk
        simp only [kindOf, reduceIte, Int.reduceEq, Option.some.injEq] at hk
        subst hk
        simp
    omega

theorem goNodes_more : ∀ (ns : List Nd) (vals : List Vl) (t : Nat), (goNodes ns vals t).2 = 0 → (∀ v ∈ vals, v.s.ok = true) →
    (∀ v ∈ (goNodes ns vals t).1.1, v.s.ok = true) ∧ (∀ n ∈ ns, 1 ≤ n.ins.length ∧ n.ins.length ≤ 2) ∧ (goNodes ns vals t).1.1.take vals.length = vals
  | [], vals, t, _, hv => ⟨(by simpa [goNodes] using hv), (fun n hn => by cases hn), (by simp [goNodes])⟩
  | n :: ns, vals, t, h, hv => by
    unfold goNodes at h ⊢
    by_cases h1 : n.ins.all (okI vals) = false
    · rw [if_pos h1] at h; simp at h
    rw [if_neg h1] at h ⊢
    by_cases h2 : (valueR n (n.ins.map (getV vals))).2 ≠ 0
    · rw [if_pos h2] at h; exact absurd h h2
    rw [if_neg h2] at h ⊢
    have hok := valueR_ok (n := n) (l := n.ins.map (getV vals)) (by simpa using h2)
    obtain ⟨k1, k2, k3⟩ := goNodes_more ns _ _ h (fun v hm => by
      rcases List.mem_append.1 hm with hm | hm
      · exact hv v hm
      · obtain rfl := List.mem_singleton.1 hm; exact hok.2)
    refine ⟨k1, fun m hm => ?_, ?_⟩
    · rcases List.mem_cons.1 hm with rfl | hm
      · simpa using hok.1
      · exact k2 m hm
    · have := congrArg (List.take vals.length) k3
      rw [List.take_take, List.length_append, Nat.min_eq_left (by omega)] at this
      rw [this]; simp

/-- What is known of a graph that may be. -/
structure ValsOk (g : Gr) (vs : List Vl) : Prop where
  len : vs.length = g.ins.length + g.nodes.length
  il : g.ins.length ≤ 4
  nl : g.nodes.length ≤ 12
  ok : ∀ v ∈ vs, v.s.ok = true
  ins : ∀ n ∈ g.nodes, (1 ≤ n.ins.length ∧ n.ins.length ≤ 2) ∧ ∀ z ∈ n.ins, 0 ≤ z ∧ z < vs.length

theorem vals_ok {g : Gr} (h : (valuesR g).2 = 0) : ValsOk g (valuesR g).1 := by
  unfold valuesR at h ⊢
  by_cases h1 : goesInR g ≠ 0
  · rw [if_pos h1] at h; exact absurd h h1
  rw [if_neg h1] at h ⊢
  by_cases h2 : (goNodes g.nodes g.ins 0).2 ≠ 0
  · rw [if_pos h2] at h; exact absurd h h2
  rw [if_neg h2] at h ⊢
  by_cases h3 : 4096 < (goNodes g.nodes g.ins 0).1.2
  · rw [if_pos h3] at h; simp at h
  rw [if_neg h3] at h ⊢
  by_cases h4 : g.outs.all (okI (goNodes g.nodes g.ins 0).1.1) = false
  · rw [if_pos h4] at h; simp at h
  rw [if_neg h4]
  simp only [ne_eq, Decidable.not_not] at h1 h2
  unfold goesInR at h1
  by_cases h5 : 4 < g.ins.length ∨ 12 < g.nodes.length ∨ 4 < g.outs.length
  · rw [if_pos h5] at h1; cases h1
  rw [if_neg h5] at h1
  by_cases h6 : g.ins.length = 0 ∨ g.outs.length = 0
  · rw [if_pos h6] at h1; cases h1
  rw [if_neg h6] at h1
  obtain ⟨k1, _, k3⟩ := goNodes_ok _ _ _ h2
  obtain ⟨j1, j2, _⟩ := goNodes_more _ _ _ h2 (fun v hv => (insR_ok _ h1 v hv).1)
  exact ⟨k1, by omega, by omega, j1, fun n hn => ⟨j2 n hn, fun z hz => by have := (k3 n hn).2.2 z hz; simp only; rw [k1]; omega⟩⟩

end Go.Proofs.YtdhdbmfipkppiaaGreat
