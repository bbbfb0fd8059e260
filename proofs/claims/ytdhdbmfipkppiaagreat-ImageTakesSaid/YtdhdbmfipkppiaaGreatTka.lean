/- The walk of image.Put. -/
/- What image.Take makes of bytes: the plain parse, and what stands while it goes on. -/
import Derived.Test.YtdhdbmfipkppiaaGreatImb
import Derived.Test.YtdhdbmfipkppiaaGreatVok
import Derived.Test.YtdhdbmfipkppiaaGreatModO
import Derived.Test.YtdhdbmfipkppiaaGreatModF
import Derived.Test.YtdhdbmfipkppiaaGreatIma
set_option linter.unusedSimpArgs false
set_option linter.unusedVariables false
set_option linter.unnecessarySimpa false
namespace Go.Proofs.YtdhdbmfipkppiaaGreat
open Go.RowKit

/-- The bytes of a place, of an image's streams, of an image. -/
def plB (p : Int) : List Int := [p / 65536, p / 256 % 256, p % 256]
def stB (B : List Int) (L0 L1 L2 : List Isa.Cm) : Nat → List Int
  | 0 => B
  | 1 => B ++ Isa.encs L0
  | 2 => B ++ Isa.encs L0 ++ Isa.encs L1
  | _ => B ++ Isa.encs L0 ++ Isa.encs L1 ++ Isa.encs L2
def imgB (g : Gr) (pl : List Int) (L0 L1 L2 : List Isa.Cm) : List Int := stB (encG g.c ++ pl.flatMap plB) L0 L1 L2 3

def IPutPost (g : Gr) (pl : List Int) (L0 L1 L2 : List Isa.Cm) (w : World) (e : Ending) (w' : World) : Prop :=
  (mayI g pl L0 L1 L2 = 0 → ∃ v, e = .returned (.tuple #[v, .int .i64 0]) ∧ OwnB w w' v (seal_ (imgB g pl L0 L1 L2))) ∧
  (mayI g pl L0 L1 L2 ≠ 0 → e = .returned (.tuple #[.slice none 0 0, .int .i64 (mayI g pl L0 L1 L2)])) ∧ Ext w w'

theorem mayI_ok {g : Gr} {pl : List Int} {L0 L1 L2 : List Isa.Cm} (h : mayI g pl L0 L1 L2 = 0) : (valuesR g).2 = 0 ∧ fitsB (valuesR g).1 pl = true ∧ Isa.putErr L0 = 0 ∧ Isa.putErr L1 = 0 ∧ Isa.putErr L2 = 0 := by
  unfold mayI at h
  by_cases h1 : (valuesR g).2 ≠ 0
  · rw [if_pos h1] at h; exact absurd h h1
  rw [if_neg h1] at h
  by_cases h2 : fitsB (valuesR g).1 pl = false
  · rw [if_pos h2] at h; cases h
  rw [if_neg h2] at h
  by_cases h3 : Isa.putErr L0 ≠ 0
  · rw [if_pos h3] at h; exact absurd h h3
  rw [if_neg h3] at h
  by_cases h4 : Isa.putErr L1 ≠ 0
  · rw [if_pos h4] at h; exact absurd h h4
  rw [if_neg h4] at h
  exact ⟨by simpa using h1, by simpa using h2, by simpa using h3, by simpa using h4, h⟩

theorem fits_range {vs : List Vl} {pl : List Int} (h : fitsB vs pl = true) : vs.length = pl.length ∧ ∀ p ∈ pl, 0 ≤ p ∧ p ≤ 65536 := by
  unfold fitsB at h
  rw [Bool.and_eq_true, decide_eq_true_iff, List.all_eq_true] at h
  refine ⟨h.1, fun p hp => ?_⟩
  obtain ⟨i, hi, rfl⟩ := List.getElem_of_mem hp
  have := h.2 i (by simpa [h.1] using hi)
  have hs : pl[i]? = some pl[i] := by simp [hi]
  rw [hs] at this
  simp only [fitB, Bool.and_eq_true, decide_eq_true_eq, Option.getD_some] at this
  have hz := sizeZ_range (vs[i]?.getD default).s
  omega

theorem encs_ok {L : List Isa.Cm} (h : Isa.putErr L = 0) : Isa.putB L = Isa.encs L := by
  unfold Isa.putErr at h
  unfold Isa.putB
  by_cases h1 : 4096 < L.length
  · rw [if_pos h1] at h; cases h
  rw [if_neg h1] at h ⊢
  by_cases h2 : L.all Isa.mayB = true
  · rw [if_pos h2]
  · rw [if_neg h2] at h; cases h

theorem encs_len (L : List Isa.Cm) : (Isa.encs L).length ≤ 2 + 14 * L.length := by
  have h : ∀ l : List Isa.Cm, (l.flatMap Isa.enc).length ≤ 14 * l.length := by
    intro l
    induction l with
    | nil => simp
    | cons c l ih =>
      have := Isa.enc_len c
      simp only [List.flatMap_cons, List.length_append, List.length_cons]
      omega
  have := h L
  unfold Isa.encs
  rw [List.length_append, be_len]
  omega

theorem encG_le {g : Gr} (h : (valuesR g).2 = 0) (hn : ∀ n ∈ g.nodes, NdIn n) : (encG g.c).length ≤ 66000 := by
  have hgd := valid_ok h hn
  unfold valuesR at h
  by_cases h1 : goesInR g ≠ 0
  · rw [if_pos h1] at h; exact absurd h h1
  rw [if_neg h1] at h
  by_cases h2 : (goNodes g.nodes g.ins 0).2 ≠ 0
  · rw [if_pos h2] at h; exact absurd h h2
  rw [if_neg h2] at h
  by_cases h3 : 4096 < (goNodes g.nodes g.ins 0).1.2
  · rw [if_pos h3] at h; simp at h
  obtain ⟨_, _, k3⟩ := goNodes_ok _ _ _ (by simpa using h2)
  have hlong : ∀ n ∈ g.nodes, longN n.c ≤ 16 + 255 + 4096 + 4 * 255 := fun n hm => by
    have a1 := (hn n hm).il
    have a2 := (hn n hm).bl
    have a3 := (k3 n hm).1
    show 16 + n.ins.length + n.ws.length + 4 * n.bs.length ≤ _
    omega
  have hsum : ∀ l : List Nd, (∀ n ∈ l, longN n.c ≤ 16 + 255 + 4096 + 4 * 255) → ((l.map Nd.c).map longN).sum ≤ 5387 * l.length := by
    intro l
    induction l with
    | nil => intro _; simp
    | cons n l ih =>
      intro hh
      have b1 := hh n (by simp)
      have b2 := ih (fun m hm => hh m (by simp [hm]))
      simp only [List.map_cons, List.sum_cons, List.length_cons]
      omega
  have := hsum _ hlong
  have := hgd.nl
  have := hgd.il
  have := hgd.ol
  rw [encG_len]
  show 3 + 4 * (g.c.ins).length + ((g.nodes.map Nd.c).map longN).sum + (g.c.outs).length ≤ 66000
  have e1 : g.c.ins.length = g.ins.length := by simp [Gr.c]
  have e2 : g.c.outs.length = g.outs.length := by simp [Gr.c]
  rw [e1, e2]
  omega

theorem encs_bytes (L : List Isa.Cm) : ∀ z ∈ Isa.encs L, 0 ≤ z ∧ z ≤ 255 := by
  intro z hz
  unfold Isa.encs at hz
  rcases List.mem_append.1 hz with h | h
  · exact be_range _ _ z h
  · obtain ⟨c, _, hc⟩ := List.mem_flatMap.1 h
    unfold Isa.enc at hc
    rcases List.mem_append.1 hc with h | h
    · exact be_range _ _ z h
    · obtain ⟨x, _, hx⟩ := List.mem_flatMap.1 h
      exact be_range _ _ z hx

theorem img_bytes (g : Gr) {pl : List Int} (L0 L1 L2 : List Isa.Cm) (h : ∀ p ∈ pl, 0 ≤ p ∧ p ≤ 65536) : ∀ z ∈ imgB g pl L0 L1 L2, 0 ≤ z ∧ z ≤ 255 := by
  intro z hz
  unfold imgB stB at hz
  simp only [List.mem_append] at hz
  rcases hz with (((hz | hz) | hz) | hz) | hz
  · exact encG_bytes _ z hz
  · obtain ⟨p, hp, hx⟩ := List.mem_flatMap.1 hz
    have := h p hp
    simp only [plB, List.mem_cons, List.not_mem_nil, or_false] at hx
    rcases hx with rfl | rfl | rfl <;> omega
  · exact encs_bytes _ z hz
  · exact encs_bytes _ z hz
  · exact encs_bytes _ z hz

theorem stB_le (B : List Int) (L0 L1 L2 : List Isa.Cm) (k : Nat) (hB : B.length ≤ 66000 + 3 * 16) (h0 : L0.length ≤ 300) (h1 : L1.length ≤ 300) (h2 : L2.length ≤ 300) : (stB B L0 L1 L2 k).length ≤ 90000 := by
  have a0 := encs_len L0
  have a1 := encs_len L1
  have a2 := encs_len L2
  match k with
  | 0 => simp only [stB]; omega
  | 1 => simp only [stB, List.length_append]; omega
  | 2 => simp only [stB, List.length_append]; omega
  | k + 3 => simp only [stB, List.length_append]; omega

theorem plB_len (pl : List Int) : (pl.flatMap plB).length = 3 * pl.length := by
  induction pl with
  | nil => rfl
  | cons p l ih => simp only [List.flatMap_cons, List.length_append, ih, List.length_cons, plB]; simp; omega

set_option maxRecDepth 8000 in
set_option maxHeartbeats 6400000 in
theorem iput_calls (g : Gr) (pV s0 s1 s2 : Value) (pl : List Int) (L0 L1 L2 : List Isa.Cm) (w : World) (hg : GrAt w g) (hp : Ints .i64 w pV pl) (hpk : ∀ z ∈ pl, InK .i64 z)
    (h0 : Isa.Cmds w s0 L0) (h1 : Isa.Cmds w s1 L1) (h2 : Isa.Cmds w s2 L2) (hl0 : L0.length ≤ 300) (hl1 : L1.length ≤ 300) (hl2 : L2.length ≤ 300) :
    Calls Tryz.prog 8 #[.agg #[g.iV, g.nV, g.oV, pV, s0, s1, s2]] w (IPutPost g pl L0 L1 L2 w) := by
  have HP : Hid (∀ e w', ((mayI g pl L0 L1 L2 = 0 → ∃ v, e = .returned (.tuple #[v, .int .i64 0]) ∧ OwnB w w' v (seal_ (imgB g pl L0 L1 L2))) ∧
    (mayI g pl L0 L1 L2 ≠ 0 → e = .returned (.tuple #[.slice none 0 0, .int .i64 (mayI g pl L0 L1 L2)])) ∧ Ext w w') → IPutPost g pl L0 L1 L2 w e w') := fun e w' h => h
  generalize IPutPost g pl L0 L1 L2 w = PP at *
  have hb0 := Blk.new w #[g.iV, g.nV, g.oV, pV, s0, s1, s2] 32
  have hE1 := ext_alloc w (.cells #[g.iV, g.nV, g.oV, pV, s0, s1, s2] 32)
  have hmay := fun W (h : Ext w W) => imay_calls g pV s0 s1 s2 pl L0 L1 L2 W (hg.ext h) (hp.ext h) hpk (h0.below h (Nat.le_refl _)) (h1.below h (Nat.le_refl _)) (h2.below h (Nat.le_refl _))
  unfold MayP at hmay
  go_enter Tryz.func8, Tryz.ntmps8
  go_upto_region 1 with fail
  generalize World.alloc w _ = w1 at *
  replace hmay := hmay _ hE1
  have q0 : World.cell? w1 ⟨w.heap.size, 0, none⟩ = some g.iV := hb0.cell 0
  have q1 : World.cell? w1 ⟨w.heap.size, 1, none⟩ = some g.nV := hb0.cell 1
  have q2 : World.cell? w1 ⟨w.heap.size, 2, none⟩ = some g.oV := hb0.cell 2
  have q3 : World.cell? w1 ⟨w.heap.size, 3, none⟩ = some pV := hb0.cell 3
  have q4 : World.cell? w1 ⟨w.heap.size, 4, none⟩ = some s0 := hb0.cell 4
  have q5 : World.cell? w1 ⟨w.heap.size, 5, none⟩ = some s1 := hb0.cell 5
  have q6 : World.cell? w1 ⟨w.heap.size, 6, none⟩ = some s2 := hb0.cell 6
  by_cases hm : mayI g pl L0 L1 L2 = 0
  · obtain ⟨hv0, hfit, e0, e1, e2⟩ := mayI_ok hm
    obtain ⟨hfl, hfr⟩ := fits_range hfit
    have hge := encG_le hv0 (fun n hn => (hg.each n hn).isIn)
    have hvl := (vals_ok hv0).len
    have hil := (vals_ok hv0).il
    have hnl := (vals_ok hv0).nl
    have HMZ := Lib.hid hm
    rw [hm] at hmay
    clear hm
    go_wp2_with fail
    refine hmay.mono ?_
    rintro e w2 ⟨rfl, hE2⟩
    have hEw := hE1.trans hE2
    replace hb0 := hb0.ext hE2
    clear q0 q1 q2 q3 q4 q5 q6 hmay hE1 hE2
    have hput := modelPut_calls g w2 (hg.ext hEw)
    unfold PutPost at hput
    have q0 : World.cell? w2 ⟨w.heap.size, 0, none⟩ = some g.iV := hb0.cell 0
    have q1 : World.cell? w2 ⟨w.heap.size, 1, none⟩ = some g.nV := hb0.cell 1
    have q2 : World.cell? w2 ⟨w.heap.size, 2, none⟩ = some g.oV := hb0.cell 2
    go_wp2_with fail
    refine hput.mono ?_
    rintro e w3 ⟨hA, _, hE3⟩
    obtain ⟨v, rfl, hob⟩ := hA hv0
    have hb0w2 := hb0
    replace hb0 := hb0.ext hE3
    clear q0 q1 q2 hput hA
    obtain ⟨Ap, cp, ep, hp1, hp2, hpc⟩ := id hp.form
    unfold maxLen at hp2
    have q3 : World.cell? w3 ⟨w.heap.size, 3, none⟩ = some (.slice Ap pl.length cp) := by rw [← ep]; exact hb0.cell 3
    have h3 := hEw.trans hE3
    have hob1 : OwnB w2 w3 v (encG g.c ++ (pl.take 0).flatMap plB) := by simpa using hob
    have HE23 := Lib.hid hE3
    have HEW := Lib.hid hEw
    have HB0 := Lib.hid (show Blk w2 w.heap.size #[g.iV, g.nV, g.oV, pV, s0, s1, s2] 32 from hb0w2)
    have HPC := Lib.hid hpc
    have HEP := Lib.hid ep
    have HF := Lib.hid hfr
    have HFL := Lib.hid hfl
    clear ep hpc hfr hob hfl hfit hv0 hE3 hEw h3 hb0w2
    go_wp2_with fail
    clear q3
    go_loopw [5, 27] (fun v0 i wr => ∃ (v : Value) (k : Nat) (bs : List Int), v = v0 ∧ k ≤ pl.length ∧ i = .int .i64 k ∧ Hid (bs = encG g.c ++ (pl.take k).flatMap plB) ∧ Hid (OwnB w2 wr v bs) ∧ Ext w2 wr) (fun _ i _ => pl.length - (intOf i).toNat)
    case atStart => exact ⟨_, 0, _, rfl, by omega, rfl, rfl, hob1, HE23.out⟩
    case round =>
      clear hob1
      obtain ⟨v, k, bs, rfl, hk, rfl, HB, HO, hE⟩ := hrel
      by_cases hlt : k < pl.length
      · obtain ⟨bp, offp, rfl, d0⟩ := HPC.out k hlt
        have hps : pl[k]? = some pl[k] := by simp [hlt]
        rw [hps] at d0
        simp only [Option.getD_some] at d0
        have hpr := HF.out _ (List.getElem_mem hlt)
        have HT : Hid (pl.take (k + 1) = pl.take k ++ [pl[k]]) := List.take_succ_eq_append_getElem hlt
        generalize pl[k] = p at *
        have d1 : World.cell? wr ⟨bp, offp + k, none⟩ = some (.int .i64 p) := cell_ext d0 _ (HEW.out.trans hE)
        clear d0 hps
        go_upto_region 8 with fail
        clear d1
        have hEn := ext_alloc wr (.cells #[.int .u8 (p / 65536), .int .u8 (p / 256 % 256), .int .u8 (p % 256)] 5)
        have hnew := row_new wr #[.int .u8 (p / 65536), .int .u8 (p / 256 % 256), .int .u8 (p % 256)] 5 3 1 rfl (by decide)
        have hown : (wr.alloc (.cells #[.int .u8 (p / 65536), .int .u8 (p / 256 % 256), .int .u8 (p % 256)] 5)).ownsRow w2.heap.size 5 1 v bs.length (bs.map (.int .u8)) := HO.out.ext hEn
        have hbase := (hE.trans hEn).size
        have hbl : bs.length ≤ 66000 + 3 * 16 := by
          have hb := HB.out
          have := congrArg List.length hb
          rw [List.length_append, plB_len, List.length_take] at this
          have := HFL.out
          omega
        have hk1 : bs.length + 3 ≤ 140737488355328 := by omega
        have hk2 : (bs.length + 3) * 1 ≤ 140737488355328 := by omega
        have hone : ∀ u ∈ (#[.int .u8 (p / 65536), .int .u8 (p / 256 % 256), .int .u8 (p % 256)] : Array Value).toList, u.oneCell' = true := one_ints .u8 [p / 65536, p / 256 % 256, p % 256]
        have HE9 : Hid (∀ w', World.grownBy (wr.alloc (.cells #[.int .u8 (p / 65536), .int .u8 (p / 256 % 256), .int .u8 (p % 256)] 5)) w' v.ownBlock → Ext w2 w') := fun w' hg => Below.grown (hE.trans hEn) hg (hE.trans hEn).size (fun q hq => (hown.lt q hq).1)
        have HA9 : Hid (∀ v' w', w'.ownsRow w2.heap.size 5 1 v' (bs.length + 3) (bs.map (.int .u8) ++ (#[.int .u8 (p / 65536), .int .u8 (p / 256 % 256), .int .u8 (p % 256)] : Array Value).toList) → OwnB w2 w' v' (bs ++ plB p)) := fun v' w' ho => by
          unfold OwnB
          rw [List.length_append, List.map_append]
          exact ho
        have HB2 : Hid (bs ++ plB p = encG g.c ++ (pl.take (k + 1)).flatMap plB) := by show _ = _; rw [HB.out, HT.out, List.flatMap_append, List.append_assoc]; simp
        clear hE
        go_wp2_with (at_builtin; refine wpList_append_row rfl rfl elem_u8 hown rfl hnew rfl hone hk1 hk2 hbase ?_; intro v' w' ho hgr _)
        have HO9 := Lib.hid (HA9.out _ _ ho)
        have hE9 := HE9.out _ hgr
        clear ho hgr hown hnew HA9 HE9
        go_roundw
        case rel => exact ⟨_, k + 1, _, rfl, by omega, by go_num, HB2, HO9, hE9⟩
        case measure => simp [intOf]; omega
      · have hkk : k = pl.length := by omega
        subst hkk
        rw [List.take_length] at HB
        have hb4 := HB0.out.ext hE
        have q4 : World.cell? wr ⟨w.heap.size, 4, none⟩ = some s0 := hb4.cell 4
        have q5 : World.cell? wr ⟨w.heap.size, 5, none⟩ = some s1 := hb4.cell 5
        have q6 : World.cell? wr ⟨w.heap.size, 6, none⟩ = some s2 := hb4.cell 6
        have hbl0 : bs.length ≤ 66000 + 3 * 16 := by
          have hb := HB.out
          have := congrArg List.length hb
          rw [List.length_append, plB_len] at this
          have := HFL.out
          omega
        have HB0L := Lib.hid hbl0
        obtain ⟨B0, hB0⟩ : ∃ B, B = bs := ⟨_, rfl⟩
        rw [← hB0] at HB0L
        have x0 : ∀ W : World, (Instr.index 30 (.agg #[s0, s1, s2]) (.int .i64 0)).run Tryz.prog W = .ok s0 W := fun _ => by kernel_rfl
        have x1 : ∀ W : World, (Instr.index 30 (.agg #[s0, s1, s2]) (.int .i64 1)).run Tryz.prog W = .ok s1 W := fun _ => by kernel_rfl
        have x2 : ∀ W : World, (Instr.index 30 (.agg #[s0, s1, s2]) (.int .i64 2)).run Tryz.prog W = .ok s2 W := fun _ => by kernel_rfl
        have HBB := Lib.hid (hB0.trans HB.out)
        have HO0 := Lib.hid (show OwnB w2 wr v (stB B0 L0 L1 L2 0) from by rw [hB0]; exact HO.out)
        clear hB0 HB HO hbl0 hb4
        go_wp2_with fail
        clear q4 q5 q6
        go_loopw [5, 45] (fun v0 i wr => ∃ (v : Value) (k : Nat) (bs : List Int), v = v0 ∧ k ≤ 3 ∧ i = .int .i64 k ∧ Hid (bs = stB B0 L0 L1 L2 k) ∧ Hid (OwnB w2 wr v bs) ∧ Ext w2 wr) (fun _ i _ => 3 - (intOf i).toNat)
        case atStart => exact ⟨_, 0, _, rfl, by omega, rfl, rfl, HO0, hE⟩
        case round =>
          clear HO0 hE
          obtain ⟨v, k, bs, rfl, hk, rfl, HB, HO, hE⟩ := hrel
          rcases (by omega : k = 0 ∨ k = 1 ∨ k = 2 ∨ k = 3) with rfl | rfl | rfl | rfl
          · have hput := Isa.put_calls s0 L0 wr (h0.below (HEW.out.trans hE) (Nat.le_refl _))
            unfold Isa.PutPost at hput
            rw [e0, encs_ok e0] at hput
            have hln := encs_len L0
            have HB2 : Hid (bs ++ Isa.encs L0 = stB B0 L0 L1 L2 1) := by show _ = _; rw [HB.out]; rfl
            have hbl : bs.length ≤ 90000 := by rw [HB.out]; exact stB_le B0 L0 L1 L2 0 HB0L.out hl0 hl1 hl2
            generalize Isa.encs L0 = ys at *
            go_wp2_with fail
            refine hput.mono ?_
            rintro e wa ⟨vb, rfl, hob, hEa⟩
            have hEa : Ext wr wa := hEa
            have hown : wa.ownsRow w2.heap.size 5 1 v bs.length (bs.map (.int .u8)) := HO.out.ext hEa
            have hnew : Row wa vb ys.length 1 (ys.map (.int .u8)) := row_of_own hob
            have hE4 := hE.trans hEa
            have hbase := hE4.size
            have hk1 : bs.length + ys.length ≤ 140737488355328 := by omega
            have hk2 : (bs.length + ys.length) * 1 ≤ 140737488355328 := by omega
            have hone := one_ints .u8 ys
            have HE9 : Hid (∀ w', wa.grownBy w' v.ownBlock → Ext w2 w') := fun w' hg => Below.grown (hE.trans hEa) hg (hE.trans hEa).size (fun q hq => (hown.lt q hq).1)
            have HA9 : Hid (∀ v' w', w'.ownsRow w2.heap.size 5 1 v' (bs.length + ys.length) (bs.map (.int .u8) ++ ys.map (.int .u8)) → OwnB w2 w' v' (bs ++ ys)) := fun v' w' ho => by
              unfold OwnB
              rw [List.length_append, List.map_append]
              exact ho
            clear hput hob hEa hE hE4
            go_wp2_with (at_builtin; refine wpList_append_row rfl rfl elem_u8 hown rfl hnew rfl hone hk1 hk2 hbase ?_; intro v' w' ho hgr _)
            have HO9 := Lib.hid (HA9.out _ _ ho)
            have hE9 := HE9.out _ hgr
            clear ho hgr hown hnew HA9 HE9
            go_roundw
            case rel => exact ⟨_, 1, _, rfl, by omega, rfl, HB2, HO9, hE9⟩
            case measure => simp [intOf]
          · have hput := Isa.put_calls s1 L1 wr (h1.below (HEW.out.trans hE) (Nat.le_refl _))
            unfold Isa.PutPost at hput
            rw [e1, encs_ok e1] at hput
            have hln := encs_len L1
            have HB2 : Hid (bs ++ Isa.encs L1 = stB B0 L0 L1 L2 2) := by show _ = _; rw [HB.out]; rfl
            have hbl : bs.length ≤ 90000 := by rw [HB.out]; exact stB_le B0 L0 L1 L2 1 HB0L.out hl0 hl1 hl2
            generalize Isa.encs L1 = ys at *
            go_wp2_with fail
            refine hput.mono ?_
            rintro e wa ⟨vb, rfl, hob, hEa⟩
            have hEa : Ext wr wa := hEa
            have hown : wa.ownsRow w2.heap.size 5 1 v bs.length (bs.map (.int .u8)) := HO.out.ext hEa
            have hnew : Row wa vb ys.length 1 (ys.map (.int .u8)) := row_of_own hob
            have hE4 := hE.trans hEa
            have hbase := hE4.size
            have hk1 : bs.length + ys.length ≤ 140737488355328 := by omega
            have hk2 : (bs.length + ys.length) * 1 ≤ 140737488355328 := by omega
            have hone := one_ints .u8 ys
            have HE9 : Hid (∀ w', wa.grownBy w' v.ownBlock → Ext w2 w') := fun w' hg => Below.grown (hE.trans hEa) hg (hE.trans hEa).size (fun q hq => (hown.lt q hq).1)
            have HA9 : Hid (∀ v' w', w'.ownsRow w2.heap.size 5 1 v' (bs.length + ys.length) (bs.map (.int .u8) ++ ys.map (.int .u8)) → OwnB w2 w' v' (bs ++ ys)) := fun v' w' ho => by
              unfold OwnB
              rw [List.length_append, List.map_append]
              exact ho
            clear hput hob hEa hE hE4
            go_wp2_with (at_builtin; refine wpList_append_row rfl rfl elem_u8 hown rfl hnew rfl hone hk1 hk2 hbase ?_; intro v' w' ho hgr _)
            have HO9 := Lib.hid (HA9.out _ _ ho)
            have hE9 := HE9.out _ hgr
            clear ho hgr hown hnew HA9 HE9
            go_roundw
            case rel => exact ⟨_, 2, _, rfl, by omega, rfl, HB2, HO9, hE9⟩
            case measure => simp [intOf]
          · have hput := Isa.put_calls s2 L2 wr (h2.below (HEW.out.trans hE) (Nat.le_refl _))
            unfold Isa.PutPost at hput
            rw [e2, encs_ok e2] at hput
            have hln := encs_len L2
            have HB2 : Hid (bs ++ Isa.encs L2 = stB B0 L0 L1 L2 3) := by show _ = _; rw [HB.out]; rfl
            have hbl : bs.length ≤ 90000 := by rw [HB.out]; exact stB_le B0 L0 L1 L2 2 HB0L.out hl0 hl1 hl2
            generalize Isa.encs L2 = ys at *
            go_wp2_with fail
            refine hput.mono ?_
            rintro e wa ⟨vb, rfl, hob, hEa⟩
            have hEa : Ext wr wa := hEa
            have hown : wa.ownsRow w2.heap.size 5 1 v bs.length (bs.map (.int .u8)) := HO.out.ext hEa
            have hnew : Row wa vb ys.length 1 (ys.map (.int .u8)) := row_of_own hob
            have hE4 := hE.trans hEa
            have hbase := hE4.size
            have hk1 : bs.length + ys.length ≤ 140737488355328 := by omega
            have hk2 : (bs.length + ys.length) * 1 ≤ 140737488355328 := by omega
            have hone := one_ints .u8 ys
            have HE9 : Hid (∀ w', wa.grownBy w' v.ownBlock → Ext w2 w') := fun w' hg => Below.grown (hE.trans hEa) hg (hE.trans hEa).size (fun q hq => (hown.lt q hq).1)
            have HA9 : Hid (∀ v' w', w'.ownsRow w2.heap.size 5 1 v' (bs.length + ys.length) (bs.map (.int .u8) ++ ys.map (.int .u8)) → OwnB w2 w' v' (bs ++ ys)) := fun v' w' ho => by
              unfold OwnB
              rw [List.length_append, List.map_append]
              exact ho
            clear hput hob hEa hE hE4
            go_wp2_with (at_builtin; refine wpList_append_row rfl rfl elem_u8 hown rfl hnew rfl hone hk1 hk2 hbase ?_; intro v' w' ho hgr _)
            have HO9 := Lib.hid (HA9.out _ _ ho)
            have hE9 := HE9.out _ hgr
            clear ho hgr hown hnew HA9 HE9
            go_roundw
            case rel => exact ⟨_, 3, _, rfl, by omega, rfl, HB2, HO9, hE9⟩
            case measure => simp [intOf]
          · have hbe : bs = imgB g pl L0 L1 L2 := by rw [HB.out, HBB.out]; rfl
            subst hbe
            have hlen : (imgB g pl L0 L1 L2).length ≤ 100000 := by
              have h9 := stB_le B0 L0 L1 L2 3 HB0L.out hl0 hl1 hl2
              rw [HBB.out] at h9
              exact Nat.le_trans h9 (by omega)
            have hsl := seal_calls _ (imgB g pl L0 L1 L2) wr (ints_of_own HO.out) (img_bytes g L0 L1 L2 HF.out) hlen
            unfold Made at hsl
            clear hlen
            go_wp2_with fail
            refine hsl.mono ?_
            rintro e wz ⟨vz, rfl, hoz, hEz⟩
            have hEz : Ext wr wz := hEz
            have hEf := HEW.out.trans hE
            have HOZ := Lib.hid (OwnB.lower (w0 := w) hoz hEf)
            have HEZ := Lib.hid (hEf.trans hEz)
            clear hoz hEz hsl hE hEf
            go_wp2_with fail
            exact HP.out _ _ ⟨fun _ => ⟨vz, rfl, HOZ.out⟩, fun h => absurd HMZ.out h, HEZ.out⟩
  · have hz1 : (mayI g pl L0 L1 L2 != 0) = true := by simpa using hm
    have HM := Lib.hid hm
    generalize mayI g pl L0 L1 L2 = z at *
    clear hm
    go_wp2_with fail
    refine hmay.mono ?_
    rintro e w2 ⟨rfl, hE2⟩
    have HH := Lib.hid (hE1.trans hE2)
    clear hmay q0 q1 q2 q3 q4 q5 q6
    go_wp2_with fail
    exact HP.out _ _ ⟨fun h => absurd h HM.out, fun _ => rfl, HH.out⟩

end Go.Proofs.YtdhdbmfipkppiaaGreat

namespace Go.Proofs.YtdhdbmfipkppiaaGreat
set_option maxRecDepth 10000
open Go.RowKit

/-- So many places, of three bytes each. -/
def plc3 : Nat → List Int → Option (List Int × List Int)
  | 0, bs => some ([], bs)
  | n + 1, bs => if bs.length < 3 then none else (plc3 n (bs.drop 3)).map fun q => ((65536 * bs[0]?.getD 0 + 256 * bs[1]?.getD 0 + bs[2]?.getD 0) :: q.1, q.2)
/-- So many streams. -/
def stT : Nat → List Int → Option (List (List Isa.Cm) × List Int)
  | 0, bs => some ([], bs)
  | n + 1, bs => match Isa.takeL bs with
    | none => none
    | some (L, m) => (stT n (bs.drop m)).map fun q => (L :: q.1, q.2)
/-- An image's bytes, without the check at their end. -/
def takeB (bs : List Int) : Option (Gc × List Int × List (List Isa.Cm)) :=
  match taken bs with
  | none => none
  | some (c, n) => match plc3 (c.ins.length + c.nodes.length) (bs.drop n) with
    | none => none
    | some (pl, r) => match stT 3 r with
      | none => none
      | some (Ls, r') => if r' = [] ∧ mayI c.gr pl (Ls[0]?.getD []) (Ls[1]?.getD []) (Ls[2]?.getD []) = 0 then some (c, pl, Ls) else none
def takeI (zs : List Int) : Option (Gc × List Int × List (List Isa.Cm)) := if openOk zs then takeB (zs.take (zs.length - 4)) else none

/-- A place more. -/
theorem plc3_step {N k : Nat} {ps : List Int} {r0 r : List Int} (h : plc3 N r0 = (plc3 (N - k) r).map fun q => (ps ++ q.1, q.2)) (hk : k < N) (hr : 3 ≤ r.length) :
    plc3 N r0 = (plc3 (N - (k + 1)) (r.drop 3)).map fun q => ((ps ++ [65536 * r[0]?.getD 0 + 256 * r[1]?.getD 0 + r[2]?.getD 0]) ++ q.1, q.2) := by
  rw [h, show N - k = (N - (k + 1)) + 1 by omega, plc3, if_neg (by omega), Option.map_map]
  congr 1
  funext q
  simp
theorem plc3_stop {N k : Nat} {ps : List Int} {r0 r : List Int} (h : plc3 N r0 = (plc3 (N - k) r).map fun q => (ps ++ q.1, q.2)) (hk : k < N) (hr : r.length < 3) : plc3 N r0 = none := by
  rw [h, show N - k = (N - (k + 1)) + 1 by omega, plc3, if_pos hr]
  rfl
theorem plc3_end {N k : Nat} {ps : List Int} {r0 r : List Int} (h : plc3 N r0 = (plc3 (N - k) r).map fun q => (ps ++ q.1, q.2)) (hk : k = N) : plc3 N r0 = some (ps, r) := by
  rw [h, hk, Nat.sub_self, plc3]
  simp
theorem stT_step {N k m : Nat} {ls : List (List Isa.Cm)} {L : List Isa.Cm} {r0 r : List Int} (h : stT N r0 = (stT (N - k) r).map fun q => (ls ++ q.1, q.2)) (hk : k < N) (hr : Isa.takeL r = some (L, m)) :
    stT N r0 = (stT (N - (k + 1)) (r.drop m)).map fun q => ((ls ++ [L]) ++ q.1, q.2) := by
  rw [h, show N - k = (N - (k + 1)) + 1 by omega, stT]
  simp only [hr]
  rw [Option.map_map]
  congr 1
  funext q
  simp
theorem stT_stop {N k : Nat} {ls : List (List Isa.Cm)} {r0 r : List Int} (h : stT N r0 = (stT (N - k) r).map fun q => (ls ++ q.1, q.2)) (hk : k < N) (hr : Isa.takeL r = none) : stT N r0 = none := by
  rw [h, show N - k = (N - (k + 1)) + 1 by omega, stT]
  simp only [hr]
  rfl
theorem stT_end {N k : Nat} {ls : List (List Isa.Cm)} {r0 r : List Int} (h : stT N r0 = (stT (N - k) r).map fun q => (ls ++ q.1, q.2)) (hk : k = N) : stT N r0 = some (ls, r) := by
  rw [h, hk, Nat.sub_self, stT]
  simp

/-- How many bytes commands have that were taken. -/
theorem takeL_le {zs : List Int} {l : List Isa.Cm} {m : Nat} (h : Isa.takeL zs = some (l, m)) : m ≤ zs.length := by
  unfold Isa.takeL at h
  split at h
  · cases h
  · cases hg : Isa.goTake (Isa.numOf (zs.take 2)).toNat (zs.drop 2) with
    | none => rw [hg] at h; cases h
    | some q =>
      rw [hg] at h
      simp only [Option.map_some, Option.some.injEq, Prod.mk.injEq] at h
      omega
theorem taken_le {bs : List Int} {c : Gc} {n : Nat} (h : taken bs = some (c, n)) : n ≤ bs.length ∧ bs ≠ [] := by
  unfold taken at h
  split at h
  · rename_i hh
    simp only [Option.some.injEq, Prod.mk.injEq] at h
    refine ⟨by omega, fun e => ?_⟩
    subst e
    have h3 := hh.1
    revert h3
    decide
  · cases h

/-- The frame: all that was there before the model was taken is as it was, but the image's box. -/
theorem gb_step {a b c : World} {row r2 : Option Nat} (h : a.grownBy b row) (k : b.grownBy c r2) (hr : ∀ q, r2 = some q → some q = row ∨ a.heap.size ≤ q) : a.grownBy c row :=
  ⟨k.os.trans h.os, k.tape.trans h.tape, k.output.trans h.output, Nat.le_trans h.size k.size, fun x hx hne => (k.block x (Nat.lt_of_lt_of_le hx h.size) (fun e => by
    rcases hr x e.symm with h1 | h1
    · exact hne h1
    · omega)).trans (h.block x hx hne)⟩
theorem gb_ext {a b c : World} {row : Option Nat} (h : a.grownBy b row) (k : Ext b c) : a.grownBy c row := gb_step h (grown_of_ext k) (fun q hq => by cases hq)

/-- What stands while places and streams are taken. -/
structure TkI (wO wG W : World) (g : Gr) (pv s0 s1 s2 : Value) (ps : List Int) (L0 L1 L2 : List Isa.Cm) : Prop where
  box : Blk W wO.heap.size #[g.iV, g.nV, g.oV, pv, s0, s1, s2] 32
  gb : wG.grownBy W (some wO.heap.size)
  pl : W.ownsRow wG.heap.size 3 1 pv ps.length (ps.map (.int .i64))
  st0 : W.ownsRow wG.heap.size 75 14 s0 L0.length (L0.flatMap Isa.Cm.cs)
  st1 : W.ownsRow wG.heap.size 75 14 s1 L1.length (L1.flatMap Isa.Cm.cs)
  st2 : W.ownsRow wG.heap.size 75 14 s2 L2.length (L2.flatMap Isa.Cm.cs)
  lt : wO.heap.size < wG.heap.size
  ext : Ext wO wG
theorem TkI.later {wO wG W W' : World} {g : Gr} {pv s0 s1 s2 : Value} {ps : List Int} {L0 L1 L2 : List Isa.Cm} (h : TkI wO wG W g pv s0 s1 s2 ps L0 L1 L2) (e : Ext W W') : TkI wO wG W' g pv s0 s1 s2 ps L0 L1 L2 :=
  ⟨h.box.ext e, gb_ext h.gb e, World.ownsRow.kept (row := none) h.pl (grown_of_ext e) (by cases pv.ownBlock <;> simp), World.ownsRow.kept (row := none) h.st0 (grown_of_ext e) (by cases s0.ownBlock <;> simp), World.ownsRow.kept (row := none) h.st1 (grown_of_ext e) (by cases s1.ownBlock <;> simp), World.ownsRow.kept (row := none) h.st2 (grown_of_ext e) (by cases s2.ownBlock <;> simp), h.lt, h.ext⟩
theorem TkI.extO {wO wG W : World} {g : Gr} {pv s0 s1 s2 : Value} {ps : List Int} {L0 L1 L2 : List Isa.Cm} (h : TkI wO wG W g pv s0 s1 s2 ps L0 L1 L2) : Ext wO W :=
  ⟨h.gb.os.trans h.ext.os, h.gb.tape.trans h.ext.tape, h.gb.output.trans h.ext.output, Nat.le_trans h.ext.size h.gb.size, fun x hx => (h.gb.block x (Nat.lt_of_lt_of_le hx h.ext.size) (fun e => by have := Option.some.inj e; omega)).trans (h.ext.block x hx)⟩

/-- A place is laid behind the others. -/
theorem TkI.place {wO wG W W1 : World} {g : Gr} {pv v1 : Value} {ps : List Int} {z : Int} {n : Nat} (h : TkI wO wG W g pv (.slice none 0 0) (.slice none 0 0) (.slice none 0 0) ps [] [] []) (hn : n = ps.length)
    (ho : W1.ownsRow wG.heap.size 3 1 v1 (n + 1) (ps.map (.int .i64) ++ [.int .i64 z])) (hg : W.grownBy W1 pv.ownBlock) :
    TkI wO wG (W1.setCell ⟨wO.heap.size, 3, none⟩ v1) g v1 (.slice none 0 0) (.slice none 0 0) (.slice none 0 0) (ps ++ [z]) [] [] [] := by
  subst hn
  have hb1 : Blk W1 wO.heap.size #[g.iV, g.nV, g.oV, pv, .slice none 0 0, .slice none 0 0, .slice none 0 0] 32 := h.box.grown hg (fun e => by have := (h.pl.lt _ e.symm).1; have := h.lt; omega)
  have hlt := h.lt
  refine ⟨by simpa using hb1.set 3 v1, gb_step (gb_step h.gb hg (fun q hq => .inr (h.pl.lt q hq).1)) (setCell_grown W1 wO.heap.size 3 v1) (fun q hq => .inl (by rw [← hq])), ?_, World.ownsRow_nil _ _ _ _, World.ownsRow_nil _ _ _ _, World.ownsRow_nil _ _ _ _, h.lt, h.ext⟩
  have := ownsRow_setCell_below (a := ⟨wO.heap.size, 3, none⟩) ho (by show wO.heap.size < wG.heap.size; exact hlt) v1
  rw [List.length_append, List.map_append]
  exact this

end Go.Proofs.YtdhdbmfipkppiaaGreat
