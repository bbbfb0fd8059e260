/- The walk of image.Put. -/
/- The walk of the head of the laws of images: the document's example. -/
import Derived.Test.YtdhdbmfipkppiaaImb
import Derived.Test.YtdhdbmfipkppiaaSumW
import Derived.Test.YtdhdbmfipkppiaaModO
import Derived.Test.YtdhdbmfipkppiaaVok
namespace Go.Proofs.Ytdhdbmfipkppiaa
set_option linter.unusedSimpArgs false
set_option linter.unusedVariables false
set_option linter.unnecessarySimpa false
open Go.RowKit

/-- The bytes of a place, of an image's streams, of an image. -/
def plB (p : Int) : List Int := [p / 65536, p / 256 % 256, p % 256]
def stB (B : List Int) (L0 L1 L2 : List Isa.Cm) : Nat → List Int
  | 0 => B
  | 1 => B ++ Isa.encs L0
  | 2 => B ++ Isa.encs L0 ++ Isa.encs L1
  | _ => B ++ Isa.encs L0 ++ Isa.encs L1 ++ Isa.encs L2
def imgB (g : Gr) (pl : List Int) (L0 L1 L2 : List Isa.Cm) : List Int := stB (encG g.c ++ pl.flatMap plB) L0 L1 L2 3

def IPutPost (g : Gr) (pl : List Int) (L0 L1 L2 : List Isa.Cm) (w : World) (e : Ending) (w' : World) : Prop :=
  (mayI g pl L0 L1 L2 = 0 → ∃ v, e = .returned (.tuple #[v, .int .i64 0]) ∧ OwnB w w' v (seal_ (imgB g pl L0 L1 L2))) ∧
  (mayI g pl L0 L1 L2 ≠ 0 → e = .returned (.tuple #[.slice none 0 0, .int .i64 (mayI g pl L0 L1 L2)])) ∧ Ext w w'

theorem mayI_ok {g : Gr} {pl : List Int} {L0 L1 L2 : List Isa.Cm} (h : mayI g pl L0 L1 L2 = 0) : (valuesR g).2 = 0 ∧ fitsB (valuesR g).1 pl = true ∧ Isa.putErr L0 = 0 ∧ Isa.putErr L1 = 0 ∧ Isa.putErr L2 = 0 := by
  unfold mayI at h
  by_cases h1 : (valuesR g).2 ≠ 0
  · rw [if_pos h1] at h; exact absurd h h1
  rw [if_neg h1] at h
  by_cases h2 : fitsB (valuesR g).1 pl = false
  · rw [if_pos h2] at h; cases h
  rw [if_neg h2] at h
  by_cases h3 : Isa.putErr L0 ≠ 0
  · rw [if_pos h3] at h; exact absurd h h3
  rw [if_neg h3] at h
  by_cases h4 : Isa.putErr L1 ≠ 0
  · rw [if_pos h4] at h; exact absurd h h4
  rw [if_neg h4] at h
  exact ⟨by simpa using h1, by simpa using h2, by simpa using h3, by simpa using h4, h⟩

theorem fits_range {vs : List Vl} {pl : List Int} (h : fitsB vs pl = true) : vs.length = pl.length ∧ ∀ p ∈ pl, 0 ≤ p ∧ p ≤ 65536 := by
  unfold fitsB at h
  rw [Bool.and_eq_true, decide_eq_true_iff, List.all_eq_true] at h
  refine ⟨h.1, fun p hp => ?_⟩
  obtain ⟨i, hi, rfl⟩ := List.getElem_of_mem hp
  have := h.2 i (by simpa [h.1] using hi)
  have hs : pl[i]? = some pl[i] := by simp [hi]
  rw [hs] at this
  simp only [fitB, Bool.and_eq_true, decide_eq_true_eq, Option.getD_some] at this
  have hz := sizeZ_range (vs[i]?.getD default).s
  omega

theorem encs_ok {L : List Isa.Cm} (h : Isa.putErr L = 0) : Isa.putB L = Isa.encs L := by
  unfold Isa.putErr at h
  unfold Isa.putB
  by_cases h1 : 4096 < L.length
  · rw [if_pos h1] at h; cases h
  rw [if_neg h1] at h ⊢
  by_cases h2 : L.all Isa.mayB = true
  · rw [if_pos h2]
  · rw [if_neg h2] at h; cases h

theorem encs_len (L : List Isa.Cm) : (Isa.encs L).length ≤ 2 + 14 * L.length := by
  have h : ∀ l : List Isa.Cm, (l.flatMap Isa.enc).length ≤ 14 * l.length := by
    intro l
    induction l with
    | nil => simp
    | cons c l ih =>
      have := Isa.enc_len c
      simp only [List.flatMap_cons, List.length_append, List.length_cons]
      omega
  have := h L
  unfold Isa.encs
  rw [List.length_append, be_len]
  omega

theorem encG_le {g : Gr} (h : (valuesR g).2 = 0) (hn : ∀ n ∈ g.nodes, NdIn n) : (encG g.c).length ≤ 66000 := by
  have hgd := valid_ok h hn
  unfold valuesR at h
  by_cases h1 : goesInR g ≠ 0
  · rw [if_pos h1] at h; exact absurd h h1
  rw [if_neg h1] at h
  by_cases h2 : (goNodes g.nodes g.ins 0).2 ≠ 0
  · rw [if_pos h2] at h; exact absurd h h2
  rw [if_neg h2] at h
  by_cases h3 : 4096 < (goNodes g.nodes g.ins 0).1.2
  · rw [if_pos h3] at h; simp at h
  obtain ⟨_, _, k3⟩ := goNodes_ok _ _ _ (by simpa using h2)
  have hlong : ∀ n ∈ g.nodes, longN n.c ≤ 16 + 255 + 4096 + 4 * 255 := fun n hm => by
    have a1 := (hn n hm).il
    have a2 := (hn n hm).bl
    have a3 := (k3 n hm).1
    show 16 + n.ins.length + n.ws.length + 4 * n.bs.length ≤ _
    omega
  have hsum : ∀ l : List Nd, (∀ n ∈ l, longN n.c ≤ 16 + 255 + 4096 + 4 * 255) → ((l.map Nd.c).map longN).sum ≤ 5387 * l.length := by
    intro l
    induction l with
    | nil => intro _; simp
    | cons n l ih =>
      intro hh
      have b1 := hh n (by simp)
      have b2 := ih (fun m hm => hh m (by simp [hm]))
      simp only [List.map_cons, List.sum_cons, List.length_cons]
      omega
  have := hsum _ hlong
  have := hgd.nl
  have := hgd.il
  have := hgd.ol
  rw [encG_len]
  show 3 + 4 * (g.c.ins).length + ((g.nodes.map Nd.c).map longN).sum + (g.c.outs).length ≤ 66000
  have e1 : g.c.ins.length = g.ins.length := by simp [Gr.c]
  have e2 : g.c.outs.length = g.outs.length := by simp [Gr.c]
  rw [e1, e2]
  omega

theorem encs_bytes (L : List Isa.Cm) : ∀ z ∈ Isa.encs L, 0 ≤ z ∧ z ≤ 255 := by
  intro z hz
  unfold Isa.encs at hz
  rcases List.mem_append.1 hz with h | h
  · exact be_range _ _ z h
  · obtain ⟨c, _, hc⟩ := List.mem_flatMap.1 h
    unfold Isa.enc at hc
    rcases List.mem_append.1 hc with h | h
    · exact be_range _ _ z h
    · obtain ⟨x, _, hx⟩ := List.mem_flatMap.1 h
      exact be_range _ _ z hx

theorem img_bytes (g : Gr) {pl : List Int} (L0 L1 L2 : List Isa.Cm) (h : ∀ p ∈ pl, 0 ≤ p ∧ p ≤ 65536) : ∀ z ∈ imgB g pl L0 L1 L2, 0 ≤ z ∧ z ≤ 255 := by
  intro z hz
  unfold imgB stB at hz
  simp only [List.mem_append] at hz
  rcases hz with (((hz | hz) | hz) | hz) | hz
  · exact encG_bytes _ z hz
  · obtain ⟨p, hp, hx⟩ := List.mem_flatMap.1 hz
    have := h p hp
    simp only [plB, List.mem_cons, List.not_mem_nil, or_false] at hx
    rcases hx with rfl | rfl | rfl <;> omega
  · exact encs_bytes _ z hz
  · exact encs_bytes _ z hz
  · exact encs_bytes _ z hz

theorem stB_le (B : List Int) (L0 L1 L2 : List Isa.Cm) (k : Nat) (hB : B.length ≤ 66000 + 3 * 16) (h0 : L0.length ≤ 300) (h1 : L1.length ≤ 300) (h2 : L2.length ≤ 300) : (stB B L0 L1 L2 k).length ≤ 90000 := by
  have a0 := encs_len L0
  have a1 := encs_len L1
  have a2 := encs_len L2
  match k with
  | 0 => simp only [stB]; omega
  | 1 => simp only [stB, List.length_append]; omega
  | 2 => simp only [stB, List.length_append]; omega
  | k + 3 => simp only [stB, List.length_append]; omega

theorem plB_len (pl : List Int) : (pl.flatMap plB).length = 3 * pl.length := by
  induction pl with
  | nil => rfl
  | cons p l ih => simp only [List.flatMap_cons, List.length_append, ih, List.length_cons, plB]; simp; omega

set_option maxRecDepth 8000 in
set_option maxHeartbeats 6400000 in
theorem iput_calls (g : Gr) (pV s0 s1 s2 : Value) (pl : List Int) (L0 L1 L2 : List Isa.Cm) (w : World) (hg : GrAt w g) (hp : Ints .i64 w pV pl) (hpk : ∀ z ∈ pl, InK .i64 z)
    (h0 : Isa.Cmds w s0 L0) (h1 : Isa.Cmds w s1 L1) (h2 : Isa.Cmds w s2 L2) (hl0 : L0.length ≤ 300) (hl1 : L1.length ≤ 300) (hl2 : L2.length ≤ 300) :
    Calls Try.prog 37 #[.agg #[g.iV, g.nV, g.oV, pV, s0, s1, s2]] w (IPutPost g pl L0 L1 L2 w) := by
  have HP : Hid (∀ e w', ((mayI g pl L0 L1 L2 = 0 → ∃ v, e = .returned (.tuple #[v, .int .i64 0]) ∧ OwnB w w' v (seal_ (imgB g pl L0 L1 L2))) ∧
    (mayI g pl L0 L1 L2 ≠ 0 → e = .returned (.tuple #[.slice none 0 0, .int .i64 (mayI g pl L0 L1 L2)])) ∧ Ext w w') → IPutPost g pl L0 L1 L2 w e w') := fun e w' h => h
  generalize IPutPost g pl L0 L1 L2 w = PP at *
  have hb0 := Blk.new w #[g.iV, g.nV, g.oV, pV, s0, s1, s2] 54
  have hE1 := ext_alloc w (.cells #[g.iV, g.nV, g.oV, pV, s0, s1, s2] 54)
  have hmay := fun W (h : Ext w W) => imay_calls g pV s0 s1 s2 pl L0 L1 L2 W (hg.ext h) (hp.ext h) hpk (h0.below h (Nat.le_refl _)) (h1.below h (Nat.le_refl _)) (h2.below h (Nat.le_refl _))
  unfold MayP at hmay
  go_enter Try.func37, Try.ntmps37
  go_upto_region 1 with fail
  generalize World.alloc w _ = w1 at *
  replace hmay := hmay _ hE1
  have q0 : World.cell? w1 ⟨w.heap.size, 0, none⟩ = some g.iV := hb0.cell 0
  have q1 : World.cell? w1 ⟨w.heap.size, 1, none⟩ = some g.nV := hb0.cell 1
  have q2 : World.cell? w1 ⟨w.heap.size, 2, none⟩ = some g.oV := hb0.cell 2
  have q3 : World.cell? w1 ⟨w.heap.size, 3, none⟩ = some pV := hb0.cell 3
  have q4 : World.cell? w1 ⟨w.heap.size, 4, none⟩ = some s0 := hb0.cell 4
  have q5 : World.cell? w1 ⟨w.heap.size, 5, none⟩ = some s1 := hb0.cell 5
  have q6 : World.cell? w1 ⟨w.heap.size, 6, none⟩ = some s2 := hb0.cell 6
  by_cases hm : mayI g pl L0 L1 L2 = 0
  · obtain ⟨hv0, hfit, e0, e1, e2⟩ := mayI_ok hm
    obtain ⟨hfl, hfr⟩ := fits_range hfit
    have hge := encG_le hv0 (fun n hn => (hg.each n hn).isIn)
    have hvl := (vals_ok hv0).len
    have hil := (vals_ok hv0).il
    have hnl := (vals_ok hv0).nl
    have HMZ := Lib.hid hm
    rw [hm] at hmay
    clear hm
    go_wp2_with fail
    refine hmay.mono ?_
    rintro e w2 ⟨rfl, hE2⟩
    have hEw := hE1.trans hE2
    replace hb0 := hb0.ext hE2
    clear q0 q1 q2 q3 q4 q5 q6 hmay hE1 hE2
    have hput := modelPut_calls g w2 (hg.ext hEw)
    unfold PutPost at hput
    have q0 : World.cell? w2 ⟨w.heap.size, 0, none⟩ = some g.iV := hb0.cell 0
    have q1 : World.cell? w2 ⟨w.heap.size, 1, none⟩ = some g.nV := hb0.cell 1
    have q2 : World.cell? w2 ⟨w.heap.size, 2, none⟩ = some g.oV := hb0.cell 2
    go_wp2_with fail
    refine hput.mono ?_
    rintro e w3 ⟨hA, _, hE3⟩
    obtain ⟨v, rfl, hob⟩ := hA hv0
    have hb0w2 := hb0
    replace hb0 := hb0.ext hE3
    clear q0 q1 q2 hput hA
    obtain ⟨Ap, cp, ep, hp1, hp2, hpc⟩ := id hp.form
    unfold maxLen at hp2
    have q3 : World.cell? w3 ⟨w.heap.size, 3, none⟩ = some (.slice Ap pl.length cp) := by rw [← ep]; exact hb0.cell 3
    have h3 := hEw.trans hE3
    have hob1 : OwnB w2 w3 v (encG g.c ++ (pl.take 0).flatMap plB) := by simpa using hob
    have HE23 := Lib.hid hE3
    have HEW := Lib.hid hEw
    have HB0 := Lib.hid (show Blk w2 w.heap.size #[g.iV, g.nV, g.oV, pV, s0, s1, s2] 54 from hb0w2)
    have HPC := Lib.hid hpc
    have HEP := Lib.hid ep
    have HF := Lib.hid hfr
    have HFL := Lib.hid hfl
    clear ep hpc hfr hob hfl hfit hv0 hE3 hEw h3 hb0w2
    go_wp2_with fail
    clear q3
    go_loopw [5, 27] (fun v0 i wr => ∃ (v : Value) (k : Nat) (bs : List Int), v = v0 ∧ k ≤ pl.length ∧ i = .int .i64 k ∧ Hid (bs = encG g.c ++ (pl.take k).flatMap plB) ∧ Hid (OwnB w2 wr v bs) ∧ Ext w2 wr) (fun _ i _ => pl.length - (intOf i).toNat)
    case atStart => exact ⟨_, 0, _, rfl, by omega, rfl, rfl, hob1, HE23.out⟩
    case round =>
      clear hob1
      obtain ⟨v, k, bs, rfl, hk, rfl, HB, HO, hE⟩ := hrel
      by_cases hlt : k < pl.length
      · obtain ⟨bp, offp, rfl, d0⟩ := HPC.out k hlt
        have hps : pl[k]? = some pl[k] := by simp [hlt]
        rw [hps] at d0
        simp only [Option.getD_some] at d0
        have hpr := HF.out _ (List.getElem_mem hlt)
        have HT : Hid (pl.take (k + 1) = pl.take k ++ [pl[k]]) := List.take_succ_eq_append_getElem hlt
        generalize pl[k] = p at *
        have d1 : World.cell? wr ⟨bp, offp + k, none⟩ = some (.int .i64 p) := cell_ext d0 _ (HEW.out.trans hE)
        clear d0 hps
        go_upto_region 8 with fail
        clear d1
        have hEn := ext_alloc wr (.cells #[.int .u8 (p / 65536), .int .u8 (p / 256 % 256), .int .u8 (p % 256)] 5)
        have hnew := row_new wr #[.int .u8 (p / 65536), .int .u8 (p / 256 % 256), .int .u8 (p % 256)] 5 3 1 rfl (by decide)
        have hown : (wr.alloc (.cells #[.int .u8 (p / 65536), .int .u8 (p / 256 % 256), .int .u8 (p % 256)] 5)).ownsRow w2.heap.size 5 1 v bs.length (bs.map (.int .u8)) := HO.out.ext hEn
        have hbase := (hE.trans hEn).size
        have hbl : bs.length ≤ 66000 + 3 * 16 := by
          have hb := HB.out
          have := congrArg List.length hb
          rw [List.length_append, plB_len, List.length_take] at this
          have := HFL.out
          omega
        have hk1 : bs.length + 3 ≤ 140737488355328 := by omega
        have hk2 : (bs.length + 3) * 1 ≤ 140737488355328 := by omega
        have hone : ∀ u ∈ (#[.int .u8 (p / 65536), .int .u8 (p / 256 % 256), .int .u8 (p % 256)] : Array Value).toList, u.oneCell' = true := one_ints .u8 [p / 65536, p / 256 % 256, p % 256]
        have HE9 : Hid (∀ w', World.grownBy (wr.alloc (.cells #[.int .u8 (p / 65536), .int .u8 (p / 256 % 256), .int .u8 (p % 256)] 5)) w' v.ownBlock → Ext w2 w') := fun w' hg => Below.grown (hE.trans hEn) hg (hE.trans hEn).size (fun q hq => (hown.lt q hq).1)
        have HA9 : Hid (∀ v' w', w'.ownsRow w2.heap.size 5 1 v' (bs.length + 3) (bs.map (.int .u8) ++ (#[.int .u8 (p / 65536), .int .u8 (p / 256 % 256), .int .u8 (p % 256)] : Array Value).toList) → OwnB w2 w' v' (bs ++ plB p)) := fun v' w' ho => by
          unfold OwnB
          rw [List.length_append, List.map_append]
          exact ho
        have HB2 : Hid (bs ++ plB p = encG g.c ++ (pl.take (k + 1)).flatMap plB) := by show _ = _; rw [HB.out, HT.out, List.flatMap_append, List.append_assoc]; simp
        clear hE
        go_wp2_with (at_builtin; refine wpList_append_row rfl rfl elem_u8 hown rfl hnew rfl hone hk1 hk2 hbase ?_; intro v' w' ho hgr _)
        have HO9 := Lib.hid (HA9.out _ _ ho)
        have hE9 := HE9.out _ hgr
        clear ho hgr hown hnew HA9 HE9
        go_roundw
        case rel => exact ⟨_, k + 1, _, rfl, by omega, by go_num, HB2, HO9, hE9⟩
        case measure => simp [intOf]; omega
      · have hkk : k = pl.length := by omega
        subst hkk
        rw [List.take_length] at HB
        have hb4 := HB0.out.ext hE
        have q4 : World.cell? wr ⟨w.heap.size, 4, none⟩ = some s0 := hb4.cell 4
        have q5 : World.cell? wr ⟨w.heap.size, 5, none⟩ = some s1 := hb4.cell 5
        have q6 : World.cell? wr ⟨w.heap.size, 6, none⟩ = some s2 := hb4.cell 6
        have hbl0 : bs.length ≤ 66000 + 3 * 16 := by
          have hb := HB.out
          have := congrArg List.length hb
          rw [List.length_append, plB_len] at this
          have := HFL.out
          omega
        have HB0L := Lib.hid hbl0
        obtain ⟨B0, hB0⟩ : ∃ B, B = bs := ⟨_, rfl⟩
        rw [← hB0] at HB0L
        have x0 : ∀ W : World, (Instr.index 52 (.agg #[s0, s1, s2]) (.int .i64 0)).run Try.prog W = .ok s0 W := fun _ => by kernel_rfl
        have x1 : ∀ W : World, (Instr.index 52 (.agg #[s0, s1, s2]) (.int .i64 1)).run Try.prog W = .ok s1 W := fun _ => by kernel_rfl
        have x2 : ∀ W : World, (Instr.index 52 (.agg #[s0, s1, s2]) (.int .i64 2)).run Try.prog W = .ok s2 W := fun _ => by kernel_rfl
        have HBB := Lib.hid (hB0.trans HB.out)
        have HO0 := Lib.hid (show OwnB w2 wr v (stB B0 L0 L1 L2 0) from by rw [hB0]; exact HO.out)
        clear hB0 HB HO hbl0 hb4
        go_wp2_with fail
        clear q4 q5 q6
        go_loopw [5, 45] (fun v0 i wr => ∃ (v : Value) (k : Nat) (bs : List Int), v = v0 ∧ k ≤ 3 ∧ i = .int .i64 k ∧ Hid (bs = stB B0 L0 L1 L2 k) ∧ Hid (OwnB w2 wr v bs) ∧ Ext w2 wr) (fun _ i _ => 3 - (intOf i).toNat)
        case atStart => exact ⟨_, 0, _, rfl, by omega, rfl, rfl, HO0, hE⟩
        case round =>
          clear HO0 hE
          obtain ⟨v, k, bs, rfl, hk, rfl, HB, HO, hE⟩ := hrel
          rcases (by omega : k = 0 ∨ k = 1 ∨ k = 2 ∨ k = 3) with rfl | rfl | rfl | rfl
          · have hput := Isa.put_calls s0 L0 wr (h0.below (HEW.out.trans hE) (Nat.le_refl _))
            unfold Isa.PutPost at hput
            rw [e0, encs_ok e0] at hput
            have hln := encs_len L0
            have HB2 : Hid (bs ++ Isa.encs L0 = stB B0 L0 L1 L2 1) := by show _ = _; rw [HB.out]; rfl
            have hbl : bs.length ≤ 90000 := by rw [HB.out]; exact stB_le B0 L0 L1 L2 0 HB0L.out hl0 hl1 hl2
            generalize Isa.encs L0 = ys at *
            go_wp2_with fail
            refine hput.mono ?_
            rintro e wa ⟨vb, rfl, hob, hEa⟩
            have hEa : Ext wr wa := hEa
            have hown : wa.ownsRow w2.heap.size 5 1 v bs.length (bs.map (.int .u8)) := HO.out.ext hEa
            have hnew : Row wa vb ys.length 1 (ys.map (.int .u8)) := row_of_own hob
            have hE4 := hE.trans hEa
            have hbase := hE4.size
            have hk1 : bs.length + ys.length ≤ 140737488355328 := by omega
            have hk2 : (bs.length + ys.length) * 1 ≤ 140737488355328 := by omega
            have hone := one_ints .u8 ys
            have HE9 : Hid (∀ w', wa.grownBy w' v.ownBlock → Ext w2 w') := fun w' hg => Below.grown (hE.trans hEa) hg (hE.trans hEa).size (fun q hq => (hown.lt q hq).1)
            have HA9 : Hid (∀ v' w', w'.ownsRow w2.heap.size 5 1 v' (bs.length + ys.length) (bs.map (.int .u8) ++ ys.map (.int .u8)) → OwnB w2 w' v' (bs ++ ys)) := fun v' w' ho => by
              unfold OwnB
              rw [List.length_append, List.map_append]
              exact ho
            clear hput hob hEa hE hE4
            go_wp2_with (at_builtin; refine wpList_append_row rfl rfl elem_u8 hown rfl hnew rfl hone hk1 hk2 hbase ?_; intro v' w' ho hgr _)
            have HO9 := Lib.hid (HA9.out _ _ ho)
            have hE9 := HE9.out _ hgr
            clear ho hgr hown hnew HA9 HE9
            go_roundw
            case rel => exact ⟨_, 1, _, rfl, by omega, rfl, HB2, HO9, hE9⟩
            case measure => simp [intOf]
          · have hput := Isa.put_calls s1 L1 wr (h1.below (HEW.out.trans hE) (Nat.le_refl _))
            unfold Isa.PutPost at hput
            rw [e1, encs_ok e1] at hput
            have hln := encs_len L1
            have HB2 : Hid (bs ++ Isa.encs L1 = stB B0 L0 L1 L2 2) := by show _ = _; rw [HB.out]; rfl
            have hbl : bs.length ≤ 90000 := by rw [HB.out]; exact stB_le B0 L0 L1 L2 1 HB0L.out hl0 hl1 hl2
            generalize Isa.encs L1 = ys at *
            go_wp2_with fail
            refine hput.mono ?_
            rintro e wa ⟨vb, rfl, hob, hEa⟩
            have hEa : Ext wr wa := hEa
            have hown : wa.ownsRow w2.heap.size 5 1 v bs.length (bs.map (.int .u8)) := HO.out.ext hEa
            have hnew : Row wa vb ys.length 1 (ys.map (.int .u8)) := row_of_own hob
            have hE4 := hE.trans hEa
            have hbase := hE4.size
            have hk1 : bs.length + ys.length ≤ 140737488355328 := by omega
            have hk2 : (bs.length + ys.length) * 1 ≤ 140737488355328 := by omega
            have hone := one_ints .u8 ys
            have HE9 : Hid (∀ w', wa.grownBy w' v.ownBlock → Ext w2 w') := fun w' hg => Below.grown (hE.trans hEa) hg (hE.trans hEa).size (fun q hq => (hown.lt q hq).1)
            have HA9 : Hid (∀ v' w', w'.ownsRow w2.heap.size 5 1 v' (bs.length + ys.length) (bs.map (.int .u8) ++ ys.map (.int .u8)) → OwnB w2 w' v' (bs ++ ys)) := fun v' w' ho => by
              unfold OwnB
              rw [List.length_append, List.map_append]
              exact ho
            clear hput hob hEa hE hE4
            go_wp2_with (at_builtin; refine wpList_append_row rfl rfl elem_u8 hown rfl hnew rfl hone hk1 hk2 hbase ?_; intro v' w' ho hgr _)
            have HO9 := Lib.hid (HA9.out _ _ ho)
            have hE9 := HE9.out _ hgr
            clear ho hgr hown hnew HA9 HE9
            go_roundw
            case rel => exact ⟨_, 2, _, rfl, by omega, rfl, HB2, HO9, hE9⟩
            case measure => simp [intOf]
          · have hput := Isa.put_calls s2 L2 wr (h2.below (HEW.out.trans hE) (Nat.le_refl _))
            unfold Isa.PutPost at hput
            rw [e2, encs_ok e2] at hput
            have hln := encs_len L2
            have HB2 : Hid (bs ++ Isa.encs L2 = stB B0 L0 L1 L2 3) := by show _ = _; rw [HB.out]; rfl
            have hbl : bs.length ≤ 90000 := by rw [HB.out]; exact stB_le B0 L0 L1 L2 2 HB0L.out hl0 hl1 hl2
            generalize Isa.encs L2 = ys at *
            go_wp2_with fail
            refine hput.mono ?_
            rintro e wa ⟨vb, rfl, hob, hEa⟩
            have hEa : Ext wr wa := hEa
            have hown : wa.ownsRow w2.heap.size 5 1 v bs.length (bs.map (.int .u8)) := HO.out.ext hEa
            have hnew : Row wa vb ys.length 1 (ys.map (.int .u8)) := row_of_own hob
            have hE4 := hE.trans hEa
            have hbase := hE4.size
            have hk1 : bs.length + ys.length ≤ 140737488355328 := by omega
            have hk2 : (bs.length + ys.length) * 1 ≤ 140737488355328 := by omega
            have hone := one_ints .u8 ys
            have HE9 : Hid (∀ w', wa.grownBy w' v.ownBlock → Ext w2 w') := fun w' hg => Below.grown (hE.trans hEa) hg (hE.trans hEa).size (fun q hq => (hown.lt q hq).1)
            have HA9 : Hid (∀ v' w', w'.ownsRow w2.heap.size 5 1 v' (bs.length + ys.length) (bs.map (.int .u8) ++ ys.map (.int .u8)) → OwnB w2 w' v' (bs ++ ys)) := fun v' w' ho => by
              unfold OwnB
              rw [List.length_append, List.map_append]
              exact ho
            clear hput hob hEa hE hE4
            go_wp2_with (at_builtin; refine wpList_append_row rfl rfl elem_u8 hown rfl hnew rfl hone hk1 hk2 hbase ?_; intro v' w' ho hgr _)
            have HO9 := Lib.hid (HA9.out _ _ ho)
            have hE9 := HE9.out _ hgr
            clear ho hgr hown hnew HA9 HE9
            go_roundw
            case rel => exact ⟨_, 3, _, rfl, by omega, rfl, HB2, HO9, hE9⟩
            case measure => simp [intOf]
          · have hbe : bs = imgB g pl L0 L1 L2 := by rw [HB.out, HBB.out]; rfl
            subst hbe
            have hlen : (imgB g pl L0 L1 L2).length ≤ 100000 := by
              have h9 := stB_le B0 L0 L1 L2 3 HB0L.out hl0 hl1 hl2
              rw [HBB.out] at h9
              exact Nat.le_trans h9 (by omega)
            have hsl := seal_calls _ (imgB g pl L0 L1 L2) wr (ints_of_own HO.out) (img_bytes g L0 L1 L2 HF.out) hlen
            unfold Made at hsl
            clear hlen
            go_wp2_with fail
            refine hsl.mono ?_
            rintro e wz ⟨vz, rfl, hoz, hEz⟩
            have hEz : Ext wr wz := hEz
            have hEf := HEW.out.trans hE
            have HOZ := Lib.hid (OwnB.lower (w0 := w) hoz hEf)
            have HEZ := Lib.hid (hEf.trans hEz)
            clear hoz hEz hsl hE hEf
            go_wp2_with fail
            exact HP.out _ _ ⟨fun _ => ⟨vz, rfl, HOZ.out⟩, fun h => absurd HMZ.out h, HEZ.out⟩
  · have hz1 : (mayI g pl L0 L1 L2 != 0) = true := by simpa using hm
    have HM := Lib.hid hm
    generalize mayI g pl L0 L1 L2 = z at *
    clear hm
    go_wp2_with fail
    refine hmay.mono ?_
    rintro e w2 ⟨rfl, hE2⟩
    have HH := Lib.hid (hE1.trans hE2)
    clear hmay q0 q1 q2 q3 q4 q5 q6
    go_wp2_with fail
    exact HP.out _ _ ⟨fun h => absurd h HM.out, fun _ => rfl, HH.out⟩

end Go.Proofs.Ytdhdbmfipkppiaa

namespace Go.Proofs.Ytdhdbmfipkppiaa
set_option linter.unusedSimpArgs false
set_option linter.unusedVariables false
set_option linter.unnecessarySimpa false
open Go.RowKit

def exI (b : Nat) : Gr := ⟨.slice (some ⟨b, 0, none⟩) 1 1, .slice none 0 0, .slice (some ⟨b + 1, 0, none⟩) 1 1, [⟨⟨1, 1, 1⟩, 0⟩], [], [0]⟩
theorem exI_may (b : Nat) : mayI (exI b) [5] [] [] [] = 0 := rfl
theorem exI_len (b : Nat) : (seal_ (imgB (exI b) [5] [] [] [])).length = 21 := by
  unfold seal_
  rw [List.length_append, le4_length]
  rfl

theorem exI_at (w : World) : GrAt ((w.alloc (.cells #[.int .i64 1, .int .i64 1, .int .i64 1, .int .i64 0] 67)).alloc (.cells #[.int .i64 0] 3)) (exI w.heap.size) := by
  have h1 : Vls (w.alloc (.cells #[.int .i64 1, .int .i64 1, .int .i64 1, .int .i64 0] 67)) (.slice (some ⟨w.heap.size, 0, none⟩) 1 1) [⟨⟨1, 1, 1⟩, 0⟩] := row_new w _ 67 1 4 rfl (by decide)
  have h2 := row_new (w.alloc (.cells #[.int .i64 1, .int .i64 1, .int .i64 1, .int .i64 0] 67)) #[.int .i64 0] 3 1 1 rfl (by decide)
  rw [show (w.alloc (.cells #[.int .i64 1, .int .i64 1, .int .i64 1, .int .i64 0] 67)).heap.size = w.heap.size + 1 from by simp] at h2
  exact ⟨h1.ext (ext_alloc _ _), row_nil _ _, h2, (fun n hn => by cases hn), (by show 1 ≤ 255; omega), (by show 0 ≤ 255; omega), (by show 1 ≤ 255; omega)⟩

theorem cmds_nil (w : World) : Isa.Cmds w (.slice none 0 0) [] := row_nil w _

set_option maxRecDepth 8000 in
set_option maxHeartbeats 3200000 in
theorem shown09_calls (w : World) : Calls Try.prog 33 #[] w fun e w' => e = .returned (.bool true) ∧ Ext w w' := by
  have hg0 := exI_at w
  have hE0 := (ext_alloc w (.cells #[.int .i64 1, .int .i64 1, .int .i64 1, .int .i64 0] 67)).trans (ext_alloc _ (.cells #[.int .i64 0] 3))
  have hsz : ((w.alloc (.cells #[.int .i64 1, .int .i64 1, .int .i64 1, .int .i64 0] 67)).alloc (.cells #[.int .i64 0] 3)).heap.size = w.heap.size + 1 + 1 := by simp
  obtain ⟨w1, hw1⟩ : ∃ w1, (w.alloc (.cells #[.int .i64 1, .int .i64 1, .int .i64 1, .int .i64 0] 67)).alloc (.cells #[.int .i64 0] 3) = w1 := ⟨_, rfl⟩
  rw [hw1] at hg0 hE0 hsz
  have hz := Blk.new w1 #[.slice none 0 0, .slice none 0 0, .slice none 0 0] 26
  have hb : Blk ((w1.alloc (.cells #[.slice none 0 0, .slice none 0 0, .slice none 0 0] 26)).setRow w1.heap.size #[.slice (some ⟨w.heap.size, 0, none⟩) 1 1, .slice none 0 0, .slice (some ⟨w.heap.size + 1, 0, none⟩) 1 1]) w1.heap.size #[.slice (some ⟨w.heap.size, 0, none⟩) 1 1, .slice none 0 0, .slice (some ⟨w.heap.size + 1, 0, none⟩) 1 1] 26 := setRow_heap _ _ _ _ _ _ hz
  have hQ : Ext w1 ((w1.alloc (.cells #[.slice none 0 0, .slice none 0 0, .slice none 0 0] 26)).setRow w1.heap.size #[.slice (some ⟨w.heap.size, 0, none⟩) 1 1, .slice none 0 0, .slice (some ⟨w.heap.size + 1, 0, none⟩) 1 1]) := ext_setRow (ext_alloc _ _) _ (Nat.le_refl _)
  subst hw1
  rw [hsz] at hz hb hQ
  have HG := Lib.hid (hg0.ext hQ)
  have HE := Lib.hid (hE0.trans hQ)
  clear hg0 hE0 hQ hsz
  go_enter Try.func33, Try.ntmps33
  go_upto_region 2 with (refine wpList_store_row rfl 26 _ _ rfl (w.heap.size + 1 + 1) #[.slice (some ⟨w.heap.size, 0, none⟩) 1 1, .slice none 0 0, .slice (some ⟨w.heap.size + 1, 0, none⟩) 1 1] rfl rfl 26 _ hz (by kernel_rfl) rfl (by simp [Value.oneCell']) ?_)
  clear hz
  generalize World.setRow (World.alloc (World.alloc (World.alloc w _) _) _) _ _ = w2 at *
  have c0 : World.cell? w2 ⟨w.heap.size + 1 + 1, 0, none⟩ = some (.slice (some ⟨w.heap.size, 0, none⟩) 1 1) := hb.cell 0
  have c1 : World.cell? w2 ⟨w.heap.size + 1 + 1, 1, none⟩ = some (.slice none 0 0) := hb.cell 1
  have c2 : World.cell? w2 ⟨w.heap.size + 1 + 1, 2, none⟩ = some (.slice (some ⟨w.heap.size + 1, 0, none⟩) 1 1) := hb.cell 2
  have hp : Ints .i64 (w2.alloc (.cells #[.int .i64 5] 3)) (.slice (some ⟨w2.heap.size, 0, none⟩) 1 1) [5] := row_new w2 _ 3 1 1 rfl (by decide)
  have hE3 := ext_alloc w2 (.cells #[.int .i64 5] 3)
  have hput := iput_calls (exI w.heap.size) (.slice (some ⟨w2.heap.size, 0, none⟩) 1 1) (.slice none 0 0) (.slice none 0 0) (.slice none 0 0) [5] [] [] [] _ (HG.out.ext hE3) hp (fun z hz => by obtain rfl := List.mem_singleton.1 hz; simp [InK]) (cmds_nil _) (cmds_nil _) (cmds_nil _) (by simp) (by simp) (by simp)
  unfold IPutPost at hput
  have h4 := HE.out.trans hE3
  clear hb hp hE3
  go_wp2_with fail
  refine hput.mono ?_
  rintro e w4 ⟨hA, _, hE4⟩
  obtain ⟨v, rfl, hob⟩ := hA (exI_may _)
  obtain ⟨A, c, rfl, _⟩ := row_of_own hob
  rw [exI_len]
  have HH := Lib.hid (h4.trans hE4)
  clear hput hA hob c0 c1 c2 h4 hE4
  go_wp2_with fail
  go_ret
  exact ⟨rfl, HH.out⟩

end Go.Proofs.Ytdhdbmfipkppiaa
