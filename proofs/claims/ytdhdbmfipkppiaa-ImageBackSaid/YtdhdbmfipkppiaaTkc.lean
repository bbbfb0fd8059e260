/- The plain laws of images as bytes: what was laid down is taken; with a byte more, or up to four turned, it is none. -/
import Derived.Test.YtdhdbmfipkppiaaTkb
import Derived.Test.YtdhdbmfipkppiaaNsb
import Derived.Test.YtdhdbmfipkppiaaSumU
namespace Go.Proofs.Ytdhdbmfipkppiaa
set_option linter.unusedSimpArgs false
set_option linter.unusedVariables false
set_option linter.unnecessarySimpa false
set_option maxRecDepth 10000
open Go.RowKit

theorem openOk_sealT (zs : List Int) : openOk (seal_ zs) := by
  unfold openOk
  have h : (seal_ zs).length - 4 = zs.length := by simp [seal_, le4_length]
  rw [h]
  simp [seal_]

theorem taken_encT {g : Gr} (h : (valuesR g).2 = 0) (hok : GoodG g) (t : List Int) : taken (encG g.c ++ t) = some (g.c, (encG g.c).length) := by
  have he := enc_graph hok.ok t
  unfold taken
  rw [he]
  have h2 : (encG g.c ++ t).length - t.length = (encG g.c).length := by simp
  simp only [h2]
  rw [if_pos ⟨trivial, by rw [err_eq]; exact h, by simp⟩]

theorem plc3_enc : ∀ (pl : List Int) (r : List Int), (∀ p ∈ pl, 0 ≤ p ∧ p ≤ 65536) → plc3 pl.length (pl.flatMap plB ++ r) = some (pl, r)
  | [], r, _ => rfl
  | p :: pl, r, h => by
    have h1 := h p (by simp)
    rw [List.flatMap_cons, List.length_cons, plc3, if_neg (by simp [plB])]
    have ih := plc3_enc pl r (fun x hx => h x (by simp [hx]))
    have e : (plB p ++ pl.flatMap plB ++ r).drop 3 = pl.flatMap plB ++ r := by simp [plB]
    rw [e, ih]
    simp only [plB, Option.map_some, List.cons_append, List.nil_append, List.getElem?_cons_zero, List.getElem?_cons_succ, Option.getD_some, Option.some.injEq, Prod.mk.injEq, List.cons.injEq, and_true]
    omega

theorem putErr_okT {L : List Isa.Cm} (h : Isa.putErr L = 0) : L.all Isa.mayB = true ∧ L.length ≤ 4096 := by
  unfold Isa.putErr at h
  by_cases h1 : 4096 < L.length
  · rw [if_pos h1] at h; cases h
  · rw [if_neg h1] at h
    by_cases h2 : L.all Isa.mayB = true
    · exact ⟨h2, by omega⟩
    · rw [if_neg h2] at h; cases h

theorem stT_enc {L0 L1 L2 : List Isa.Cm} (h0 : Isa.putErr L0 = 0) (h1 : Isa.putErr L1 = 0) (h2 : Isa.putErr L2 = 0) (r : List Int) : stT 3 (Isa.encs L0 ++ (Isa.encs L1 ++ (Isa.encs L2 ++ r))) = some ([L0, L1, L2], r) := by
  obtain ⟨a0, b0⟩ := putErr_okT h0
  obtain ⟨a1, b1⟩ := putErr_okT h1
  obtain ⟨a2, b2⟩ := putErr_okT h2
  simp only [stT, Isa.takeL_encs _ _ a0 b0, Isa.takeL_encs _ _ a1 b1, Isa.takeL_encs _ _ a2 b2, List.drop_left', List.drop_left, Option.map_some]

theorem mayI_grT {g : Gr} {c : Gc} (e : g.c = c) (pl : List Int) (L0 L1 L2 : List Isa.Cm) : mayI g pl L0 L1 L2 = mayI c.gr pl L0 L1 L2 := by
  unfold mayI
  rw [values_c g, e]

theorem takeB_img {g : Gr} {pl : List Int} {L0 L1 L2 : List Isa.Cm} (hm : mayI g pl L0 L1 L2 = 0) (gi : ∀ n ∈ g.nodes, NdIn n) (r : List Int) :
    takeB (imgB g pl L0 L1 L2 ++ r) = if r = [] then some (g.c, pl, [L0, L1, L2]) else none := by
  obtain ⟨a1, a2, a3, a4, a5⟩ := mayI_ok hm
  obtain ⟨c1, c2⟩ := fits_range a2
  have e : imgB g pl L0 L1 L2 ++ r = encG g.c ++ (pl.flatMap plB ++ (Isa.encs L0 ++ (Isa.encs L1 ++ (Isa.encs L2 ++ r)))) := by
    unfold imgB stB
    simp only [List.append_assoc]
  have hl : g.c.ins.length + g.c.nodes.length = pl.length := by
    have := (vals_ok a1).len
    simp only [Gr.c, List.length_map]
    omega
  unfold takeB
  rw [e, taken_encT a1 (valid_ok a1 gi)]
  simp only [List.drop_left]
  rw [hl, plc3_enc _ _ c2]
  simp only
  rw [stT_enc a3 a4 a5]
  simp only [List.getElem?_cons_zero, List.getElem?_cons_succ, Option.getD_some]
  have hmm : mayI g.c.gr pl L0 L1 L2 = 0 := by rw [← mayI_grT rfl]; exact hm
  by_cases hr : r = []
  · rw [if_pos ⟨hr, hmm⟩, if_pos hr]
  · rw [if_neg (fun h => hr h.1), if_neg hr]

theorem takeI_img {g : Gr} {pl : List Int} {L0 L1 L2 : List Isa.Cm} (hm : mayI g pl L0 L1 L2 = 0) (gi : ∀ n ∈ g.nodes, NdIn n) : takeI (seal_ (imgB g pl L0 L1 L2)) = some (g.c, pl, [L0, L1, L2]) := by
  unfold takeI
  rw [if_pos (openOk_sealT _)]
  have h : (seal_ (imgB g pl L0 L1 L2)).length - 4 = (imgB g pl L0 L1 L2).length := by simp [seal_, le4_length]
  rw [h, show (seal_ (imgB g pl L0 L1 L2)).take (imgB g pl L0 L1 L2).length = imgB g pl L0 L1 L2 ++ [] by simp [seal_], takeB_img hm gi, if_pos rfl]

theorem takeI_more {g : Gr} {pl : List Int} {L0 L1 L2 : List Isa.Cm} (hm : mayI g pl L0 L1 L2 = 0) (gi : ∀ n ∈ g.nodes, NdIn n) : takeI (seal_ (imgB g pl L0 L1 L2) ++ [0]) = none := by
  unfold takeI
  split
  · have h : (seal_ (imgB g pl L0 L1 L2) ++ [0]).length - 4 = (imgB g pl L0 L1 L2).length + 1 := by simp [seal_, le4_length]
    have e : (seal_ (imgB g pl L0 L1 L2) ++ [0]).take ((imgB g pl L0 L1 L2).length + 1) = imgB g pl L0 L1 L2 ++ (le4 (crc (imgB g pl L0 L1 L2)) ++ [0]).take 1 := by
      unfold seal_
      rw [List.append_assoc, List.take_append, List.take_of_length_le (by omega), Nat.add_sub_cancel_left]
    rw [h, e, takeB_img hm gi, if_neg (by simp [le4])]
  · rfl

def anyNZ (l : List Int) : Bool := l.any fun z => z != 0
theorem anyNZ_snoc {l : List Int} {k : Nat} (h : k < l.length) : anyNZ (l.take (k + 1)) = (anyNZ (l.take k) || l[k]?.getD 0 != 0) := by
  unfold anyNZ
  rw [List.take_succ_eq_append_getElem h, List.any_append]
  simp [h]
theorem anyNZ_no {l : List Int} : anyNZ l = false ↔ ∀ z ∈ l, z = 0 := by
  unfold anyNZ
  simp

/-- With bytes turned it is none; with none turned it is as it was. -/
theorem takeI_burst {g : Gr} {pl : List Int} {L0 L1 L2 : List Isa.Cm} (hm : mayI g pl L0 L1 L2 = 0) (gi : ∀ n ∈ g.nodes, NdIn n) {by_ : List Int} {q : Nat} (hb : Bytes by_) (h4 : by_.length ≤ 4) (hq : q + by_.length ≤ (seal_ (imgB g pl L0 L1 L2)).length) (hs : Bytes (seal_ (imgB g pl L0 L1 L2))) :
    takeI (xorL (seal_ (imgB g pl L0 L1 L2)) (burst (seal_ (imgB g pl L0 L1 L2)).length q by_)) = if anyNZ by_ = true then none else some (g.c, pl, [L0, L1, L2]) := by
  have hl : (seal_ (imgB g pl L0 L1 L2)).length = (imgB g pl L0 L1 L2).length + 4 := by simp [seal_, le4_length]
  have ht := burst_told (p := imgB g pl L0 L1 L2) (a := q) hb h4 (by omega)
  rw [← hl] at ht
  have ht : openOk (xorL (seal_ (imgB g pl L0 L1 L2)) (burst (seal_ (imgB g pl L0 L1 L2)).length q by_)) ↔ ∀ z ∈ by_, z = 0 := ht
  by_cases h : ∀ z ∈ by_, z = 0
  · rw [if_neg (by rw [anyNZ_no.2 h]; simp)]
    have e : burst (seal_ (imgB g pl L0 L1 L2)).length q by_ = burst (seal_ (imgB g pl L0 L1 L2)).length q (by_.take 0) := by
      have e1 : by_ = List.replicate by_.length 0 := List.eq_replicate_of_mem h
      unfold burst
      rw [e1]
      simp only [List.length_replicate, List.take_zero, List.length_nil, List.append_nil, Nat.sub_zero]
      rw [List.append_assoc, List.replicate_append_replicate, List.replicate_append_replicate, List.replicate_append_replicate]
      congr 1
      omega
    rw [e, turn_none hs (by omega), takeI_img hm gi]
  · have ha : anyNZ by_ = true := by
      cases hn : anyNZ by_ with
      | true => rfl
      | false => exact absurd (anyNZ_no.1 hn) h
    rw [if_pos ha]
    unfold takeI
    rw [if_neg (fun e => h (ht.1 e))]

end Go.Proofs.Ytdhdbmfipkppiaa
