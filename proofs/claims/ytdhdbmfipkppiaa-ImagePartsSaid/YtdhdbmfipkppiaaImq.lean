/- The plain law: no two images that may be are laid down as the same bytes. -/
import Derived.Test.YtdhdbmfipkppiaaImd
import Derived.Test.YtdhdbmfipkppiaaNsaZ
namespace Go.Proofs.Ytdhdbmfipkppiaa
set_option linter.unusedSimpArgs false
set_option linter.unusedVariables false
set_option linter.unnecessarySimpa false
open Go.RowKit

theorem plB_inj {p q : Int} (hp : 0 ≤ p ∧ p ≤ 65536) (hq : 0 ≤ q ∧ q ≤ 65536) (h : plB p = plB q) : p = q := by
  simp only [plB, List.cons.injEq, and_true] at h
  omega

theorem places_inj : ∀ {pl ql : List Int}, (∀ p ∈ pl, 0 ≤ p ∧ p ≤ 65536) → (∀ p ∈ ql, 0 ≤ p ∧ p ≤ 65536) → pl.length = ql.length → pl.flatMap plB = ql.flatMap plB → pl = ql
  | [], [], _, _, _, _ => rfl
  | [], q :: ql, _, _, hl, _ => by simp at hl
  | p :: pl, [], _, _, hl, _ => by simp at hl
  | p :: pl, q :: ql, hp, hq, hl, h => by
    rw [List.flatMap_cons, List.flatMap_cons] at h
    obtain ⟨h1, h2⟩ := List.append_inj h rfl
    rw [plB_inj (hp p (by simp)) (hq q (by simp)) h1, places_inj (fun x hx => hp x (by simp [hx])) (fun x hx => hq x (by simp [hx])) (by simpa using hl) h2]

theorem putErr_ok {L : List Isa.Cm} (h : Isa.putErr L = 0) : L.all Isa.mayB = true ∧ L.length ≤ 4096 := by
  unfold Isa.putErr at h
  by_cases h1 : 4096 < L.length
  · rw [if_pos h1] at h; cases h
  · rw [if_neg h1] at h
    by_cases h2 : L.all Isa.mayB = true
    · exact ⟨h2, by omega⟩
    · rw [if_neg h2] at h; cases h

theorem encs_tail {L M : List Isa.Cm} {r s : List Int} (hL : Isa.putErr L = 0) (hM : Isa.putErr M = 0) (h : Isa.encs L ++ r = Isa.encs M ++ s) : L = M ∧ r = s := by
  obtain ⟨a1, a2⟩ := putErr_ok hL
  obtain ⟨b1, b2⟩ := putErr_ok hM
  have h1 := Isa.takeL_encs L r a1 a2
  rw [h, Isa.takeL_encs M s b1 b2] at h1
  have e : M = L := congrArg Prod.fst (Option.some.inj h1)
  subst e
  exact ⟨rfl, List.append_cancel_left h⟩

theorem seal_inj {a b : List Int} (h : seal_ a = seal_ b) : a = b := by
  unfold seal_ at h
  exact (List.append_inj' h (by rw [le4_length, le4_length])).1

theorem imgB_eq (g : Gr) (pl : List Int) (L0 L1 L2 : List Isa.Cm) : imgB g pl L0 L1 L2 = encG g.c ++ (pl.flatMap plB ++ (Isa.encs L0 ++ (Isa.encs L1 ++ Isa.encs L2))) := by
  unfold imgB stB
  simp only [List.append_assoc]

theorem img_inj {g h : Gr} {pl ql : List Int} {L0 L1 L2 M0 M1 M2 : List Isa.Cm} (hg : mayI g pl L0 L1 L2 = 0) (hh : mayI h ql M0 M1 M2 = 0) (gi : ∀ n ∈ g.nodes, NdIn n) (hi : ∀ n ∈ h.nodes, NdIn n) (e : imgB g pl L0 L1 L2 = imgB h ql M0 M1 M2) :
    g.c = h.c ∧ pl = ql ∧ L0 = M0 ∧ L1 = M1 ∧ L2 = M2 := by
  obtain ⟨a1, a2, a3, a4, a5⟩ := mayI_ok hg
  obtain ⟨b1, b2, b3, b4, b5⟩ := mayI_ok hh
  obtain ⟨c1, c2⟩ := fits_range a2
  obtain ⟨d1, d2⟩ := fits_range b2
  rw [imgB_eq, imgB_eq] at e
  have h1 := enc_graph (valid_ok a1 gi).ok (pl.flatMap plB ++ (Isa.encs L0 ++ (Isa.encs L1 ++ Isa.encs L2)))
  rw [e, enc_graph (valid_ok b1 hi).ok] at h1
  have hc : h.c = g.c := congrArg Prod.fst h1
  have ht := congrArg (fun p : Gc × Rd => p.2.l) h1
  simp only at ht
  have hl : pl.length = ql.length := by
    have v1 := (vals_ok a1).len
    have v2 := (vals_ok b1).len
    have i1 := congrArg (fun c : Gc => c.ins.length) hc
    have i2 := congrArg (fun c : Gc => c.nodes.length) hc
    simp only [Gr.c, List.length_map] at i1 i2
    omega
  obtain ⟨e1, e2⟩ := List.append_inj ht (by rw [plB_len, plB_len, hl])
  obtain ⟨f1, e3⟩ := encs_tail b3 a3 e2
  obtain ⟨f2, e4⟩ := encs_tail b4 a4 e3
  obtain ⟨f3, _⟩ := encs_tail (r := []) (s := []) b5 a5 (by simpa using e4)
  exact ⟨hc.symm, (places_inj d2 c2 hl.symm e1).symm, f1.symm, f2.symm, f3.symm⟩

theorem img_same {g h : Gr} {pl ql : List Int} {L0 L1 L2 M0 M1 M2 : List Isa.Cm} (h1 : g.c = h.c) (h2 : pl = ql) (h3 : L0 = M0) (h4 : L1 = M1) (h5 : L2 = M2) : imgB g pl L0 L1 L2 = imgB h ql M0 M1 M2 := by
  subst h2 h3 h4 h5
  rw [imgB_eq, imgB_eq, h1]

end Go.Proofs.Ytdhdbmfipkppiaa
