/- What the commands of a node read and write, where each value lies at 2048 times its number. -/
import Derived.Test.YtdhdbmfipkppiaaRge
namespace Go.Proofs.Ytdhdbmfipkppiaa
set_option linter.unusedSimpArgs false
set_option linter.unusedVariables false
set_option linter.unnecessarySimpa false
open Go.RowKit

def cmK (k : Nat) (h : Int) : Isa.Cm := ⟨4, 0, (k : Int), 0, h, 0, 0, 0, 0, 0, 0, 0, 0, 0⟩
def cmT (k : Nat) (f r : Int) : Isa.Cm := ⟨3, 0, (k : Int), f, r, 0, 0, 0, 0, 0, 0, 0, 0, 0⟩
def plN (n : Nat) : List Int := (List.range n).map fun (v : Nat) => 2048 * (v : Int)
theorem plN_len (n : Nat) : (plN n).length = n := by simp [plN]
theorem plN_get {n i : Nat} (h : i < n) : (plN n)[i]?.getD 0 = 2048 * (i : Int) := by simp [plN, h]

/-- The span of the i-th value that goes in. -/
def inSp (vs : List Vl) (ins : List Int) (i : Nat) : Sp := ⟨0, 2048 * (ins[i]?.getD 0), 2048 * (ins[i]?.getD 0) + sizeZ (getV vs (ins[i]?.getD 0)).s, false⟩
def outSp (tt : Nat) (s : Sz) : Sp := ⟨0, 2048 * (tt : Int), 2048 * (tt : Int) + sizeZ s, true⟩

theorem vals_s {g : Gr} {vs : List Vl} (hok : ValsOk g vs) {i : Nat} (hi : i < vs.length) : (vs[i]?.getD default).s.ok = true := by
  have hs : vs[i]? = some vs[i] := by simp [hi]
  rw [hs]
  exact hok.ok _ (List.getElem_mem hi)

theorem mayE_dram {t z : Int} {wr : Bool} (h1 : 0 ≤ t) (h2 : 0 ≤ z) (h3 : t + z ≤ 65536) : mayE ⟨0, t, t + z, wr⟩ = 0 := by
  unfold mayE memTop
  simp only
  rw [if_neg (by omega), if_neg]
  simp only [reduceIte]
  omega

theorem ofR_kernel {g : Gr} {vs : List Vl} (hv : valuesR g = (vs, 0)) (hok : ValsOk g vs) {k : Nat} (hk : k < g.nodes.length) {nd : Nd} (hnd : g.nodes[k]? = some nd) :
    ofR g (plN vs.length) (cmK k (vs[g.ins.length + k]?.getD default).s.h) = ((List.range nd.ins.length).map (inSp vs nd.ins) ++ [outSp (g.ins.length + k) (vs[g.ins.length + k]?.getD default).s], 0) := by
  have hl := hok.len
  have hil := hok.il
  have hnl := hok.nl
  have hto : g.ins.length + k < vs.length := by omega
  have hso := Sz.bounds (vals_s hok hto)
  have hmem : nd ∈ g.nodes := List.mem_of_getElem? hnd
  obtain ⟨_, hin⟩ := hok.ins nd hmem
  generalize hxv : (vs[g.ins.length + k]?.getD default) = xv at *
  have hm : Isa.mayB (cmK k xv.s.h) = true := (Isa.mayB_kernel (c := cmK k xv.s.h) rfl).2 (by simp [cmK]; omega)
  have hsz := sizeZ_range xv.s
  have e1 : ∀ i, i < nd.ins.length → goIn vs (plN vs.length) (cmK k xv.s.h) nd.ins i = inSp vs nd.ins i := fun i hi => by
    have hz := hin _ (List.getElem_mem hi)
    have hg : nd.ins[i]?.getD 0 = nd.ins[i] := by simp [hi]
    unfold goIn inSp
    rw [if_neg (by simp [cmK]), hg]
    obtain ⟨j, hj⟩ := Int.eq_ofNat_of_zero_le hz.1
    rw [hj] at hz ⊢
    rw [Int.toNat_natCast, plN_get (by omega)]
    have := sizeZ_range (getV vs (j : Int)).s
    exact spz_in (by omega) (by omega)
  have e2 : comeOut vs (plN vs.length) (cmK k xv.s.h) (g.ins.length + k) = outSp (g.ins.length + k) xv.s := by
    unfold comeOut outSp
    rw [if_neg (by simp [cmK]), hxv, plN_get hto]
    exact spz_in (by omega) (by omega)
  unfold ofR
  rw [hv]
  simp only
  rw [if_neg (by simp), if_neg (by rw [hm, plN_len]; simp), if_neg, if_pos (by simp [cmK])]
  · have e3 : nodeSp vs (plN vs.length) (cmK k xv.s.h) ((g.nodes[(cmK k xv.s.h).n.toNat]?.map Nd.ins).getD []) (g.ins.length + (cmK k xv.s.h).n.toNat) = (List.range nd.ins.length).map (inSp vs nd.ins) ++ [outSp (g.ins.length + k) xv.s] := by
      have e4 : (cmK k xv.s.h).n.toNat = k := by simp [cmK]
      rw [e4, hnd]
      simp only [Option.map_some, Option.getD_some]
      unfold nodeSp
      rw [e2]
      congr 1
      refine List.map_congr_left fun i hi => e1 i (by simpa using hi)
    rw [e3]
    refine lookSp_none fun s hs => ?_
    rcases List.mem_append.1 hs with hs | hs
    · obtain ⟨i, hi, rfl⟩ := List.mem_map.1 hs
      have hi : i < nd.ins.length := by simpa using hi
      have hz := hin _ (List.getElem_mem hi)
      have hg : nd.ins[i]?.getD 0 = nd.ins[i] := by simp [hi]
      unfold inSp
      rw [hg]
      have := sizeZ_range (getV vs nd.ins[i]).s
      exact mayE_dram (by omega) (by omega) (by omega)
    · obtain rfl := List.mem_singleton.1 hs
      exact mayE_dram (by omega) (by omega) (by omega)
  · rintro ⟨_, h | h⟩
    · simp only [cmK] at h; omega
    · have e4 : (cmK k xv.s.h).n.toNat = k := by simp [cmK]
      rw [e4, hxv] at h
      simp [rowsOk, cmK] at h

/-- The spans of a tile. -/
def tileSp (vs : List Vl) (ins : List Int) (k : Nat) (f r : Int) (s : Sz) : List Sp := (List.range ins.length).map (goIn vs (plN vs.length) (cmT k f r) ins) ++ [⟨1, 0, r * rowZ s, true⟩]
theorem tileSp_len (vs : List Vl) (ins : List Int) (k : Nat) (f r : Int) (s : Sz) : (tileSp vs ins k f r s).length = ins.length + 1 := by simp [tileSp]
theorem tileSp_last (vs : List Vl) (ins : List Int) (k : Nat) (f r : Int) (s : Sz) : (tileSp vs ins k f r s)[ins.length]? = some ⟨1, 0, r * rowZ s, true⟩ := by
  unfold tileSp
  rw [List.getElem?_append_right (by simp)]
  simp

theorem ofR_tile {g : Gr} {vs : List Vl} (hv : valuesR g = (vs, 0)) (hok : ValsOk g vs) {k : Nat} (hk : k < g.nodes.length) {nd : Nd} (hnd : g.nodes[k]? = some nd) {f r : Int} (hf : 0 ≤ f) (hr : 1 ≤ r)
    (hfr : f + r ≤ (vs[g.ins.length + k]?.getD default).s.h) :
    ofR g (plN vs.length) (cmT k f r) = if 1024 < r * rowZ (vs[g.ins.length + k]?.getD default).s then ([], 23) else (tileSp vs nd.ins k f r (vs[g.ins.length + k]?.getD default).s, 0) := by
  have hl := hok.len
  have hto : g.ins.length + k < vs.length := by omega
  have hil := hok.il
  have hnl := hok.nl
  have hso := Sz.bounds (vals_s hok hto)
  generalize hxv : (vs[g.ins.length + k]?.getD default) = xv at *
  have hm : Isa.mayB (cmT k f r) = true := (Isa.mayB_tile (c := cmT k f r) rfl).2 (by simp [cmT]; omega)
  have hrz := rowZ_range xv.s
  have hpr : 0 ≤ r * rowZ xv.s ∧ r * rowZ xv.s ≤ 16 * 128 := ⟨Int.mul_nonneg (by omega) hrz.1, Int.mul_le_mul (by omega) hrz.2 hrz.1 (by omega)⟩
  have e1 : ∀ i, mayE (goIn vs (plN vs.length) (cmT k f r) nd.ins i) = 0 := fun i => by
    have hz : goIn vs (plN vs.length) (cmT k f r) nd.ins i = ⟨1, 0, 0, false⟩ := by
      unfold goIn
      rw [if_pos (show (cmT k f r).k = 3 from rfl)]
      have a1 : inOf (cmT k f r) i = 0 := by unfold inOf; split <;> rfl
      have a2 : haveOf (cmT k f r) i = 0 := by unfold haveOf; split <;> rfl
      rw [a1, a2, Int.zero_mul]
      exact spz_in (by omega) (by omega)
    rw [hz]
    rfl
  have e2 : comeOut vs (plN vs.length) (cmT k f r) (g.ins.length + k) = ⟨1, 0, r * rowZ xv.s, true⟩ := by
    unfold comeOut
    rw [if_pos (show (cmT k f r).k = 3 from rfl), hxv]
    have := spz_in (m := 1) (f := 0) (n := r * rowZ xv.s) (wr := true) (by omega) (by omega)
    simpa [cmT] using this
  have e4 : (cmT k f r).n.toNat = k := by simp [cmT]
  unfold ofR
  rw [hv]
  simp only
  rw [if_neg (by simp), if_neg (by rw [hm, plN_len]; simp), if_neg, if_pos (by simp [cmT])]
  · have e3 : nodeSp vs (plN vs.length) (cmT k f r) ((g.nodes[(cmT k f r).n.toNat]?.map Nd.ins).getD []) (g.ins.length + (cmT k f r).n.toNat) = tileSp vs nd.ins k f r xv.s := by
      rw [e4, hnd]
      simp only [Option.map_some, Option.getD_some]
      unfold nodeSp tileSp
      rw [e2]
    rw [e3]
    by_cases hb : 1024 < r * rowZ xv.s
    · rw [if_pos hb]
      have hlast := tileSp_last vs nd.ins k f r xv.s
      have hme : mayE (⟨1, 0, r * rowZ xv.s, true⟩ : Sp) = 23 := by
        unfold mayE memTop
        simp only
        generalize r * rowZ xv.s = pr at *
        rw [if_neg (by omega), if_pos]
        right; right
        rw [if_neg (by omega)]
        exact hb
      have := lookSp_some hlast (fun x hx => by
        unfold tileSp at hx
        rw [List.take_append_of_le_length (by simp)] at hx
        have hx := List.mem_of_mem_take hx
        obtain ⟨i, _, rfl⟩ := List.mem_map.1 hx
        exact e1 i) (by rw [hme]; decide)
      rw [this, hme]
    · rw [if_neg hb]
      refine lookSp_none fun s hs => ?_
      unfold tileSp at hs
      rcases List.mem_append.1 hs with hs | hs
      · obtain ⟨i, _, rfl⟩ := List.mem_map.1 hs
        exact e1 i
      · obtain rfl := List.mem_singleton.1 hs
        unfold mayE memTop
        simp only
        generalize r * rowZ xv.s = pr at *
        rw [if_neg (by omega), if_neg]
        rw [if_neg (by omega)]
        omega
  · rintro ⟨_, h | h⟩
    · simp only [cmT] at h; omega
    · rw [e4, hxv] at h
      unfold rowsOk at h
      rw [if_pos (show (cmT k f r).k = 3 from rfl)] at h
      exact of_decide_eq_false h hfr

end Go.Proofs.Ytdhdbmfipkppiaa
