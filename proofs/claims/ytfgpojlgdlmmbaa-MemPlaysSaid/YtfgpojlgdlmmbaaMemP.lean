/- The reference of package mem: a box that holds how many numbers there are, and a row of what was written. -/
import Derived.Test.YtfgpojlgdlmmbaaMemC
import Derived.Test.YtfgpojlgdlmmbaaDraw3
import Derived.Test.YtfgpojlgdlmmbaaRely
namespace Go.Proofs.Ytfgpojlgdlmmbaa
set_option linter.unusedSimpArgs false
set_option linter.unusedVariables false
set_option linter.unnecessarySimpa false
open Go.RowKit

theorem elem_put : ElemT Try.prog 29 50 2 32 := elemT_of (z := .agg #[.int .i64 0, .slice none 0 0]) Try.underlying29 (by kernel_rfl) rfl (by omega)

/-- Numbers that were written at a place. -/
structure PutM where
  at_ : Int
  lv : Value
  zs : List Int

def PutM.cs (o : PutM) : List Value := [.int .i64 o.at_, o.lv]
def PutM.dat (o : PutM) : Int × List Int := (o.at_, o.zs)

theorem pcs_get : ∀ (l : List PutM) (j i : Nat), i < 2 → (l.flatMap PutM.cs)[j * 2 + i]? = (l[j]?).bind fun s => s.cs[i]?
  | [], j, i, _ => by simp
  | s :: l, 0, i, hi => by
    rw [List.flatMap_cons, Nat.zero_mul, Nat.zero_add, List.getElem?_append_left (by simp [PutM.cs]; omega)]
    rfl
  | s :: l, j + 1, i, hi => by
    rw [List.flatMap_cons, List.getElem?_append_right (by simp [PutM.cs]; omega), show (j + 1) * 2 + i - s.cs.length = j * 2 + i from by simp [PutM.cs]; omega, pcs_get l j i hi]
    rfl

/-- The reference's box, and all that hangs on it, which lies in the blocks S. -/
structure RefAt (w : World) (S : Nat → Prop) (r : Nat) (N : Int) (rv : Value) (l : List PutM) : Prop where
  box : Blk w r #[.int .i64 N, rv] 31
  row : Row w rv l.length 2 (l.flatMap PutM.cs)
  puts : ∀ o ∈ l, Ints .i8 w o.lv o.zs ∧ o.zs.length ≤ 100 ∧ 0 ≤ o.at_ ∧ o.at_ ≤ 65536
  ins : S r
  inr : ∀ b, rv.ownBlock = some b → S b ∧ b ≠ r
  inp : ∀ o ∈ l, ∀ b, o.lv.ownBlock = some b → S b ∧ b ≠ r
  lt : ∀ b, S b → b < w.heap.size
  num : 0 ≤ N ∧ N ≤ 65536

theorem Row.kept {w w' : World} {v : Value} {n sz : Nat} {xs : List Value} {S : Nat → Prop} (h : Row w v n sz xs) (hv : ∀ b, v.ownBlock = some b → S b) (hk : ∀ b, S b → w'.heap[b]? = w.heap[b]?) : Row w' v n sz xs := by
  obtain ⟨A, c, rfl, h1, h2, h3, h4⟩ := h
  refine ⟨A, c, rfl, h1, h2, h3, h4.same fun b off e _ => hk b (hv b ?_)⟩
  subst e
  rfl

theorem RefAt.kept {w w' : World} {S : Nat → Prop} {r : Nat} {N : Int} {rv : Value} {l : List PutM} (h : RefAt w S r N rv l) (hs : w.heap.size ≤ w'.heap.size) (hk : ∀ b, S b → w'.heap[b]? = w.heap[b]?) : RefAt w' S r N rv l :=
  ⟨(hk r h.ins).trans h.box, h.row.kept (fun b hb => (h.inr b hb).1) hk, fun o ho => ⟨(h.puts o ho).1.kept (fun b hb => (h.inp o ho b hb).1) hk, (h.puts o ho).2⟩, h.ins, h.inr, h.inp, fun b hb => Nat.lt_of_lt_of_le (h.lt b hb) hs, h.num⟩

theorem RefAt.below {w w' : World} {S : Nat → Prop} {r : Nat} {N : Int} {rv : Value} {l : List PutM} {B : Nat} (h : RefAt w S r N rv l) (hb : Below B w w') (hB : w.heap.size ≤ B) : RefAt w' S r N rv l :=
  h.kept hb.size fun b k => hb.block b (by have := h.lt b k; omega)

theorem RefAt.grown {w w' : World} {S : Nat → Prop} {r : Nat} {N : Int} {rv : Value} {l : List PutM} {row : Option Nat} (h : RefAt w S r N rv l) (hg : w.grownBy w' row) (ho : ∀ b, S b → row ≠ some b) : RefAt w' S r N rv l :=
  h.kept hg.size fun b k => hg.block b (h.lt b k) fun e => ho b k e.symm

theorem RefAt.cells {w : World} {S : Nat → Prop} {r : Nat} {N : Int} {rv : Value} {l : List PutM} (h : RefAt w S r N rv l) : w.cell? ⟨r, 0, none⟩ = some (.int .i64 N) ∧ w.cell? ⟨r, 1, none⟩ = some rv ∧ ∀ o, w.frozen? ⟨r, o, none⟩ = false := by
  exact ⟨h.box.cell 0, h.box.cell 1, fun o => h.box.frozen o⟩

/-- What New answers. -/
theorem refNew_calls (n : Int) (w : World) (hn : InK .i64 n) :
    Calls Try.prog 6 #[.int .i64 n] w fun e w' => e = .returned (.pointer (some ⟨w.heap.size, 0, none⟩)) ∧ RefAt w' (fun b => b = w.heap.size) w.heap.size (memSize n) (.slice none 0 0) [] ∧ Below w.heap.size w w' := by
  simp only [InK] at hn
  have hs : min (max n 0) 65536 = (memSize n : Int) := by unfold memSize; omega
  have hs1 : memSize n ≤ 65536 := by unfold memSize; omega
  generalize memSize n = m at *
  go_enter Try.func6, Try.ntmps6
  go_wp2
  go_ret
  refine ⟨rfl, ⟨heap_alloc_new _ _, row_nil _ _, fun o h => (by cases h), rfl, fun b h => (by cases h), fun o h => (by cases h), fun b h => ?_, by omega, by omega⟩, below_alloc (Below.refl _ _) (Nat.le_refl _) _⟩
  subst h
  simp

theorem there_calls (S : Nat → Prop) (r : Nat) (N : Int) (rv : Value) (l : List PutM) (at_ k : Int) (w : World) (h : RefAt w S r N rv l) (hat : InK .i64 at_) (hk : InK .i64 k) :
    Calls Try.prog 16 #[.pointer (some ⟨r, 0, none⟩), .int .i64 at_, .int .i64 k] w fun e w' => e = .returned (.bool (fitsB N at_ k)) ∧ w = w' := by
  obtain ⟨c0, _, _⟩ := h.cells
  have hn := h.num
  clear h
  simp only [InK] at hat hk
  have hd : fitsB N at_ k = decide (0 ≤ k ∧ k ≤ N ∧ 0 ≤ at_ ∧ at_ ≤ N - k) := rfl
  have HD := Lib.hid hd
  clear hd
  have hF : ∀ b : Bool, b = decide (0 ≤ k ∧ k ≤ N ∧ 0 ≤ at_ ∧ at_ ≤ N - k) → Ending.returned (.bool b) = .returned (.bool (fitsB N at_ k)) := fun b h => by rw [HD.out, h]
  have HF := Lib.hid hF
  clear hF
  by_cases h1 : 0 ≤ k
  · by_cases h2 : k ≤ N
    · have hw : IntKind.i64.wrap (N - k) = N - k := IntWalk.i64_in _ (by omega)
      by_cases h3 : 0 ≤ at_
      · go_enter Try.func16, Try.ntmps16
        go_wp2
        go_ret
        exact ⟨HF.out _ (by rw [decide_eq_decide]; omega), rfl⟩
      · go_enter Try.func16, Try.ntmps16
        go_wp2
        go_ret
        exact ⟨HF.out _ (decide_eq_false (by omega)).symm, rfl⟩
    · go_enter Try.func16, Try.ntmps16
      go_wp2
      go_ret
      exact ⟨HF.out _ (decide_eq_false (by omega)).symm, rfl⟩
  · go_enter Try.func16, Try.ntmps16
    go_wp2
    go_ret
    exact ⟨HF.out _ (decide_eq_false (by omega)).symm, rfl⟩

/-- The blocks S, and those that were laid between two worlds. -/
def Wid (S : Nat → Prop) (w w' : World) (b : Nat) : Prop := S b ∨ (w.heap.size ≤ b ∧ b < w'.heap.size)

theorem put_one (l : List PutM) (hl : ∀ o ∈ l, o.lv.oneCell' = true) : ∀ u ∈ l.flatMap PutM.cs, u.oneCell' = true := by
  intro u hu
  obtain ⟨o, ho, hx⟩ := List.mem_flatMap.1 hu
  simp only [PutM.cs, List.mem_cons, List.not_mem_nil, or_false] at hx
  rcases hx with rfl | rfl
  · rfl
  · exact hl o ho

theorem ints_one {k : IntKind} {w : World} {v : Value} {zs : List Int} (h : Ints k w v zs) : v.oneCell' = true := by
  obtain ⟨A, c, rfl, _⟩ := h
  rfl

/-- What Write of the reference leaves. -/
def RefWPost (S : Nat → Prop) (r : Nat) (N : Int) (l : List PutM) (at_ : Int) (ys : List Int) (w : World) (e : Ending) (w' : World) : Prop :=
  ∃ rv' l', e = .returned (.int .i64 (memErr N at_ ys.length)) ∧ l'.map PutM.dat = (if Fits N at_ ys.length then l.map PutM.dat ++ [(at_, ys)] else l.map PutM.dat) ∧ l'.length ≤ l.length + 1 ∧ RefAt w' (Wid S w w') r N rv' l' ∧ w.grownBy w' (some r)

theorem RefAt.wide {w : World} {S : Nat → Prop} {r : Nat} {N : Int} {rv : Value} {l : List PutM} (h : RefAt w S r N rv l) : RefAt w (Wid S w w) r N rv l :=
  ⟨h.box, h.row, h.puts, Or.inl h.ins, fun b hb => ⟨Or.inl (h.inr b hb).1, (h.inr b hb).2⟩, fun o ho b hb => ⟨Or.inl (h.inp o ho b hb).1, (h.inp o ho b hb).2⟩, fun b hb => hb.elim (h.lt b) (fun h => h.2), h.num⟩

theorem RefAt.put {w w3 : World} {S : Nat → Prop} {r : Nat} {N : Int} {rv v2 v3 : Value} {l : List PutM} {at_ : Int} {ys : List Int} {n : Nat} (h : RefAt w S r N rv l) (hE : Below w.heap.size w w3) (hn : n = l.length + 1)
    (ho : w3.ownsRow w.heap.size 50 2 v3 n (l.flatMap PutM.cs ++ [.int .i64 at_, v2])) (hi : Ints .i8 w3 v2 ys) (hv2 : ∀ b, v2.ownBlock = some b → w.heap.size ≤ b ∧ b < w3.heap.size) (hyl : ys.length ≤ 100) (hat : 0 ≤ at_ ∧ at_ ≤ 65536) :
    RefAt (w3.setCell ⟨r, 1, none⟩ v3) (Wid S w (w3.setCell ⟨r, 1, none⟩ v3)) r N v3 (l ++ [⟨at_, v2, ys⟩]) ∧ w.grownBy (w3.setCell ⟨r, 1, none⟩ v3) (some r) := by
  have hg := setCell_grown w3 r 1 v3
  have hb := (h.box.ext (Ext.below hE (Nat.le_refl _))).set 1 v3
  generalize w3.setCell ⟨r, 1, none⟩ v3 = w4 at *
  have hrl := h.lt r h.ins
  have hsz := Nat.le_trans hE.size hg.size
  subst hn
  refine ⟨⟨by simpa using hb, ?_, ?_, Or.inl h.ins, ?_, ?_, ?_, h.num⟩, ?_⟩
  · have h1 := row_of_own ho
    rw [List.length_append, List.flatMap_append]
    have h2 := h1.grown hg (Or.inr fun e => by have := (ho.lt r e).1; omega)
    simpa [PutM.cs] using h2
  · intro o hm
    rcases List.mem_append.1 hm with hm | hm
    · obtain ⟨k1, k2⟩ := h.puts o hm
      refine ⟨Row.grown (k1.below hE) hg ?_, k2⟩
      cases e : o.lv.ownBlock with
      | none => exact Or.inl rfl
      | some b => exact Or.inr fun e2 => (h.inp o hm b e).2 (Option.some.inj e2)
    · obtain rfl := List.mem_singleton.1 hm
      refine ⟨Row.grown hi hg ?_, hyl, hat⟩
      cases e : v2.ownBlock with
      | none => exact Or.inl rfl
      | some b => exact Or.inr fun e2 => by have := (hv2 b e).1; have := Option.some.inj e2; omega
  · intro b hb
    have := ho.lt b hb
    exact ⟨Or.inr ⟨this.1, Nat.lt_of_lt_of_le this.2 hg.size⟩, by omega⟩
  · intro o hm b hb
    rcases List.mem_append.1 hm with hm | hm
    · exact ⟨Or.inl (h.inp o hm b hb).1, (h.inp o hm b hb).2⟩
    · obtain rfl := List.mem_singleton.1 hm
      have := hv2 b hb
      exact ⟨Or.inr ⟨this.1, Nat.lt_of_lt_of_le this.2 hg.size⟩, by omega⟩
  · intro b hb
    rcases hb with hb | hb
    · have := h.lt b hb; omega
    · exact hb.2
  · have hE' := grown_of_ext (Ext.below hE (Nat.le_refl _))
    exact ⟨hg.os.trans hE'.os, hg.tape.trans hE'.tape, hg.output.trans hE'.output, hsz, fun k hk hr => (hg.block k (Nat.lt_of_lt_of_le hk hE'.size) hr).trans (hE'.block k hk (by simp))⟩

set_option maxHeartbeats 1600000 in
theorem refWrite_calls (S : Nat → Prop) (r : Nat) (N : Int) (rv : Value) (l : List PutM) (at_ : Int) (y : Value) (ys : List Int) (w : World) (h : RefAt w S r N rv l) (hl : l.length ≤ 60) (hat : InK .i64 at_) (hy : Ints .i8 w y ys) (hyl : ys.length ≤ 100) :
    Calls Try.prog 10 #[.pointer (some ⟨r, 0, none⟩), .int .i64 at_, y] w (RefWPost S r N l at_ ys w) := by
  have HP : Hid (∀ e w', (∃ rv' l', e = .returned (.int .i64 (memErr N at_ ys.length)) ∧ l'.map PutM.dat = (if Fits N at_ ys.length then l.map PutM.dat ++ [(at_, ys)] else l.map PutM.dat) ∧ l'.length ≤ l.length + 1 ∧ RefAt w' (Wid S w w') r N rv' l' ∧ w.grownBy w' (some r)) → RefWPost S r N l at_ ys w e w') := fun e w' h => h
  generalize RefWPost S r N l at_ ys w = PP at *
  have hth := there_calls S r N rv l at_ ys.length w h hat ⟨by omega, by omega⟩
  obtain ⟨Y, cy, ey, hy1, hy2, _⟩ := id hy.form
  unfold maxLen at hy2
  have HR := Lib.hid h
  have HY := Lib.hid hy
  clear h hy
  subst ey
  go_enter Try.func10, Try.ntmps10
  go_wp2_with fail
  refine hth.mono ?_
  rintro e w' ⟨rfl, rfl⟩
  clear hth
  by_cases hf : Fits N at_ ys.length
  · have he := Lib.hid (show memErr N at_ ys.length = 0 from if_pos hf)
    have hd := Lib.hid (show fitsB N at_ ys.length = true from decide_eq_true hf)
    have HL := Lib.hid (show (if Fits N at_ ys.length then l.map PutM.dat ++ [(at_, ys)] else l.map PutM.dat) = l.map PutM.dat ++ [(at_, ys)] from if_pos hf)
    rw [hd.out]
    have c1 := HR.out.cells.2.1
    have hrl : r < w.heap.size := HR.out.lt r HR.out.ins
    obtain ⟨A, c, e1, h1, h2, _⟩ := id HR.out.row
    unfold maxLen at h2
    rw [e1] at c1
    go_wp2_with (at_builtin; refine stopped ?_)
    clear c1
    refine wpList_append_fresh rfl rfl elem_put rfl (by rw [← e1]; exact HR.out.row) rfl (put_one _ (fun o ho => ints_one (HR.out.puts o ho).1)) (by omega) (by omega) ?_
    intro v1 w1 hown1 hE1
    go_wp2_with (at_builtin; refine stopped ?_)
    refine wpList_append_fresh rfl rfl elem_i8 rfl (HY.out.below hE1) rfl (one_ints _ _) (by omega) (by omega) ?_
    intro v2 w2 hown2 hE2
    obtain ⟨A2, c2, rfl, _, _, _⟩ := own_slice hown2
    have hownA := hown1.kept (row := none) (grown_of_ext hE2) (by cases v1.ownBlock <;> simp)
    have hownB := World.ownsRow.alloc hownA (.cells #[.int .i64 at_, .slice A2 ys.length c2] 50)
    have hnew : Row (w2.alloc (.cells #[.int .i64 at_, .slice A2 ys.length c2] 50)) (.slice (some ⟨w2.heap.size, 0, none⟩) 1 1) 1 2 #[.int .i64 at_, .slice A2 ys.length c2].toList := row_new w2 _ 50 1 2 rfl (by decide)
    have hone : ∀ u ∈ (#[.int .i64 at_, .slice A2 ys.length c2] : Array Value).toList, u.oneCell' = true := by
      intro u hu
      simp only [List.mem_cons, List.not_mem_nil, or_false] at hu
      rcases hu with rfl | rfl
      · rfl
      · exact ints_one (ints_of_own hown2)
    have hE12 : Below w.heap.size w w2 := hE1.trans (hE2.mono hE1.size)
    have hbase : w.heap.size ≤ (w2.alloc (.cells #[.int .i64 at_, .slice A2 ys.length c2] 50)).heap.size := by have := hE12.size; simp; omega
    go_wp2_with (at_builtin; refine stopped ?_)
    refine wpList_append_row rfl rfl elem_put hownB rfl hnew rfl hone (by omega) (by omega) hbase ?_
    intro v3 w3 hown3 hg3 hn3
    have hE3 : Below w.heap.size w w3 := below_own (below_alloc hE12 hE12.size _) hbase hownB (Nat.le_refl _) hg3
    obtain ⟨A3, c3, e3, h31, h32, _⟩ := row_of_own hown3
    unfold maxLen at h32
    have hb3 := HR.out.box.ext (Ext.below hE3 (Nat.le_refl _))
    have hrl3 : r < w3.heap.size := hb3.lt
    have hf3 := hb3.frozen 1
    have c13 : w3.cell? ⟨r, 1, none⟩ = some rv := hb3.cell 1
    have hne : (Value.slice A2 ys.length c2).ownBlock = none ∨ (Value.slice A2 ys.length c2).ownBlock ≠ v1.ownBlock := by
      cases e : (Value.slice A2 ys.length c2).ownBlock with
      | none => exact Or.inl rfl
      | some b =>
        refine Or.inr fun e2 => ?_
        have h1 := (hown2.lt b e).1
        have h2 := (hown1.lt b e2.symm).2
        omega
    have hownC := (hown2.alloc (.cells #[.int .i64 at_, .slice A2 ys.length c2] 50)).kept hg3 hne
    clear hne
    have hfit : 0 ≤ at_ ∧ at_ ≤ 65536 := by
      obtain ⟨f1, f2, f3, f4⟩ := hf
      have := HR.out.num
      omega
    have HX := Lib.hid (HR.out.put hE3 rfl hown3 (ints_of_own hownC) (fun b hb => ⟨Nat.le_trans hE1.size (hownC.lt b hb).1, (hownC.lt b hb).2⟩) hyl hfit)
    clear hown1 hownA hownB hnew hone hown2 hown3 hg3 hn3 hE3 hb3 hE12 hE1 hE2 hbase hownC hf
    subst e3
    go_wp2
    exact HP.out _ _ ⟨_, l ++ [⟨at_, .slice A2 ys.length c2, ys⟩], by rw [he.out]; rfl, by rw [HL.out]; simp [PutM.dat], by simp, HX.out.1, HX.out.2⟩
  · have he := Lib.hid (show memErr N at_ ys.length = 23 from if_neg hf)
    have hd := Lib.hid (show fitsB N at_ ys.length = false from decide_eq_false hf)
    have HL := Lib.hid (show (if Fits N at_ ys.length then l.map PutM.dat ++ [(at_, ys)] else l.map PutM.dat) = l.map PutM.dat from if_neg hf)
    clear hf
    rw [hd.out]
    go_wp2_with fail
    first
      | exact HP.out _ _ ⟨rv, l, by rw [he.out]; rfl, HL.out.symm, by omega, HR.out.wide, World.grownBy.refl _ _⟩
      | (go_ret; exact HP.out _ _ ⟨rv, l, by rw [he.out]; rfl, HL.out.symm, by omega, HR.out.wide, World.grownBy.refl _ _⟩)

/-- What was written last at a place. -/
def lastAt (ps : List (Int × List Int)) (i : Int) : Int := ps.foldl (fun x p => if p.1 ≤ i ∧ i < p.1 + p.2.length then p.2[(i - p.1).toNat]?.getD 0 else x) 0
theorem lastAt_snoc (ps : List (Int × List Int)) (p : Int × List Int) (i : Int) : lastAt (ps ++ [p]) i = if p.1 ≤ i ∧ i < p.1 + p.2.length then p.2[(i - p.1).toNat]?.getD 0 else lastAt ps i := by
  unfold lastAt
  rw [List.foldl_append]
  rfl
def refRead (N : Int) (ps : List (Int × List Int)) (at_ k : Int) : List Int := if Fits N at_ k then (List.range k.toNat).map (fun j => lastAt ps (at_ + (j : Nat))) else []

theorem RefAt.at {w : World} {S : Nat → Prop} {r : Nat} {N : Int} {A : Option Addr} {n c : Nat} {l : List PutM} (h : RefAt w S r N (.slice A n c) l) {m : Nat} {o : PutM} (hm : l[m]? = some o) :
    ∃ b off, A = some ⟨b, off, none⟩ ∧ w.cell? ⟨b, off + m * 2, none⟩ = some (.int .i64 o.at_) ∧ w.cell? ⟨b, off + m * 2 + 1, none⟩ = some o.lv := by
  obtain ⟨A', c', e, h1, h2, h3, h4⟩ := h.row
  cases e
  have g := fun i u (hi : i < 2) (hu : o.cs[i]? = some u) => h4 (m * 2 + i) u (by rw [pcs_get _ _ _ hi, hm]; exact hu)
  obtain ⟨b, off, rfl, k0⟩ := g 0 _ (by omega) rfl
  obtain ⟨_, _, e1, k1⟩ := g 1 _ (by omega) rfl
  cases e1
  exact ⟨b, off, rfl, by simpa using k0, by simpa [Nat.add_assoc] using k1⟩

set_option maxRecDepth 4000 in
set_option maxHeartbeats 6400000 in
theorem refRead_calls (S : Nat → Prop) (r : Nat) (N : Int) (rv : Value) (l : List PutM) (at_ k : Int) (w : World) (h : RefAt w S r N rv l) (hl : l.length ≤ 60) (hat : InK .i64 at_) (hk : InK .i64 k) :
    Calls Try.prog 12 #[.pointer (some ⟨r, 0, none⟩), .int .i64 at_, .int .i64 k] w fun e w' => ∃ v', e = .returned (.tuple #[v', .int .i64 (memErr N at_ k)]) ∧ Ints .i8 w' v' (refRead N (l.map PutM.dat) at_ k) ∧ Below w.heap.size w w' := by
  have hth := there_calls S r N rv l at_ k w h hat hk
  simp only [InK] at hat hk
  have HR := Lib.hid h
  clear h
  go_enter Try.func12, Try.ntmps12
  go_wp2_with fail
  refine hth.mono ?_
  rintro e w' ⟨rfl, rfl⟩
  clear hth
  by_cases hf : Fits N at_ k
  · have he := Lib.hid (show memErr N at_ k = 0 from if_pos hf)
    have hd := Lib.hid (show fitsB N at_ k = true from decide_eq_true hf)
    have HL := Lib.hid (show refRead N (l.map PutM.dat) at_ k = (List.range k.toNat).map (fun j => lastAt (l.map PutM.dat) (at_ + (j : Nat))) from if_pos hf)
    have hN := HR.out.num
    obtain ⟨f1, f2, f3, f4⟩ := hf
    obtain ⟨n, rfl⟩ := Int.eq_ofNat_of_zero_le f1
    obtain ⟨q, rfl⟩ := Int.eq_ofNat_of_zero_le f3
    have hqn : q + n ≤ 65536 := by omega
    have HQN : Hid (q + n ≤ 65536) := hqn
    clear f1 f2 f3 f4 hat hk hN
    rw [hd.out]
    have hrl : r < w.heap.size := HR.out.lt r HR.out.ins
    obtain ⟨A, c, e1, h1, h2, _⟩ := id HR.out.row
    unfold maxLen at h2
    subst e1
    have hw : IntKind.i64.wrap ((q : Int) + (n : Int)) = (q : Int) + (n : Int) := IntWalk.i64_in _ (by omega)
    have hown := World.ownsRow_made (base := w.heap.size) (e := 38) (size := 1) w #[] 0 (Nat.le_refl _) (Nat.zero_le _) (by simp)
    have hb0 := below_alloc (Below.refl w.heap.size w) (Nat.le_refl _) (.cells #[] 38)
    go_wp2_with fail
    go_loopw [8, 9] (fun v0 i0 wr => ∃ (v : Value) (j i : Nat), v = v0 ∧ j ≤ n ∧ Hid (i = q + j) ∧ i0 = .int .i64 (i : Int) ∧ Hid (wr.ownsRow w.heap.size 38 1 v j (((List.range j).map (fun j => lastAt (l.map PutM.dat) ((q : Int) + (j : Nat)))).map (.int .i8))) ∧ Below w.heap.size w wr) (fun _ i0 _ => 65536 - (intOf i0).toNat)
    case atStart => exact ⟨_, 0, q, rfl, by omega, rfl, rfl, hown, hb0⟩
    case round =>
      obtain ⟨v, j, i, rfl, hj, HI, rfl, HO, hbel⟩ := hrel
      clear hown hb0
      have hin : i ≤ 65536 := by have := HI.out; have := HQN.out; omega
      by_cases hlt : j < n
      · have HJ := Lib.hid (show j + 1 ≤ n from hlt)
        have hlt1 : (i : Int) < (q : Int) + (n : Int) := by have := HI.out; omega
        have hlt2 : i < 65536 := by have := HI.out; have := HQN.out; omega
        clear hlt
        go_wp2_with fail
        go_loopw [10, 11] (fun x m0 wr2 => ∃ (m : Nat) (y : Int), m ≤ l.length ∧ m0 = .int .i64 (m : Int) ∧ x = .int .i8 y ∧ Hid (y = lastAt ((l.take m).map PutM.dat) i) ∧ Hid (wr2.ownsRow w.heap.size 38 1 v j (((List.range j).map (fun j => lastAt (l.map PutM.dat) ((q : Int) + (j : Nat)))).map (.int .i8))) ∧ Below w.heap.size w wr2) (fun _ m0 _ => l.length - (intOf m0).toNat)
        case atStart => exact ⟨0, 0, by omega, rfl, rfl, rfl, HO, hbel⟩
        case round =>
          clear HO hbel
          obtain ⟨m, y, hm, rfl, rfl, HY, HO, hbel⟩ := hrel
          have hR := HR.out.below hbel (Nat.le_refl _)
          have c1 := hR.cells.2.1
          by_cases hmlt : m < l.length
          · have hs : l[m]? = some l[m] := by simp [hmlt]
            obtain ⟨bo, oo, rfl, x0, x1⟩ := hR.at hs
            obtain ⟨p1, p2, p3, p4⟩ := hR.puts _ (List.getElem_mem hmlt)
            have HT : Hid ((l.take (m + 1)).map PutM.dat = (l.take m).map PutM.dat ++ [(l[m].at_, l[m].zs)]) := by show _ = _; rw [List.take_succ_eq_append_getElem hmlt, List.map_append]; rfl
            clear hs hR
            generalize l[m] = o at *
            obtain ⟨oa, lv, ys⟩ := o
            simp only at x0 x1 p1 p2 p3 p4 HT
            obtain ⟨a, rfl⟩ := Int.eq_ofNat_of_zero_le p3
            obtain ⟨Y, cy, rfl, hyc, hym, hyy⟩ := p1.form
            unfold maxLen at hym
            clear p1
            have HS := Lib.hid (lastAt_snoc ((l.take m).map PutM.dat) ((a : Int), ys) i)
            have ha : a ≤ 65536 := by omega
            have hw3 : IntKind.i64.wrap ((a : Int) + (ys.length : Int)) = (a : Int) + (ys.length : Int) := IntWalk.i64_in _ (by omega)
            by_cases g1 : a ≤ i
            · by_cases g2 : i < a + ys.length
              · obtain ⟨d, hd0⟩ : ∃ d : Nat, i = a + d := ⟨i - a, by omega⟩
                have hdl : d < ys.length := by omega
                obtain ⟨by_, oy, rfl, k0⟩ := hyy d hdl
                have HY2 : Hid (ys[d]?.getD 0 = lastAt ((l.take (m + 1)).map PutM.dat) i) := by
                  show _ = _
                  rw [HT.out, HS.out, if_pos ⟨by simp only; omega, by simp only; omega⟩]
                  simp only [hd0]
                  congr 2
                  omega
                generalize ys[d]?.getD 0 = z at *
                have hw4 : IntKind.i64.wrap ((i : Int) - (a : Int)) = (d : Int) := by rw [hd0]; exact (IntWalk.i64_in _ (by omega)).trans (by omega)
                have d1 : decide ((a : Int) ≤ (i : Int)) = true := decide_eq_true (by omega)
                have d2 : decide ((i : Int) < (a : Int) + (ys.length : Int)) = true := decide_eq_true (by omega)
                have d3 : (d : Int) < (ys.length : Int) := by omega
                have HD0 := Lib.hid hd0
                clear hyy hd0 HY HS HT
                go_wp2_with fail
                refine wp_region_R [(0, true), (1, true), (2, true), (3, true), (4, true), (5, true), (6, true), (7, true), (8, true), (9, true), (10, true), (11, true), (12, true), (13, true), (14, true), (15, true), (16, true), (17, true), (18, true), (19, true), (20, true), (21, true), (22, true), (23, true), (24, true), (25, true), (26, true), (27, true), (28, true), (29, true), (30, true), (31, true)] (by kernel_rfl) (by kernel_rfl) (fun _ _ d _ _ h => by cases d <;> exact h) ?_
                simp only [pickE, List.getElem?_cons_zero, List.getElem?_cons_succ]
                repeat (first | (refine wpF_skip (by rfl) ?_; simp only [Act.put, List.setIfInBounds_toArray, List.set_cons_zero, List.set_cons_succ]) | (refine wpF_pure (by rfl) (fun W hW => by subst hW; go_simp; with_reducible rfl) ?_; simp only [Act.put, List.setIfInBounds_toArray, List.set_cons_zero, List.set_cons_succ]))
                refine wpF_nil ?_
                go_wp2_with fail
                refine wp_region_R [(0, true), (1, true), (2, true), (3, true), (4, true), (5, true), (6, true), (7, true), (8, true), (9, true), (10, true), (11, true), (12, true), (13, true), (14, true), (15, true), (16, true), (17, true), (18, true), (19, true), (20, true)] (by kernel_rfl) (by kernel_rfl) (fun _ _ d _ _ h => by cases d <;> exact h) ?_
                simp only [pickE, List.getElem?_cons_zero, List.getElem?_cons_succ]
                repeat (first | (refine wpF_skip (by rfl) ?_; simp only [Act.put, List.setIfInBounds_toArray, List.set_cons_zero, List.set_cons_succ]) | (refine wpF_pure (by rfl) (fun W hW => by subst hW; go_simp; with_reducible rfl) ?_; simp only [Act.put, List.setIfInBounds_toArray, List.set_cons_zero, List.set_cons_succ]))
                refine wpF_nil ?_
                have HO2 := Lib.hid (ownsRow_drew (ownsRow_drew HO.out))
                have hb2 := hbel.drew.drew
                clear c1 x0 x1 k0 HO hbel
                generalize wr.drew.drew = w2 at *
                go_wp2_with fail
                go_roundw
                case rel => exact ⟨m + 1, z, by omega, by go_num, rfl, HY2, HO2, hb2⟩
                case measure => simp [intOf]; omega
              · have d1 : decide ((a : Int) ≤ (i : Int)) = true := decide_eq_true (by omega)
                have HY2 : Hid (y = lastAt ((l.take (m + 1)).map PutM.dat) i) := by
                  show _ = _
                  rw [HT.out, HS.out, if_neg (by rintro ⟨u1, u2⟩; simp only at u1 u2; omega)]
                  exact HY.out
                have d2 : decide ((i : Int) < (a : Int) + (ys.length : Int)) = false := decide_eq_false (by omega)
                clear hyy HY HS HT
                go_wp2_with fail
                refine wp_region_R [(0, true), (1, true), (2, true), (3, true), (4, true), (5, true), (6, true), (7, true), (8, true), (9, true), (10, true), (11, true), (12, true), (13, true), (14, true), (15, true), (16, true), (17, true), (18, true), (19, true), (20, true), (21, true), (22, true), (23, true), (24, true), (25, true), (26, true), (27, true), (28, true), (29, true), (30, true), (31, true)] (by kernel_rfl) (by kernel_rfl) (fun _ _ d _ _ h => by cases d <;> exact h) ?_
                simp only [pickE, List.getElem?_cons_zero, List.getElem?_cons_succ]
                repeat (first | (refine wpF_skip (by rfl) ?_; simp only [Act.put, List.setIfInBounds_toArray, List.set_cons_zero, List.set_cons_succ]) | (refine wpF_pure (by rfl) (fun W hW => by subst hW; go_simp; with_reducible rfl) ?_; simp only [Act.put, List.setIfInBounds_toArray, List.set_cons_zero, List.set_cons_succ]))
                refine wpF_nil ?_
                have HO2 := Lib.hid (ownsRow_drew HO.out)
                have hb2 := hbel.drew
                clear c1 x0 x1 HO hbel
                generalize wr.drew = w2 at *
                go_wp2_with fail
                go_roundw
                case rel => exact ⟨m + 1, y, by omega, by go_num, rfl, HY2, HO2, hb2⟩
                case measure => simp [intOf]; omega
            · have d1 : decide ((a : Int) ≤ (i : Int)) = false := decide_eq_false (by omega)
              have HY2 : Hid (y = lastAt ((l.take (m + 1)).map PutM.dat) i) := by
                show _ = _
                rw [HT.out, HS.out, if_neg (by rintro ⟨u1, u2⟩; simp only at u1 u2; omega)]
                exact HY.out
              clear hyy HY HS HT
              go_wp2_with fail
              refine wp_region_R [(0, true), (1, true), (2, true), (3, true), (4, true), (5, true), (6, true), (7, true), (8, true), (9, true), (10, true), (11, true), (12, true), (13, true), (14, true), (15, true), (16, true), (17, true), (18, true), (19, true), (20, true), (21, true), (22, true), (23, true), (24, true), (25, true), (26, true), (27, true), (28, true), (29, true), (30, true), (31, true)] (by kernel_rfl) (by kernel_rfl) (fun _ _ d _ _ h => by cases d <;> exact h) ?_
              simp only [pickE, List.getElem?_cons_zero, List.getElem?_cons_succ]
              repeat (first | (refine wpF_skip (by rfl) ?_; simp only [Act.put, List.setIfInBounds_toArray, List.set_cons_zero, List.set_cons_succ]) | (refine wpF_pure (by rfl) (fun W hW => by subst hW; go_simp; with_reducible rfl) ?_; simp only [Act.put, List.setIfInBounds_toArray, List.set_cons_zero, List.set_cons_succ]))
              refine wpF_nil ?_
              have HO2 := Lib.hid (ownsRow_drew HO.out)
              have hb2 := hbel.drew
              clear c1 x0 x1 HO hbel
              generalize wr.drew = w2 at *
              go_wp2_with fail
              go_roundw
              case rel => exact ⟨m + 1, y, by omega, by go_num, rfl, HY2, HO2, hb2⟩
              case measure => simp [intOf]; omega
          · have hmm : m = l.length := by omega
            subst hmm
            rw [List.take_length] at HY
            have HO1 := HO.out
            have hsz := hbel.size
            have HY2 : Hid (((List.range j).map (fun j => lastAt (l.map PutM.dat) ((q : Int) + (j : Nat)))).map (.int .i8) ++ (#[.int .i8 y] : Array Value).toList = ((List.range (j + 1)).map (fun j => lastAt (l.map PutM.dat) ((q : Int) + (j : Nat)))).map (Value.int .i8)) := by
              show _ = _
              rw [HY.out, HI.out, List.range_succ, List.map_append, List.map_append]
              simp
            have hnew := row_new wr #[.int .i8 y] 38 1 1 rfl (by decide)
            have hE9 := below_alloc hbel hsz (.cells #[.int .i8 y] 38)
            have hownA := World.ownsRow.alloc HO1 (.cells #[.int .i8 y] 38)
            have hbase := hE9.size
            have hone : ∀ u ∈ (#[.int .i8 y] : Array Value).toList, u.oneCell' = true := one_ints .i8 [y]
            have HI2 : Hid (i + 1 = q + (j + 1)) := by have := HI.out; show _ = _; omega
            have hk1 : j + 1 ≤ 140737488355328 := by have := HQN.out; omega
            have hk2 : (j + 1) * 1 ≤ 140737488355328 := by have := HQN.out; omega
            clear HY HO HO1 hbel hsz
            go_wp2_with (at_builtin; refine wpList_append_row rfl rfl elem_i8 hownA rfl hnew rfl hone hk1 hk2 hbase ?_; intro v9 w9 ho9 hg9 _)
            have hE := below_own hE9 hbase hownA (Nat.le_refl _) hg9
            rw [HY2.out] at ho9
            have HO9 := Lib.hid ho9
            clear ho9 hg9 hownA hnew hE9
            go_roundw
            case rel => exact ⟨_, j + 1, i + 1, rfl, HJ.out, HI2, by go_num, HO9, hE⟩
            case measure => simp [intOf]; omega
      · have hjn : j = n := by omega
        subst hjn
        have hlt1 : ¬ (i : Int) < (q : Int) + (j : Int) := by have := HI.out; omega
        clear hlt
        go_wp2_with fail
        go_ret2
        refine ⟨v, by rw [he.out]; rfl, ?_, hbel⟩
        rw [HL.out]
        exact ints_of_own HO.out
  · have he := Lib.hid (show memErr N at_ k = 23 from if_neg hf)
    have hd := Lib.hid (show fitsB N at_ k = false from decide_eq_false hf)
    have HL := Lib.hid (show refRead N (l.map PutM.dat) at_ k = [] from if_neg hf)
    clear hf
    rw [hd.out]
    go_wp2_with fail
    go_ret2
    exact ⟨.slice none 0 0, by rw [he.out]; rfl, by rw [HL.out]; exact row_nil _ _, Below.refl _ _⟩

end Go.Proofs.Ytfgpojlgdlmmbaa
