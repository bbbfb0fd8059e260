/- The walks of some and number of the reference of graphs as bytes. -/
/- The walk of the reference's node as bytes. -/
/- The walk of the reference's Put of graphs. -/
import Derived.Test.YtdhdbmfipkppiaaModO
import Derived.Test.YtdhdbmfipkppiaaRfj
namespace Go.Proofs.Ytdhdbmfipkppiaa
set_option linter.unusedSimpArgs false
set_option linter.unusedVariables false
set_option linter.unnecessarySimpa false
open Go.RowKit

def GrewPost (w : World) (base : Nat) (e : TypeId) (sz : Nat) (v : Value) (n : Nat) (xs : List Value) (ed : Ending) (w' : World) : Prop := ∃ v', ed = .returned v' ∧ Grew w base e sz v n xs w' v'

theorem shift_i64 {wide i : Nat} (h : i < wide) : (8 * ((wide : Int) - 1 - (i : Int))).toNat = 8 * (wide - 1 - i) := by omega

/-- The first bytes of a number are laid down. -/
def GrewBe (w : World) (base : Nat) (v : Value) (bs : List Int) (x : Int) (wide j : Nat) (w' : World) (v' : Value) : Prop := Grew w base 5 1 v (bs ++ (be x wide).take j).length ((bs ++ (be x wide).take j).map (.int .u8)) w' v'
/-- Which byte is next. -/
def Idx (wide j : Nat) (i : Value) : Prop := i = .int .i64 ((wide : Int) - 1 - (j : Int))

set_option maxHeartbeats 1600000 in
theorem number04_calls (base : Nat) (v : Value) (bs : List Int) (x : Int) (wide : Nat) (w : World)
    (hown : w.ownsRow base 5 1 v bs.length (bs.map (.int .u8))) (hbase : base ≤ w.heap.size) (hw8 : wide ≤ 8) (hn : bs.length + wide ≤ 1099511627776) :
    Calls Try.prog 122 #[v, .int .i64 x, .int .i64 wide] w (GrewPost w base 5 1 v (bs ++ be x wide).length ((bs ++ be x wide).map (.int .u8))) := by
  have hg0 : GrewBe w base v bs x wide 0 w v := by unfold GrewBe; simpa using Grew.refl hown
  obtain ⟨F, hF⟩ : ∃ F, bs ++ be x wide = F := ⟨_, rfl⟩
  rw [hF]
  have HF := Lib.hid hF
  clear hF
  go_enter Try.func122, Try.ntmps122
  go_wp2_with fail
  go_loopw [0, 7] (fun b i wr => ∃ (j : Nat), j ≤ wide ∧ Idx wide j i ∧ GrewBe w base v bs x wide j wr b) (fun _ i _ => (intOf i + 1).toNat)
  case atStart => exact ⟨0, by omega, by unfold Idx; exact congrArg (Value.int .i64) (by omega), hg0⟩
  case round =>
    clear hg0
    obtain ⟨j, hj, hix, hg⟩ := hrel
    unfold Idx at hix
    subst hix
    unfold GrewBe at hg
    by_cases hjlt : j < wide
    · have hs := shift_i64 hjlt
      have hs0 : (0 : Int) ≤ 8 * ((wide : Int) - 1 - (j : Int)) := by omega
      have hs1 : 8 * ((wide : Int) - 1 - (j : Int)) ≤ 64 := by omega
      have hc : (0 : Int) ≤ (wide : Int) - 1 - (j : Int) := by omega
      have HT := Lib.hid (be_take_succ x hjlt)
      have hlen : (bs ++ (be x wide).take j).length = bs.length + j := by rw [List.length_append, List.length_take, be_len]; omega
      have hlen := Lib.hid hlen
      go_wp2_with (at_builtin; refine stopped ?_)
      have hnew := row_new wr #[.int .u8 (x / 2 ^ (8 * (wide - 1 - j)) % 256)] 5 1 1 rfl (by decide)
      have hg1 := hg.alloc (.cells #[.int .u8 (x / 2 ^ (8 * (wide - 1 - j)) % 256)] 5)
      have hl1 := hlen.out
      refine wpList_append_row rfl rfl elem_u8 hg1.own rfl hnew rfl (by intro u hu; simp at hu; subst hu; rfl) (by omega) (by omega) (Nat.le_trans hbase hg1.grown.size) ?_
      intro v' w' ho hgr hn
      have hg2 : GrewBe w base v bs x wide (j + 1) w' v' := by
        unfold GrewBe
        refine hg1.append ?_ hgr hn
        rw [HT.out, ← List.append_assoc, List.length_append, List.map_append]
        exact ho
      clear hg hg1 ho hgr hn hnew hl1
      go_wp2_with fail
      go_roundw
      case rel => exact ⟨j + 1, by omega, by unfold Idx; exact congrArg (Value.int .i64) (by omega), hg2⟩
      case measure => simp [intOf]; omega
    · obtain rfl : j = wide := by omega
      have hc : ¬ (0 : Int) ≤ (j : Int) - 1 - (j : Int) := by omega
      have hg2 : Grew w base 5 1 v F.length (F.map (.int .u8)) wr u0 := by
        have e : (be x j).take j = be x j := List.take_of_length_le (by rw [be_len]; omega)
        rw [e, HF.out] at hg
        exact hg
      clear hg
      go_wp2_with fail
      go_ret
      exact ⟨_, rfl, hg2⟩

/-- A row that lies where another does not. -/
def Off2 (l : List Int) (lv v : Value) : Prop := l ≠ [] → ∀ k, lv.ownBlock = some k → v.ownBlock ≠ some k

theorem ints_grown {w W : World} {k : IntKind} {lv : Value} {l : List Int} {row : Option Nat} (h : Ints k w lv l) (hg : w.grownBy W row) (hoff : l ≠ [] → ∀ b, lv.ownBlock = some b → row ≠ some b) : Ints k W lv l := by
  by_cases hl0 : l = []
  · subst hl0
    obtain ⟨A, c, e, h1, h2, h3, h4⟩ := h
    exact ⟨A, c, e, h1, h2, h3, At.nil _ _⟩
  · exact Row.grown h hg (by
      cases hq : lv.ownBlock with
      | none => exact .inl rfl
      | some k => exact .inr (fun e => hoff hl0 k hq e.symm))

set_option maxHeartbeats 1600000 in
theorem some_calls (base : Nat) (v lv : Value) (bs l : List Int) (w : World) (hown : w.ownsRow base 5 1 v bs.length (bs.map (.int .u8))) (hbase : base ≤ w.heap.size) (hl : Ints .i64 w lv l) (hoff : Off2 l lv v) (hlen : bs.length + l.length ≤ 100000000) :
    Calls Try.prog 97 #[v, lv] w (GrewPost w base 5 1 v (bs ++ l.map b8).length ((bs ++ l.map b8).map (.int .u8))) := by
  have hg0 : Grew w base 5 1 v (bs ++ (l.take 0).map b8).length ((bs ++ (l.take 0).map b8).map (.int .u8)) w v := by simpa using Grew.refl hown
  obtain ⟨A, c, rfl, hlc, hcm, _⟩ := id hl.form
  unfold maxLen at hcm
  have hlt0 : l ≠ [] → ∀ k, (Value.slice A l.length c).ownBlock = some k → k < w.heap.size := fun h0 k hk => by
    obtain ⟨b, e, hb⟩ := Row.lt hl (by simpa using h0)
    rw [hk] at e
    cases e
    exact hb
  have HLT := Lib.hid hlt0
  clear hlt0
  go_enter Try.func97, Try.ntmps97
  go_wp2_with fail
  go_loopw [0, 5] (fun u0 i wr => ∃ (u : Value) (k : Nat), u = u0 ∧ k ≤ l.length ∧ i = .int .i64 k ∧ Grew w base 5 1 v (bs ++ (l.take k).map b8).length ((bs ++ (l.take k).map b8).map (.int .u8)) wr u) (fun _ i _ => l.length - (intOf i).toNat)
  case atStart => exact ⟨_, 0, rfl, by omega, rfl, hg0⟩
  case round =>
    clear hg0
    obtain ⟨u, k, rfl, hk, rfl, hg⟩ := hrel
    by_cases hlt : k < l.length
    · have hI := ints_grown hl hg.grown (fun h0 b hb => hoff h0 b hb)
      obtain ⟨A', c', e', _, _, hcell⟩ := hI.form
      cases e'
      obtain ⟨b, off, rfl, x0⟩ := hcell k hlt
      rw [show l[k]?.getD 0 = l[k] by simp [hlt]] at x0
      have HT : Hid (l.take (k + 1) = l.take k ++ [l[k]]) := List.take_succ_eq_append_getElem hlt
      clear hcell hI
      generalize l[k] = z at *
      have hlk : (bs ++ (l.take k).map b8).length ≤ bs.length + k := by simp; omega
      have hnew := row_new wr #[.int .u8 (z % 256)] 5 1 1 rfl (by decide)
      have hg1 := hg.alloc (.cells #[.int .u8 (z % 256)] 5)
      have hone : ∀ u ∈ #[Value.int .u8 (z % 256)].toList, u.oneCell' = true := by intro u hu; simp at hu; subst hu; rfl
      have hbs2 := Nat.le_trans hbase hg1.grown.size
      have hk1 : (bs ++ (l.take k).map b8).length + 1 ≤ 140737488355328 := by omega
      have hk2 : ((bs ++ (l.take k).map b8).length + 1) * 1 ≤ 140737488355328 := by omega
      clear hg
      go_wp2_with (at_builtin; refine wpList_append_row rfl rfl elem_u8 hg1.own rfl hnew rfl hone hk1 hk2 hbs2 ?_; intro v' w' ho hgr hn)
      have hg2 : Grew w base 5 1 v (bs ++ (l.take (k + 1)).map b8).length ((bs ++ (l.take (k + 1)).map b8).map (.int .u8)) w' v' := by
        refine hg1.append ?_ hgr hn
        rw [HT.out]
        have e1 : (bs ++ (l.take k ++ [z]).map b8).length = (bs ++ (l.take k).map b8).length + 1 := by simp; omega
        have e2 : (bs ++ (l.take k ++ [z]).map b8).map (Value.int .u8) = (bs ++ (l.take k).map b8).map (.int .u8) ++ #[Value.int .u8 (z % 256)].toList := by simp [b8]
        rw [e1, e2]
        exact ho
      go_roundw
      case rel => exact ⟨_, k + 1, rfl, by omega, by go_num, hg2⟩
      case measure => simp [intOf]; omega
    · have e : l.take k = l := List.take_of_length_le (by omega)
      rw [e] at hg
      go_wp2_with fail
      go_ret
      exact ⟨_, rfl, hg⟩

end Go.Proofs.Ytdhdbmfipkppiaa

namespace Go.Proofs.Ytdhdbmfipkppiaa
set_option linter.unusedSimpArgs false
set_option linter.unusedVariables false
set_option linter.unnecessarySimpa false
open Go.RowKit

/-- A row of bytes under way, beside a box. -/
structure Rw (w0 w : World) (v : Value) (bs : List Int) (Nb : Nat) (cs : Array Value) (T : TypeId) : Prop where
  own : OwnB w0 w v bs
  ext : Ext w0 w
  box : Blk w Nb cs T
  ne : v.ownBlock ≠ some Nb

theorem Rw.step {w0 w w' : World} {v v' : Value} {bs ys : List Int} {Nb : Nat} {cs : Array Value} {T : TypeId} (h : Rw w0 w v bs Nb cs T) (g : Grew w w0.heap.size 5 1 v ys.length (ys.map (.int .u8)) w' v') : Rw w0 w' v' ys Nb cs T :=
  ⟨g.own, Below.grown h.ext g.grown h.ext.size (fun k hk => (h.own.lt k hk).1), h.box.grown g.grown (fun e => h.ne e.symm), fun e => by
    rcases g.near _ e with h1 | h1
    · exact h.ne h1
    · have := h.box.lt; omega⟩
theorem Rw.later {w0 w w' : World} {v : Value} {bs : List Int} {Nb : Nat} {cs : Array Value} {T : TypeId} (h : Rw w0 w v bs Nb cs T) (e : Ext w w') : Rw w0 w' v bs Nb cs T := ⟨h.own.ext e, h.ext.trans e, h.box.ext e, h.ne⟩

section
variable {w0 w : World} {v : Value} {bs : List Int} {Nb : Nat} {cs : Array Value} {T : TypeId}
theorem somel_calls (hw : Rw w0 w v bs Nb cs T) (l : List Int) {cs' : Array Value} {n : Nat} (hc : cs'.toList = l.map (.int .i64)) (hn : n = l.length) (hlen : bs.length + l.length ≤ 100000000) :
    Calls Try.prog 97 #[v, .slice (some ⟨w.heap.size, 0, none⟩) n n] (w.alloc (.cells cs' 3)) fun e w' => ∃ v', e = .returned v' ∧ Rw w0 w' v' (bs ++ l.map b8) Nb cs T := by
  subst hn
  have hs : cs'.size = l.length := by rw [← Array.length_toList, hc, List.length_map]
  have hr := row_new w cs' 3 l.length 1 (by omega) (by unfold maxLen; omega)
  rw [hc] at hr
  have hw1 := hw.later (ext_alloc w (.cells cs' 3))
  refine (some_calls w0.heap.size v _ bs l _ hw1.own hw1.ext.size hr (fun _ k hk e => ?_) hlen).mono ?_
  · simp only [Value.ownBlock, Option.some.injEq] at hk
    have := (hw.own.lt _ e).2
    omega
  · rintro e w' ⟨v', rfl, hg⟩
    exact ⟨v', rfl, hw1.step hg⟩
theorem somer_calls (hw : Rw w0 w v bs Nb cs T) {lv : Value} {l : List Int} (hl : Ints .i64 w0 lv l) (hlen : bs.length + l.length ≤ 100000000) :
    Calls Try.prog 97 #[v, lv] w fun e w' => ∃ v', e = .returned v' ∧ Rw w0 w' v' (bs ++ l.map b8) Nb cs T := by
  refine (some_calls w0.heap.size v lv bs l w hw.own hw.ext.size (hl.ext hw.ext) (fun h0 k hk e => ?_) hlen).mono ?_
  · obtain ⟨b, e1, hlt⟩ := Row.lt hl (by simpa using h0)
    rw [hk] at e1
    cases e1
    have := (hw.own.lt _ e).1
    omega
  · rintro e w' ⟨v', rfl, hg⟩
    exact ⟨v', rfl, hw.step hg⟩
theorem numl_calls (hw : Rw w0 w v bs Nb cs T) (x : Int) (wide : Nat) (h8 : wide ≤ 8) (hlen : bs.length + wide ≤ 100000000) :
    Calls Try.prog 122 #[v, .int .i64 x, .int .i64 wide] w fun e w' => ∃ v', e = .returned v' ∧ Rw w0 w' v' (bs ++ be x wide) Nb cs T := by
  refine (number04_calls w0.heap.size v bs x wide w hw.own hw.ext.size h8 (by omega)).mono ?_
  rintro e w' ⟨v', rfl, hg⟩
  exact ⟨v', rfl, hw.step hg⟩
end

theorem be2 (x : Int) : be x 2 = [b8 (x / 256), b8 x] := by
  simp [be, byteAt, b8, List.range_succ]
theorem be4 (x : Int) : be x 4 = encB x := by
  simp [be, byteAt, encB, b8, List.range_succ]

set_option maxRecDepth 8000 in
set_option maxHeartbeats 6400000 in
theorem node04_calls (n : Nd) (w0 w : World) (v : Value) (bs : List Int) (hown : OwnB w0 w v bs) (hE : Ext w0 w) (hn : nodeAt w0 n) (hlen : bs.length + longN n.c ≤ 100000000) :
    Calls Try.prog 98 #[v, .agg #[.int .i64 n.op, n.inV, .int .i64 n.k, .int .i64 n.st, .int .i64 n.pad, .int .i64 n.out, .int .i64 n.mul, .int .i64 n.sh, .int .i64 n.zero, .int .i64 n.th, .int .i64 n.tw, .int .i64 n.tc, n.wV, n.bV]] w fun e w' => ∃ v', e = .returned v' ∧ OwnB w0 w' v' (bs ++ encN n.c) ∧ Ext w0 w' := by
  obtain ⟨hi, hws, hbs, hbr, hwr, hil, hwl, hbl⟩ := hn
  have hw1' : Rw w0 (w.alloc (.cells #[.int .i64 n.op, n.inV, .int .i64 n.k, .int .i64 n.st, .int .i64 n.pad, .int .i64 n.out, .int .i64 n.mul, .int .i64 n.sh, .int .i64 n.zero, .int .i64 n.th, .int .i64 n.tw, .int .i64 n.tc, n.wV, n.bV] 40)) v bs w.heap.size #[.int .i64 n.op, n.inV, .int .i64 n.k, .int .i64 n.st, .int .i64 n.pad, .int .i64 n.out, .int .i64 n.mul, .int .i64 n.sh, .int .i64 n.zero, .int .i64 n.th, .int .i64 n.tw, .int .i64 n.tc, n.wV, n.bV] 40 := ⟨hown.ext (ext_alloc _ _), hE.trans (ext_alloc _ _), Blk.new _ _ _, fun e => by have := (hown.lt _ e).2; omega⟩
  generalize hNb : w.heap.size = Nb at *
  have hlen' : bs.length + (16 + n.ins.length + n.ws.length + 4 * n.bs.length) ≤ 100000000 := hlen
  obtain ⟨Ai, ci, ei, hi1, hi2, _⟩ := id hi.form
  obtain ⟨Aw, cw, ew, hws1, hws2, _⟩ := id hws.form
  obtain ⟨Ab, cb, eb, hbs1, hbs2, _⟩ := id hbs.form
  unfold maxLen at hi2 hws2 hbs2
  have EI := Lib.hid ei
  have EW := Lib.hid ew
  have EB := Lib.hid eb
  clear ei ew eb hown hE hlen
  have HB3 : Hid (bs ++ [n.op, (n.ins.length : Int)].map b8 ++ n.ins.map b8 ++ [n.k, n.st, n.pad, n.out].map b8 ++ be n.mul 2 ++ [n.sh, n.zero, n.th, n.tw, n.tc].map b8 ++ be (n.ws.length : Int) 2 ++ n.ws.map b8 ++ [b8 (n.bs.length : Int)] ++ n.bs.flatMap encB = bs ++ encN n.c) := by
    show _ = _
    simp [encN, Nd.c, be2, List.append_assoc]
  go_enter Try.func98, Try.ntmps98
  go_upto_region 1 with fail
  generalize w.alloc _ = w1 at *
  have hw1 := hw1'
  clear hw1'
  have d0 : World.cell? w1 ⟨Nb, 0, none⟩ = some (.int .i64 n.op) := hw1.box.cell 0
  have d1 : World.cell? w1 ⟨Nb, 1, none⟩ = some (.slice Ai n.ins.length ci) := by rw [← EI.out]; exact hw1.box.cell 1
  have hc := somel_calls hw1 [n.op, (n.ins.length : Int)] (cs' := #[.int .i64 n.op, .int .i64 n.ins.length]) rfl rfl (by simp; omega)
  go_upto_region 2 with (first | (go_at_call 97; refine hc.mono ?_; rintro e w2 ⟨v2, rfl, hw2⟩) | (go_at_call 122; refine hc.mono ?_; rintro e w2 ⟨v2, rfl, hw2⟩))
  clear hc hw1 d0 d1
  have d1 : World.cell? w2 ⟨Nb, 1, none⟩ = some n.inV := hw2.box.cell 1
  have hc := somer_calls hw2 hi (by simp; omega)
  go_upto_region 3 with (first | (go_at_call 97; refine hc.mono ?_; rintro e w3 ⟨v3, rfl, hw3⟩) | (go_at_call 122; refine hc.mono ?_; rintro e w3 ⟨v3, rfl, hw3⟩))
  clear hc hw2 d1
  have d2 : World.cell? w3 ⟨Nb, 2, none⟩ = some (.int .i64 n.k) := hw3.box.cell 2
  have d3 : World.cell? w3 ⟨Nb, 3, none⟩ = some (.int .i64 n.st) := hw3.box.cell 3
  have d4 : World.cell? w3 ⟨Nb, 4, none⟩ = some (.int .i64 n.pad) := hw3.box.cell 4
  have d5 : World.cell? w3 ⟨Nb, 5, none⟩ = some (.int .i64 n.out) := hw3.box.cell 5
  have hc := somel_calls hw3 [n.k, n.st, n.pad, n.out] (cs' := #[.int .i64 n.k, .int .i64 n.st, .int .i64 n.pad, .int .i64 n.out]) rfl rfl (by simp; omega)
  go_upto_region 4 with (first | (go_at_call 97; refine hc.mono ?_; rintro e w4 ⟨v4, rfl, hw4⟩) | (go_at_call 122; refine hc.mono ?_; rintro e w4 ⟨v4, rfl, hw4⟩))
  clear hc hw3 d2 d3 d4 d5
  have d6 : World.cell? w4 ⟨Nb, 6, none⟩ = some (.int .i64 n.mul) := hw4.box.cell 6
  have hc := numl_calls hw4 n.mul 2 (by omega) (by simp; omega)
  go_upto_region 5 with (first | (go_at_call 97; refine hc.mono ?_; rintro e w5 ⟨v5, rfl, hw5⟩) | (go_at_call 122; refine hc.mono ?_; rintro e w5 ⟨v5, rfl, hw5⟩))
  clear hc hw4 d6
  have d7 : World.cell? w5 ⟨Nb, 7, none⟩ = some (.int .i64 n.sh) := hw5.box.cell 7
  have d8 : World.cell? w5 ⟨Nb, 8, none⟩ = some (.int .i64 n.zero) := hw5.box.cell 8
  have d9 : World.cell? w5 ⟨Nb, 9, none⟩ = some (.int .i64 n.th) := hw5.box.cell 9
  have d10 : World.cell? w5 ⟨Nb, 10, none⟩ = some (.int .i64 n.tw) := hw5.box.cell 10
  have d11 : World.cell? w5 ⟨Nb, 11, none⟩ = some (.int .i64 n.tc) := hw5.box.cell 11
  have hc := somel_calls hw5 [n.sh, n.zero, n.th, n.tw, n.tc] (cs' := #[.int .i64 n.sh, .int .i64 n.zero, .int .i64 n.th, .int .i64 n.tw, .int .i64 n.tc]) rfl rfl (by simp [be_len]; omega)
  go_upto_region 6 with (first | (go_at_call 97; refine hc.mono ?_; rintro e w6 ⟨v6, rfl, hw6⟩) | (go_at_call 122; refine hc.mono ?_; rintro e w6 ⟨v6, rfl, hw6⟩))
  clear hc hw5 d7 d8 d9 d10 d11
  have d12 : World.cell? w6 ⟨Nb, 12, none⟩ = some (.slice Aw n.ws.length cw) := by rw [← EW.out]; exact hw6.box.cell 12
  have hc := numl_calls hw6 (n.ws.length : Int) 2 (by omega) (by simp [be_len]; omega)
  go_upto_region 7 with (first | (go_at_call 97; refine hc.mono ?_; rintro e w7 ⟨v7, rfl, hw7⟩) | (go_at_call 122; refine hc.mono ?_; rintro e w7 ⟨v7, rfl, hw7⟩))
  clear hc hw6 d12
  have hl7 : (bs ++ [n.op, (n.ins.length : Int)].map b8 ++ n.ins.map b8 ++ [n.k, n.st, n.pad, n.out].map b8 ++ be n.mul 2 ++ [n.sh, n.zero, n.th, n.tw, n.tc].map b8 ++ be (n.ws.length : Int) 2).length = bs.length + 15 + n.ins.length := by simp [be_len]; omega
  generalize bs ++ [n.op, (n.ins.length : Int)].map b8 ++ n.ins.map b8 ++ [n.k, n.st, n.pad, n.out].map b8 ++ be n.mul 2 ++ [n.sh, n.zero, n.th, n.tw, n.tc].map b8 ++ be (n.ws.length : Int) 2 = b7 at *
  go_wp2_with fail
  go_loopw [0, 5] (fun u0 i wr => ∃ (u : Value) (k : Nat), u = u0 ∧ k ≤ n.ws.length ∧ i = .int .i64 k ∧ Rw w0 wr u (b7 ++ (n.ws.take k).map b8) Nb #[.int .i64 n.op, n.inV, .int .i64 n.k, .int .i64 n.st, .int .i64 n.pad, .int .i64 n.out, .int .i64 n.mul, .int .i64 n.sh, .int .i64 n.zero, .int .i64 n.th, .int .i64 n.tw, .int .i64 n.tc, n.wV, n.bV] 40) (fun _ i _ => n.ws.length - (intOf i).toNat)
  case atStart => exact ⟨_, 0, rfl, by omega, rfl, by simpa using hw7⟩
  case round =>
    clear hw7
    obtain ⟨u, k, rfl, hk, rfl, hw⟩ := hrel
    have d12 : World.cell? wr ⟨Nb, 12, none⟩ = some (.slice Aw n.ws.length cw) := by rw [← EW.out]; exact hw.box.cell 12
    by_cases hlt : k < n.ws.length
    · obtain ⟨A', c', e', _, _, hcell⟩ := (hws.ext hw.ext).form
      rw [EW.out] at e'
      cases e'
      obtain ⟨b, off, rfl, x0⟩ := hcell k hlt
      rw [show n.ws[k]?.getD 0 = n.ws[k] by simp [hlt]] at x0
      have HT : Hid (n.ws.take (k + 1) = n.ws.take k ++ [n.ws[k]]) := List.take_succ_eq_append_getElem hlt
      have hz := hwr n.ws[k] (List.getElem_mem hlt)
      clear hcell hws hbs hi hbr hwr
      generalize n.ws[k] = z at *
      obtain ⟨hz1, hz2⟩ := hz
      have hlk : (b7 ++ (n.ws.take k).map b8).length ≤ b7.length + k := by simp; omega
      have hnew := row_new wr #[.int .u8 (z % 256)] 5 1 1 rfl (by decide)
      have hw2 := hw.later (ext_alloc wr (.cells #[.int .u8 (z % 256)] 5))
      have hown2 := hw2.own
      have hone : ∀ u ∈ #[Value.int .u8 (z % 256)].toList, u.oneCell' = true := by intro u hu; simp at hu; subst hu; rfl
      have hbs2 := hw2.ext.size
      have hk1 : (b7 ++ (n.ws.take k).map b8).length + 1 ≤ 140737488355328 := by omega
      have hk2 : ((b7 ++ (n.ws.take k).map b8).length + 1) * 1 ≤ 140737488355328 := by omega
      have HW := Lib.hid hw2
      clear hw hw2
      go_wp2_with (at_builtin; refine wpList_append_row rfl rfl elem_u8 hown2 rfl hnew rfl hone hk1 hk2 hbs2 ?_; intro v' w' ho hgr hn)
      have hw3 : Rw w0 w' v' (b7 ++ (n.ws.take (k + 1)).map b8) Nb #[.int .i64 n.op, n.inV, .int .i64 n.k, .int .i64 n.st, .int .i64 n.pad, .int .i64 n.out, .int .i64 n.mul, .int .i64 n.sh, .int .i64 n.zero, .int .i64 n.th, .int .i64 n.tw, .int .i64 n.tc, n.wV, n.bV] 40 := by
        refine HW.out.step ⟨?_, hgr, hn⟩
        rw [HT.out]
        have e1 : (b7 ++ (n.ws.take k ++ [z]).map b8).length = (b7 ++ (n.ws.take k).map b8).length + 1 := by simp; omega
        have e2 : (b7 ++ (n.ws.take k ++ [z]).map b8).map (Value.int .u8) = (b7 ++ (n.ws.take k).map b8).map (.int .u8) ++ #[Value.int .u8 (z % 256)].toList := by simp [b8]
        rw [e1, e2]
        exact ho
      go_roundw
      case rel => exact ⟨_, k + 1, rfl, by omega, by go_num, hw3⟩
      case measure => simp [intOf]; omega
    · have e : n.ws.take k = n.ws := List.take_of_length_le (by omega)
      rw [e] at hw
      go_upto_region 11 with fail
      clear d12 hlt hk e
      have d13 : World.cell? wr ⟨Nb, 13, none⟩ = some (.slice Ab n.bs.length cb) := by rw [← EB.out]; exact hw.box.cell 13
      have hnew := row_new wr #[.int .u8 (n.bs.length : Int)] 5 1 1 rfl (by decide)
      have hw2 := hw.later (ext_alloc wr (.cells #[.int .u8 (n.bs.length : Int)] 5))
      have hown2 := hw2.own
      have hone : ∀ u ∈ #[Value.int .u8 (n.bs.length : Int)].toList, u.oneCell' = true := by intro u hu; simp at hu; subst hu; rfl
      have hbs2 := hw2.ext.size
      have hl8 : (b7 ++ n.ws.map b8).length = bs.length + 15 + n.ins.length + n.ws.length := by simp; omega
      have hk1 : (b7 ++ n.ws.map b8).length + 1 ≤ 140737488355328 := by omega
      have hk2 : ((b7 ++ n.ws.map b8).length + 1) * 1 ≤ 140737488355328 := by omega
      have HW := Lib.hid hw2
      clear hw hw2
      go_upto_region 12 with (at_builtin; refine wpList_append_row rfl rfl elem_u8 hown2 rfl hnew rfl hone hk1 hk2 hbs2 ?_; intro v8 w8 ho hgr hn)
      have hw8 : Rw w0 w8 v8 (b7 ++ n.ws.map b8 ++ [b8 (n.bs.length : Int)]) Nb #[.int .i64 n.op, n.inV, .int .i64 n.k, .int .i64 n.st, .int .i64 n.pad, .int .i64 n.out, .int .i64 n.mul, .int .i64 n.sh, .int .i64 n.zero, .int .i64 n.th, .int .i64 n.tw, .int .i64 n.tc, n.wV, n.bV] 40 := by
        refine HW.out.step ⟨?_, hgr, hn⟩
        have e1 : (b7 ++ n.ws.map b8 ++ [b8 (n.bs.length : Int)]).length = (b7 ++ n.ws.map b8).length + 1 := by simp; omega
        have e2 : (b7 ++ n.ws.map b8 ++ [b8 (n.bs.length : Int)]).map (Value.int .u8) = (b7 ++ n.ws.map b8).map (.int .u8) ++ #[Value.int .u8 (n.bs.length : Int)].toList := by simp [b8_id (x := (n.bs.length : Int)) (by omega)]
        rw [e1, e2]
        exact ho
      have hl9 : (b7 ++ n.ws.map b8 ++ [b8 (n.bs.length : Int)]).length = bs.length + 16 + n.ins.length + n.ws.length := by simp; simp at hl8; omega
      clear hnew hown2 hone hbs2 hk1 hk2 HW ho hgr hn d13
      generalize b7 ++ n.ws.map b8 ++ [b8 (n.bs.length : Int)] = b9 at *
      go_wp2_with fail
      go_loopw [0, 6] (fun u0 i wr => ∃ (u : Value) (k : Nat), u = u0 ∧ k ≤ n.bs.length ∧ i = .int .i64 k ∧ Rw w0 wr u (b9 ++ (n.bs.take k).flatMap encB) Nb #[.int .i64 n.op, n.inV, .int .i64 n.k, .int .i64 n.st, .int .i64 n.pad, .int .i64 n.out, .int .i64 n.mul, .int .i64 n.sh, .int .i64 n.zero, .int .i64 n.th, .int .i64 n.tw, .int .i64 n.tc, n.wV, n.bV] 40) (fun _ i _ => n.bs.length - (intOf i).toNat)
      case atStart => exact ⟨_, 0, rfl, by omega, rfl, by simpa using hw8⟩
      case round =>
        clear hw8
        obtain ⟨u, k, rfl, hk, rfl, hw⟩ := hrel
        have d13 : World.cell? wr ⟨Nb, 13, none⟩ = some (.slice Ab n.bs.length cb) := by rw [← EB.out]; exact hw.box.cell 13
        by_cases hlt : k < n.bs.length
        · obtain ⟨A', c', e', _, _, hcell⟩ := (hbs.ext hw.ext).form
          rw [EB.out] at e'
          cases e'
          obtain ⟨b, off, rfl, x0⟩ := hcell k hlt
          rw [show n.bs[k]?.getD 0 = n.bs[k] by simp [hlt]] at x0
          have HT : Hid (n.bs.take (k + 1) = n.bs.take k ++ [n.bs[k]]) := List.take_succ_eq_append_getElem hlt
          have hz := hbr n.bs[k] (List.getElem_mem hlt)
          clear hcell hws hbs hi hbr hwr
          generalize n.bs[k] = z at *
          obtain ⟨hz1, hz2⟩ := hz
          have hlk : (b9 ++ (n.bs.take k).flatMap encB).length + 4 ≤ 100000000 := by
            rw [List.length_append, flat_len encB 4 (fun _ => rfl), List.length_take, hl9]
            omega
          have hc := numl_calls hw z 4 (by omega) hlk
          rw [be4] at hc
          clear hw hlk
          go_wp2_with (go_at_call 122; refine hc.mono ?_; rintro e w9 ⟨v9, rfl, hw9⟩)
          go_roundw
          case rel => exact ⟨_, k + 1, rfl, by omega, by go_num, by rw [HT.out, List.flatMap_append, ← List.append_assoc]; simpa using hw9⟩
          case measure => simp [intOf]; omega
        · have e : n.bs.take k = n.bs := List.take_of_length_le (by omega)
          rw [e, HB3.out] at hw
          go_wp2_with fail
          go_ret
          exact ⟨_, rfl, hw.own, hw.ext⟩

end Go.Proofs.Ytdhdbmfipkppiaa

namespace Go.Proofs.Ytdhdbmfipkppiaa
set_option linter.unusedSimpArgs false
set_option linter.unusedVariables false
set_option linter.unnecessarySimpa false
open Go.RowKit

theorem own_lit04 (w : World) (x : Value) (T : TypeId) : (w.alloc (.cells #[x] T)).ownsRow w.heap.size T 1 (.slice (some ⟨w.heap.size, 0, none⟩) 1 1) 1 [x] :=
  ⟨rfl, .inr ⟨w.heap.size, 1, #[x], rfl, Nat.le_refl _, heap_alloc_new w _, Nat.le_refl _, by unfold maxLen; omega, rfl, rfl⟩⟩

set_option maxRecDepth 8000 in
set_option maxHeartbeats 6400000 in
theorem put04_calls (g : Gr) (w : World) (hg : GrAt w g) :
    Calls Try.prog 64 #[.agg #[g.iV, g.nV, g.oV]] w (PutPost g w) := by
  have hok : (valuesR g).2 = 0 → GoodG g := fun h => valid_ok h (fun n hn => (hg.each n hn).isIn)
  have HP : Hid (∀ e w', (((valuesR g).2 = 0 → ∃ v, e = .returned (.tuple #[v, .int .i64 0]) ∧ OwnB w w' v (encG g.c)) ∧ ((valuesR g).2 ≠ 0 → e = .returned (.tuple #[.slice none 0 0, .int .i64 (valuesR g).2])) ∧ Ext w w') → PutPost g w e w') := fun e w' h => h
  have HG := Lib.hid hg
  generalize PutPost g w = PP at *
  have hw1 := ext_alloc w (.cells #[g.iV, g.nV, g.oV] 26)
  have hbx := Blk.new w #[g.iV, g.nV, g.oV] 26
  have hck := rvalues_calls g _ (hg.ext hw1)
  unfold ValsPost at hck
  obtain ⟨⟨rl, R⟩, hr⟩ : ∃ r, valuesR g = r := ⟨_, rfl⟩
  rw [hr] at hck hok HP
  simp only at hck hok HP
  clear hr
  obtain ⟨hi, hn, ho, hea, hil, hnl, hol⟩ := hg
  obtain ⟨An, cn, en, hn1, hn2, _⟩ := id (SRow.form hn (fun _ => rfl) (by omega))
  obtain ⟨Ao, co, eo, ho1, ho2, _⟩ := id ho.form
  obtain ⟨Ai, ci, ei, hi1, hi2, _⟩ := id hi.form
  unfold maxLen at hi2 hn2 ho2
  have EN := Lib.hid en
  have EO := Lib.hid eo
  have EI := Lib.hid ei
  clear en eo ei
  have g0 : (w.alloc (.cells #[g.iV, g.nV, g.oV] 26)).cell? ⟨w.heap.size, 0, none⟩ = some g.iV := hbx.cell 0
  have g1 : (w.alloc (.cells #[g.iV, g.nV, g.oV] 26)).cell? ⟨w.heap.size, 1, none⟩ = some g.nV := hbx.cell 1
  have g2 : (w.alloc (.cells #[g.iV, g.nV, g.oV] 26)).cell? ⟨w.heap.size, 2, none⟩ = some g.oV := hbx.cell 2
  go_enter Try.func64, Try.ntmps64
  go_wp2_with fail
  have hsz1 := hbx.lt
  generalize w.alloc _ = w1 at *
  refine hck.mono ?_
  rintro e w2 ⟨hz0, hz1, h2⟩
  clear g0 g1 g2 hck
  have hE2 := hw1.trans h2
  by_cases hR : R = 0
  case neg =>
    have e1 := hz1 hR
    subst e1
    have t5 : (R != 0) = true := by simp [hR]
    clear hz0 hz1
    go_wp2_with fail
    exact HP.out _ _ ⟨fun h => absurd h hR, fun _ => rfl, hE2⟩
  subst hR
  obtain ⟨v0, rfl, _⟩ := hz0 (by trivial)
  have hgood := hok (by trivial)
  clear hok hz0 hz1
  obtain ⟨⟨gi1, gi2⟩, gnl, ⟨go1, go2⟩, _⟩ := hgood
  have hb2 := hbx.ext h2
  have hsz2 := h2.size
  have HB : Hid ([b8 (g.ins.length : Int)] ++ g.ins.flatMap encV ++ [b8 (g.nodes.length : Int)] ++ g.nodes.flatMap (fun n => encN n.c) ++ [b8 (g.outs.length : Int)] ++ g.outs.map b8 = encG g.c) := by
    show _ = _
    simp [encG, Gr.c, List.append_assoc, List.flatMap_map]
  have hfin : ∀ (W : World) (v : Value) (bs : List Int), OwnB w2 W v bs → Ext w2 W → OwnB w W v bs ∧ Ext w W := fun W v bs h e => ⟨OwnB.lower (w1 := w2) h hE2, hE2.trans e⟩
  have HF := Lib.hid hfin
  clear hfin
  have hmk : ∀ (W : World) (v : Value) (bs : List Int), OwnB w2 W v bs → Ext w2 W → Rw w2 W v bs w.heap.size #[g.iV, g.nV, g.oV] 26 := fun W v bs h e => ⟨h, e, hb2.ext e, fun e' => by have := (h.lt _ e').1; omega⟩
  have HMK := Lib.hid hmk
  clear hmk
  have g0 : World.cell? w2 ⟨w.heap.size, 0, none⟩ = some (.slice Ai g.ins.length ci) := by rw [← EI.out]; exact hb2.cell 0
  have hown0 : (w2.alloc (.cells #[.int .u8 (g.ins.length : Int)] 5)).ownsRow w2.heap.size 5 1 (.slice (some ⟨w2.heap.size, 0, none⟩) 1 1) 1 [Value.int .u8 (g.ins.length : Int)] := own_lit04 w2 _ _
  have hw3 : Rw w2 (w2.alloc (.cells #[.int .u8 (g.ins.length : Int)] 5)) (.slice (some ⟨w2.heap.size, 0, none⟩) 1 1) [b8 (g.ins.length : Int)] w.heap.size #[g.iV, g.nV, g.oV] 26 := HMK.out _ _ _ (by
    unfold OwnB
    rw [b8_id (x := (g.ins.length : Int)) (by omega)]
    exact hown0) (ext_alloc _ _)
  go_upto_region 5 with fail
  clear g0 hown0 hsz1 hsz2 h2 hw1 hbx
  generalize w2.alloc _ = w3 at *
  generalize Value.slice (some ⟨w2.heap.size, 0, none⟩) 1 1 = v3 at *
  go_wp2_with fail
  go_loopw [6, 7] (fun u0 i wr => ∃ (u : Value) (k : Nat), u = u0 ∧ k ≤ g.ins.length ∧ i = .int .i64 k ∧ Rw w2 wr u ([b8 (g.ins.length : Int)] ++ (g.ins.take k).flatMap encV) w.heap.size #[g.iV, g.nV, g.oV] 26) (fun _ i _ => g.ins.length - (intOf i).toNat)
  case atStart => exact ⟨_, 0, rfl, by omega, rfl, by simpa using hw3⟩
  case round =>
    clear hw3
    obtain ⟨u, k, rfl, hk, rfl, hw⟩ := hrel
    have g0 : World.cell? wr ⟨w.heap.size, 0, none⟩ = some (.slice Ai g.ins.length ci) := by rw [← EI.out]; exact hw.box.cell 0
    by_cases hlt : k < g.ins.length
    · obtain ⟨A', c', e', _, _, hcc⟩ := (hi.ext (hE2.trans hw.ext)).form
      rw [EI.out] at e'
      cases e'
      have hs : g.ins[k]? = some g.ins[k] := by simp [hlt]
      obtain ⟨b, off, rfl, hbl, hc⟩ := hcc k _ hs
      have HT : Hid (g.ins.take (k + 1) = g.ins.take k ++ [g.ins[k]]) := List.take_succ_eq_append_getElem hlt
      generalize g.ins[k] = y at *
      have c0 : wr.cell? ⟨b, off + k * 4, none⟩ = some (.int .i64 y.s.h) := hc 0 _ rfl
      have c1 : wr.cell? ⟨b, off + k * 4 + 1, none⟩ = some (.int .i64 y.s.w) := hc 1 _ rfl
      have c2 : wr.cell? ⟨b, off + k * 4 + 2, none⟩ = some (.int .i64 y.s.c) := hc 2 _ rfl
      have c3 : wr.cell? ⟨b, off + k * 4 + 3, none⟩ = some (.int .i64 y.z) := hc 3 _ rfl
      clear hc hcc hs hi hn ho hea
      have hlk : ([b8 (g.ins.length : Int)] ++ (g.ins.take k).flatMap encV).length + [y.s.h, y.s.w, y.s.c, y.z].length ≤ 100000000 := by
        rw [List.length_append, flat_len encV 4 (fun _ => rfl), List.length_take]
        simp only [List.length_cons, List.length_nil]
        omega
      have hwk := hw.later (ext_alloc wr (.cells #[.int .i64 y.s.h, .int .i64 y.s.w, .int .i64 y.s.c, .int .i64 y.z] 67))
      have hyb := Blk.new wr #[.int .i64 y.s.h, .int .i64 y.s.w, .int .i64 y.s.c, .int .i64 y.z] 67
      clear hw
      go_upto_region 9 with fail
      clear c0 c1 c2 c3 hbl g0
      generalize wr.alloc _ = wk at *
      generalize wr.heap.size = yb at *
      have e0 : World.cell? wk ⟨yb, 0, none⟩ = some (.int .i64 y.s.h) := hyb.cell 0
      have e1 : World.cell? wk ⟨yb, 1, none⟩ = some (.int .i64 y.s.w) := hyb.cell 1
      have e2 : World.cell? wk ⟨yb, 2, none⟩ = some (.int .i64 y.s.c) := hyb.cell 2
      have e3 : World.cell? wk ⟨yb, 3, none⟩ = some (.int .i64 y.z) := hyb.cell 3
      clear hyb
      have hc := somel_calls hwk [y.s.h, y.s.w, y.s.c, y.z] (cs' := #[.int .i64 y.s.h, .int .i64 y.s.w, .int .i64 y.s.c, .int .i64 y.z]) rfl rfl hlk
      go_wp2_with (go_at_call 97; refine hc.mono ?_; rintro e w5 ⟨v5, rfl, hw5⟩)
      go_roundw
      case rel => exact ⟨_, k + 1, rfl, by omega, by go_num, by rw [HT.out, List.flatMap_append, ← List.append_assoc]; simpa [encV] using hw5⟩
      case measure => simp [intOf]; omega
    · have e : g.ins.take k = g.ins := List.take_of_length_le (by omega)
      rw [e] at hw
      have g1 : World.cell? wr ⟨w.heap.size, 1, none⟩ = some (.slice An g.nodes.length cn) := by rw [← EN.out]; exact hw.box.cell 1
      go_upto_region 10 with fail
      clear hlt hk e g0
      have hlb : ([b8 (g.ins.length : Int)] ++ g.ins.flatMap encV).length ≤ 100 := by
        rw [List.length_append, flat_len encV 4 (fun _ => rfl)]
        simp only [List.length_cons, List.length_nil]
        omega
      have hnew := row_new wr #[.int .u8 (g.nodes.length : Int)] 5 1 1 rfl (by decide)
      have hw2 := hw.later (ext_alloc wr (.cells #[.int .u8 (g.nodes.length : Int)] 5))
      have hown2 := hw2.own
      have hone : ∀ u ∈ #[Value.int .u8 (g.nodes.length : Int)].toList, u.oneCell' = true := by intro u hu; simp at hu; subst hu; rfl
      have hbs2 := hw2.ext.size
      have hk1 : ([b8 (g.ins.length : Int)] ++ g.ins.flatMap encV).length + 1 ≤ 140737488355328 := by omega
      have hk2 : (([b8 (g.ins.length : Int)] ++ g.ins.flatMap encV).length + 1) * 1 ≤ 140737488355328 := by omega
      have HW := Lib.hid hw2
      clear hw hw2
      go_upto_region 11 with (at_builtin; refine wpList_append_row rfl rfl elem_u8 hown2 rfl hnew rfl hone hk1 hk2 hbs2 ?_; intro v6 w6 ho hgr hn)
      have hq : Rw w2 w6 v6 ([b8 (g.ins.length : Int)] ++ g.ins.flatMap encV ++ [b8 (g.nodes.length : Int)]) w.heap.size #[g.iV, g.nV, g.oV] 26 := by
        refine HW.out.step ⟨?_, hgr, hn⟩
        have e1 : ([b8 (g.ins.length : Int)] ++ g.ins.flatMap encV ++ [b8 (g.nodes.length : Int)]).length = ([b8 (g.ins.length : Int)] ++ g.ins.flatMap encV).length + 1 := by rw [List.length_append]; rfl
        have e2 : ([b8 (g.ins.length : Int)] ++ g.ins.flatMap encV ++ [b8 (g.nodes.length : Int)]).map (Value.int .u8) = ([b8 (g.ins.length : Int)] ++ g.ins.flatMap encV).map (.int .u8) ++ #[Value.int .u8 (g.nodes.length : Int)].toList := by rw [List.map_append, b8_id (x := (g.nodes.length : Int)) (by omega)]; rfl
        rw [e1, e2]
        exact ho
      clear hnew hown2 hone hbs2 hk1 hk2 HW ho hgr hn
      have hlb2 : ([b8 (g.ins.length : Int)] ++ g.ins.flatMap encV ++ [b8 (g.nodes.length : Int)]).length ≤ 101 := by
        rw [List.length_append]
        simp only [List.length_cons, List.length_nil]
        omega
      clear g1
      generalize [b8 (g.ins.length : Int)] ++ g.ins.flatMap encV ++ [b8 (g.nodes.length : Int)] = b2 at *
      have hmx : ∀ k, k ≤ g.nodes.length → ((g.nodes.take k).flatMap fun n => encN n.c).length ≤ 71291 * k := fun k hk => by
        have := flat_le (g.nodes.take k) (fun n hn => long_le (hea n (List.mem_of_mem_take hn)))
        rw [List.length_take] at this
        omega
      have HM := Lib.hid hmx
      clear hmx
      go_wp2_with fail
      go_loopw [6, 9] (fun u0 i wr => ∃ (u : Value) (k : Nat), u = u0 ∧ k ≤ g.nodes.length ∧ i = .int .i64 k ∧ Rw w2 wr u (b2 ++ (g.nodes.take k).flatMap fun n => encN n.c) w.heap.size #[g.iV, g.nV, g.oV] 26) (fun _ i _ => g.nodes.length - (intOf i).toNat)
      case atStart => exact ⟨_, 0, rfl, by omega, rfl, by simpa using hq⟩
      case round =>
        clear hq
        obtain ⟨u, k, rfl, hk, rfl, hw⟩ := hrel
        have g1 : World.cell? wr ⟨w.heap.size, 1, none⟩ = some (.slice An g.nodes.length cn) := by rw [← EN.out]; exact hw.box.cell 1
        by_cases hlt : k < g.nodes.length
        · obtain ⟨A', c', e', _, _, hcc⟩ := SRow.form (HG.out.ext (hE2.trans hw.ext)).nodes (fun _ => rfl) (by omega)
          rw [EN.out] at e'
          cases e'
          have hs : g.nodes[k]? = some g.nodes[k] := by simp [hlt]
          obtain ⟨b, off, rfl, hbl, hc⟩ := hcc k _ hs
          have hmem := List.getElem_mem hlt
          have HT : Hid (g.nodes.take (k + 1) = g.nodes.take k ++ [g.nodes[k]]) := List.take_succ_eq_append_getElem hlt
          have hnode := (HG.out.ext hE2).each _ hmem
          generalize g.nodes[k] = n at *
          have nc0 : World.cell? wr ⟨b, off + k * 14, none⟩ = some (.int .i64 n.op) := hc 0 _ rfl
          have nc1 : World.cell? wr ⟨b, off + k * 14 + 1, none⟩ = some n.inV := hc 1 _ rfl
          have nc2 : World.cell? wr ⟨b, off + k * 14 + 2, none⟩ = some (.int .i64 n.k) := hc 2 _ rfl
          have nc3 : World.cell? wr ⟨b, off + k * 14 + 3, none⟩ = some (.int .i64 n.st) := hc 3 _ rfl
          have nc4 : World.cell? wr ⟨b, off + k * 14 + 4, none⟩ = some (.int .i64 n.pad) := hc 4 _ rfl
          have nc5 : World.cell? wr ⟨b, off + k * 14 + 5, none⟩ = some (.int .i64 n.out) := hc 5 _ rfl
          have nc6 : World.cell? wr ⟨b, off + k * 14 + 6, none⟩ = some (.int .i64 n.mul) := hc 6 _ rfl
          have nc7 : World.cell? wr ⟨b, off + k * 14 + 7, none⟩ = some (.int .i64 n.sh) := hc 7 _ rfl
          have nc8 : World.cell? wr ⟨b, off + k * 14 + 8, none⟩ = some (.int .i64 n.zero) := hc 8 _ rfl
          have nc9 : World.cell? wr ⟨b, off + k * 14 + 9, none⟩ = some (.int .i64 n.th) := hc 9 _ rfl
          have nc10 : World.cell? wr ⟨b, off + k * 14 + 10, none⟩ = some (.int .i64 n.tw) := hc 10 _ rfl
          have nc11 : World.cell? wr ⟨b, off + k * 14 + 11, none⟩ = some (.int .i64 n.tc) := hc 11 _ rfl
          have nc12 : World.cell? wr ⟨b, off + k * 14 + 12, none⟩ = some n.wV := hc 12 _ rfl
          have nc13 : World.cell? wr ⟨b, off + k * 14 + 13, none⟩ = some n.bV := hc 13 _ rfl
          clear hc hcc hs hmem hi hn ho hea
          have hlk : (b2 ++ (g.nodes.take k).flatMap fun n => encN n.c).length + longN n.c ≤ 100000000 := by
            have h1 := HM.out k hk
            have h2 := long_le hnode
            rw [List.length_append]
            omega
          have hnc := node04_calls n w2 wr u _ hw.own hw.ext hnode hlk
          clear hlk hw hnode
          go_wp2_with (go_at_call 98; refine hnc.mono ?_; rintro e w7 ⟨v7, rfl, ho7, hE7⟩)
          have hw7 := HMK.out _ _ _ ho7 hE7
          go_roundw
          case rel => exact ⟨_, k + 1, rfl, by omega, by go_num, by rw [HT.out, List.flatMap_append, ← List.append_assoc]; simpa using hw7⟩
          case measure => simp [intOf]; omega
        · have e : g.nodes.take k = g.nodes := List.take_of_length_le (by omega)
          rw [e] at hw
          have g2 : World.cell? wr ⟨w.heap.size, 2, none⟩ = some (.slice Ao g.outs.length co) := by rw [← EO.out]; exact hw.box.cell 2
          have hlb3 : (b2 ++ g.nodes.flatMap fun n => encN n.c).length ≤ 1000000 := by
            have := HM.out g.nodes.length (Nat.le_refl _)
            rw [List.take_length] at this
            rw [List.length_append]
            omega
          go_upto_region 15 with fail
          clear hlt hk e g1
          have hnew := row_new wr #[.int .u8 (g.outs.length : Int)] 5 1 1 rfl (by decide)
          have hw2 := hw.later (ext_alloc wr (.cells #[.int .u8 (g.outs.length : Int)] 5))
          have hown2 := hw2.own
          have hone : ∀ u ∈ #[Value.int .u8 (g.outs.length : Int)].toList, u.oneCell' = true := by intro u hu; simp at hu; subst hu; rfl
          have hbs2 := hw2.ext.size
          have hk1 : (b2 ++ g.nodes.flatMap fun n => encN n.c).length + 1 ≤ 140737488355328 := by omega
          have hk2 : ((b2 ++ g.nodes.flatMap fun n => encN n.c).length + 1) * 1 ≤ 140737488355328 := by omega
          have HW := Lib.hid hw2
          clear hw hw2
          go_upto_region 16 with (at_builtin; refine wpList_append_row rfl rfl elem_u8 hown2 rfl hnew rfl hone hk1 hk2 hbs2 ?_; intro v8 w8 ho hgr hn)
          have hq : Rw w2 w8 v8 ((b2 ++ g.nodes.flatMap fun n => encN n.c) ++ [b8 (g.outs.length : Int)]) w.heap.size #[g.iV, g.nV, g.oV] 26 := by
            refine HW.out.step ⟨?_, hgr, hn⟩
            have e1 : ((b2 ++ g.nodes.flatMap fun n => encN n.c) ++ [b8 (g.outs.length : Int)]).length = (b2 ++ g.nodes.flatMap fun n => encN n.c).length + 1 := by rw [List.length_append]; rfl
            have e2 : ((b2 ++ g.nodes.flatMap fun n => encN n.c) ++ [b8 (g.outs.length : Int)]).map (Value.int .u8) = (b2 ++ g.nodes.flatMap fun n => encN n.c).map (.int .u8) ++ #[Value.int .u8 (g.outs.length : Int)].toList := by rw [List.map_append, b8_id (x := (g.outs.length : Int)) (by omega)]; rfl
            rw [e1, e2]
            exact ho
          clear hnew hown2 hone hbs2 hk1 hk2 HW ho hgr hn
          clear g2
          have g2 : World.cell? w8 ⟨w.heap.size, 2, none⟩ = some g.oV := hq.box.cell 2
          have hl8 : ((b2 ++ g.nodes.flatMap fun n => encN n.c) ++ [b8 (g.outs.length : Int)]).length + g.outs.length ≤ 100000000 := by
            rw [List.length_append]
            simp only [List.length_cons, List.length_nil]
            omega
          have hc := somer_calls hq (ho.ext hE2) hl8
          clear hq
          go_wp2_with (go_at_call 97; refine hc.mono ?_; rintro e w9 ⟨v9, rfl, hw9⟩)
          rw [HB.out] at hw9
          obtain ⟨k1, k2⟩ := HF.out _ _ _ hw9.own hw9.ext
          exact HP.out _ _ ⟨fun _ => ⟨_, rfl, k1⟩, fun h => absurd rfl h, k2⟩

end Go.Proofs.Ytdhdbmfipkppiaa
