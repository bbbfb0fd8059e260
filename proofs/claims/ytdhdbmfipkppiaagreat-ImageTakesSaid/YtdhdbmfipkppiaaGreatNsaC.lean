/- The walk of the reader's command. -/
import Derived.Test.YtdhdbmfipkppiaaGreatNsaB
set_option linter.unusedSimpArgs false
set_option linter.unusedVariables false
set_option linter.unnecessarySimpa false
namespace Go.Proofs.YtdhdbmfipkppiaaGreat.Isa
set_option maxRecDepth 10000
open Go.RowKit

def numStep (zs : List Int) (bad : Bool) (n : Nat) : Int × List Int × Bool := if n ≤ zs.length then (numOf (zs.take n), zs.drop n, bad) else (0, zs, true)

def NumPost2 (b : Nat) (lv : Value) (q : Int × List Int × Bool) (w : World) (e : Ending) (w' : World) : Prop := e = .returned (.int .i64 q.1) ∧ (∃ lv', Rd w' b lv' q.2.1 q.2.2 ∧ lv'.ownBlock = lv.ownBlock) ∧ w.grownBy w' (some b)

theorem number_step (b : Nat) (lv : Value) (zs : List Int) (bad : Bool) (n : Nat) (w : World) (hr : Rd w b lv zs bad) (hn : n ≤ 4) :
    Calls Tryz.prog 33 #[.pointer (some ⟨b, 0, none⟩), .int .i64 n] w (NumPost2 b lv (numStep zs bad n) w) := by
  refine (number_calls b lv zs bad n w hr hn).mono fun e w' h => ?_
  unfold NumPost at h
  unfold NumPost2 numStep
  split at h
  · rename_i hc
    rw [if_pos hc]
    exact h
  · rename_i hc
    rw [if_neg hc]
    exact h

/-- The numbers of a command are read, one field after the other. -/
def readF (zs : List Int) (bad : Bool) (cs : List Int) : List Fd → List Int × Bool × List Int
  | [] => (zs, bad, cs)
  | x :: l => readF (numStep zs bad x.wide).2.1 (numStep zs bad x.wide).2.2 (cs.set x.at_ (numStep zs bad x.wide).1) l

/-- The next command: what is left, whether the reader is bad, the command, whether it is one. -/
def cmdStep (zs : List Int) (bad : Bool) : List Int × Bool × List Int × Int :=
  let q := numStep zs bad 1
  let r := readF q.2.1 q.2.2 (Cm.of q.1).l (tbl q.1)
  (r.1, r.2.1, r.2.2, q.1)

/-- What command answers, and what it leaves. -/
def CmdPost (b : Nat) (lv : Value) (zs : List Int) (bad : Bool) (w : World) (e : Ending) (w' : World) : Prop :=
  ∃ c : Cm, c.l = (cmdStep zs bad).2.2.1 ∧ e = .returned (.tuple #[c.v, .bool (okK (cmdStep zs bad).2.2.2 && !(cmdStep zs bad).2.1 && mayB c)]) ∧ (∃ lv', Rd w' b lv' (cmdStep zs bad).1 (cmdStep zs bad).2.1 ∧ lv'.ownBlock = lv.ownBlock) ∧ w.grownBy w' (some b)

theorem cm_one (c : Cm) : ((#[.int .i64 c.k, .int .i64 c.s, .int .i64 c.n, .int .i64 c.f, .int .i64 c.r, .int .i64 c.o, .int .i64 c.d, .int .i64 c.p, .int .i64 c.i0, .int .i64 c.i1, .int .i64 c.b0, .int .i64 c.b1, .int .i64 c.h0, .int .i64 c.h1] : Array Value).all (fun x => x.oneCell')) = true := by simp [Value.oneCell']

theorem load_cmd (W : World) (g : Nat) (c : Cm) (h : CBox W g c.l) : (loadVar 75 ⟨g, 0, none⟩).run Tryz.prog W = .ok c.v W := by
  have hu : Tryz.prog.underlying 75 = some (.struct (Tryz.prog.fieldsOf 75)) := by kernel_rfl
  exact run_loadVar_row W g 75 75 _ (0, 0) _ h hu rfl (by kernel_rfl)

theorem numStep_le (zs : List Int) (bad : Bool) (n : Nat) : (numStep zs bad n).2.1.length ≤ zs.length := by
  unfold numStep
  split
  · simp
  · exact Nat.le_refl _

theorem Rd.grown {w w' : World} {b : Nat} {lv : Value} {zs : List Int} {bad : Bool} (h : Rd w b lv zs bad) {row : Option Nat} (hg : w.grownBy w' row) (h1 : some b ≠ row) (h2 : zs = [] ∨ lv.ownBlock = none ∨ lv.ownBlock ≠ row) : Rd w' b lv zs bad :=
  ⟨(hg.block b h.lt h1).trans h.1, Ints.grown2 h.2.1 hg h2, h.2.2⟩
theorem Rd.setCell {w : World} {b : Nat} {lv : Value} {zs : List Int} {bad : Bool} (h : Rd w b lv zs bad) {B : Nat} (h1 : b ≠ B) (h2 : zs = [] ∨ lv.ownBlock ≠ some B) (o : Nat) (u : Value) : Rd (w.setCell ⟨B, o, none⟩ u) b lv zs bad := by
  refine ⟨?_, Ints.setCell h.2.1 h2 o u, h.2.2⟩
  rw [Below.heap_setCell w _ _ _ (by simpa using h1)]
  exact h.1

theorem grown_comp {w w1 w2 : World} {b g : Nat} (h : w.grownBy w1 (some b)) (k : w1.grownBy w2 (some g)) (hg : w.heap.size ≤ g) : w.grownBy w2 (some b) :=
  ⟨k.os.trans h.os, k.tape.trans h.tape, k.output.trans h.output, Nat.le_trans h.size k.size, fun x hx hr => (k.block x (Nat.lt_of_lt_of_le hx h.size) (fun e => by have := Option.some.inj e; omega)).trans (h.block x hx hr)⟩

/-- The end of command: the result is laid down. -/
theorem cmd_end (W : World) (g b B : Nat) (c : Cm) (lj : Value) (zj : List Int) (bj : Bool) (hbz : CBox W g [0, 0, 0, 0, 0, 0, 0, 0, 0, 0, 0, 0, 0, 0]) (hrd : Rd W b lj zj bj) (hgb : g ≠ b) (hgB : g ≠ B) (hB : B < W.heap.size) (hk : zj = [] ∨ ∀ j, lj.ownBlock = some j → j < g) :
    CBox (W.setRow g #[.int .i64 c.k, .int .i64 c.s, .int .i64 c.n, .int .i64 c.f, .int .i64 c.r, .int .i64 c.o, .int .i64 c.d, .int .i64 c.p, .int .i64 c.i0, .int .i64 c.i1, .int .i64 c.b0, .int .i64 c.b1, .int .i64 c.h0, .int .i64 c.h1]) g c.l ∧ Rd (W.setRow g #[.int .i64 c.k, .int .i64 c.s, .int .i64 c.n, .int .i64 c.f, .int .i64 c.r, .int .i64 c.o, .int .i64 c.d, .int .i64 c.p, .int .i64 c.i0, .int .i64 c.i1, .int .i64 c.b0, .int .i64 c.b1, .int .i64 c.h0, .int .i64 c.h1]) b lj zj bj ∧ W.grownBy (W.setRow g #[.int .i64 c.k, .int .i64 c.s, .int .i64 c.n, .int .i64 c.f, .int .i64 c.r, .int .i64 c.o, .int .i64 c.d, .int .i64 c.p, .int .i64 c.i0, .int .i64 c.i1, .int .i64 c.b0, .int .i64 c.b1, .int .i64 c.h0, .int .i64 c.h1]) (some g) ∧ Keeps [B, b] W (W.setRow g #[.int .i64 c.k, .int .i64 c.s, .int .i64 c.n, .int .i64 c.f, .int .i64 c.r, .int .i64 c.o, .int .i64 c.d, .int .i64 c.p, .int .i64 c.i0, .int .i64 c.i1, .int .i64 c.b0, .int .i64 c.b1, .int .i64 c.h0, .int .i64 c.h1]) := by
  have hst := setRow_grown W g #[.int .i64 c.k, .int .i64 c.s, .int .i64 c.n, .int .i64 c.f, .int .i64 c.r, .int .i64 c.o, .int .i64 c.d, .int .i64 c.p, .int .i64 c.i0, .int .i64 c.i1, .int .i64 c.b0, .int .i64 c.b1, .int .i64 c.h0, .int .i64 c.h1]
  refine ⟨setRow_heap W g _ _ _ _ hbz, Rd.grown hrd hst (fun e => by have := Option.some.inj e; omega) ?_, hst, Keeps.grown hst (fun k hk => ?_)⟩
  · rcases hk with h | h
    · exact Or.inl h
    · cases hq : lj.ownBlock with
      | none => exact Or.inr (Or.inl rfl)
      | some k => exact Or.inr (Or.inr (fun e => by have := Option.some.inj e; have := h _ hq; omega))
  · simp only [List.mem_cons, List.not_mem_nil, or_false] at hk
    rcases hk with rfl | rfl
    · exact ⟨hB, fun e => by have := Option.some.inj e; omega⟩
    · exact ⟨hrd.lt, fun e => by have := Option.some.inj e; omega⟩

set_option maxHeartbeats 3200000 in
theorem command_calls (b : Nat) (lv : Value) (zs : List Int) (bad : Bool) (w : World) (hr : Rd w b lv zs bad) :
    Calls Tryz.prog 34 #[.pointer (some ⟨b, 0, none⟩)] w (CmdPost b lv zs bad w) := by
  have hP : ∀ e w', (∃ c : Cm, c.l = (cmdStep zs bad).2.2.1 ∧ e = .returned (.tuple #[c.v, .bool (okK (cmdStep zs bad).2.2.2 && !(cmdStep zs bad).2.1 && mayB c)]) ∧ (∃ lv', Rd w' b lv' (cmdStep zs bad).1 (cmdStep zs bad).2.1 ∧ lv'.ownBlock = lv.ownBlock) ∧ w.grownBy w' (some b)) → CmdPost b lv zs bad w e w' := fun e w' h => h
  have HP := Lib.hid hP
  clear hP
  have HC : Hid (cmdStep zs bad = ((readF (numStep zs bad 1).2.1 (numStep zs bad 1).2.2 (Cm.of (numStep zs bad 1).1).l (tbl (numStep zs bad 1).1)).1, (readF (numStep zs bad 1).2.1 (numStep zs bad 1).2.2 (Cm.of (numStep zs bad 1).1).l (tbl (numStep zs bad 1).1)).2.1, (readF (numStep zs bad 1).2.1 (numStep zs bad 1).2.2 (Cm.of (numStep zs bad 1).1).l (tbl (numStep zs bad 1).1)).2.2, (numStep zs bad 1).1)) := rfl
  generalize CmdPost b lv zs bad w = R at *
  generalize cmdStep zs bad = cst at *
  have hblt := hr.lt
  have hba := below_alloc (Below.refl w.heap.size w) (Nat.le_refl _) (.cells #[.int .i64 0, .int .i64 0, .int .i64 0, .int .i64 0, .int .i64 0, .int .i64 0, .int .i64 0, .int .i64 0, .int .i64 0, .int .i64 0, .int .i64 0, .int .i64 0, .int .i64 0, .int .i64 0] 75)
  have hbz := cbox_new w (Cm.of 0)
  have hr0 := hr.below hba
  have hn := number_step b lv zs bad 1 _ hr0 (by omega)
  have hz0 : w.heap.size < (w.alloc (.cells #[.int .i64 0, .int .i64 0, .int .i64 0, .int .i64 0, .int .i64 0, .int .i64 0, .int .i64 0, .int .i64 0, .int .i64 0, .int .i64 0, .int .i64 0, .int .i64 0, .int .i64 0, .int .i64 0] 75)).heap.size := by simp
  simp only [Cm.of] at hbz
  go_enter Tryz.func34, Tryz.ntmps34
  go_wp2_with fail
  generalize w.alloc _ = w0 at *
  refine hn.mono ?_
  rintro e w1 ⟨rfl, ⟨lv1, hr1, ho1⟩, hg1⟩
  have hle1 := numStep_le zs bad 1
  have hkey := hr.2.1.lt
  generalize numStep zs bad 1 = q at *
  obtain ⟨z, zs1, bad1⟩ := q
  simp only at hr1 hle1
  have hkey1 : ∀ (zj : List Int) (lv' : Value), zj.length ≤ zs1.length → lv'.ownBlock = lv.ownBlock → zj = [] ∨ ∀ j, lv'.ownBlock = some j → j < w.heap.size := fun zj lv' hl ho => by
    rcases hkey with h | h
    · exact Or.inl (List.eq_nil_of_length_eq_zero (by have h2 := Nat.le_trans hl hle1; rw [h] at h2; simpa using h2))
    · exact Or.inr fun j hj => h j (by rw [← ho]; exact hj)
  have HK := Lib.hid hkey1
  clear hkey hkey1 hle1
  have HO := Lib.hid ho1
  clear ho1
  simp only
  have hbz1 : CBox w1 w.heap.size [0, 0, 0, 0, 0, 0, 0, 0, 0, 0, 0, 0, 0, 0] := (hg1.block _ hz0 (fun e => by cases e; omega)).trans hbz
  have hgw1 : w.grownBy w1 (some b) := ⟨hg1.os.trans hba.os, hg1.tape.trans hba.tape, hg1.output.trans hba.output, Nat.le_trans hba.size hg1.size, fun k hk h => (hg1.block k (Nat.lt_of_lt_of_le hk hba.size) h).trans (hba.block k hk)⟩
  have hz1 : w.heap.size < w1.heap.size := Nat.lt_of_lt_of_le hz0 hg1.size
  clear hn hr0 hba hbz hg1 hz0
  have hb2 := below_alloc (Below.refl w1.heap.size w1) (Nat.le_refl _) (.cells #[.int .i64 z, .int .i64 0, .int .i64 0, .int .i64 0, .int .i64 0, .int .i64 0, .int .i64 0, .int .i64 0, .int .i64 0, .int .i64 0, .int .i64 0, .int .i64 0, .int .i64 0, .int .i64 0] 75)
  have hcb := cbox_new w1 (Cm.of z)
  have hr2 := hr1.below hb2
  have hbz2 := hbz1.below hb2 hz1
  have hf := fields_calls w1.heap.size z _ hcb.all.1
  simp only [Cm.of] at hcb hf
  have hcl := hcb.lt
  go_wp2_with fail
  generalize w1.alloc _ = w2 at *
  refine hf.mono ?_
  rintro e w3 ⟨vf, rfl, hrow, hfr, hb3⟩
  have hcb3 := hcb.below hb3 hcl
  have hr3 := hr2.below hb3
  have hbz3 := hbz2.below hb3 (Nat.lt_of_lt_of_le hz1 hb2.size)
  have hgw3 : w.grownBy w3 (some b) := ⟨(hb3.os.trans hb2.os).trans hgw1.os, (hb3.tape.trans hb2.tape).trans hgw1.tape, (hb3.output.trans hb2.output).trans hgw1.output, Nat.le_trans hgw1.size (Nat.le_trans hb2.size hb3.size), fun k hk h => ((hb3.block k (by have := hgw1.size; have := hb2.size; omega)).trans (hb2.block k (by have := hgw1.size; omega))).trans (hgw1.block k hk h)⟩
  have hfb : vf.ownBlock ≠ some b := fun e => by have := hfr _ e; omega
  have hf4 : vf.ownBlock ≠ some w1.heap.size := fun e => by have := hfr _ e; omega
  have hsz3 : w1.heap.size < w3.heap.size := hcb3.lt
  have hat := tbl_at z
  have HCs : Hid (cst = ((readF zs1 bad1 (Cm.of z).l (tbl z)).1, (readF zs1 bad1 (Cm.of z).l (tbl z)).2.1, (readF zs1 bad1 (Cm.of z).l (tbl z)).2.2, z)) := HC.out
  clear HC hf hfr hb3 hcb hr2 hbz2 hb2 hr1 hbz1 hgw1
  have hL14 : Hid ((Cm.of z).l.length = 14) := rfl
  have hLz : Hid ((Cm.of z).l[0]?.getD 0 = z) := rfl
  have hcb3 : CBox w3 w1.heap.size (Cm.of z).l := hcb3
  generalize hL : (Cm.of z).l = L at *
  clear hL
  generalize tbl z = T at *
  have hbB : b < w1.heap.size := by omega
  generalize w1.heap.size = B at *
  obtain ⟨A, cp, rfl, hlc, hcm, _⟩ := fds_form hrow
  unfold maxLen at hcm
  go_wp2_with fail
  go_loopw [18] (fun i wr => ∃ (j : Nat) (lv' : Value) (zj : List Int) (bj : Bool) (cs : List Int), j ≤ T.length ∧ i = .int .i64 j ∧ Hid (readF zj bj cs (T.drop j) = readF zs1 bad1 L T) ∧ Hid (cs.length = 14) ∧ Hid (cs[0]?.getD 0 = z) ∧ CBox wr B cs ∧ CBox wr w.heap.size [0, 0, 0, 0, 0, 0, 0, 0, 0, 0, 0, 0, 0, 0] ∧ Rd wr b lv' zj bj ∧ Hid (zj.length ≤ zs1.length) ∧ Hid (lv'.ownBlock = lv.ownBlock) ∧ Row wr (.slice A T.length cp) T.length 4 (Fds B T) ∧ w.grownBy wr (some b)) (fun i _ => T.length - (intOf i).toNat)
  case atStart => exact ⟨0, lv1, zs1, bad1, L, by omega, rfl, rfl, hL14, hLz, hcb3, hbz3, hr3, Nat.le_refl _, HO.out, hrow, hgw3⟩
  case round =>
    clear hcb3 hbz3 hr3 hrow hgw3
    obtain ⟨j, lj, zj, bj, cs, hj, rfl, hrun, hlen, hz, hcb, hbz, hrd, hzl, hlo, hrow, hgw⟩ := hrel
    by_cases hlt : j < T.length
    · have hx : T[j]? = some T[j] := by simp [hlt]
      obtain ⟨hxa, hxb, hw1, hw3⟩ := hat T[j] (List.getElem_mem hlt)
      obtain ⟨_, _, e1, _, _, hcells⟩ := fds_form hrow
      cases e1
      obtain ⟨g, off, rfl, c0, c1, c2, c3⟩ := hcells j _ hx
      have hgl := World.block_lt_of_cell? wr _ c0
      simp only at hgl
      have HR : Hid (readF (numStep zj bj T[j].wide).2.1 (numStep zj bj T[j].wide).2.2 (cs.set T[j].at_ (numStep zj bj T[j].wide).1) (T.drop (j + 1)) = readF zs1 bad1 L T) := by
        show _ = _
        rw [← hrun.out, List.drop_eq_getElem_cons hlt, readF]
      clear hcells hx hrun
      generalize T[j] = x at *
      have hBlt := hcb.lt
      have hzlt := hbz.lt
      have hb6 := below_alloc (Below.refl wr.heap.size wr) (Nat.le_refl _) (.cells #[.pointer (some ⟨B, x.at_, none⟩), .int .i64 x.wide, .int .i64 x.low, .int .i64 x.high] 106)
      have n0 : (wr.alloc (.cells #[.pointer (some ⟨B, x.at_, none⟩), .int .i64 x.wide, .int .i64 x.low, .int .i64 x.high] 106)).cell? ⟨wr.heap.size, 0, none⟩ = some (.pointer (some ⟨B, x.at_, none⟩)) := by
        rw [cell_of_row _ _ 0 _ _ _ (heap_alloc_new wr _)]; rfl
      have n1 : (wr.alloc (.cells #[.pointer (some ⟨B, x.at_, none⟩), .int .i64 x.wide, .int .i64 x.low, .int .i64 x.high] 106)).cell? ⟨wr.heap.size, 1, none⟩ = some (.int .i64 x.wide) := by
        rw [cell_of_row _ _ 1 _ _ _ (heap_alloc_new wr _)]; rfl
      have hcb6 := hcb.below hb6 hBlt
      have hbz6 := hbz.below hb6 hzlt
      have hrd6 := hrd.below hb6
      have hrow6 := hrow.below hb6
      have hgw6 : w.grownBy (wr.alloc (.cells #[.pointer (some ⟨B, x.at_, none⟩), .int .i64 x.wide, .int .i64 x.low, .int .i64 x.high] 106)) (some b) := ⟨hb6.os.trans hgw.os, hb6.tape.trans hgw.tape, hb6.output.trans hgw.output, Nat.le_trans hgw.size hb6.size, fun k hk h => (hb6.block k (by have := hgw.size; omega)).trans (hgw.block k hk h)⟩
      have hG : wr.heap.size < (wr.alloc (.cells #[.pointer (some ⟨B, x.at_, none⟩), .int .i64 x.wide, .int .i64 x.low, .int .i64 x.high] 106)).heap.size := by simp
      go_wp2_with fail
      clear hb6 c0 c1 c2 c3 hcb hbz hrd hrow hgw
      generalize wr.alloc _ = w6 at *
      generalize wr.heap.size = G at *
      have k0 : ∀ W, Keeps [G] w6 W → W.cell? ⟨G, 0, none⟩ = some (.pointer (some ⟨B, x.at_, none⟩)) := fun W hW => (hW.cell (by simp)).trans n0
      have k1 : ∀ W, Keeps [G] w6 W → W.cell? ⟨G, 1, none⟩ = some (.int .i64 x.wide) := fun W hW => (hW.cell (by simp)).trans n1
      clear n0 n1
      have hn := number_step b lj zj bj x.wide w6.drew ⟨hrd6.1, Row.drew hrd6.2.1, hrd6.2.2⟩ (by omega)
      refine wp_region_S (Keeps [G] w6) [(0, true), (1, true), (2, true), (3, true), (4, true), (5, false), (6, true), (7, false)] (by kernel_rfl) (by kernel_rfl) (fun _ _ d _ _ h => by cases d <;> exact h) (Keeps.drew _ _) ?_
      simp only [pickE, List.getElem?_cons_zero, List.getElem?_cons_succ]
      repeat (refine wpF_pure (by rfl) (fun W hW => by go_simp; with_reducible rfl) ?_; simp only [Act.put, List.setIfInBounds_toArray, List.set_cons_zero, List.set_cons_succ])
      refine wpF_step (by rfl) (fun K hK => ?_)
      go_simp
      refine hn.mono ?_
      rintro e w7 ⟨rfl, ⟨l7, hr7, ho7⟩, hg7⟩
      have hK7 : Keeps [G] w6 w7 := Keeps.trans (Keeps.drew [G] w6) (Keeps.grown hg7 (fun k hk => by
        simp only [List.mem_cons, List.not_mem_nil, or_false] at hk
        subst hk
        exact ⟨hG, fun e => by cases e; omega⟩))
      refine hK _ _ hK7 ?_
      clear hK K hn k0 k1
      have hcb7 : CBox w7 B cs := (hg7.block _ hcb6.lt (fun e => by cases e; omega)).trans hcb6
      have hbz7 : CBox w7 w.heap.size [0, 0, 0, 0, 0, 0, 0, 0, 0, 0, 0, 0, 0, 0] := (hg7.block _ hbz6.lt (fun e => by cases e; omega)).trans hbz6
      have hrow7 := Row.grown (Row.drew hrow6) hg7 (Or.inr (fun e => hfb e))
      have hgw7 : w.grownBy w7 (some b) := ⟨hg7.os.trans hgw6.os, hg7.tape.trans hgw6.tape, hg7.output.trans hgw6.output, Nat.le_trans hgw6.size hg7.size, fun k hk h => (hg7.block k (Nat.lt_of_lt_of_le hk hgw6.size) h).trans (hgw6.block k hk h)⟩
      have hG7 : G < w7.heap.size := Nat.lt_of_lt_of_le hG hg7.size
      have hle := numStep_le zj bj x.wide
      have hzl7 : Hid ((numStep zj bj x.wide).2.1.length ≤ zs1.length) := Nat.le_trans hle hzl.out
      have hlo7 : Hid (l7.ownBlock = lv.ownBlock) := ho7.trans hlo.out
      have hc8 := hcb7.cell (i := x.at_) (by rw [hlen.out]; exact hxa)
      have hf8 := hcb7.frozen x.at_
      clear hcb6 hbz6 hrd6 hrow6 hgw6 hg7 hle ho7 hzl hlo
      generalize numStep zj bj x.wide = q at *
      obtain ⟨y, z7, b7⟩ := q
      simp only at hr7 HR hzl7
      simp only
      have hcb8 := hcb7.set x.at_ y
      have hbz8 := hbz7.other (b' := B) (by omega) x.at_ (.int .i64 y)
      have hrd8 := hr7.setCell (B := B) (by omega) (by
        rcases HK.out z7 l7 hzl7.out hlo7.out with h | h
        · exact Or.inl h
        · exact Or.inr fun e => by have := h _ e; omega) x.at_ (.int .i64 y)
      have hrow8 := hrow7.setCell hf4 x.at_ (.int .i64 y)
      have hgw8 : w.grownBy (w7.setCell ⟨B, x.at_, none⟩ (.int .i64 y)) (some b) := by
        have h1 := setCell_grown w7 ⟨B, x.at_, none⟩ (.int .i64 y)
        exact ⟨h1.os.trans hgw7.os, h1.tape.trans hgw7.tape, h1.output.trans hgw7.output, Nat.le_trans hgw7.size h1.size, fun k hk h => (h1.block k (Nat.lt_of_lt_of_le hk hgw7.size) (fun e => by have := Option.some.inj e; simp only at this; omega)).trans (hgw7.block k hk h)⟩
      repeat (refine wpF_pure (by rfl) (fun W hW => by go_simp; with_reducible rfl) ?_; simp only [Act.put, List.setIfInBounds_toArray, List.set_cons_zero, List.set_cons_succ])
      refine wpF_step (by rfl) (fun K hK => ?_)
      go_simp
      refine hK _ _ ?_ ?_
      · exact hK7.trans (Keeps.grown (setCell_grown w7 ⟨B, x.at_, none⟩ _) (fun k hk => by
          simp only [List.mem_cons, List.not_mem_nil, or_false] at hk
          subst hk
          exact ⟨hG7, fun e => by have := Option.some.inj e; simp only at this; omega⟩))
      clear hK7 hK K hcb7 hbz7 hr7 hrow7 hgw7 hc8 hf8
      refine wpF_nil ?_
      go_wp2_with fail
      go_roundw
      case rel => exact ⟨j + 1, l7, z7, b7, cs.set x.at_ y, by omega, by go_num, HR, by rw [List.length_set]; exact hlen.out, (set_head hxb y).trans hz.out, hcb8, hbz8, hrd8, hzl7.out, hlo7.out, hrow8, hgw8⟩
      case measure => simp [intOf]; omega
    · have HD : Hid (readF zs1 bad1 L T = (zj, bj, cs)) := by
        show _ = _
        rw [← hrun.out, List.drop_of_length_le (by omega), readF]
      obtain ⟨c, rfl⟩ := cm_of_list cs hlen.out
      have HCs2 : Hid (cst = (zj, bj, c.l, z)) := by
        show _ = _
        rw [HCs.out, HD.out]
      clear HD hrun hlen hz HCs hrow hat hL14 hLz
      obtain ⟨y0, y1, y2, y3, y4, y5, y6, y7, y8, y9, y10, y11, y12, y13⟩ := hcb.all
      have hBlt := hcb.lt
      have hzlt := hbz.lt
      have r1 := hrd.cells.2.1
      have hblt2 := hrd.lt
      have kc : ∀ i v, wr.cell? ⟨B, i, none⟩ = some v → ∀ W, Keeps [B, b] wr W → W.cell? ⟨B, i, none⟩ = some v := fun i v h W hW => (hW.cell (by simp)).trans h
      have z0 := kc 0 _ y0
      have z1 := kc 1 _ y1
      have z2 := kc 2 _ y2
      have z3 := kc 3 _ y3
      have z4 := kc 4 _ y4
      have z5 := kc 5 _ y5
      have z6 := kc 6 _ y6
      have z7 := kc 7 _ y7
      have z8 := kc 8 _ y8
      have z9 := kc 9 _ y9
      have z10 := kc 10 _ y10
      have z11 := kc 11 _ y11
      have z12 := kc 12 _ y12
      have z13 := kc 13 _ y13
      have kr : ∀ W, Keeps [B, b] wr W → W.cell? ⟨b, 1, none⟩ = some (.bool bj) := fun W hW => (hW.cell (by simp)).trans r1
      clear kc y0 y1 y2 y3 y4 y5 y6 y7 y8 y9 y10 y11 y12 y13 r1
      have hm := may_calls c wr.drew
      unfold Cm.v at hm
      obtain ⟨ok, hok⟩ : ∃ ok, okK z = ok := ⟨_, rfl⟩
      rw [hok]
      have HOK := Lib.hid hok
      clear hok
      go_wp2_with fail
      cases ok
      · refine wp_region_S (Keeps [B, b] wr) [(0, true), (1, true), (2, true), (3, true), (4, true), (5, true), (6, true), (7, true), (8, true), (9, true), (10, true), (11, false), (12, true), (13, true), (14, false), (15, true)] (by kernel_rfl) (by kernel_rfl) (fun _ _ d _ _ h => by cases d <;> exact h) (Keeps.drew _ _) ?_
        simp only [pickE, List.getElem?_cons_zero, List.getElem?_cons_succ]
        repeat (first
          | (refine wpF_skip (by rfl) ?_; simp only [Act.put, List.setIfInBounds_toArray, List.set_cons_zero, List.set_cons_succ])
          | (refine wpF_pass (by rfl) ?_; simp only [Act.put, List.setIfInBounds_toArray, List.set_cons_zero, List.set_cons_succ])
          | (refine wpF_pure (by rfl) (fun W hW => by go_simp; with_reducible rfl) ?_; simp only [Act.put, List.setIfInBounds_toArray, List.set_cons_zero, List.set_cons_succ]))
        obtain ⟨e1, e2, e3, e4⟩ := cmd_end wr.drew w.heap.size b B c lj zj _ hbz ⟨hrd.1, Row.drew hrd.2.1, hrd.2.2⟩ (by omega) (by omega) hBlt (HK.out zj lj hzl.out hlo.out)
        have e5 := grown_comp (⟨hgw.os, hgw.tape, hgw.output, hgw.size, hgw.block⟩ : w.grownBy wr.drew (some b)) e3 (Nat.le_refl _)
        refine wpF_step (by rfl) (fun K hK => ?_)
        refine wp_store_row 75 _ _ rfl w.heap.size #[.int .i64 c.k, .int .i64 c.s, .int .i64 c.n, .int .i64 c.f, .int .i64 c.r, .int .i64 c.o, .int .i64 c.d, .int .i64 c.p, .int .i64 c.i0, .int .i64 c.i1, .int .i64 c.b0, .int .i64 c.b1, .int .i64 c.h0, .int .i64 c.h1] rfl rfl 75 _ hbz (by kernel_rfl) rfl (cm_one c) ?_
        refine hK _ _ ((Keeps.drew _ _).trans e4) ?_
        clear hK K e3 e4
        generalize wr.drew.setRow w.heap.size _ = wF at *
        simp only [Act.put]
        repeat (refine wpF_pure (by rfl) (fun W hW => by go_simp; with_reducible rfl) ?_; simp only [Act.put, List.setIfInBounds_toArray, List.set_cons_zero, List.set_cons_succ])
        refine wpF_nil ?_
        have hl := load_cmd wF w.heap.size c e1
        go_wp2_with fail
        refine bodyPost_ret (v := .tuple #[c.v, .bool false]) (by simp [results, Tryz.results34, asAddr, hl]) rfl ?_
        exact HP.out _ _ ⟨c, by rw [HCs2.out], by rw [HCs2.out, HOK.out]; rfl, ⟨lj, by rw [HCs2.out]; exact e2, hlo.out⟩, e5⟩
      · cases bj with
        | true =>
          refine wp_region_S (Keeps [B, b] wr) [(0, true), (1, true), (2, true), (3, true), (4, true), (5, true), (6, true), (7, true), (8, true), (9, true), (10, true), (11, false), (12, true), (13, true), (14, false), (15, true)] (by kernel_rfl) (by kernel_rfl) (fun _ _ d _ _ h => by cases d <;> exact h) (Keeps.drew _ _) ?_
          simp only [pickE, List.getElem?_cons_zero, List.getElem?_cons_succ]
          repeat (first
            | (refine wpF_skip (by rfl) ?_; simp only [Act.put, List.setIfInBounds_toArray, List.set_cons_zero, List.set_cons_succ])
            | (refine wpF_pass (by rfl) ?_; simp only [Act.put, List.setIfInBounds_toArray, List.set_cons_zero, List.set_cons_succ])
            | (refine wpF_pure (by rfl) (fun W hW => by go_simp; with_reducible rfl) ?_; simp only [Act.put, List.setIfInBounds_toArray, List.set_cons_zero, List.set_cons_succ]))
          obtain ⟨e1, e2, e3, e4⟩ := cmd_end wr.drew w.heap.size b B c lj zj _ hbz ⟨hrd.1, Row.drew hrd.2.1, hrd.2.2⟩ (by omega) (by omega) hBlt (HK.out zj lj hzl.out hlo.out)
          have e5 := grown_comp (⟨hgw.os, hgw.tape, hgw.output, hgw.size, hgw.block⟩ : w.grownBy wr.drew (some b)) e3 (Nat.le_refl _)
          refine wpF_step (by rfl) (fun K hK => ?_)
          refine wp_store_row 75 _ _ rfl w.heap.size #[.int .i64 c.k, .int .i64 c.s, .int .i64 c.n, .int .i64 c.f, .int .i64 c.r, .int .i64 c.o, .int .i64 c.d, .int .i64 c.p, .int .i64 c.i0, .int .i64 c.i1, .int .i64 c.b0, .int .i64 c.b1, .int .i64 c.h0, .int .i64 c.h1] rfl rfl 75 _ hbz (by kernel_rfl) rfl (cm_one c) ?_
          refine hK _ _ ((Keeps.drew _ _).trans e4) ?_
          clear hK K e3 e4
          generalize wr.drew.setRow w.heap.size _ = wF at *
          simp only [Act.put]
          repeat (refine wpF_pure (by rfl) (fun W hW => by go_simp; with_reducible rfl) ?_; simp only [Act.put, List.setIfInBounds_toArray, List.set_cons_zero, List.set_cons_succ])
          refine wpF_nil ?_
          have hl := load_cmd wF w.heap.size c e1
          go_wp2_with fail
          refine bodyPost_ret (v := .tuple #[c.v, .bool false]) (by simp [results, Tryz.results34, asAddr, hl]) rfl ?_
          exact HP.out _ _ ⟨c, by rw [HCs2.out], by rw [HCs2.out, HOK.out]; rfl, ⟨lj, by rw [HCs2.out]; exact e2, hlo.out⟩, e5⟩
        | false =>
          refine wp_region_S (Keeps [B, b] wr) [(0, true), (1, true), (2, true), (3, true), (4, true), (5, true), (6, true), (7, true), (8, true), (9, true), (10, true), (11, false), (12, true), (13, true), (14, false), (15, true)] (by kernel_rfl) (by kernel_rfl) (fun _ _ d _ _ h => by cases d <;> exact h) (Keeps.drew _ _) ?_
          simp only [pickE, List.getElem?_cons_zero, List.getElem?_cons_succ]
          repeat (first
            | (refine wpF_skip (by rfl) ?_; simp only [Act.put, List.setIfInBounds_toArray, List.set_cons_zero, List.set_cons_succ])
            | (refine wpF_pass (by rfl) ?_; simp only [Act.put, List.setIfInBounds_toArray, List.set_cons_zero, List.set_cons_succ])
            | (refine wpF_pure (by rfl) (fun W hW => by go_simp; with_reducible rfl) ?_; simp only [Act.put, List.setIfInBounds_toArray, List.set_cons_zero, List.set_cons_succ]))
          refine wpF_step (by rfl) (fun K hK => ?_)
          go_simp
          refine hm.mono ?_
          rintro e w5 ⟨rfl, hb5⟩
          have hK5 : Keeps [B, b] wr w5 := (Keeps.drew _ _).trans (Keeps.below hb5 (fun k hk => by
            simp only [List.mem_cons, List.not_mem_nil, or_false] at hk
            rcases hk with rfl | rfl
            · exact hBlt
            · exact hblt2))
          refine hK _ _ hK5 ?_
          clear hK K
          have hbz5 : CBox w5 w.heap.size [0, 0, 0, 0, 0, 0, 0, 0, 0, 0, 0, 0, 0, 0] := CBox.below (w := wr.drew) hbz hb5 hzlt
          have hrd5 : Rd w5 b lj zj false := Rd.below (w := wr.drew) ⟨hrd.1, Row.drew hrd.2.1, hrd.2.2⟩ hb5
          have hgw5 : w.grownBy w5 (some b) := ⟨hb5.os.trans hgw.os, hb5.tape.trans hgw.tape, hb5.output.trans hgw.output, Nat.le_trans hgw.size hb5.size, fun k hk h => (hb5.block k (Nat.lt_of_lt_of_le hk hgw.size)).trans (hgw.block k hk h)⟩
          obtain ⟨e1, e2, e3, e4⟩ := cmd_end w5 w.heap.size b B c lj zj false hbz5 hrd5 (by omega) (by omega) (Nat.lt_of_lt_of_le hBlt hb5.size) (HK.out zj lj hzl.out hlo.out)
          have e5 := grown_comp hgw5 e3 (Nat.le_refl _)
          have HMB : Hid ((mayE c == 0) = mayB c) := by
            show _ = _
            unfold mayE
            cases mayB c <;> rfl
          generalize mayE c = me at *
          have hl := fun W (h : CBox W w.heap.size c.l) => load_cmd W w.heap.size c h
          repeat (refine wpF_pure (by rfl) (fun W hW => by go_simp; with_reducible rfl) ?_; simp only [Act.put, List.setIfInBounds_toArray, List.set_cons_zero, List.set_cons_succ])
          refine wpF_step (by rfl) (fun K hK => ?_)
          refine wp_store_row 75 _ _ rfl w.heap.size #[.int .i64 c.k, .int .i64 c.s, .int .i64 c.n, .int .i64 c.f, .int .i64 c.r, .int .i64 c.o, .int .i64 c.d, .int .i64 c.p, .int .i64 c.i0, .int .i64 c.i1, .int .i64 c.b0, .int .i64 c.b1, .int .i64 c.h0, .int .i64 c.h1] rfl rfl 75 _ hbz5 (by kernel_rfl) rfl (cm_one c) ?_
          refine hK _ _ (hK5.trans e4) ?_
          clear hK K e3 e4
          generalize w5.setRow w.heap.size _ = wF at *
          simp only [Act.put]
          repeat (refine wpF_pure (by rfl) (fun W hW => by go_simp; with_reducible rfl) ?_; simp only [Act.put, List.setIfInBounds_toArray, List.set_cons_zero, List.set_cons_succ])
          refine wpF_nil ?_
          have hl := hl wF e1
          go_wp2_with fail
          refine bodyPost_ret (v := .tuple #[c.v, .bool (me == 0)]) (by simp [results, Tryz.results34, asAddr, hl]) rfl ?_
          exact HP.out _ _ ⟨c, by rw [HCs2.out], by rw [HCs2.out, HOK.out, HMB.out]; rfl, ⟨lj, by rw [HCs2.out]; exact e2, hlo.out⟩, e5⟩

end Go.Proofs.YtdhdbmfipkppiaaGreat.Isa
