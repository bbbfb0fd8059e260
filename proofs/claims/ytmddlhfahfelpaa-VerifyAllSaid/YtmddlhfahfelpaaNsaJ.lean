/- The walk of put of the reference of commands. -/
import Derived.Test.YtmddlhfahfelpaaNsaR
import Derived.Deep.CutBlock
set_option linter.unusedSimpArgs false
set_option linter.unusedVariables false
set_option linter.unnecessarySimpa false
namespace Go.Proofs.Ytmddlhfahfelpaa.Isa
set_option maxRecDepth 10000
open Go.RowKit

theorem be_one (x : Int) : be x 1 = [x % 256] := by simp [be, byteAt]

def tileB (i0 i1 b0 b1 h0 h1 : Int) : Nat → List Int
  | 0 => []
  | 1 => be i0 2 ++ be b0 1 ++ be h0 1
  | _ => be i0 2 ++ be b0 1 ++ be h0 1 ++ be i1 2 ++ be b1 1 ++ be h1 1

def GrewB (w : World) (base : Nat) (v : Value) (bs : List Int) (w' : World) (v' : Value) : Prop := Grew w base 5 1 v bs.length (bs.map (.int .u8)) w' v'

def PutCPost (w : World) (base : Nat) (v : Value) (bs : List Int) (ed : Ending) (w' : World) : Prop := ∃ v', ed = .returned v' ∧ GrewB w base v bs w' v'

set_option maxRecDepth 20000 in
set_option maxHeartbeats 6400000 in
theorem refPut1_core (C : Cm) (k s n f r o d p i0 i1 b0 b1 h0 h1 : Int) (HC : Hid (C = ⟨k, s, n, f, r, o, d, p, i0, i1, b0, b1, h0, h1⟩)) (base : Nat) (v : Value) (bs : List Int) (w : World)
    (hown : w.ownsRow base 5 1 v bs.length (bs.map (.int .u8))) (hbase : base ≤ w.heap.size) (hn : bs.length + 20 ≤ 1099511627776) :
    Calls Try.prog 61 #[v, .agg #[.int .i64 k, .int .i64 s, .int .i64 n, .int .i64 f, .int .i64 r, .int .i64 o, .int .i64 d, .int .i64 p, .int .i64 i0, .int .i64 i1, .int .i64 b0, .int .i64 b1, .int .i64 h0, .int .i64 h1]] w (PutCPost w base v (bs ++ enc C)) := by
  have hP : ∀ e w' v', e = .returned v' → GrewB w base v (bs ++ enc C) w' v' → PutCPost w base v (bs ++ enc C) e w' := fun e w' v' h1 h2 => ⟨v', h1, h2⟩
  have HP := Lib.hid hP
  clear hP
  have HE : Hid (enc C = be k 1 ++ (tbl k).flatMap fun x => be (C.l[x.at_]?.getD 0) x.wide) := by show _ = _; rw [HC.out]; rfl
  generalize PutCPost w base v (bs ++ enc C) = R at *
  have hbox := cbox_new w ⟨k, s, n, f, r, o, d, p, i0, i1, b0, b1, h0, h1⟩
  simp only at hbox
  have hga := (Grew.refl hown).alloc (.cells #[.int .i64 k, .int .i64 s, .int .i64 n, .int .i64 f, .int .i64 r, .int .i64 o, .int .i64 d, .int .i64 p, .int .i64 i0, .int .i64 i1, .int .i64 b0, .int .i64 b1, .int .i64 h0, .int .i64 h1] 47)
  have hB0 : w.heap.size < (w.alloc (.cells #[.int .i64 k, .int .i64 s, .int .i64 n, .int .i64 f, .int .i64 r, .int .i64 o, .int .i64 d, .int .i64 p, .int .i64 i0, .int .i64 i1, .int .i64 b0, .int .i64 b1, .int .i64 h0, .int .i64 h1] 47)).heap.size := by simp
  have hvB : some w.heap.size ≠ v.ownBlock := fun e => by have := (hown.lt _ e.symm).2; omega
  go_enter Try.func61, Try.ntmps61
  go_wp2_with (at_builtin; refine stopped ?_)
  have hnew := row_lit (w.alloc (.cells #[.int .i64 k, .int .i64 s, .int .i64 n, .int .i64 f, .int .i64 r, .int .i64 o, .int .i64 d, .int .i64 p, .int .i64 i0, .int .i64 i1, .int .i64 b0, .int .i64 b1, .int .i64 h0, .int .i64 h1] 47)) #[.int .u8 (k % 256)] 5 1 1 (w.heap.size + 1) (by simp) rfl (by unfold maxLen; omega)
  have hg1 := hga.alloc (.cells #[.int .u8 (k % 256)] 5)
  have hbox1 := hbox.below (below_alloc (Below.refl _ _) (Nat.le_refl _) (.cells #[.int .u8 (k % 256)] 5)) hB0
  have hB1 := hbox1.lt
  refine wpList_append_row rfl rfl elem_u8 hg1.own rfl hnew rfl (by intro u hu; simp at hu; subst hu; rfl) (by omega) (by omega) (Nat.le_trans hbase hg1.grown.size) ?_
  intro v2 w2 ho hgr hnr
  have hg2 : Grew w base 5 1 v (bs ++ be k 1).length ((bs ++ be k 1).map (.int .u8)) w2 v2 := by
    refine hg1.append ?_ hgr hnr
    rw [be_one, List.length_append, List.map_append]
    exact ho
  have hbox2 : CBox w2 w.heap.size [k, s, n, f, r, o, d, p, i0, i1, b0, b1, h0, h1] := (hgr.block _ hB1 hvB).trans hbox1
  have hv2 : some w.heap.size ≠ v2.ownBlock := fun e => by
    rcases hnr _ e.symm with h | h
    · exact hvB h.symm
    · omega
  have hl2 : (bs ++ be k 1).length ≤ bs.length + 1 := by rw [List.length_append, be_len]; omega
  have hB2 := hbox2.lt
  clear hbox hga hB0 hnew hg1 hbox1 hB1 ho hgr hnr hvB hown
  obtain ⟨x0, x1, x2, x3, x4, x5, x6, x7, x8, x9, x10, x11, x12, x13⟩ := CBox.all (c := ⟨k, s, n, f, r, o, d, p, i0, i1, b0, b1, h0, h1⟩) hbox2
  simp only at x0 x1 x2 x3 x4 x5 x6 x7 x8 x9 x10 x11 x12 x13
  by_cases h12 : k = 1 ∨ k = 2
  · have ht : tbl k = [⟨4, 1, 1, 16⟩, ⟨5, 2, 1, 128⟩, ⟨6, 3, 0, 65535⟩, ⟨7, 2, 0, 1023⟩] := if_pos h12
    have HTB := Lib.hid ht
    clear ht
    rcases h12 with hk | hk
    all_goals
      go_wp2_with fail
      have x4k : ∀ W', Keeps [w.heap.size] w2 W' → W'.cell? ⟨w.heap.size, 4, none⟩ = some (.int .i64 r) := fun W' hW => (hW.cell (by simp)).trans x4
      have x5k : ∀ W', Keeps [w.heap.size] w2 W' → W'.cell? ⟨w.heap.size, 5, none⟩ = some (.int .i64 o) := fun W' hW => (hW.cell (by simp)).trans x5
      have x6k : ∀ W', Keeps [w.heap.size] w2 W' → W'.cell? ⟨w.heap.size, 6, none⟩ = some (.int .i64 d) := fun W' hW => (hW.cell (by simp)).trans x6
      have x7k : ∀ W', Keeps [w.heap.size] w2 W' → W'.cell? ⟨w.heap.size, 7, none⟩ = some (.int .i64 p) := fun W' hW => (hW.cell (by simp)).trans x7
      refine wp_region_S (Keeps [w.heap.size] w2) [(0, true), (1, true), (2, true), (4, true), (5, true), (7, true), (8, true), (10, true), (11, true), (3, false), (6, false), (9, false), (12, false), (13, true)] (by kernel_rfl) (by kernel_rfl) (fun _ _ d _ _ h => by cases d <;> exact h) (Keeps.drew _ _) ?_
      simp only [pickE, List.getElem?_cons_zero, List.getElem?_cons_succ]
      repeat (refine wpF_pure (by rfl) (fun W hW => by go_simp; with_reducible rfl) ?_; simp only [Act.put, List.setIfInBounds_toArray, List.set_cons_zero, List.set_cons_succ])
      have g0 := hg2.drew
      have K0 : Keeps [w.heap.size] w2 w2.drew := Keeps.drew _ _
      have v0 := hv2
      have s0 : w.heap.size < w2.drew.heap.size := hB2
      have l0 := hl2
      clear x4k x5k x6k x7k
      generalize w2.drew = y0 at *
      have hn0 := refNumber_calls base v2 (bs ++ be k 1) r 1 y0 g0.own (Nat.le_trans hbase g0.grown.size) (by omega) (by have := l0; omega)
      refine wpF_step (by rfl) (fun K hK => ?_)
      go_simp
      refine hn0.mono ?_
      rintro e y1 ⟨z1, rfl, q1⟩
      have K1 := K0.trans (Keeps.grown q1.grown (bs := [w.heap.size]) (fun k hk => by simp only [List.mem_cons, List.not_mem_nil, or_false] at hk; subst hk; exact ⟨s0, v0⟩))
      refine hK _ _ K1 ?_
      clear hK K hn0
      have v1 : some w.heap.size ≠ z1.ownBlock := fun e => by rcases q1.near _ e.symm with h | h; exact v0 h.symm; omega
      have s1 : w.heap.size < y1.heap.size := Nat.lt_of_lt_of_le s0 q1.grown.size
      have g1 := g0.trans q1
      have l1 : ((bs ++ be k 1) ++ be r 1).length ≤ bs.length + 2 := by have := l0; rw [List.length_append, be_len]; omega
      have hn1 := refNumber_calls base z1 ((bs ++ be k 1) ++ be r 1) o 2 y1 g1.own (Nat.le_trans hbase g1.grown.size) (by omega) (by have := l1; omega)
      refine wpF_step (by rfl) (fun K hK => ?_)
      go_simp
      refine hn1.mono ?_
      rintro e y2 ⟨z2, rfl, q2⟩
      have K2 := K1.trans (Keeps.grown q2.grown (bs := [w.heap.size]) (fun k hk => by simp only [List.mem_cons, List.not_mem_nil, or_false] at hk; subst hk; exact ⟨s1, v1⟩))
      refine hK _ _ K2 ?_
      clear hK K hn1
      have v2 : some w.heap.size ≠ z2.ownBlock := fun e => by rcases q2.near _ e.symm with h | h; exact v1 h.symm; omega
      have s2 : w.heap.size < y2.heap.size := Nat.lt_of_lt_of_le s1 q2.grown.size
      have g2 := g1.trans q2
      have l2 : (((bs ++ be k 1) ++ be r 1) ++ be o 2).length ≤ bs.length + 4 := by have := l1; rw [List.length_append, be_len]; omega
      have hn2 := refNumber_calls base z2 (((bs ++ be k 1) ++ be r 1) ++ be o 2) d 3 y2 g2.own (Nat.le_trans hbase g2.grown.size) (by omega) (by have := l2; omega)
      refine wpF_step (by rfl) (fun K hK => ?_)
      go_simp
      refine hn2.mono ?_
      rintro e y3 ⟨z3, rfl, q3⟩
      have K3 := K2.trans (Keeps.grown q3.grown (bs := [w.heap.size]) (fun k hk => by simp only [List.mem_cons, List.not_mem_nil, or_false] at hk; subst hk; exact ⟨s2, v2⟩))
      refine hK _ _ K3 ?_
      clear hK K hn2
      have v3 : some w.heap.size ≠ z3.ownBlock := fun e => by rcases q3.near _ e.symm with h | h; exact v2 h.symm; omega
      have s3 : w.heap.size < y3.heap.size := Nat.lt_of_lt_of_le s2 q3.grown.size
      have g3 := g2.trans q3
      have l3 : ((((bs ++ be k 1) ++ be r 1) ++ be o 2) ++ be d 3).length ≤ bs.length + 7 := by have := l2; rw [List.length_append, be_len]; omega
      have hn3 := refNumber_calls base z3 ((((bs ++ be k 1) ++ be r 1) ++ be o 2) ++ be d 3) p 2 y3 g3.own (Nat.le_trans hbase g3.grown.size) (by omega) (by have := l3; omega)
      refine wpF_step (by rfl) (fun K hK => ?_)
      go_simp
      refine hn3.mono ?_
      rintro e y4 ⟨z4, rfl, q4⟩
      have K4 := K3.trans (Keeps.grown q4.grown (bs := [w.heap.size]) (fun k hk => by simp only [List.mem_cons, List.not_mem_nil, or_false] at hk; subst hk; exact ⟨s3, v3⟩))
      refine hK _ _ K4 ?_
      clear hK K hn3
      have v4 : some w.heap.size ≠ z4.ownBlock := fun e => by rcases q4.near _ e.symm with h | h; exact v3 h.symm; omega
      have s4 : w.heap.size < y4.heap.size := Nat.lt_of_lt_of_le s3 q4.grown.size
      have g4 := g3.trans q4
      have l4 : (((((bs ++ be k 1) ++ be r 1) ++ be o 2) ++ be d 3) ++ be p 2).length ≤ bs.length + 9 := by have := l3; rw [List.length_append, be_len]; omega
      refine wpF_pure (by rfl) (fun W hW => by go_simp; with_reducible rfl) ?_
      simp only [Act.put, List.setIfInBounds_toArray, List.set_cons_zero]
      refine wpF_nil ?_
      have HF : Hid ((((((bs ++ be k 1) ++ be r 1) ++ be o 2) ++ be d 3) ++ be p 2) = bs ++ enc C) := by show _ = _; rw [HE.out, HC.out, HTB.out]; simp [Cm.l]
      have gF : GrewB w base v (bs ++ enc C) y4 z4 := by rw [← HF.out]; exact g4
      go_wp2_with fail
      exact HP.out _ _ _ rfl gF
  · by_cases h3 : k = 3
    · have ht : tbl k = [⟨2, 1, 0, 11⟩, ⟨3, 1, 0, 15⟩, ⟨4, 1, 1, 16⟩, ⟨7, 2, 0, 1023⟩, ⟨8, 2, 0, 1023⟩, ⟨10, 1, 0, 15⟩, ⟨12, 1, 0, 16⟩, ⟨9, 2, 0, 1023⟩, ⟨11, 1, 0, 15⟩, ⟨13, 1, 0, 16⟩] := by
        unfold tbl
        rw [if_neg (by omega), if_pos h3]
        rfl
      have HTB := Lib.hid ht
      clear ht h12
      have HK3 := Lib.hid h3
      go_wp2_with fail
      have x2k : ∀ W', Keeps [w.heap.size] w2 W' → W'.cell? ⟨w.heap.size, 2, none⟩ = some (.int .i64 n) := fun W' hW => (hW.cell (by simp)).trans x2
      have x3k : ∀ W', Keeps [w.heap.size] w2 W' → W'.cell? ⟨w.heap.size, 3, none⟩ = some (.int .i64 f) := fun W' hW => (hW.cell (by simp)).trans x3
      have x4k : ∀ W', Keeps [w.heap.size] w2 W' → W'.cell? ⟨w.heap.size, 4, none⟩ = some (.int .i64 r) := fun W' hW => (hW.cell (by simp)).trans x4
      have x7k : ∀ W', Keeps [w.heap.size] w2 W' → W'.cell? ⟨w.heap.size, 7, none⟩ = some (.int .i64 p) := fun W' hW => (hW.cell (by simp)).trans x7
      refine wp_region_S (Keeps [w.heap.size] w2) [(0, true), (1, true), (2, true), (4, true), (5, true), (7, true), (8, true), (10, true), (11, true), (3, false), (6, false), (9, false), (12, false), (13, true)] (by kernel_rfl) (by kernel_rfl) (fun _ _ d _ _ h => by cases d <;> exact h) (Keeps.drew _ _) ?_
      simp only [pickE, List.getElem?_cons_zero, List.getElem?_cons_succ]
      repeat (refine wpF_pure (by rfl) (fun W hW => by go_simp; with_reducible rfl) ?_; simp only [Act.put, List.setIfInBounds_toArray, List.set_cons_zero, List.set_cons_succ])
      have g0 := hg2.drew
      have K0 : Keeps [w.heap.size] w2 w2.drew := Keeps.drew _ _
      have v0 := hv2
      have s0 : w.heap.size < w2.drew.heap.size := hB2
      have l0 := hl2
      clear x2k x3k x4k x7k
      generalize w2.drew = y0 at *
      have hn0 := refNumber_calls base v2 (bs ++ be k 1) n 1 y0 g0.own (Nat.le_trans hbase g0.grown.size) (by omega) (by have := l0; omega)
      refine wpF_step (by rfl) (fun K hK => ?_)
      go_simp
      refine hn0.mono ?_
      rintro e y1 ⟨z1, rfl, q1⟩
      have K1 := K0.trans (Keeps.grown q1.grown (bs := [w.heap.size]) (fun k hk => by simp only [List.mem_cons, List.not_mem_nil, or_false] at hk; subst hk; exact ⟨s0, v0⟩))
      refine hK _ _ K1 ?_
      clear hK K hn0
      have v1 : some w.heap.size ≠ z1.ownBlock := fun e => by rcases q1.near _ e.symm with h | h; exact v0 h.symm; omega
      have s1 : w.heap.size < y1.heap.size := Nat.lt_of_lt_of_le s0 q1.grown.size
      have g1 := g0.trans q1
      have l1 : ((bs ++ be k 1) ++ be n 1).length ≤ bs.length + 2 := by have := l0; rw [List.length_append, be_len]; omega
      have hn1 := refNumber_calls base z1 ((bs ++ be k 1) ++ be n 1) f 1 y1 g1.own (Nat.le_trans hbase g1.grown.size) (by omega) (by have := l1; omega)
      refine wpF_step (by rfl) (fun K hK => ?_)
      go_simp
      refine hn1.mono ?_
      rintro e y2 ⟨z2, rfl, q2⟩
      have K2 := K1.trans (Keeps.grown q2.grown (bs := [w.heap.size]) (fun k hk => by simp only [List.mem_cons, List.not_mem_nil, or_false] at hk; subst hk; exact ⟨s1, v1⟩))
      refine hK _ _ K2 ?_
      clear hK K hn1
      have v2 : some w.heap.size ≠ z2.ownBlock := fun e => by rcases q2.near _ e.symm with h | h; exact v1 h.symm; omega
      have s2 : w.heap.size < y2.heap.size := Nat.lt_of_lt_of_le s1 q2.grown.size
      have g2 := g1.trans q2
      have l2 : (((bs ++ be k 1) ++ be n 1) ++ be f 1).length ≤ bs.length + 3 := by have := l1; rw [List.length_append, be_len]; omega
      have hn2 := refNumber_calls base z2 (((bs ++ be k 1) ++ be n 1) ++ be f 1) r 1 y2 g2.own (Nat.le_trans hbase g2.grown.size) (by omega) (by have := l2; omega)
      refine wpF_step (by rfl) (fun K hK => ?_)
      go_simp
      refine hn2.mono ?_
      rintro e y3 ⟨z3, rfl, q3⟩
      have K3 := K2.trans (Keeps.grown q3.grown (bs := [w.heap.size]) (fun k hk => by simp only [List.mem_cons, List.not_mem_nil, or_false] at hk; subst hk; exact ⟨s2, v2⟩))
      refine hK _ _ K3 ?_
      clear hK K hn2
      have v3 : some w.heap.size ≠ z3.ownBlock := fun e => by rcases q3.near _ e.symm with h | h; exact v2 h.symm; omega
      have s3 : w.heap.size < y3.heap.size := Nat.lt_of_lt_of_le s2 q3.grown.size
      have g3 := g2.trans q3
      have l3 : ((((bs ++ be k 1) ++ be n 1) ++ be f 1) ++ be r 1).length ≤ bs.length + 4 := by have := l2; rw [List.length_append, be_len]; omega
      have hn3 := refNumber_calls base z3 ((((bs ++ be k 1) ++ be n 1) ++ be f 1) ++ be r 1) p 2 y3 g3.own (Nat.le_trans hbase g3.grown.size) (by omega) (by have := l3; omega)
      refine wpF_step (by rfl) (fun K hK => ?_)
      go_simp
      refine hn3.mono ?_
      rintro e y4 ⟨z4, rfl, q4⟩
      have K4 := K3.trans (Keeps.grown q4.grown (bs := [w.heap.size]) (fun k hk => by simp only [List.mem_cons, List.not_mem_nil, or_false] at hk; subst hk; exact ⟨s3, v3⟩))
      refine hK _ _ K4 ?_
      clear hK K hn3
      have v4 : some w.heap.size ≠ z4.ownBlock := fun e => by rcases q4.near _ e.symm with h | h; exact v3 h.symm; omega
      have s4 : w.heap.size < y4.heap.size := Nat.lt_of_lt_of_le s3 q4.grown.size
      have g4 := g3.trans q4
      have l4 : (((((bs ++ be k 1) ++ be n 1) ++ be f 1) ++ be r 1) ++ be p 2).length ≤ bs.length + 6 := by have := l3; rw [List.length_append, be_len]; omega
      refine wpF_pure (by rfl) (fun W hW => by go_simp; with_reducible rfl) ?_
      simp only [Act.put, List.setIfInBounds_toArray, List.set_cons_zero]
      refine wpF_nil ?_
      have hbox4 : CBox y4 w.heap.size [k, s, n, f, r, o, d, p, i0, i1, b0, b1, h0, h1] := (K4.2 _ (by simp)).trans hbox2
      obtain ⟨bq, hbq⟩ : ∃ bq, (((((bs ++ be k 1) ++ be n 1) ++ be f 1) ++ be r 1) ++ be p 2) = bq := ⟨_, rfl⟩
      rw [hbq] at g4 l4
      have HBQ := Lib.hid hbq
      clear hbq K0 K1 K2 K3 K4 g0 g1 g2 g3 q1 q2 q3 q4 v0 v1 v3 s0 s1 s2 s3 s4 l0 l1 l2 l3 hbox2 x0 x1 x2 x3 x4 x5 x6 x7 x8 x9 x10 x11 x12 x13 hg2 hv2 hl2 hB2
      go_wp2_with fail
      go_loopw [0, 5] (fun b i wr => ∃ (j : Nat) (bj : List Int), j ≤ 2 ∧ i = .int .i64 j ∧ Hid (bj = bq ++ tileB i0 i1 b0 b1 h0 h1 j) ∧ Hid (bj.length ≤ bs.length + 10 + 4 * j) ∧ GrewB w base v bj wr b ∧ CBox wr w.heap.size [k, s, n, f, r, o, d, p, i0, i1, b0, b1, h0, h1] ∧ some w.heap.size ≠ b.ownBlock) (fun _ i _ => 2 - (intOf i).toNat)
      case atStart => exact ⟨0, bq, by omega, rfl, by show _ = _; simp [tileB], by show _ ≤ _; omega, g4, hbox4, v4⟩
      case round =>
        clear g4 hbox4 v4 l4
        obtain ⟨j, bj, hj, rfl, hbj, hbl, hgj, hboxj, hvj⟩ := hrel
        unfold GrewB at hgj
        have hBj := hboxj.lt
        have hbl1 := hbl.out
        obtain ⟨x0, x1, x2, x3, x4, x5, x6, x7, x8, x9, x10, x11, x12, x13⟩ := CBox.all (c := ⟨k, s, n, f, r, o, d, p, i0, i1, b0, b1, h0, h1⟩) hboxj
        simp only at x0 x1 x2 x3 x4 x5 x6 x7 x8 x9 x10 x11 x12 x13
        rcases (by omega : j = 0 ∨ j = 1 ∨ j = 2) with rfl | rfl | rfl
        · rw [show ((0 : Nat) : Int) = 0 from rfl]
          go_wp2_with fail
          have x8k : ∀ W', Keeps [w.heap.size] wr W' → W'.cell? ⟨w.heap.size, 8, none⟩ = some (.int .i64 i0) := fun W' hW => (hW.cell (by simp)).trans x8
          have x10k : ∀ W', Keeps [w.heap.size] wr W' → W'.cell? ⟨w.heap.size, 10, none⟩ = some (.int .i64 b0) := fun W' hW => (hW.cell (by simp)).trans x10
          have x12k : ∀ W', Keeps [w.heap.size] wr W' → W'.cell? ⟨w.heap.size, 12, none⟩ = some (.int .i64 h0) := fun W' hW => (hW.cell (by simp)).trans x12
          refine wp_region_S (Keeps [w.heap.size] wr) [(0, true), (1, true), (2, true), (3, true), (4, true), (6, true), (7, true), (8, true), (9, true), (11, true), (12, true), (13, true), (14, true), (5, false), (10, false), (15, false), (16, true)] (by kernel_rfl) (by kernel_rfl) (fun _ _ d _ _ h => by cases d <;> exact h) (Keeps.drew _ _) ?_
          simp only [pickE, List.getElem?_cons_zero, List.getElem?_cons_succ]
          repeat (refine wpF_pure (by rfl) (fun W hW => by go_simp; with_reducible rfl) ?_; simp only [Act.put, List.setIfInBounds_toArray, List.set_cons_zero, List.set_cons_succ])
          have g0 := hgj.drew
          have K0 : Keeps [w.heap.size] wr wr.drew := Keeps.drew _ _
          have v0 := hvj
          have s0 : w.heap.size < wr.drew.heap.size := hBj
          have l0 := hbl1
          clear x8k x10k x12k
          generalize wr.drew = y0 at *
          have hn0 := refNumber_calls base u0 bj i0 2 y0 g0.own (Nat.le_trans hbase g0.grown.size) (by omega) (by have := l0; omega)
          refine wpF_step (by rfl) (fun K hK => ?_)
          go_simp
          refine hn0.mono ?_
          rintro e y1 ⟨z1, rfl, q1⟩
          have K1 := K0.trans (Keeps.grown q1.grown (bs := [w.heap.size]) (fun k hk => by simp only [List.mem_cons, List.not_mem_nil, or_false] at hk; subst hk; exact ⟨s0, v0⟩))
          refine hK _ _ K1 ?_
          clear hK K hn0
          have v1 : some w.heap.size ≠ z1.ownBlock := fun e => by rcases q1.near _ e.symm with h | h; exact v0 h.symm; omega
          have s1 : w.heap.size < y1.heap.size := Nat.lt_of_lt_of_le s0 q1.grown.size
          have g1 := g0.trans q1
          have l1 : (bj ++ be i0 2).length ≤ bs.length + 12 := by have := l0; rw [List.length_append, be_len]; omega
          have hn1 := refNumber_calls base z1 (bj ++ be i0 2) b0 1 y1 g1.own (Nat.le_trans hbase g1.grown.size) (by omega) (by have := l1; omega)
          refine wpF_step (by rfl) (fun K hK => ?_)
          go_simp
          refine hn1.mono ?_
          rintro e y2 ⟨z2, rfl, q2⟩
          have K2 := K1.trans (Keeps.grown q2.grown (bs := [w.heap.size]) (fun k hk => by simp only [List.mem_cons, List.not_mem_nil, or_false] at hk; subst hk; exact ⟨s1, v1⟩))
          refine hK _ _ K2 ?_
          clear hK K hn1
          have v2 : some w.heap.size ≠ z2.ownBlock := fun e => by rcases q2.near _ e.symm with h | h; exact v1 h.symm; omega
          have s2 : w.heap.size < y2.heap.size := Nat.lt_of_lt_of_le s1 q2.grown.size
          have g2 := g1.trans q2
          have l2 : ((bj ++ be i0 2) ++ be b0 1).length ≤ bs.length + 13 := by have := l1; rw [List.length_append, be_len]; omega
          have hn2 := refNumber_calls base z2 ((bj ++ be i0 2) ++ be b0 1) h0 1 y2 g2.own (Nat.le_trans hbase g2.grown.size) (by omega) (by have := l2; omega)
          refine wpF_step (by rfl) (fun K hK => ?_)
          go_simp
          refine hn2.mono ?_
          rintro e y3 ⟨z3, rfl, q3⟩
          have K3 := K2.trans (Keeps.grown q3.grown (bs := [w.heap.size]) (fun k hk => by simp only [List.mem_cons, List.not_mem_nil, or_false] at hk; subst hk; exact ⟨s2, v2⟩))
          refine hK _ _ K3 ?_
          clear hK K hn2
          have v3 : some w.heap.size ≠ z3.ownBlock := fun e => by rcases q3.near _ e.symm with h | h; exact v2 h.symm; omega
          have s3 : w.heap.size < y3.heap.size := Nat.lt_of_lt_of_le s2 q3.grown.size
          have g3 := g2.trans q3
          have l3 : (((bj ++ be i0 2) ++ be b0 1) ++ be h0 1).length ≤ bs.length + 14 := by have := l2; rw [List.length_append, be_len]; omega
          refine wpF_pure (by rfl) (fun W hW => by go_simp; with_reducible rfl) ?_
          simp only [Act.put, List.setIfInBounds_toArray, List.set_cons_zero]
          refine wpF_nil ?_
          have hboxk : CBox y3 w.heap.size [k, s, n, f, r, o, d, p, i0, i1, b0, b1, h0, h1] := (K3.2 _ (by simp)).trans hboxj
          have HF : Hid ((((bj ++ be i0 2) ++ be b0 1) ++ be h0 1) = bq ++ tileB i0 i1 b0 b1 h0 h1 1) := by show _ = _; rw [hbj.out]; simp [tileB]
          have gF : GrewB w base v (bq ++ tileB i0 i1 b0 b1 h0 h1 1) y3 z3 := by rw [← HF.out]; exact g3
          have lF : Hid ((bq ++ tileB i0 i1 b0 b1 h0 h1 1).length ≤ bs.length + 10 + 4 * 1) := by show _ ≤ _; rw [← HF.out]; omega
          clear g0 g1 g2 g3 q1 q2 q3 K0 K1 K2 K3 l0 l1 l2 l3
          go_wp2_with fail
          go_roundw
          case rel => exact ⟨1, _, by omega, by go_num, rfl, lF, gF, hboxk, v3⟩
          case measure => simp [intOf]
        · rw [show ((1 : Nat) : Int) = 1 from rfl]
          go_wp2_with fail
          have x9k : ∀ W', Keeps [w.heap.size] wr W' → W'.cell? ⟨w.heap.size, 9, none⟩ = some (.int .i64 i1) := fun W' hW => (hW.cell (by simp)).trans x9
          have x11k : ∀ W', Keeps [w.heap.size] wr W' → W'.cell? ⟨w.heap.size, 11, none⟩ = some (.int .i64 b1) := fun W' hW => (hW.cell (by simp)).trans x11
          have x13k : ∀ W', Keeps [w.heap.size] wr W' → W'.cell? ⟨w.heap.size, 13, none⟩ = some (.int .i64 h1) := fun W' hW => (hW.cell (by simp)).trans x13
          refine wp_region_S (Keeps [w.heap.size] wr) [(0, true), (1, true), (2, true), (3, true), (4, true), (6, true), (7, true), (8, true), (9, true), (11, true), (12, true), (13, true), (14, true), (5, false), (10, false), (15, false), (16, true)] (by kernel_rfl) (by kernel_rfl) (fun _ _ d _ _ h => by cases d <;> exact h) (Keeps.drew _ _) ?_
          simp only [pickE, List.getElem?_cons_zero, List.getElem?_cons_succ]
          repeat (refine wpF_pure (by rfl) (fun W hW => by go_simp; with_reducible rfl) ?_; simp only [Act.put, List.setIfInBounds_toArray, List.set_cons_zero, List.set_cons_succ])
          have g0 := hgj.drew
          have K0 : Keeps [w.heap.size] wr wr.drew := Keeps.drew _ _
          have v0 := hvj
          have s0 : w.heap.size < wr.drew.heap.size := hBj
          have l0 := hbl1
          clear x9k x11k x13k
          generalize wr.drew = y0 at *
          have hn0 := refNumber_calls base u0 bj i1 2 y0 g0.own (Nat.le_trans hbase g0.grown.size) (by omega) (by have := l0; omega)
          refine wpF_step (by rfl) (fun K hK => ?_)
          go_simp
          refine hn0.mono ?_
          rintro e y1 ⟨z1, rfl, q1⟩
          have K1 := K0.trans (Keeps.grown q1.grown (bs := [w.heap.size]) (fun k hk => by simp only [List.mem_cons, List.not_mem_nil, or_false] at hk; subst hk; exact ⟨s0, v0⟩))
          refine hK _ _ K1 ?_
          clear hK K hn0
          have v1 : some w.heap.size ≠ z1.ownBlock := fun e => by rcases q1.near _ e.symm with h | h; exact v0 h.symm; omega
          have s1 : w.heap.size < y1.heap.size := Nat.lt_of_lt_of_le s0 q1.grown.size
          have g1 := g0.trans q1
          have l1 : (bj ++ be i1 2).length ≤ bs.length + 16 := by have := l0; rw [List.length_append, be_len]; omega
          have hn1 := refNumber_calls base z1 (bj ++ be i1 2) b1 1 y1 g1.own (Nat.le_trans hbase g1.grown.size) (by omega) (by have := l1; omega)
          refine wpF_step (by rfl) (fun K hK => ?_)
          go_simp
          refine hn1.mono ?_
          rintro e y2 ⟨z2, rfl, q2⟩
          have K2 := K1.trans (Keeps.grown q2.grown (bs := [w.heap.size]) (fun k hk => by simp only [List.mem_cons, List.not_mem_nil, or_false] at hk; subst hk; exact ⟨s1, v1⟩))
          refine hK _ _ K2 ?_
          clear hK K hn1
          have v2 : some w.heap.size ≠ z2.ownBlock := fun e => by rcases q2.near _ e.symm with h | h; exact v1 h.symm; omega
          have s2 : w.heap.size < y2.heap.size := Nat.lt_of_lt_of_le s1 q2.grown.size
          have g2 := g1.trans q2
          have l2 : ((bj ++ be i1 2) ++ be b1 1).length ≤ bs.length + 17 := by have := l1; rw [List.length_append, be_len]; omega
          have hn2 := refNumber_calls base z2 ((bj ++ be i1 2) ++ be b1 1) h1 1 y2 g2.own (Nat.le_trans hbase g2.grown.size) (by omega) (by have := l2; omega)
          refine wpF_step (by rfl) (fun K hK => ?_)
          go_simp
          refine hn2.mono ?_
          rintro e y3 ⟨z3, rfl, q3⟩
          have K3 := K2.trans (Keeps.grown q3.grown (bs := [w.heap.size]) (fun k hk => by simp only [List.mem_cons, List.not_mem_nil, or_false] at hk; subst hk; exact ⟨s2, v2⟩))
          refine hK _ _ K3 ?_
          clear hK K hn2
          have v3 : some w.heap.size ≠ z3.ownBlock := fun e => by rcases q3.near _ e.symm with h | h; exact v2 h.symm; omega
          have s3 : w.heap.size < y3.heap.size := Nat.lt_of_lt_of_le s2 q3.grown.size
          have g3 := g2.trans q3
          have l3 : (((bj ++ be i1 2) ++ be b1 1) ++ be h1 1).length ≤ bs.length + 18 := by have := l2; rw [List.length_append, be_len]; omega
          refine wpF_pure (by rfl) (fun W hW => by go_simp; with_reducible rfl) ?_
          simp only [Act.put, List.setIfInBounds_toArray, List.set_cons_zero]
          refine wpF_nil ?_
          have hboxk : CBox y3 w.heap.size [k, s, n, f, r, o, d, p, i0, i1, b0, b1, h0, h1] := (K3.2 _ (by simp)).trans hboxj
          have HF : Hid ((((bj ++ be i1 2) ++ be b1 1) ++ be h1 1) = bq ++ tileB i0 i1 b0 b1 h0 h1 2) := by show _ = _; rw [hbj.out]; simp [tileB]
          have gF : GrewB w base v (bq ++ tileB i0 i1 b0 b1 h0 h1 2) y3 z3 := by rw [← HF.out]; exact g3
          have lF : Hid ((bq ++ tileB i0 i1 b0 b1 h0 h1 2).length ≤ bs.length + 10 + 4 * 2) := by show _ ≤ _; rw [← HF.out]; omega
          clear g0 g1 g2 g3 q1 q2 q3 K0 K1 K2 K3 l0 l1 l2 l3
          go_wp2_with fail
          go_roundw
          case rel => exact ⟨2, _, by omega, by go_num, rfl, lF, gF, hboxk, v3⟩
          case measure => simp [intOf]
        · rw [show ((2 : Nat) : Int) = 2 from rfl]
          have HF : Hid (bj = bs ++ enc C) := by
            show _ = _
            rw [hbj.out, ← HBQ.out, HE.out, HC.out, HTB.out]
            simp [Cm.l, tileB]
          have gF : GrewB w base v (bs ++ enc C) wr u0 := by rw [← HF.out]; exact hgj
          clear x0 x1 x2 x3 x4 x5 x6 x7 x8 x9 x10 x11 x12 x13
          go_wp2_with fail
          exact HP.out _ _ _ rfl gF
    · by_cases h4 : k = 4
      · have ht : tbl k = [⟨2, 1, 0, 11⟩, ⟨4, 1, 1, 16⟩] := by
          unfold tbl
          rw [if_neg (by omega), if_neg (by omega), if_pos h4]
        have HTB := Lib.hid ht
        clear ht h12 h3
        go_wp2_with fail
        have x2k : ∀ W', Keeps [w.heap.size] w2 W' → W'.cell? ⟨w.heap.size, 2, none⟩ = some (.int .i64 n) := fun W' hW => (hW.cell (by simp)).trans x2
        have x4k : ∀ W', Keeps [w.heap.size] w2 W' → W'.cell? ⟨w.heap.size, 4, none⟩ = some (.int .i64 r) := fun W' hW => (hW.cell (by simp)).trans x4
        refine wp_region_S (Keeps [w.heap.size] w2) [(0, true), (1, true), (2, true), (4, true), (5, true), (3, false), (6, false), (7, true)] (by kernel_rfl) (by kernel_rfl) (fun _ _ d _ _ h => by cases d <;> exact h) (Keeps.drew _ _) ?_
        simp only [pickE, List.getElem?_cons_zero, List.getElem?_cons_succ]
        repeat (refine wpF_pure (by rfl) (fun W hW => by go_simp; with_reducible rfl) ?_; simp only [Act.put, List.setIfInBounds_toArray, List.set_cons_zero, List.set_cons_succ])
        have g0 := hg2.drew
        have K0 : Keeps [w.heap.size] w2 w2.drew := Keeps.drew _ _
        have v0 := hv2
        have s0 : w.heap.size < w2.drew.heap.size := hB2
        have l0 := hl2
        clear x2k x4k
        generalize w2.drew = y0 at *
        have hn0 := refNumber_calls base v2 (bs ++ be k 1) n 1 y0 g0.own (Nat.le_trans hbase g0.grown.size) (by omega) (by have := l0; omega)
        refine wpF_step (by rfl) (fun K hK => ?_)
        go_simp
        refine hn0.mono ?_
        rintro e y1 ⟨z1, rfl, q1⟩
        have K1 := K0.trans (Keeps.grown q1.grown (bs := [w.heap.size]) (fun k hk => by simp only [List.mem_cons, List.not_mem_nil, or_false] at hk; subst hk; exact ⟨s0, v0⟩))
        refine hK _ _ K1 ?_
        clear hK K hn0
        have v1 : some w.heap.size ≠ z1.ownBlock := fun e => by rcases q1.near _ e.symm with h | h; exact v0 h.symm; omega
        have s1 : w.heap.size < y1.heap.size := Nat.lt_of_lt_of_le s0 q1.grown.size
        have g1 := g0.trans q1
        have l1 : ((bs ++ be k 1) ++ be n 1).length ≤ bs.length + 2 := by have := l0; rw [List.length_append, be_len]; omega
        have hn1 := refNumber_calls base z1 ((bs ++ be k 1) ++ be n 1) r 1 y1 g1.own (Nat.le_trans hbase g1.grown.size) (by omega) (by have := l1; omega)
        refine wpF_step (by rfl) (fun K hK => ?_)
        go_simp
        refine hn1.mono ?_
        rintro e y2 ⟨z2, rfl, q2⟩
        have K2 := K1.trans (Keeps.grown q2.grown (bs := [w.heap.size]) (fun k hk => by simp only [List.mem_cons, List.not_mem_nil, or_false] at hk; subst hk; exact ⟨s1, v1⟩))
        refine hK _ _ K2 ?_
        clear hK K hn1
        have v2 : some w.heap.size ≠ z2.ownBlock := fun e => by rcases q2.near _ e.symm with h | h; exact v1 h.symm; omega
        have s2 : w.heap.size < y2.heap.size := Nat.lt_of_lt_of_le s1 q2.grown.size
        have g2 := g1.trans q2
        have l2 : (((bs ++ be k 1) ++ be n 1) ++ be r 1).length ≤ bs.length + 3 := by have := l1; rw [List.length_append, be_len]; omega
        refine wpF_pure (by rfl) (fun W hW => by go_simp; with_reducible rfl) ?_
        simp only [Act.put, List.setIfInBounds_toArray, List.set_cons_zero]
        refine wpF_nil ?_
        have HF : Hid ((((bs ++ be k 1) ++ be n 1) ++ be r 1) = bs ++ enc C) := by show _ = _; rw [HE.out, HC.out, HTB.out]; simp [Cm.l]
        have gF : GrewB w base v (bs ++ enc C) y2 z2 := by rw [← HF.out]; exact g2
        go_wp2_with fail
        exact HP.out _ _ _ rfl gF
      · by_cases h5 : k = 5 ∨ k = 6
        · have ht : tbl k = [⟨1, 1, 0, 7⟩] := by
            unfold tbl
            rw [if_neg (by omega), if_neg (by omega), if_neg (by omega), if_pos h5]
          have HTB := Lib.hid ht
          clear ht h12 h3 h4
          have hn1 := refNumber_calls base v2 (bs ++ be k 1) s 1 w2 hg2.own (Nat.le_trans hbase hg2.grown.size) (by omega) (by omega)
          rcases h5 with hk | hk
          all_goals
            go_wp2_with fail
            refine hn1.mono ?_
            rintro e w3 ⟨z1, rfl, q1⟩
            have g1 := hg2.trans q1
            have HF : Hid (((bs ++ be k 1) ++ be s 1) = bs ++ enc C) := by show _ = _; rw [HE.out, HC.out, HTB.out]; simp [Cm.l]
            have gF : GrewB w base v (bs ++ enc C) w3 z1 := by rw [← HF.out]; exact g1
            go_wp2_with fail
            exact HP.out _ _ _ rfl gF
        · have ht : tbl k = [] := by
            unfold tbl
            rw [if_neg (by omega), if_neg (by omega), if_neg (by omega), if_neg (by omega)]
          have HTB := Lib.hid ht
          have n1 : ¬ k = 1 := by omega
          have n2 : ¬ k = 2 := by omega
          have n5 : ¬ k = 5 := by omega
          have n6 : ¬ k = 6 := by omega
          have HF : Hid ((bs ++ be k 1) = bs ++ enc C) := by show _ = _; rw [HE.out, HTB.out]; simp
          have gF : GrewB w base v (bs ++ enc C) w2 v2 := by rw [← HF.out]; exact hg2
          clear ht
          go_wp2_with fail
          exact HP.out _ _ _ rfl gF

theorem refPut1_calls (c : Cm) (base : Nat) (v : Value) (bs : List Int) (w : World)
    (hown : w.ownsRow base 5 1 v bs.length (bs.map (.int .u8))) (hbase : base ≤ w.heap.size) (hn : bs.length + 20 ≤ 1099511627776) :
    Calls Try.prog 61 #[v, c.v] w (PutCPost w base v (bs ++ enc c)) :=
  refPut1_core c c.k c.s c.n c.f c.r c.o c.d c.p c.i0 c.i1 c.b0 c.b1 c.h0 c.h1 rfl base v bs w hown hbase hn

end Go.Proofs.Ytmddlhfahfelpaa.Isa
