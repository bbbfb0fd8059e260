/- The reference's parse of graphs; it says what the code's says. And the walks of signed, shape and nums. -/
/- The walks of the reference's reader of graphs: signed, shape, nums. -/
/- What stands while the reference's reader builds a node, or a graph. -/
import Derived.Test.YtdhdbmfipkppiaaGreatMtb
import Derived.Test.YtdhdbmfipkppiaaGreatModF
set_option linter.unusedSimpArgs false
set_option linter.unusedVariables false
set_option linter.unnecessarySimpa false
namespace Go.Proofs.YtdhdbmfipkppiaaGreat
open Go.RowKit

def sgn (n : Nat) (x : Int) : Int := if (2 : Int) ^ (8 * n - 1) ≤ x then x - 2 ^ (8 * n) else x
def qS (n : Nat) : Ps Int := .bind (nNum n) fun x => .ret (sgn n x)
def qShape : Ps Sz := .bind (nNum 1) fun h => .bind (nNum 1) fun w => .bind (nNum 1) fun c => .ret ⟨h, w, c⟩
def qVl : Ps Vl := .bind qShape fun s => .bind (qS 1) fun z => .ret ⟨s, z⟩
def qNums : Ps (List Int) := pMany (nNum 1) (nNum 1)
def qNode : Ps Nc :=
  .bind (nNum 1) fun op => .bind qNums fun ins =>
  .bind (nNum 1) fun k => .bind (nNum 1) fun st => .bind (nNum 1) fun pad => .bind (nNum 1) fun out =>
  .bind (nNum 2) fun mul => .bind (nNum 1) fun sh => .bind (qS 1) fun zero => .bind qShape fun t =>
  .bind (pMany (nNum 2) (qS 1)) fun ws => .bind (pMany (nNum 1) (qS 4)) fun bs =>
  .ret ⟨op, k, st, pad, out, mul, sh, zero, t.h, t.w, t.c, ins, ws, bs⟩
def qGraph : Ps Gc := .bind (pMany (nNum 1) qVl) fun ins => .bind (pMany (nNum 1) qNode) fun nodes => .bind qNums fun outs => .ret ⟨ins, nodes, outs⟩

/-- Two parses that say the same, or are both bad. -/
structure Sim {α : Type} (p q : Ps α) : Prop where
  bad : ∀ r, r.bad = true → (p r).2.bad = true ∧ (q r).2.bad = true
  good : ∀ r, r.bad = false → q r = p r ∨ ((p r).2.bad = true ∧ (q r).2.bad = true)

theorem Sim.ret {α : Type} (a : α) : Sim (Ps.ret a) (Ps.ret a) := ⟨fun _ h => ⟨h, h⟩, fun _ _ => .inl rfl⟩
theorem Sim.bind {α β : Type} {p q : Ps α} {f g : α → Ps β} (h : Sim p q) (k : ∀ a, Sim (f a) (g a)) : Sim (Ps.bind p f) (Ps.bind q g) where
  bad r hr := ⟨((k _).bad _ (h.bad r hr).1).1, ((k _).bad _ (h.bad r hr).2).2⟩
  good r hr := by
    rcases h.good r hr with e | ⟨h1, h2⟩
    · cases hb : (p r).2.bad with
      | true =>
        refine .inr ⟨((k _).bad _ hb).1, ?_⟩
        show (g (q r).1 (q r).2).2.bad = true
        rw [e]
        exact ((k _).bad _ hb).2
      | false =>
        rcases (k (p r).1).good (p r).2 hb with e2 | e2
        · left
          show g (q r).1 (q r).2 = f (p r).1 (p r).2
          rw [e, e2]
        · right
          refine ⟨e2.1, ?_⟩
          show (g (q r).1 (q r).2).2.bad = true
          rw [e]
          exact e2.2
    · exact .inr ⟨((k _).bad _ h1).1, ((k _).bad _ h2).2⟩
theorem Sim.many {α : Type} {p q : Ps α} (h : Sim p q) : ∀ n, Sim (many p n) (many q n)
  | 0 => ⟨fun _ h => ⟨h, h⟩, fun _ _ => .inl rfl⟩
  | n + 1 => by
    have ih := Sim.many h n
    refine ⟨fun r hr => ?_, fun r hr => ?_⟩
    · rw [many_bad p _ hr, many_bad q _ hr]
      exact ⟨hr, hr⟩
    · have e1 : Proofs.YtdhdbmfipkppiaaGreat.many p (n + 1) r = ((p r).1 :: (Proofs.YtdhdbmfipkppiaaGreat.many p n (p r).2).1, (Proofs.YtdhdbmfipkppiaaGreat.many p n (p r).2).2) := by simp [Proofs.YtdhdbmfipkppiaaGreat.many, hr]
      have e2 : Proofs.YtdhdbmfipkppiaaGreat.many q (n + 1) r = ((q r).1 :: (Proofs.YtdhdbmfipkppiaaGreat.many q n (q r).2).1, (Proofs.YtdhdbmfipkppiaaGreat.many q n (q r).2).2) := by simp [Proofs.YtdhdbmfipkppiaaGreat.many, hr]
      rw [e1, e2]
      rcases h.good r hr with e | ⟨h1, h2⟩
      · rw [e]
        cases hb : (p r).2.bad with
        | true => exact .inr (ih.bad _ hb)
        | false =>
          rcases ih.good _ hb with e3 | e3
          · left; rw [e3]
          · exact .inr e3
      · exact .inr ⟨(ih.bad _ h1).1, (ih.bad _ h2).2⟩
theorem nNum_bad (n : Nat) {r : Rd} (h : r.bad = true) : nNum n r = (0, ⟨r.l, true⟩) := by
  unfold nNum
  rw [if_pos (.inl h)]
theorem nxt_bad (n : Nat) {r : Rd} (h : r.bad = true) : (nxt n r).2.bad = true := by
  unfold nxt
  split
  · rfl
  · exact h
theorem sim_num (n : Nat) (f : List Int → Int) (hf : ∀ l : List Int, l.length = n → f l = numB l) : Sim (.bind (nxt n) fun l => .ret (f l)) (nNum n) where
  bad r h := ⟨nxt_bad n h, by rw [nNum_bad n h]⟩
  good r h := by
    by_cases hl : r.l.length < n
    · right
      refine ⟨?_, ?_⟩
      · show (nxt n r).2.bad = true
        unfold nxt
        rw [if_pos hl]
      · unfold nNum
        rw [if_pos (.inr hl)]
    · left
      show nNum n r = (f (nxt n r).1, (nxt n r).2)
      unfold nNum nxt
      rw [if_neg (by rw [h]; simp; omega), if_neg hl, hf _ (by rw [List.length_take]; omega)]
theorem sim_one : Sim pOne (nNum 1) := sim_num 1 _ fun l hl => by
  obtain ⟨a, rfl⟩ := list1 hl
  simp [numB]
theorem sim_two : Sim pTwo (nNum 2) := sim_num 2 _ fun l hl => by
  obtain ⟨a, b, rfl⟩ := list2 hl
  simp [numB]
theorem sim_zero : Sim pZero (qS 1) := by
  have e : s8 = sgn 1 := by
    funext x
    simp only [s8, sgn, show (2 : Int) ^ (8 * 1 - 1) = 128 from rfl, show (2 : Int) ^ (8 * 1) = 256 from rfl]
    split <;> split <;> omega
  unfold pZero qS
  rw [e]
  exact sim_one.bind fun _ => .ret _
theorem sim_four : Sim pFour (qS 4) := by
  have e : s32 = sgn 4 := by
    funext x
    simp only [s32, sgn, show (2 : Int) ^ (8 * 4 - 1) = 2147483648 from rfl, show (2 : Int) ^ (8 * 4) = 4294967296 from rfl]
    split <;> split <;> omega
  have h := (sim_num 4 (fun l : List Int => 16777216 * l[0]?.getD 0 + 65536 * l[1]?.getD 0 + 256 * l[2]?.getD 0 + l[3]?.getD 0) (fun l hl => by
    obtain ⟨a, b, c, d, rfl⟩ := list4 hl
    simp [numB]
    omega)).bind fun x => Sim.ret (s32 x)
  unfold qS
  rw [← e]
  exact h
theorem sim_shape : Sim pShape qShape where
  bad r h := by
    refine ⟨nxt_bad 3 h, ?_⟩
    simp [qShape, Ps.bind, Ps.ret, nNum_bad _ h, nNum_bad 1 (r := ⟨_, true⟩) rfl]
  good r h := by
    obtain ⟨l, b⟩ := r
    simp only at h
    subst h
    match l with
    | [] => right; simp [pShape, qShape, Ps.bind, Ps.ret, nxt, nNum]
    | [a] => right; simp [pShape, qShape, Ps.bind, Ps.ret, nxt, nNum]
    | [a, b] => right; simp [pShape, qShape, Ps.bind, Ps.ret, nxt, nNum]
    | a :: b :: c :: t =>
      left
      have e : ¬ t.length + 1 + 1 + 1 < 3 := by omega
      simp [pShape, qShape, Ps.bind, Ps.ret, nxt, nNum, numB, e]
theorem sim_pmany {α : Type} {c d : Ps Int} {p q : Ps α} (h : Sim c d) (k : Sim p q) : Sim (pMany c p) (pMany d q) := h.bind fun _ => k.many _
theorem sim_vl : Sim pVl qVl := sim_shape.bind fun _ => sim_zero.bind fun _ => .ret _
theorem sim_nums : Sim (pMany pOne pOne) qNums := sim_pmany sim_one sim_one
theorem sim_node : Sim pNode qNode := sim_one.bind fun _ => sim_nums.bind fun _ => sim_one.bind fun _ => sim_one.bind fun _ => sim_one.bind fun _ => sim_one.bind fun _ =>
  sim_two.bind fun _ => sim_one.bind fun _ => sim_zero.bind fun _ => sim_shape.bind fun _ => (sim_pmany sim_two sim_zero).bind fun _ => (sim_pmany sim_one sim_four).bind fun _ => .ret _
theorem sim_graph : Sim pGraph qGraph := (sim_pmany sim_one sim_vl).bind fun _ => (sim_pmany sim_one sim_node).bind fun _ => sim_nums.bind fun _ => .ret _

/-- What the reference takes these bytes as. -/
theorem taken_q (bs : List Int) : taken bs = if (qGraph ⟨bs, false⟩).2.bad = false ∧ (qGraph ⟨bs, false⟩).1.err = 0 ∧ encG (qGraph ⟨bs, false⟩).1 = bs.take (bs.length - (qGraph ⟨bs, false⟩).2.l.length) then
    some ((qGraph ⟨bs, false⟩).1, bs.length - (qGraph ⟨bs, false⟩).2.l.length) else none := by
  rcases sim_graph.good ⟨bs, false⟩ rfl with e | ⟨h1, h2⟩
  · rw [e]; rfl
  · unfold taken
    rw [if_neg (by rw [h1]; simp), if_neg (by rw [h2]; simp)]

theorem nNum_range {n : Nat} {r : Rd} (h : BytesL r.l) : 0 ≤ (nNum n r).1 ∧ (nNum n r).1 < 256 ^ n := by
  unfold nNum
  split
  · exact ⟨by show (0 : Int) ≤ 0; omega, by show (0 : Int) < 256 ^ n; exact Int.pow_pos (by decide)⟩
  · rename_i hc
    exact numB_range n _ (by rw [List.length_take]; simp at hc; omega) (fun z hz => h z (List.mem_of_mem_take hz))
theorem nNum_sub {n : Nat} {r : Rd} (h : BytesL r.l) : BytesL (nNum n r).2.l := by
  unfold nNum
  split
  · exact h
  · exact fun z hz => h z (List.mem_of_mem_drop hz)

end Go.Proofs.YtdhdbmfipkppiaaGreat

namespace Go.Proofs.YtdhdbmfipkppiaaGreat
open Go.RowKit

theorem R4.grown {w0 w W : World} {bs : List Int} {B : Nat} {r : Rd} {row : Option Nat} (h : R4 w0 w bs B r) (hg : w.grownBy W row) (hr : ∀ k, row = some k → k ≠ B ∧ w0.heap.size ≤ k) : R4 w0 W bs B r := by
  obtain ⟨⟨bv, a, h1, h2⟩, h3, h4, h5, h6⟩ := h
  exact ⟨⟨bv, a, h1.grown hg (fun e => (hr B e.symm).1 rfl), h2⟩, Below.grown h3 hg h3.size (fun k hk => (hr k hk).2), h4, h5, h6⟩
theorem R4.bad {w0 w : World} {bs : List Int} {B : Nat} {r : Rd} (h : R4 w0 w bs B r) : w.cell? ⟨B, 2, none⟩ = some (.bool r.bad) := by
  obtain ⟨⟨bv, a, h1, h2⟩, _⟩ := h
  exact h1.cell 2
theorem R4.lt {w0 w : World} {bs : List Int} {B : Nat} {r : Rd} (h : R4 w0 w bs B r) : B < w.heap.size := by
  obtain ⟨⟨bv, a, h1, h2⟩, _⟩ := h
  exact h1.lt

set_option maxRecDepth 8000 in
set_option maxHeartbeats 1600000 in
theorem signed_calls (w0 w : World) (bs : List Int) (B n : Nat) (r : Rd) (h : R4 w0 w bs B r) (hn : n = 1 ∨ n = 4) :
    Calls Tryz.prog 42 #[.pointer (some ⟨B, 0, none⟩), .int .i64 n] w (P4 (qS n) (.int .i64) w0 bs B r w) := by
  have hc := num_calls w0 w bs B n r h (by omega)
  have hr := nNum_range (n := n) h.sub
  have HP : Hid (∀ e w', (e = .returned (.int .i64 (sgn n (nNum n r).1)) ∧ R4 w0 w' bs B (nNum n r).2 ∧ w.grownBy w' (some B)) → P4 (qS n) (.int .i64) w0 bs B r w e w') := fun e w' h => h
  generalize P4 (qS n) (.int .i64) w0 bs B r w = PP at *
  unfold P4 at hc
  clear h
  generalize (nNum n r).1 = x at *
  generalize (nNum n r).2 = r2 at *
  obtain ⟨h1, h2⟩ := hr
  rcases hn with rfl | rfl
  · have h3 : x < 256 := h2
    have HS : Hid (sgn 1 x = if 128 ≤ x then x - 256 else x) := rfl
    clear h2
    go_enter Tryz.func42, Tryz.ntmps42
    go_wp2_with fail
    refine hc.mono ?_
    rintro e w1 ⟨rfl, k1, k2⟩
    by_cases hx : 128 ≤ x
    · have HX := Lib.hid hx
      go_wp2_with fail
      exact HP.out _ _ ⟨by rw [HS.out, if_pos HX.out]; rfl, k1, k2⟩
    · have HX := Lib.hid hx
      go_wp2_with fail
      exact HP.out _ _ ⟨by rw [HS.out, if_neg (Int.not_le.2 HX.out)]; rfl, k1, k2⟩
  · have h3 : x < 4294967296 := h2
    have HS : Hid (sgn 4 x = if 2147483648 ≤ x then x - 4294967296 else x) := rfl
    clear h2
    go_enter Tryz.func42, Tryz.ntmps42
    go_wp2_with fail
    refine hc.mono ?_
    rintro e w1 ⟨rfl, k1, k2⟩
    by_cases hx : 2147483648 ≤ x
    · have HX := Lib.hid hx
      go_wp2_with fail
      exact HP.out _ _ ⟨by rw [HS.out, if_pos HX.out]; rfl, k1, k2⟩
    · have HX := Lib.hid hx
      go_wp2_with fail
      exact HP.out _ _ ⟨by rw [HS.out, if_neg (Int.not_le.2 HX.out)]; rfl, k1, k2⟩

set_option maxRecDepth 8000 in
set_option maxHeartbeats 1600000 in
theorem shape4_calls (w0 w : World) (bs : List Int) (B : Nat) (r : Rd) (h : R4 w0 w bs B r) :
    Calls Tryz.prog 41 #[.pointer (some ⟨B, 0, none⟩)] w (P4 qShape Sz.v w0 bs B r w) := by
  obtain ⟨⟨a1, r1⟩, e1⟩ : ∃ x, nNum 1 r = x := ⟨_, rfl⟩
  obtain ⟨⟨a2, r2⟩, e2⟩ : ∃ x, nNum 1 r1 = x := ⟨_, rfl⟩
  obtain ⟨⟨a3, r3⟩, e3⟩ : ∃ x, nNum 1 r2 = x := ⟨_, rfl⟩
  have HV : qShape r = (⟨a1, a2, a3⟩, r3) := by simp only [qShape, Ps.bind, Ps.ret, e1, e2, e3]
  have HP : Hid (∀ e w', (e = .returned (.agg #[.int .i64 a1, .int .i64 a2, .int .i64 a3]) ∧ R4 w0 w' bs B r3 ∧ w.grownBy w' (some B)) → P4 qShape Sz.v w0 bs B r w e w') := fun e w' h => by unfold P4; rw [HV]; exact h
  generalize P4 qShape Sz.v w0 bs B r w = PP at *
  clear HV
  have hE1 := ext_alloc w (.cells #[.int .i64 0, .int .i64 0, .int .i64 0] 39)
  have hb := Blk.new w #[.int .i64 0, .int .i64 0, .int .i64 0] 39
  have hBw := h.lt
  have hc1 := num_calls w0 _ bs B 1 r (h.later hE1) (by omega)
  unfold P4 at hc1
  rw [e1] at hc1
  clear h
  go_enter Tryz.func41, Tryz.ntmps41
  go_wp2_with fail
  generalize w.alloc _ = w1 at *
  refine hc1.mono ?_
  rintro e w2 ⟨rfl, k1, g1⟩
  have hc2 := num_calls w0 _ bs B 1 r1 k1 (by omega)
  unfold P4 at hc2
  rw [e2] at hc2
  clear hc1
  go_wp2_with fail
  refine hc2.mono ?_
  rintro e w3 ⟨rfl, k2, g2⟩
  have hc3 := num_calls w0 _ bs B 1 r2 k2 (by omega)
  unfold P4 at hc3
  rw [e3] at hc3
  clear hc2
  go_wp2_with fail
  refine hc3.mono ?_
  rintro e w4 ⟨rfl, k3, g3⟩
  have hb4 := ((hb.grown g1 (by simp; omega)).grown g2 (by simp; omega)).grown g3 (by simp; omega)
  have hG : w.grownBy (w4.setRow w.heap.size #[.int .i64 a1, .int .i64 a2, .int .i64 a3]) (some B) :=
    Fr.toGrown (((((Fr.ext (lo := w.heap.size) (B := B) hE1).trans (Fr.grown g1 (fun k hk => .inl (by cases hk; rfl)))).trans (Fr.grown g2 (fun k hk => .inl (by cases hk; rfl)))).trans (Fr.grown g3 (fun k hk => .inl (by cases hk; rfl)))).trans (Fr.grown (setRow_grown w4 w.heap.size _) (fun k hk => .inr (by cases hk; exact Nat.le_refl _)))) (Nat.le_refl _)
  have hR : R4 w0 (w4.setRow w.heap.size #[.int .i64 a1, .int .i64 a2, .int .i64 a3]) bs B r3 := k3.grown (setRow_grown w4 w.heap.size _) (fun k hk => by cases hk; have := k3.hB; omega)
  clear hc3 hb g1 g2 g3 k1 k2 k3
  go_wp2_with (refine wpList_store_row rfl 39 _ _ rfl w.heap.size #[.int .i64 a1, .int .i64 a2, .int .i64 a3] rfl rfl 39 _ hb4 (by kernel_rfl) rfl (by simp [Value.oneCell']) ?_)
  refine bodyPost_ret (v := .agg _) (results_cell_row Tryz.results41 _ _ w.heap.size 39 _ (0, 0) _ rfl (setRow_heap _ _ _ _ _ _ hb4) (by kernel_rfl : Tryz.prog.underlying 39 = some (.struct (Tryz.prog.fieldsOf 39))) rfl (by kernel_rfl)) rfl ?_
  exact HP.out _ _ ⟨rfl, hR, hG⟩

def NumsPost (w0 : World) (bs : List Int) (B : Nat) (r : Rd) (w : World) (e : Ending) (w' : World) : Prop :=
  ∃ v, e = .returned v ∧ w'.ownsRow w.heap.size 3 1 v (qNums r).1.length ((qNums r).1.map (.int .i64)) ∧ R4 w0 w' bs B (qNums r).2 ∧ w.grownBy w' (some B) ∧ (qNums r).1.length ≤ 255

set_option maxRecDepth 8000 in
set_option maxHeartbeats 1600000 in
theorem nums_calls (w0 w : World) (bs : List Int) (B : Nat) (r : Rd) (h : R4 w0 w bs B r) :
    Calls Tryz.prog 44 #[.pointer (some ⟨B, 0, none⟩)] w (NumsPost w0 bs B r w) := by
  have hc1 := num_calls w0 _ bs B 1 r h (by omega)
  have hrg := nNum_range (n := 1) h.sub
  have hBw := h.lt
  unfold P4 at hc1
  have HV : qNums r = many (nNum 1) (nNum 1 r).1.toNat (nNum 1 r).2 := rfl
  obtain ⟨⟨x, r1⟩, e1⟩ : ∃ x, nNum 1 r = x := ⟨_, rfl⟩
  rw [e1] at hc1 hrg HV
  simp only at hc1 hrg HV
  obtain ⟨hx1, hx2⟩ := hrg
  obtain ⟨n, rfl⟩ := Int.eq_ofNat_of_zero_le hx1
  rw [Int.toNat_natCast] at HV
  have hn : n < 256 := by have : (n : Int) < 256 := hx2; omega
  clear hx1 hx2 h e1
  obtain ⟨⟨L, r9⟩, e9⟩ : ∃ x, many (nNum 1) n r1 = x := ⟨_, rfl⟩
  have hL := many_len (nNum 1) n r1
  rw [e9] at HV hL
  have HP : Hid (∀ e w', (∃ v, e = .returned v ∧ w'.ownsRow w.heap.size 3 1 v L.length (L.map (.int .i64)) ∧ R4 w0 w' bs B r9 ∧ w.grownBy w' (some B)) → NumsPost w0 bs B r w e w') := fun e w' h => by
    unfold NumsPost
    rw [HV]
    obtain ⟨v, h1, h2, h3, h4⟩ := h
    exact ⟨v, h1, h2, h3, h4, by simp only at hL ⊢; omega⟩
  generalize NumsPost w0 bs B r w = PP at *
  clear HV hL
  have HE := Lib.hid e9
  clear e9
  go_enter Tryz.func44, Tryz.ntmps44
  go_wp2_with fail
  refine hc1.mono ?_
  rintro e w2 ⟨rfl, k1, g1⟩
  clear hc1
  go_upto_region 4 with fail
  have hE3 := ext_alloc w2 (.cells #[] 3)
  have hown : (w2.alloc (.cells #[] 3)).ownsRow w.heap.size 3 1 (.slice (some ⟨w2.heap.size, 0, none⟩) 0 0) 0 [] :=
    ⟨rfl, .inr ⟨w2.heap.size, 0, #[], rfl, g1.size, heap_alloc_new w2 _, Nat.le_refl _, by unfold maxLen; omega, rfl, rfl⟩⟩
  have hF := (Fr.grown (lo := w.heap.size) (B := B) g1 (fun k hk => .inl (by cases hk; rfl))).trans (Fr.ext hE3)
  have hR := k1.later hE3
  clear k1 g1 hE3
  generalize w2.alloc _ = w3 at *
  go_upto_region 4 with fail
  go_loopw [4, 5] (fun u0 i wr => ∃ (u : Value) (k : Nat) (zs : List Int) (r' : Rd), u = u0 ∧ k ≤ n ∧ i = .int .i64 k ∧ R4 w0 wr bs B r' ∧ wr.ownsRow w.heap.size 3 1 u k (zs.map (.int .i64)) ∧ zs.length = k ∧ Fr w.heap.size B w wr ∧ w.heap.size ≤ wr.heap.size ∧ many (nNum 1) n r1 = (zs ++ (many (nNum 1) (n - k) r').1, (many (nNum 1) (n - k) r').2)) (fun _ i _ => n - (intOf i).toNat)
  case atStart => exact ⟨_, 0, [], r1, rfl, by omega, rfl, hR, hown, rfl, hF, hF.size, by simp⟩
  case round =>
    clear hR hown hF
    obtain ⟨u, k, zs, r', rfl, hk, rfl, hR, hown, hzl, hF, hsz, hm⟩ := hrel
    have HM := Lib.hid hm
    have hbad := hR.bad
    clear hm
    by_cases hlt : k < n
    · cases hb : r'.bad with
      | true =>
        rw [hb] at hbad
        have hfin : zs = L ∧ r' = r9 := by
          have h1 := HM.out
          rw [many_bad _ _ hb, HE.out] at h1
          simp only [List.append_nil, Prod.mk.injEq] at h1
          exact ⟨h1.1.symm, h1.2.symm⟩
        obtain ⟨rfl, rfl⟩ := hfin
        go_wp2_with fail
        exact HP.out _ _ ⟨_, rfl, by rw [hzl]; exact hown, hR, hF.toGrown (Nat.le_refl _)⟩
      | false =>
        rw [hb] at hbad
        have hcn := num_calls w0 _ bs B 1 r' hR (by omega)
        unfold P4 at hcn
        have hM2 : many (nNum 1) n r1 = ((zs ++ [(nNum 1 r').1]) ++ (many (nNum 1) (n - (k + 1)) (nNum 1 r').2).1, (many (nNum 1) (n - (k + 1)) (nNum 1 r').2).2) := by
          rw [HM.out, show n - k = (n - (k + 1)) + 1 from by omega, many, if_neg (by rw [hb]; simp)]
          simp
        have HM2 := Lib.hid hM2
        clear hM2 HM
        generalize (nNum 1 r').1 = z at *
        generalize (nNum 1 r').2 = r2 at *
        have hzs : (zs ++ [z]).length = k + 1 := by simp [hzl]
        have HZ := Lib.hid hzs
        clear hzs hzl
        go_wp2_with fail
        refine hcn.mono ?_
        rintro e w4 ⟨rfl, k1, g1⟩
        clear hcn hbad hR
        have hBb : B < w.heap.size := hBw
        have hown4 := World.ownsRow.kept hown g1 (.inr fun e => by have := (hown.lt _ e).1; omega)
        have hF4 := hF.trans (Fr.grown (lo := w.heap.size) (B := B) g1 (fun k hk => .inl (by cases hk; rfl)))
        have hs4 := Nat.le_trans hsz g1.size
        have hE5 := ext_alloc w4 (.cells #[.int .i64 z] 3)
        have hnew := row_new w4 #[.int .i64 z] 3 1 1 rfl (by decide)
        have hown5 : (w4.alloc (.cells #[.int .i64 z] 3)).ownsRow w.heap.size 3 1 u k (zs.map (.int .i64)) := World.ownsRow.kept (row := none) hown4 (grown_of_ext hE5) (by cases u.ownBlock <;> simp)
        have hR5 := k1.later hE5
        have hF5 := hF4.trans (Fr.ext hE5)
        have hs5 := Nat.le_trans hs4 hE5.size
        have hone : ∀ u ∈ #[Value.int .i64 z].toList, u.oneCell' = true := by intro u hu; simp at hu; subst hu; rfl
        have hk1 : k + 1 ≤ 140737488355328 := by omega
        have hk2 : (k + 1) * 8 ≤ 140737488355328 := by omega
        have hw0B := k1.hB
        clear k1 g1 hown4 hF4 hs4 hE5 hown hF hsz
        go_wp2_with (at_builtin; refine wpList_append_row rfl rfl elem_i64 hown5 rfl hnew rfl hone hk1 hk2 hs5 ?_; intro v6 w6 ho hgr hn)
        have hR6 := hR5.grown hgr (fun k hk => by have := (hown5.lt _ hk).1; omega)
        have hF6 := hF5.trans (Fr.grown (lo := w.heap.size) (B := B) hgr (fun k hk => .inr (hown5.lt _ hk).1))
        have hs6 := Nat.le_trans hs5 hgr.size
        have ho6 : w6.ownsRow w.heap.size 3 1 v6 (k + 1) ((zs ++ [z]).map (.int .i64)) := by simpa using ho
        clear hR5 hF5 hs5 hown5 ho hgr hn hnew
        go_roundw
        case rel => exact ⟨_, k + 1, zs ++ [z], r2, rfl, by omega, by go_num, hR6, ho6, HZ.out, hF6, hs6, HM2.out⟩
        case measure => simp [intOf]; omega
    · have hfin : zs = L ∧ r' = r9 := by
        have h1 := HM.out
        rw [show n - k = 0 from by omega, many, HE.out] at h1
        simp only [List.append_nil, Prod.mk.injEq] at h1
        exact ⟨h1.1.symm, h1.2.symm⟩
      obtain ⟨rfl, rfl⟩ := hfin
      go_wp2_with fail
      exact HP.out _ _ ⟨_, rfl, by rw [hzl]; exact hown, hR, hF.toGrown (Nat.le_refl _)⟩

end Go.Proofs.YtdhdbmfipkppiaaGreat

namespace Go.Proofs.YtdhdbmfipkppiaaGreat
open Go.RowKit

/-- A reader, a block for the result, a block that is built, and rows of the call's own. -/
structure C4 (w0 W : World) (ys : List Int) (B b2 b3 : Nat) (r : Rd) (c2 cs : Array Value) (T : TypeId) (l : List RowF) : Prop where
  rd : R4 w0 W ys B r
  rb : Blk W b2 c2 T
  nb : Blk W b3 cs T
  own : OwnAll W (b3 + 1) l
  lt : B < b3 ∧ b2 < b3 ∧ B ≠ b2 ∧ w0.heap.size ≤ b3

section
variable {w0 W W' : World} {ys : List Int} {B b2 b3 : Nat} {r : Rd} {c2 cs : Array Value} {T : TypeId} {l : List RowF}
theorem C4.ext (h : C4 w0 W ys B b2 b3 r c2 cs T l) (e : Ext W W') : C4 w0 W' ys B b2 b3 r c2 cs T l := ⟨h.rd.later e, h.rb.ext e, h.nb.ext e, h.own.ext e, h.lt⟩
theorem C4.read {r' : Rd} (h : C4 w0 W ys B b2 b3 r c2 cs T l) (hr : R4 w0 W' ys B r') (hg : W.grownBy W' (some B)) : C4 w0 W' ys B b2 b3 r' c2 cs T l :=
  ⟨hr, h.rb.grown hg (by have := h.lt; simp; omega), h.nb.grown hg (by have := h.lt; simp; omega), h.own.grown hg (by have := h.lt; omega), h.lt⟩
theorem C4.keeps (h : C4 w0 W ys B b2 b3 r c2 cs T l) (hg : W.grownBy W' (some B)) : Keeps [b3] W W' := Keeps.grown hg fun k hk => by
  have h2 := h.nb.lt
  have h3 := h.lt
  obtain rfl := List.mem_singleton.1 hk
  exact ⟨h2, by simp; omega⟩
theorem C4.keepsE (h : C4 w0 W ys B b2 b3 r c2 cs T l) (hg : Ext W W') : Keeps [b3] W W' := Keeps.below hg fun k hk => by
  have h2 := h.nb.lt
  obtain rfl := List.mem_singleton.1 hk
  exact h2
theorem C4.keepsR {x : RowF} (h : C4 w0 W ys B b2 b3 r c2 cs T (x :: l)) (hg : W.grownBy W' x.v.ownBlock) : Keeps [b3] W W' := Keeps.grown hg fun k hk => by
  have h2 := h.nb.lt
  have h4 := h.own.own x (by simp)
  obtain rfl := List.mem_singleton.1 hk
  exact ⟨h2, fun e => by have := (h4.lt _ e.symm).1; omega⟩
/-- An element more, and the row stored. -/
theorem C4.push {x : RowF} {v' : Value} {n' : Nat} {xs' : List Value} (h : C4 w0 W ys B b2 b3 r c2 cs T (x :: l)) (ho : W'.ownsRow (b3 + 1) x.e x.sz v' n' xs') (hg : W.grownBy W' x.v.ownBlock) (hn : Near W x.v v') (i : Nat) :
    C4 w0 (W'.setCell ⟨b3, i, none⟩ v') ys B b2 b3 r c2 (cs.setIfInBounds i v') T (⟨x.e, x.sz, v', n', xs'⟩ :: l) ∧ Fr b3 B W (W'.setCell ⟨b3, i, none⟩ v') ∧ b3 < W'.heap.size ∧ W'.frozen? ⟨b3, i, none⟩ = false ∧ W'.cell? ⟨b3, i, none⟩ = cs[i]? := by
  have h3 := h.lt
  have h4 := h.own.own x (by simp)
  have hx : ∀ k, x.v.ownBlock = some k → b3 + 1 ≤ k := fun k e => (h4.lt _ e).1
  have hne : ∀ k, k ≤ b3 → some k ≠ x.v.ownBlock := fun k hk e => by have := hx k e.symm; omega
  have n1 := h.nb.grown hg (hne b3 (Nat.le_refl _))
  have hs := setCell_grown W' b3 i v'
  refine ⟨⟨?_, ?_, n1.set i v', (h.own.push ho hg hn).setCell (by omega), h3⟩, ?_, n1.lt, n1.frozen i, n1.cell i⟩
  · exact (h.rd.grown hg (fun k hk => by have := hx k hk; omega)).grown hs (fun k hk => by cases hk; omega)
  · exact (h.rb.grown hg (hne b2 (by omega))).grown hs (by simp; omega)
  · exact (Fr.grown hg (fun k hk => .inr (by have := hx k hk; omega))).trans (Fr.grown hs (fun k hk => .inr (by cases hk; omega)))
/-- A number stored. -/
theorem C4.store (h : C4 w0 W ys B b2 b3 r c2 cs T l) (j : Nat) (u : Value) : C4 w0 (W.setCell ⟨b3, j, none⟩ u) ys B b2 b3 r c2 (cs.setIfInBounds j u) T l ∧ Fr b3 B W (W.setCell ⟨b3, j, none⟩ u) := by
  have hs := setCell_grown W b3 j u
  have h3 := h.lt
  exact ⟨⟨h.rd.grown hs (fun k hk => by cases hk; omega), h.rb.grown hs (by simp; omega), h.nb.set j u, h.own.setCell (by omega), h3⟩, Fr.grown hs (fun k hk => .inr (by cases hk; omega))⟩
theorem C4.join {r' : Rd} {l' : List RowF} (h0 : C4 w0 W ys B b2 b3 r c2 cs T l) (h1 : C4 w0 W' ys B b2 b3 r' c2 cs T l) (ho : OwnAll W' W.heap.size l') : C4 w0 W' ys B b2 b3 r' c2 cs T (l ++ l') := by
  have hb := h0.nb.lt
  refine ⟨h1.rd, h1.rb, h1.nb, ⟨fun x hx => ?_, ?_⟩, h1.lt⟩
  · rcases List.mem_append.1 hx with hx | hx
    · exact h1.own.own x hx
    · exact (ho.lower (base' := b3 + 1) (by omega)).own x hx
  · refine List.pairwise_append.2 ⟨h1.own.sep, ho.sep, fun x hx y hy k hk e => ?_⟩
    have k1 := ((h0.own.own x hx).lt k hk).2
    have k2 := ((ho.own y hy).lt k e).1
    omega
theorem C4.perm {l' : List RowF} (h : C4 w0 W ys B b2 b3 r c2 cs T l) (hp : l.Perm l') : C4 w0 W ys B b2 b3 r c2 cs T l' := ⟨h.rd, h.rb, h.nb, h.own.perm hp, h.lt⟩
end

theorem one_own {W : World} {base : Nat} {x : RowF} (h : W.ownsRow base x.e x.sz x.v x.n x.xs) : OwnAll W base [x] := ⟨fun y hy => by obtain rfl := List.mem_singleton.1 hy; exact h, List.pairwise_singleton _ _⟩

theorem qNode_eq {r r1 r3 r4 r5 r6 r7 r8 r9 r10 r11 r12 r13 r14 r15 : Rd} {op k st pad out mul sh zero c2 c3 : Int} {t : Sz} {ins ws bs : List Int}
    (h0 : nNum 1 r = (op, r1)) (h1 : qNums r1 = (ins, r3)) (h3 : nNum 1 r3 = (k, r4)) (h4 : nNum 1 r4 = (st, r5)) (h5 : nNum 1 r5 = (pad, r6)) (h6 : nNum 1 r6 = (out, r7)) (h7 : nNum 2 r7 = (mul, r8))
    (h8 : nNum 1 r8 = (sh, r9)) (h9 : qS 1 r9 = (zero, r10)) (h10 : qShape r10 = (t, r11)) (h11 : nNum 2 r11 = (c2, r12)) (h12 : many (qS 1) c2.toNat r12 = (ws, r13)) (h13 : nNum 1 r13 = (c3, r14)) (h14 : many (qS 4) c3.toNat r14 = (bs, r15)) :
    qNode r = (⟨op, k, st, pad, out, mul, sh, zero, t.h, t.w, t.c, ins, ws, bs⟩, r15) := by
  simp only [qNode, pMany, Ps.bind, Ps.ret, h0, h1, h3, h4, h5, h6, h7, h8, h9, h10, h11, h12, h13, h14]

theorem qS_all {n : Nat} {r : Rd} (h : BytesL r.l) (hn : n = 1 ∨ n = 4) : (n = 1 → InK .i8 (qS n r).1) ∧ (n = 4 → InK .i32 (qS n r).1) ∧ BytesL (qS n r).2.l := by
  have h1 := nNum_range (n := n) h
  refine ⟨?_, ?_, nNum_sub h⟩
  · rintro rfl
    show InK .i8 (sgn 1 (nNum 1 r).1)
    have h2 : (nNum 1 r).1 < 256 := h1.2
    simp only [sgn, show (2 : Int) ^ (8 * 1 - 1) = 128 from rfl, show (2 : Int) ^ (8 * 1) = 256 from rfl, InK]
    have h3 := h1.1
    split <;> omega
  · rintro rfl
    show InK .i32 (sgn 4 (nNum 4 r).1)
    have h2 : (nNum 4 r).1 < 4294967296 := h1.2
    simp only [sgn, show (2 : Int) ^ (8 * 4 - 1) = 2147483648 from rfl, show (2 : Int) ^ (8 * 4) = 4294967296 from rfl, InK]
    have h3 := h1.1
    split <;> omega
theorem q8_all {r : Rd} (h : BytesL r.l) : InK .i8 (qS 1 r).1 ∧ BytesL (qS 1 r).2.l := ⟨(qS_all h (.inl rfl)).1 rfl, (qS_all h (.inl rfl)).2.2⟩
theorem q32_all {r : Rd} (h : BytesL r.l) : InK .i32 (qS 4 r).1 ∧ BytesL (qS 4 r).2.l := ⟨(qS_all h (.inr rfl)).2.1 rfl, (qS_all h (.inr rfl)).2.2⟩

/-- A round more of a parse. -/
theorem many_more {α : Type} {p : Ps α} {n k : Nat} {r r' : Rd} {zs : List α} (h : many p n r = (zs ++ (many p (n - k) r').1, (many p (n - k) r').2)) (hk : k < n) (hb : r'.bad = false) :
    many p n r = ((zs ++ [(p r').1]) ++ (many p (n - (k + 1)) (p r').2).1, (many p (n - (k + 1)) (p r').2).2) := by
  rw [h, show n - k = (n - (k + 1)) + 1 from by omega, many, if_neg (by rw [hb]; simp)]
  simp
theorem many_stop {α : Type} {p : Ps α} {n k : Nat} {r r' r9 : Rd} {zs L : List α} (h : many p n r = (zs ++ (many p (n - k) r').1, (many p (n - k) r').2)) (hs : n ≤ k ∨ r'.bad = true) (e : many p n r = (L, r9)) : zs = L ∧ r' = r9 := by
  rw [e] at h
  rcases hs with hs | hs
  · rw [show n - k = 0 from by omega, many] at h
    simp only [List.append_nil, Prod.mk.injEq] at h
    exact ⟨h.1.symm, h.2.symm⟩
  · rw [many_bad _ _ hs] at h
    simp only [List.append_nil, Prod.mk.injEq] at h
    exact ⟨h.1.symm, h.2.symm⟩

def Node4Post (w0 : World) (ys : List Int) (B : Nat) (r : Rd) (w : World) (e : Ending) (w' : World) : Prop :=
  ∃ n : Nd, e = .returned (.agg #[.int .i64 n.op, n.inV, .int .i64 n.k, .int .i64 n.st, .int .i64 n.pad, .int .i64 n.out, .int .i64 n.mul, .int .i64 n.sh, .int .i64 n.zero, .int .i64 n.th, .int .i64 n.tw, .int .i64 n.tc, n.wV, n.bV]) ∧ n.c = (qNode r).1 ∧ R4 w0 w' ys B (qNode r).2 ∧ w.grownBy w' (some B) ∧ OwnAll w' w.heap.size (rowsN n) ∧ NdFit n

end Go.Proofs.YtdhdbmfipkppiaaGreat
