/- The walk of the law ModelOnce. -/
import Derived.Test.YtdhdbmfipkppiaaModBack
namespace Go.Proofs.Ytdhdbmfipkppiaa
set_option linter.unusedSimpArgs false
set_option linter.unusedVariables false
set_option linter.unnecessarySimpa false
open Go.RowKit

theorem ints_set {W : World} {b off n c : Nat} {zs : List Int} (h : Ints .u8 W (.slice (some ⟨b, off, none⟩) n c) zs) {k : Nat} (hk : k < zs.length) (x : Int) :
    Ints .u8 (W.setCell ⟨b, off + k, none⟩ (.int .u8 x)) (.slice (some ⟨b, off, none⟩) n c) (zs.set k x) := by
  obtain ⟨A, c', e, h1, h2, h3, h4⟩ := h
  cases e
  refine ⟨_, _, by rw [List.length_set], by rw [List.length_set]; exact h1, h2, by simp, fun j u hj => ⟨b, off, rfl, ?_⟩⟩
  by_cases hjk : j = k
  · subst hjk
    have hu : u = .int .u8 x := by
      rw [List.getElem?_map, List.getElem?_set_self hk] at hj
      simpa using hj.symm
    subst hu
    obtain ⟨b', o', e', hc⟩ := h4 j (.int .u8 zs[j]) (by simp [hk])
    cases e'
    exact World.cell?_setCell_same _ _ _ hc
  · have hu : (zs.map (Value.int .u8))[j]? = some u := by
      rw [List.getElem?_map, List.getElem?_set_ne (by omega)] at hj
      rw [List.getElem?_map]
      exact hj
    obtain ⟨b', o', e', hc⟩ := h4 j u hu
    cases e'
    rw [World.cell?_setCell_other _ _ _ _ (by simp; try omega)]
    exact hc

theorem xor_u8 (a b : Int) (ha : 0 ≤ a ∧ a ≤ 255) (hb : 0 ≤ b ∧ b ≤ 255) : (0 ≤ bits .xor .u8 a b ∧ bits .xor .u8 a b ≤ 255) ∧ (b ≠ 0 → bits .xor .u8 a b ≠ a) := by
  obtain ⟨x, rfl⟩ := Int.eq_ofNat_of_zero_le ha.1
  obtain ⟨y, rfl⟩ := Int.eq_ofNat_of_zero_le hb.1
  have hx : x < 2 ^ 8 := by omega
  have hy : y < 2 ^ 8 := by omega
  have hl := Nat.xor_lt_two_pow hx hy
  have e : bits .xor .u8 (x : Int) (y : Int) = ((x ^^^ y : Nat) : Int) := by
    show IntKind.u8.wrap ((BitVec.ofInt 8 (x : Int) ^^^ BitVec.ofInt 8 (y : Int)).toNat : Int) = _
    rw [BitVec.toNat_xor, BitVec.ofInt_natCast, BitVec.ofInt_natCast, BitVec.toNat_ofNat, BitVec.toNat_ofNat, Nat.mod_eq_of_lt hx, Nat.mod_eq_of_lt hy]
    generalize x ^^^ y = z at *
    simp [IntKind.wrap, IntKind.signed, IntKind.bits]
    omega
  rw [e]
  refine ⟨by omega, fun h0 h => h0 ?_⟩
  have h1 : x ^^^ y = x := by omega
  have h2 : x ^^^ (x ^^^ y) = x ^^^ x := by rw [h1]
  rw [← Nat.xor_assoc, Nat.xor_self, Nat.zero_xor] at h2
  omega

/-- A byte turned makes another graph, or none. -/
theorem once_ne {c : Gc} {k : Nat} {x : Int} (hk : k < (encG c).length) (hx : x ≠ (encG c)[k]) {c2 : Gc} {n2 : Nat} (h : taken ((encG c).set k x) = some (c2, n2)) : c ≠ c2 := by
  rintro rfl
  obtain ⟨_, h1, h2, _⟩ := taken_some h
  rw [List.length_set] at h2
  have h3 := congrArg List.length h1
  rw [List.length_take, List.length_set] at h3
  have h4 : n2 = (encG c).length := by omega
  rw [h4, List.take_of_length_le (by rw [List.length_set]; exact Nat.le_refl _)] at h1
  have h5 := congrArg (fun l : List Int => l[k]?) h1
  simp only [List.getElem?_set_self hk, List.getElem?_eq_getElem hk, Option.some.injEq] at h5
  exact hx h5.symm

theorem OwnG.grownHi {base c : Nat} {W0 W W' : World} {g : Gr} (h0 : OwnG base W0 g) (h : OwnG base W g) (hg : W.grownBy W' (some c)) (hc : W0.heap.size ≤ c) : OwnG base W' g :=
  ⟨⟨fun x hx => World.ownsRow.kept (h.own.own x hx) hg (.inr fun e => by have := ((h0.own.own x hx).lt _ e).2; omega), h.own.sep⟩, h.fit, h.il, h.nl, h.ol⟩

theorem bytes_set {l : List Int} (h : BytesL l) (k : Nat) {x : Int} (hx : 0 ≤ x ∧ x ≤ 255) : BytesL (l.set k x) := fun z hz => by
  rcases List.mem_or_eq_of_mem_set hz with h1 | rfl
  · exact h z h1
  · exact hx

set_option maxRecDepth 20000 in
set_option maxHeartbeats 12800000 in
theorem modelOnce_calls (v : Value) (zs : List Int) (at_ by_ : Int) (w : World) (hv : Ints .u8 w v zs) (hz0 : ∀ z ∈ zs, InK .u8 z) (hat : InK .i64 at_) (hby : InK .u8 by_) :
    Calls Try.prog 4 #[v, .int .i64 at_, .int .u8 by_] w fun e w' => e = .returned (.bool true) ∧ Below w.heap.size w w' := by
  have hsh := fun W => shown04_calls W
  have hst := fun W (e : Ext w W) => short_calls v zs W (hv.ext e)
  go_enter Try.func4, Try.ntmps4
  go_upto_region 2 with (go_at_call 14; refine (hsh _).mono ?_; rintro e w1 ⟨rfl, h1⟩)
  go_upto_region 3 with (go_at_call 18; refine (hst _ h1).mono ?_; rintro e w2 ⟨⟨u, rfl, hu0⟩, rfl⟩)
  clear hsh hst
  have hbs : BytesL (zs.take 20000) := fun z hz => hz0 z (List.mem_of_mem_take hz)
  have hlen : (zs.take 20000).length ≤ 20000 := by rw [List.length_take]; omega
  clear hz0 hv
  generalize zs.take 20000 = bs at *
  obtain ⟨A0, c0, rfl, hl1, hl2, _⟩ := id hu0.form
  unfold maxLen at hl2
  go_wp2_with (at_builtin; refine stopped ?_)
  refine wpList_append_fresh rfl rfl elem_u8 rfl hu0 rfl (one_ints _ _) (by omega) (by omega) ?_
  intro v3 w3 ho3 hE3
  have hE03 : Ext w w3 := h1.trans hE3
  have hu3 := hu0.ext hE3
  have htk := take_calls v3 bs w3 (ints_of_own ho3) hbs
  unfold TakePost at htk
  clear ho3 hE3 h1 hu0
  go_wp2_with fail
  refine htk.mono ?_
  rintro e w4 ⟨hn, hs, h4⟩
  clear htk
  cases ht : taken bs with
  | none =>
    have e1 := hn ht
    subst e1
    have hz := Blk.new w4 #[.slice none 0 0, .slice none 0 0, .slice none 0 0] 26
    have hQ : Ext w4 ((w4.alloc (.cells #[.slice none 0 0, .slice none 0 0, .slice none 0 0] 26)).setRow w4.heap.size #[.slice none 0 0, .slice none 0 0, .slice none 0 0]) := ext_setRow (ext_alloc _ _) _ (Nat.le_refl _)
    have hb4 : Blk ((w4.alloc (.cells #[.slice none 0 0, .slice none 0 0, .slice none 0 0] 26)).setRow w4.heap.size #[.slice none 0 0, .slice none 0 0, .slice none 0 0]) w4.heap.size #[.slice none 0 0, .slice none 0 0, .slice none 0 0] 26 := setRow_heap _ _ _ _ _ _ hz
    clear hn hs
    go_upto_region 4 with (refine wpList_store_row rfl 26 _ _ rfl w4.heap.size #[.slice none 0 0, .slice none 0 0, .slice none 0 0] rfl rfl 26 _ hz (by kernel_rfl) rfl (by simp [Value.oneCell']) ?_)
    have hE5 := (hE03.trans h4).trans hQ
    clear hz hQ h4
    generalize World.setRow (w4.alloc _) _ _ = w5 at *
    generalize w4.heap.size = b8 at *
    have d0 : World.cell? w5 ⟨b8, 0, none⟩ = some (.slice none 0 0) := hb4.cell 0
    go_wp2_with fail
    go_ret
    exact ⟨rfl, hE5⟩
  | some q =>
    obtain ⟨c, n⟩ := q
    obtain ⟨g, hgc, rfl, hG⟩ := hs c n ht
    obtain ⟨herr, henc, hnl, _⟩ := taken_some ht
    have hval : (valuesR g).2 = 0 := by rw [← err_eq, hgc]; exact herr
    have hz := Blk.new w4 #[.slice none 0 0, .slice none 0 0, .slice none 0 0] 26
    have hQ : Ext w4 ((w4.alloc (.cells #[.slice none 0 0, .slice none 0 0, .slice none 0 0] 26)).setRow w4.heap.size #[g.iV, g.nV, g.oV]) := ext_setRow (ext_alloc _ _) _ (Nat.le_refl _)
    have hb4 : Blk ((w4.alloc (.cells #[.slice none 0 0, .slice none 0 0, .slice none 0 0] 26)).setRow w4.heap.size #[g.iV, g.nV, g.oV]) w4.heap.size #[g.iV, g.nV, g.oV] 26 := setRow_heap _ _ _ _ _ _ hz
    have HOz := Lib.hid hG.one
    have hG5 := hG.ext hQ
    clear hn hs herr
    have HENC := Lib.hid henc
    have HTN := Lib.hid ht
    clear henc ht
    go_upto_region 4 with (refine wpList_store_row rfl 26 _ _ rfl w4.heap.size #[g.iV, g.nV, g.oV] rfl rfl 26 _ hz (by kernel_rfl) rfl HOz.out ?_)
    have hE5 := (hE03.trans h4).trans hQ
    have hu5 := (hu3.ext h4).ext hQ
    clear hG hQ hz h4 hE03 hu3 HOz
    generalize World.setRow (w4.alloc _) _ _ = w5 at *
    have HB8 : Hid (w4.heap.size < w5.heap.size) := hb4.lt
    generalize w4.heap.size = b8 at *
    have hpx := modelPut_calls g w5 hG5.at
    unfold PutPost at hpx
    rw [hval, hgc] at hpx
    have d0 : World.cell? w5 ⟨b8, 0, none⟩ = some g.iV := hb4.cell 0
    have d1 : World.cell? w5 ⟨b8, 1, none⟩ = some g.nV := hb4.cell 1
    have d2 : World.cell? w5 ⟨b8, 2, none⟩ = some g.oV := hb4.cell 2
    go_wp2_with fail
    refine hpx.mono ?_
    rintro e w6 ⟨hx0, _, h6⟩
    obtain ⟨vc, rfl, hoc⟩ := hx0 (by trivial)
    clear hx0 hpx d0 d1 d2 hval
    have hbe := encG_bytes c
    have hle : (encG c).length = n := by rw [HENC.out, List.length_take]; omega
    have HLE := Lib.hid hle
    clear hle
    have HON := Lib.hid (fun (k : Nat) (x : Int) (hk : k < (encG c).length) (hx : x ≠ (encG c)[k]) (c2 : Gc) (n2 : Nat) h => once_ne (c2 := c2) (n2 := n2) hk hx h)
    have hE6 := hE5.trans h6
    have hu6 := hu5.ext h6
    have hG6 := hG5.ext h6
    have hb6 := hb4.ext h6
    have hfst := Ints.first hu6 (m := n) hnl
    have hcv := strEq hbe (fun z hz => hbs z (List.mem_of_mem_take hz)) (zs := encG c) (ys := bs.take n)
    rw [decide_eq_true HENC.out] at hcv
    have hgt : decide ((bs.length : Int) < (n : Int)) = false := by simp; omega
    have hgt2 : decide (bs.length < n) = false := by simp; omega
    have hgt3 : decide ((n : Int) > (bs.length : Int)) = false := by simp; omega
    have q1 := conv_ext (P := Try.prog) hoc.ints (src := 29) (e := 5) (dst := 9) Try.underlying29 Try.underlying5 Try.underlying9
    have q2 := conv_ext (P := Try.prog) hfst (src := 29) (e := 5) (dst := 9) Try.underlying29 Try.underlying5 Try.underlying9
    generalize hce : encG c = ec at *
    obtain ⟨Ac, cc, eqc, hc1, hc2, hcc⟩ := id hoc.ints.form
    unfold maxLen at hc2
    subst eqc
    have hn0 : n ≤ c0 := by omega
    go_upto_region 7 with fail
    refine wp_region_X [0, 1, 2, 3, 4, 5, 6, 7, 8, 9, 10, 11, 12, 13, 14, 15, 16] [] (by kernel_rfl) (by kernel_rfl) (fun _ _ d _ _ h => by cases d <;> exact h) (fun w7 hE7 => ?_)
    have q1' := fun (W : World) (e : Ext w7 W) => q1 W (hE7.trans e)
    have q2' := fun (W : World) (e : Ext w7 W) => q2 W (hE7.trans e)
    clear q1 q2
    repeat (first | (refine wpP_pure rfl (by rfl) (fun W hW => by go_simp; with_reducible rfl) ?_; simp only [Act.put, List.setIfInBounds_toArray, List.set_cons_zero, List.set_cons_succ]) | (refine wpP_skip rfl (by rfl) ?_; simp only [Act.put, List.setIfInBounds_toArray, List.set_cons_zero, List.set_cons_succ]))
    refine ⟨trivial, fun W8 hR => ?_⟩
    simp only [rFin, envAt, TP.top, TP.mine, MP.top, MP.mine, MT.mine, MT.tied, MT.done, MT.is, List.map_cons, List.map_nil, true_implies, List.head?_cons, ME.is, MP.is, MP.done, ME.ints, ME.row, phi, dstAt, List.getElem?_cons_zero, List.getElem?_cons_succ, Option.bind_some, Act.put, List.setIfInBounds_toArray, List.set_cons_zero, List.set_cons_succ, and_true, forall_eq, reduceIte, Nat.reduceEqDiff, beq_iff_eq, Option.some.injEq, Bool.false_eq_true, reduceCtorEq, implies_true, true_and]
    have hQ8 := hE7.trans hR
    have hE8 := hE6.trans hQ8
    have hoc8 := hoc.ext hQ8
    have hG8 := hG6.ext hQ8
    have hb88 := hb6.ext hQ8
    clear q1' q2' hcv hgt hgt2 hgt3 hE6 hG6 hb6 hu6 hfst hoc hE7 hR hQ8 hu5 hb4 hcc h6
    obtain ⟨a1, a2⟩ := hat
    obtain ⟨y1, y2⟩ := hby
    have hor : at_ < 0 ∨ (0 ≤ at_ ∧ (n : Int) ≤ at_) ∨ (0 ≤ at_ ∧ at_ < n) := by omega
    rcases hor with hn1 | ⟨hn1, hn2⟩ | ⟨hn1, hn2⟩
    · go_wp2_with fail
      go_ret
      exact ⟨rfl, hE8⟩
    · go_wp2_with fail
      go_ret
      exact ⟨rfl, hE8⟩
    by_cases hy0 : by_ = 0
    · have t1 : (by_ == 0) = true := by simp [hy0]
      clear hy0
      go_wp2_with fail
      go_ret
      exact ⟨rfl, hE8⟩
    have t1 : (by_ == 0) = false := by simp [hy0]
    obtain ⟨k, rfl⟩ := Int.eq_ofNat_of_zero_le hn1
    have hk : k < ec.length := by have := HLE.out; omega
    obtain ⟨_, _, e9, _, _, hcc⟩ := hoc8.ints.form
    cases e9
    obtain ⟨b, off, rfl, x0⟩ := hcc k hk
    rw [show ec[k]?.getD 0 = ec[k] by simp [hk]] at x0
    have hzr := hbe _ (List.getElem_mem hk)
    obtain ⟨hx1, hx2⟩ := xor_u8 ec[k] by_ hzr ⟨y1, y2⟩
    have hx3 := hx2 hy0
    have hbase : w5.heap.size ≤ b := (hoc8.lt b rfl).1
    have hblk : ∃ cur, Blk W8 b cur 5 := by
      rcases hoc8.2 with ⟨h9, _⟩ | ⟨g9, cap, cur, h9, _, h10, _⟩
      · cases h9
      · cases h9
        exact ⟨cur, h10⟩
    obtain ⟨cur, hblk⟩ := hblk
    have hfr := hblk.frozen (off + k)
    have hbl := hblk.lt
    have hI := fun x => ints_set hoc8.ints hk x
    have hE9 := fun x => Below.setCell (p := ⟨b, off + k, none⟩) hE8 (by show w.heap.size ≤ b; exact Nat.le_trans hE5.size hbase) x
    have hG9 := fun x => OwnG.grownHi hG5 hG8 (setCell_grown W8 b (off + k) x) hbase
    have hb8lt : b8 < w5.heap.size := HB8.out
    have hb9 := fun x => hb88.grown (setCell_grown W8 b (off + k) x) (by simp; omega)
    have HON2 := Lib.hid (fun (c2 : Gc) (n2 : Nat) (h : taken (ec.set k (bits .xor .u8 ec[k] by_)) = some (c2, n2)) => HON.out k _ hk hx3 c2 n2 h)
    have hkn : (k : Int) < (ec.length : Int) := by omega
    have hbset := bytes_set hbe k hx1
    replace hI := hI (bits .xor .u8 ec[k] by_)
    replace hE9 := hE9 (.int .u8 (bits .xor .u8 ec[k] by_))
    replace hG9 := hG9 (.int .u8 (bits .xor .u8 ec[k] by_))
    replace hb9 := hb9 (.int .u8 (bits .xor .u8 ec[k] by_))
    clear hcc hx2 hx3 hzr hoc8 hG8 hb88 hblk hE8 hG5 hE5 hy0 hbe HON hbase hb8lt
    go_upto_region 12 with fail
    clear x0 hfr hbl t1 hn1 hn2
    generalize bits .xor .u8 ec[k] by_ = xr at *
    generalize World.setCell W8 _ _ = w9 at *
    have hI' : Ints .u8 w9 (.slice (some ⟨b, off, none⟩) ec.length cc) (ec.set k xr) := hI
    have htk := take_calls _ _ w9 hI' hbset
    unfold TakePost at htk
    have d0 := hb9.cell 0
    clear hI d0
    have hE9' : Ext w w9 := hE9
    go_wp2_with fail
    refine htk.mono ?_
    rintro e w10 ⟨hn, hs, h10⟩
    clear htk hI'
    have hz := Blk.new w10 #[.slice none 0 0, .slice none 0 0, .slice none 0 0] 26
    cases ht : taken (ec.set k xr) with
    | none =>
      have e1 := hn ht
      subst e1
      have hQ : Ext w10 ((w10.alloc (.cells #[.slice none 0 0, .slice none 0 0, .slice none 0 0] 26)).setRow w10.heap.size #[.slice none 0 0, .slice none 0 0, .slice none 0 0]) := ext_setRow (ext_alloc _ _) _ (Nat.le_refl _)
      have hb13 : Blk ((w10.alloc (.cells #[.slice none 0 0, .slice none 0 0, .slice none 0 0] 26)).setRow w10.heap.size #[.slice none 0 0, .slice none 0 0, .slice none 0 0]) w10.heap.size #[.slice none 0 0, .slice none 0 0, .slice none 0 0] 26 := setRow_heap _ _ _ _ _ _ hz
      have hGX := ((hG9.ext h10).ext hQ).at
      have hb8X := (hb9.ext h10).ext hQ
      have hEX := (hE9'.trans h10).trans hQ
      clear hn hs ht HON2
      go_upto_region 13 with (refine wpList_store_row rfl 26 _ _ rfl w10.heap.size #[.slice none 0 0, .slice none 0 0, .slice none 0 0] rfl rfl 26 _ hz (by kernel_rfl) rfl (by simp [Value.oneCell']) ?_)
      clear hz hQ h10 hG9 hb9 hE9 hE9'
      generalize World.setRow (w10.alloc _) _ _ = w11 at *
      generalize w10.heap.size = b13 at *
      have hsm := same_calls g ⟨.slice none 0 0, .slice none 0 0, .slice none 0 0, [], [], []⟩ w11 hGX ⟨row_nil _ _, row_nil _ _, row_nil _ _, (fun n hn => by cases hn), (by show 0 ≤ 255; omega), (by show 0 ≤ 255; omega), (by show 0 ≤ 255; omega)⟩
      simp only at hsm
      have aa0 : World.cell? w11 ⟨b8, 0, none⟩ = some g.iV := hb8X.cell 0
      have aa1 : World.cell? w11 ⟨b8, 1, none⟩ = some g.nV := hb8X.cell 1
      have aa2 : World.cell? w11 ⟨b8, 2, none⟩ = some g.oV := hb8X.cell 2
      have bb0 : World.cell? w11 ⟨b13, 0, none⟩ = some (.slice none 0 0) := hb13.cell 0
      have bb1 : World.cell? w11 ⟨b13, 1, none⟩ = some (.slice none 0 0) := hb13.cell 1
      have bb2 : World.cell? w11 ⟨b13, 2, none⟩ = some (.slice none 0 0) := hb13.cell 2
      go_wp2_with fail
      refine hsm.mono ?_
      rintro e w12 ⟨rfl, h12⟩
      clear hsm aa0 aa1 aa2 bb0 bb1 bb2
      go_wp2_with fail
      go_ret
      exact ⟨rfl, hEX.trans h12⟩
    | some q2 =>
      obtain ⟨c2, n2⟩ := q2
      obtain ⟨h, hhc, rfl, hH⟩ := hs c2 n2 ht
      have hne : decide (g.c = h.c) = false := decide_eq_false (by rw [hgc, hhc]; exact HON2.out c2 n2 ht)
      have hQ : Ext w10 ((w10.alloc (.cells #[.slice none 0 0, .slice none 0 0, .slice none 0 0] 26)).setRow w10.heap.size #[h.iV, h.nV, h.oV]) := ext_setRow (ext_alloc _ _) _ (Nat.le_refl _)
      have hb13 : Blk ((w10.alloc (.cells #[.slice none 0 0, .slice none 0 0, .slice none 0 0] 26)).setRow w10.heap.size #[h.iV, h.nV, h.oV]) w10.heap.size #[h.iV, h.nV, h.oV] 26 := setRow_heap _ _ _ _ _ _ hz
      have HOz := Lib.hid hH.one
      have hHX := (hH.ext hQ).at
      have hGX := ((hG9.ext h10).ext hQ).at
      have hb8X := (hb9.ext h10).ext hQ
      have hEX := (hE9'.trans h10).trans hQ
      clear hn hs ht HON2
      go_upto_region 13 with (refine wpList_store_row rfl 26 _ _ rfl w10.heap.size #[h.iV, h.nV, h.oV] rfl rfl 26 _ hz (by kernel_rfl) rfl HOz.out ?_)
      clear hz hQ h10 hG9 hb9 hE9 hE9' hH
      generalize World.setRow (w10.alloc _) _ _ = w11 at *
      generalize w10.heap.size = b13 at *
      have hsm := same_calls g h w11 hGX hHX
      rw [hne] at hsm
      have aa0 : World.cell? w11 ⟨b8, 0, none⟩ = some g.iV := hb8X.cell 0
      have aa1 : World.cell? w11 ⟨b8, 1, none⟩ = some g.nV := hb8X.cell 1
      have aa2 : World.cell? w11 ⟨b8, 2, none⟩ = some g.oV := hb8X.cell 2
      have bb0 : World.cell? w11 ⟨b13, 0, none⟩ = some h.iV := hb13.cell 0
      have bb1 : World.cell? w11 ⟨b13, 1, none⟩ = some h.nV := hb13.cell 1
      have bb2 : World.cell? w11 ⟨b13, 2, none⟩ = some h.oV := hb13.cell 2
      clear hne
      go_wp2_with fail
      refine hsm.mono ?_
      rintro e w12 ⟨rfl, h12⟩
      clear hsm aa0 aa1 aa2 bb0 bb1 bb2
      go_wp2_with fail
      go_ret
      exact ⟨rfl, hEX.trans h12⟩

end Go.Proofs.Ytdhdbmfipkppiaa
