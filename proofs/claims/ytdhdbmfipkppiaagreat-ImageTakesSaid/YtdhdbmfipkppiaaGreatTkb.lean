/- The walk of image.Take. -/
import Derived.Test.YtdhdbmfipkppiaaGreatTka
import Derived.Test.YtdhdbmfipkppiaaGreatDraw5
import Derived.Deep.MidRow
set_option linter.unusedSimpArgs false
set_option linter.unusedVariables false
set_option linter.unnecessarySimpa false
namespace Go.Proofs.YtdhdbmfipkppiaaGreat
set_option maxRecDepth 10000
open Go.RowKit

theorem results_cell_tmp1 {P : Program} {fn : Func} {p t : Tmp} {ty : TypeId} (h : fn.results = #[.cell p ty, .tmp t]) (tmps : Array Value) (w : World) (g : Nat) (T : TypeId) (cs : Array Value) (fr : Nat × Nat) (d : TypeDesc)
    (hp : tmps.getD p undef = .pointer (some ⟨g, 0, none⟩)) (hg : w.heap[g]? = some (.cells cs T fr))
    (hu : P.underlying ty = some d) (hd : (match d with | .struct _ | .array _ _ => true | _ => false) = true) (hi : (P.info? ty).map (·.size) = some cs.size) :
    (results fn tmps).run P w = .ok (.tuple #[.agg cs, tmps.getD t undef]) w := by
  have hp' : tmps[p]?.getD undef = .pointer (some ⟨g, 0, none⟩) := by simpa using hp
  simp [results, h, hp', asAddr, run_loadVar_row w g T ty cs fr d hg hu hd hi]

theorem TkI.stream0 {wO wG W : World} {g : Gr} {pv s0 s1 s2 s : Value} {ps : List Int} {L0 L1 L2 L : List Isa.Cm} (h : TkI wO wG W g pv s0 s1 s2 ps L0 L1 L2) (ho : W.ownsRow wG.heap.size 75 14 s L.length (L.flatMap Isa.Cm.cs)) :
    TkI wO wG (W.setCell ⟨wO.heap.size, 4, none⟩ s) g pv s s1 s2 ps L L1 L2 :=
  ⟨by simpa using h.box.set 4 s, gb_step h.gb (setCell_grown W wO.heap.size 4 s) (fun q hq => .inl (by rw [← hq])), ownsRow_setCell_below (a := ⟨wO.heap.size, 4, none⟩) h.pl h.lt s,
    ownsRow_setCell_below (a := ⟨wO.heap.size, 4, none⟩) ho h.lt s,
    ownsRow_setCell_below (a := ⟨wO.heap.size, 4, none⟩) h.st1 h.lt s,
    ownsRow_setCell_below (a := ⟨wO.heap.size, 4, none⟩) h.st2 h.lt s, h.lt, h.ext⟩

theorem TkI.stream1 {wO wG W : World} {g : Gr} {pv s0 s1 s2 s : Value} {ps : List Int} {L0 L1 L2 L : List Isa.Cm} (h : TkI wO wG W g pv s0 s1 s2 ps L0 L1 L2) (ho : W.ownsRow wG.heap.size 75 14 s L.length (L.flatMap Isa.Cm.cs)) :
    TkI wO wG (W.setCell ⟨wO.heap.size, 5, none⟩ s) g pv s0 s s2 ps L0 L L2 :=
  ⟨by simpa using h.box.set 5 s, gb_step h.gb (setCell_grown W wO.heap.size 5 s) (fun q hq => .inl (by rw [← hq])), ownsRow_setCell_below (a := ⟨wO.heap.size, 5, none⟩) h.pl h.lt s,
    ownsRow_setCell_below (a := ⟨wO.heap.size, 5, none⟩) h.st0 h.lt s,
    ownsRow_setCell_below (a := ⟨wO.heap.size, 5, none⟩) ho h.lt s,
    ownsRow_setCell_below (a := ⟨wO.heap.size, 5, none⟩) h.st2 h.lt s, h.lt, h.ext⟩

theorem TkI.stream2 {wO wG W : World} {g : Gr} {pv s0 s1 s2 s : Value} {ps : List Int} {L0 L1 L2 L : List Isa.Cm} (h : TkI wO wG W g pv s0 s1 s2 ps L0 L1 L2) (ho : W.ownsRow wG.heap.size 75 14 s L.length (L.flatMap Isa.Cm.cs)) :
    TkI wO wG (W.setCell ⟨wO.heap.size, 6, none⟩ s) g pv s0 s1 s ps L0 L1 L :=
  ⟨by simpa using h.box.set 6 s, gb_step h.gb (setCell_grown W wO.heap.size 6 s) (fun q hq => .inl (by rw [← hq])), ownsRow_setCell_below (a := ⟨wO.heap.size, 6, none⟩) h.pl h.lt s,
    ownsRow_setCell_below (a := ⟨wO.heap.size, 6, none⟩) h.st0 h.lt s,
    ownsRow_setCell_below (a := ⟨wO.heap.size, 6, none⟩) h.st1 h.lt s,
    ownsRow_setCell_below (a := ⟨wO.heap.size, 6, none⟩) ho h.lt s, h.lt, h.ext⟩

theorem mayI_gr {g : Gr} {c : Gc} (e : g.c = c) (pl : List Int) (L0 L1 L2 : List Isa.Cm) : mayI g pl L0 L1 L2 = mayI c.gr pl L0 L1 L2 := by
  unfold mayI
  rw [values_c g, e]

theorem or3 (x y z : Int) (h1 : 0 ≤ x) (h2 : x ≤ 255) (h3 : 0 ≤ y) (h4 : y ≤ 255) (h5 : 0 ≤ z) (h6 : z ≤ 255) :
    bits .or .i64 (bits .or .i64 (IntKind.i64.wrap (IntKind.i64.wrap x * 65536)) (IntKind.i64.wrap (IntKind.i64.wrap y * 256))) (IntKind.i64.wrap z) = 65536 * x + 256 * y + z := by
  rw [IntWalk.i64_in x (by omega), IntWalk.i64_in y (by omega), IntWalk.i64_in z (by omega), IntWalk.i64_in (x * 65536) (by omega), IntWalk.i64_in (y * 256) (by omega)]
  obtain ⟨a, rfl⟩ := Int.eq_ofNat_of_zero_le h1
  obtain ⟨b, rfl⟩ := Int.eq_ofNat_of_zero_le h3
  obtain ⟨c, rfl⟩ := Int.eq_ofNat_of_zero_le h5
  have e1 := i64_or_nat (a * 65536) (b * 256) (by omega) (by omega)
  have e2 : a * 65536 ||| b * 256 = (a * 256 + b) * 256 := by
    have h : a * 65536 + b * 256 = a * 65536 ||| b * 256 := by
      have := Nat.shiftLeft_add_eq_or_of_lt (i := 16) (b := b * 256) (by omega) a
      rw [Nat.shiftLeft_eq] at this
      exact this
    rw [← h]
    omega
  have e3 := i64_or_nat ((a * 256 + b) * 256) c (by omega) (by omega)
  rw [show ((a : Int) * 65536) = ((a * 65536 : Nat) : Int) from by omega, show ((b : Int) * 256) = ((b * 256 : Nat) : Int) from by omega, e1, e2, e3, nat_or8 _ c (by omega)]
  omega

theorem or_neT {u : Value} {row : Option Nat} (h : ∀ b, u.ownBlock = some b → row ≠ some b) : u.ownBlock = none ∨ u.ownBlock ≠ row := by
  cases e : u.ownBlock with
  | none => exact Or.inl rfl
  | some b => exact Or.inr fun e2 => h b e e2.symm
theorem mem_getD {l : List Int} {i : Nat} (h : i < l.length) : l[i]?.getD 0 ∈ l := by simp [h]

theorem ints_dropT {k : IntKind} {w : World} {A : Option Addr} {n c : Nat} {zs : List Int} (h : Ints k w (.slice A n c) zs) {m : Nat} (hm : m ≤ zs.length) : Ints k w (.slice (A.map fun a => a.add m) (n - m) (c - m)) (zs.drop m) := by
  obtain ⟨A', c', e, h1, h2, h3, h4⟩ := h
  cases e
  have hl : (zs.drop m).length = zs.length - m := by simp
  refine ⟨_, _, by rw [hl], by omega, by omega, by simp, fun j u hj => ?_⟩
  rw [List.map_drop, List.getElem?_drop] at hj
  obtain ⟨b, off, rfl, hc⟩ := h4 _ _ hj
  have e : (⟨b, off, none⟩ : Addr).add m = ⟨b, off + m, none⟩ := by unfold Addr.add; split <;> simp_all
  exact ⟨b, off + m, by simp [e], by rw [show off + m + j = off + (m + j) from by omega]; exact hc⟩

def TakeIPost (zs : List Int) (w : World) (e : Ending) (w' : World) : Prop :=
  (takeI zs = none → e = .returned (.tuple #[.agg #[.slice none 0 0, .slice none 0 0, .slice none 0 0, .slice none 0 0, .slice none 0 0, .slice none 0 0, .slice none 0 0], .int .i64 2])) ∧
  (∀ c pl Ls, takeI zs = some (c, pl, Ls) → ∃ (g : Gr) (pV s0 s1 s2 : Value), g.c = c ∧ e = .returned (.tuple #[.agg #[g.iV, g.nV, g.oV, pV, s0, s1, s2], .int .i64 0]) ∧ GrAt w' g ∧ Ints .i64 w' pV pl ∧
    Isa.Cmds w' s0 (Ls[0]?.getD []) ∧ Isa.Cmds w' s1 (Ls[1]?.getD []) ∧ Isa.Cmds w' s2 (Ls[2]?.getD [])) ∧ Ext w w'

set_option maxRecDepth 20000 in
set_option maxHeartbeats 12800000 in
theorem itake_calls (v : Value) (zs : List Int) (w : World) (hv : Ints .u8 w v zs) (hz : ∀ z ∈ zs, 0 ≤ z ∧ z ≤ 255) (hl : zs.length ≤ 100000) :
    Calls Tryz.prog 5 #[v] w (TakeIPost zs w) := by
  have HP : Hid (∀ e w', ((takeI zs = none → e = .returned (.tuple #[.agg #[.slice none 0 0, .slice none 0 0, .slice none 0 0, .slice none 0 0, .slice none 0 0, .slice none 0 0, .slice none 0 0], .int .i64 2])) ∧
    (∀ c pl Ls, takeI zs = some (c, pl, Ls) → ∃ (g : Gr) (pV s0 s1 s2 : Value), g.c = c ∧ e = .returned (.tuple #[.agg #[g.iV, g.nV, g.oV, pV, s0, s1, s2], .int .i64 0]) ∧ GrAt w' g ∧ Ints .i64 w' pV pl ∧
    Isa.Cmds w' s0 (Ls[0]?.getD []) ∧ Isa.Cmds w' s1 (Ls[1]?.getD []) ∧ Isa.Cmds w' s2 (Ls[2]?.getD [])) ∧ Ext w w') → TakeIPost zs w e w') := fun e w' h => h
  generalize TakeIPost zs w = PP at *
  have HN : Hid (takeI zs = none → ∀ w', Ext w w' → PP (.returned (.tuple #[.agg #[.slice none 0 0, .slice none 0 0, .slice none 0 0, .slice none 0 0, .slice none 0 0, .slice none 0 0, .slice none 0 0], .int .i64 2])) w') := fun h w' hE => HP.out _ _ ⟨fun _ => rfl, fun c pl Ls e => (by rw [h] at e; cases e), hE⟩
  have hb2 := Blk.new w #[.slice none 0 0, .slice none 0 0, .slice none 0 0, .slice none 0 0, .slice none 0 0, .slice none 0 0, .slice none 0 0] 32
  have hE1 := ext_alloc w (.cells #[.slice none 0 0, .slice none 0 0, .slice none 0 0, .slice none 0 0, .slice none 0 0, .slice none 0 0, .slice none 0 0] 32)
  have hop := open_calls v zs _ (hv.ext hE1) hz hl
  unfold OpenPost at hop
  have HTI : Hid (takeI zs = if openOk zs then takeB (zs.take (zs.length - 4)) else none) := rfl
  have HBZ : Hid (BytesL (zs.take (zs.length - 4))) := fun z h => hz z (List.mem_of_mem_take h)
  have HLZ : Hid ((zs.take (zs.length - 4)).length = zs.length - 4) := by show _ = _; rw [List.length_take]; omega
  generalize zs.take (zs.length - 4) = bs at *
  generalize takeI zs = ti at *
  clear hv hz
  go_enter Tryz.func5, Tryz.ntmps5
  go_upto_region 1 with fail
  generalize World.alloc w _ = w1 at *
  go_wp2_with fail
  refine hop.mono ?_
  rintro e w2 ⟨v', rfl, hE2, hown, hnil⟩
  have hE2 : Ext w1 w2 := hE2
  have hEw := hE1.trans hE2
  replace hb2 := hb2.ext hE2
  clear hop hE1
  by_cases hok : openOk zs
  case neg =>
    rw [if_neg hok]
    rw [if_neg hok] at HTI
    obtain rfl := hnil hok
    have hX := HN.out HTI.out
    have HX := Lib.hid (hX _ (ext_setRow hEw #[.slice none 0 0, .slice none 0 0, .slice none 0 0, .slice none 0 0, .slice none 0 0, .slice none 0 0, .slice none 0 0] (Nat.le_refl _)))
    clear hX hE2 hown hnil hok hEw
    go_wp2_with (first | (refine wpList_store_row rfl 32 _ _ rfl w.heap.size #[.slice none 0 0, .slice none 0 0, .slice none 0 0, .slice none 0 0, .slice none 0 0, .slice none 0 0, .slice none 0 0] rfl rfl 32 _ hb2 (by kernel_rfl) rfl (by simp [Value.oneCell']) ?_))
    refine bodyPost_ret (v := .tuple #[.agg _, .int .i64 2]) (results_cell_tmp1 Tryz.results5 _ _ w.heap.size 32 _ (0, 0) _ rfl (setRow_heap _ _ _ _ _ _ hb2) (by kernel_rfl : Tryz.prog.underlying 32 = some (.struct (Tryz.prog.fieldsOf 32))) rfl (by kernel_rfl)) rfl ?_
    exact HX.out
  rw [if_pos hok]
  have hown := hown hok
  rw [if_pos hok] at HTI
  have hvb : Ints .u8 w2 v' bs := by
    have := row_of_own hown
    show Row _ _ _ _ _
    rw [HLZ.out]
    exact this
  have hgb : bs ≠ [] → ∃ gB, v'.ownBlock = some gB := fun h => by
    obtain ⟨b, h1, _⟩ := Row.lt hvb (by simpa using h)
    exact ⟨b, h1⟩
  have hvw : ∃ c, bs ≠ [] → ∃ gB, v' = .slice (some ⟨gB, 0, none⟩) bs.length c := by
    rcases hown.2 with ⟨rfl, h0⟩ | ⟨gB, cap, cur, rfl, _⟩
    · exact ⟨0, fun h => absurd (List.eq_nil_of_length_eq_zero (by rw [HLZ.out]; exact h0)) h⟩
    · exact ⟨cap, fun _ => ⟨gB, by rw [HLZ.out]⟩⟩
  have HLB : Hid (bs.length ≤ 100000) := by show _ ≤ _; rw [HLZ.out]; omega
  have HVW := Lib.hid hvw
  have HVB := Lib.hid hvb
  clear hown hnil hok hE2 hvb hgb HLZ hl hvw
  have hb5 := Blk.new w2 #[.slice none 0 0, .slice none 0 0, .slice none 0 0, .slice none 0 0, .slice none 0 0, .slice none 0 0, .slice none 0 0] 32
  have hE3 := ext_alloc w2 (.cells #[.slice none 0 0, .slice none 0 0, .slice none 0 0, .slice none 0 0, .slice none 0 0, .slice none 0 0, .slice none 0 0] 32)
  have HB2 := Lib.hid hb2
  clear hb2
  go_wp2_with fail
  have htk := take_calls v' bs _ (HVB.out.ext hE3) HBZ.out
  unfold TakePost at htk
  have hs3 : w2.heap.size < (w2.alloc (.cells #[.slice none 0 0, .slice none 0 0, .slice none 0 0, .slice none 0 0, .slice none 0 0, .slice none 0 0, .slice none 0 0] 32)).heap.size := by simp
  generalize World.alloc w2 _ = w3 at *
  refine htk.mono ?_
  rintro e w4 ⟨hno, hyes, hE4⟩
  replace hb5 := hb5.ext hE4
  clear htk
  cases htb : taken bs with
  | none =>
    obtain rfl := hno htb
    have hX := HN.out (by rw [HTI.out]; unfold takeB; rw [htb])
    have hz6 := Blk.new w4 #[.slice none 0 0, .slice none 0 0, .slice none 0 0] 28
    have hQ : Ext w4 ((w4.alloc (.cells #[.slice none 0 0, .slice none 0 0, .slice none 0 0] 28)).setRow w4.heap.size #[.slice none 0 0, .slice none 0 0, .slice none 0 0]) := ext_setRow (ext_alloc _ _) _ (Nat.le_refl _)
    clear hb5 hno hyes
    go_upto_region 6 with (refine wpList_store_row rfl 28 _ _ rfl w4.heap.size #[.slice none 0 0, .slice none 0 0, .slice none 0 0] rfl rfl 28 _ hz6 (by kernel_rfl) rfl (by simp [Value.oneCell']) ?_)
    clear hz6
    have hb2 := ((HB2.out.ext hE3).ext hE4).ext hQ
    have HX := Lib.hid (hX _ (ext_setRow (((hEw.trans hE3).trans hE4).trans hQ) #[.slice none 0 0, .slice none 0 0, .slice none 0 0, .slice none 0 0, .slice none 0 0, .slice none 0 0, .slice none 0 0] (Nat.le_refl _)))
    generalize World.setRow (World.alloc w4 _) _ _ = w5 at *
    clear hX hQ hEw hE3 hE4
    go_wp2_with (first | (refine wpList_store_row rfl 32 _ _ rfl w.heap.size #[.slice none 0 0, .slice none 0 0, .slice none 0 0, .slice none 0 0, .slice none 0 0, .slice none 0 0, .slice none 0 0] rfl rfl 32 _ hb2 (by kernel_rfl) rfl (by simp [Value.oneCell']) ?_))
    refine bodyPost_ret (v := .tuple #[.agg _, .int .i64 2]) (results_cell_tmp1 Tryz.results5 _ _ w.heap.size 32 _ (0, 0) _ rfl (setRow_heap _ _ _ _ _ _ hb2) (by kernel_rfl : Tryz.prog.underlying 32 = some (.struct (Tryz.prog.fieldsOf 32))) rfl (by kernel_rfl)) rfl ?_
    exact HX.out
  | some cn =>
    obtain ⟨c, n⟩ := cn
    obtain ⟨g, hgc, rfl, hog⟩ := hyes c n htb
    have hz6 := Blk.new w4 #[.slice none 0 0, .slice none 0 0, .slice none 0 0] 28
    have hb6 : Blk ((w4.alloc (.cells #[.slice none 0 0, .slice none 0 0, .slice none 0 0] 28)).setRow w4.heap.size #[g.iV, g.nV, g.oV]) w4.heap.size #[g.iV, g.nV, g.oV] 28 := setRow_heap _ _ _ _ _ _ hz6
    have hQ : Ext w4 ((w4.alloc (.cells #[.slice none 0 0, .slice none 0 0, .slice none 0 0] 28)).setRow w4.heap.size #[g.iV, g.nV, g.oV]) := ext_setRow (ext_alloc _ _) _ (Nat.le_refl _)
    have HOG := Lib.hid hog.one
    clear hno hyes
    go_upto_region 6 with (refine wpList_store_row rfl 28 _ _ rfl w4.heap.size #[g.iV, g.nV, g.oV] rfl rfl 28 _ hz6 (by kernel_rfl) rfl HOG.out ?_)
    clear hz6
    replace hb5 := hb5.ext hQ
    replace hog := hog.ext hQ
    have hOG : Ext w2 ((w4.alloc (.cells #[.slice none 0 0, .slice none 0 0, .slice none 0 0] 28)).setRow w4.heap.size #[g.iV, g.nV, g.oV]) := (hE3.trans hE4).trans hQ
    have hlt5 : w2.heap.size < ((w4.alloc (.cells #[.slice none 0 0, .slice none 0 0, .slice none 0 0] 28)).setRow w4.heap.size #[g.iV, g.nV, g.oV]).heap.size := hb5.lt
    have h65 : w2.heap.size ≠ w4.heap.size := by have := hE4.size; omega
    generalize World.setRow (World.alloc w4 _) _ _ = w5 at *
    generalize w4.heap.size = b6 at *
    obtain ⟨hn, hbn⟩ := taken_le htb
    obtain ⟨cB, hvB⟩ := HVW.out
    obtain ⟨gB, evB⟩ := hvB hbn
    have HVB5 := Lib.hid (HVB.out.ext hOG)
    rw [evB] at HVB5
    have HVB2 := Lib.hid HVB.out
    rw [evB] at HVB2
    have hform := HVB5.out.form
    obtain ⟨_, _, e9, hcB1, hcB2, _⟩ := hform
    cases e9
    unfold maxLen at hcB2
    have HEW := Lib.hid hEw
    have HEO := Lib.hid hOG
    have HTB : Hid (ti = match plc3 (c.ins.length + c.nodes.length) (bs.drop n) with
      | none => none
      | some (pl, r) => match stT 3 r with
        | none => none
        | some (Ls, r') => if r' = [] ∧ mayI c.gr pl (Ls[0]?.getD []) (Ls[1]?.getD []) (Ls[2]?.getD []) = 0 then some (c, pl, Ls) else none) := by
      show _ = _
      rw [HTI.out]
      unfold takeB
      rw [htb]
      try rfl
    have HBD : Hid (BytesL (bs.drop n)) := fun z h => HBZ.out z (List.mem_of_mem_drop h)
    subst evB
    clear hE3 hE4 hQ hEw hOG HVW HVB htb hbn hvB HTI HBZ
    have HS3 := Lib.hid hs3
    clear hs3
    go_wp2_with fail
    have hln : (bs.drop n).length = bs.length - n := List.length_drop
    refine cut_code (fun a W => ∃ (o c' : Nat), LitA a (fun f => ({ tmps := #[.slice (some ⟨gB, o, none⟩) (bs.length - n) c', f 1, .pointer (some ⟨w.heap.size, 0, none⟩), .int .i64 0, f 4, .pointer (some ⟨w2.heap.size, 0, none⟩), .pointer (some ⟨b6, 0, none⟩), f 7, f 8, f 9, f 10, f 11, f 12, f 13, f 14, f 15, f 16, f 17, f 18, f 19, f 20, f 21, f 22, f 23, f 24, f 25, f 26, f 27, f 28, f 29, f 30, f 31, f 32, f 33, f 34, f 35, f 36, f 37, f 38, f 39, f 40, f 41, f 42, f 43, f 44, f 45, f 46, f 47, f 48, f 49, f 50, f 51, f 52, f 53, f 54, f 55, f 56, f 57, f 58, f 59, f 60, f 61, f 62, f 63, f 64, f 65, f 66, f 67, f 68, f 69, f 70, f 71, f 72, f 73, f 74, f 75, f 76, f 77, f 78, f 79, f 80, f 81, f 82, f 83, f 84, f 85, f 86, f 87, f 88, f 89, f 90, f 91, f 92, f 93, f 94, f 95, f 96, f 97, f 98, f 99, f 100, f 101, f 102, f 103], defers := [] } : Act)) ∧ bs.length - n ≤ c' ∧ c' ≤ maxLen ∧ Hid (Ints .u8 w2 (.slice (some ⟨gB, o, none⟩) (bs.length - n) c') (bs.drop n)) ∧ Blk W b6 #[g.iV, g.nV, g.oV] 28 ∧ Hid (TkI w2 w5 W g (.slice none 0 0) (.slice none 0 0) (.slice none 0 0) (.slice none 0 0) [] [] [] [])) (fun K hK => ?_) ?_
    · have HK := Lib.hid hK
      have q0 : ∀ W, Blk W b6 #[g.iV, g.nV, g.oV] 28 → World.cell? W ⟨b6, 0, none⟩ = some g.iV := fun W h => h.cell 0
      have q1 : ∀ W, Blk W b6 #[g.iV, g.nV, g.oV] 28 → World.cell? W ⟨b6, 1, none⟩ = some g.nV := fun W h => h.cell 1
      have q2 : ∀ W, Blk W b6 #[g.iV, g.nV, g.oV] 28 → World.cell? W ⟨b6, 2, none⟩ = some g.oV := fun W h => h.cell 2
      have hb6d : Blk w5.drew b6 #[g.iV, g.nV, g.oV] 28 := hb6.ext (Ext.drew w5)
      have hb5d := hb5.ext (Ext.drew w5)
      have hth : w5.drew.there w2.heap.size 0 3 := fun j hj => by
        refine ⟨?_, hb5d.frozen _⟩
        rw [hb5d.cell]
        rcases (by omega : j = 0 ∨ j = 1 ∨ j = 2) with rfl | rfl | rfl <;> rfl
      have hbS : Blk (w5.drew.setCells w2.heap.size 0 [g.iV, g.nV, g.oV]) w2.heap.size #[g.iV, g.nV, g.oV, .slice none 0 0, .slice none 0 0, .slice none 0 0, .slice none 0 0] 32 := by
        have h3 := ((hb5d.set 0 g.iV).set 1 g.nV).set 2 g.oV
        simpa [World.setCells] using h3
      have hgS : w5.grownBy (w5.drew.setCells w2.heap.size 0 [g.iV, g.nV, g.oV]) (some w2.heap.size) := by
        have h3 := gb_ext (World.grownBy.refl w5 (some w2.heap.size)) (Ext.drew w5)
        have h4 := gb_step (gb_step (gb_step h3 (setCell_grown _ w2.heap.size 0 g.iV) (fun q hq => .inl (by rw [← hq]))) (setCell_grown _ w2.heap.size 1 g.nV) (fun q hq => .inl (by rw [← hq]))) (setCell_grown _ w2.heap.size 2 g.oV) (fun q hq => .inl (by rw [← hq]))
        simpa [World.setCells] using h4
      have hT : TkI w2 w5 (w5.drew.setCells w2.heap.size 0 [g.iV, g.nV, g.oV]) g (.slice none 0 0) (.slice none 0 0) (.slice none 0 0) (.slice none 0 0) [] [] [] [] :=
        ⟨hbS, hgS, World.ownsRow_nil _ _ _ _, World.ownsRow_nil _ _ _ _, World.ownsRow_nil _ _ _ _, World.ownsRow_nil _ _ _ _, hlt5, HEO.out⟩
      have hb6S : Blk (w5.drew.setCells w2.heap.size 0 [g.iV, g.nV, g.oV]) b6 #[g.iV, g.nV, g.oV] 28 := hb6.grown hgS (fun e => h65 (Option.some.inj e).symm)
      have HT := Lib.hid hT
      have hone := HOG.out
      clear hbS hgS hT hK
      by_cases hc : cB = n
      · have hIn : Ints .u8 w2 (.slice (some ⟨gB, 0, none⟩) (bs.length - n) 0) (bs.drop n) := by
          have h0 : bs.drop n = [] := List.eq_nil_of_length_eq_zero (by omega)
          rw [h0, show bs.length - n = 0 by omega]
          exact ⟨_, 0, rfl, Nat.le_refl _, Nat.zero_le _, rfl, fun j u hj => by simp at hj⟩
        have HIN := Lib.hid hIn
        clear hIn
        refine wp_region_S (fun W => Blk W b6 #[g.iV, g.nV, g.oV] 28) [(0, true), (1, true), (2, true), (3, true), (4, true), (5, false), (6, true)] (by kernel_rfl) (by kernel_rfl) (fun _ _ d _ _ h => by cases d <;> exact h) hb6d ?_
        simp only [pickE, List.getElem?_cons_zero, List.getElem?_cons_succ]
        repeat (first | (refine wpF_skip (by rfl) ?_; simp only [Act.put, List.setIfInBounds_toArray, List.set_cons_zero, List.set_cons_succ]) | (refine wpF_pure (by rfl) (fun W hW => by go_simp; with_reducible rfl) ?_; simp only [Act.put, List.setIfInBounds_toArray, List.set_cons_zero, List.set_cons_succ]))
        refine wpF_step (by rfl) (fun K hK => ?_)
        refine wp_store_mid 28 _ _ rfl w2.heap.size 0 #[g.iV, g.nV, g.oV] rfl rfl hth (by kernel_rfl) hone ?_
        refine hK _ _ hb6S ?_
        clear hK K
        try simp only [Act.put, List.setIfInBounds_toArray, List.set_cons_zero, List.set_cons_succ]
        repeat (first | (refine wpF_skip (by rfl) ?_; simp only [Act.put, List.setIfInBounds_toArray, List.set_cons_zero, List.set_cons_succ]) | (refine wpF_pure (by rfl) (fun W hW => by go_simp; with_reducible rfl) ?_; simp only [Act.put, List.setIfInBounds_toArray, List.set_cons_zero, List.set_cons_succ]))
        refine wpF_nil ?_
        exact HK.out _ _ ⟨0, 0, .of rfl, by omega, by unfold maxLen; omega, HIN, hb6S, HT⟩
      · have hIn : Ints .u8 w2 (.slice (some ⟨gB, n, none⟩) (bs.length - n) (cB - n)) (bs.drop n) := by
          have h := ints_dropT HVB2.out (m := n) hn
          simpa [add_lit] using h
        have HIN := Lib.hid hIn
        clear hIn
        refine wp_region_S (fun W => Blk W b6 #[g.iV, g.nV, g.oV] 28) [(0, true), (1, true), (2, true), (3, true), (4, true), (5, false), (6, true)] (by kernel_rfl) (by kernel_rfl) (fun _ _ d _ _ h => by cases d <;> exact h) hb6d ?_
        simp only [pickE, List.getElem?_cons_zero, List.getElem?_cons_succ]
        repeat (first | (refine wpF_skip (by rfl) ?_; simp only [Act.put, List.setIfInBounds_toArray, List.set_cons_zero, List.set_cons_succ]) | (refine wpF_pure (by rfl) (fun W hW => by go_simp; with_reducible rfl) ?_; simp only [Act.put, List.setIfInBounds_toArray, List.set_cons_zero, List.set_cons_succ]))
        refine wpF_step (by rfl) (fun K hK => ?_)
        refine wp_store_mid 28 _ _ rfl w2.heap.size 0 #[g.iV, g.nV, g.oV] rfl rfl hth (by kernel_rfl) hone ?_
        refine hK _ _ hb6S ?_
        clear hK K
        try simp only [Act.put, List.setIfInBounds_toArray, List.set_cons_zero, List.set_cons_succ]
        repeat (first | (refine wpF_skip (by rfl) ?_; simp only [Act.put, List.setIfInBounds_toArray, List.set_cons_zero, List.set_cons_succ]) | (refine wpF_pure (by rfl) (fun W hW => by go_simp; with_reducible rfl) ?_; simp only [Act.put, List.setIfInBounds_toArray, List.set_cons_zero, List.set_cons_succ]))
        refine wpF_nil ?_
        exact HK.out _ _ ⟨n, cB - n, .of rfl, by omega, by unfold maxLen; omega, HIN, hb6S, HT⟩
    · rintro a W0 ⟨o, c', ⟨f, rfl⟩, hr1, hr2, HI0, hb60, HT0⟩
      have HBD2 := HBD
      have hr1' : (bs.drop n).length ≤ c' := by rw [hln]; exact hr1
      have hrl : (bs.drop n).length ≤ 100000 := by rw [hln]; have := HLB.out; omega
      rw [← hln] at HI0 ⊢
      clear hr1 hln
      obtain ⟨r0, hr0⟩ : ∃ r, bs.drop n = r := ⟨_, rfl⟩
      rw [hr0] at HI0 HTB HBD hr1' hrl ⊢
      clear hr0 HBD2 hn HLB HVB2 HVB5 hcB1 hcB2 hb6 hb5 h65
      have hga := hog.at
      have HOGN := Lib.hid hog
      obtain ⟨Ai, ci, ei, hi1, hi2, _⟩ := id hga.ins.form
      obtain ⟨An, cn, en, hn1, hn2, _⟩ := id (SRow.form hga.nodes (fun _ => rfl) (by omega))
      unfold maxLen at hi2 hn2
      have q0 : World.cell? W0 ⟨b6, 0, none⟩ = some (.slice Ai g.ins.length ci) := by rw [← ei]; exact hb60.cell 0
      have q1 : World.cell? W0 ⟨b6, 1, none⟩ = some (.slice An g.nodes.length cn) := by rw [← en]; exact hb60.cell 1
      have hil := hog.il
      have hnl := hog.nl
      have HCN : Hid (c.ins.length + c.nodes.length = g.ins.length + g.nodes.length) := by show _ = _; rw [← hgc]; simp [Gr.c]
      rw [HCN.out] at HTB
      have HGC := Lib.hid hgc
      clear hga hog hgc ei en hb60 HCN
      obtain ⟨N, hN⟩ : ∃ N, g.ins.length + g.nodes.length = N := ⟨_, rfl⟩
      rw [hN] at HTB
      have HNN := Lib.hid hN
      have hN510 : N ≤ 510 := by omega
      clear hN
      go_wp2_with fail
      clear q0 q1
      have HP0 : Hid (plc3 N r0 = (plc3 (N - 0) r0).map fun q => (([] : List Int) ++ q.1, q.2)) := by show _ = _; simp
      have HQ0 : Hid (([] : List Int).length = 0 ∧ BytesL r0 ∧ r0.length ≤ 100000 ∧ ∀ z ∈ ([] : List Int), 0 ≤ z ∧ z ≤ 16777215) := ⟨rfl, HBD.out, hrl, fun z hz => by cases hz⟩
      go_loopw [0, 43] (fun v i wr => ∃ (k : Nat) (ps r : List Int) (pv : Value) (o c' : Nat), v = .slice (some ⟨gB, o, none⟩) r.length c' ∧ r.length ≤ c' ∧ c' ≤ maxLen ∧ k ≤ N ∧ i = .int .i64 k ∧ Hid (plc3 N r0 = (plc3 (N - k) r).map fun q => (ps ++ q.1, q.2)) ∧
        Hid (ps.length = k ∧ BytesL r ∧ r.length ≤ 100000 ∧ ∀ z ∈ ps, 0 ≤ z ∧ z ≤ 16777215) ∧ Hid (Ints .u8 w2 (.slice (some ⟨gB, o, none⟩) r.length c') r) ∧ Hid (TkI w2 w5 wr g pv (.slice none 0 0) (.slice none 0 0) (.slice none 0 0) ps [] [] [])) (fun _ i _ => N - (intOf i).toNat)
      case atStart => exact ⟨0, [], r0, _, o, c', rfl, hr1', hr2, by omega, rfl, HP0, HQ0, HI0, HT0⟩
      case round =>
        clear HP0 HQ0 HI0 HT0 HBD hrl hr1' hr2
        obtain ⟨k, ps, r, pv, o, c', rfl, hr1, hr2, hk, rfl, HPK, HQK, HIK, HTK⟩ := hrel
        unfold maxLen at hr2
        by_cases hlt : k < N
        · have hltN : (k : Int) < (g.ins.length : Int) + (g.nodes.length : Int) := by have := HNN.out; omega
          by_cases hr3 : r.length < 3
          · have HNX := HN.out (by rw [HTB.out, plc3_stop HPK.out hlt hr3])
            have HX := Lib.hid (HNX _ (ext_setRow (HEW.out.trans HTK.out.extO) #[.slice none 0 0, .slice none 0 0, .slice none 0 0, .slice none 0 0, .slice none 0 0, .slice none 0 0, .slice none 0 0] (Nat.le_refl _)))
            have hb2 := HB2.out.ext HTK.out.extO
            clear HNX
            go_wp2_with (first | (refine wpList_store_row rfl 32 _ _ rfl w.heap.size #[.slice none 0 0, .slice none 0 0, .slice none 0 0, .slice none 0 0, .slice none 0 0, .slice none 0 0, .slice none 0 0] rfl rfl 32 _ hb2 (by kernel_rfl) rfl (by simp [Value.oneCell']) ?_))
            refine bodyPost_ret (v := .tuple #[.agg _, .int .i64 2]) (results_cell_tmp1 Tryz.results5 _ _ w.heap.size 32 _ (0, 0) _ rfl (setRow_heap _ _ _ _ _ _ hb2) (by kernel_rfl : Tryz.prog.underlying 32 = some (.struct (Tryz.prog.fieldsOf 32))) rfl (by kernel_rfl)) rfl ?_
            exact HX.out
          · have hx := HIK.out.form
            obtain ⟨_, _, e9, _, _, hcl⟩ := hx
            cases e9
            obtain ⟨_, _, e0, x0⟩ := hcl 0 (by omega)
            cases e0
            obtain ⟨_, _, e0, x1⟩ := hcl 1 (by omega)
            cases e0
            obtain ⟨_, _, e0, x2⟩ := hcl 2 (by omega)
            cases e0
            have HPS := Lib.hid (plc3_step HPK.out hlt (by omega))
            have hby0 := HQK.out.2.1 _ (mem_getD (l := r) (i := 0) (by omega))
            have hby1 := HQK.out.2.1 _ (mem_getD (l := r) (i := 1) (by omega))
            have hby2 := HQK.out.2.1 _ (mem_getD (l := r) (i := 2) (by omega))
            generalize r[0]?.getD 0 = x at *
            generalize r[1]?.getD 0 = y at *
            generalize r[2]?.getD 0 = z at *
            rw [Nat.add_zero] at x0
            have c0 : ∀ W, Ext w2 W → World.cell? W ⟨gB, o, none⟩ = some (.int .u8 x) := cell_ext x0
            have c1 : ∀ W, Ext w2 W → World.cell? W ⟨gB, o + 1, none⟩ = some (.int .u8 y) := cell_ext x1
            have c2 : ∀ W, Ext w2 W → World.cell? W ⟨gB, o + 2, none⟩ = some (.int .u8 z) := cell_ext x2
            clear hcl x0 x1 x2 HPK
            go_upto_region 13 with fail
            have g0 : (0 : Int) < (r.length : Int) := by omega
            have g1 : (1 : Int) < (r.length : Int) := by omega
            have g2 : (2 : Int) < (r.length : Int) := by omega
            have g0' : 0 < r.length := by omega
            have g1' : 1 < r.length := by omega
            have g2' : 2 < r.length := by omega
            have g3 : (3 : Int) ≤ (r.length : Int) := by omega
            have g3' : 3 ≤ r.length := by omega
            have hXd := HTK.out.extO.trans (Ext.drew wr)
            refine wp_region_V (fun W => Ext w2 W) (.pure 0 <| .pure 2 <| .pure 3 <| .pure 4 <| .pure 5 <| .pure 6 <| .pure 7 <| .pure 8 <| .pure 9 <| .pure 10 <| .pure 11 <| .pure 12 <| .pure 13 <| .pure 14 <| .pure 15 <| .pure 16 <| .pure 17 <| .pure 20 <| .pure 21 <| .two 1 (.eff 18 <| .eff 19 <| .pure 22 <| .eff 23 <| .pure 24 .nil) 18 (.eff 1 <| .eff 19 <| .pure 22 <| .eff 23 <| .pure 24 .nil)) (by kernel_rfl) (by kernel_rfl) (fun _ _ d _ _ h => by cases d <;> exact h) hXd ?_
            simp only [pickT, List.getElem?_cons_zero, List.getElem?_cons_succ]
            repeat (first | (refine wpV_skip (by rfl) ?_; simp only [Act.put, List.setIfInBounds_toArray, List.set_cons_zero, List.set_cons_succ]) | (refine wpV_pure (by rfl) (fun W hW => by go_simp; with_reducible rfl) ?_; simp only [Act.put, List.setIfInBounds_toArray, List.set_cons_zero, List.set_cons_succ]))
            have HV := or3 x y z hby0.1 hby0.2 hby1.1 hby1.2 hby2.1 hby2.2
            rw [HV]
            have hpr : 0 ≤ 65536 * x + 256 * y + z ∧ 65536 * x + 256 * y + z ≤ 16777215 := by omega
            generalize 65536 * x + 256 * y + z = pz at *
            obtain ⟨o3, ho3, hI3⟩ : ∃ o3, (if c' = 3 then (some ⟨gB, o, none⟩ : Option Addr) else some ⟨gB, o + 3, none⟩) = some ⟨gB, o3, none⟩ ∧ Ints .u8 w2 (.slice (some ⟨gB, o3, none⟩) (r.length - 3) (c' - 3)) (r.drop 3) := by
              by_cases hc3 : c' = 3
              · refine ⟨o, by rw [if_pos hc3], ?_⟩
                have h0 : r.drop 3 = [] := List.eq_nil_of_length_eq_zero (by rw [List.length_drop]; omega)
                rw [h0, show r.length - 3 = 0 by omega]
                exact ⟨_, _, rfl, Nat.zero_le _, by unfold maxLen; omega, rfl, fun j u hj => by simp at hj⟩
              · refine ⟨o + 3, by rw [if_neg hc3], ?_⟩
                have h := ints_dropT HIK.out (m := 3) (by omega)
                simpa [Addr.add_mid] using h
            rw [ho3]
            have hl3 : (r.drop 3).length = r.length - 3 := List.length_drop
            rw [← hl3] at hI3 ⊢
            have hl3' : (r.drop 3).length ≤ c' - 3 := by omega
            have HI3 := Lib.hid hI3
            have HQ3 : Hid ((ps ++ [pz]).length = k + 1 ∧ BytesL (r.drop 3) ∧ (r.drop 3).length ≤ 100000 ∧ ∀ z ∈ ps ++ [pz], 0 ≤ z ∧ z ≤ 16777215) := by
              obtain ⟨a1, a2, a3, a4⟩ := HQK.out
              refine ⟨by simp [a1], fun z h => a2 z (List.mem_of_mem_drop h), by omega, fun z hz => ?_⟩
              rcases List.mem_append.1 hz with h | h
              · exact a4 z h
              · obtain rfl := List.mem_singleton.1 h
                exact hpr
            have HTD := Lib.hid (HTK.out.later (Ext.drew wr))
            have hpl : k = ps.length := HQK.out.1.symm
            have HPL := Lib.hid hpl
            generalize r.drop 3 = r3 at *
            clear HV hby0 hby1 hby2 hI3 hl3 hpr ho3 c0 c1 c2 g0 g1 g2 g0' g1' g2' g3 g3' hpl HTK
            generalize wr.drew = wd at *
            have hdp : World.cell? wd ⟨w2.heap.size, 3, none⟩ = some pv := HTD.out.box.cell 3
            have hdl := HTD.out.box.lt
            have hEa := ext_alloc wd (.cells #[Value.int .i64 pz] 3)
            have hnew := row_new wd #[Value.int .i64 pz] 3 1 1 rfl (by decide)
            have hTA := HTD.out.later hEa
            have hownA := hTA.pl
            rw [← HPL.out] at hownA
            have hbase := hTA.gb.size
            have hk1 : k + 1 ≤ 140737488355328 := by omega
            have hk2 : (k + 1) * 8 ≤ 140737488355328 := by omega
            have h1 : ∀ u ∈ (#[Value.int .i64 pz] : Array Value).toList, u.oneCell' = true := by intro u hu; simp at hu; subst hu; rfl
            have hXa := hXd.trans hEa
            have HPUT : Hid (∀ (v' : Value) (w' : World), w'.ownsRow w5.heap.size 3 1 v' (k + 1) (ps.map (.int .i64) ++ (#[Value.int .i64 pz] : Array Value).toList) → (wd.alloc (.cells #[Value.int .i64 pz] 3)).grownBy w' pv.ownBlock → ∃ A2 n2 c2, v' = .slice A2 n2 c2 ∧
                Hid (TkI w2 w5 (w'.setCell ⟨w2.heap.size, 3, none⟩ v') g v' (.slice none 0 0) (.slice none 0 0) (.slice none 0 0) (ps ++ [pz]) [] [] []) ∧ Ext w2 w' ∧ Ext w2 (w'.setCell ⟨w2.heap.size, 3, none⟩ v') ∧ w2.heap.size < w'.heap.size ∧ w'.frozen? ⟨w2.heap.size, 3, none⟩ = false ∧ World.cell? w' ⟨w2.heap.size, 3, none⟩ = some pv) := by
              intro v' w' ho hgr
              have hb' : Blk w' w2.heap.size #[g.iV, g.nV, g.oV, pv, .slice none 0 0, .slice none 0 0, .slice none 0 0] 32 := hTA.box.grown hgr (fun e => by have := (hTA.pl.lt _ e.symm).1; have := hTA.lt; omega)
              obtain ⟨A2, c2, e2, _⟩ := row_of_own ho
              have hp := hTA.place HPL.out ho hgr
              have hx1 : Ext w2 w' := Below.grown hTA.extO hgr (hTA.extO).size (fun q hq => by have := (hTA.pl.lt q hq).1; have := hTA.lt; omega)
              exact ⟨A2, _, c2, e2, hp, hx1, hp.extO, hb'.lt, hb'.frozen 3, hb'.cell 3⟩
            clear hTA HTD
            refine wpV_two ?_ ?_
            · refine wpV_step (by rfl) (fun K hK => ?_)
              go_simp
              refine hK _ _ hXd ?_
              clear hK K
              try simp only [Act.put, List.setIfInBounds_toArray, List.set_cons_zero, List.set_cons_succ]
              refine wpV_step (by rfl) (fun K hK => ?_)
              go_simp
              refine hK _ _ hXa ?_
              clear hK K hEa hXa hdp hdl
              try simp only [Act.put, List.setIfInBounds_toArray, List.set_cons_zero, List.set_cons_succ]
              refine wpV_step (by rfl) (fun K hK => ?_)
              refine wp_append_row rfl elem_i64 hownA rfl hnew rfl h1 hk1 hk2 hbase ?_
              intro v' w' ho hgr hnr
              obtain ⟨A2, n2, c2, rfl, hpw, hxw, hxs, hlw, hfw, hcw⟩ := HPUT.out v' w' ho hgr
              refine hK _ _ hxw ?_
              clear hK K ho hgr hnr hxw hownA hnew h1 hbase HPUT
              try simp only [Act.put, List.setIfInBounds_toArray, List.set_cons_zero, List.set_cons_succ]
              repeat (first | (refine wpV_skip (by rfl) ?_; simp only [Act.put, List.setIfInBounds_toArray, List.set_cons_zero, List.set_cons_succ]) | (refine wpV_pure (by rfl) (fun W hW => by go_simp; with_reducible rfl) ?_; simp only [Act.put, List.setIfInBounds_toArray, List.set_cons_zero, List.set_cons_succ]))
              refine wpV_step (by rfl) (fun K hK => ?_)
              go_simp
              refine hK _ _ hxs ?_
              clear hK K
              try simp only [Act.put, List.setIfInBounds_toArray, List.set_cons_zero, List.set_cons_succ]
              repeat (first | (refine wpV_skip (by rfl) ?_; simp only [Act.put, List.setIfInBounds_toArray, List.set_cons_zero, List.set_cons_succ]) | (refine wpV_pure (by rfl) (fun W hW => by go_simp; with_reducible rfl) ?_; simp only [Act.put, List.setIfInBounds_toArray, List.set_cons_zero, List.set_cons_succ]))
              refine wpV_nil ?_
              clear hcw hfw hlw hxs hXd
              go_wp2_with fail
              go_roundw
              case rel => exact ⟨k + 1, ps ++ [pz], r3, _, o3, c' - 3, rfl, hl3', by unfold maxLen; omega, by omega, by go_num, HPS, HQ3, HI3, hpw⟩
              case measure => simp [intOf]; omega
            · refine wpV_step (by rfl) (fun K hK => ?_)
              go_simp
              refine hK _ _ hXa ?_
              clear hK K
              try simp only [Act.put, List.setIfInBounds_toArray, List.set_cons_zero, List.set_cons_succ]
              refine wpV_step (by rfl) (fun K hK => ?_)
              go_simp
              refine hK _ _ hXa ?_
              clear hK K hEa hXa hdp hdl
              try simp only [Act.put, List.setIfInBounds_toArray, List.set_cons_zero, List.set_cons_succ]
              refine wpV_step (by rfl) (fun K hK => ?_)
              refine wp_append_row rfl elem_i64 hownA rfl hnew rfl h1 hk1 hk2 hbase ?_
              intro v' w' ho hgr hnr
              obtain ⟨A2, n2, c2, rfl, hpw, hxw, hxs, hlw, hfw, hcw⟩ := HPUT.out v' w' ho hgr
              refine hK _ _ hxw ?_
              clear hK K ho hgr hnr hxw hownA hnew h1 hbase HPUT
              try simp only [Act.put, List.setIfInBounds_toArray, List.set_cons_zero, List.set_cons_succ]
              repeat (first | (refine wpV_skip (by rfl) ?_; simp only [Act.put, List.setIfInBounds_toArray, List.set_cons_zero, List.set_cons_succ]) | (refine wpV_pure (by rfl) (fun W hW => by go_simp; with_reducible rfl) ?_; simp only [Act.put, List.setIfInBounds_toArray, List.set_cons_zero, List.set_cons_succ]))
              refine wpV_step (by rfl) (fun K hK => ?_)
              go_simp
              refine hK _ _ hxs ?_
              clear hK K
              try simp only [Act.put, List.setIfInBounds_toArray, List.set_cons_zero, List.set_cons_succ]
              repeat (first | (refine wpV_skip (by rfl) ?_; simp only [Act.put, List.setIfInBounds_toArray, List.set_cons_zero, List.set_cons_succ]) | (refine wpV_pure (by rfl) (fun W hW => by go_simp; with_reducible rfl) ?_; simp only [Act.put, List.setIfInBounds_toArray, List.set_cons_zero, List.set_cons_succ]))
              refine wpV_nil ?_
              clear hcw hfw hlw hxs hXd
              go_wp2_with fail
              go_roundw
              case rel => exact ⟨k + 1, ps ++ [pz], r3, _, o3, c' - 3, rfl, hl3', by unfold maxLen; omega, by omega, by go_num, HPS, HQ3, HI3, hpw⟩
              case measure => simp [intOf]; omega
        · have hkN : k = N := by omega
          have hPE := plc3_end HPK.out hkN
          have HTS : Hid (ti = match stT 3 r with
            | none => none
            | some (Ls, r') => if r' = [] ∧ mayI c.gr ps (Ls[0]?.getD []) (Ls[1]?.getD []) (Ls[2]?.getD []) = 0 then some (c, ps, Ls) else none) := by
            show _ = _
            rw [HTB.out, hPE]
          have HB : Hid (∀ z ∈ ps, InK .i64 z) := fun z hz => by
            have := HQK.out.2.2.2 z hz
            simp only [InK]
            omega
          have hltN : ¬ (k : Int) < (g.ins.length : Int) + (g.nodes.length : Int) := by have := HNN.out; omega
          have HS0 : Hid (stT 3 r = (stT (3 - 0) r).map fun q => (([] : List (List Isa.Cm)) ++ q.1, q.2)) := by show _ = _; simp
          have HQ0 : Hid (([] : List (List Isa.Cm)).length = 0 ∧ BytesL r) := ⟨rfl, HQK.out.2.1⟩
          clear hPE HPK HQK HTB hkN
          go_wp2_with fail
          go_loopw [0, 73] (fun v i wr => ∃ (k : Nat) (ls : List (List Isa.Cm)) (q : List Int) (s0 s1 s2 : Value) (o c' : Nat), v = .slice (some ⟨gB, o, none⟩) q.length c' ∧ q.length ≤ c' ∧ c' ≤ maxLen ∧ k ≤ 3 ∧ i = .int .i64 k ∧ Hid (stT 3 r = (stT (3 - k) q).map fun p => (ls ++ p.1, p.2)) ∧
            Hid (ls.length = k ∧ BytesL q) ∧ Hid (Ints .u8 w2 (.slice (some ⟨gB, o, none⟩) q.length c') q) ∧ Hid (TkI w2 w5 wr g pv s0 s1 s2 ps (ls[0]?.getD []) (ls[1]?.getD []) (ls[2]?.getD []))) (fun _ i _ => 3 - (intOf i).toNat)
          case atStart => exact ⟨0, [], r, _, _, _, o, c', rfl, hr1, by unfold maxLen; omega, by omega, rfl, HS0, HQ0, HIK, HTK⟩
          case round =>
            clear HS0 HQ0 HIK HTK hr1 hr2
            obtain ⟨k, ls, q, s0, s1, s2, o, c', rfl, hr1, hr2, hk, rfl, HSK, HQK, HIK, HTK⟩ := hrel
            unfold maxLen at hr2
            rcases (by omega : k = 0 ∨ k = 1 ∨ k = 2 ∨ k = 3) with rfl | rfl | rfl | rfl
            · have htk := Isa.take_calls (.slice (some ⟨gB, o, none⟩) q.length c') q wr (HIK.out.ext HTK.out.extO) HQK.out.2
              unfold Isa.TakePost at htk
              cases htl : Isa.takeL q with
              | none =>
                have HNX := HN.out (by rw [HTS.out, stT_stop HSK.out (by omega) htl])
                rw [htl] at htk
                clear htl
                go_wp2_with fail
                refine htk.mono ?_
                rintro e w6 ⟨h0, _, hE6⟩
                have hE6 : Ext wr w6 := hE6
                obtain rfl := h0 trivial
                have hx2 := HTK.out.extO.trans hE6
                have HX := Lib.hid (HNX _ (ext_setRow (HEW.out.trans hx2) #[.slice none 0 0, .slice none 0 0, .slice none 0 0, .slice none 0 0, .slice none 0 0, .slice none 0 0, .slice none 0 0] (Nat.le_refl _)))
                have hb2 := HB2.out.ext hx2
                clear HNX htk h0 hE6 hx2
                go_wp2_with (first | (refine wpList_store_row rfl 32 _ _ rfl w.heap.size #[.slice none 0 0, .slice none 0 0, .slice none 0 0, .slice none 0 0, .slice none 0 0, .slice none 0 0, .slice none 0 0] rfl rfl 32 _ hb2 (by kernel_rfl) rfl (by simp [Value.oneCell']) ?_))
                refine bodyPost_ret (v := .tuple #[.agg _, .int .i64 2]) (results_cell_tmp1 Tryz.results5 _ _ w.heap.size 32 _ (0, 0) _ rfl (setRow_heap _ _ _ _ _ _ hb2) (by kernel_rfl : Tryz.prog.underlying 32 = some (.struct (Tryz.prog.fieldsOf 32))) rfl (by kernel_rfl)) rfl ?_
                exact HX.out
              | some Lm =>
                obtain ⟨L, m⟩ := Lm
                have hmq := takeL_le htl
                have HSN := Lib.hid (stT_step HSK.out (by omega) htl)
                rw [htl] at htk
                clear htl HSK
                go_wp2_with fail
                refine htk.mono ?_
                rintro e w6 ⟨_, h0, hE6⟩
                have hE6 : Ext wr w6 := hE6
                obtain ⟨sv, rfl, hso⟩ := h0 L m rfl
                clear htk h0
                have HT6 := HTK.out.later hE6
                have hso5 := Isa.ownsRow_base hso (base' := w5.heap.size) HTK.out.gb.size
                have HTN : Hid (TkI w2 w5 (w6.drew.setCell ⟨w2.heap.size, 4, none⟩ sv) g pv sv s1 s2 ps ((ls ++ [L])[0]?.getD []) ((ls ++ [L])[1]?.getD []) ((ls ++ [L])[2]?.getD [])) := by
                  have h := (HT6.later (Ext.drew w6)).stream0 (s := sv) (L := L) (ownsRow_drew hso5)
                  have hl := HQK.out.1
                  rw [show (ls ++ [L])[0]?.getD [] = L from by rw [List.getElem?_append_right (by omega)]; simp [hl]]
                  rw [show (ls ++ [L])[1]?.getD [] = ls[1]?.getD [] from by rw [List.getElem?_eq_none (by simp [hl]), List.getElem?_eq_none (by omega)]]
                  rw [show (ls ++ [L])[2]?.getD [] = ls[2]?.getD [] from by rw [List.getElem?_eq_none (by simp [hl]), List.getElem?_eq_none (by omega)]]
                  exact h
                obtain ⟨A8, c8, e8, _⟩ := row_of_own hso
                subst e8
                have hbx := (HT6.later (Ext.drew w6)).box
                have y4 : World.cell? w6.drew ⟨w2.heap.size, 4, none⟩ = some s0 := hbx.cell 4
                have hf := hbx.frozen 4
                have hlb := hbx.lt
                have hXd := HT6.extO.trans (Ext.drew w6)
                have hXs := HTN.out.extO
                have HQN : Hid ((ls ++ [L]).length = 0 + 1 ∧ BytesL (q.drop m)) := ⟨by rw [List.length_append, HQK.out.1]; rfl, fun z h => HQK.out.2 z (List.mem_of_mem_drop h)⟩
                obtain ⟨o3, ho3, hI3⟩ : ∃ o3, (if c' = m then (some ⟨gB, o, none⟩ : Option Addr) else some ⟨gB, o + m, none⟩) = some ⟨gB, o3, none⟩ ∧ Ints .u8 w2 (.slice (some ⟨gB, o3, none⟩) (q.length - m) (c' - m)) (q.drop m) := by
                  by_cases hc3 : c' = m
                  · refine ⟨o, by rw [if_pos hc3], ?_⟩
                    have h0 : q.drop m = [] := List.eq_nil_of_length_eq_zero (by rw [List.length_drop]; omega)
                    rw [h0, show q.length - m = 0 by omega]
                    exact ⟨_, _, rfl, Nat.zero_le _, by unfold maxLen; omega, rfl, fun j u hj => by simp at hj⟩
                  · refine ⟨o + m, by rw [if_neg hc3], ?_⟩
                    have h := ints_dropT HIK.out (m := m) hmq
                    simpa [Addr.add_mid] using h
                have g3 : (m : Int) ≤ (q.length : Int) := by omega
                clear hso hso5 HT6 hbx HTK hE6
                go_wp2_with fail
                refine wp_region_S (fun W => Ext w2 W) [(0, true), (1, true), (2, true), (3, true), (4, true), (5, true), (6, true), (7, false), (8, true)] (by kernel_rfl) (by kernel_rfl) (fun _ _ d _ _ h => by cases d <;> exact h) hXd ?_
                simp only [pickE, List.getElem?_cons_zero, List.getElem?_cons_succ]
                repeat (first | (refine wpF_skip (by rfl) ?_; simp only [Act.put, List.setIfInBounds_toArray, List.set_cons_zero, List.set_cons_succ]) | (refine wpF_pure (by rfl) (fun W hW => by go_simp; with_reducible rfl) ?_; simp only [Act.put, List.setIfInBounds_toArray, List.set_cons_zero, List.set_cons_succ]))
                have hl3 : (q.drop m).length = q.length - m := List.length_drop
                rw [← hl3] at hI3 ⊢
                have hl3' : (q.drop m).length ≤ c' - m := by omega
                have HI3 := Lib.hid hI3
                clear hI3 hl3 ho3 hmq g3
                generalize q.drop m = q3 at *
                refine wpF_step (by rfl) (fun K hK => ?_)
                go_simp
                refine hK _ _ hXs ?_
                clear hK K
                try simp only [Act.put, List.setIfInBounds_toArray, List.set_cons_zero, List.set_cons_succ]
                repeat (first | (refine wpF_skip (by rfl) ?_; simp only [Act.put, List.setIfInBounds_toArray, List.set_cons_zero, List.set_cons_succ]) | (refine wpF_pure (by rfl) (fun W hW => by go_simp; with_reducible rfl) ?_; simp only [Act.put, List.setIfInBounds_toArray, List.set_cons_zero, List.set_cons_succ]))
                refine wpF_nil ?_
                clear y4 hf hlb hXd hXs
                go_wp2_with fail
                go_roundw
                case rel => exact ⟨1, ls ++ [L], q3, _, _, _, o3, c' - m, rfl, hl3', by unfold maxLen; omega, by omega, by go_num, HSN, HQN, HI3, HTN⟩
                case measure => simp [intOf]
            · have htk := Isa.take_calls (.slice (some ⟨gB, o, none⟩) q.length c') q wr (HIK.out.ext HTK.out.extO) HQK.out.2
              unfold Isa.TakePost at htk
              cases htl : Isa.takeL q with
              | none =>
                have HNX := HN.out (by rw [HTS.out, stT_stop HSK.out (by omega) htl])
                rw [htl] at htk
                clear htl
                go_wp2_with fail
                refine htk.mono ?_
                rintro e w6 ⟨h0, _, hE6⟩
                have hE6 : Ext wr w6 := hE6
                obtain rfl := h0 trivial
                have hx2 := HTK.out.extO.trans hE6
                have HX := Lib.hid (HNX _ (ext_setRow (HEW.out.trans hx2) #[.slice none 0 0, .slice none 0 0, .slice none 0 0, .slice none 0 0, .slice none 0 0, .slice none 0 0, .slice none 0 0] (Nat.le_refl _)))
                have hb2 := HB2.out.ext hx2
                clear HNX htk h0 hE6 hx2
                go_wp2_with (first | (refine wpList_store_row rfl 32 _ _ rfl w.heap.size #[.slice none 0 0, .slice none 0 0, .slice none 0 0, .slice none 0 0, .slice none 0 0, .slice none 0 0, .slice none 0 0] rfl rfl 32 _ hb2 (by kernel_rfl) rfl (by simp [Value.oneCell']) ?_))
                refine bodyPost_ret (v := .tuple #[.agg _, .int .i64 2]) (results_cell_tmp1 Tryz.results5 _ _ w.heap.size 32 _ (0, 0) _ rfl (setRow_heap _ _ _ _ _ _ hb2) (by kernel_rfl : Tryz.prog.underlying 32 = some (.struct (Tryz.prog.fieldsOf 32))) rfl (by kernel_rfl)) rfl ?_
                exact HX.out
              | some Lm =>
                obtain ⟨L, m⟩ := Lm
                have hmq := takeL_le htl
                have HSN := Lib.hid (stT_step HSK.out (by omega) htl)
                rw [htl] at htk
                clear htl HSK
                go_wp2_with fail
                refine htk.mono ?_
                rintro e w6 ⟨_, h0, hE6⟩
                have hE6 : Ext wr w6 := hE6
                obtain ⟨sv, rfl, hso⟩ := h0 L m rfl
                clear htk h0
                have HT6 := HTK.out.later hE6
                have hso5 := Isa.ownsRow_base hso (base' := w5.heap.size) HTK.out.gb.size
                have HTN : Hid (TkI w2 w5 (w6.drew.setCell ⟨w2.heap.size, 5, none⟩ sv) g pv s0 sv s2 ps ((ls ++ [L])[0]?.getD []) ((ls ++ [L])[1]?.getD []) ((ls ++ [L])[2]?.getD [])) := by
                  have h := (HT6.later (Ext.drew w6)).stream1 (s := sv) (L := L) (ownsRow_drew hso5)
                  have hl := HQK.out.1
                  rw [show (ls ++ [L])[0]?.getD [] = ls[0]?.getD [] from by rw [List.getElem?_append_left (by omega)]]
                  rw [show (ls ++ [L])[1]?.getD [] = L from by rw [List.getElem?_append_right (by omega)]; simp [hl]]
                  rw [show (ls ++ [L])[2]?.getD [] = ls[2]?.getD [] from by rw [List.getElem?_eq_none (by simp [hl]), List.getElem?_eq_none (by omega)]]
                  exact h
                obtain ⟨A8, c8, e8, _⟩ := row_of_own hso
                subst e8
                have hbx := (HT6.later (Ext.drew w6)).box
                have y5 : World.cell? w6.drew ⟨w2.heap.size, 5, none⟩ = some s1 := hbx.cell 5
                have hf := hbx.frozen 5
                have hlb := hbx.lt
                have hXd := HT6.extO.trans (Ext.drew w6)
                have hXs := HTN.out.extO
                have HQN : Hid ((ls ++ [L]).length = 1 + 1 ∧ BytesL (q.drop m)) := ⟨by rw [List.length_append, HQK.out.1]; rfl, fun z h => HQK.out.2 z (List.mem_of_mem_drop h)⟩
                obtain ⟨o3, ho3, hI3⟩ : ∃ o3, (if c' = m then (some ⟨gB, o, none⟩ : Option Addr) else some ⟨gB, o + m, none⟩) = some ⟨gB, o3, none⟩ ∧ Ints .u8 w2 (.slice (some ⟨gB, o3, none⟩) (q.length - m) (c' - m)) (q.drop m) := by
                  by_cases hc3 : c' = m
                  · refine ⟨o, by rw [if_pos hc3], ?_⟩
                    have h0 : q.drop m = [] := List.eq_nil_of_length_eq_zero (by rw [List.length_drop]; omega)
                    rw [h0, show q.length - m = 0 by omega]
                    exact ⟨_, _, rfl, Nat.zero_le _, by unfold maxLen; omega, rfl, fun j u hj => by simp at hj⟩
                  · refine ⟨o + m, by rw [if_neg hc3], ?_⟩
                    have h := ints_dropT HIK.out (m := m) hmq
                    simpa [Addr.add_mid] using h
                have g3 : (m : Int) ≤ (q.length : Int) := by omega
                clear hso hso5 HT6 hbx HTK hE6
                go_wp2_with fail
                refine wp_region_S (fun W => Ext w2 W) [(0, true), (1, true), (2, true), (3, true), (4, true), (5, true), (6, true), (7, false), (8, true)] (by kernel_rfl) (by kernel_rfl) (fun _ _ d _ _ h => by cases d <;> exact h) hXd ?_
                simp only [pickE, List.getElem?_cons_zero, List.getElem?_cons_succ]
                repeat (first | (refine wpF_skip (by rfl) ?_; simp only [Act.put, List.setIfInBounds_toArray, List.set_cons_zero, List.set_cons_succ]) | (refine wpF_pure (by rfl) (fun W hW => by go_simp; with_reducible rfl) ?_; simp only [Act.put, List.setIfInBounds_toArray, List.set_cons_zero, List.set_cons_succ]))
                have hl3 : (q.drop m).length = q.length - m := List.length_drop
                rw [← hl3] at hI3 ⊢
                have hl3' : (q.drop m).length ≤ c' - m := by omega
                have HI3 := Lib.hid hI3
                clear hI3 hl3 ho3 hmq g3
                generalize q.drop m = q3 at *
                refine wpF_step (by rfl) (fun K hK => ?_)
                go_simp
                refine hK _ _ hXs ?_
                clear hK K
                try simp only [Act.put, List.setIfInBounds_toArray, List.set_cons_zero, List.set_cons_succ]
                repeat (first | (refine wpF_skip (by rfl) ?_; simp only [Act.put, List.setIfInBounds_toArray, List.set_cons_zero, List.set_cons_succ]) | (refine wpF_pure (by rfl) (fun W hW => by go_simp; with_reducible rfl) ?_; simp only [Act.put, List.setIfInBounds_toArray, List.set_cons_zero, List.set_cons_succ]))
                refine wpF_nil ?_
                clear y5 hf hlb hXd hXs
                go_wp2_with fail
                go_roundw
                case rel => exact ⟨2, ls ++ [L], q3, _, _, _, o3, c' - m, rfl, hl3', by unfold maxLen; omega, by omega, by go_num, HSN, HQN, HI3, HTN⟩
                case measure => simp [intOf]
            · have htk := Isa.take_calls (.slice (some ⟨gB, o, none⟩) q.length c') q wr (HIK.out.ext HTK.out.extO) HQK.out.2
              unfold Isa.TakePost at htk
              cases htl : Isa.takeL q with
              | none =>
                have HNX := HN.out (by rw [HTS.out, stT_stop HSK.out (by omega) htl])
                rw [htl] at htk
                clear htl
                go_wp2_with fail
                refine htk.mono ?_
                rintro e w6 ⟨h0, _, hE6⟩
                have hE6 : Ext wr w6 := hE6
                obtain rfl := h0 trivial
                have hx2 := HTK.out.extO.trans hE6
                have HX := Lib.hid (HNX _ (ext_setRow (HEW.out.trans hx2) #[.slice none 0 0, .slice none 0 0, .slice none 0 0, .slice none 0 0, .slice none 0 0, .slice none 0 0, .slice none 0 0] (Nat.le_refl _)))
                have hb2 := HB2.out.ext hx2
                clear HNX htk h0 hE6 hx2
                go_wp2_with (first | (refine wpList_store_row rfl 32 _ _ rfl w.heap.size #[.slice none 0 0, .slice none 0 0, .slice none 0 0, .slice none 0 0, .slice none 0 0, .slice none 0 0, .slice none 0 0] rfl rfl 32 _ hb2 (by kernel_rfl) rfl (by simp [Value.oneCell']) ?_))
                refine bodyPost_ret (v := .tuple #[.agg _, .int .i64 2]) (results_cell_tmp1 Tryz.results5 _ _ w.heap.size 32 _ (0, 0) _ rfl (setRow_heap _ _ _ _ _ _ hb2) (by kernel_rfl : Tryz.prog.underlying 32 = some (.struct (Tryz.prog.fieldsOf 32))) rfl (by kernel_rfl)) rfl ?_
                exact HX.out
              | some Lm =>
                obtain ⟨L, m⟩ := Lm
                have hmq := takeL_le htl
                have HSN := Lib.hid (stT_step HSK.out (by omega) htl)
                rw [htl] at htk
                clear htl HSK
                go_wp2_with fail
                refine htk.mono ?_
                rintro e w6 ⟨_, h0, hE6⟩
                have hE6 : Ext wr w6 := hE6
                obtain ⟨sv, rfl, hso⟩ := h0 L m rfl
                clear htk h0
                have HT6 := HTK.out.later hE6
                have hso5 := Isa.ownsRow_base hso (base' := w5.heap.size) HTK.out.gb.size
                have HTN : Hid (TkI w2 w5 (w6.drew.setCell ⟨w2.heap.size, 6, none⟩ sv) g pv s0 s1 sv ps ((ls ++ [L])[0]?.getD []) ((ls ++ [L])[1]?.getD []) ((ls ++ [L])[2]?.getD [])) := by
                  have h := (HT6.later (Ext.drew w6)).stream2 (s := sv) (L := L) (ownsRow_drew hso5)
                  have hl := HQK.out.1
                  rw [show (ls ++ [L])[0]?.getD [] = ls[0]?.getD [] from by rw [List.getElem?_append_left (by omega)]]
                  rw [show (ls ++ [L])[1]?.getD [] = ls[1]?.getD [] from by rw [List.getElem?_append_left (by omega)]]
                  rw [show (ls ++ [L])[2]?.getD [] = L from by rw [List.getElem?_append_right (by omega)]; simp [hl]]
                  exact h
                obtain ⟨A8, c8, e8, _⟩ := row_of_own hso
                subst e8
                have hbx := (HT6.later (Ext.drew w6)).box
                have y6 : World.cell? w6.drew ⟨w2.heap.size, 6, none⟩ = some s2 := hbx.cell 6
                have hf := hbx.frozen 6
                have hlb := hbx.lt
                have hXd := HT6.extO.trans (Ext.drew w6)
                have hXs := HTN.out.extO
                have HQN : Hid ((ls ++ [L]).length = 2 + 1 ∧ BytesL (q.drop m)) := ⟨by rw [List.length_append, HQK.out.1]; rfl, fun z h => HQK.out.2 z (List.mem_of_mem_drop h)⟩
                obtain ⟨o3, ho3, hI3⟩ : ∃ o3, (if c' = m then (some ⟨gB, o, none⟩ : Option Addr) else some ⟨gB, o + m, none⟩) = some ⟨gB, o3, none⟩ ∧ Ints .u8 w2 (.slice (some ⟨gB, o3, none⟩) (q.length - m) (c' - m)) (q.drop m) := by
                  by_cases hc3 : c' = m
                  · refine ⟨o, by rw [if_pos hc3], ?_⟩
                    have h0 : q.drop m = [] := List.eq_nil_of_length_eq_zero (by rw [List.length_drop]; omega)
                    rw [h0, show q.length - m = 0 by omega]
                    exact ⟨_, _, rfl, Nat.zero_le _, by unfold maxLen; omega, rfl, fun j u hj => by simp at hj⟩
                  · refine ⟨o + m, by rw [if_neg hc3], ?_⟩
                    have h := ints_dropT HIK.out (m := m) hmq
                    simpa [Addr.add_mid] using h
                have g3 : (m : Int) ≤ (q.length : Int) := by omega
                clear hso hso5 HT6 hbx HTK hE6
                go_wp2_with fail
                refine wp_region_S (fun W => Ext w2 W) [(0, true), (1, true), (2, true), (3, true), (4, true), (5, true), (6, true), (7, false), (8, true)] (by kernel_rfl) (by kernel_rfl) (fun _ _ d _ _ h => by cases d <;> exact h) hXd ?_
                simp only [pickE, List.getElem?_cons_zero, List.getElem?_cons_succ]
                repeat (first | (refine wpF_skip (by rfl) ?_; simp only [Act.put, List.setIfInBounds_toArray, List.set_cons_zero, List.set_cons_succ]) | (refine wpF_pure (by rfl) (fun W hW => by go_simp; with_reducible rfl) ?_; simp only [Act.put, List.setIfInBounds_toArray, List.set_cons_zero, List.set_cons_succ]))
                have hl3 : (q.drop m).length = q.length - m := List.length_drop
                rw [← hl3] at hI3 ⊢
                have hl3' : (q.drop m).length ≤ c' - m := by omega
                have HI3 := Lib.hid hI3
                clear hI3 hl3 ho3 hmq g3
                generalize q.drop m = q3 at *
                refine wpF_step (by rfl) (fun K hK => ?_)
                go_simp
                refine hK _ _ hXs ?_
                clear hK K
                try simp only [Act.put, List.setIfInBounds_toArray, List.set_cons_zero, List.set_cons_succ]
                repeat (first | (refine wpF_skip (by rfl) ?_; simp only [Act.put, List.setIfInBounds_toArray, List.set_cons_zero, List.set_cons_succ]) | (refine wpF_pure (by rfl) (fun W hW => by go_simp; with_reducible rfl) ?_; simp only [Act.put, List.setIfInBounds_toArray, List.set_cons_zero, List.set_cons_succ]))
                refine wpF_nil ?_
                clear y6 hf hlb hXd hXs
                go_wp2_with fail
                go_roundw
                case rel => exact ⟨3, ls ++ [L], q3, _, _, _, o3, c' - m, rfl, hl3', by unfold maxLen; omega, by omega, by go_num, HSN, HQN, HI3, HTN⟩
                case measure => simp [intOf]
            · have hSE := stT_end HSK.out rfl
              have HTE : Hid (ti = if q = [] ∧ mayI c.gr ps (ls[0]?.getD []) (ls[1]?.getD []) (ls[2]?.getD []) = 0 then some (c, ps, ls) else none) := by
                show _ = _
                rw [HTS.out, hSE]
              clear hSE HSK HTS
              have hx2 := HTK.out.extO
              by_cases hq0 : 0 < q.length
              · have HNX := HN.out (by rw [HTE.out, if_neg]; rintro ⟨e, _⟩; rw [e] at hq0; simp at hq0)
                have HX := Lib.hid (HNX _ (ext_setRow (HEW.out.trans hx2) #[.slice none 0 0, .slice none 0 0, .slice none 0 0, .slice none 0 0, .slice none 0 0, .slice none 0 0, .slice none 0 0] (Nat.le_refl _)))
                have hb2 := HB2.out.ext hx2
                have g0 : (0 : Int) < (q.length : Int) := by omega
                clear HNX hx2
                go_wp2_with (first | (refine wpList_store_row rfl 32 _ _ rfl w.heap.size #[.slice none 0 0, .slice none 0 0, .slice none 0 0, .slice none 0 0, .slice none 0 0, .slice none 0 0, .slice none 0 0] rfl rfl 32 _ hb2 (by kernel_rfl) rfl (by simp [Value.oneCell']) ?_))
                refine bodyPost_ret (v := .tuple #[.agg _, .int .i64 2]) (results_cell_tmp1 Tryz.results5 _ _ w.heap.size 32 _ (0, 0) _ rfl (setRow_heap _ _ _ _ _ _ hb2) (by kernel_rfl : Tryz.prog.underlying 32 = some (.struct (Tryz.prog.fieldsOf 32))) rfl (by kernel_rfl)) rfl ?_
                exact HX.out
              · have hqn : q = [] := List.eq_nil_of_length_eq_zero (by omega)
                have hog : OwnG w3.heap.size wr g := ⟨HOGN.out.own.grown HTK.out.gb HS3.out, HOGN.out.fit, HOGN.out.il, HOGN.out.nl, HOGN.out.ol⟩
                have hmay := imay_calls g pv s0 s1 s2 ps (ls[0]?.getD []) (ls[1]?.getD []) (ls[2]?.getD []) wr hog.at (ints_of_own HTK.out.pl) HB.out (row_of_own HTK.out.st0) (row_of_own HTK.out.st1) (row_of_own HTK.out.st2)
                unfold MayP at hmay
                rw [mayI_gr HGC.out] at hmay
                have HOGW := Lib.hid hog
                obtain ⟨z, hz⟩ : ∃ z, mayI c.gr ps (ls[0]?.getD []) (ls[1]?.getD []) (ls[2]?.getD []) = z := ⟨_, rfl⟩
                rw [hz] at hmay HTE
                have g0 : ¬ (0 : Int) < (q.length : Int) := by omega
                have hbx := HTK.out.box
                have y0 : World.cell? wr ⟨w2.heap.size, 0, none⟩ = some g.iV := hbx.cell 0
                have y1 : World.cell? wr ⟨w2.heap.size, 1, none⟩ = some g.nV := hbx.cell 1
                have y2 : World.cell? wr ⟨w2.heap.size, 2, none⟩ = some g.oV := hbx.cell 2
                have y3 : World.cell? wr ⟨w2.heap.size, 3, none⟩ = some pv := hbx.cell 3
                have y4 : World.cell? wr ⟨w2.heap.size, 4, none⟩ = some s0 := hbx.cell 4
                have y5 : World.cell? wr ⟨w2.heap.size, 5, none⟩ = some s1 := hbx.cell 5
                have y6 : World.cell? wr ⟨w2.heap.size, 6, none⟩ = some s2 := hbx.cell 6
                clear hog hz hq0
                go_wp2_with fail
                refine hmay.mono ?_
                rintro e w6 ⟨rfl, hE6⟩
                clear y0 y1 y2 y3 y4 y5 y6 hmay
                have hx3 := hx2.trans hE6
                have hb2 := HB2.out.ext hx3
                replace hbx := hbx.ext hE6
                by_cases hz0 : z = 0
                · have hT6 := HTK.out.later hE6
                  have hone : Array.all #[g.iV, g.nV, g.oV, pv, s0, s1, s2] (·.oneCell') = true := by
                    obtain ⟨_, _, e1, _⟩ := HOGW.out.at.ins
                    obtain ⟨_, _, e2, _⟩ := HOGW.out.at.nodes
                    obtain ⟨_, _, e3, _⟩ := HOGW.out.at.outs
                    obtain ⟨_, _, e4, _⟩ := row_of_own hT6.pl
                    obtain ⟨_, _, e5, _⟩ := row_of_own hT6.st0
                    obtain ⟨_, _, e6, _⟩ := row_of_own hT6.st1
                    obtain ⟨_, _, e7, _⟩ := row_of_own hT6.st2
                    rw [e1, e2, e3, e4, e5, e6, e7]
                    simp [Value.oneCell']
                  have HO := Lib.hid hone
                  have hb2lt : w.heap.size < w5.heap.size := by have := (HB2.out.ext HEO.out).lt; exact this
                  have hb23 : w.heap.size < w3.heap.size := by have := HB2.out.lt; have := HS3.out; omega
                  have hsep : ∀ {e : TypeId} {sz : Nat} {u : Value} {n : Nat} {xs : List Value}, w6.ownsRow w5.heap.size e sz u n xs → (w6.setRow w.heap.size #[g.iV, g.nV, g.oV, pv, s0, s1, s2]).ownsRow w5.heap.size e sz u n xs := fun h =>
                    World.ownsRow.kept h (setRow_grown w6 w.heap.size _) (or_neT fun b hb e2 => by have := (h.lt b hb).1; have := Option.some.inj e2; omega)
                  have HFIN : Hid (PP (.returned (.tuple #[.agg #[g.iV, g.nV, g.oV, pv, s0, s1, s2], .int .i64 0])) (w6.setRow w.heap.size #[g.iV, g.nV, g.oV, pv, s0, s1, s2])) := by
                    have hti : ti = some (c, ps, ls) := by rw [HTE.out, if_pos ⟨hqn, hz0⟩]
                    refine HP.out _ _ ⟨fun e => (by rw [hti] at e; cases e), fun c1 pl1 Ls1 e => ?_, ext_setRow (HEW.out.trans hx3) _ (Nat.le_refl _)⟩
                    rw [hti] at e
                    simp only [Option.some.injEq, Prod.mk.injEq] at e
                    obtain ⟨rfl, rfl, rfl⟩ := e
                    exact ⟨g, pv, s0, s1, s2, HGC.out, rfl, ((HOGW.out.ext hE6).setRow hb23 _).at, ints_of_own (hsep hT6.pl), row_of_own (hsep hT6.st0), row_of_own (hsep hT6.st1), row_of_own (hsep hT6.st2)⟩
                  have y0 : World.cell? w6 ⟨w2.heap.size, 0, none⟩ = some g.iV := hbx.cell 0
                  have y1 : World.cell? w6 ⟨w2.heap.size, 1, none⟩ = some g.nV := hbx.cell 1
                  have y2 : World.cell? w6 ⟨w2.heap.size, 2, none⟩ = some g.oV := hbx.cell 2
                  have y3 : World.cell? w6 ⟨w2.heap.size, 3, none⟩ = some pv := hbx.cell 3
                  have y4 : World.cell? w6 ⟨w2.heap.size, 4, none⟩ = some s0 := hbx.cell 4
                  have y5 : World.cell? w6 ⟨w2.heap.size, 5, none⟩ = some s1 := hbx.cell 5
                  have y6 : World.cell? w6 ⟨w2.heap.size, 6, none⟩ = some s2 := hbx.cell 6
                  have g9 : (z != 0) = false := by rw [hz0]; rfl
                  clear hT6 hone hx3 hE6 hx2 hsep
                  go_wp2_with (first | (refine wpList_store_row rfl 32 _ _ rfl w.heap.size #[g.iV, g.nV, g.oV, pv, s0, s1, s2] rfl rfl 32 _ hb2 (by kernel_rfl) rfl HO.out ?_))
                  refine bodyPost_ret (v := .tuple #[.agg _, .int .i64 0]) (results_cell_tmp1 Tryz.results5 _ _ w.heap.size 32 _ (0, 0) _ rfl (setRow_heap _ _ _ _ _ _ hb2) (by kernel_rfl : Tryz.prog.underlying 32 = some (.struct (Tryz.prog.fieldsOf 32))) rfl (by kernel_rfl)) rfl ?_
                  exact HFIN.out
                · have HNX := HN.out (by rw [HTE.out, if_neg]; rintro ⟨_, e⟩; exact hz0 e)
                  have HX := Lib.hid (HNX _ (ext_setRow (HEW.out.trans hx3) #[.slice none 0 0, .slice none 0 0, .slice none 0 0, .slice none 0 0, .slice none 0 0, .slice none 0 0, .slice none 0 0] (Nat.le_refl _)))
                  have g9 : (z != 0) = true := by simpa using hz0
                  clear HNX hx3 hE6 hbx hx2
                  go_wp2_with (first | (refine wpList_store_row rfl 32 _ _ rfl w.heap.size #[.slice none 0 0, .slice none 0 0, .slice none 0 0, .slice none 0 0, .slice none 0 0, .slice none 0 0, .slice none 0 0] rfl rfl 32 _ hb2 (by kernel_rfl) rfl (by simp [Value.oneCell']) ?_))
                  refine bodyPost_ret (v := .tuple #[.agg _, .int .i64 2]) (results_cell_tmp1 Tryz.results5 _ _ w.heap.size 32 _ (0, 0) _ rfl (setRow_heap _ _ _ _ _ _ hb2) (by kernel_rfl : Tryz.prog.underlying 32 = some (.struct (Tryz.prog.fieldsOf 32))) rfl (by kernel_rfl)) rfl ?_
                  exact HX.out

end Go.Proofs.YtdhdbmfipkppiaaGreat
