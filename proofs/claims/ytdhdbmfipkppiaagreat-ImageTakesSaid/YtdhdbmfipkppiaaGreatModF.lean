/- The walks of model.Take and bytes.Equal. -/
import Derived.Test.YtdhdbmfipkppiaaGreatModE
set_option linter.unusedSimpArgs false
set_option linter.unusedVariables false
set_option linter.unnecessarySimpa false
namespace Go.Proofs.YtdhdbmfipkppiaaGreat
open Go.RowKit

def Nc.nd (n : Nc) : Nd := ⟨n.op, .slice none 0 0, n.k, n.st, n.pad, n.out, n.mul, n.sh, n.zero, n.th, n.tw, n.tc, .slice none 0 0, .slice none 0 0, n.ins, n.ws, n.bs⟩
def Gc.gr (c : Gc) : Gr := ⟨.slice none 0 0, .slice none 0 0, .slice none 0 0, c.ins, c.nodes.map Nc.nd, c.outs⟩
/-- What is wrong with a graph, by what it is. -/
def Gc.err (c : Gc) : Int := (valuesR c.gr).2

theorem goNodes_c : ∀ (ns : List Nd) (vals : List Vl) (t : Nat), goNodes ns vals t = goNodes ((ns.map Nd.c).map Nc.nd) vals t
  | [], _, _ => rfl
  | n :: ns, vals, t => by
    have e : ∀ l, valueR n l = valueR n.c.nd l := fun l => rfl
    have e2 : n.c.nd.ins = n.ins := rfl
    have e3 : n.c.nd.ws = n.ws := rfl
    simp only [List.map_cons, goNodes, ← e, e2, e3, goNodes_c ns]
theorem values_c (g : Gr) : valuesR g = valuesR g.c.gr := by
  have e1 : goesInR g = goesInR g.c.gr := by
    unfold goesInR
    simp only [Gr.c, Gc.gr, List.length_map]
    rfl
  have e2 := fun v t => goNodes_c g.nodes v t
  have e3 : g.c.gr.nodes = (g.nodes.map Nd.c).map Nc.nd := rfl
  have e4 : g.c.gr.ins = g.ins := rfl
  have e5 : g.c.gr.outs = g.outs := rfl
  unfold valuesR
  rw [e1, e3, e4, e5]
  simp only [← e2]
theorem err_eq (g : Gr) : g.c.err = (valuesR g).2 := by
  unfold Gc.err
  rw [← values_c]

set_option maxHeartbeats 800000 in
theorem equal_calls (u v : Value) (a b : List Int) (w : World) (hu : Ints .u8 w u a) (hv : Ints .u8 w v b) (ha : BytesL a) (hb : BytesL b) :
    Calls Tryz.prog 23 #[u, v] w fun e w' => e = .returned (.bool (decide (a = b))) ∧ w = w' := by
  have h1 := conv_bytes (P := Tryz.prog) hu (src := 22) (e := 5) (dst := 9) Tryz.underlying22 Tryz.underlying5 Tryz.underlying9
  have h2 := conv_bytes (P := Tryz.prog) hv (src := 22) (e := 5) (dst := 9) Tryz.underlying22 Tryz.underlying5 Tryz.underlying9
  have he := strEq ha hb
  clear hu hv ha hb
  go_enter Tryz.func23, Tryz.ntmps23
  go_wp2_with fail
  go_ret
  exact ⟨rfl, rfl⟩

theorem pGraph_eq {r0 r1 r2 r3 r4 r5 r6 : Rd} {c1 c2 c3 : Int} {ins : List Vl} {nodes : List Nc} {outs : List Int} (h1 : pOne r0 = (c1, r1)) (h2 : many pVl c1.toNat r1 = (ins, r2)) (h3 : pOne r2 = (c2, r3)) (h4 : many pNode c2.toNat r3 = (nodes, r4))
    (h5 : pOne r4 = (c3, r5)) (h6 : many pOne c3.toNat r5 = (outs, r6)) : pGraph r0 = (⟨ins, nodes, outs⟩, r6) := by
  simp only [pGraph, pMany, Ps.bind, Ps.ret, h1, h2, h3, h4, h5, h6]

/-- What these bytes are taken as. -/
def taken (bs : List Int) : Option (Gc × Nat) :=
  if (pGraph ⟨bs, false⟩).2.bad = false ∧ (pGraph ⟨bs, false⟩).1.err = 0 ∧ encG (pGraph ⟨bs, false⟩).1 = bs.take (bs.length - (pGraph ⟨bs, false⟩).2.l.length) then
    some ((pGraph ⟨bs, false⟩).1, bs.length - (pGraph ⟨bs, false⟩).2.l.length) else none

theorem node_of_rows {W : World} {base : Nat} {n : Nd} (h : OwnAll W base (rowsN n)) (hf : NdFit n) : nodeAt W n :=
  ⟨ints_of_own (h.own ⟨3, 1, n.inV, n.ins.length, n.ins.map (.int .i64)⟩ (by simp [rowsN])), ints_of_own (h.own ⟨110, 1, n.wV, n.ws.length, n.ws.map (.int .i8)⟩ (by simp [rowsN])), ints_of_own (h.own ⟨21, 1, n.bV, n.bs.length, n.bs.map (.int .i32)⟩ (by simp [rowsN])),
    hf.bs, hf.ws, hf.il, by have := hf.wl; omega, hf.bl⟩
theorem OwnAll.part {W : World} {base : Nat} {l l' : List RowF} (h : OwnAll W base l) (hs : l'.Sublist l) : OwnAll W base l' := ⟨fun x hx => h.own x (hs.subset hx), List.Pairwise.sublist hs h.sep⟩

/-- The rows of a graph that is a call's own. -/
def gRows (g : Gr) : List RowF := ⟨3, 1, g.oV, g.outs.length, g.outs.map (.int .i64)⟩ :: (⟨67, 14, g.nV, g.nodes.length, g.nodes.flatMap Nd.cs⟩ :: ⟨41, 4, g.iV, g.ins.length, g.ins.flatMap Vl.cs⟩ :: g.nodes.flatMap rowsN)
structure OwnG (base : Nat) (W : World) (g : Gr) : Prop where
  own : OwnAll W base (gRows g)
  fit : ∀ n ∈ g.nodes, NdFit n
  il : g.ins.length ≤ 255
  nl : g.nodes.length ≤ 255
  ol : g.outs.length ≤ 255
theorem OwnG.at {base : Nat} {W : World} {g : Gr} (h : OwnG base W g) : GrAt W g := by
  refine ⟨row_of_own (h.own.own ⟨41, 4, g.iV, g.ins.length, g.ins.flatMap Vl.cs⟩ (by simp [gRows])), row_of_own (h.own.own ⟨67, 14, g.nV, g.nodes.length, g.nodes.flatMap Nd.cs⟩ (by simp [gRows])), ints_of_own (h.own.own ⟨3, 1, g.oV, g.outs.length, g.outs.map (.int .i64)⟩ (by simp [gRows])), fun n hn => ?_, h.il, h.nl, h.ol⟩
  refine node_of_rows (h.own.part ?_) (h.fit n hn)
  exact (((List.sublist_flatten_of_mem (List.mem_map_of_mem (f := rowsN) hn)).cons _).cons _).cons _
theorem OwnG.ext {base : Nat} {W W' : World} {g : Gr} (h : OwnG base W g) (e : Ext W W') : OwnG base W' g := ⟨h.own.ext e, h.fit, h.il, h.nl, h.ol⟩
theorem OwnG.setRow {base b : Nat} {W : World} {g : Gr} (h : OwnG base W g) (hb : b < base) (cs : Array Value) : OwnG base (W.setRow b cs) g := ⟨h.own.grown (setRow_grown W b cs) hb, h.fit, h.il, h.nl, h.ol⟩
theorem OwnG.one {base : Nat} {W : World} {g : Gr} (h : OwnG base W g) : Array.all #[g.iV, g.nV, g.oV] (·.oneCell') = true := by
  obtain ⟨_, _, q1, _⟩ := h.at.ins
  obtain ⟨_, _, q2, _⟩ := h.at.nodes
  obtain ⟨_, _, q3, _⟩ := h.at.outs
  rw [q1, q2, q3]
  simp [Value.oneCell']

theorem results_cell_tmp2 {P : Program} {fn : Func} {p t u : Tmp} {ty : TypeId} (h : fn.results = #[.cell p ty, .tmp t, .tmp u]) (tmps : Array Value) (w : World) (g : Nat) (T : TypeId) (cs : Array Value) (fr : Nat × Nat) (d : TypeDesc)
    (hp : tmps.getD p undef = .pointer (some ⟨g, 0, none⟩)) (hg : w.heap[g]? = some (.cells cs T fr))
    (hu : P.underlying ty = some d) (hd : (match d with | .struct _ | .array _ _ => true | _ => false) = true) (hi : (P.info? ty).map (·.size) = some cs.size) :
    (results fn tmps).run P w = .ok (.tuple #[.agg cs, tmps.getD t undef, tmps.getD u undef]) w := by
  have hp' : tmps[p]?.getD undef = .pointer (some ⟨g, 0, none⟩) := by simpa using hp
  simp [results, h, hp', asAddr, run_loadVar_row w g T ty cs fr d hg hu hd hi]

def TakePost (bs : List Int) (w : World) (e : Ending) (w' : World) : Prop :=
  (taken bs = none → e = .returned (.tuple #[.agg #[.slice none 0 0, .slice none 0 0, .slice none 0 0], .int .i64 0, .int .i64 2])) ∧
  (∀ c n, taken bs = some (c, n) → ∃ g : Gr, g.c = c ∧ e = .returned (.tuple #[.agg #[g.iV, g.nV, g.oV], .int .i64 n, .int .i64 0]) ∧ OwnG w.heap.size w' g) ∧ Ext w w'

set_option maxRecDepth 8000 in
set_option maxHeartbeats 12800000 in
theorem take_calls (v : Value) (bs : List Int) (w : World) (hv : Ints .u8 w v bs) (hb : BytesL bs) :
    Calls Tryz.prog 10 #[v] w (TakePost bs w) := by
  obtain ⟨⟨c1, r1⟩, h1⟩ : ∃ x, pOne ⟨bs, false⟩ = x := ⟨_, rfl⟩
  obtain ⟨⟨ins, r2⟩, h2⟩ : ∃ x, many pVl c1.toNat r1 = x := ⟨_, rfl⟩
  obtain ⟨⟨c2, r3⟩, h3⟩ : ∃ x, pOne r2 = x := ⟨_, rfl⟩
  obtain ⟨⟨nodes, r4⟩, h4⟩ : ∃ x, many pNode c2.toNat r3 = x := ⟨_, rfl⟩
  obtain ⟨⟨c3, r5⟩, h5⟩ : ∃ x, pOne r4 = x := ⟨_, rfl⟩
  obtain ⟨⟨outs, r6⟩, h6⟩ : ∃ x, many pOne c3.toNat r5 = x := ⟨_, rfl⟩
  have hpg := pGraph_eq h1 h2 h3 h4 h5 h6
  have hpre : ∃ u, bs = u ++ r6.l := by
    have := ext_graph.pre ⟨bs, false⟩
    rw [hpg] at this
    exact this
  have HT : Hid (taken bs = if r6.bad = false ∧ (⟨ins, nodes, outs⟩ : Gc).err = 0 ∧ encG ⟨ins, nodes, outs⟩ = bs.take (bs.length - r6.l.length) then some (⟨ins, nodes, outs⟩, bs.length - r6.l.length) else none) := by
    show _ = _
    unfold taken
    rw [hpg]
  have HP : Hid (∀ e w', ((taken bs = none → e = .returned (.tuple #[.agg #[.slice none 0 0, .slice none 0 0, .slice none 0 0], .int .i64 0, .int .i64 2])) ∧
    (∀ c n, taken bs = some (c, n) → ∃ g : Gr, g.c = c ∧ e = .returned (.tuple #[.agg #[g.iV, g.nV, g.oV], .int .i64 n, .int .i64 0]) ∧ OwnG w.heap.size w' g) ∧ Ext w w') → TakePost bs w e w') := fun e w' h => h
  have HN : Hid (∀ e w', (r6.bad = true ∨ (⟨ins, nodes, outs⟩ : Gc).err ≠ 0 ∨ encG ⟨ins, nodes, outs⟩ ≠ bs.take (bs.length - r6.l.length)) → e = .returned (.tuple #[.agg #[.slice none 0 0, .slice none 0 0, .slice none 0 0], .int .i64 0, .int .i64 2]) → Ext w w' → TakePost bs w e w') := by
    intro e w' hc he hE
    have : taken bs = none := by
      rw [HT.out, if_neg]
      rintro ⟨k1, k2, k3⟩
      rcases hc with hc | hc | hc
      · rw [k1] at hc; cases hc
      · exact hc k2
      · exact hc k3
    exact HP.out e w' ⟨fun _ => he, (fun c n h => by rw [this] at h; cases h), hE⟩
  generalize TakePost bs w = PP at *
  obtain ⟨A, c, rfl, hlc, hcm, _⟩ := id hv.form
  unfold maxLen at hcm
  have hE1 : Ext w ((((w.alloc (.cells #[.slice none 0 0, .slice none 0 0, .slice none 0 0] 28)).alloc (.cells #[.slice A bs.length c, .bool false] 60)).alloc (.cells #[.pointer (some ⟨w.heap.size + 1, 0, none⟩)] 58)).alloc (.cells #[.slice none 0 0, .slice none 0 0, .slice none 0 0] 28)) := (((ext_alloc w _).trans (ext_alloc _ _)).trans (ext_alloc _ _)).trans (ext_alloc _ _)
  have hb0 : Blk ((((w.alloc (.cells #[.slice none 0 0, .slice none 0 0, .slice none 0 0] 28)).alloc (.cells #[.slice A bs.length c, .bool false] 60)).alloc (.cells #[.pointer (some ⟨w.heap.size + 1, 0, none⟩)] 58)).alloc (.cells #[.slice none 0 0, .slice none 0 0, .slice none 0 0] 28)) w.heap.size #[.slice none 0 0, .slice none 0 0, .slice none 0 0] 28 := (((Blk.new w _ _).ext (ext_alloc _ _)).ext (ext_alloc _ _)).ext (ext_alloc _ _)
  have hbB : Blk ((((w.alloc (.cells #[.slice none 0 0, .slice none 0 0, .slice none 0 0] 28)).alloc (.cells #[.slice A bs.length c, .bool false] 60)).alloc (.cells #[.pointer (some ⟨w.heap.size + 1, 0, none⟩)] 58)).alloc (.cells #[.slice none 0 0, .slice none 0 0, .slice none 0 0] 28)) (w.heap.size + 1) #[.slice A bs.length c, .bool false] 60 := by
    have := ((Blk.new (w.alloc (.cells #[.slice none 0 0, .slice none 0 0, .slice none 0 0] 28)) #[.slice A bs.length c, .bool false] 60).ext (ext_alloc _ (.cells #[.pointer (some ⟨w.heap.size + 1, 0, none⟩)] 58))).ext (ext_alloc _ (.cells #[.slice none 0 0, .slice none 0 0, .slice none 0 0] 28))
    simpa using this
  have hbp : Blk ((((w.alloc (.cells #[.slice none 0 0, .slice none 0 0, .slice none 0 0] 28)).alloc (.cells #[.slice A bs.length c, .bool false] 60)).alloc (.cells #[.pointer (some ⟨w.heap.size + 1, 0, none⟩)] 58)).alloc (.cells #[.slice none 0 0, .slice none 0 0, .slice none 0 0] 28)) (w.heap.size + 1 + 1) #[.pointer (some ⟨w.heap.size + 1, 0, none⟩)] 58 := by
    have := (Blk.new ((w.alloc (.cells #[.slice none 0 0, .slice none 0 0, .slice none 0 0] 28)).alloc (.cells #[.slice A bs.length c, .bool false] 60)) #[.pointer (some ⟨w.heap.size + 1, 0, none⟩)] 58).ext (ext_alloc _ (.cells #[.slice none 0 0, .slice none 0 0, .slice none 0 0] 28))
    simpa using this
  have hbg : Blk ((((w.alloc (.cells #[.slice none 0 0, .slice none 0 0, .slice none 0 0] 28)).alloc (.cells #[.slice A bs.length c, .bool false] 60)).alloc (.cells #[.pointer (some ⟨w.heap.size + 1, 0, none⟩)] 58)).alloc (.cells #[.slice none 0 0, .slice none 0 0, .slice none 0 0] 28)) (w.heap.size + 1 + 1 + 1) #[.slice none 0 0, .slice none 0 0, .slice none 0 0] 28 := by
    have := Blk.new (((w.alloc (.cells #[.slice none 0 0, .slice none 0 0, .slice none 0 0] 28)).alloc (.cells #[.slice A bs.length c, .bool false] 60)).alloc (.cells #[.pointer (some ⟨w.heap.size + 1, 0, none⟩)] 58)) #[.slice none 0 0, .slice none 0 0, .slice none 0 0] 28
    simpa using this
  go_enter Tryz.func10, Tryz.ntmps10
  go_upto_region 3 with fail
  generalize World.alloc (World.alloc (World.alloc (World.alloc w _) _) _) _ = w1 at *
  have hS : ClS w w1 (w.heap.size + 1) (w.heap.size + 1 + 1) (w.heap.size + 1 + 1 + 1) ⟨bs, false⟩ #[.slice none 0 0, .slice none 0 0, .slice none 0 0] 28 [⟨41, 4, .slice none 0 0, 0, []⟩, ⟨67, 14, .slice none 0 0, 0, []⟩, ⟨3, 1, .slice none 0 0, 0, []⟩] := by
    refine ⟨⟨⟨_, hbB, hv⟩, hE1, by omega, hb⟩, hbp, hbg, ⟨fun x hx => ?_, ?_⟩, by omega⟩
    · simp only [List.mem_cons, List.not_mem_nil, or_false] at hx
      rcases hx with rfl | rfl | rfl <;> exact ⟨rfl, .inl ⟨rfl, rfl⟩⟩
    · refine List.pairwise_cons.2 ⟨fun x _ k hk => by simp [Value.ownBlock] at hk, List.pairwise_cons.2 ⟨fun x _ k hk => by simp [Value.ownBlock] at hk, List.pairwise_singleton _ _⟩⟩
  have F : Fr (w.heap.size + 1 + 1 + 1) (w.heap.size + 1) w1 w1 := Fr.refl _ _ _
  obtain ⟨B, hB⟩ : ∃ B, w.heap.size + 1 = B := ⟨_, rfl⟩
  obtain ⟨b1, hb1⟩ : ∃ C, B + 1 = C := ⟨_, rfl⟩
  obtain ⟨b3, hb3⟩ : ∃ C, b1 + 1 = C := ⟨_, rfl⟩
  simp only [hB, hb1, hb3] at hS F
  clear hbB hbp hbg
  simp only [hB, hb1, hb3]
  go_upto_region 3 with fail
  have q0 : ∀ W', Keeps [b1] w1 W' → W'.cell? ⟨b1, 0, none⟩ = some (.pointer (some ⟨B, 0, none⟩)) := fun W' hW => (hW.cell (by simp)).trans (hS.p1.cell 0)
  have hS0 := hS.ext (Ext.drew w1)
  have F0 : Fr b3 B w1 w1.drew := Fr.ext (Ext.drew w1)
  have hct := one_calls w w1.drew B ⟨bs, false⟩ hS0.rd
  unfold PsPost at hct
  have hrg := one_range hS0.rd.bytes
  rw [h1] at hct hrg
  try simp only at hrg
  obtain ⟨c1, rfl⟩ := Int.eq_ofNat_of_zero_le hrg.1
  have eg := enters_of Tryz.func27 (by kernel_rfl) rfl
  refine wp_region_S (Keeps [b1] w1) [(0, true), (1, true), (3, true), (2, false), (4, false)] (by kernel_rfl) (by kernel_rfl) (fun _ _ d _ _ h => by cases d <;> exact h) (Keeps.drew _ _) ?_
  simp only [pickE, List.getElem?_cons_zero, List.getElem?_cons_succ]
  repeat (first | (refine wpF_pure (by rfl) (fun W hW => by go_simp; with_reducible rfl) ?_; simp only [Act.put, List.setIfInBounds_toArray, List.set_cons_zero, List.set_cons_succ]) | (refine wpF_skip (by rfl) ?_; simp only [Act.put, List.setIfInBounds_toArray, List.set_cons_zero, List.set_cons_succ]))
  generalize w1.drew = y0 at *
  refine wpF_step (by rfl) (fun K hK => ?_)
  go_simp
  refine hct.mono ?_
  rintro e y1 ⟨rfl, hr, hg⟩
  have hS1 := hS0.read hr hg
  have F1 := F0.trans (Fr.grown (lo := b3) (B := B) hg (fun k hk => .inl (by cases hk; rfl)))
  refine hK _ _ (hS.keep1 F1) ?_
  clear hK K hct hr hg hS0 F0
  try simp only [Act.put, List.setIfInBounds_toArray, List.set_cons_zero, List.set_cons_succ]
  repeat (first | (refine wpF_pure (by rfl) (fun W hW => by go_simp; with_reducible rfl) ?_; simp only [Act.put, List.setIfInBounds_toArray, List.set_cons_zero, List.set_cons_succ]) | (refine wpF_skip (by rfl) ?_; simp only [Act.put, List.setIfInBounds_toArray, List.set_cons_zero, List.set_cons_succ]))
  rw [Int.toNat_natCast] at h2
  have hmr := many_any pVl B c1 27 #[.pointer (some ⟨b3, 0, none⟩), .pointer (some ⟨b1, 0, none⟩)] y1 r1 (fun W r zs => ∃ v, ClS w W B b1 b3 r #[v, .slice none 0 0, .slice none 0 0] 28 [⟨41, 4, v, zs.length, zs.flatMap Vl.cs⟩, ⟨67, 14, .slice none 0 0, 0, []⟩, ⟨3, 1, .slice none 0 0, 0, []⟩] ∧ Fr b3 B y1 W)
    (by omega) ⟨_, hS1, Fr.refl _ _ _⟩ eg (fun W r zs h => by
      obtain ⟨v, h, _⟩ := h
      obtain ⟨⟨lv, k1, _⟩, _⟩ := h.rd
      exact k1.cell 1) (fun W r zs h hl => by
      obtain ⟨v, h, hF⟩ := h
      refine (take1_calls w W B b1 b3 r _ _ _ v _ _ h rfl (by omega)).mono ?_
      rintro e w' ⟨rfl, ⟨v', k1⟩, k2⟩
      refine ⟨rfl, v', ?_, hF.trans k2⟩
      rw [List.length_append, List.flatMap_append]
      simpa using k1)
  have hil := many_len pVl c1 r1
  rw [h2] at hmr hil
  simp only at hmr hil
  refine wpF_step (by rfl) (fun K hK => ?_)
  go_simp
  refine hmr.mono ?_
  rintro e w2 ⟨rfl, iv, hS2, F2⟩
  refine hK _ _ (hS.keep1 (F1.trans F2)) ?_
  clear hK K hmr q0 hS1
  replace F := F.trans (F1.trans F2)
  clear F1 F2 hS eg
  try simp only [Act.put, List.setIfInBounds_toArray, List.set_cons_zero, List.set_cons_succ]
  refine wpF_nil ?_
  have hS := hS2
  clear hS2
  have hil' : ins.length ≤ 255 := by omega
  clear hil hrg h1 h2
  go_upto_region 4 with fail
  have q0 : ∀ W', Keeps [b1] w2 W' → W'.cell? ⟨b1, 0, none⟩ = some (.pointer (some ⟨B, 0, none⟩)) := fun W' hW => (hW.cell (by simp)).trans (hS.p1.cell 0)
  have hS0 := hS.ext (Ext.drew w2)
  have F0 : Fr b3 B w2 w2.drew := Fr.ext (Ext.drew w2)
  have hct := one_calls w w2.drew B r2 hS0.rd
  unfold PsPost at hct
  have hrg := one_range hS0.rd.bytes
  rw [h3] at hct hrg
  try simp only at hrg
  obtain ⟨c2, rfl⟩ := Int.eq_ofNat_of_zero_le hrg.1
  have eg := enters_of Tryz.func30 (by kernel_rfl) rfl
  refine wp_region_S (Keeps [b1] w2) [(0, true), (1, true), (3, true), (2, false), (4, false)] (by kernel_rfl) (by kernel_rfl) (fun _ _ d _ _ h => by cases d <;> exact h) (Keeps.drew _ _) ?_
  simp only [pickE, List.getElem?_cons_zero, List.getElem?_cons_succ]
  repeat (first | (refine wpF_pure (by rfl) (fun W hW => by go_simp; with_reducible rfl) ?_; simp only [Act.put, List.setIfInBounds_toArray, List.set_cons_zero, List.set_cons_succ]) | (refine wpF_skip (by rfl) ?_; simp only [Act.put, List.setIfInBounds_toArray, List.set_cons_zero, List.set_cons_succ]))
  generalize w2.drew = y0 at *
  refine wpF_step (by rfl) (fun K hK => ?_)
  go_simp
  refine hct.mono ?_
  rintro e y1 ⟨rfl, hr, hg⟩
  have hS1 := hS0.read hr hg
  have F1 := F0.trans (Fr.grown (lo := b3) (B := B) hg (fun k hk => .inl (by cases hk; rfl)))
  refine hK _ _ (hS.keep1 F1) ?_
  clear hK K hct hr hg hS0 F0
  try simp only [Act.put, List.setIfInBounds_toArray, List.set_cons_zero, List.set_cons_succ]
  repeat (first | (refine wpF_pure (by rfl) (fun W hW => by go_simp; with_reducible rfl) ?_; simp only [Act.put, List.setIfInBounds_toArray, List.set_cons_zero, List.set_cons_succ]) | (refine wpF_skip (by rfl) ?_; simp only [Act.put, List.setIfInBounds_toArray, List.set_cons_zero, List.set_cons_succ]))
  rw [Int.toNat_natCast] at h4
  replace hS1 : ClS w y1 B b1 b3 r3 #[iv, .slice none 0 0, .slice none 0 0] 28 (⟨67, 14, .slice none 0 0, 0, []⟩ :: [⟨41, 4, iv, ins.length, ins.flatMap Vl.cs⟩, ⟨3, 1, .slice none 0 0, 0, []⟩]) := hS1.swap
  have hmr := many_any pNode B c2 30 #[.pointer (some ⟨b3, 0, none⟩), .pointer (some ⟨b1, 0, none⟩)] y1 r3 (fun W r zs => ∃ (v : Value) (ns : List Nd), ns.map Nd.c = zs ∧ (∀ n ∈ ns, NdFit n) ∧ ClS w W B b1 b3 r #[iv, v, .slice none 0 0] 28 (⟨67, 14, v, ns.length, ns.flatMap Nd.cs⟩ :: ([⟨41, 4, iv, ins.length, ins.flatMap Vl.cs⟩, ⟨3, 1, .slice none 0 0, 0, []⟩] ++ ns.flatMap rowsN)) ∧ Fr b3 B y1 W)
    (by omega) ⟨_, [], rfl, (fun n hn => by cases hn), hS1, Fr.refl _ _ _⟩ eg (fun W r zs h => by
      obtain ⟨v, ns, _, _, h, _⟩ := h
      obtain ⟨⟨lv, k1, _⟩, _⟩ := h.rd
      exact k1.cell 1) (fun W r zs h hl => by
      obtain ⟨v, ns, hz, hf, h, hF⟩ := h
      have hnl : ns.length = zs.length := by rw [← hz, List.length_map]
      refine (take2_calls w W B b1 b3 r _ _ _ v _ _ h rfl (by omega)).mono ?_
      rintro e w' ⟨rfl, ⟨v', n, hn, hfn, k1⟩, k2⟩
      refine ⟨rfl, v', ns ++ [n], by rw [List.map_append, hz, List.map_cons, hn]; rfl, fun m hm => ?_, ?_, hF.trans k2⟩
      · rcases List.mem_append.1 hm with hm | hm
        · exact hf m hm
        · obtain rfl := List.mem_singleton.1 hm
          exact hfn
      · rw [List.length_append, List.flatMap_append, List.flatMap_append, ← List.append_assoc]
        simpa using k1)
  have hnl := many_len pNode c2 r3
  rw [h4] at hmr hnl
  simp only at hmr hnl
  refine wpF_step (by rfl) (fun K hK => ?_)
  go_simp
  refine hmr.mono ?_
  rintro e w3 ⟨rfl, nv, ns, hns, hfit, hS2, F2⟩
  refine hK _ _ (hS.keep1 (F1.trans F2)) ?_
  clear hK K hmr q0 hS1
  replace F := F.trans (F1.trans F2)
  clear F1 F2 hS eg
  try simp only [Act.put, List.setIfInBounds_toArray, List.set_cons_zero, List.set_cons_succ]
  refine wpF_nil ?_
  have hS := hS2
  clear hS2
  have hnl' : ns.length ≤ 255 := by
    have : nodes.length = ns.length := by rw [← hns, List.length_map]
    omega
  clear hnl hrg h3 h4
  go_upto_region 5 with fail
  have q0 : ∀ W', Keeps [b1] w3 W' → W'.cell? ⟨b1, 0, none⟩ = some (.pointer (some ⟨B, 0, none⟩)) := fun W' hW => (hW.cell (by simp)).trans (hS.p1.cell 0)
  have hS0 := hS.ext (Ext.drew w3)
  have F0 : Fr b3 B w3 w3.drew := Fr.ext (Ext.drew w3)
  have hct := one_calls w w3.drew B r4 hS0.rd
  unfold PsPost at hct
  have hrg := one_range hS0.rd.bytes
  rw [h5] at hct hrg
  try simp only at hrg
  obtain ⟨c3, rfl⟩ := Int.eq_ofNat_of_zero_le hrg.1
  have eg := enters_of Tryz.func32 (by kernel_rfl) rfl
  refine wp_region_S (Keeps [b1] w3) [(0, true), (1, true), (3, true), (2, false), (4, false)] (by kernel_rfl) (by kernel_rfl) (fun _ _ d _ _ h => by cases d <;> exact h) (Keeps.drew _ _) ?_
  simp only [pickE, List.getElem?_cons_zero, List.getElem?_cons_succ]
  repeat (first | (refine wpF_pure (by rfl) (fun W hW => by go_simp; with_reducible rfl) ?_; simp only [Act.put, List.setIfInBounds_toArray, List.set_cons_zero, List.set_cons_succ]) | (refine wpF_skip (by rfl) ?_; simp only [Act.put, List.setIfInBounds_toArray, List.set_cons_zero, List.set_cons_succ]))
  generalize w3.drew = y0 at *
  refine wpF_step (by rfl) (fun K hK => ?_)
  go_simp
  refine hct.mono ?_
  rintro e y1 ⟨rfl, hr, hg⟩
  have hS1 := hS0.read hr hg
  have F1 := F0.trans (Fr.grown (lo := b3) (B := B) hg (fun k hk => .inl (by cases hk; rfl)))
  refine hK _ _ (hS.keep1 F1) ?_
  clear hK K hct hr hg hS0 F0
  try simp only [Act.put, List.setIfInBounds_toArray, List.set_cons_zero, List.set_cons_succ]
  repeat (first | (refine wpF_pure (by rfl) (fun W hW => by go_simp; with_reducible rfl) ?_; simp only [Act.put, List.setIfInBounds_toArray, List.set_cons_zero, List.set_cons_succ]) | (refine wpF_skip (by rfl) ?_; simp only [Act.put, List.setIfInBounds_toArray, List.set_cons_zero, List.set_cons_succ]))
  rw [Int.toNat_natCast] at h6
  replace hS1 : ClS w y1 B b1 b3 r5 #[iv, nv, .slice none 0 0] 28 (⟨3, 1, .slice none 0 0, 0, []⟩ :: (⟨67, 14, nv, ns.length, ns.flatMap Nd.cs⟩ :: ⟨41, 4, iv, ins.length, ins.flatMap Vl.cs⟩ :: ns.flatMap rowsN)) :=
    ⟨hS1.rd, hS1.p1, hS1.nb, hS1.own.perm (((List.Perm.swap _ _ _).cons _).trans (List.Perm.swap _ _ _)), hS1.lt⟩
  have hmr := many_row w y1 B b1 b3 32 2 c3 r5 #[iv, nv, .slice none 0 0] 28 3 _ (.slice none 0 0) pOne (.int .i64) hS1 rfl (by omega) eg (fun W r cs v n xs h hi hn => take3_calls w W B _ b3 r cs _ _ v n xs h hi hn)
  have hol := many_len pOne c3 r5
  rw [h6] at hmr hol
  simp only at hmr hol
  refine wpF_step (by rfl) (fun K hK => ?_)
  go_simp
  refine hmr.mono ?_
  rintro e w4 ⟨rfl, ov, hS2, F2⟩
  refine hK _ _ (hS.keep1 (F1.trans F2)) ?_
  clear hK K hmr q0 hS1
  replace F := F.trans (F1.trans F2)
  clear F1 F2 hS eg
  try simp only [Act.put, List.setIfInBounds_toArray, List.set_cons_zero, List.set_cons_succ]
  refine wpF_nil ?_
  have hol' : outs.length ≤ 255 := by omega
  replace hS2 : ClS w w4 B b1 b3 r6 #[iv, nv, ov] 28 (⟨3, 1, ov, outs.length, outs.map (.int .i64)⟩ :: (⟨67, 14, nv, ns.length, ns.flatMap Nd.cs⟩ :: ⟨41, 4, iv, ins.length, ins.flatMap Vl.cs⟩ :: ns.flatMap rowsN)) := by simpa using hS2
  clear hol hrg h5 h6
  have hgr : ∀ W, OwnAll W (b3 + 1) (⟨3, 1, ov, outs.length, outs.map (.int .i64)⟩ :: (⟨67, 14, nv, ns.length, ns.flatMap Nd.cs⟩ :: ⟨41, 4, iv, ins.length, ins.flatMap Vl.cs⟩ :: ns.flatMap rowsN)) → OwnG w.heap.size W ⟨iv, nv, ov, ins, ns, outs⟩ :=
    fun W hW => ⟨hW.lower (by omega), hfit, hil', hnl', hol'⟩
  have hg4 := (hgr w4 hS2.own).at
  have hgc : (⟨iv, nv, ov, ins, ns, outs⟩ : Gr).c = ⟨ins, nodes, outs⟩ := by
    show (⟨ins, ns.map Nd.c, outs⟩ : Gc) = _
    rw [hns]
  obtain ⟨⟨lv, hbl, hlv⟩, _, _, _⟩ := hS2.rd
  obtain ⟨u, hu⟩ := hpre
  obtain ⟨Al, cl, el, hl1, hl2, _⟩ := id hlv.form
  unfold maxLen at hl2
  subst el
  have hle : r6.l.length ≤ bs.length := by rw [hu]; simp
  clear hu
  have p0 : World.cell? w4 ⟨b1, 0, none⟩ = some (.pointer (some ⟨B, 0, none⟩)) := hS2.p1.cell 0
  have p1 : World.cell? w4 ⟨B, 0, none⟩ = some (.slice Al r6.l.length cl) := hbl.cell 0
  have d0 : World.cell? w4 ⟨b3, 0, none⟩ = some iv := hS2.nb.cell 0
  have d1 : World.cell? w4 ⟨b3, 1, none⟩ = some nv := hS2.nb.cell 1
  have d2 : World.cell? w4 ⟨b3, 2, none⟩ = some ov := hS2.nb.cell 2
  have hm : (bs.length : Int) - (r6.l.length : Int) = ((bs.length - r6.l.length : Nat) : Int) := by omega
  have hmle : bs.length - r6.l.length ≤ bs.length := by omega
  have hb04 : Blk w4 w.heap.size #[.slice none 0 0, .slice none 0 0, .slice none 0 0] 28 := (F.block _ (by omega) hb0.lt (by omega)).trans hb0
  have hE4 : Ext w w4 := by
    have k := hE1
    exact ⟨F.os.trans k.os, F.tape.trans k.tape, F.output.trans k.output, Nat.le_trans k.size F.size, fun x hx => (F.block x (by omega) (Nat.lt_of_lt_of_le hx k.size) (by omega)).trans (k.block x hx)⟩
  have hput := modelPut_calls ⟨iv, nv, ov, ins, ns, outs⟩ w4 hg4
  unfold PutPost at hput
  rw [← err_eq, hgc] at hput
  have hpB := hS2.p1
  have hown4 := hS2.own
  have hnB := hS2.nb
  clear F hS2 hE1 hb0
  generalize (⟨ins, nodes, outs⟩ : Gc).err = z at *
  go_upto_region 7 with fail
  clear p1
  have HE := Lib.hid (show (⟨iv, nv, ov, ins, ns, outs⟩ : Gr).c = ⟨ins, nodes, outs⟩ from hgc)
  clear hgc
  generalize hmm : bs.length - r6.l.length = m at *
  have HH := Lib.hid hm
  clear hm
  go_wp2_with fail
  refine hput.mono ?_
  rintro e w5 ⟨hz0, hz1, h5⟩
  clear hput p0 d0 d1 d2
  have hz5 := hb04.ext h5
  have HEX := Lib.hid (hE4.trans h5)
  have hpB5 := hpB.ext h5
  have hbl5 := hbl.ext h5
  have hnB5 := hnB.ext h5
  have p0 : World.cell? w5 ⟨b1, 0, none⟩ = some (.pointer (some ⟨B, 0, none⟩)) := hpB5.cell 0
  have p1 : World.cell? w5 ⟨B, 1, none⟩ = some (.bool r6.bad) := hbl5.cell 1
  have d0 : World.cell? w5 ⟨b3, 0, none⟩ = some iv := hnB5.cell 0
  have d1 : World.cell? w5 ⟨b3, 1, none⟩ = some nv := hnB5.cell 1
  have d2 : World.cell? w5 ⟨b3, 2, none⟩ = some ov := hnB5.cell 2
  have hone : Array.all #[iv, nv, ov] (·.oneCell') = true := by
    obtain ⟨_, _, q1, _⟩ := hg4.ins
    obtain ⟨_, _, q2, _⟩ := hg4.nodes
    obtain ⟨_, _, q3, _⟩ := hg4.outs
    simp only at q1 q2 q3
    rw [q1, q2, q3]
    simp [Value.oneCell']
  have HO := Lib.hid hone
  have hown5 := hown4.ext h5
  have hv5 := hv.ext (hE4.trans h5)
  clear hone hpB hbl hnB hpB5 hbl5 hnB5 hg4 hb04 hE4 hlv h5 hown4
  cases hbad : r6.bad with
  | true =>
    rw [hbad] at p1
    by_cases hz : z = 0
    · obtain ⟨pv, rfl, _⟩ := hz0 hz
      have hx := ext_setRow HEX.out #[.slice none 0 0, .slice none 0 0, .slice none 0 0] (Nat.le_refl _)
      go_wp2_with (first | (refine wpList_store_row rfl 28 _ _ rfl w.heap.size #[.slice none 0 0, .slice none 0 0, .slice none 0 0] rfl rfl 28 _ hz5 (by kernel_rfl) rfl (by simp [Value.oneCell']) ?_))
      refine bodyPost_ret (v := .tuple #[.agg _, .int .i64 0, .int .i64 2]) (results_cell_tmp2 Tryz.results10 _ _ w.heap.size 28 _ (0, 0) _ rfl (setRow_heap _ _ _ _ _ _ hz5) (by kernel_rfl : Tryz.prog.underlying 28 = some (.struct (Tryz.prog.fieldsOf 28))) rfl (by kernel_rfl)) rfl ?_
      exact HN.out _ _ (.inl hbad) rfl hx
    · have e1 := hz1 hz
      subst e1
      have hx := ext_setRow HEX.out #[.slice none 0 0, .slice none 0 0, .slice none 0 0] (Nat.le_refl _)
      go_wp2_with (first | (refine wpList_store_row rfl 28 _ _ rfl w.heap.size #[.slice none 0 0, .slice none 0 0, .slice none 0 0] rfl rfl 28 _ hz5 (by kernel_rfl) rfl (by simp [Value.oneCell']) ?_))
      refine bodyPost_ret (v := .tuple #[.agg _, .int .i64 0, .int .i64 2]) (results_cell_tmp2 Tryz.results10 _ _ w.heap.size 28 _ (0, 0) _ rfl (setRow_heap _ _ _ _ _ _ hz5) (by kernel_rfl : Tryz.prog.underlying 28 = some (.struct (Tryz.prog.fieldsOf 28))) rfl (by kernel_rfl)) rfl ?_
      exact HN.out _ _ (.inl hbad) rfl hx
  | false =>
    rw [hbad] at p1
    by_cases hz : z = 0
    case neg =>
      have e1 := hz1 hz
      subst e1
      have t9 : (z != 0) = true := by simp [hz]
      have hx := ext_setRow HEX.out #[.slice none 0 0, .slice none 0 0, .slice none 0 0] (Nat.le_refl _)
      go_wp2_with (first | (refine wpList_store_row rfl 28 _ _ rfl w.heap.size #[.slice none 0 0, .slice none 0 0, .slice none 0 0] rfl rfl 28 _ hz5 (by kernel_rfl) rfl (by simp [Value.oneCell']) ?_))
      refine bodyPost_ret (v := .tuple #[.agg _, .int .i64 0, .int .i64 2]) (results_cell_tmp2 Tryz.results10 _ _ w.heap.size 28 _ (0, 0) _ rfl (setRow_heap _ _ _ _ _ _ hz5) (by kernel_rfl : Tryz.prog.underlying 28 = some (.struct (Tryz.prog.fieldsOf 28))) rfl (by kernel_rfl)) rfl ?_
      exact HN.out _ _ (.inr (.inl hz)) rfl hx
    obtain ⟨pv, rfl, hown⟩ := hz0 hz
    have hsl := Ints.first hv5 hmle
    have heq := equal_calls pv (.slice A m c) _ _ w5 hown.ints hsl (encG_bytes _) (fun x hx => hb x (List.mem_of_mem_take hx))
    clear hz0 hz1 hown hsl
    have hmc : m ≤ c := by omega
    by_cases hq : encG ⟨ins, nodes, outs⟩ = bs.take m
    case neg =>
      rw [decide_eq_false hq] at heq
      have hx := ext_setRow HEX.out #[.slice none 0 0, .slice none 0 0, .slice none 0 0] (Nat.le_refl _)
      go_wp2_with (first | (refine wpList_store_row rfl 28 _ _ rfl w.heap.size #[.slice none 0 0, .slice none 0 0, .slice none 0 0] rfl rfl 28 _ hz5 (by kernel_rfl) rfl (by simp [Value.oneCell']) ?_) | (go_at_call 23; refine heq.mono ?_; rintro e w' ⟨rfl, rfl⟩))
      refine bodyPost_ret (v := .tuple #[.agg _, .int .i64 0, .int .i64 2]) (results_cell_tmp2 Tryz.results10 _ _ w.heap.size 28 _ (0, 0) _ rfl (setRow_heap _ _ _ _ _ _ hz5) (by kernel_rfl : Tryz.prog.underlying 28 = some (.struct (Tryz.prog.fieldsOf 28))) rfl (by kernel_rfl)) rfl ?_
      exact HN.out _ _ (.inr (.inr hq)) rfl hx
    rw [decide_eq_true hq] at heq
    have hx := ext_setRow HEX.out #[iv, nv, ov] (Nat.le_refl _)
    have hgF := hgr _ (hown5.grown (setRow_grown w5 w.heap.size #[iv, nv, ov]) (by omega))
    have HGF := Lib.hid hgF
    have HPX : Hid (∀ e w', e = .returned (.tuple #[.agg #[iv, nv, ov], .int .i64 m, .int .i64 0]) → OwnG w.heap.size w' ⟨iv, nv, ov, ins, ns, outs⟩ → Ext w w' → PP e w') := by
      intro e w' he hg hE
      have ht : taken bs = some (⟨ins, nodes, outs⟩, m) := by rw [HT.out, if_pos ⟨hbad, hz, hq⟩]
      refine HP.out e w' ⟨fun h => (by rw [ht] at h; cases h), fun c n h => ?_, hE⟩
      rw [ht] at h
      cases h
      exact ⟨_, HE.out, he, hg⟩
    clear hgF hown5 hgr HP HN HT
    go_wp2_with (first | (refine wpList_store_row rfl 28 _ _ rfl w.heap.size #[iv, nv, ov] rfl rfl 28 _ hz5 (by kernel_rfl) rfl HO.out ?_) | (go_at_call 23; refine heq.mono ?_; rintro e w' ⟨rfl, rfl⟩))
    refine bodyPost_ret (v := .tuple #[.agg _, .int .i64 m, .int .i64 0]) (results_cell_tmp2 Tryz.results10 _ _ w.heap.size 28 _ (0, 0) _ rfl (setRow_heap _ _ _ _ _ _ hz5) (by kernel_rfl : Tryz.prog.underlying 28 = some (.struct (Tryz.prog.fieldsOf 28))) rfl (by kernel_rfl)) rfl ?_
    exact HPX.out _ _ rfl HGF.out hx

end Go.Proofs.YtdhdbmfipkppiaaGreat
