/- The walks of graph.Values and Check. -/
import Derived.Test.YtmddlhfahfelpaaGrg
import Derived.Test.YtmddlhfahfelpaaGrh
import Derived.Test.YtmddlhfahfelpaaDraw3
set_option linter.unusedSimpArgs false
set_option linter.unusedVariables false
set_option linter.unnecessarySimpa false
namespace Go.Proofs.Ytmddlhfahfelpaa
open Go.RowKit

theorem OwnV.ext {w0 w W : World} {v : Value} {l : List Vl} (h : OwnV w0 w v l) (e : Ext w W) : OwnV w0 W v l := World.ownsRow.kept (row := none) h (grown_of_ext e) (by cases v.ownBlock <;> simp)
theorem OwnV.vls {w0 w : World} {v : Value} {l : List Vl} (h : OwnV w0 w v l) : Vls w v l := row_of_own h

/-- Node by node. -/
def goNodes : List Nd → List Vl → Nat → (List Vl × Nat) × Int
  | [], vals, wt => ((vals, wt), 0)
  | n :: ns, vals, wt =>
    if n.ins.all (okI vals) = false then (([], 0), 13) else
    if (valueR n (n.ins.map (getV vals))).2 ≠ 0 then (([], 0), (valueR n (n.ins.map (getV vals))).2) else
    goNodes ns (vals ++ [(valueR n (n.ins.map (getV vals))).1]) (wt + n.ws.length)

/-- What graph.Values answers. -/
def valuesR (g : Gr) : List Vl × Int :=
  if goesInR g ≠ 0 then ([], goesInR g) else
  if (goNodes g.nodes g.ins 0).2 ≠ 0 then ([], (goNodes g.nodes g.ins 0).2) else
  if 4096 < (goNodes g.nodes g.ins 0).1.2 then ([], 3) else
  if g.outs.all (okI (goNodes g.nodes g.ins 0).1.1) = false then ([], 13) else
  ((goNodes g.nodes g.ins 0).1.1, 0)

def ValsPost (r : List Vl × Int) (w : World) (e : Ending) (w' : World) : Prop :=
  (r.2 = 0 → ∃ v, e = .returned (.tuple #[v, .int .i64 0]) ∧ OwnV w w' v r.1) ∧ (r.2 ≠ 0 → e = .returned (.tuple #[.slice none 0 0, .int .i64 r.2])) ∧ Ext w w'

set_option maxRecDepth 8000 in
set_option maxHeartbeats 6400000 in
theorem values_calls (g : Gr) (w : World) (hg : GrAt w g) :
    Calls Try.prog 30 #[.agg #[g.iV, g.nV, g.oV]] w (ValsPost (valuesR g) w) := by
  obtain ⟨R, hR⟩ : ∃ R, valuesR g = R := ⟨_, rfl⟩
  have HR : Hid (valuesR g = R) := hR
  rw [hR]
  clear hR
  have HP : Hid (∀ e w', ((R.2 = 0 → ∃ v, e = .returned (.tuple #[v, .int .i64 0]) ∧ OwnV w w' v R.1) ∧ (R.2 ≠ 0 → e = .returned (.tuple #[.slice none 0 0, .int .i64 R.2])) ∧ Ext w w') → ValsPost R w e w') := fun e w' h => h
  have HE : Hid (∀ e w' z, R.2 = z → z ≠ 0 → e = .returned (.tuple #[.slice none 0 0, .int .i64 z]) → Ext w w' → ValsPost R w e w') := fun e w' z h1 h2 h3 h4 => HP.out e w' ⟨(fun h => absurd (h1.symm.trans h) h2), (fun _ => by rw [h1]; exact h3), h4⟩
  generalize ValsPost R w = PP at *
  have HG := Lib.hid hg
  have hgo := fun W (h : Ext w W) => goesIn_calls g W (hg.ext h)
  obtain ⟨hi, hn, ho, hea, hil, hnl, hol⟩ := hg
  obtain ⟨An, cn, en, hn1, hn2, _⟩ := id (SRow.form hn (fun _ => rfl) (by omega))
  obtain ⟨Ao, co, eo, ho1, ho2, _⟩ := id ho.form
  obtain ⟨Ai, ci, ei, hi1, hi2, _⟩ := id hi.form
  unfold maxLen at hi2 hn2 ho2
  have EN := Lib.hid en
  have EO := Lib.hid eo
  have EI := Lib.hid ei
  clear en eo ei
  have hw1 := ext_alloc w (.cells #[g.iV, g.nV, g.oV] 26)
  have hbx := Blk.new w #[g.iV, g.nV, g.oV] 26
  have g0 : (w.alloc (.cells #[g.iV, g.nV, g.oV] 26)).cell? ⟨w.heap.size, 0, none⟩ = some g.iV := hbx.cell 0
  have g1 : (w.alloc (.cells #[g.iV, g.nV, g.oV] 26)).cell? ⟨w.heap.size, 1, none⟩ = some g.nV := hbx.cell 1
  have g2 : (w.alloc (.cells #[g.iV, g.nV, g.oV] 26)).cell? ⟨w.heap.size, 2, none⟩ = some g.oV := hbx.cell 2
  go_enter Try.func30, Try.ntmps30
  go_wp2_with fail
  have hlow : ∀ (W : World) (v : Value) (l : List Vl), OwnV (w.alloc (.cells #[g.iV, g.nV, g.oV] 26)) W v l → OwnV w W v l := fun _ _ _ h => by
    refine ⟨h.1, ?_⟩
    rcases h.2 with h | ⟨b, cap, cur, h3, h4, h5⟩
    · exact .inl h
    · exact .inr ⟨b, cap, cur, h3, Nat.le_trans hw1.size h4, h5⟩
  have hLOW := Lib.hid hlow
  clear hlow
  generalize w.alloc _ = w1 at *
  refine (hgo _ hw1).mono ?_
  rintro e w2 ⟨hz, hnz, h2⟩
  have hE2 := hw1.trans h2
  clear g0 g1 g2 hgo
  by_cases hgi : goesInR g = 0
  case neg =>
    have HV : Hid (R.2 = goesInR g) := by show _ = _; rw [← HR.out, valuesR, if_pos hgi]
    have e1 := hnz hgi
    subst e1
    have t5 : (goesInR g != 0) = true := by simp [hgi]
    clear hz hnz h2
    generalize goesInR g = gi at *
    go_wp2_with fail
    exact HE.out _ _ gi HV.out hgi rfl hE2
  obtain ⟨v0, rfl, hown0⟩ := hz hgi
  have HR1 : Hid (R = if (goNodes g.nodes g.ins 0).2 ≠ 0 then ([], (goNodes g.nodes g.ins 0).2) else
    if 4096 < (goNodes g.nodes g.ins 0).1.2 then ([], 3) else
    if g.outs.all (okI (goNodes g.nodes g.ins 0).1.1) = false then ([], 13) else
    ((goNodes g.nodes g.ins 0).1.1, 0)) := by show _ = _; rw [← HR.out, valuesR, if_neg (by simp [hgi])]
  have hown : OwnV w1 w2 v0 g.ins := hown0
  clear hz hnz hown0 hgi hE2 HR
  have g1 : w2.cell? ⟨w.heap.size, 1, none⟩ = some (.slice An g.nodes.length cn) := by rw [← EN.out]; exact (hbx.ext h2).cell 1
  go_wp2_with fail
  clear g1
  go_loopw [4, 6, 26] (fun v wt i wr => ∃ (k : Nat) (vals : List Vl) (t : Nat), k ≤ g.nodes.length ∧ i = .int .i64 k ∧ wt = .int .i64 t ∧ t ≤ 70000 * k ∧ vals.length ≤ 255 + k ∧ Hid (goNodes g.nodes g.ins 0 = goNodes (g.nodes.drop k) vals t) ∧ OwnV w1 wr v vals ∧ Ext w1 wr) (fun _ _ i _ => g.nodes.length - (intOf i).toNat)
  case atStart => exact ⟨0, g.ins, 0, by omega, rfl, rfl, by omega, by omega, rfl, hown, h2⟩
  case round =>
    clear hown h2
    obtain ⟨k, vals, t, hk, rfl, rfl, ht, hvl, hgo, hown, hE⟩ := hrel
    by_cases hlt : k < g.nodes.length
    · obtain ⟨A', c', eA, _, _, hcc⟩ := SRow.form (HG.out.ext (hw1.trans hE)).nodes (fun _ => rfl) (by omega)
      rw [EN.out] at eA
      cases eA
      have hs : g.nodes[k]? = some g.nodes[k] := by simp [hlt]
      obtain ⟨b, off, rfl, hbl, hc⟩ := hcc k _ hs
      have hmem := List.getElem_mem hlt
      have HD : Hid (goNodes g.nodes g.ins 0 = goNodes (g.nodes[k] :: g.nodes.drop (k + 1)) vals t) := by
        show _ = _
        rw [hgo.out, ← List.drop_eq_getElem_cons hlt]
      have hnode := (HG.out.ext (hw1.trans hE)).each _ hmem
      generalize g.nodes[k] = n at *
      have nc0 : World.cell? wr ⟨b, off + k * 14, none⟩ = some (.int .i64 n.op) := hc 0 _ rfl
      have nc1 : World.cell? wr ⟨b, off + k * 14 + 1, none⟩ = some (n.inV) := hc 1 _ rfl
      have nc2 : World.cell? wr ⟨b, off + k * 14 + 2, none⟩ = some (.int .i64 n.k) := hc 2 _ rfl
      have nc3 : World.cell? wr ⟨b, off + k * 14 + 3, none⟩ = some (.int .i64 n.st) := hc 3 _ rfl
      have nc4 : World.cell? wr ⟨b, off + k * 14 + 4, none⟩ = some (.int .i64 n.pad) := hc 4 _ rfl
      have nc5 : World.cell? wr ⟨b, off + k * 14 + 5, none⟩ = some (.int .i64 n.out) := hc 5 _ rfl
      have nc6 : World.cell? wr ⟨b, off + k * 14 + 6, none⟩ = some (.int .i64 n.mul) := hc 6 _ rfl
      have nc7 : World.cell? wr ⟨b, off + k * 14 + 7, none⟩ = some (.int .i64 n.sh) := hc 7 _ rfl
      have nc8 : World.cell? wr ⟨b, off + k * 14 + 8, none⟩ = some (.int .i64 n.zero) := hc 8 _ rfl
      have nc9 : World.cell? wr ⟨b, off + k * 14 + 9, none⟩ = some (.int .i64 n.th) := hc 9 _ rfl
      have nc10 : World.cell? wr ⟨b, off + k * 14 + 10, none⟩ = some (.int .i64 n.tw) := hc 10 _ rfl
      have nc11 : World.cell? wr ⟨b, off + k * 14 + 11, none⟩ = some (.int .i64 n.tc) := hc 11 _ rfl
      have nc12 : World.cell? wr ⟨b, off + k * 14 + 12, none⟩ = some (n.wV) := hc 12 _ rfl
      have nc13 : World.cell? wr ⟨b, off + k * 14 + 13, none⟩ = some (n.bV) := hc 13 _ rfl
      clear hc hcc hs hmem hgo
      have hz := Blk.new wr #[.int .i64 0, .slice none 0 0, .int .i64 0, .int .i64 0, .int .i64 0, .int .i64 0, .int .i64 0, .int .i64 0, .int .i64 0, .int .i64 0, .int .i64 0, .int .i64 0, .slice none 0 0, .slice none 0 0] 51
      have hE4 : Ext wr ((wr.alloc (.cells #[.int .i64 0, .slice none 0 0, .int .i64 0, .int .i64 0, .int .i64 0, .int .i64 0, .int .i64 0, .int .i64 0, .int .i64 0, .int .i64 0, .int .i64 0, .int .i64 0, .slice none 0 0, .slice none 0 0] 51)).setRow wr.heap.size #[.int .i64 n.op, n.inV, .int .i64 n.k, .int .i64 n.st, .int .i64 n.pad, .int .i64 n.out, .int .i64 n.mul, .int .i64 n.sh, .int .i64 n.zero, .int .i64 n.th, .int .i64 n.tw, .int .i64 n.tc, n.wV, n.bV]) := ext_setRow (ext_alloc _ _) _ (Nat.le_refl _)
      have hnb : Blk ((wr.alloc (.cells #[.int .i64 0, .slice none 0 0, .int .i64 0, .int .i64 0, .int .i64 0, .int .i64 0, .int .i64 0, .int .i64 0, .int .i64 0, .int .i64 0, .int .i64 0, .int .i64 0, .slice none 0 0, .slice none 0 0] 51)).setRow wr.heap.size #[.int .i64 n.op, n.inV, .int .i64 n.k, .int .i64 n.st, .int .i64 n.pad, .int .i64 n.out, .int .i64 n.mul, .int .i64 n.sh, .int .i64 n.zero, .int .i64 n.th, .int .i64 n.tw, .int .i64 n.tc, n.wV, n.bV]) wr.heap.size #[.int .i64 n.op, n.inV, .int .i64 n.k, .int .i64 n.st, .int .i64 n.pad, .int .i64 n.out, .int .i64 n.mul, .int .i64 n.sh, .int .i64 n.zero, .int .i64 n.th, .int .i64 n.tw, .int .i64 n.tc, n.wV, n.bV] 51 := setRow_heap _ _ _ _ _ _ hz
      have d1 : World.cell? ((wr.alloc (.cells #[.int .i64 0, .slice none 0 0, .int .i64 0, .int .i64 0, .int .i64 0, .int .i64 0, .int .i64 0, .int .i64 0, .int .i64 0, .int .i64 0, .int .i64 0, .int .i64 0, .slice none 0 0, .slice none 0 0] 51)).setRow wr.heap.size #[.int .i64 n.op, n.inV, .int .i64 n.k, .int .i64 n.st, .int .i64 n.pad, .int .i64 n.out, .int .i64 n.mul, .int .i64 n.sh, .int .i64 n.zero, .int .i64 n.th, .int .i64 n.tw, .int .i64 n.tc, n.wV, n.bV]) ⟨wr.heap.size, 1, none⟩ = some n.inV := hnb.cell 1
      obtain ⟨hn1', hn2', hn3', hn4', hn5', hn6', hn7', hn8'⟩ := hnode
      have hone : Array.all #[.int .i64 n.op, n.inV, .int .i64 n.k, .int .i64 n.st, .int .i64 n.pad, .int .i64 n.out, .int .i64 n.mul, .int .i64 n.sh, .int .i64 n.zero, .int .i64 n.th, .int .i64 n.tw, .int .i64 n.tc, n.wV, n.bV] (·.oneCell') = true := by
        obtain ⟨_, _, e1, _⟩ := hn1'.form
        obtain ⟨_, _, e2, _⟩ := hn2'.form
        obtain ⟨_, _, e3, _⟩ := hn3'.form
        rw [e1, e2, e3]
        simp [Value.oneCell']
      have HO := Lib.hid hone
      clear hone
      have hpk := picked_calls _ n.inV vals n.ins _ (hown.ext hE4).vls (hn1'.ext hE4) (by omega) (by omega)
      go_wp2_with (refine wpList_store_row rfl 51 _ _ rfl wr.heap.size #[.int .i64 n.op, n.inV, .int .i64 n.k, .int .i64 n.st, .int .i64 n.pad, .int .i64 n.out, .int .i64 n.mul, .int .i64 n.sh, .int .i64 n.zero, .int .i64 n.th, .int .i64 n.tw, .int .i64 n.tc, n.wV, n.bV] rfl rfl 51 _ hz (by kernel_rfl) rfl HO.out ?_)
      refine hpk.mono ?_
      rintro e w3 ⟨hok, hbad, h3⟩
      replace hnb := hnb.ext h3
      have hown3 := (hown.ext hE4).ext h3
      have hown0 := hown
      have hE3 := hE.trans (hE4.trans h3)
      clear nc0 nc1 nc2 nc3 nc4 nc5 nc6 nc7 nc8 nc9 nc10 nc11 nc12 nc13
      clear d1 hpk hown
      cases hq : n.ins.all (okI vals) with
      | false =>
        have e1 := hbad hq
        subst e1
        have HV : Hid (R.2 = 13) := by
          show _ = _
          have : goNodes g.nodes g.ins 0 = (([], 0), 13) := by rw [HD.out, goNodes, if_pos hq]
          rw [HR1.out, this]
          rfl
        clear hq hok hbad
        go_wp2_with fail
        exact HE.out _ _ 13 HV.out (by decide) rfl (hw1.trans hE3)
      | true =>
        obtain ⟨pv, rfl, hpo⟩ := hok hq
        have HD2 : Hid (goNodes g.nodes g.ins 0 = if (valueR n (n.ins.map (getV vals))).2 ≠ 0 then (([], 0), (valueR n (n.ins.map (getV vals))).2) else goNodes (g.nodes.drop (k + 1)) (vals ++ [(valueR n (n.ins.map (getV vals))).1]) (t + n.ws.length)) := by
          show _ = _
          rw [HD.out, goNodes, if_neg (by rw [hq]; simp)]
        clear hq hok hbad HD
        have hw3 : Vls w3 pv (n.ins.map (getV vals)) := hpo.vls
        have hvc := value_calls n pv _ w3 hw3 ((hn3'.ext hE4).ext h3) hn4' (by obtain ⟨A, c, e, h1, h2, _⟩ := hn2'.form; exact ⟨A, c, e, h1, h2⟩)
        obtain ⟨r, hr⟩ : ∃ r, valueR n (n.ins.map (getV vals)) = r := ⟨_, rfl⟩
        rw [hr] at hvc
        have HR2 := Lib.hid hr
        clear hr hpo hw3
        have nc0 : World.cell? w3 ⟨wr.heap.size, 0, none⟩ = some (.int .i64 n.op) := hnb.cell 0
        have nc1 : World.cell? w3 ⟨wr.heap.size, 1, none⟩ = some (n.inV) := hnb.cell 1
        have nc2 : World.cell? w3 ⟨wr.heap.size, 2, none⟩ = some (.int .i64 n.k) := hnb.cell 2
        have nc3 : World.cell? w3 ⟨wr.heap.size, 3, none⟩ = some (.int .i64 n.st) := hnb.cell 3
        have nc4 : World.cell? w3 ⟨wr.heap.size, 4, none⟩ = some (.int .i64 n.pad) := hnb.cell 4
        have nc5 : World.cell? w3 ⟨wr.heap.size, 5, none⟩ = some (.int .i64 n.out) := hnb.cell 5
        have nc6 : World.cell? w3 ⟨wr.heap.size, 6, none⟩ = some (.int .i64 n.mul) := hnb.cell 6
        have nc7 : World.cell? w3 ⟨wr.heap.size, 7, none⟩ = some (.int .i64 n.sh) := hnb.cell 7
        have nc8 : World.cell? w3 ⟨wr.heap.size, 8, none⟩ = some (.int .i64 n.zero) := hnb.cell 8
        have nc9 : World.cell? w3 ⟨wr.heap.size, 9, none⟩ = some (.int .i64 n.th) := hnb.cell 9
        have nc10 : World.cell? w3 ⟨wr.heap.size, 10, none⟩ = some (.int .i64 n.tw) := hnb.cell 10
        have nc11 : World.cell? w3 ⟨wr.heap.size, 11, none⟩ = some (.int .i64 n.tc) := hnb.cell 11
        have nc12 : World.cell? w3 ⟨wr.heap.size, 12, none⟩ = some (n.wV) := hnb.cell 12
        have nc13 : World.cell? w3 ⟨wr.heap.size, 13, none⟩ = some (n.bV) := hnb.cell 13
        go_wp2_with fail
        refine hvc.mono ?_
        rintro e w4 ⟨rfl, h4⟩
        clear nc0 nc1 nc2 nc3 nc4 nc5 nc6 nc7 nc8 nc9 nc10 nc11 nc12 nc13
        replace hnb := hnb.ext h4
        have hown4 := hown3.ext h4
        have hE4' := hE3.trans h4
        clear hvc hown3 hE3
        have hE5 := ext_alloc w4 (.cells #[.int .i64 r.1.s.h, .int .i64 r.1.s.w, .int .i64 r.1.s.c, .int .i64 r.1.z] 44)
        have hvb := Blk.new w4 #[.int .i64 r.1.s.h, .int .i64 r.1.s.w, .int .i64 r.1.s.c, .int .i64 r.1.z] 44
        by_cases hr0 : r.2 = 0
        case neg =>
          have HV : Hid (R.2 = r.2) := by
            show _ = _
            have : goNodes g.nodes g.ins 0 = (([], 0), r.2) := by rw [HD2.out, HR2.out, if_pos hr0]
            rw [HR1.out, this]
            simp [hr0]
          have t2 : (r.2 != 0) = true := by simp [hr0]
          generalize r.2 = r2 at *
          go_wp2_with fail
          exact HE.out _ _ r2 HV.out hr0 rfl (hw1.trans (hE4'.trans hE5))
        have HD3 : Hid (goNodes g.nodes g.ins 0 = goNodes (g.nodes.drop (k + 1)) (vals ++ [r.1]) (t + n.ws.length)) := by show _ = _; rw [HD2.out, HR2.out, if_neg (by simp [hr0])]
        have t2 : (r.2 != 0) = false := by simp [hr0]
        have HR0 := Lib.hid hr0
        clear hr0 HD2 HR2
        obtain ⟨AW, cW, ew, hw1', hw2', _⟩ := id hn2'.form
        unfold maxLen at hw2'
        have EW := Lib.hid ew
        clear ew
        go_upto_region 14 with fail
        have hnb5 := hnb.ext hE5
        have hown5 := hown4.ext hE5
        have hEw := hE4'.trans hE5
        have hB8 : wr.heap.size < w4.heap.size := hnb.lt
        have hq8 : ∀ q, some q = u4.ownBlock → q < wr.heap.size := fun q hq => (hown0.lt q hq.symm).2
        have HQ8 := Lib.hid hq8
        clear hq8 hown0
        generalize hB11 : w4.heap.size = B11 at *
        generalize w4.alloc _ = w5 at *
        have x12 : ∀ W', Keeps [wr.heap.size, B11] w5 W' → W'.cell? ⟨wr.heap.size, 12, none⟩ = some (.slice AW n.ws.length cW) := fun W' hW => (hW.cell (by simp)).trans (by rw [← EW.out]; exact hnb5.cell 12)
        have x0 : ∀ W', Keeps [wr.heap.size, B11] w5 W' → W'.cell? ⟨B11, 0, none⟩ = some (.int .i64 r.1.s.h) := fun W' hW => (hW.cell (by simp)).trans (hvb.cell 0)
        have x1 : ∀ W', Keeps [wr.heap.size, B11] w5 W' → W'.cell? ⟨B11, 1, none⟩ = some (.int .i64 r.1.s.w) := fun W' hW => (hW.cell (by simp)).trans (hvb.cell 1)
        have x2 : ∀ W', Keeps [wr.heap.size, B11] w5 W' → W'.cell? ⟨B11, 2, none⟩ = some (.int .i64 r.1.s.c) := fun W' hW => (hW.cell (by simp)).trans (hvb.cell 2)
        have x3 : ∀ W', Keeps [wr.heap.size, B11] w5 W' → W'.cell? ⟨B11, 3, none⟩ = some (.int .i64 r.1.z) := fun W' hW => (hW.cell (by simp)).trans (hvb.cell 3)
        have htt : (t : Int) + (n.ws.length : Int) = ((t + n.ws.length : Nat) : Int) := by omega
        have HTT := Lib.hid htt
        clear htt
        clear hB11 hnb hnb5 hn1' hn2' hn3' hn4' hn5' hn8'
        refine wp_region_S (Keeps [wr.heap.size, B11] w5) [(0, true), (1, true), (4, true), (5, true), (6, true), (7, true), (8, true), (2, false), (3, false), (9, true), (10, true)] (by kernel_rfl) (by kernel_rfl) (fun _ _ d _ _ h => by cases d <;> exact h) (Keeps.drew _ _) ?_
        simp only [pickE, List.getElem?_cons_zero, List.getElem?_cons_succ]
        repeat (first | (refine wpF_pure (by rfl) (fun W hW => by go_simp; with_reducible rfl) ?_; simp only [Act.put, List.setIfInBounds_toArray, List.set_cons_zero, List.set_cons_succ]) | (refine wpF_skip (by rfl) ?_; simp only [Act.put, List.setIfInBounds_toArray, List.set_cons_zero, List.set_cons_succ]))
        have K0 : Keeps [wr.heap.size, B11] w5 w5.drew := Keeps.drew _ _
        have hownD : OwnV w1 w5.drew u4 vals := hown5
        have hED : Ext w1 w5.drew := hEw.trans (Ext.drew _)
        have hBD : B11 < w5.drew.heap.size := hvb.lt
        clear hown5 hEw
        generalize w5.drew = y0 at *
        have hnew : Row (y0.alloc (.cells #[.int .i64 r.1.s.h, .int .i64 r.1.s.w, .int .i64 r.1.s.c, .int .i64 r.1.z] 44)) (.slice (some ⟨y0.heap.size, 0, none⟩) 1 1) 1 4 r.1.cs := row_new y0 _ 44 1 4 rfl (by unfold maxLen; omega)
        have hE6 := ext_alloc y0 (.cells #[.int .i64 r.1.s.h, .int .i64 r.1.s.w, .int .i64 r.1.s.c, .int .i64 r.1.z] 44)
        have K1 : Keeps [wr.heap.size, B11] w5 (y0.alloc (.cells #[.int .i64 r.1.s.h, .int .i64 r.1.s.w, .int .i64 r.1.s.c, .int .i64 r.1.z] 44)) := K0.trans (Keeps.below hE6 (fun q hq => by simp only [List.mem_cons, List.not_mem_nil, or_false] at hq; rcases hq with rfl | rfl <;> omega))
        have hown6 : OwnV w1 (y0.alloc (.cells #[.int .i64 r.1.s.h, .int .i64 r.1.s.w, .int .i64 r.1.s.c, .int .i64 r.1.z] 44)) u4 vals := hownD.ext hE6
        have hbase : w1.heap.size ≤ (y0.alloc (.cells #[.int .i64 r.1.s.h, .int .i64 r.1.s.w, .int .i64 r.1.s.c, .int .i64 r.1.z] 44)).heap.size := (hED.trans hE6).size
        have hk1 : vals.length + 1 ≤ 140737488355328 := by omega
        have hk2 : (vals.length + 1) * 32 ≤ 140737488355328 := by omega
        have hB8' : wr.heap.size < (y0.alloc (.cells #[.int .i64 r.1.s.h, .int .i64 r.1.s.w, .int .i64 r.1.s.c, .int .i64 r.1.z] 44)).heap.size := by simp; omega
        have hBD' : B11 < (y0.alloc (.cells #[.int .i64 r.1.s.h, .int .i64 r.1.s.w, .int .i64 r.1.s.c, .int .i64 r.1.z] 44)).heap.size := by simp; omega
        have hE7 := hED.trans hE6
        clear x0 x1 x2 x3 x12
        refine wpF_step (by rfl) (fun K hK => ?_)
        go_simp
        refine hK _ _ K1 ?_
        clear hK K
        generalize y0.alloc _ = y1 at *
        refine wpF_step (by rfl) (fun K hK => ?_)
        refine wp_append_row rfl elem_vl hown6 rfl hnew rfl (vl_one _) hk1 hk2 hbase (fun v' w' ho hgr hnr => ?_)
        have K2 : Keeps [wr.heap.size, B11] w5 w' := K1.trans (Keeps.grown hgr (fun q hq => by
          simp only [List.mem_cons, List.not_mem_nil, or_false] at hq
          refine ⟨by rcases hq with rfl | rfl <;> omega, fun e => ?_⟩
          have := HQ8.out q e
          rcases hq with rfl | rfl <;> omega))
        refine hK _ _ K2 ?_
        clear hK K
        simp only [Act.put, List.setIfInBounds_toArray, List.set_cons_zero, List.set_cons_succ]
        repeat (first | (refine wpF_pure (by rfl) (fun W hW => by go_simp; with_reducible rfl) ?_; simp only [Act.put, List.setIfInBounds_toArray, List.set_cons_zero, List.set_cons_succ]) | (refine wpF_skip (by rfl) ?_; simp only [Act.put, List.setIfInBounds_toArray, List.set_cons_zero, List.set_cons_succ]))
        refine wpF_nil ?_
        have hE8 : Ext w1 w' := Below.grown hE7 hgr hE7.size (fun q hq => (hown6.lt q hq).1)
        have hown8 : OwnV w1 w' v' (vals ++ [r.1]) := by
          unfold OwnV
          rw [List.length_append, List.flatMap_append]
          simpa using ho
        clear hown6 hownD ho hgr hnr hnew
        rw [HTT.out]
        have hnw : (t + n.ws.length : Nat) ≤ 70000 * (k + 1) := by omega
        have hvl8 : (vals ++ [r.1]).length ≤ 255 + (k + 1) := by simp; omega
        go_wp2_with fail
        go_roundw
        case rel => exact ⟨k + 1, vals ++ [r.1], t + n.ws.length, by omega, by go_num, congrArg (Value.int .i64) (IntWalk.i64_in _ (by omega)), hnw, hvl8, HD3, hown8, hE8⟩
        case measure => simp [intOf]; omega
    · have hkk : k = g.nodes.length := by omega
      have HD : Hid (goNodes g.nodes g.ins 0 = ((vals, t), 0)) := by
        show _ = _
        rw [hgo.out, hkk, List.drop_length, goNodes]
      have HR2 : Hid (R = if 4096 < t then ([], 3) else if g.outs.all (okI vals) = false then ([], 13) else (vals, 0)) := by
        show _ = _
        rw [HR1.out, HD.out]
        simp
      clear HR1 hgo HD
      by_cases ht4 : 4096 < t
      · have HV : Hid (R.2 = 3) := by show _ = _; rw [HR2.out, if_pos ht4]
        go_wp2_with fail
        exact HE.out _ _ 3 HV.out (by decide) rfl (hw1.trans hE)
      have hpk := picked_calls _ g.oV vals g.outs wr hown.vls (ho.ext (hw1.trans hE)) (by omega) (by omega)
      have d2 : wr.cell? ⟨w.heap.size, 2, none⟩ = some g.oV := (hbx.ext hE).cell 2
      go_wp2_with fail
      refine hpk.mono ?_
      rintro e w3 ⟨hok, hbad, h3⟩
      have hown3 := hown.ext h3
      cases hq : g.outs.all (okI vals) with
      | false =>
        have e1 := hbad hq
        subst e1
        have HV : Hid (R.2 = 13) := by show _ = _; rw [HR2.out, if_neg ht4, if_pos hq]
        clear hq hok hbad
        go_wp2_with fail
        exact HE.out _ _ 13 HV.out (by decide) rfl (hw1.trans (hE.trans h3))
      | true =>
        obtain ⟨pv, rfl, hpo⟩ := hok hq
        have HV : Hid (R = (vals, 0)) := by show _ = _; rw [HR2.out, if_neg ht4, if_neg (by rw [hq]; simp)]
        clear hq hok hbad
        go_wp2_with fail
        exact HP.out _ _ ⟨(fun _ => ⟨_, rfl, by rw [HV.out]; exact hLOW.out _ _ _ hown3⟩), (fun h => absurd (by rw [HV.out]) h), hw1.trans (hE.trans h3)⟩

end Go.Proofs.Ytmddlhfahfelpaa
