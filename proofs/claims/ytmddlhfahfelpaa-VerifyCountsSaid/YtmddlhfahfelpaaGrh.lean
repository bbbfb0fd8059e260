/- The walk of graph.Value. -/
import Derived.Test.YtmddlhfahfelpaaGrg
set_option linter.unusedSimpArgs false
set_option linter.unusedVariables false
set_option linter.unnecessarySimpa false
namespace Go.Proofs.Ytmddlhfahfelpaa
open Go.RowKit

/-- What stands while Value goes on. -/
structure VI (w : World) (n : Nd) (lv : Value) (l : List Vl) (W : World) : Prop where
  hn : Blk W w.heap.size #[.int .i64 n.op, n.inV, .int .i64 n.k, .int .i64 n.st, .int .i64 n.pad, .int .i64 n.out, .int .i64 n.mul, .int .i64 n.sh, .int .i64 n.zero, .int .i64 n.th, .int .i64 n.tw, .int .i64 n.tc, n.wV, n.bV] 51
  hr : Blk W (w.heap.size + 1) #[.int .i64 0, .int .i64 0, .int .i64 0, .int .i64 0] 44
  hv : Vls W lv l
  hb : Ints .i32 W n.bV n.bs
  he : Ext w W
theorem VI.ext {w W W' : World} {n : Nd} {lv : Value} {l : List Vl} (h : VI w n lv l W) (e : Ext W W') : VI w n lv l W' := ⟨h.hn.ext e, h.hr.ext e, h.hv.ext e, h.hb.ext e, h.he.trans e⟩

/-- A row below a world's size is as it was, if a later block is stored into. -/
theorem at_grown {w W : World} {A : Option Addr} {xs : List Value} {row : Option Nat} (h : At w A xs) (hg : w.grownBy W row) (hne : ∀ b off, A = some ⟨b, off, none⟩ → xs ≠ [] → some b ≠ row) : At W A xs := fun j u hj => by
  obtain ⟨b, off, e, hc⟩ := h j u hj
  exact ⟨b, off, e, by rw [World.cell?_of_block (hg.block b (World.block_lt_of_cell? w _ hc) (hne b off e (fun h => by rw [h] at hj; simp at hj)))]; exact hc⟩
theorem Row.old {w0 w W : World} {v : Value} {n sz : Nat} {xs : List Value} {B : Nat} (h0 : Row w0 v n sz xs) (h : Row w v n sz xs) (hg : w.grownBy W (some B)) (hB : w0.heap.size ≤ B) : Row W v n sz xs := by
  obtain ⟨A, c, rfl, h1, h2, h3, h4⟩ := h
  refine ⟨A, c, rfl, h1, h2, h3, at_grown h4 hg fun b off e hn => ?_⟩
  subst e
  obtain ⟨k, e1, e2⟩ := h0.lt hn
  cases e1
  simp only at e2
  intro e
  cases e
  omega

theorem VI.set {w W : World} {n : Nd} {lv : Value} {l : List Vl} {B : Nat} (h : VI w n lv l W) (hv : Vls w lv l) (hb : Ints .i32 w n.bV n.bs) (cs : Array Value) (hB : w.heap.size + 1 < B) : VI w n lv l (W.setRow B cs) :=
  have hg := setRow_grown W B cs
  ⟨h.hn.grown hg (by simp; omega), h.hr.grown hg (by simp; omega), Row.old hv h.hv hg (by omega), Row.old hb h.hb hg (by omega), ext_setRow h.he cs (by omega)⟩

theorem vi_begin {w : World} {n : Nd} {lv : Value} {l : List Vl} (hv : Vls w lv l) (hb : Ints .i32 w n.bV n.bs) : VI w n lv l ((w.alloc (.cells #[.int .i64 n.op, n.inV, .int .i64 n.k, .int .i64 n.st, .int .i64 n.pad, .int .i64 n.out, .int .i64 n.mul, .int .i64 n.sh, .int .i64 n.zero, .int .i64 n.th, .int .i64 n.tw, .int .i64 n.tc, n.wV, n.bV] 51)).alloc (.cells #[.int .i64 0, .int .i64 0, .int .i64 0, .int .i64 0] 44)) := by
  have e1 := ext_alloc w (.cells #[.int .i64 n.op, n.inV, .int .i64 n.k, .int .i64 n.st, .int .i64 n.pad, .int .i64 n.out, .int .i64 n.mul, .int .i64 n.sh, .int .i64 n.zero, .int .i64 n.th, .int .i64 n.tw, .int .i64 n.tc, n.wV, n.bV] 51)
  have e2 := ext_alloc (w.alloc (.cells #[.int .i64 n.op, n.inV, .int .i64 n.k, .int .i64 n.st, .int .i64 n.pad, .int .i64 n.out, .int .i64 n.mul, .int .i64 n.sh, .int .i64 n.zero, .int .i64 n.th, .int .i64 n.tw, .int .i64 n.tc, n.wV, n.bV] 51)) (.cells #[.int .i64 0, .int .i64 0, .int .i64 0, .int .i64 0] 44)
  have b2 := Blk.new (w.alloc (.cells #[.int .i64 n.op, n.inV, .int .i64 n.k, .int .i64 n.st, .int .i64 n.pad, .int .i64 n.out, .int .i64 n.mul, .int .i64 n.sh, .int .i64 n.zero, .int .i64 n.th, .int .i64 n.tw, .int .i64 n.tc, n.wV, n.bV] 51)) #[.int .i64 0, .int .i64 0, .int .i64 0, .int .i64 0] 44
  rw [show (w.alloc (.cells #[.int .i64 n.op, n.inV, .int .i64 n.k, .int .i64 n.st, .int .i64 n.pad, .int .i64 n.out, .int .i64 n.mul, .int .i64 n.sh, .int .i64 n.zero, .int .i64 n.th, .int .i64 n.tw, .int .i64 n.tc, n.wV, n.bV] 51)).heap.size = w.heap.size + 1 from by simp] at b2
  exact ⟨(Blk.new _ _ _).ext e2, b2, hv.ext (e1.trans e2), hb.ext (e1.trans e2), e1.trans e2⟩

def ValuePost (r : Vl × Int) (w : World) (e : Ending) (w' : World) : Prop := e = .returned (.tuple #[.agg #[.int .i64 r.1.s.h, .int .i64 r.1.s.w, .int .i64 r.1.s.c, .int .i64 r.1.z], .int .i64 r.2]) ∧ Ext w w'

set_option maxRecDepth 8000 in
set_option maxHeartbeats 3200000 in
theorem value_calls (n : Nd) (lv : Value) (l : List Vl) (w : World) (hv : Vls w lv l) (hb : Ints .i32 w n.bV n.bs) (hbk : ∀ z ∈ n.bs, InK .i32 z) (hw : ∃ A c, n.wV = .slice A n.ws.length c ∧ n.ws.length ≤ c ∧ c ≤ maxLen) :
    Calls Try.prog 53 #[.agg #[.int .i64 n.op, n.inV, .int .i64 n.k, .int .i64 n.st, .int .i64 n.pad, .int .i64 n.out, .int .i64 n.mul, .int .i64 n.sh, .int .i64 n.zero, .int .i64 n.th, .int .i64 n.tw, .int .i64 n.tc, n.wV, n.bV], lv] w (ValuePost (valueR n l) w) := by
  have I0 := vi_begin hv hb
  have hof := of_calls n.op
  obtain ⟨R, hR⟩ : ∃ R, valueR n l = R := ⟨_, rfl⟩
  have HR : Hid (valueR n l = R) := hR
  rw [hR]
  clear hR
  obtain ⟨AW, cW, hwe, hwl, hwc⟩ := hw
  unfold maxLen at hwc
  have HWE := Lib.hid hwe
  clear hwe
  have HP : Hid (∀ e w', (e = .returned (.tuple #[.agg #[.int .i64 R.1.s.h, .int .i64 R.1.s.w, .int .i64 R.1.s.c, .int .i64 R.1.z], .int .i64 R.2]) ∧ Ext w w') → ValuePost R w e w') := fun e w' h => h
  generalize ValuePost R w = PP at *
  obtain ⟨A, c, rfl, hlc, hcm, _⟩ := id hv.form
  unfold maxLen at hcm
  go_enter Try.func53, Try.ntmps53
  go_wp2_with fail
  generalize World.alloc (World.alloc w _) _ = w1 at *
  refine (hof w1).mono ?_
  rintro e w2 ⟨rfl, h2⟩
  replace I0 := I0.ext h2
  clear h2 hof
  cases hk : kindOf n.op with
  | none =>
    have HV : Hid (R = (⟨⟨0, 0, 0⟩, 0⟩, 11)) := by show _ = _; rw [← HR.out]; unfold valueR; rw [hk]
    have hkv : kindV n.op = .agg #[.int .i64 0, .bool false, .bool false, .bool false, .bool false, .bool false, .nilFunc, .nilFunc] := by unfold kindV; rw [hk]
    rw [hkv]
    simp only [Option.isSome_none]
    clear hk hkv
    have hk6 := Blk.new w2 #[.int .i64 0, .bool false, .bool false, .bool false, .bool false, .bool false, .nilFunc, .nilFunc] 111
    have hl6 : w.heap.size + 1 < w2.heap.size := I0.hr.lt
    have I1 := (I0.ext (ext_alloc w2 (.cells #[.int .i64 0, .bool false, .bool false, .bool false, .bool false, .bool false, .nilFunc, .nilFunc] 111))).set hv hb #[.int .i64 0, .bool false, .bool false, .bool false, .bool false, .bool false, .nilFunc, .nilFunc] hl6
    have hx := ext_setRow I1.he #[.int .i64 0, .int .i64 0, .int .i64 0, .int .i64 0] (show w.heap.size ≤ w.heap.size + 1 by omega)
    have hr := I1.hr
    go_wp2_with (first | (refine wpList_store_row rfl 111 _ _ rfl w2.heap.size #[.int .i64 0, .bool false, .bool false, .bool false, .bool false, .bool false, .nilFunc, .nilFunc] rfl rfl 111 _ hk6 (by kernel_rfl) rfl (by simp [Value.oneCell']) ?_) | (refine wpList_store_row rfl 44 _ _ rfl (w.heap.size + 1) #[.int .i64 0, .int .i64 0, .int .i64 0, .int .i64 0] rfl rfl 44 _ hr (by kernel_rfl) rfl (by simp [Value.oneCell']) ?_))
    refine bodyPost_ret (v := .tuple #[.agg _, .int .i64 11]) (results_cell_tmp Try.results53 _ _ (w.heap.size + 1) 44 _ (0, 0) _ rfl (setRow_heap _ _ _ _ _ _ hr) (by kernel_rfl : Try.prog.underlying 44 = some (.struct (Try.prog.fieldsOf 44))) rfl (by kernel_rfl)) rfl ?_
    exact HP.out _ _ ⟨by rw [HV.out], hx⟩
  | some k =>
    have hkv : kindV n.op = .agg #[.int .i64 k.many, .bool k.window, .bool k.pads, .bool k.padded, .bool k.out, .bool k.keeps, .func (.func k.mf) #[] #[], .func (.func k.wf) #[] #[]] := by unfold kindV; rw [hk]; rfl
    rw [hkv]
    simp only [Option.isSome_some]
    have KF := kind_facts n k hk
    have hVR : R = (if nodeOk k n l.length = false then (⟨⟨0, 0, 0⟩, 0⟩, 11) else
      if (k.keeps && l.any fun x => !decide (x.z = n.zero)) = true then (⟨⟨0, 0, 0⟩, 0⟩, 11) else
      if (l.any fun x => !x.s.ok) = true then (⟨⟨0, 0, 0⟩, 0⟩, 10) else
      if (madeZ n (l[0]?.getD default).s (l[l.length - 1]?.getD default).s).ok = false then (⟨⟨0, 0, 0⟩, 0⟩, 10) else
      if ((n.ws.length : Int) ≠ (wbZ n (l[0]?.getD default).s).1 ∨ (n.bs.length : Int) ≠ (wbZ n (l[0]?.getD default).s).2) ∨ (n.bs.any fun x => !inB (-16777216) 16777216 x) = true then (⟨⟨0, 0, 0⟩, 0⟩, 12) else
      (⟨madeZ n (l[0]?.getD default).s (l[l.length - 1]?.getD default).s, n.zero⟩, 0)) := by rw [← HR.out]; unfold valueR; rw [hk]
    have HV0 := Lib.hid hVR
    clear hkv hk hVR HR
    have hk6 := Blk.new w2 #[.int .i64 0, .bool false, .bool false, .bool false, .bool false, .bool false, .nilFunc, .nilFunc] 111
    have hl6 : w.heap.size + 1 < w2.heap.size := I0.hr.lt
    have I1 := (I0.ext (ext_alloc w2 (.cells #[.int .i64 0, .bool false, .bool false, .bool false, .bool false, .bool false, .nilFunc, .nilFunc] 111))).set hv hb #[.int .i64 k.many, .bool k.window, .bool k.pads, .bool k.padded, .bool k.out, .bool k.keeps, .func (.func k.mf) #[] #[], .func (.func k.wf) #[] #[]] hl6
    have hkm := fun W => kmay_calls k n A l.length c W KF.pads
    have hk : Blk ((w2.alloc (.cells #[.int .i64 0, .bool false, .bool false, .bool false, .bool false, .bool false, .nilFunc, .nilFunc] 111)).setRow w2.heap.size #[.int .i64 k.many, .bool k.window, .bool k.pads, .bool k.padded, .bool k.out, .bool k.keeps, .func (.func k.mf) #[] #[], .func (.func k.wf) #[] #[]]) w2.heap.size #[.int .i64 k.many, .bool k.window, .bool k.pads, .bool k.padded, .bool k.out, .bool k.keeps, .func (.func k.mf) #[] #[], .func (.func k.wf) #[] #[]] 111 := setRow_heap _ _ _ _ _ _ hk6
    have hn := I1.hn
    have kc0 : World.cell? ((w2.alloc (.cells #[.int .i64 0, .bool false, .bool false, .bool false, .bool false, .bool false, .nilFunc, .nilFunc] 111)).setRow w2.heap.size #[.int .i64 k.many, .bool k.window, .bool k.pads, .bool k.padded, .bool k.out, .bool k.keeps, .func (.func k.mf) #[] #[], .func (.func k.wf) #[] #[]]) ⟨w2.heap.size, 0, none⟩ = some (.int .i64 k.many) := hk.cell 0
    have kc1 : World.cell? ((w2.alloc (.cells #[.int .i64 0, .bool false, .bool false, .bool false, .bool false, .bool false, .nilFunc, .nilFunc] 111)).setRow w2.heap.size #[.int .i64 k.many, .bool k.window, .bool k.pads, .bool k.padded, .bool k.out, .bool k.keeps, .func (.func k.mf) #[] #[], .func (.func k.wf) #[] #[]]) ⟨w2.heap.size, 1, none⟩ = some (.bool k.window) := hk.cell 1
    have kc2 : World.cell? ((w2.alloc (.cells #[.int .i64 0, .bool false, .bool false, .bool false, .bool false, .bool false, .nilFunc, .nilFunc] 111)).setRow w2.heap.size #[.int .i64 k.many, .bool k.window, .bool k.pads, .bool k.padded, .bool k.out, .bool k.keeps, .func (.func k.mf) #[] #[], .func (.func k.wf) #[] #[]]) ⟨w2.heap.size, 2, none⟩ = some (.bool k.pads) := hk.cell 2
    have kc3 : World.cell? ((w2.alloc (.cells #[.int .i64 0, .bool false, .bool false, .bool false, .bool false, .bool false, .nilFunc, .nilFunc] 111)).setRow w2.heap.size #[.int .i64 k.many, .bool k.window, .bool k.pads, .bool k.padded, .bool k.out, .bool k.keeps, .func (.func k.mf) #[] #[], .func (.func k.wf) #[] #[]]) ⟨w2.heap.size, 3, none⟩ = some (.bool k.padded) := hk.cell 3
    have kc4 : World.cell? ((w2.alloc (.cells #[.int .i64 0, .bool false, .bool false, .bool false, .bool false, .bool false, .nilFunc, .nilFunc] 111)).setRow w2.heap.size #[.int .i64 k.many, .bool k.window, .bool k.pads, .bool k.padded, .bool k.out, .bool k.keeps, .func (.func k.mf) #[] #[], .func (.func k.wf) #[] #[]]) ⟨w2.heap.size, 4, none⟩ = some (.bool k.out) := hk.cell 4
    have kc5 : World.cell? ((w2.alloc (.cells #[.int .i64 0, .bool false, .bool false, .bool false, .bool false, .bool false, .nilFunc, .nilFunc] 111)).setRow w2.heap.size #[.int .i64 k.many, .bool k.window, .bool k.pads, .bool k.padded, .bool k.out, .bool k.keeps, .func (.func k.mf) #[] #[], .func (.func k.wf) #[] #[]]) ⟨w2.heap.size, 5, none⟩ = some (.bool k.keeps) := hk.cell 5
    have kc6 : World.cell? ((w2.alloc (.cells #[.int .i64 0, .bool false, .bool false, .bool false, .bool false, .bool false, .nilFunc, .nilFunc] 111)).setRow w2.heap.size #[.int .i64 k.many, .bool k.window, .bool k.pads, .bool k.padded, .bool k.out, .bool k.keeps, .func (.func k.mf) #[] #[], .func (.func k.wf) #[] #[]]) ⟨w2.heap.size, 6, none⟩ = some (.func (.func k.mf) #[] #[]) := hk.cell 6
    have kc7 : World.cell? ((w2.alloc (.cells #[.int .i64 0, .bool false, .bool false, .bool false, .bool false, .bool false, .nilFunc, .nilFunc] 111)).setRow w2.heap.size #[.int .i64 k.many, .bool k.window, .bool k.pads, .bool k.padded, .bool k.out, .bool k.keeps, .func (.func k.mf) #[] #[], .func (.func k.wf) #[] #[]]) ⟨w2.heap.size, 7, none⟩ = some (.func (.func k.wf) #[] #[]) := hk.cell 7
    have nc0 : World.cell? ((w2.alloc (.cells #[.int .i64 0, .bool false, .bool false, .bool false, .bool false, .bool false, .nilFunc, .nilFunc] 111)).setRow w2.heap.size #[.int .i64 k.many, .bool k.window, .bool k.pads, .bool k.padded, .bool k.out, .bool k.keeps, .func (.func k.mf) #[] #[], .func (.func k.wf) #[] #[]]) ⟨w.heap.size, 0, none⟩ = some (.int .i64 n.op) := hn.cell 0
    have nc1 : World.cell? ((w2.alloc (.cells #[.int .i64 0, .bool false, .bool false, .bool false, .bool false, .bool false, .nilFunc, .nilFunc] 111)).setRow w2.heap.size #[.int .i64 k.many, .bool k.window, .bool k.pads, .bool k.padded, .bool k.out, .bool k.keeps, .func (.func k.mf) #[] #[], .func (.func k.wf) #[] #[]]) ⟨w.heap.size, 1, none⟩ = some (n.inV) := hn.cell 1
    have nc2 : World.cell? ((w2.alloc (.cells #[.int .i64 0, .bool false, .bool false, .bool false, .bool false, .bool false, .nilFunc, .nilFunc] 111)).setRow w2.heap.size #[.int .i64 k.many, .bool k.window, .bool k.pads, .bool k.padded, .bool k.out, .bool k.keeps, .func (.func k.mf) #[] #[], .func (.func k.wf) #[] #[]]) ⟨w.heap.size, 2, none⟩ = some (.int .i64 n.k) := hn.cell 2
    have nc3 : World.cell? ((w2.alloc (.cells #[.int .i64 0, .bool false, .bool false, .bool false, .bool false, .bool false, .nilFunc, .nilFunc] 111)).setRow w2.heap.size #[.int .i64 k.many, .bool k.window, .bool k.pads, .bool k.padded, .bool k.out, .bool k.keeps, .func (.func k.mf) #[] #[], .func (.func k.wf) #[] #[]]) ⟨w.heap.size, 3, none⟩ = some (.int .i64 n.st) := hn.cell 3
    have nc4 : World.cell? ((w2.alloc (.cells #[.int .i64 0, .bool false, .bool false, .bool false, .bool false, .bool false, .nilFunc, .nilFunc] 111)).setRow w2.heap.size #[.int .i64 k.many, .bool k.window, .bool k.pads, .bool k.padded, .bool k.out, .bool k.keeps, .func (.func k.mf) #[] #[], .func (.func k.wf) #[] #[]]) ⟨w.heap.size, 4, none⟩ = some (.int .i64 n.pad) := hn.cell 4
    have nc5 : World.cell? ((w2.alloc (.cells #[.int .i64 0, .bool false, .bool false, .bool false, .bool false, .bool false, .nilFunc, .nilFunc] 111)).setRow w2.heap.size #[.int .i64 k.many, .bool k.window, .bool k.pads, .bool k.padded, .bool k.out, .bool k.keeps, .func (.func k.mf) #[] #[], .func (.func k.wf) #[] #[]]) ⟨w.heap.size, 5, none⟩ = some (.int .i64 n.out) := hn.cell 5
    have nc6 : World.cell? ((w2.alloc (.cells #[.int .i64 0, .bool false, .bool false, .bool false, .bool false, .bool false, .nilFunc, .nilFunc] 111)).setRow w2.heap.size #[.int .i64 k.many, .bool k.window, .bool k.pads, .bool k.padded, .bool k.out, .bool k.keeps, .func (.func k.mf) #[] #[], .func (.func k.wf) #[] #[]]) ⟨w.heap.size, 6, none⟩ = some (.int .i64 n.mul) := hn.cell 6
    have nc7 : World.cell? ((w2.alloc (.cells #[.int .i64 0, .bool false, .bool false, .bool false, .bool false, .bool false, .nilFunc, .nilFunc] 111)).setRow w2.heap.size #[.int .i64 k.many, .bool k.window, .bool k.pads, .bool k.padded, .bool k.out, .bool k.keeps, .func (.func k.mf) #[] #[], .func (.func k.wf) #[] #[]]) ⟨w.heap.size, 7, none⟩ = some (.int .i64 n.sh) := hn.cell 7
    have nc8 : World.cell? ((w2.alloc (.cells #[.int .i64 0, .bool false, .bool false, .bool false, .bool false, .bool false, .nilFunc, .nilFunc] 111)).setRow w2.heap.size #[.int .i64 k.many, .bool k.window, .bool k.pads, .bool k.padded, .bool k.out, .bool k.keeps, .func (.func k.mf) #[] #[], .func (.func k.wf) #[] #[]]) ⟨w.heap.size, 8, none⟩ = some (.int .i64 n.zero) := hn.cell 8
    have nc9 : World.cell? ((w2.alloc (.cells #[.int .i64 0, .bool false, .bool false, .bool false, .bool false, .bool false, .nilFunc, .nilFunc] 111)).setRow w2.heap.size #[.int .i64 k.many, .bool k.window, .bool k.pads, .bool k.padded, .bool k.out, .bool k.keeps, .func (.func k.mf) #[] #[], .func (.func k.wf) #[] #[]]) ⟨w.heap.size, 9, none⟩ = some (.int .i64 n.th) := hn.cell 9
    have nc10 : World.cell? ((w2.alloc (.cells #[.int .i64 0, .bool false, .bool false, .bool false, .bool false, .bool false, .nilFunc, .nilFunc] 111)).setRow w2.heap.size #[.int .i64 k.many, .bool k.window, .bool k.pads, .bool k.padded, .bool k.out, .bool k.keeps, .func (.func k.mf) #[] #[], .func (.func k.wf) #[] #[]]) ⟨w.heap.size, 10, none⟩ = some (.int .i64 n.tw) := hn.cell 10
    have nc11 : World.cell? ((w2.alloc (.cells #[.int .i64 0, .bool false, .bool false, .bool false, .bool false, .bool false, .nilFunc, .nilFunc] 111)).setRow w2.heap.size #[.int .i64 k.many, .bool k.window, .bool k.pads, .bool k.padded, .bool k.out, .bool k.keeps, .func (.func k.mf) #[] #[], .func (.func k.wf) #[] #[]]) ⟨w.heap.size, 11, none⟩ = some (.int .i64 n.tc) := hn.cell 11
    have nc12 : World.cell? ((w2.alloc (.cells #[.int .i64 0, .bool false, .bool false, .bool false, .bool false, .bool false, .nilFunc, .nilFunc] 111)).setRow w2.heap.size #[.int .i64 k.many, .bool k.window, .bool k.pads, .bool k.padded, .bool k.out, .bool k.keeps, .func (.func k.mf) #[] #[], .func (.func k.wf) #[] #[]]) ⟨w.heap.size, 12, none⟩ = some (n.wV) := hn.cell 12
    have nc13 : World.cell? ((w2.alloc (.cells #[.int .i64 0, .bool false, .bool false, .bool false, .bool false, .bool false, .nilFunc, .nilFunc] 111)).setRow w2.heap.size #[.int .i64 k.many, .bool k.window, .bool k.pads, .bool k.padded, .bool k.out, .bool k.keeps, .func (.func k.mf) #[] #[], .func (.func k.wf) #[] #[]]) ⟨w.heap.size, 13, none⟩ = some (n.bV) := hn.cell 13
    go_wp2_with (refine wpList_store_row rfl 111 _ _ rfl w2.heap.size #[.int .i64 k.many, .bool k.window, .bool k.pads, .bool k.padded, .bool k.out, .bool k.keeps, .func (.func k.mf) #[] #[], .func (.func k.wf) #[] #[]] rfl rfl 111 _ hk6 (by kernel_rfl) rfl (by simp [Value.oneCell']) ?_)
    generalize World.setRow (World.alloc w2 _) _ _ = w3 at *
    generalize w2.heap.size = B6 at *
    clear kc0 kc1 kc2 kc3 kc4 kc5 kc6 kc7 nc0 nc1 nc2 nc3 nc4 nc5 nc6 nc7 nc8 nc9 nc10 nc11 nc12 nc13
    clear hk6 hn
    refine (hkm w3).mono ?_
    rintro e w4 ⟨rfl, h4⟩
    replace hk := hk.ext h4
    replace I1 := I1.ext h4
    clear h4 hkm I0
    obtain ⟨q, hq⟩ : ∃ q, nodeOk k n l.length = q := ⟨_, rfl⟩
    rw [hq]
    have HQ := Lib.hid hq
    clear hq
    cases q with
    | false =>
      have HV : Hid (R = (⟨⟨0, 0, 0⟩, 0⟩, 11)) := by show _ = _; rw [HV0.out, HQ.out] <;> simp only [reduceIte, Bool.false_eq_true, Bool.true_eq_false]
      have hx := ext_setRow I1.he #[.int .i64 0, .int .i64 0, .int .i64 0, .int .i64 0] (show w.heap.size ≤ w.heap.size + 1 by omega)
      have hr := I1.hr
      go_wp2_with (refine wpList_store_row rfl 44 _ _ rfl (w.heap.size + 1) #[.int .i64 0, .int .i64 0, .int .i64 0, .int .i64 0] rfl rfl 44 _ hr (by kernel_rfl) rfl (by simp [Value.oneCell']) ?_)
      refine bodyPost_ret (v := .tuple #[.agg _, .int .i64 11]) (results_cell_tmp Try.results53 _ _ (w.heap.size + 1) 44 _ (0, 0) _ rfl (setRow_heap _ _ _ _ _ _ hr) (by kernel_rfl : Try.prog.underlying 44 = some (.struct (Try.prog.fieldsOf 44))) rfl (by kernel_rfl)) rfl ?_
      exact HP.out _ _ ⟨by rw [HV.out], hx⟩
    | true =>
      go_upto_region 4 with fail
      go_cut [33] (fun s wx => s = .bool (k.keeps && l.any fun x => !decide (x.z = n.zero)) ∧ VI w n (.slice A l.length c) l wx ∧ Blk wx B6 #[.int .i64 k.many, .bool k.window, .bool k.pads, .bool k.padded, .bool k.out, .bool k.keeps, .func (.func k.mf) #[] #[], .func (.func k.wf) #[] #[]] 111)
      case first =>
        have kc5 := hk.cell 5
        have htz := tells_zero w.heap.size n w4 I1.hn
        have eg := enters_of Try.func69 (by kernel_rfl) rfl
        have hcv := containsVl_calls _ _ _ _ l _ I1.hv eg htz
        clear KF HV0 HQ
        generalize k.keeps = kp at *
        cases kp with
        | false =>
          go_wp2_with fail
          go_meet
          exact ⟨rfl, I1, hk⟩
        | true =>
          go_wp2_with fail
          refine hcv.mono ?_
          rintro e w5 ⟨rfl, h5⟩
          go_wp2_with fail
          go_meet
          exact ⟨rfl, I1.ext h5, hk.ext h5⟩
      obtain ⟨rfl, I2, hk2⟩ := hcut
      clear I1 hk
      obtain ⟨q, hq⟩ : ∃ q, (k.keeps && l.any fun x => !decide (x.z = n.zero)) = q := ⟨_, rfl⟩
      rw [hq]
      have HQ2 := Lib.hid hq
      clear hq
      cases q with
      | true =>
        have HV : Hid (R = (⟨⟨0, 0, 0⟩, 0⟩, 11)) := by show _ = _; rw [HV0.out, HQ.out, HQ2.out] <;> simp only [reduceIte, Bool.false_eq_true, Bool.true_eq_false]
        have hx := ext_setRow I2.he #[.int .i64 0, .int .i64 0, .int .i64 0, .int .i64 0] (show w.heap.size ≤ w.heap.size + 1 by omega)
        have hr := I2.hr
        go_wp2_with (refine wpList_store_row rfl 44 _ _ rfl (w.heap.size + 1) #[.int .i64 0, .int .i64 0, .int .i64 0, .int .i64 0] rfl rfl 44 _ hr (by kernel_rfl) rfl (by simp [Value.oneCell']) ?_)
        refine bodyPost_ret (v := .tuple #[.agg _, .int .i64 11]) (results_cell_tmp Try.results53 _ _ (w.heap.size + 1) 44 _ (0, 0) _ rfl (setRow_heap _ _ _ _ _ _ hr) (by kernel_rfl : Try.prog.underlying 44 = some (.struct (Try.prog.fieldsOf 44))) rfl (by kernel_rfl)) rfl ?_
        exact HP.out _ _ ⟨by rw [HV.out], hx⟩
      | false =>
        have eg := enters_of Try.func70 (by kernel_rfl) rfl
        have hcv := containsVl_calls _ _ _ _ l _ I2.hv eg (tells_shape wc)
        go_wp2_with fail
        refine hcv.mono ?_
        rintro e w5 ⟨rfl, h5⟩
        replace I2 := I2.ext h5
        replace hk2 := hk2.ext h5
        clear h5 hcv eg
        obtain ⟨q, hq⟩ : ∃ q, (l.any fun x => !x.s.ok) = q := ⟨_, rfl⟩
        rw [hq]
        have HQ3 := Lib.hid hq
        clear hq
        cases q with
        | true =>
          have HV : Hid (R = (⟨⟨0, 0, 0⟩, 0⟩, 10)) := by show _ = _; rw [HV0.out, HQ.out, HQ2.out, HQ3.out] <;> simp only [reduceIte, Bool.false_eq_true, Bool.true_eq_false]
          have hx := ext_setRow I2.he #[.int .i64 0, .int .i64 0, .int .i64 0, .int .i64 0] (show w.heap.size ≤ w.heap.size + 1 by omega)
          have hr := I2.hr
          go_wp2_with (refine wpList_store_row rfl 44 _ _ rfl (w.heap.size + 1) #[.int .i64 0, .int .i64 0, .int .i64 0, .int .i64 0] rfl rfl 44 _ hr (by kernel_rfl) rfl (by simp [Value.oneCell']) ?_)
          refine bodyPost_ret (v := .tuple #[.agg _, .int .i64 10]) (results_cell_tmp Try.results53 _ _ (w.heap.size + 1) 44 _ (0, 0) _ rfl (setRow_heap _ _ _ _ _ _ hr) (by kernel_rfl : Try.prog.underlying 44 = some (.struct (Try.prog.fieldsOf 44))) rfl (by kernel_rfl)) rfl ?_
          exact HP.out _ _ ⟨by rw [HV.out], hx⟩
        | false =>
          have hall : Hid (∀ x ∈ l, x.s.ok = true) := fun x hx => by
            have := HQ3.out
            rw [List.any_eq_false] at this
            simpa using this x hx
          have hl12 : (∃ x, l = [x]) ∨ (∃ x y, l = [x, y]) := by
            have h1 := HQ.out
            simp only [nodeOk, ok1, Bool.and_eq_true, decide_eq_true_eq] at h1
            have h2 := h1.1.1.1.1.1.1.1
            rcases KF.many with h | h
            · rw [h] at h2
              exact .inl (List.length_eq_one_iff.1 (by omega))
            · rw [h] at h2
              have h3 : l.length = 2 := by omega
              match l, h3 with
              | [x, y], _ => exact .inr ⟨x, y, rfl⟩
          have hkk : (k.window = true → 1 ≤ n.k ∧ n.k ≤ 3) ∧ (k.out = true → 1 ≤ n.out ∧ n.out ≤ 8) := by
            have h1 := HQ.out
            simp only [nodeOk, ok3, ok5, Bool.and_eq_true] at h1
            refine ⟨fun h => ?_, fun h => ?_⟩
            · have h2 := h1.1.1.2
              rw [if_pos h] at h2
              simp only [inB, Bool.and_eq_true, decide_eq_true_eq] at h2
              exact h2.1
            · have h2 := h1.2
              rw [if_pos h] at h2
              simp only [inB, Bool.and_eq_true, decide_eq_true_eq] at h2
              exact h2
          obtain ⟨mz, hmz⟩ : ∃ mz, madeZ n (l[0]?.getD default).s (l[l.length - 1]?.getD default).s = mz := ⟨_, rfl⟩
          have HMZ := Lib.hid hmz
          clear hmz
          have HL := Lib.hid hl12
          have HKK := Lib.hid hkk
          clear hl12 hkk
          generalize w5 = wc at *
          go_upto_region 8 with fail
          go_cut [8] (fun s wx => ∃ B8, s = .pointer (some ⟨B8, 0, none⟩) ∧ Blk wx B8 #[.int .i64 mz.h, .int .i64 mz.w, .int .i64 mz.c] 42 ∧ VI w n (.slice A l.length c) l wx ∧ Blk wx B6 #[.int .i64 k.many, .bool k.window, .bool k.pads, .bool k.padded, .bool k.out, .bool k.keeps, .func (.func k.mf) #[] #[], .func (.func k.wf) #[] #[]] 111)
          case first =>
            have em : ∀ args w, (callFunc k.mf args).run Try.prog w = .ok (.enter k.mf args) w := KF.em
            have wr0 : IntKind.i64.wrap 0 = 0 := by decide
            have wr1 : IntKind.i64.wrap 1 = 1 := by decide
            rcases HL.out with ⟨x, rfl⟩ | ⟨x, y, rfl⟩
            · have hx := hall.out x (by simp)
              have hmade := fun W => KF.made x.s x.s W hx hx
              rw [show madeZ n x.s x.s = mz from HMZ.out] at hmade
              obtain ⟨_, _, eA, _, _, hcc⟩ := I2.hv.form
              cases eA
              obtain ⟨b, off, rfl, bh, xc⟩ := hcc 0 x rfl
              have xc0 : wc.cell? ⟨b, off, none⟩ = some (.int .i64 x.s.h) := by simpa using xc 0 _ rfl
              have xc1 : wc.cell? ⟨b, off + 1, none⟩ = some (.int .i64 x.s.w) := by simpa using xc 1 _ rfl
              have xc2 : wc.cell? ⟨b, off + 2, none⟩ = some (.int .i64 x.s.c) := by simpa using xc 2 _ rfl
              clear xc
              clear hcc hx
              refine wp_region_N 42 #[.int .i64 0, .int .i64 0, .int .i64 0] #[.int .i64 mz.h, .int .i64 mz.w, .int .i64 mz.c] [0, 1, 2, 3, 4, 5, 6, 7, 8, 9, 10, 11, 12, 13] [⟨14, [], MT.is (.agg #[.int .i64 mz.h, .int .i64 mz.w, .int .i64 mz.c])⟩, ⟨15, [], MT.mine⟩, ⟨16, [15, 14], MT.tied⟩] (by kernel_rfl) (by kernel_rfl) (fun _ _ d _ _ h => by cases d <;> exact h) (fun u2 hE hsz => ?_)
              have nh : w.heap.size < wc.heap.size := I2.hn.lt
              have kh : B6 < wc.heap.size := hk2.lt
              have nc0 : ∀ W, RN wc.heap.size 42 #[.int .i64 0, .int .i64 0, .int .i64 0] #[.int .i64 mz.h, .int .i64 mz.w, .int .i64 mz.c] u2 W → W.cell? ⟨w.heap.size, 0, none⟩ = some (.int .i64 n.op) := fun W h => (h.blk (I2.hn.ext hE) nh).cell 0
              have nc1 : ∀ W, RN wc.heap.size 42 #[.int .i64 0, .int .i64 0, .int .i64 0] #[.int .i64 mz.h, .int .i64 mz.w, .int .i64 mz.c] u2 W → W.cell? ⟨w.heap.size, 1, none⟩ = some (n.inV) := fun W h => (h.blk (I2.hn.ext hE) nh).cell 1
              have nc2 : ∀ W, RN wc.heap.size 42 #[.int .i64 0, .int .i64 0, .int .i64 0] #[.int .i64 mz.h, .int .i64 mz.w, .int .i64 mz.c] u2 W → W.cell? ⟨w.heap.size, 2, none⟩ = some (.int .i64 n.k) := fun W h => (h.blk (I2.hn.ext hE) nh).cell 2
              have nc3 : ∀ W, RN wc.heap.size 42 #[.int .i64 0, .int .i64 0, .int .i64 0] #[.int .i64 mz.h, .int .i64 mz.w, .int .i64 mz.c] u2 W → W.cell? ⟨w.heap.size, 3, none⟩ = some (.int .i64 n.st) := fun W h => (h.blk (I2.hn.ext hE) nh).cell 3
              have nc4 : ∀ W, RN wc.heap.size 42 #[.int .i64 0, .int .i64 0, .int .i64 0] #[.int .i64 mz.h, .int .i64 mz.w, .int .i64 mz.c] u2 W → W.cell? ⟨w.heap.size, 4, none⟩ = some (.int .i64 n.pad) := fun W h => (h.blk (I2.hn.ext hE) nh).cell 4
              have nc5 : ∀ W, RN wc.heap.size 42 #[.int .i64 0, .int .i64 0, .int .i64 0] #[.int .i64 mz.h, .int .i64 mz.w, .int .i64 mz.c] u2 W → W.cell? ⟨w.heap.size, 5, none⟩ = some (.int .i64 n.out) := fun W h => (h.blk (I2.hn.ext hE) nh).cell 5
              have nc6 : ∀ W, RN wc.heap.size 42 #[.int .i64 0, .int .i64 0, .int .i64 0] #[.int .i64 mz.h, .int .i64 mz.w, .int .i64 mz.c] u2 W → W.cell? ⟨w.heap.size, 6, none⟩ = some (.int .i64 n.mul) := fun W h => (h.blk (I2.hn.ext hE) nh).cell 6
              have nc7 : ∀ W, RN wc.heap.size 42 #[.int .i64 0, .int .i64 0, .int .i64 0] #[.int .i64 mz.h, .int .i64 mz.w, .int .i64 mz.c] u2 W → W.cell? ⟨w.heap.size, 7, none⟩ = some (.int .i64 n.sh) := fun W h => (h.blk (I2.hn.ext hE) nh).cell 7
              have nc8 : ∀ W, RN wc.heap.size 42 #[.int .i64 0, .int .i64 0, .int .i64 0] #[.int .i64 mz.h, .int .i64 mz.w, .int .i64 mz.c] u2 W → W.cell? ⟨w.heap.size, 8, none⟩ = some (.int .i64 n.zero) := fun W h => (h.blk (I2.hn.ext hE) nh).cell 8
              have nc9 : ∀ W, RN wc.heap.size 42 #[.int .i64 0, .int .i64 0, .int .i64 0] #[.int .i64 mz.h, .int .i64 mz.w, .int .i64 mz.c] u2 W → W.cell? ⟨w.heap.size, 9, none⟩ = some (.int .i64 n.th) := fun W h => (h.blk (I2.hn.ext hE) nh).cell 9
              have nc10 : ∀ W, RN wc.heap.size 42 #[.int .i64 0, .int .i64 0, .int .i64 0] #[.int .i64 mz.h, .int .i64 mz.w, .int .i64 mz.c] u2 W → W.cell? ⟨w.heap.size, 10, none⟩ = some (.int .i64 n.tw) := fun W h => (h.blk (I2.hn.ext hE) nh).cell 10
              have nc11 : ∀ W, RN wc.heap.size 42 #[.int .i64 0, .int .i64 0, .int .i64 0] #[.int .i64 mz.h, .int .i64 mz.w, .int .i64 mz.c] u2 W → W.cell? ⟨w.heap.size, 11, none⟩ = some (.int .i64 n.tc) := fun W h => (h.blk (I2.hn.ext hE) nh).cell 11
              have nc12 : ∀ W, RN wc.heap.size 42 #[.int .i64 0, .int .i64 0, .int .i64 0] #[.int .i64 mz.h, .int .i64 mz.w, .int .i64 mz.c] u2 W → W.cell? ⟨w.heap.size, 12, none⟩ = some (n.wV) := fun W h => (h.blk (I2.hn.ext hE) nh).cell 12
              have nc13 : ∀ W, RN wc.heap.size 42 #[.int .i64 0, .int .i64 0, .int .i64 0] #[.int .i64 mz.h, .int .i64 mz.w, .int .i64 mz.c] u2 W → W.cell? ⟨w.heap.size, 13, none⟩ = some (n.bV) := fun W h => (h.blk (I2.hn.ext hE) nh).cell 13
              have kc6 : ∀ W, RN wc.heap.size 42 #[.int .i64 0, .int .i64 0, .int .i64 0] #[.int .i64 mz.h, .int .i64 mz.w, .int .i64 mz.c] u2 W → W.cell? ⟨B6, 6, none⟩ = some (.func (.func k.mf) #[] #[]) := fun W h => (h.blk (hk2.ext hE) kh).cell 6
              have x0 : ∀ W, RN wc.heap.size 42 #[.int .i64 0, .int .i64 0, .int .i64 0] #[.int .i64 mz.h, .int .i64 mz.w, .int .i64 mz.c] u2 W → W.cell? ⟨b, off, none⟩ = some (.int .i64 x.s.h) := fun W h => (h.bel.cell (p := ⟨b, off, none⟩) bh).trans (cell_ext xc0 _ hE)
              have x1 : ∀ W, RN wc.heap.size 42 #[.int .i64 0, .int .i64 0, .int .i64 0] #[.int .i64 mz.h, .int .i64 mz.w, .int .i64 mz.c] u2 W → W.cell? ⟨b, off + 1, none⟩ = some (.int .i64 x.s.w) := fun W h => (h.bel.cell (p := ⟨b, off + 1, none⟩) bh).trans (cell_ext xc1 _ hE)
              have x2 : ∀ W, RN wc.heap.size 42 #[.int .i64 0, .int .i64 0, .int .i64 0] #[.int .i64 mz.h, .int .i64 mz.w, .int .i64 mz.c] u2 W → W.cell? ⟨b, off + 2, none⟩ = some (.int .i64 x.s.c) := fun W h => (h.bel.cell (p := ⟨b, off + 2, none⟩) bh).trans (cell_ext xc2 _ hE)
              repeat (first | (refine wpP_pure rfl (by rfl) (fun W hW => by go_simp; with_reducible rfl) ?_; simp only [Act.put, List.setIfInBounds_toArray, List.set_cons_zero, List.set_cons_succ]) | (refine wpP_skip rfl (by rfl) ?_; simp only [Act.put, List.setIfInBounds_toArray, List.set_cons_zero, List.set_cons_succ]))
              refine ⟨?_, fun W hR => ?_⟩
              · clear kc6 nc0 nc1 nc2 nc3 nc4 nc5 nc6 nc7 nc8 nc9 nc10 nc11 nc12 nc13
                simp only [rSteps, rNeed, rStep, both_top, tie, TP.top, TP.mine, MP.top, MP.mine, MT.mine, MT.tied, MT.done, MT.is, List.reverse_cons, List.reverse_nil, List.nil_append, List.cons_append, ME.is, MP.is, MP.done, ME.ints, ME.row, Region.wanted, yielded, List.getElem?_toArray, phi, dstAt, List.getElem?_cons_zero, List.getElem?_cons_succ, Option.bind_some, Act.put, List.setIfInBounds_toArray, List.set_cons_zero, List.set_cons_succ, and_true, forall_eq, reduceIte, Nat.reduceEqDiff, beq_iff_eq, Option.some.injEq, Bool.false_eq_true, reduceCtorEq, implies_true, true_and]
                refine ⟨fun W hR => ?_, fun W hR => ?_, fun W hR v15 h15 => ?_⟩
                · have hN : wc.heap.size ≤ W.heap.size := by have := hR.bel.size; omega
                  go_simp
                  refine (hmade W).mono ?_
                  rintro e w' ⟨rfl, h1⟩
                  exact ⟨_, rfl, RN.ext h1 hN, rfl⟩
                · have hN : wc.heap.size ≤ W.heap.size := by have := hR.bel.size; omega
                  go_simp
                  exact ⟨_, rfl, RN.ext (ext_alloc _ _) hN, _, hN, rfl, .inl (Blk.new _ _ _)⟩
                · obtain ⟨B, hB, rfl, hb8⟩ := h15
                  refine wp_store_N _ _ _ rfl rfl rfl hb8 hB (by kernel_rfl) rfl (by simp [Value.oneCell']) (fun hs => ⟨trivial, B, rfl, hs⟩)
              · clear kc6 nc0 nc1 nc2 nc3 nc4 nc5 nc6 nc7 nc8 nc9 nc10 nc11 nc12 nc13
                simp only [rFin, envAt, TP.top, TP.mine, MP.top, MP.mine, MT.mine, MT.tied, MT.done, MT.is, List.map_cons, List.map_nil, true_implies, List.head?_cons, ME.is, MP.is, MP.done, ME.ints, ME.row, phi, dstAt, List.getElem?_cons_zero, List.getElem?_cons_succ, Option.bind_some, Act.put, List.setIfInBounds_toArray, List.set_cons_zero, List.set_cons_succ, and_true, forall_eq, reduceIte, Nat.reduceEqDiff, beq_iff_eq, Option.some.injEq, Bool.false_eq_true, reduceCtorEq, implies_true, true_and]
                rintro v15 h15 v16 ⟨B, e15, hB8⟩
                cases e15
                have hEE : Ext wc W := hE.trans (by have := hR.bel; rw [← hsz] at this; exact this)
                go_wp2_with fail
                go_meet
                exact ⟨B, rfl, hB8, I2.ext hEE, hk2.ext hEE⟩
            · have hx := hall.out x (by simp)
              have hy := hall.out y (by simp)
              have hmade := fun W => KF.made x.s y.s W hx hy
              rw [show madeZ n x.s y.s = mz from HMZ.out] at hmade
              obtain ⟨_, _, eA, _, _, hcc⟩ := I2.hv.form
              cases eA
              obtain ⟨b, off, rfl, bh, xc⟩ := hcc 0 x rfl
              have xc0 : wc.cell? ⟨b, off, none⟩ = some (.int .i64 x.s.h) := by simpa using xc 0 _ rfl
              have xc1 : wc.cell? ⟨b, off + 1, none⟩ = some (.int .i64 x.s.w) := by simpa using xc 1 _ rfl
              have xc2 : wc.cell? ⟨b, off + 2, none⟩ = some (.int .i64 x.s.c) := by simpa using xc 2 _ rfl
              clear xc
              obtain ⟨b', off', eA', _, yc⟩ := hcc 1 y rfl
              cases eA'
              have yc0 : wc.cell? ⟨b, off + 4, none⟩ = some (.int .i64 y.s.h) := by simpa using yc 0 _ rfl
              have yc1 : wc.cell? ⟨b, off + 4 + 1, none⟩ = some (.int .i64 y.s.w) := by simpa using yc 1 _ rfl
              have yc2 : wc.cell? ⟨b, off + 4 + 2, none⟩ = some (.int .i64 y.s.c) := by simpa using yc 2 _ rfl
              clear yc
              clear hcc hx hy
              refine wp_region_N 42 #[.int .i64 0, .int .i64 0, .int .i64 0] #[.int .i64 mz.h, .int .i64 mz.w, .int .i64 mz.c] [0, 1, 2, 3, 4, 5, 6, 7, 8, 9, 10, 11, 12, 13] [⟨14, [], MT.is (.agg #[.int .i64 mz.h, .int .i64 mz.w, .int .i64 mz.c])⟩, ⟨15, [], MT.mine⟩, ⟨16, [15, 14], MT.tied⟩] (by kernel_rfl) (by kernel_rfl) (fun _ _ d _ _ h => by cases d <;> exact h) (fun u2 hE hsz => ?_)
              have nh : w.heap.size < wc.heap.size := I2.hn.lt
              have kh : B6 < wc.heap.size := hk2.lt
              have nc0 : ∀ W, RN wc.heap.size 42 #[.int .i64 0, .int .i64 0, .int .i64 0] #[.int .i64 mz.h, .int .i64 mz.w, .int .i64 mz.c] u2 W → W.cell? ⟨w.heap.size, 0, none⟩ = some (.int .i64 n.op) := fun W h => (h.blk (I2.hn.ext hE) nh).cell 0
              have nc1 : ∀ W, RN wc.heap.size 42 #[.int .i64 0, .int .i64 0, .int .i64 0] #[.int .i64 mz.h, .int .i64 mz.w, .int .i64 mz.c] u2 W → W.cell? ⟨w.heap.size, 1, none⟩ = some (n.inV) := fun W h => (h.blk (I2.hn.ext hE) nh).cell 1
              have nc2 : ∀ W, RN wc.heap.size 42 #[.int .i64 0, .int .i64 0, .int .i64 0] #[.int .i64 mz.h, .int .i64 mz.w, .int .i64 mz.c] u2 W → W.cell? ⟨w.heap.size, 2, none⟩ = some (.int .i64 n.k) := fun W h => (h.blk (I2.hn.ext hE) nh).cell 2
              have nc3 : ∀ W, RN wc.heap.size 42 #[.int .i64 0, .int .i64 0, .int .i64 0] #[.int .i64 mz.h, .int .i64 mz.w, .int .i64 mz.c] u2 W → W.cell? ⟨w.heap.size, 3, none⟩ = some (.int .i64 n.st) := fun W h => (h.blk (I2.hn.ext hE) nh).cell 3
              have nc4 : ∀ W, RN wc.heap.size 42 #[.int .i64 0, .int .i64 0, .int .i64 0] #[.int .i64 mz.h, .int .i64 mz.w, .int .i64 mz.c] u2 W → W.cell? ⟨w.heap.size, 4, none⟩ = some (.int .i64 n.pad) := fun W h => (h.blk (I2.hn.ext hE) nh).cell 4
              have nc5 : ∀ W, RN wc.heap.size 42 #[.int .i64 0, .int .i64 0, .int .i64 0] #[.int .i64 mz.h, .int .i64 mz.w, .int .i64 mz.c] u2 W → W.cell? ⟨w.heap.size, 5, none⟩ = some (.int .i64 n.out) := fun W h => (h.blk (I2.hn.ext hE) nh).cell 5
              have nc6 : ∀ W, RN wc.heap.size 42 #[.int .i64 0, .int .i64 0, .int .i64 0] #[.int .i64 mz.h, .int .i64 mz.w, .int .i64 mz.c] u2 W → W.cell? ⟨w.heap.size, 6, none⟩ = some (.int .i64 n.mul) := fun W h => (h.blk (I2.hn.ext hE) nh).cell 6
              have nc7 : ∀ W, RN wc.heap.size 42 #[.int .i64 0, .int .i64 0, .int .i64 0] #[.int .i64 mz.h, .int .i64 mz.w, .int .i64 mz.c] u2 W → W.cell? ⟨w.heap.size, 7, none⟩ = some (.int .i64 n.sh) := fun W h => (h.blk (I2.hn.ext hE) nh).cell 7
              have nc8 : ∀ W, RN wc.heap.size 42 #[.int .i64 0, .int .i64 0, .int .i64 0] #[.int .i64 mz.h, .int .i64 mz.w, .int .i64 mz.c] u2 W → W.cell? ⟨w.heap.size, 8, none⟩ = some (.int .i64 n.zero) := fun W h => (h.blk (I2.hn.ext hE) nh).cell 8
              have nc9 : ∀ W, RN wc.heap.size 42 #[.int .i64 0, .int .i64 0, .int .i64 0] #[.int .i64 mz.h, .int .i64 mz.w, .int .i64 mz.c] u2 W → W.cell? ⟨w.heap.size, 9, none⟩ = some (.int .i64 n.th) := fun W h => (h.blk (I2.hn.ext hE) nh).cell 9
              have nc10 : ∀ W, RN wc.heap.size 42 #[.int .i64 0, .int .i64 0, .int .i64 0] #[.int .i64 mz.h, .int .i64 mz.w, .int .i64 mz.c] u2 W → W.cell? ⟨w.heap.size, 10, none⟩ = some (.int .i64 n.tw) := fun W h => (h.blk (I2.hn.ext hE) nh).cell 10
              have nc11 : ∀ W, RN wc.heap.size 42 #[.int .i64 0, .int .i64 0, .int .i64 0] #[.int .i64 mz.h, .int .i64 mz.w, .int .i64 mz.c] u2 W → W.cell? ⟨w.heap.size, 11, none⟩ = some (.int .i64 n.tc) := fun W h => (h.blk (I2.hn.ext hE) nh).cell 11
              have nc12 : ∀ W, RN wc.heap.size 42 #[.int .i64 0, .int .i64 0, .int .i64 0] #[.int .i64 mz.h, .int .i64 mz.w, .int .i64 mz.c] u2 W → W.cell? ⟨w.heap.size, 12, none⟩ = some (n.wV) := fun W h => (h.blk (I2.hn.ext hE) nh).cell 12
              have nc13 : ∀ W, RN wc.heap.size 42 #[.int .i64 0, .int .i64 0, .int .i64 0] #[.int .i64 mz.h, .int .i64 mz.w, .int .i64 mz.c] u2 W → W.cell? ⟨w.heap.size, 13, none⟩ = some (n.bV) := fun W h => (h.blk (I2.hn.ext hE) nh).cell 13
              have kc6 : ∀ W, RN wc.heap.size 42 #[.int .i64 0, .int .i64 0, .int .i64 0] #[.int .i64 mz.h, .int .i64 mz.w, .int .i64 mz.c] u2 W → W.cell? ⟨B6, 6, none⟩ = some (.func (.func k.mf) #[] #[]) := fun W h => (h.blk (hk2.ext hE) kh).cell 6
              have x0 : ∀ W, RN wc.heap.size 42 #[.int .i64 0, .int .i64 0, .int .i64 0] #[.int .i64 mz.h, .int .i64 mz.w, .int .i64 mz.c] u2 W → W.cell? ⟨b, off, none⟩ = some (.int .i64 x.s.h) := fun W h => (h.bel.cell (p := ⟨b, off, none⟩) bh).trans (cell_ext xc0 _ hE)
              have x1 : ∀ W, RN wc.heap.size 42 #[.int .i64 0, .int .i64 0, .int .i64 0] #[.int .i64 mz.h, .int .i64 mz.w, .int .i64 mz.c] u2 W → W.cell? ⟨b, off + 1, none⟩ = some (.int .i64 x.s.w) := fun W h => (h.bel.cell (p := ⟨b, off + 1, none⟩) bh).trans (cell_ext xc1 _ hE)
              have x2 : ∀ W, RN wc.heap.size 42 #[.int .i64 0, .int .i64 0, .int .i64 0] #[.int .i64 mz.h, .int .i64 mz.w, .int .i64 mz.c] u2 W → W.cell? ⟨b, off + 2, none⟩ = some (.int .i64 x.s.c) := fun W h => (h.bel.cell (p := ⟨b, off + 2, none⟩) bh).trans (cell_ext xc2 _ hE)
              have y0 : ∀ W, RN wc.heap.size 42 #[.int .i64 0, .int .i64 0, .int .i64 0] #[.int .i64 mz.h, .int .i64 mz.w, .int .i64 mz.c] u2 W → W.cell? ⟨b, off + 4, none⟩ = some (.int .i64 y.s.h) := fun W h => (h.bel.cell (p := ⟨b, off + 4, none⟩) bh).trans (cell_ext yc0 _ hE)
              have y1 : ∀ W, RN wc.heap.size 42 #[.int .i64 0, .int .i64 0, .int .i64 0] #[.int .i64 mz.h, .int .i64 mz.w, .int .i64 mz.c] u2 W → W.cell? ⟨b, off + 4 + 1, none⟩ = some (.int .i64 y.s.w) := fun W h => (h.bel.cell (p := ⟨b, off + 4 + 1, none⟩) bh).trans (cell_ext yc1 _ hE)
              have y2 : ∀ W, RN wc.heap.size 42 #[.int .i64 0, .int .i64 0, .int .i64 0] #[.int .i64 mz.h, .int .i64 mz.w, .int .i64 mz.c] u2 W → W.cell? ⟨b, off + 4 + 2, none⟩ = some (.int .i64 y.s.c) := fun W h => (h.bel.cell (p := ⟨b, off + 4 + 2, none⟩) bh).trans (cell_ext yc2 _ hE)
              repeat (first | (refine wpP_pure rfl (by rfl) (fun W hW => by go_simp; with_reducible rfl) ?_; simp only [Act.put, List.setIfInBounds_toArray, List.set_cons_zero, List.set_cons_succ]) | (refine wpP_skip rfl (by rfl) ?_; simp only [Act.put, List.setIfInBounds_toArray, List.set_cons_zero, List.set_cons_succ]))
              refine ⟨?_, fun W hR => ?_⟩
              · clear kc6 nc0 nc1 nc2 nc3 nc4 nc5 nc6 nc7 nc8 nc9 nc10 nc11 nc12 nc13
                simp only [rSteps, rNeed, rStep, both_top, tie, TP.top, TP.mine, MP.top, MP.mine, MT.mine, MT.tied, MT.done, MT.is, List.reverse_cons, List.reverse_nil, List.nil_append, List.cons_append, ME.is, MP.is, MP.done, ME.ints, ME.row, Region.wanted, yielded, List.getElem?_toArray, phi, dstAt, List.getElem?_cons_zero, List.getElem?_cons_succ, Option.bind_some, Act.put, List.setIfInBounds_toArray, List.set_cons_zero, List.set_cons_succ, and_true, forall_eq, reduceIte, Nat.reduceEqDiff, beq_iff_eq, Option.some.injEq, Bool.false_eq_true, reduceCtorEq, implies_true, true_and]
                refine ⟨fun W hR => ?_, fun W hR => ?_, fun W hR v15 h15 => ?_⟩
                · have hN : wc.heap.size ≤ W.heap.size := by have := hR.bel.size; omega
                  go_simp
                  refine (hmade W).mono ?_
                  rintro e w' ⟨rfl, h1⟩
                  exact ⟨_, rfl, RN.ext h1 hN, rfl⟩
                · have hN : wc.heap.size ≤ W.heap.size := by have := hR.bel.size; omega
                  go_simp
                  exact ⟨_, rfl, RN.ext (ext_alloc _ _) hN, _, hN, rfl, .inl (Blk.new _ _ _)⟩
                · obtain ⟨B, hB, rfl, hb8⟩ := h15
                  refine wp_store_N _ _ _ rfl rfl rfl hb8 hB (by kernel_rfl) rfl (by simp [Value.oneCell']) (fun hs => ⟨trivial, B, rfl, hs⟩)
              · clear kc6 nc0 nc1 nc2 nc3 nc4 nc5 nc6 nc7 nc8 nc9 nc10 nc11 nc12 nc13
                simp only [rFin, envAt, TP.top, TP.mine, MP.top, MP.mine, MT.mine, MT.tied, MT.done, MT.is, List.map_cons, List.map_nil, true_implies, List.head?_cons, ME.is, MP.is, MP.done, ME.ints, ME.row, phi, dstAt, List.getElem?_cons_zero, List.getElem?_cons_succ, Option.bind_some, Act.put, List.setIfInBounds_toArray, List.set_cons_zero, List.set_cons_succ, and_true, forall_eq, reduceIte, Nat.reduceEqDiff, beq_iff_eq, Option.some.injEq, Bool.false_eq_true, reduceCtorEq, implies_true, true_and]
                rintro v15 h15 v16 ⟨B, e15, hB8⟩
                cases e15
                have hEE : Ext wc W := hE.trans (by have := hR.bel; rw [← hsz] at this; exact this)
                go_wp2_with fail
                go_meet
                exact ⟨B, rfl, hB8, I2.ext hEE, hk2.ext hEE⟩
          obtain ⟨B8, rfl, hb8, I3, hk3⟩ := hcut
          clear I2 hk2
          have sc0 : wc.cell? ⟨B8, 0, none⟩ = some (.int .i64 mz.h) := hb8.cell 0
          have sc1 : wc.cell? ⟨B8, 1, none⟩ = some (.int .i64 mz.w) := hb8.cell 1
          have sc2 : wc.cell? ⟨B8, 2, none⟩ = some (.int .i64 mz.c) := hb8.cell 2
          have hsm := fun W => shMay_calls mz W
          obtain ⟨q, hq⟩ : ∃ q, mz.ok = q := ⟨_, rfl⟩
          rw [hq] at hsm
          have HQ4 := Lib.hid hq
          clear hq
          go_wp2_with fail
          refine (hsm wc).mono ?_
          rintro e w6 ⟨rfl, h6⟩
          replace I3 := I3.ext h6
          replace hk3 := hk3.ext h6
          replace hb8 := hb8.ext h6
          clear h6 hsm sc0 sc1 sc2
          cases q with
          | false =>
            have HV : Hid (R = (⟨⟨0, 0, 0⟩, 0⟩, 10)) := by show _ = _; rw [HV0.out, HQ.out, HQ2.out, HQ3.out, HMZ.out, HQ4.out] <;> simp only [reduceIte, Bool.false_eq_true, Bool.true_eq_false]
            have hx := ext_setRow I3.he #[.int .i64 0, .int .i64 0, .int .i64 0, .int .i64 0] (show w.heap.size ≤ w.heap.size + 1 by omega)
            have hr := I3.hr
            go_wp2_with (refine wpList_store_row rfl 44 _ _ rfl (w.heap.size + 1) #[.int .i64 0, .int .i64 0, .int .i64 0, .int .i64 0] rfl rfl 44 _ hr (by kernel_rfl) rfl (by simp [Value.oneCell']) ?_)
            refine bodyPost_ret (v := .tuple #[.agg _, .int .i64 10]) (results_cell_tmp Try.results53 _ _ (w.heap.size + 1) 44 _ (0, 0) _ rfl (setRow_heap _ _ _ _ _ _ hr) (by kernel_rfl : Try.prog.underlying 44 = some (.struct (Try.prog.fieldsOf 44))) rfl (by kernel_rfl)) rfl ?_
            exact HP.out _ _ ⟨by rw [HV.out], hx⟩
          | true =>
            obtain ⟨x0, hx0, hxo⟩ : ∃ x0, l[0]? = some x0 ∧ x0.s.ok = true := by
              rcases HL.out with ⟨x, rfl⟩ | ⟨x, y, rfl⟩
              · exact ⟨x, rfl, hall.out x (by simp)⟩
              · exact ⟨x, rfl, hall.out x (by simp)⟩
            have hwb := fun W => KF.wb x0.s W hxo HKK.out.1 HKK.out.2
            obtain ⟨wz, hwz⟩ : ∃ wz, wbZ n x0.s = wz := ⟨_, rfl⟩
            rw [hwz] at hwb
            have HWZ : Hid (wbZ n (l[0]?.getD default).s = wz) := by show _ = _; rw [hx0]; exact hwz
            have HV1 : Hid (R = if ((n.ws.length : Int) ≠ wz.1 ∨ (n.bs.length : Int) ≠ wz.2) ∨ (n.bs.any fun x => !inB (-16777216) 16777216 x) = true then (⟨⟨0, 0, 0⟩, 0⟩, 12) else (⟨mz, n.zero⟩, 0)) := by
              show _ = _
              rw [HV0.out, HQ.out, HQ2.out, HQ3.out, HMZ.out, HQ4.out, HWZ.out] <;> simp only [reduceIte, Bool.false_eq_true, Bool.true_eq_false]
            have ew : ∀ args w, (callFunc k.wf args).run Try.prog w = .ok (.enter k.wf args) w := KF.ew
            obtain ⟨A', c', eA', _, _, hcc⟩ := I3.hv.form
            obtain ⟨b, off, eb, bh, xc⟩ := hcc 0 x0 hx0
            cases eA'
            cases eb
            have xc0 : w6.cell? ⟨b, off, none⟩ = some (.int .i64 x0.s.h) := by simpa using xc 0 _ rfl
            have xc1 : w6.cell? ⟨b, off + 1, none⟩ = some (.int .i64 x0.s.w) := by simpa using xc 1 _ rfl
            have xc2 : w6.cell? ⟨b, off + 2, none⟩ = some (.int .i64 x0.s.c) := by simpa using xc 2 _ rfl
            have hl0 : 0 < l.length := by
              rcases HL.out with ⟨x, rfl⟩ | ⟨x, y, rfl⟩ <;> simp
            clear xc hcc hwz hx0 hxo HV0 HQ HQ2 HQ3 HQ4 HMZ HWZ HKK HL hall
            go_upto_region 11 with fail
            refine wp_region_X [0, 1, 2, 3, 4, 5, 6] [⟨7, [], ME.is (.tuple #[.int .i64 wz.1, .int .i64 wz.2])⟩, ⟨8, [7], ME.is (.tuple #[.int .i64 wz.1, .int .i64 wz.2])⟩, ⟨9, [8], ME.is (.int .i64 wz.1)⟩, ⟨10, [8], ME.is (.int .i64 wz.2)⟩, ⟨11, [9], ME.is (.int .i64 wz.1)⟩, ⟨12, [10], ME.is (.int .i64 wz.2)⟩] (by kernel_rfl) (by kernel_rfl) (fun _ _ d _ _ h => by cases d <;> exact h) (fun u2 hE => ?_)
            have nc0 : ∀ W, Ext u2 W → W.cell? ⟨w.heap.size, 0, none⟩ = some (.int .i64 n.op) := fun W h => ((I3.hn.ext hE).ext h).cell 0
            have nc1 : ∀ W, Ext u2 W → W.cell? ⟨w.heap.size, 1, none⟩ = some (n.inV) := fun W h => ((I3.hn.ext hE).ext h).cell 1
            have nc2 : ∀ W, Ext u2 W → W.cell? ⟨w.heap.size, 2, none⟩ = some (.int .i64 n.k) := fun W h => ((I3.hn.ext hE).ext h).cell 2
            have nc3 : ∀ W, Ext u2 W → W.cell? ⟨w.heap.size, 3, none⟩ = some (.int .i64 n.st) := fun W h => ((I3.hn.ext hE).ext h).cell 3
            have nc4 : ∀ W, Ext u2 W → W.cell? ⟨w.heap.size, 4, none⟩ = some (.int .i64 n.pad) := fun W h => ((I3.hn.ext hE).ext h).cell 4
            have nc5 : ∀ W, Ext u2 W → W.cell? ⟨w.heap.size, 5, none⟩ = some (.int .i64 n.out) := fun W h => ((I3.hn.ext hE).ext h).cell 5
            have nc6 : ∀ W, Ext u2 W → W.cell? ⟨w.heap.size, 6, none⟩ = some (.int .i64 n.mul) := fun W h => ((I3.hn.ext hE).ext h).cell 6
            have nc7 : ∀ W, Ext u2 W → W.cell? ⟨w.heap.size, 7, none⟩ = some (.int .i64 n.sh) := fun W h => ((I3.hn.ext hE).ext h).cell 7
            have nc8 : ∀ W, Ext u2 W → W.cell? ⟨w.heap.size, 8, none⟩ = some (.int .i64 n.zero) := fun W h => ((I3.hn.ext hE).ext h).cell 8
            have nc9 : ∀ W, Ext u2 W → W.cell? ⟨w.heap.size, 9, none⟩ = some (.int .i64 n.th) := fun W h => ((I3.hn.ext hE).ext h).cell 9
            have nc10 : ∀ W, Ext u2 W → W.cell? ⟨w.heap.size, 10, none⟩ = some (.int .i64 n.tw) := fun W h => ((I3.hn.ext hE).ext h).cell 10
            have nc11 : ∀ W, Ext u2 W → W.cell? ⟨w.heap.size, 11, none⟩ = some (.int .i64 n.tc) := fun W h => ((I3.hn.ext hE).ext h).cell 11
            have nc12 : ∀ W, Ext u2 W → W.cell? ⟨w.heap.size, 12, none⟩ = some (n.wV) := fun W h => ((I3.hn.ext hE).ext h).cell 12
            have nc13 : ∀ W, Ext u2 W → W.cell? ⟨w.heap.size, 13, none⟩ = some (n.bV) := fun W h => ((I3.hn.ext hE).ext h).cell 13
            have kc7 : ∀ W, Ext u2 W → W.cell? ⟨B6, 7, none⟩ = some (.func (.func k.wf) #[] #[]) := fun W h => ((hk3.ext hE).ext h).cell 7
            have x0' : ∀ W, Ext u2 W → W.cell? ⟨b, off, none⟩ = some (.int .i64 x0.s.h) := cell_ext (cell_ext xc0 _ hE)
            have x1' : ∀ W, Ext u2 W → W.cell? ⟨b, off + 1, none⟩ = some (.int .i64 x0.s.w) := cell_ext (cell_ext xc1 _ hE)
            have x2' : ∀ W, Ext u2 W → W.cell? ⟨b, off + 2, none⟩ = some (.int .i64 x0.s.c) := cell_ext (cell_ext xc2 _ hE)
            repeat (first | (refine wpP_pure rfl (by rfl) (fun W hW => by go_simp; with_reducible rfl) ?_; simp only [Act.put, List.setIfInBounds_toArray, List.set_cons_zero, List.set_cons_succ]) | (refine wpP_skip rfl (by rfl) ?_; simp only [Act.put, List.setIfInBounds_toArray, List.set_cons_zero, List.set_cons_succ]))
            refine ⟨?_, fun W hR => ?_⟩
            · clear kc7 nc0 nc1 nc2 nc3 nc4 nc5 nc6 nc7 nc8 nc9 nc10 nc11 nc12 nc13 x0' x1' x2'
              simp only [rSteps, rNeed, rStep, both_top, tie, TP.top, TP.mine, MP.top, MP.mine, MT.mine, MT.tied, MT.done, MT.is, List.reverse_cons, List.reverse_nil, List.nil_append, List.cons_append, ME.is, MP.is, MP.done, ME.ints, ME.row, Region.wanted, yielded, List.getElem?_toArray, phi, dstAt, List.getElem?_cons_zero, List.getElem?_cons_succ, Option.bind_some, Act.put, List.setIfInBounds_toArray, List.set_cons_zero, List.set_cons_succ, and_true, forall_eq, reduceIte, Nat.reduceEqDiff, beq_iff_eq, Option.some.injEq, Bool.false_eq_true, reduceCtorEq, implies_true, true_and]
              refine ⟨fun W hR => ?_, fun W hR => ?_, fun W hR => ?_, fun W hR => ?_, fun W hR => ?_, fun W hR => ?_⟩
              · go_simp
                refine (hwb W).mono ?_
                rintro e w' ⟨rfl, h1⟩
                exact ⟨_, rfl, h1, rfl⟩
              all_goals (go_simp; exact ⟨_, rfl, Ext.refl _, rfl⟩)
            · clear kc7 nc0 nc1 nc2 nc3 nc4 nc5 nc6 nc7 nc8 nc9 nc10 nc11 nc12 nc13 x0' x1' x2'
              simp only [rFin, envAt, TP.top, TP.mine, MP.top, MP.mine, MT.mine, MT.tied, MT.done, MT.is, List.map_cons, List.map_nil, true_implies, List.head?_cons, ME.is, MP.is, MP.done, ME.ints, ME.row, phi, dstAt, List.getElem?_cons_zero, List.getElem?_cons_succ, Option.bind_some, Act.put, List.setIfInBounds_toArray, List.set_cons_zero, List.set_cons_succ, and_true, forall_eq, reduceIte, Nat.reduceEqDiff, beq_iff_eq, Option.some.injEq, Bool.false_eq_true, reduceCtorEq, implies_true, true_and]
              have hEE := hE.trans hR
              replace I3 := I3.ext hEE
              replace hk3 := hk3.ext hEE
              replace hb8 := hb8.ext hEE
              clear hE hR hwb
              have nc12 : W.cell? ⟨w.heap.size, 12, none⟩ = some (.slice AW n.ws.length cW) := by rw [← HWE.out]; exact I3.hn.cell 12
              obtain ⟨AB, cB, hbe, hbl, hbm, _⟩ := I3.hb.form
              unfold maxLen at hbm
              have nc13 : W.cell? ⟨w.heap.size, 13, none⟩ = some (.slice AB n.bs.length cB) := by rw [← hbe]; exact I3.hn.cell 13
              have nc8 : W.cell? ⟨w.heap.size, 8, none⟩ = some (.int .i64 n.zero) := I3.hn.cell 8
              have hvb : Ints .i32 W (.slice AB n.bs.length cB) n.bs := by rw [← hbe]; exact I3.hb
              clear hbe
              by_cases h1 : (n.ws.length : Int) = wz.1
              · have t1 : ((n.ws.length : Int) != wz.1) = false := by simp [h1]
                by_cases h2 : (n.bs.length : Int) = wz.2
                · have t2 : ((n.bs.length : Int) != wz.2) = false := by simp [h2]
                  have eg := enters_of Try.func72 (by kernel_rfl) rfl
                  have hcv := containsI32_calls _ _ _ _ n.bs W hvb eg (tells_bias W) hbk
                  obtain ⟨q, hq⟩ : ∃ q, (n.bs.any fun x => !inB (-16777216) 16777216 x) = q := ⟨_, rfl⟩
                  rw [hq] at hcv
                  cases q with
                  | true =>
                    have HV : Hid (R = (⟨⟨0, 0, 0⟩, 0⟩, 12)) := by show _ = _; rw [HV1.out, if_pos (Or.inr hq)]
                    clear hq h1 h2 HV1
                    go_upto_region 12 with fail
                    go_wp2_with fail
                    refine hcv.mono ?_
                    rintro e w7 ⟨rfl, h7⟩
                    replace I3 := I3.ext h7
                    clear hcv nc12 nc13 nc8 hvb hb8 hk3
                    have hx := ext_setRow I3.he #[.int .i64 0, .int .i64 0, .int .i64 0, .int .i64 0] (show w.heap.size ≤ w.heap.size + 1 by omega)
                    have hr := I3.hr
                    go_wp2_with (refine wpList_store_row rfl 44 _ _ rfl (w.heap.size + 1) #[.int .i64 0, .int .i64 0, .int .i64 0, .int .i64 0] rfl rfl 44 _ hr (by kernel_rfl) rfl (by simp [Value.oneCell']) ?_)
                    refine bodyPost_ret (v := .tuple #[.agg _, .int .i64 12]) (results_cell_tmp Try.results53 _ _ (w.heap.size + 1) 44 _ (0, 0) _ rfl (setRow_heap _ _ _ _ _ _ hr) (by kernel_rfl : Try.prog.underlying 44 = some (.struct (Try.prog.fieldsOf 44))) rfl (by kernel_rfl)) rfl ?_
                    exact HP.out _ _ ⟨by rw [HV.out], hx⟩
                  | false =>
                    have HV : Hid (R = (⟨mz, n.zero⟩, 0)) := by show _ = _; rw [HV1.out, if_neg]; simp [h1, h2, hq]
                    clear hq h1 h2 HV1
                    go_upto_region 12 with fail
                    go_wp2_with fail
                    refine hcv.mono ?_
                    rintro e w7 ⟨rfl, h7⟩
                    replace I3 := I3.ext h7
                    replace hb8 := hb8.ext h7
                    clear hcv nc12 nc13 nc8 hvb hk3
                    have nc8 : w7.cell? ⟨w.heap.size, 8, none⟩ = some (.int .i64 n.zero) := I3.hn.cell 8
                    have sc0 : w7.cell? ⟨B8, 0, none⟩ = some (.int .i64 mz.h) := hb8.cell 0
                    have sc1 : w7.cell? ⟨B8, 1, none⟩ = some (.int .i64 mz.w) := hb8.cell 1
                    have sc2 : w7.cell? ⟨B8, 2, none⟩ = some (.int .i64 mz.c) := hb8.cell 2
                    have hx := ext_setRow I3.he #[.int .i64 mz.h, .int .i64 mz.w, .int .i64 mz.c, .int .i64 n.zero] (show w.heap.size ≤ w.heap.size + 1 by omega)
                    have hr := I3.hr
                    go_wp2_with (refine wpList_store_row rfl 44 _ _ rfl (w.heap.size + 1) #[.int .i64 mz.h, .int .i64 mz.w, .int .i64 mz.c, .int .i64 n.zero] rfl rfl 44 _ hr (by kernel_rfl) rfl (by simp [Value.oneCell']) ?_)
                    refine bodyPost_ret (v := .tuple #[.agg _, .int .i64 0]) (results_cell_tmp Try.results53 _ _ (w.heap.size + 1) 44 _ (0, 0) _ rfl (setRow_heap _ _ _ _ _ _ hr) (by kernel_rfl : Try.prog.underlying 44 = some (.struct (Try.prog.fieldsOf 44))) rfl (by kernel_rfl)) rfl ?_
                    exact HP.out _ _ ⟨by rw [HV.out], hx⟩
                · have t2 : ((n.bs.length : Int) != wz.2) = true := by simp [h2]
                  have HV : Hid (R = (⟨⟨0, 0, 0⟩, 0⟩, 12)) := by show _ = _; rw [HV1.out, if_pos (Or.inl (Or.inr h2))]
                  clear h1 h2 HV1 hvb
                  have hx := ext_setRow I3.he #[.int .i64 0, .int .i64 0, .int .i64 0, .int .i64 0] (show w.heap.size ≤ w.heap.size + 1 by omega)
                  have hr := I3.hr
                  go_wp2_with (refine wpList_store_row rfl 44 _ _ rfl (w.heap.size + 1) #[.int .i64 0, .int .i64 0, .int .i64 0, .int .i64 0] rfl rfl 44 _ hr (by kernel_rfl) rfl (by simp [Value.oneCell']) ?_)
                  refine bodyPost_ret (v := .tuple #[.agg _, .int .i64 12]) (results_cell_tmp Try.results53 _ _ (w.heap.size + 1) 44 _ (0, 0) _ rfl (setRow_heap _ _ _ _ _ _ hr) (by kernel_rfl : Try.prog.underlying 44 = some (.struct (Try.prog.fieldsOf 44))) rfl (by kernel_rfl)) rfl ?_
                  exact HP.out _ _ ⟨by rw [HV.out], hx⟩
              · have t1 : ((n.ws.length : Int) != wz.1) = true := by simp [h1]
                have HV : Hid (R = (⟨⟨0, 0, 0⟩, 0⟩, 12)) := by show _ = _; rw [HV1.out, if_pos (Or.inl (Or.inl h1))]
                clear h1 HV1 hvb
                have hx := ext_setRow I3.he #[.int .i64 0, .int .i64 0, .int .i64 0, .int .i64 0] (show w.heap.size ≤ w.heap.size + 1 by omega)
                have hr := I3.hr
                go_wp2_with (refine wpList_store_row rfl 44 _ _ rfl (w.heap.size + 1) #[.int .i64 0, .int .i64 0, .int .i64 0, .int .i64 0] rfl rfl 44 _ hr (by kernel_rfl) rfl (by simp [Value.oneCell']) ?_)
                refine bodyPost_ret (v := .tuple #[.agg _, .int .i64 12]) (results_cell_tmp Try.results53 _ _ (w.heap.size + 1) 44 _ (0, 0) _ rfl (setRow_heap _ _ _ _ _ _ hr) (by kernel_rfl : Try.prog.underlying 44 = some (.struct (Try.prog.fieldsOf 44))) rfl (by kernel_rfl)) rfl ?_
                exact HP.out _ _ ⟨by rw [HV.out], hx⟩

end Go.Proofs.Ytmddlhfahfelpaa
