/- The walk of the law ImagePlaces. -/
/- The walk of the law ImageStreams. -/
import Derived.Test.YtdhdbmfipkppiaaImd
import Derived.Test.YtdhdbmfipkppiaaIml
import Derived.Test.YtdhdbmfipkppiaaRfj
import Derived.Test.YtdhdbmfipkppiaaNsaA
import Derived.Test.YtdhdbmfipkppiaaDraw5
import Derived.Laws.OwnMore
namespace Go.Proofs.Ytdhdbmfipkppiaa
set_option linter.unusedSimpArgs false
set_option linter.unusedVariables false
set_option linter.unnecessarySimpa false
open Go.RowKit

/-- The place that a value is given, and those of the first k. -/
def atL (vs : List Vl) (ls : List Int) (i : Nat) : Int := if i < ls.length then ls[i]?.getD 0 else 65536 - sizeZ (vs[i]?.getD default).s
def atsL (vs : List Vl) (ls : List Int) (k : Nat) : List Int := (List.range k).map (atL vs ls)
def fitK (vs : List Vl) (ls : List Int) (k : Nat) : Bool := (List.range k).all fun j => fitB (vs[j]?.getD default) (atL vs ls j)
theorem atsL_len (vs : List Vl) (ls : List Int) (k : Nat) : (atsL vs ls k).length = k := by simp [atsL]
theorem atsL_succ (vs : List Vl) (ls : List Int) (k : Nat) : atsL vs ls (k + 1) = atsL vs ls k ++ [atL vs ls k] := by simp [atsL, List.range_succ]
theorem fitK_succ (vs : List Vl) (ls : List Int) (k : Nat) : fitK vs ls (k + 1) = (fitK vs ls k && fitB (vs[k]?.getD default) (atL vs ls k)) := by simp [fitK, List.range_succ]
theorem fits_atsL (vs : List Vl) (ls : List Int) : fitsB vs (atsL vs ls vs.length) = fitK vs ls vs.length := by
  unfold fitsB fitK
  rw [atsL_len, decide_eq_true rfl, Bool.true_and]
  apply Bool.eq_iff_iff.2
  simp only [List.all_eq_true, List.mem_range]
  constructor <;> intro h j hj <;> have := h j hj <;> simpa [atsL, hj] using this
theorem fits_len {vs : List Vl} {pl : List Int} (h : vs.length ≠ pl.length) : fitsB vs pl = false := by
  unfold fitsB
  rw [decide_eq_false h, Bool.false_and]
theorem mayI_vals {g : Gr} {vs : List Vl} (h : valuesR g = (vs, 0)) (pl : List Int) : mayI g pl [] [] [] = if fitsB vs pl = true then 0 else 1 := by
  unfold mayI
  rw [h]
  simp only [ne_eq, not_true_eq_false, if_false]
  cases fitsB vs pl <;> rfl

/-- An image in a box whose places are laid one by one. -/
structure Plg (x : Gr) (w0 W : World) (b : Nat) (pv : Value) (ps : List Int) : Prop where
  box : Blk W b #[x.iV, x.nV, x.oV, pv, .slice none 0 0, .slice none 0 0, .slice none 0 0] 54
  own : W.ownsRow w0.heap.size 3 1 pv ps.length (ps.map (.int .i64))
  ext : Ext w0 W
  hb : w0.heap.size ≤ b
  ne : pv.ownBlock ≠ some b
theorem Plg.later {x : Gr} {w0 W W' : World} {b : Nat} {pv : Value} {ps : List Int} (h : Plg x w0 W b pv ps) (e : Ext W W') : Plg x w0 W' b pv ps :=
  ⟨h.box.ext e, World.ownsRow.kept (row := none) h.own (grown_of_ext e) (by cases pv.ownBlock <;> simp), h.ext.trans e, h.hb, h.ne⟩
theorem Plg.put {x : Gr} {w0 w w1 : World} {b : Nat} {v v1 : Value} {ps : List Int} {z : Int} {n : Nat} (h : Plg x w0 w b v ps) (hn' : n = ps.length) (ho : w1.ownsRow w0.heap.size 3 1 v1 (n + 1) (ps.map (.int .i64) ++ [.int .i64 z])) (hg : w.grownBy w1 v.ownBlock) (hn : Near w v v1) : Plg x w0 (w1.setCell ⟨b, 3, none⟩ v1) b v1 (ps ++ [z]) := by
  subst hn'
  have hb1 : Blk w1 b #[x.iV, x.nV, x.oV, v, .slice none 0 0, .slice none 0 0, .slice none 0 0] 54 := h.box.grown hg (fun e => h.ne e.symm)
  have hne : v1.ownBlock ≠ some b := fun e => by
    rcases hn b e with h1 | h1
    · exact h.ne h1
    · have := h.box.lt; omega
  refine ⟨?_, ?_, ?_, h.hb, hne⟩
  · have := hb1.set 3 v1
    simpa using this
  · have := ownsRow_setCell_other (a := ⟨b, 3, none⟩) ho hne v1
    rw [List.length_append, List.map_append]
    exact this
  · exact Below.setCell (Below.grown h.ext hg h.ext.size (fun k hk => (h.own.lt k hk).1)) h.hb _

theorem ints_drop {k : IntKind} {w : World} {A : Option Addr} {n c : Nat} {zs : List Int} (h : Ints k w (.slice A n c) zs) {m : Nat} (hm : m ≤ zs.length) : Ints k w (.slice (A.map fun a => a.add m) (n - m) (c - m)) (zs.drop m) := by
  obtain ⟨A', c', e, h1, h2, h3, h4⟩ := h
  cases e
  have hl : (zs.drop m).length = zs.length - m := by simp
  refine ⟨_, _, by rw [hl], by omega, by omega, by simp, fun j u hj => ?_⟩
  rw [List.map_drop, List.getElem?_drop] at hj
  obtain ⟨b, off, rfl, hc⟩ := h4 _ _ hj
  have e : (⟨b, off, none⟩ : Addr).add m = ⟨b, off + m, none⟩ := by unfold Addr.add; split <;> simp_all
  exact ⟨b, off + m, by simp [e], by rw [show off + m + j = off + (m + j) from by omega]; exact hc⟩

def TrueP (w : World) (e : Ending) (w' : World) : Prop := e = .returned (.bool true) ∧ Below w.heap.size w w'

set_option maxRecDepth 20000 in
set_option maxHeartbeats 12800000 in
theorem imagePlaces_calls (g : Gr) (pV s0 s1 s2 lV : Value) (pl ls : List Int) (L0 L1 L2 : List Isa.Cm) (w : World) (hg : GrIn w g) (hp : Ints .i64 w pV pl) (hpk : ∀ z ∈ pl, InK .i64 z)
    (hs0 : Isa.Cmds w s0 L0) (hs1 : Isa.Cmds w s1 L1) (hs2 : Isa.Cmds w s2 L2) (hl : Ints .i64 w lV ls) (hlk : ∀ z ∈ ls, InK .i64 z) :
    Calls Try.prog 10 #[.agg #[g.iV, g.nV, g.oV, pV, s0, s1, s2], lV] w (TrueP w) := by
  have HP : Hid (∀ e w', e = .returned (.bool true) → Ext w w' → TrueP w e w') := fun e w' h1 h2 => ⟨h1, h2⟩
  generalize TrueP w = PP at *
  have hE1 := ext_alloc w (.cells #[g.iV, g.nV, g.oV, pV, s0, s1, s2] 54)
  have hb1 := Blk.new w #[g.iV, g.nV, g.oV, pV, s0, s1, s2] 54
  have hls := fun W (h : Ext w W) => less09_calls g pV s0 s1 s2 pl L0 L1 L2 w W hg hp hs0 hs1 hs2 h
  unfold LessJPost at hls
  have hsh := fun W => shown09_calls W
  obtain ⟨Al, cl, el, hl1, hl2, hlc⟩ := id hl.form
  unfold maxLen at hl2
  have HLC := Lib.hid hlc
  have HLK := Lib.hid hlk
  have HPK := Lib.hid hpk
  clear hlc hlk hpk hl
  subst el
  go_enter Try.func10, Try.ntmps10
  go_upto_region 1 with fail
  generalize World.alloc w _ = w1 at *
  go_upto_region 2 with (go_at_call 33; refine (hsh _).mono ?_; rintro e w2 ⟨rfl, h2⟩)
  have h2 : Ext w1 w2 := h2
  replace hb1 := hb1.ext h2
  replace hE1 := hE1.trans h2
  clear hsh
  have q0 : World.cell? w2 ⟨w.heap.size, 0, none⟩ = some g.iV := hb1.cell 0
  have q1 : World.cell? w2 ⟨w.heap.size, 1, none⟩ = some g.nV := hb1.cell 1
  have q2 : World.cell? w2 ⟨w.heap.size, 2, none⟩ = some g.oV := hb1.cell 2
  have q3 : World.cell? w2 ⟨w.heap.size, 3, none⟩ = some pV := hb1.cell 3
  have q4 : World.cell? w2 ⟨w.heap.size, 4, none⟩ = some s0 := hb1.cell 4
  have q5 : World.cell? w2 ⟨w.heap.size, 5, none⟩ = some s1 := hb1.cell 5
  have q6 : World.cell? w2 ⟨w.heap.size, 6, none⟩ = some s2 := hb1.cell 6
  go_wp2_with fail
  refine (hls _ hE1).mono ?_
  rintro e w3 ⟨x, pX, t0, t1, t2, pl', rfl, hL, hpx, hpm, hpl, hT0, hT1, hT2, h3⟩
  clear q0 q1 q2 q3 q4 q5 q6 hls
  replace hb1 := hb1.ext h3
  have hE3 := hE1.trans h3
  have hone : Array.all #[x.iV, x.nV, x.oV, pX, t0, t1, t2] (·.oneCell') = true := by
    obtain ⟨_, _, e1, _⟩ := hL.ins.form
    obtain ⟨_, _, e2, _⟩ := row_of_own hL.own
    obtain ⟨_, _, e3, _⟩ := hL.outs.form
    obtain ⟨_, _, e4, _⟩ := hpx.form
    obtain ⟨_, _, e5, _⟩ := id (show Row _ _ _ _ _ from hT0)
    obtain ⟨_, _, e6, _⟩ := id (show Row _ _ _ _ _ from hT1)
    obtain ⟨_, _, e7, _⟩ := id (show Row _ _ _ _ _ from hT2)
    rw [e1, e2, e3, e4, e5, e6, e7]
    simp [Value.oneCell']
  have HO := Lib.hid hone
  have hsz2 := hE1.size
  have hL4 := hL.setRow (b := w.heap.size) (Nat.le_refl _) (by omega) #[x.iV, x.nV, x.oV, pX, t0, t1, t2]
  have hb4 : Blk (w3.setRow w.heap.size #[x.iV, x.nV, x.oV, pX, t0, t1, t2]) w.heap.size #[x.iV, x.nV, x.oV, pX, t0, t1, t2] 54 := setRow_heap _ _ _ _ _ _ hb1
  have hE4 : Ext w (w3.setRow w.heap.size #[x.iV, x.nV, x.oV, pX, t0, t1, t2]) := ext_setRow hE3 _ (Nat.le_refl _)
  clear hone hL hE1 hE3 hsz2
  go_upto_region 3 with (refine wpList_store_row rfl 54 _ _ rfl w.heap.size #[x.iV, x.nV, x.oV, pX, t0, t1, t2] rfl rfl 54 _ hb1 (by kernel_rfl) rfl HO.out ?_)
  clear hb1 h2 h3 HO
  generalize World.setRow w3 _ _ = w4 at *
  have hg4 := hL4.at
  have hval := rvalues_calls x w4 hg4
  unfold ValsPost at hval
  have HPX := Lib.hid (And.intro hpx hpm)
  have HT := Lib.hid (And.intro hT0 (And.intro hT1 hT2))
  clear hL4 hpx hpm hT0 hT1 hT2 hpl
  have q0 : World.cell? w4 ⟨w.heap.size, 0, none⟩ = some x.iV := hb4.cell 0
  have q1 : World.cell? w4 ⟨w.heap.size, 1, none⟩ = some x.nV := hb4.cell 1
  have q2 : World.cell? w4 ⟨w.heap.size, 2, none⟩ = some x.oV := hb4.cell 2
  by_cases hv0 : (valuesR x).2 = 0
  · have hok := vals_ok (g := x) hv0
    have hvr : valuesR x = ((valuesR x).1, 0) := by rw [← hv0]
    have hn1 : 1 ≤ x.ins.length := by
      unfold valuesR at hv0
      by_cases h1 : goesInR x ≠ 0
      · rw [if_pos h1] at hv0; exact absurd hv0 h1
      · replace h1 : goesInR x = 0 := Decidable.not_not.1 h1
        unfold goesInR at h1
        split at h1
        · cases h1
        · split at h1
          · cases h1
          · omega
    go_wp2_with fail
    refine hval.mono ?_
    rintro e w5 ⟨hA, _, hE5⟩
    obtain ⟨vV, rfl, hown⟩ := hA hv0
    clear q0 q1 q2 hval hA hv0
    generalize (valuesR x).1 = vs at *
    have hvls : Vls w5 vV vs := row_of_own hown
    have h5 := hE4.trans hE5
    replace hg4 := hg4.ext hE5
    replace hb4 := hb4.ext hE5
    clear hown hE5 hE4
    obtain ⟨Av, cv, ev, hv1, hv2, hvcl⟩ := id hvls.form
    unfold maxLen at hv2
    have HVCL := Lib.hid hvcl
    have hvl : vs.length ≤ 16 := by have := hok.len; have := hok.il; have := hok.nl; omega
    have hvn : 1 ≤ vs.length := by have := hok.len; omega
    have HMV := Lib.hid (fun ps => mayI_vals hvr ps)
    clear hvcl hvls hvr hok hn1
    subst ev
    have q0 : World.cell? w5 ⟨w.heap.size, 0, none⟩ = some x.iV := hb4.cell 0
    have q1 : World.cell? w5 ⟨w.heap.size, 1, none⟩ = some x.nV := hb4.cell 1
    have q2 : World.cell? w5 ⟨w.heap.size, 2, none⟩ = some x.oV := hb4.cell 2
    have hone : Array.all #[x.iV, x.nV, x.oV, .slice none 0 0, .slice none 0 0, .slice none 0 0, .slice none 0 0] (·.oneCell') = true := by
      obtain ⟨_, _, e1, _⟩ := hg4.ins
      obtain ⟨_, _, e2, _⟩ := hg4.nodes
      obtain ⟨_, _, e3, _⟩ := hg4.outs
      rw [e1, e2, e3]
      simp [Value.oneCell']
    have HO := Lib.hid hone
    have hz := Blk.new w5 #[.slice none 0 0, .slice none 0 0, .slice none 0 0, .slice none 0 0, .slice none 0 0, .slice none 0 0, .slice none 0 0] 54
    have hb8 : Blk ((w5.alloc (.cells #[.slice none 0 0, .slice none 0 0, .slice none 0 0, .slice none 0 0, .slice none 0 0, .slice none 0 0, .slice none 0 0] 54)).setRow w5.heap.size #[x.iV, x.nV, x.oV, .slice none 0 0, .slice none 0 0, .slice none 0 0, .slice none 0 0]) w5.heap.size #[x.iV, x.nV, x.oV, .slice none 0 0, .slice none 0 0, .slice none 0 0, .slice none 0 0] 54 := setRow_heap _ _ _ _ _ _ hz
    have hQ : Ext w5 ((w5.alloc (.cells #[.slice none 0 0, .slice none 0 0, .slice none 0 0, .slice none 0 0, .slice none 0 0, .slice none 0 0, .slice none 0 0] 54)).setRow w5.heap.size #[x.iV, x.nV, x.oV, .slice none 0 0, .slice none 0 0, .slice none 0 0, .slice none 0 0]) := ext_setRow (ext_alloc _ _) _ (Nat.le_refl _)
    have hP0 : Plg x w5 _ w5.heap.size (.slice none 0 0) [] := ⟨hb8, ⟨by simp, .inl ⟨rfl, rfl⟩⟩, hQ, Nat.le_refl _, by simp [Value.ownBlock]⟩
    have HG := Lib.hid hg4
    have H5 := Lib.hid h5
    clear hone hQ hb8 hb4 hg4 h5
    go_upto_region 7 with (refine wpList_store_row rfl 54 _ _ rfl w5.heap.size #[x.iV, x.nV, x.oV, .slice none 0 0, .slice none 0 0, .slice none 0 0, .slice none 0 0] rfl rfl 54 _ hz (by kernel_rfl) rfl HO.out ?_)
    clear q0 q1 q2 hz HO
    generalize World.setRow (World.alloc w5 _) _ _ = w6 at *
    generalize w5.heap.size = b8 at *
    go_wp2_with fail
    have HP0 := Lib.hid hP0
    clear hP0
    go_loopw [9, 10] (fun f i wr => ∃ (k : Nat) (b : Bool) (pv : Value), f = .bool b ∧ k ≤ vs.length ∧ i = .int .i64 k ∧ Hid (b = fitK vs ls k) ∧ Hid (Plg x w5 wr b8 pv (atsL vs ls k))) (fun _ i _ => vs.length - (intOf i).toNat)
    case atStart => exact ⟨0, true, _, rfl, by omega, rfl, rfl, HP0⟩
    case round =>
      clear HP0
      obtain ⟨k, b, pv, rfl, hk, rfl, HB, HS⟩ := hrel
      by_cases hlt : k < vs.length
      · have hvs : vs[k]? = some vs[k] := by simp [hlt]
        obtain ⟨bv, offv, rfl, hbv, hvc⟩ := HVCL.out k _ hvs
        have HAT : Hid (atL vs ls k = if k < ls.length then ls[k]?.getD 0 else 65536 - sizeZ vs[k].s) := by show _ = _; unfold atL; rw [hvs]; rfl
        have HFS : Hid (fitK vs ls (k + 1) = (fitK vs ls k && fitB vs[k] (atL vs ls k))) := by show _ = _; rw [fitK_succ, hvs]; rfl
        have HAS : Hid (atsL vs ls (k + 1) = atsL vs ls k ++ [atL vs ls k]) := atsL_succ vs ls k
        have HALN : Hid (k = (atsL vs ls k).length) := (atsL_len vs ls k).symm
        generalize vs[k] = xv at *
        have hsc := fun W => rSize_calls xv.s W
        have hszr := sizeZ_range xv.s
        have HFB : Hid (∀ z, fitB xv z = (decide (0 ≤ z) && decide (z ≤ 65536 - sizeZ xv.s))) := fun z => rfl
        generalize sizeZ xv.s = sz at *
        have mw : IntKind.i64.wrap (65536 - sz) = 65536 - sz := IntWalk.i64_in _ (by omega)
        have v0 : World.cell? wr ⟨bv, offv + k * 4, none⟩ = some (.int .i64 xv.s.h) := cell_ext (hvc 0 _ rfl) _ HS.out.ext
        have v1 : World.cell? wr ⟨bv, offv + k * 4 + 1, none⟩ = some (.int .i64 xv.s.w) := cell_ext (hvc 1 _ rfl) _ HS.out.ext
        have v2 : World.cell? wr ⟨bv, offv + k * 4 + 2, none⟩ = some (.int .i64 xv.s.c) := cell_ext (hvc 2 _ rfl) _ HS.out.ext
        clear hvs hvc
        go_wp2_with fail
        refine (hsc _).mono ?_
        rintro e wq ⟨rfl, hEq⟩
        have hEq : Ext wr wq := hEq
        have HSQ := Lib.hid (HS.out.later hEq)
        have HEL := Lib.hid ((H5.out.trans HS.out.ext).trans hEq)
        clear v0 v1 v2 hsc HS hEq
        go_upto_if 53 with fail
        go_cut [12] (fun a wx => ∃ z : Int, a = .int .i64 z ∧ Hid (z = atL vs ls k) ∧ wx = wq)
        case first =>
          by_cases hk2 : k < ls.length
          · obtain ⟨bl, ol, rfl, d0⟩ := HLC.out k hk2
            have d1 : World.cell? wq ⟨bl, ol + k, none⟩ = some (.int .i64 (ls[k]?.getD 0)) := cell_ext d0 _ HEL.out
            have HZ : Hid (ls[k]?.getD 0 = atL vs ls k) := by show _ = _; rw [HAT.out, if_pos hk2]
            generalize ls[k]?.getD 0 = z at *
            clear d0
            go_wp2_with fail
            go_meet
            exact ⟨z, rfl, HZ, rfl⟩
          · have HZ : Hid (65536 - sz = atL vs ls k) := by show _ = _; rw [HAT.out, if_neg hk2]
            go_wp2_with fail
            go_meet
            exact ⟨_, rfl, HZ, rfl⟩
        obtain ⟨z, rfl, HZ, rfl⟩ := hcut
        rw [← HZ.out] at HFS HAS
        clear HAT HZ HEL
        have c3 : World.cell? wc ⟨b8, 3, none⟩ = some pv := HSQ.out.box.cell 3
        have hbl := HSQ.out.box.lt
        have hfr := HSQ.out.box.frozen 3
        have hE := ext_alloc wc (.cells #[.int .i64 z] 3)
        have hnew := row_new wc #[.int .i64 z] 3 1 1 rfl (by decide)
        have hS1 := HSQ.out.later hE
        have hown := hS1.own
        rw [← HALN.out] at hown
        have hbase := hS1.ext.size
        have hk1 : k + 1 ≤ 140737488355328 := by omega
        have hk2 : (k + 1) * 8 ≤ 140737488355328 := by omega
        have h1 : ∀ u ∈ #[Value.int .i64 z].toList, u.oneCell' = true := by intro u hu; simp at hu; subst hu; rfl
        have HPUT : Hid (∀ (v' : Value) (w' : World), w'.ownsRow w5.heap.size 3 1 v' (k + 1) ((atsL vs ls k).map (.int .i64) ++ #[Value.int .i64 z].toList) →
            (wc.alloc (.cells #[.int .i64 z] 3)).grownBy w' pv.ownBlock → Near (wc.alloc (.cells #[.int .i64 z] 3)) pv v' → ∃ A2 n2 c2, v' = .slice A2 n2 c2 ∧
            Hid (Plg x w5 (w'.setCell ⟨b8, 3, none⟩ v') b8 v' (atsL vs ls (k + 1))) ∧ b8 < w'.heap.size ∧ w'.frozen? ⟨b8, 3, none⟩ = false ∧ World.cell? w' ⟨b8, 3, none⟩ = some pv) := by
          intro v' w' ho hgr hnr
          have hb' : Blk w' b8 #[x.iV, x.nV, x.oV, pv, .slice none 0 0, .slice none 0 0, .slice none 0 0] 54 := hS1.box.grown hgr (fun e => hS1.ne e.symm)
          obtain ⟨A2, c2, e2, _⟩ := row_of_own ho
          have hp := hS1.put HALN.out ho hgr hnr
          rw [← HAS.out] at hp
          exact ⟨A2, _, c2, e2, hp, hb'.lt, hb'.frozen 3, hb'.cell 3⟩
        clear HSQ hE hS1 HAS HALN
        cases b with
        | false =>
          have HB2 : Hid (false = fitK vs ls (k + 1)) := by show _ = _; rw [HFS.out, ← HB.out, HFB.out]; simp [*]
          clear HFS HFB HB
          go_wp2_with (at_builtin; refine wpList_append_row rfl rfl elem_i64 hown rfl hnew rfl h1 hk1 hk2 hbase ?_; intro v' w' ho hgr hnr; obtain ⟨A2, n2, c2, rfl, hpw, hb1, hb2, hb3⟩ := HPUT.out v' w' ho hgr hnr)
          go_roundw
          case rel => exact ⟨k + 1, _, _, rfl, by omega, by go_num, HB2, hpw⟩
          case measure => simp [intOf]; omega
        | true =>
          by_cases g1 : 0 ≤ z
          · by_cases g2 : z ≤ 65536 - sz
            · have d1 : decide (0 ≤ z) = true := decide_eq_true g1
              have d2 : decide (z ≤ 65536 - sz) = true := decide_eq_true g2
              have HB2 : Hid (true = fitK vs ls (k + 1)) := by show _ = _; rw [HFS.out, ← HB.out, HFB.out]; simp [*]
              clear HFS HFB HB
              go_wp2_with (at_builtin; refine wpList_append_row rfl rfl elem_i64 hown rfl hnew rfl h1 hk1 hk2 hbase ?_; intro v' w' ho hgr hnr; obtain ⟨A2, n2, c2, rfl, hpw, hb1, hb2, hb3⟩ := HPUT.out v' w' ho hgr hnr)
              go_roundw
              case rel => exact ⟨k + 1, _, _, rfl, by omega, by go_num, HB2, hpw⟩
              case measure => simp [intOf]; omega

            · have d1 : decide (0 ≤ z) = true := decide_eq_true g1
              have d2 : decide (z ≤ 65536 - sz) = false := decide_eq_false g2
              have HB2 : Hid (false = fitK vs ls (k + 1)) := by show _ = _; rw [HFS.out, ← HB.out, HFB.out]; simp [*]
              clear HFS HFB HB
              go_wp2_with (at_builtin; refine wpList_append_row rfl rfl elem_i64 hown rfl hnew rfl h1 hk1 hk2 hbase ?_; intro v' w' ho hgr hnr; obtain ⟨A2, n2, c2, rfl, hpw, hb1, hb2, hb3⟩ := HPUT.out v' w' ho hgr hnr)
              go_roundw
              case rel => exact ⟨k + 1, _, _, rfl, by omega, by go_num, HB2, hpw⟩
              case measure => simp [intOf]; omega
          · have d1 : decide (0 ≤ z) = false := decide_eq_false g1
            have HB2 : Hid (false = fitK vs ls (k + 1)) := by show _ = _; rw [HFS.out, ← HB.out, HFB.out]; simp [*]
            clear HFS HFB HB
            go_wp2_with (at_builtin; refine wpList_append_row rfl rfl elem_i64 hown rfl hnew rfl h1 hk1 hk2 hbase ?_; intro v' w' ho hgr hnr; obtain ⟨A2, n2, c2, rfl, hpw, hb1, hb2, hb3⟩ := HPUT.out v' w' ho hgr hnr)
            go_roundw
            case rel => exact ⟨k + 1, _, _, rfl, by omega, by go_num, HB2, hpw⟩
            case measure => simp [intOf]; omega
      · have hkk : k = vs.length := by omega
        subst hkk
        clear hlt hk
        have hP := HS.out
        obtain ⟨g3, ca, e3, hca1, hca2⟩ : ∃ g3 ca, pv = .slice (some ⟨g3, 0, none⟩) vs.length ca ∧ vs.length ≤ ca ∧ ca ≤ maxLen := by
          have h := hP.own.2
          rw [atsL_len] at h
          rcases h with ⟨rfl, h0⟩ | ⟨g, cap, cur, rfl, _, _, h3, h4, _⟩
          · omega
          · exact ⟨g, cap, rfl, h3, h4⟩
        unfold maxLen at hca2
        subst e3
        have hb8 := hP.box
        have hpv := ints_of_own hP.own
        have hg4 := HG.out.ext hP.ext
        have hE := H5.out.trans hP.ext
        have HFT : Hid (b = fitsB vs (atsL vs ls vs.length)) := by show _ = _; rw [fits_atsL]; exact HB.out
        have HFM : Hid (fitsB vs (atsL vs ls vs.length ++ [0]) = false) := fits_len (by rw [List.length_append, atsL_len]; simp)
        have HFF : Hid (fitsB vs ((atsL vs ls vs.length).drop 1) = false) := fits_len (by rw [List.length_drop, atsL_len]; omega)
        have hone : Array.all #[x.iV, x.nV, x.oV, .slice (some ⟨g3, 0, none⟩) vs.length ca, .slice none 0 0, .slice none 0 0, .slice none 0 0] (·.oneCell') = true := by
          obtain ⟨_, _, e1, _⟩ := hg4.ins
          obtain ⟨_, _, e2, _⟩ := hg4.nodes
          obtain ⟨_, _, e3, _⟩ := hg4.outs
          rw [e1, e2, e3]
          simp [Value.oneCell']
        have HO := Lib.hid hone
        have hpl : (atsL vs ls vs.length).length = vs.length := atsL_len _ _ _
        have HPK2 : Hid (∀ z ∈ atsL vs ls vs.length, InK .i64 z) := by
          intro z hz
          unfold atsL at hz
          obtain ⟨i, _, rfl⟩ := List.mem_map.1 hz
          unfold atL
          split
          · rename_i h
            refine HLK.out _ ?_
            simp [h]
          · have := sizeZ_range (vs[i]?.getD default).s
            simp only [InK]
            omega
        generalize atsL vs ls vs.length = PS at *
        have HPV := Lib.hid hpv
        have HPL := Lib.hid hpl
        have HG2 := Lib.hid hg4
        have HE := Lib.hid hE
        have hz := Blk.new wr #[.slice none 0 0, .slice none 0 0, .slice none 0 0, .slice none 0 0, .slice none 0 0, .slice none 0 0, .slice none 0 0] 54
        have hb13 : Blk ((wr.alloc (.cells #[.slice none 0 0, .slice none 0 0, .slice none 0 0, .slice none 0 0, .slice none 0 0, .slice none 0 0, .slice none 0 0] 54)).setRow wr.heap.size #[x.iV, x.nV, x.oV, .slice (some ⟨g3, 0, none⟩) vs.length ca, .slice none 0 0, .slice none 0 0, .slice none 0 0]) wr.heap.size #[x.iV, x.nV, x.oV, .slice (some ⟨g3, 0, none⟩) vs.length ca, .slice none 0 0, .slice none 0 0, .slice none 0 0] 54 := setRow_heap _ _ _ _ _ _ hz
        have hQ : Ext wr ((wr.alloc (.cells #[.slice none 0 0, .slice none 0 0, .slice none 0 0, .slice none 0 0, .slice none 0 0, .slice none 0 0, .slice none 0 0] 54)).setRow wr.heap.size #[x.iV, x.nV, x.oV, .slice (some ⟨g3, 0, none⟩) vs.length ca, .slice none 0 0, .slice none 0 0, .slice none 0 0]) := ext_setRow (ext_alloc _ _) _ (Nat.le_refl _)
        have hl8 := hb8.lt
        have d0 : World.cell? wr ⟨b8, 0, none⟩ = some (x.iV) := hb8.cell 0
        have d1 : World.cell? wr ⟨b8, 1, none⟩ = some (x.nV) := hb8.cell 1
        have d2 : World.cell? wr ⟨b8, 2, none⟩ = some (x.oV) := hb8.cell 2
        have d3 : World.cell? wr ⟨b8, 3, none⟩ = some (.slice (some ⟨g3, 0, none⟩) vs.length ca) := hb8.cell 3
        have d4 : World.cell? wr ⟨b8, 4, none⟩ = some (.slice none 0 0) := hb8.cell 4
        have d5 : World.cell? wr ⟨b8, 5, none⟩ = some (.slice none 0 0) := hb8.cell 5
        have d6 : World.cell? wr ⟨b8, 6, none⟩ = some (.slice none 0 0) := hb8.cell 6
        clear hP HB hpv hg4 hE hone HS hpl H5 HG
        go_upto_region 18 with (refine wpList_store_row rfl 54 _ _ rfl wr.heap.size #[x.iV, x.nV, x.oV, .slice (some ⟨g3, 0, none⟩) vs.length ca, .slice none 0 0, .slice none 0 0, .slice none 0 0] rfl rfl 54 _ hz (by kernel_rfl) rfl HO.out ?_)
        have HB8 := Lib.hid hb8
        have hl8w := hb8.lt
        have HQ := Lib.hid hQ
        clear d0 d1 d2 d3 d4 d5 d6 hz hl8
        generalize World.setRow (World.alloc wr _) _ _ = w7 at *
        obtain ⟨b13, hb13e⟩ : ∃ b, b = wr.heap.size := ⟨_, rfl⟩
        rw [← hb13e] at hb13 ⊢
        have HB13 := Lib.hid hb13e
        clear hb13e hQ hb8 hl8w
        have d3 : World.cell? w7 ⟨b8, 3, none⟩ = some (.slice (some ⟨g3, 0, none⟩) vs.length ca) := (HB8.out.ext HQ.out).cell 3
        have hl8 := (HB8.out.ext HQ.out).lt
        go_wp2_with (at_builtin; refine stopped ?_)
        refine wpList_append_fresh rfl rfl elem_i64 rfl (HPV.out.ext HQ.out) rfl (one_ints _ _) (by have := HPL.out; omega) (by have := HPL.out; omega) ?_
        intro vm wm hown hEm
        rw [HPL.out] at hown
        have hone0 : ∀ u ∈ #[Value.int .i64 0].toList, u.oneCell' = true := by intro u hu; simp at hu; subst hu; rfl
        have hnew := row_new wm #[.int .i64 0] 3 1 1 rfl (by decide)
        have hownA := World.ownsRow.alloc hown (.cells #[.int .i64 0] 3)
        have hEA : Ext w7 (wm.alloc (.cells #[.int .i64 0] 3)) := Ext.trans (show Ext w7 wm from hEm) (ext_alloc wm _)
        have hbase := hEA.size
        go_wp2_with (at_builtin; refine stopped ?_)
        refine wpList_append_row rfl rfl elem_i64 hownA rfl hnew rfl hone0 (by omega) (by omega) hbase ?_
        intro vn wn ho9 hg9 hn9
        have hEn : Ext w7 wn := Below.grown hEA hg9 hbase (fun q hq => (hownA.lt q hq).1)
        obtain ⟨Am, cm, em, _⟩ := row_of_own ho9
        subst em
        have HX : Hid (Ext wr wn) := HQ.out.trans hEn
        have hb13n := hb13.ext hEn
        have hf := hb13n.frozen 3
        have hlt13 := hb13n.lt
        have d13 : World.cell? wn ⟨b13, 3, none⟩ = some (.slice (some ⟨g3, 0, none⟩) vs.length ca) := hb13n.cell 3
        have hvm : ∀ q, (Value.slice Am (vs.length + 1) cm).ownBlock = some q → w7.heap.size ≤ q := fun q hq => (ho9.lt q hq).1
        have hsz13 := hb13.lt
        have hpm0 : Ints .i64 wn (.slice Am (vs.length + 1) cm) (PS ++ [0]) := by
          have h := row_of_own ho9
          show Row _ _ _ _ _
          rw [List.length_append, HPL.out, List.map_append]
          exact h
        have HPM : Hid (Ints .i64 (wn.setCell ⟨b13, 3, none⟩ (.slice Am (vs.length + 1) cm)) (.slice Am (vs.length + 1) cm) (PS ++ [0])) := by
          refine Row.grown hpm0 (setCell_grown wn b13 3 _) ?_
          cases eo : (Value.slice Am (vs.length + 1) cm).ownBlock with
          | none => exact Or.inl rfl
          | some q => exact Or.inr fun e2 => by have := hvm q eo; have := Option.some.inj e2; omega
        have hb13s := hb13n.set 3 (.slice Am (vs.length + 1) cm)
        have HS13 : Hid (Blk (wn.setCell ⟨b13, 3, none⟩ (.slice Am (vs.length + 1) cm)) b13 #[x.iV, x.nV, x.oV, .slice Am (vs.length + 1) cm, .slice none 0 0, .slice none 0 0, .slice none 0 0] 54) := by show Blk _ _ _ _; simpa using hb13s
        have HXS : Hid (Ext wr (wn.setCell ⟨b13, 3, none⟩ (.slice Am (vs.length + 1) cm))) := Below.setCell HX.out (by rw [HB13.out]; exact Nat.le_refl _) _
        clear hown hone0 hnew hownA hEA hbase ho9 hg9 hn9 hEn hb13n hvm hsz13 hpm0 hb13s hb13 d3 hEm HX hl8 HQ
        go_upto_region 19 with fail
        clear hf hlt13 d13
        generalize World.setCell wn _ _ = w8 at *
        have hb8 := HB8.out.ext HXS.out
        have hl8 := hb8.lt
        have hz := Blk.new w8 #[.slice none 0 0, .slice none 0 0, .slice none 0 0, .slice none 0 0, .slice none 0 0, .slice none 0 0, .slice none 0 0] 54
        have hb14 : Blk ((w8.alloc (.cells #[.slice none 0 0, .slice none 0 0, .slice none 0 0, .slice none 0 0, .slice none 0 0, .slice none 0 0, .slice none 0 0] 54)).setRow w8.heap.size #[x.iV, x.nV, x.oV, .slice (some ⟨g3, 0, none⟩) vs.length ca, .slice none 0 0, .slice none 0 0, .slice none 0 0]) w8.heap.size #[x.iV, x.nV, x.oV, .slice (some ⟨g3, 0, none⟩) vs.length ca, .slice none 0 0, .slice none 0 0, .slice none 0 0] 54 := setRow_heap _ _ _ _ _ _ hz
        have hQ : Ext w8 ((w8.alloc (.cells #[.slice none 0 0, .slice none 0 0, .slice none 0 0, .slice none 0 0, .slice none 0 0, .slice none 0 0, .slice none 0 0] 54)).setRow w8.heap.size #[x.iV, x.nV, x.oV, .slice (some ⟨g3, 0, none⟩) vs.length ca, .slice none 0 0, .slice none 0 0, .slice none 0 0]) := ext_setRow (ext_alloc _ _) _ (Nat.le_refl _)
        have d0 : World.cell? w8 ⟨b8, 0, none⟩ = some (x.iV) := hb8.cell 0
        have d1 : World.cell? w8 ⟨b8, 1, none⟩ = some (x.nV) := hb8.cell 1
        have d2 : World.cell? w8 ⟨b8, 2, none⟩ = some (x.oV) := hb8.cell 2
        have d3 : World.cell? w8 ⟨b8, 3, none⟩ = some (.slice (some ⟨g3, 0, none⟩) vs.length ca) := hb8.cell 3
        have d4 : World.cell? w8 ⟨b8, 4, none⟩ = some (.slice none 0 0) := hb8.cell 4
        have d5 : World.cell? w8 ⟨b8, 5, none⟩ = some (.slice none 0 0) := hb8.cell 5
        have d6 : World.cell? w8 ⟨b8, 6, none⟩ = some (.slice none 0 0) := hb8.cell 6
        go_upto_region 20 with (refine wpList_store_row rfl 54 _ _ rfl w8.heap.size #[x.iV, x.nV, x.oV, .slice (some ⟨g3, 0, none⟩) vs.length ca, .slice none 0 0, .slice none 0 0, .slice none 0 0] rfl rfl 54 _ hz (by kernel_rfl) rfl HO.out ?_)
        have HS13b := Lib.hid (HS13.out.ext hQ)
        have HPMb := Lib.hid (HPM.out.ext hQ)
        have HXb := Lib.hid (HXS.out.trans hQ)
        have hl13 := HS13.out.lt
        have hbm := Row.lt HPM.out (by simp)
        clear d0 d1 d2 d3 d4 d5 d6 hz hQ hl8 hb8 HS13 HPM
        generalize World.setRow (World.alloc w8 _) _ _ = w9 at *
        have hsz8 := HXS.out.size
        obtain ⟨b14, hb14e⟩ : ∃ b, b = w8.heap.size := ⟨_, rfl⟩
        rw [← hb14e] at hb14 hl13 hsz8 hbm ⊢
        have HBM := Lib.hid hbm
        clear hbm
        have HB14 := Lib.hid (And.intro hsz8 hl13)
        clear hb14e hsz8 hl13 HXS
        have hb8 := HB8.out.ext HXb.out
        have d3 : World.cell? w9 ⟨b8, 3, none⟩ = some (.slice (some ⟨g3, 0, none⟩) vs.length ca) := hb8.cell 3
        have d14 : World.cell? w9 ⟨b14, 3, none⟩ = some (.slice (some ⟨g3, 0, none⟩) vs.length ca) := hb14.cell 3
        have hl14 := hb14.lt
        have hf := hb14.frozen 3
        clear hb8
        obtain ⟨bm, hbm1, hbm2⟩ : ∃ bm, (Value.slice Am (vs.length + 1) cm).ownBlock = some bm ∧ bm < b14 := HBM.out
        have HBM2 := Lib.hid (And.intro hbm1 hbm2)
        clear hbm1 hbm2
        by_cases hc1 : ca = 1
        · subst hc1
          have HPF : Hid (∀ W, Ext wr W → Ints .i64 W (.slice (some ⟨g3, 0, none⟩) 0 0) (PS.drop 1)) := by
            intro W hW
            have h0 : PS.drop 1 = [] := List.eq_nil_of_length_eq_zero (by rw [List.length_drop, HPL.out]; omega)
            rw [h0]
            exact ⟨_, 0, rfl, Nat.le_refl _, Nat.zero_le _, rfl, fun j u hj => by simp at hj⟩
          go_upto_region 21 with fail
          generalize Value.slice (some ⟨g3, 0, none⟩) 0 0 = VF at *
          have K14 : Hid (Blk (w9.setCell ⟨b14, 3, none⟩ VF) b14 #[x.iV, x.nV, x.oV, VF, .slice none 0 0, .slice none 0 0, .slice none 0 0] 54) := by show Blk _ _ _ _; simpa using hb14.set 3 VF
          have HX10 : Hid (Ext wr (w9.setCell ⟨b14, 3, none⟩ VF)) := Below.setCell HXb.out HB14.out.1 _
          have K13 : Hid (Blk (w9.setCell ⟨b14, 3, none⟩ VF) b13 #[x.iV, x.nV, x.oV, .slice Am (vs.length + 1) cm, .slice none 0 0, .slice none 0 0, .slice none 0 0] 54) := HS13b.out.grown (setCell_grown w9 b14 3 VF) (fun e => by have := HB14.out.2; have := Option.some.inj e; omega)
          have HPMc : Hid (Ints .i64 (w9.setCell ⟨b14, 3, none⟩ VF) (.slice Am (vs.length + 1) cm) (PS ++ [0])) := Row.grown HPMb.out (setCell_grown w9 b14 3 VF) (Or.inr fun e2 => by rw [HBM2.out.1] at e2; have := Option.some.inj e2; have := HBM2.out.2; omega)
          have K8 := Lib.hid (HB8.out.ext HX10.out)
          clear d3 d14 hl14 hf hb14 HS13b HPMb HXb
          generalize World.setCell w9 _ _ = w10 at *
          have HMX : Hid (∀ W, Ext w10 W → Calls Try.prog 35 #[.agg #[x.iV, x.nV, x.oV, .slice (some ⟨g3, 0, none⟩) vs.length 1, .slice none 0 0, .slice none 0 0, .slice none 0 0]] W (MayP (if b = true then 0 else 1) W)) := by
            intro W hW
            have hX := HX10.out.trans hW
            have h := imay_calls x (.slice (some ⟨g3, 0, none⟩) vs.length 1) (.slice none 0 0) (.slice none 0 0) (.slice none 0 0) PS [] [] [] W (HG2.out.ext hX) (HPV.out.ext hX) HPK2.out (cmds_nil _) (cmds_nil _) (cmds_nil _)
            rw [HMV.out PS, ← HFT.out] at h
            exact h
          have HMM : Hid (∀ W, Ext w10 W → Calls Try.prog 35 #[.agg #[x.iV, x.nV, x.oV, .slice Am (vs.length + 1) cm, .slice none 0 0, .slice none 0 0, .slice none 0 0]] W (MayP 1 W)) := by
            intro W hW
            have hX := HX10.out.trans hW
            have h := imay_calls x (.slice Am (vs.length + 1) cm) (.slice none 0 0) (.slice none 0 0) (.slice none 0 0) (PS ++ [0]) [] [] [] W (HG2.out.ext hX) (HPMc.out.ext hW) (fun z hz => by
              rcases List.mem_append.1 hz with h | h
              · exact HPK2.out z h
              · obtain rfl := List.mem_singleton.1 h; simp [InK]) (cmds_nil _) (cmds_nil _) (cmds_nil _)
            rw [HMV.out _, HFM.out] at h
            exact h
          have HMF : Hid (∀ W, Ext w10 W → Calls Try.prog 35 #[.agg #[x.iV, x.nV, x.oV, VF, .slice none 0 0, .slice none 0 0, .slice none 0 0]] W (MayP 1 W)) := by
            intro W hW
            have hX := HX10.out.trans hW
            have h := imay_calls x VF (.slice none 0 0) (.slice none 0 0) (.slice none 0 0) (PS.drop 1) [] [] [] W (HG2.out.ext hX) (HPF.out W hX) (fun z hz => HPK2.out z (List.mem_of_mem_drop hz)) (cmds_nil _) (cmds_nil _) (cmds_nil _)
            rw [HMV.out _, HFF.out] at h
            exact h
          unfold MayP at HMX HMM HMF
          clear HFT HFM HFF HMV HPF HPMc HPV HPK2 HG2
          cases b with
          | true =>
            simp only [if_true] at HMX
            have hk := K8.out.ext (Ext.refl w10)
            have y0 : World.cell? w10 ⟨b8, 0, none⟩ = some (x.iV) := hk.cell 0
            have y1 : World.cell? w10 ⟨b8, 1, none⟩ = some (x.nV) := hk.cell 1
            have y2 : World.cell? w10 ⟨b8, 2, none⟩ = some (x.oV) := hk.cell 2
            have y3 : World.cell? w10 ⟨b8, 3, none⟩ = some (.slice (some ⟨g3, 0, none⟩) vs.length 1) := hk.cell 3
            have y4 : World.cell? w10 ⟨b8, 4, none⟩ = some (.slice none 0 0) := hk.cell 4
            have y5 : World.cell? w10 ⟨b8, 5, none⟩ = some (.slice none 0 0) := hk.cell 5
            have y6 : World.cell? w10 ⟨b8, 6, none⟩ = some (.slice none 0 0) := hk.cell 6
            have hm := HMX.out w10 (Ext.refl w10)
            clear hk
            go_wp2_with fail
            refine hm.mono ?_
            rintro e v0 ⟨rfl, hE0⟩
            clear hm y0 y1 y2 y3 y4 y5 y6
            have HE0 : Hid (Ext w10 v0) := Ext.trans (Ext.refl w10) hE0
            clear hE0
            have hk := K13.out.ext HE0.out
            have y0 : World.cell? v0 ⟨b13, 0, none⟩ = some (x.iV) := hk.cell 0
            have y1 : World.cell? v0 ⟨b13, 1, none⟩ = some (x.nV) := hk.cell 1
            have y2 : World.cell? v0 ⟨b13, 2, none⟩ = some (x.oV) := hk.cell 2
            have y3 : World.cell? v0 ⟨b13, 3, none⟩ = some (.slice Am (vs.length + 1) cm) := hk.cell 3
            have y4 : World.cell? v0 ⟨b13, 4, none⟩ = some (.slice none 0 0) := hk.cell 4
            have y5 : World.cell? v0 ⟨b13, 5, none⟩ = some (.slice none 0 0) := hk.cell 5
            have y6 : World.cell? v0 ⟨b13, 6, none⟩ = some (.slice none 0 0) := hk.cell 6
            have hm := HMM.out v0 HE0.out
            clear hk
            go_wp2_with fail
            refine hm.mono ?_
            rintro e v1 ⟨rfl, hE1⟩
            clear hm y0 y1 y2 y3 y4 y5 y6
            have HE1 : Hid (Ext w10 v1) := Ext.trans HE0.out hE1
            clear hE1
            have hk := K14.out.ext HE1.out
            have y0 : World.cell? v1 ⟨b14, 0, none⟩ = some (x.iV) := hk.cell 0
            have y1 : World.cell? v1 ⟨b14, 1, none⟩ = some (x.nV) := hk.cell 1
            have y2 : World.cell? v1 ⟨b14, 2, none⟩ = some (x.oV) := hk.cell 2
            have y3 : World.cell? v1 ⟨b14, 3, none⟩ = some (VF) := hk.cell 3
            have y4 : World.cell? v1 ⟨b14, 4, none⟩ = some (.slice none 0 0) := hk.cell 4
            have y5 : World.cell? v1 ⟨b14, 5, none⟩ = some (.slice none 0 0) := hk.cell 5
            have y6 : World.cell? v1 ⟨b14, 6, none⟩ = some (.slice none 0 0) := hk.cell 6
            have hm := HMF.out v1 HE1.out
            clear hk
            go_wp2_with fail
            refine hm.mono ?_
            rintro e v2 ⟨rfl, hE2⟩
            clear hm y0 y1 y2 y3 y4 y5 y6
            have HE2 : Hid (Ext w10 v2) := Ext.trans HE1.out hE2
            clear hE2
            have hk := K8.out.ext HE2.out
            have y0 : World.cell? v2 ⟨b8, 0, none⟩ = some (x.iV) := hk.cell 0
            have y1 : World.cell? v2 ⟨b8, 1, none⟩ = some (x.nV) := hk.cell 1
            have y2 : World.cell? v2 ⟨b8, 2, none⟩ = some (x.oV) := hk.cell 2
            have y3 : World.cell? v2 ⟨b8, 3, none⟩ = some (.slice (some ⟨g3, 0, none⟩) vs.length 1) := hk.cell 3
            have y4 : World.cell? v2 ⟨b8, 4, none⟩ = some (.slice none 0 0) := hk.cell 4
            have y5 : World.cell? v2 ⟨b8, 5, none⟩ = some (.slice none 0 0) := hk.cell 5
            have y6 : World.cell? v2 ⟨b8, 6, none⟩ = some (.slice none 0 0) := hk.cell 6
            have hm := HMX.out v2 HE2.out
            clear hk
            go_wp2_with fail
            refine hm.mono ?_
            rintro e v3 ⟨rfl, hE3⟩
            clear hm y0 y1 y2 y3 y4 y5 y6
            have HE3 : Hid (Ext w10 v3) := Ext.trans HE2.out hE3
            clear hE3
            go_wp2_with fail
            exact HP.out _ _ rfl ((HE.out.trans HX10.out).trans HE3.out)
          | false =>
            simp only [Bool.false_eq_true, if_false] at HMX
            have hk := K8.out.ext (Ext.refl w10)
            have y0 : World.cell? w10 ⟨b8, 0, none⟩ = some (x.iV) := hk.cell 0
            have y1 : World.cell? w10 ⟨b8, 1, none⟩ = some (x.nV) := hk.cell 1
            have y2 : World.cell? w10 ⟨b8, 2, none⟩ = some (x.oV) := hk.cell 2
            have y3 : World.cell? w10 ⟨b8, 3, none⟩ = some (.slice (some ⟨g3, 0, none⟩) vs.length 1) := hk.cell 3
            have y4 : World.cell? w10 ⟨b8, 4, none⟩ = some (.slice none 0 0) := hk.cell 4
            have y5 : World.cell? w10 ⟨b8, 5, none⟩ = some (.slice none 0 0) := hk.cell 5
            have y6 : World.cell? w10 ⟨b8, 6, none⟩ = some (.slice none 0 0) := hk.cell 6
            have hm := HMX.out w10 (Ext.refl w10)
            clear hk
            go_wp2_with fail
            refine hm.mono ?_
            rintro e v0 ⟨rfl, hE0⟩
            clear hm y0 y1 y2 y3 y4 y5 y6
            have HE0 : Hid (Ext w10 v0) := Ext.trans (Ext.refl w10) hE0
            clear hE0
            have hk := K13.out.ext HE0.out
            have y0 : World.cell? v0 ⟨b13, 0, none⟩ = some (x.iV) := hk.cell 0
            have y1 : World.cell? v0 ⟨b13, 1, none⟩ = some (x.nV) := hk.cell 1
            have y2 : World.cell? v0 ⟨b13, 2, none⟩ = some (x.oV) := hk.cell 2
            have y3 : World.cell? v0 ⟨b13, 3, none⟩ = some (.slice Am (vs.length + 1) cm) := hk.cell 3
            have y4 : World.cell? v0 ⟨b13, 4, none⟩ = some (.slice none 0 0) := hk.cell 4
            have y5 : World.cell? v0 ⟨b13, 5, none⟩ = some (.slice none 0 0) := hk.cell 5
            have y6 : World.cell? v0 ⟨b13, 6, none⟩ = some (.slice none 0 0) := hk.cell 6
            have hm := HMM.out v0 HE0.out
            clear hk
            go_wp2_with fail
            refine hm.mono ?_
            rintro e v1 ⟨rfl, hE1⟩
            clear hm y0 y1 y2 y3 y4 y5 y6
            have HE1 : Hid (Ext w10 v1) := Ext.trans HE0.out hE1
            clear hE1
            have hk := K14.out.ext HE1.out
            have y0 : World.cell? v1 ⟨b14, 0, none⟩ = some (x.iV) := hk.cell 0
            have y1 : World.cell? v1 ⟨b14, 1, none⟩ = some (x.nV) := hk.cell 1
            have y2 : World.cell? v1 ⟨b14, 2, none⟩ = some (x.oV) := hk.cell 2
            have y3 : World.cell? v1 ⟨b14, 3, none⟩ = some (VF) := hk.cell 3
            have y4 : World.cell? v1 ⟨b14, 4, none⟩ = some (.slice none 0 0) := hk.cell 4
            have y5 : World.cell? v1 ⟨b14, 5, none⟩ = some (.slice none 0 0) := hk.cell 5
            have y6 : World.cell? v1 ⟨b14, 6, none⟩ = some (.slice none 0 0) := hk.cell 6
            have hm := HMF.out v1 HE1.out
            clear hk
            go_wp2_with fail
            refine hm.mono ?_
            rintro e v2 ⟨rfl, hE2⟩
            clear hm y0 y1 y2 y3 y4 y5 y6
            have HE2 : Hid (Ext w10 v2) := Ext.trans HE1.out hE2
            clear hE2
            have hk := K8.out.ext HE2.out
            have y0 : World.cell? v2 ⟨b8, 0, none⟩ = some (x.iV) := hk.cell 0
            have y1 : World.cell? v2 ⟨b8, 1, none⟩ = some (x.nV) := hk.cell 1
            have y2 : World.cell? v2 ⟨b8, 2, none⟩ = some (x.oV) := hk.cell 2
            have y3 : World.cell? v2 ⟨b8, 3, none⟩ = some (.slice (some ⟨g3, 0, none⟩) vs.length 1) := hk.cell 3
            have y4 : World.cell? v2 ⟨b8, 4, none⟩ = some (.slice none 0 0) := hk.cell 4
            have y5 : World.cell? v2 ⟨b8, 5, none⟩ = some (.slice none 0 0) := hk.cell 5
            have y6 : World.cell? v2 ⟨b8, 6, none⟩ = some (.slice none 0 0) := hk.cell 6
            have hm := HMX.out v2 HE2.out
            clear hk
            go_wp2_with fail
            refine hm.mono ?_
            rintro e v3 ⟨rfl, hE3⟩
            clear hm y0 y1 y2 y3 y4 y5 y6
            have HE3 : Hid (Ext w10 v3) := Ext.trans HE2.out hE3
            clear hE3
            have hk := K8.out.ext HE3.out
            have y0 : World.cell? v3 ⟨b8, 0, none⟩ = some (x.iV) := hk.cell 0
            have y1 : World.cell? v3 ⟨b8, 1, none⟩ = some (x.nV) := hk.cell 1
            have y2 : World.cell? v3 ⟨b8, 2, none⟩ = some (x.oV) := hk.cell 2
            have y3 : World.cell? v3 ⟨b8, 3, none⟩ = some (.slice (some ⟨g3, 0, none⟩) vs.length 1) := hk.cell 3
            have y4 : World.cell? v3 ⟨b8, 4, none⟩ = some (.slice none 0 0) := hk.cell 4
            have y5 : World.cell? v3 ⟨b8, 5, none⟩ = some (.slice none 0 0) := hk.cell 5
            have y6 : World.cell? v3 ⟨b8, 6, none⟩ = some (.slice none 0 0) := hk.cell 6
            have hm := HMX.out v3 HE3.out
            clear hk
            go_wp2_with fail
            refine hm.mono ?_
            rintro e v4 ⟨rfl, hE4⟩
            clear hm y0 y1 y2 y3 y4 y5 y6
            have HE4 : Hid (Ext w10 v4) := Ext.trans HE3.out hE4
            clear hE4
            go_wp2_with fail
            exact HP.out _ _ rfl ((HE.out.trans HX10.out).trans HE4.out)
        · have HPF : Hid (∀ W, Ext wr W → Ints .i64 W (.slice (some ⟨g3, 1, none⟩) (vs.length - 1) (ca - 1)) (PS.drop 1)) := by
            intro W hW
            have h := ints_drop (HPV.out.ext hW) (m := 1) (by rw [HPL.out]; exact hvn)
            exact h
          go_upto_region 21 with fail
          generalize Value.slice (some ⟨g3, 1, none⟩) (vs.length - 1) (ca - 1) = VF at *
          have K14 : Hid (Blk (w9.setCell ⟨b14, 3, none⟩ VF) b14 #[x.iV, x.nV, x.oV, VF, .slice none 0 0, .slice none 0 0, .slice none 0 0] 54) := by show Blk _ _ _ _; simpa using hb14.set 3 VF
          have HX10 : Hid (Ext wr (w9.setCell ⟨b14, 3, none⟩ VF)) := Below.setCell HXb.out HB14.out.1 _
          have K13 : Hid (Blk (w9.setCell ⟨b14, 3, none⟩ VF) b13 #[x.iV, x.nV, x.oV, .slice Am (vs.length + 1) cm, .slice none 0 0, .slice none 0 0, .slice none 0 0] 54) := HS13b.out.grown (setCell_grown w9 b14 3 VF) (fun e => by have := HB14.out.2; have := Option.some.inj e; omega)
          have HPMc : Hid (Ints .i64 (w9.setCell ⟨b14, 3, none⟩ VF) (.slice Am (vs.length + 1) cm) (PS ++ [0])) := Row.grown HPMb.out (setCell_grown w9 b14 3 VF) (Or.inr fun e2 => by rw [HBM2.out.1] at e2; have := Option.some.inj e2; have := HBM2.out.2; omega)
          have K8 := Lib.hid (HB8.out.ext HX10.out)
          clear d3 d14 hl14 hf hb14 HS13b HPMb HXb
          generalize World.setCell w9 _ _ = w10 at *
          have HMX : Hid (∀ W, Ext w10 W → Calls Try.prog 35 #[.agg #[x.iV, x.nV, x.oV, .slice (some ⟨g3, 0, none⟩) vs.length ca, .slice none 0 0, .slice none 0 0, .slice none 0 0]] W (MayP (if b = true then 0 else 1) W)) := by
            intro W hW
            have hX := HX10.out.trans hW
            have h := imay_calls x (.slice (some ⟨g3, 0, none⟩) vs.length ca) (.slice none 0 0) (.slice none 0 0) (.slice none 0 0) PS [] [] [] W (HG2.out.ext hX) (HPV.out.ext hX) HPK2.out (cmds_nil _) (cmds_nil _) (cmds_nil _)
            rw [HMV.out PS, ← HFT.out] at h
            exact h
          have HMM : Hid (∀ W, Ext w10 W → Calls Try.prog 35 #[.agg #[x.iV, x.nV, x.oV, .slice Am (vs.length + 1) cm, .slice none 0 0, .slice none 0 0, .slice none 0 0]] W (MayP 1 W)) := by
            intro W hW
            have hX := HX10.out.trans hW
            have h := imay_calls x (.slice Am (vs.length + 1) cm) (.slice none 0 0) (.slice none 0 0) (.slice none 0 0) (PS ++ [0]) [] [] [] W (HG2.out.ext hX) (HPMc.out.ext hW) (fun z hz => by
              rcases List.mem_append.1 hz with h | h
              · exact HPK2.out z h
              · obtain rfl := List.mem_singleton.1 h; simp [InK]) (cmds_nil _) (cmds_nil _) (cmds_nil _)
            rw [HMV.out _, HFM.out] at h
            exact h
          have HMF : Hid (∀ W, Ext w10 W → Calls Try.prog 35 #[.agg #[x.iV, x.nV, x.oV, VF, .slice none 0 0, .slice none 0 0, .slice none 0 0]] W (MayP 1 W)) := by
            intro W hW
            have hX := HX10.out.trans hW
            have h := imay_calls x VF (.slice none 0 0) (.slice none 0 0) (.slice none 0 0) (PS.drop 1) [] [] [] W (HG2.out.ext hX) (HPF.out W hX) (fun z hz => HPK2.out z (List.mem_of_mem_drop hz)) (cmds_nil _) (cmds_nil _) (cmds_nil _)
            rw [HMV.out _, HFF.out] at h
            exact h
          unfold MayP at HMX HMM HMF
          clear HFT HFM HFF HMV HPF HPMc HPV HPK2 HG2
          cases b with
          | true =>
            simp only [if_true] at HMX
            have hk := K8.out.ext (Ext.refl w10)
            have y0 : World.cell? w10 ⟨b8, 0, none⟩ = some (x.iV) := hk.cell 0
            have y1 : World.cell? w10 ⟨b8, 1, none⟩ = some (x.nV) := hk.cell 1
            have y2 : World.cell? w10 ⟨b8, 2, none⟩ = some (x.oV) := hk.cell 2
            have y3 : World.cell? w10 ⟨b8, 3, none⟩ = some (.slice (some ⟨g3, 0, none⟩) vs.length ca) := hk.cell 3
            have y4 : World.cell? w10 ⟨b8, 4, none⟩ = some (.slice none 0 0) := hk.cell 4
            have y5 : World.cell? w10 ⟨b8, 5, none⟩ = some (.slice none 0 0) := hk.cell 5
            have y6 : World.cell? w10 ⟨b8, 6, none⟩ = some (.slice none 0 0) := hk.cell 6
            have hm := HMX.out w10 (Ext.refl w10)
            clear hk
            go_wp2_with fail
            refine hm.mono ?_
            rintro e v0 ⟨rfl, hE0⟩
            clear hm y0 y1 y2 y3 y4 y5 y6
            have HE0 : Hid (Ext w10 v0) := Ext.trans (Ext.refl w10) hE0
            clear hE0
            have hk := K13.out.ext HE0.out
            have y0 : World.cell? v0 ⟨b13, 0, none⟩ = some (x.iV) := hk.cell 0
            have y1 : World.cell? v0 ⟨b13, 1, none⟩ = some (x.nV) := hk.cell 1
            have y2 : World.cell? v0 ⟨b13, 2, none⟩ = some (x.oV) := hk.cell 2
            have y3 : World.cell? v0 ⟨b13, 3, none⟩ = some (.slice Am (vs.length + 1) cm) := hk.cell 3
            have y4 : World.cell? v0 ⟨b13, 4, none⟩ = some (.slice none 0 0) := hk.cell 4
            have y5 : World.cell? v0 ⟨b13, 5, none⟩ = some (.slice none 0 0) := hk.cell 5
            have y6 : World.cell? v0 ⟨b13, 6, none⟩ = some (.slice none 0 0) := hk.cell 6
            have hm := HMM.out v0 HE0.out
            clear hk
            go_wp2_with fail
            refine hm.mono ?_
            rintro e v1 ⟨rfl, hE1⟩
            clear hm y0 y1 y2 y3 y4 y5 y6
            have HE1 : Hid (Ext w10 v1) := Ext.trans HE0.out hE1
            clear hE1
            have hk := K14.out.ext HE1.out
            have y0 : World.cell? v1 ⟨b14, 0, none⟩ = some (x.iV) := hk.cell 0
            have y1 : World.cell? v1 ⟨b14, 1, none⟩ = some (x.nV) := hk.cell 1
            have y2 : World.cell? v1 ⟨b14, 2, none⟩ = some (x.oV) := hk.cell 2
            have y3 : World.cell? v1 ⟨b14, 3, none⟩ = some (VF) := hk.cell 3
            have y4 : World.cell? v1 ⟨b14, 4, none⟩ = some (.slice none 0 0) := hk.cell 4
            have y5 : World.cell? v1 ⟨b14, 5, none⟩ = some (.slice none 0 0) := hk.cell 5
            have y6 : World.cell? v1 ⟨b14, 6, none⟩ = some (.slice none 0 0) := hk.cell 6
            have hm := HMF.out v1 HE1.out
            clear hk
            go_wp2_with fail
            refine hm.mono ?_
            rintro e v2 ⟨rfl, hE2⟩
            clear hm y0 y1 y2 y3 y4 y5 y6
            have HE2 : Hid (Ext w10 v2) := Ext.trans HE1.out hE2
            clear hE2
            have hk := K8.out.ext HE2.out
            have y0 : World.cell? v2 ⟨b8, 0, none⟩ = some (x.iV) := hk.cell 0
            have y1 : World.cell? v2 ⟨b8, 1, none⟩ = some (x.nV) := hk.cell 1
            have y2 : World.cell? v2 ⟨b8, 2, none⟩ = some (x.oV) := hk.cell 2
            have y3 : World.cell? v2 ⟨b8, 3, none⟩ = some (.slice (some ⟨g3, 0, none⟩) vs.length ca) := hk.cell 3
            have y4 : World.cell? v2 ⟨b8, 4, none⟩ = some (.slice none 0 0) := hk.cell 4
            have y5 : World.cell? v2 ⟨b8, 5, none⟩ = some (.slice none 0 0) := hk.cell 5
            have y6 : World.cell? v2 ⟨b8, 6, none⟩ = some (.slice none 0 0) := hk.cell 6
            have hm := HMX.out v2 HE2.out
            clear hk
            go_wp2_with fail
            refine hm.mono ?_
            rintro e v3 ⟨rfl, hE3⟩
            clear hm y0 y1 y2 y3 y4 y5 y6
            have HE3 : Hid (Ext w10 v3) := Ext.trans HE2.out hE3
            clear hE3
            go_wp2_with fail
            exact HP.out _ _ rfl ((HE.out.trans HX10.out).trans HE3.out)
          | false =>
            simp only [Bool.false_eq_true, if_false] at HMX
            have hk := K8.out.ext (Ext.refl w10)
            have y0 : World.cell? w10 ⟨b8, 0, none⟩ = some (x.iV) := hk.cell 0
            have y1 : World.cell? w10 ⟨b8, 1, none⟩ = some (x.nV) := hk.cell 1
            have y2 : World.cell? w10 ⟨b8, 2, none⟩ = some (x.oV) := hk.cell 2
            have y3 : World.cell? w10 ⟨b8, 3, none⟩ = some (.slice (some ⟨g3, 0, none⟩) vs.length ca) := hk.cell 3
            have y4 : World.cell? w10 ⟨b8, 4, none⟩ = some (.slice none 0 0) := hk.cell 4
            have y5 : World.cell? w10 ⟨b8, 5, none⟩ = some (.slice none 0 0) := hk.cell 5
            have y6 : World.cell? w10 ⟨b8, 6, none⟩ = some (.slice none 0 0) := hk.cell 6
            have hm := HMX.out w10 (Ext.refl w10)
            clear hk
            go_wp2_with fail
            refine hm.mono ?_
            rintro e v0 ⟨rfl, hE0⟩
            clear hm y0 y1 y2 y3 y4 y5 y6
            have HE0 : Hid (Ext w10 v0) := Ext.trans (Ext.refl w10) hE0
            clear hE0
            have hk := K13.out.ext HE0.out
            have y0 : World.cell? v0 ⟨b13, 0, none⟩ = some (x.iV) := hk.cell 0
            have y1 : World.cell? v0 ⟨b13, 1, none⟩ = some (x.nV) := hk.cell 1
            have y2 : World.cell? v0 ⟨b13, 2, none⟩ = some (x.oV) := hk.cell 2
            have y3 : World.cell? v0 ⟨b13, 3, none⟩ = some (.slice Am (vs.length + 1) cm) := hk.cell 3
            have y4 : World.cell? v0 ⟨b13, 4, none⟩ = some (.slice none 0 0) := hk.cell 4
            have y5 : World.cell? v0 ⟨b13, 5, none⟩ = some (.slice none 0 0) := hk.cell 5
            have y6 : World.cell? v0 ⟨b13, 6, none⟩ = some (.slice none 0 0) := hk.cell 6
            have hm := HMM.out v0 HE0.out
            clear hk
            go_wp2_with fail
            refine hm.mono ?_
            rintro e v1 ⟨rfl, hE1⟩
            clear hm y0 y1 y2 y3 y4 y5 y6
            have HE1 : Hid (Ext w10 v1) := Ext.trans HE0.out hE1
            clear hE1
            have hk := K14.out.ext HE1.out
            have y0 : World.cell? v1 ⟨b14, 0, none⟩ = some (x.iV) := hk.cell 0
            have y1 : World.cell? v1 ⟨b14, 1, none⟩ = some (x.nV) := hk.cell 1
            have y2 : World.cell? v1 ⟨b14, 2, none⟩ = some (x.oV) := hk.cell 2
            have y3 : World.cell? v1 ⟨b14, 3, none⟩ = some (VF) := hk.cell 3
            have y4 : World.cell? v1 ⟨b14, 4, none⟩ = some (.slice none 0 0) := hk.cell 4
            have y5 : World.cell? v1 ⟨b14, 5, none⟩ = some (.slice none 0 0) := hk.cell 5
            have y6 : World.cell? v1 ⟨b14, 6, none⟩ = some (.slice none 0 0) := hk.cell 6
            have hm := HMF.out v1 HE1.out
            clear hk
            go_wp2_with fail
            refine hm.mono ?_
            rintro e v2 ⟨rfl, hE2⟩
            clear hm y0 y1 y2 y3 y4 y5 y6
            have HE2 : Hid (Ext w10 v2) := Ext.trans HE1.out hE2
            clear hE2
            have hk := K8.out.ext HE2.out
            have y0 : World.cell? v2 ⟨b8, 0, none⟩ = some (x.iV) := hk.cell 0
            have y1 : World.cell? v2 ⟨b8, 1, none⟩ = some (x.nV) := hk.cell 1
            have y2 : World.cell? v2 ⟨b8, 2, none⟩ = some (x.oV) := hk.cell 2
            have y3 : World.cell? v2 ⟨b8, 3, none⟩ = some (.slice (some ⟨g3, 0, none⟩) vs.length ca) := hk.cell 3
            have y4 : World.cell? v2 ⟨b8, 4, none⟩ = some (.slice none 0 0) := hk.cell 4
            have y5 : World.cell? v2 ⟨b8, 5, none⟩ = some (.slice none 0 0) := hk.cell 5
            have y6 : World.cell? v2 ⟨b8, 6, none⟩ = some (.slice none 0 0) := hk.cell 6
            have hm := HMX.out v2 HE2.out
            clear hk
            go_wp2_with fail
            refine hm.mono ?_
            rintro e v3 ⟨rfl, hE3⟩
            clear hm y0 y1 y2 y3 y4 y5 y6
            have HE3 : Hid (Ext w10 v3) := Ext.trans HE2.out hE3
            clear hE3
            have hk := K8.out.ext HE3.out
            have y0 : World.cell? v3 ⟨b8, 0, none⟩ = some (x.iV) := hk.cell 0
            have y1 : World.cell? v3 ⟨b8, 1, none⟩ = some (x.nV) := hk.cell 1
            have y2 : World.cell? v3 ⟨b8, 2, none⟩ = some (x.oV) := hk.cell 2
            have y3 : World.cell? v3 ⟨b8, 3, none⟩ = some (.slice (some ⟨g3, 0, none⟩) vs.length ca) := hk.cell 3
            have y4 : World.cell? v3 ⟨b8, 4, none⟩ = some (.slice none 0 0) := hk.cell 4
            have y5 : World.cell? v3 ⟨b8, 5, none⟩ = some (.slice none 0 0) := hk.cell 5
            have y6 : World.cell? v3 ⟨b8, 6, none⟩ = some (.slice none 0 0) := hk.cell 6
            have hm := HMX.out v3 HE3.out
            clear hk
            go_wp2_with fail
            refine hm.mono ?_
            rintro e v4 ⟨rfl, hE4⟩
            clear hm y0 y1 y2 y3 y4 y5 y6
            have HE4 : Hid (Ext w10 v4) := Ext.trans HE3.out hE4
            clear hE4
            go_wp2_with fail
            exact HP.out _ _ rfl ((HE.out.trans HX10.out).trans HE4.out)
  · have hvb : ((valuesR x).2 != 0) = true := by simpa using hv0
    have hmay := fun W (h : Ext w W) (hgx : GrAt W x) => imay_calls x pX t0 t1 t2 pl' (L0.take 300) (L1.take 300) (L2.take 300) W hgx (HPX.out.1.ext h) (fun z hz => HPK.out z (HPX.out.2 z hz)) (HT.out.1.below h (Nat.le_refl _)) (HT.out.2.1.below h (Nat.le_refl _)) (HT.out.2.2.below h (Nat.le_refl _))
    unfold MayP at hmay
    have hmz : mayI x pl' (L0.take 300) (L1.take 300) (L2.take 300) = (valuesR x).2 := by unfold mayI; rw [if_pos hv0]
    rw [hmz] at hmay
    have HM := Lib.hid hmay
    have HV0 := Lib.hid hv0
    clear hmay hmz
    go_wp2_with fail
    refine hval.mono ?_
    rintro e w5 ⟨_, hA, hE5⟩
    obtain rfl := hA HV0.out
    clear q0 q1 q2 hval hA hv0
    replace hb4 := hb4.ext hE5
    have q0 : World.cell? w5 ⟨w.heap.size, 0, none⟩ = some x.iV := hb4.cell 0
    have q1 : World.cell? w5 ⟨w.heap.size, 1, none⟩ = some x.nV := hb4.cell 1
    have q2 : World.cell? w5 ⟨w.heap.size, 2, none⟩ = some x.oV := hb4.cell 2
    have q3 : World.cell? w5 ⟨w.heap.size, 3, none⟩ = some pX := hb4.cell 3
    have q4 : World.cell? w5 ⟨w.heap.size, 4, none⟩ = some t0 := hb4.cell 4
    have q5 : World.cell? w5 ⟨w.heap.size, 5, none⟩ = some t1 := hb4.cell 5
    have q6 : World.cell? w5 ⟨w.heap.size, 6, none⟩ = some t2 := hb4.cell 6
    have hm := HM.out w5 (hE4.trans hE5) (hg4.ext hE5)
    have HH := Lib.hid (hE4.trans hE5)
    generalize (valuesR x).2 = z at *
    clear HM hE5 hE4 hg4
    go_wp2_with fail
    refine hm.mono ?_
    rintro e w6 ⟨rfl, hE6⟩
    have HH2 := Lib.hid (HH.out.trans hE6)
    clear q0 q1 q2 q3 q4 q5 q6 hm hE6 HH
    have hzz : (z == z) = true := by simp
    go_wp2_with fail
    exact HP.out _ _ rfl HH2.out

end Go.Proofs.Ytdhdbmfipkppiaa

namespace Go.Proofs.Ytdhdbmfipkppiaa
set_option linter.unusedSimpArgs false
set_option linter.unusedVariables false
set_option linter.unnecessarySimpa false
open Go.RowKit

/-- 'make([]T, n)', one operation. -/
theorem wp_make_row {P : Program} {w : World} {o : Oper} {a : Act} {K : Act → World → Prop} {Q : Exit → Act → World → Prop} {l c : Operand} {t e : TypeId} {bytes : Nat}
    (ho : o.op = .makeSlice t l c) (HT : ElemT P t e 1 bytes) {z : Value} (hz : (P.info? e).map (·.zero) = some (some z)) (hz1 : z.cells = #[z]) {kl kc : IntKind} {L C : Int} (n : Nat) (hl : a.eval l = .int kl L) (hc : a.eval c = .int kc C) (hL : L = n) (hC : C = n)
    (b2 : bytes * n ≤ 281474976710656) (b3 : n ≤ maxLen)
    (h : ∀ w', w'.ownsRow w.heap.size e 1 (.slice (some ⟨w.heap.size, 0, Option.none⟩) n n) n (List.replicate n z) → Ext w w' → K (a.put o.dst (.slice (some ⟨w.heap.size, 0, Option.none⟩) n n)) w') : o.wp P a w K Q := by
  obtain ⟨i, z', hi, hz', hs, hby, _⟩ := HT.info
  rw [hi] at hz
  simp only [Option.map_some, Option.some.injEq] at hz
  rw [hz'] at hz
  cases hz
  obtain ⟨w', hrun, r1, r2⟩ := run_make_full (P := P) w w.heap.size t e i z 1 HT.slice hi hz' hs kl kc n (by rw [hby]; exact b2) b3 (Nat.le_refl _)
  subst hL
  subst hC
  unfold Oper.wp
  simp [execOp, ho, hl, hc, hrun, Result.andThen]
  refine h w' ?_ ((Below.refl _ w).grown r2 (Nat.le_refl _) (fun k hk => by cases hk))
  rw [Nat.mul_one, hz1, toList_madeCells_one] at r1
  exact r1

/-- A halt. -/
def haltC : Isa.Cm := ⟨7, 0, 0, 0, 0, 0, 0, 0, 0, 0, 0, 0, 0, 0⟩
theorem halts_err (n : Nat) (h : 4096 < n) : Isa.putErr (List.replicate n haltC) = 3 := by
  unfold Isa.putErr
  rw [List.length_replicate, if_pos h]

theorem elem_cmdI : ElemT Try.prog 51 57 14 112 := elemT_of (z := .agg #[.int .i64 0, .int .i64 0, .int .i64 0, .int .i64 0, .int .i64 0, .int .i64 0, .int .i64 0, .int .i64 0, .int .i64 0, .int .i64 0, .int .i64 0, .int .i64 0, .int .i64 0, .int .i64 0]) Try.underlying51 (by kernel_rfl) rfl (by omega)

theorem fits_zeros {vs : List Vl} : fitsB vs (List.replicate vs.length 0) = true := by
  unfold fitsB
  rw [List.length_replicate, decide_eq_true rfl, Bool.true_and, List.all_eq_true]
  intro j hj
  have hj : j < vs.length := by simpa using hj
  have := sizeZ_range (vs[j]?.getD default).s
  rw [List.getElem?_replicate, if_pos hj]
  simp only [fitB, Option.getD_some, Bool.and_eq_true, decide_eq_true_eq]
  omega

set_option maxRecDepth 20000 in
set_option maxHeartbeats 12800000 in
theorem imageStreams_calls (g : Gr) (pV s0 s1 s2 lV : Value) (pl : List Int) (L0 L1 L2 ls : List Isa.Cm) (bz : Int) (w : World) (hg : GrIn w g) (hp : Ints .i64 w pV pl) (hpk : ∀ z ∈ pl, InK .i64 z)
    (hs0 : Isa.Cmds w s0 L0) (hs1 : Isa.Cmds w s1 L1) (hs2 : Isa.Cmds w s2 L2) (hl : Isa.Cmds w lV ls) (hbz : 0 ≤ bz ∧ bz ≤ 255) :
    Calls Try.prog 11 #[.agg #[g.iV, g.nV, g.oV, pV, s0, s1, s2], lV, .int .u8 bz] w (TrueP w) := by
  have HP : Hid (∀ e w', e = .returned (.bool true) → Ext w w' → TrueP w e w') := fun e w' h1 h2 => ⟨h1, h2⟩
  generalize TrueP w = PP at *
  have hE1 := ext_alloc w (.cells #[g.iV, g.nV, g.oV, pV, s0, s1, s2] 54)
  have hb1 := Blk.new w #[g.iV, g.nV, g.oV, pV, s0, s1, s2] 54
  have hls := fun W (h : Ext w W) => less09_calls g pV s0 s1 s2 pl L0 L1 L2 w W hg hp hs0 hs1 hs2 h
  unfold LessJPost at hls
  have hsh := fun W => shown09_calls W
  obtain ⟨Al, cl, el, hl1, hl2, _⟩ := id hl.form
  unfold maxLen at hl2
  subst el
  have HLS := Lib.hid hl
  clear hl
  go_enter Try.func11, Try.ntmps11
  go_upto_region 1 with fail
  generalize World.alloc w _ = w1 at *
  go_upto_region 2 with (go_at_call 33; refine (hsh _).mono ?_; rintro e w2 ⟨rfl, h2⟩)
  have h2 : Ext w1 w2 := h2
  replace hb1 := hb1.ext h2
  replace hE1 := hE1.trans h2
  clear hsh
  have q0 : World.cell? w2 ⟨w.heap.size, 0, none⟩ = some g.iV := hb1.cell 0
  have q1 : World.cell? w2 ⟨w.heap.size, 1, none⟩ = some g.nV := hb1.cell 1
  have q2 : World.cell? w2 ⟨w.heap.size, 2, none⟩ = some g.oV := hb1.cell 2
  have q3 : World.cell? w2 ⟨w.heap.size, 3, none⟩ = some pV := hb1.cell 3
  have q4 : World.cell? w2 ⟨w.heap.size, 4, none⟩ = some s0 := hb1.cell 4
  have q5 : World.cell? w2 ⟨w.heap.size, 5, none⟩ = some s1 := hb1.cell 5
  have q6 : World.cell? w2 ⟨w.heap.size, 6, none⟩ = some s2 := hb1.cell 6
  go_wp2_with fail
  refine (hls _ hE1).mono ?_
  rintro e w3 ⟨x, pX, t0, t1, t2, pl', rfl, hL, hpx, hpm, hpl, hT0, hT1, hT2, h3⟩
  clear q0 q1 q2 q3 q4 q5 q6 hls
  replace hb1 := hb1.ext h3
  have hE3 := hE1.trans h3
  have hone : Array.all #[x.iV, x.nV, x.oV, pX, t0, t1, t2] (·.oneCell') = true := by
    obtain ⟨_, _, e1, _⟩ := hL.ins.form
    obtain ⟨_, _, e2, _⟩ := row_of_own hL.own
    obtain ⟨_, _, e3, _⟩ := hL.outs.form
    obtain ⟨_, _, e4, _⟩ := hpx.form
    obtain ⟨_, _, e5, _⟩ := id (show Row _ _ _ _ _ from hT0)
    obtain ⟨_, _, e6, _⟩ := id (show Row _ _ _ _ _ from hT1)
    obtain ⟨_, _, e7, _⟩ := id (show Row _ _ _ _ _ from hT2)
    rw [e1, e2, e3, e4, e5, e6, e7]
    simp [Value.oneCell']
  have HO := Lib.hid hone
  have hsz2 := hE1.size
  have hL4 := hL.setRow (b := w.heap.size) (Nat.le_refl _) (by omega) #[x.iV, x.nV, x.oV, pX, t0, t1, t2]
  have hb4 : Blk (w3.setRow w.heap.size #[x.iV, x.nV, x.oV, pX, t0, t1, t2]) w.heap.size #[x.iV, x.nV, x.oV, pX, t0, t1, t2] 54 := setRow_heap _ _ _ _ _ _ hb1
  have hE4 : Ext w (w3.setRow w.heap.size #[x.iV, x.nV, x.oV, pX, t0, t1, t2]) := ext_setRow hE3 _ (Nat.le_refl _)
  clear hone hL hE1 hE3 hsz2
  go_upto_region 3 with (refine wpList_store_row rfl 54 _ _ rfl w.heap.size #[x.iV, x.nV, x.oV, pX, t0, t1, t2] rfl rfl 54 _ hb1 (by kernel_rfl) rfl HO.out ?_)
  clear hb1 h2 h3 HO
  generalize World.setRow w3 _ _ = w4 at *
  have hg4 := hL4.at
  have hval := rvalues_calls x w4 hg4
  unfold ValsPost at hval
  have HPX := Lib.hid (And.intro hpx hpm)
  have HT := Lib.hid (And.intro hT0 (And.intro hT1 hT2))
  clear hL4 hpx hpm hT0 hT1 hT2 hpl
  have q0 : World.cell? w4 ⟨w.heap.size, 0, none⟩ = some x.iV := hb4.cell 0
  have q1 : World.cell? w4 ⟨w.heap.size, 1, none⟩ = some x.nV := hb4.cell 1
  have q2 : World.cell? w4 ⟨w.heap.size, 2, none⟩ = some x.oV := hb4.cell 2
  by_cases hv0 : (valuesR x).2 = 0
  · have hok := vals_ok (g := x) hv0
    have hvr : valuesR x = ((valuesR x).1, 0) := by rw [← hv0]
    have hn1 : 1 ≤ x.ins.length := by
      unfold valuesR at hv0
      by_cases h1 : goesInR x ≠ 0
      · rw [if_pos h1] at hv0; exact absurd hv0 h1
      · replace h1 : goesInR x = 0 := Decidable.not_not.1 h1
        unfold goesInR at h1
        split at h1
        · cases h1
        · split at h1
          · cases h1
          · omega
    go_wp2_with fail
    refine hval.mono ?_
    rintro e w5 ⟨hA, _, hE5⟩
    obtain ⟨vV, rfl, hown⟩ := hA hv0
    clear q0 q1 q2 hval hA hv0
    generalize (valuesR x).1 = vs at *
    have hvls : Vls w5 vV vs := row_of_own hown
    have h5 := hE4.trans hE5
    replace hg4 := hg4.ext hE5
    replace hb4 := hb4.ext hE5
    clear hown hE5 hE4
    obtain ⟨Av, cv, ev, hv1, hv2, _⟩ := id hvls.form
    unfold maxLen at hv2
    have hvl : vs.length ≤ 16 := by have := hok.len; have := hok.il; have := hok.nl; omega
    have HMV : Hid (∀ L0 L1 L2, mayI x (List.replicate vs.length 0) L0 L1 L2 = if Isa.putErr L0 ≠ 0 then Isa.putErr L0 else if Isa.putErr L1 ≠ 0 then Isa.putErr L1 else Isa.putErr L2) := by
      intro L0 L1 L2
      unfold mayI
      rw [hvr]
      simp only [ne_eq, not_true_eq_false, if_false]
      rw [if_neg (by rw [fits_zeros]; simp)]
    clear hvls hvr hok hn1
    subst ev
    have hone : ∀ A n c, Array.all #[x.iV, x.nV, x.oV, .slice A n c, .slice none 0 0, .slice none 0 0, .slice none 0 0] (·.oneCell') = true := by
      intro A n c
      obtain ⟨_, _, e1, _⟩ := hg4.ins
      obtain ⟨_, _, e2, _⟩ := hg4.nodes
      obtain ⟨_, _, e3, _⟩ := hg4.outs
      rw [e1, e2, e3]
      simp [Value.oneCell']
    have HO := Lib.hid hone
    have HG := Lib.hid hg4
    have H5 := Lib.hid h5
    have HB4 := Lib.hid hb4
    have c0 : ∀ W, Ext w5 W → World.cell? W ⟨w.heap.size, 0, none⟩ = some x.iV := fun W h => (hb4.ext h).cell 0
    have c1 : ∀ W, Ext w5 W → World.cell? W ⟨w.heap.size, 1, none⟩ = some x.nV := fun W h => (hb4.ext h).cell 1
    have c2 : ∀ W, Ext w5 W → World.cell? W ⟨w.heap.size, 2, none⟩ = some x.oV := fun W h => (hb4.ext h).cell 2
    clear hone hb4 hg4 h5
    go_upto_region 6 with fail
    refine cut_code (fun a W => ∃ (b10 : Nat) (A : Option Addr) (c : Nat), LitA a (fun f => ({ tmps := #[f 0, .slice Al ls.length cl, .int .u8 bz, .pointer (some ⟨w.heap.size, 0, none⟩), f 4, f 5, .bool false, .bool true, f 8, f 9, .pointer (some ⟨b10, 0, none⟩), f 11, f 12, f 13, f 14, f 15, f 16, f 17, f 18, f 19, f 20, f 21, f 22, f 23, f 24, f 25, f 26, f 27, f 28, f 29, f 30, f 31, f 32, f 33, f 34, f 35, f 36, f 37, f 38, f 39, f 40, f 41, f 42, f 43, f 44, f 45, f 46, f 47, f 48, f 49, f 50, f 51, f 52, f 53, f 54, f 55, f 56, f 57, f 58, f 59, f 60, f 61, f 62, f 63, f 64, f 65, f 66, f 67, f 68, f 69, f 70, f 71, f 72, f 73, f 74, f 75, f 76, f 77, f 78, f 79], defers := [] } : Act)) ∧ Blk W b10 #[x.iV, x.nV, x.oV, .slice A vs.length c, .slice none 0 0, .slice none 0 0, .slice none 0 0] 54 ∧ Ints .i64 W (.slice A vs.length c) (List.replicate vs.length 0) ∧ w5.heap.size ≤ b10 ∧ (Value.slice A vs.length c).ownBlock ≠ some b10 ∧ Ext w5 W) (fun K hK => ?_) ?_
    · have HK := Lib.hid hK
      clear hK
      refine wp_region_V (fun W => Ext w5 W) (.pure 0 <| .pure 1 <| .pure 2 <| .pure 3 <| .two 4 (.pure 5 <| .eff 6 <| .eff 7 .nil) 6 (.eff 4 <| .pure 5 <| .eff 7 .nil)) (by kernel_rfl) (by kernel_rfl) (fun _ _ d _ _ h => by cases d <;> exact h) (Ext.drew w5) ?_
      simp only [pickT, List.getElem?_cons_zero, List.getElem?_cons_succ]
      repeat (first | (refine wpV_skip (by rfl) ?_; simp only [Act.put, List.setIfInBounds_toArray, List.set_cons_zero, List.set_cons_succ]) | (refine wpV_pure (by rfl) (fun W hW => by go_simp; with_reducible rfl) ?_; simp only [Act.put, List.setIfInBounds_toArray, List.set_cons_zero, List.set_cons_succ]))
      have hE0 := Ext.drew w5
      generalize w5.drew = wd at *
      refine wpV_two ?_ ?_
      · refine wpV_step (by rfl) (fun K hK => ?_)
        refine wp_make_row rfl elem_i64 (z := .int .i64 0) (by kernel_rfl) rfl vs.length rfl rfl rfl rfl (by omega) (by unfold maxLen; omega) ?_
        intro w6 hown hEm
        have hE6 : Ext w5 w6 := hE0.trans hEm
        refine hK _ _ hE6 ?_
        clear hK K
        try simp only [Act.put, List.setIfInBounds_toArray, List.set_cons_zero, List.set_cons_succ]
        repeat (first | (refine wpV_skip (by rfl) ?_; simp only [Act.put, List.setIfInBounds_toArray, List.set_cons_zero, List.set_cons_succ]) | (refine wpV_pure (by rfl) (fun W hW => by go_simp; with_reducible rfl) ?_; simp only [Act.put, List.setIfInBounds_toArray, List.set_cons_zero, List.set_cons_succ]))
        have hbN := Blk.new w6 #[.slice none 0 0, .slice none 0 0, .slice none 0 0, .slice none 0 0, .slice none 0 0, .slice none 0 0, .slice none 0 0] 54
        have hEN := ext_alloc w6 (.cells #[.slice none 0 0, .slice none 0 0, .slice none 0 0, .slice none 0 0, .slice none 0 0, .slice none 0 0, .slice none 0 0] 54)
        have hint := (ints_of_own (zs := List.replicate vs.length 0) (by simpa using hown)).ext hEN
        have hlt : wd.heap.size < w6.heap.size := (hown.lt _ rfl).2
        refine wpV_step (by rfl) (fun K hK => ?_)
        go_simp
        refine hK _ _ (hE6.trans hEN) ?_
        clear hK K
        try simp only [Act.put, List.setIfInBounds_toArray, List.set_cons_zero, List.set_cons_succ]
        refine wpV_step (by rfl) (fun K hK => ?_)
        refine wp_store_row 54 _ _ rfl w6.heap.size #[x.iV, x.nV, x.oV, .slice (some ⟨wd.heap.size, 0, none⟩) vs.length vs.length, .slice none 0 0, .slice none 0 0, .slice none 0 0] rfl rfl 54 _ hbN (by kernel_rfl) rfl (HO.out _ _ _) ?_
        have hbS : Blk (World.setRow (w6.alloc (.cells #[.slice none 0 0, .slice none 0 0, .slice none 0 0, .slice none 0 0, .slice none 0 0, .slice none 0 0, .slice none 0 0] 54)) w6.heap.size #[x.iV, x.nV, x.oV, .slice (some ⟨wd.heap.size, 0, none⟩) vs.length vs.length, .slice none 0 0, .slice none 0 0, .slice none 0 0]) w6.heap.size #[x.iV, x.nV, x.oV, .slice (some ⟨wd.heap.size, 0, none⟩) vs.length vs.length, .slice none 0 0, .slice none 0 0, .slice none 0 0] 54 := setRow_heap _ _ _ _ _ _ hbN
        have hES : Ext w5 (World.setRow (w6.alloc (.cells #[.slice none 0 0, .slice none 0 0, .slice none 0 0, .slice none 0 0, .slice none 0 0, .slice none 0 0, .slice none 0 0] 54)) w6.heap.size #[x.iV, x.nV, x.oV, .slice (some ⟨wd.heap.size, 0, none⟩) vs.length vs.length, .slice none 0 0, .slice none 0 0, .slice none 0 0]) := ext_setRow (hE6.trans hEN) _ hE6.size
        have hiS := Row.grown hint (setRow_grown _ w6.heap.size #[x.iV, x.nV, x.oV, .slice (some ⟨wd.heap.size, 0, none⟩) vs.length vs.length, .slice none 0 0, .slice none 0 0, .slice none 0 0]) (Or.inr fun e => by have h9 : wd.heap.size = w6.heap.size := Option.some.inj e; omega)
        refine hK _ _ hES ?_
        clear hK K
        try simp only [Act.put, List.setIfInBounds_toArray, List.set_cons_zero, List.set_cons_succ]
        refine wpV_nil ?_
        exact HK.out _ _ ⟨w6.heap.size, _, _, .of rfl, hbS, hiS, hE6.size, (fun e => by have h9 : wd.heap.size = w6.heap.size := Option.some.inj e; omega), hES⟩
      · refine wpV_step (by rfl) (fun K hK => ?_)
        have hbN := Blk.new wd #[.slice none 0 0, .slice none 0 0, .slice none 0 0, .slice none 0 0, .slice none 0 0, .slice none 0 0, .slice none 0 0] 54
        have hEN : Ext w5 (wd.alloc (.cells #[.slice none 0 0, .slice none 0 0, .slice none 0 0, .slice none 0 0, .slice none 0 0, .slice none 0 0, .slice none 0 0] 54)) := hE0.trans (ext_alloc wd (.cells #[.slice none 0 0, .slice none 0 0, .slice none 0 0, .slice none 0 0, .slice none 0 0, .slice none 0 0, .slice none 0 0] 54))
        go_simp
        refine hK _ _ hEN ?_
        clear hK K
        try simp only [Act.put, List.setIfInBounds_toArray, List.set_cons_zero, List.set_cons_succ]
        obtain ⟨bq, hbq⟩ : ∃ b, wd.heap.size = b := ⟨_, rfl⟩
        have BQ : Hid (w5.heap.size ≤ bq) := by show _ ≤ _; rw [← hbq]; exact hE0.size
        rw [hbq] at hbN ⊢
        clear hbq
        generalize World.alloc wd _ = w6 at *
        refine wpV_step (by rfl) (fun K hK => ?_)
        refine wp_make_row rfl elem_i64 (z := .int .i64 0) (by kernel_rfl) rfl vs.length rfl rfl rfl rfl (by omega) (by unfold maxLen; omega) ?_
        intro w7 hown hEm
        have hE7 : Ext w5 w7 := hEN.trans hEm
        refine hK _ _ hE7 ?_
        clear hK K
        try simp only [Act.put, List.setIfInBounds_toArray, List.set_cons_zero, List.set_cons_succ]
        repeat (first | (refine wpV_skip (by rfl) ?_; simp only [Act.put, List.setIfInBounds_toArray, List.set_cons_zero, List.set_cons_succ]) | (refine wpV_pure (by rfl) (fun W hW => by go_simp; with_reducible rfl) ?_; simp only [Act.put, List.setIfInBounds_toArray, List.set_cons_zero, List.set_cons_succ]))
        have hbM := hbN.ext hEm
        have hint := ints_of_own (zs := List.replicate vs.length 0) (by simpa using hown)
        have hlt := hbN.lt
        have hbq := BQ.out
        refine wpV_step (by rfl) (fun K hK => ?_)
        refine wp_store_row 54 _ _ rfl bq #[x.iV, x.nV, x.oV, .slice (some ⟨w6.heap.size, 0, none⟩) vs.length vs.length, .slice none 0 0, .slice none 0 0, .slice none 0 0] rfl rfl 54 _ hbM (by kernel_rfl) rfl (HO.out _ _ _) ?_
        have hbS : Blk (World.setRow w7 bq #[x.iV, x.nV, x.oV, .slice (some ⟨w6.heap.size, 0, none⟩) vs.length vs.length, .slice none 0 0, .slice none 0 0, .slice none 0 0]) bq #[x.iV, x.nV, x.oV, .slice (some ⟨w6.heap.size, 0, none⟩) vs.length vs.length, .slice none 0 0, .slice none 0 0, .slice none 0 0] 54 := setRow_heap _ _ _ _ _ _ hbM
        have hES : Ext w5 (World.setRow w7 bq #[x.iV, x.nV, x.oV, .slice (some ⟨w6.heap.size, 0, none⟩) vs.length vs.length, .slice none 0 0, .slice none 0 0, .slice none 0 0]) := ext_setRow hE7 _ hbq
        have hiS := Row.grown hint (setRow_grown _ bq #[x.iV, x.nV, x.oV, .slice (some ⟨w6.heap.size, 0, none⟩) vs.length vs.length, .slice none 0 0, .slice none 0 0, .slice none 0 0]) (Or.inr fun e => by have h9 : w6.heap.size = bq := Option.some.inj e; omega)
        refine hK _ _ hES ?_
        clear hK K
        try simp only [Act.put, List.setIfInBounds_toArray, List.set_cons_zero, List.set_cons_succ]
        refine wpV_nil ?_
        exact HK.out _ _ ⟨bq, _, _, .of rfl, hbS, hiS, hbq, (fun e => by have h9 : w6.heap.size = bq := Option.some.inj e; omega), hES⟩
    · rintro a wr ⟨b10, A, c, ⟨f, rfl⟩, hb10, hpv, hb10w, hne, hE⟩
      clear c0 c1 c2
      have HNE := Lib.hid hne
      have HBW := Lib.hid hb10w
      have HPV := Lib.hid hpv
      have HE := Lib.hid hE
      have hm := imay_calls x (.slice A vs.length c) (.slice none 0 0) (.slice none 0 0) (.slice none 0 0) (List.replicate vs.length 0) [] [] [] wr (HG.out.ext hE) hpv (fun z hz => by rw [(List.mem_replicate.1 hz).2]; simp [InK]) (cmds_nil _) (cmds_nil _) (cmds_nil _)
      unfold MayP at hm
      rw [show mayI x (List.replicate vs.length 0) [] [] [] = 0 from by rw [HMV.out]; rfl] at hm
      clear hne hb10w hpv hE
      have y0 : World.cell? wr ⟨b10, 0, none⟩ = some (x.iV) := hb10.cell 0
      have y1 : World.cell? wr ⟨b10, 1, none⟩ = some (x.nV) := hb10.cell 1
      have y2 : World.cell? wr ⟨b10, 2, none⟩ = some (x.oV) := hb10.cell 2
      have y3 : World.cell? wr ⟨b10, 3, none⟩ = some (.slice A vs.length c) := hb10.cell 3
      have y4 : World.cell? wr ⟨b10, 4, none⟩ = some (.slice none 0 0) := hb10.cell 4
      have y5 : World.cell? wr ⟨b10, 5, none⟩ = some (.slice none 0 0) := hb10.cell 5
      have y6 : World.cell? wr ⟨b10, 6, none⟩ = some (.slice none 0 0) := hb10.cell 6
      go_wp2_with fail
      refine hm.mono ?_
      rintro e w7 ⟨rfl, hE7⟩
      replace hb10 := hb10.ext hE7
      have HPV7 := Lib.hid (HPV.out.ext hE7)
      have HE7 := Lib.hid (HE.out.trans hE7)
      clear hm y0 y1 y2 y3 y4 y5 y6 HPV HE hE7
      go_upto_if 40 with fail
      go_cut [1] (fun v wx => ∃ l1 : List Isa.Cm, l1.length ≤ 300 ∧ l1.length ≤ cl ∧ v = .slice Al l1.length cl ∧ Hid (Isa.Cmds w (.slice Al l1.length cl) l1) ∧ wx = w7)
      case first =>
        by_cases h300 : 300 < ls.length
        · have h1 := HLS.out.first (m := 300) (by omega)
          have hll : (ls.take 300).length = 300 := by rw [List.length_take]; omega
          have hX : ∃ l1 : List Isa.Cm, l1.length ≤ 300 ∧ l1.length ≤ cl ∧ Value.slice Al 300 cl = .slice Al l1.length cl ∧ Hid (Isa.Cmds w (.slice Al l1.length cl) l1) := ⟨ls.take 300, by omega, by omega, by rw [hll], by rw [hll]; exact h1⟩
          have HX := Lib.hid hX
          clear hX h1 hll
          go_wp2_with fail
          go_meet
          obtain ⟨l9, a1, a2, a3, a4⟩ := HX.out
          exact ⟨l9, a1, a2, a3, a4, rfl⟩
        · go_wp2_with fail
          go_meet
          exact ⟨ls, by omega, by omega, rfl, HLS, rfl⟩
      clear HLS hl1
      obtain ⟨l1, hl300, hl1, rfl, HLS, rfl⟩ := hcut
      obtain ⟨n0, rfl⟩ := Int.eq_ofNat_of_zero_le hbz.1
      go_upto_region 12 with fail
      have h3 : (n0 : Int) % 3 = ((n0 % 3 : Nat) : Int) := by omega
      rw [h3]
      have hk3 : n0 % 3 < 3 := Nat.mod_lt _ (by omega)
      clear h3
      generalize n0 % 3 = k at *
      refine cut_code (fun a W => ∃ (u0 u1 u2 : Value) (M0 M1 M2 : List Isa.Cm), LitA a (fun f => ({ tmps := #[f 0, .slice Al l1.length cl, f 2, .pointer (some ⟨w.heap.size, 0, none⟩), f 4, f 5, .bool false, .bool true, f 8, f 9, .pointer (some ⟨b10, 0, none⟩), f 11, f 12, f 13, f 14, f 15, f 16, f 17, f 18, f 19, f 20, f 21, f 22, f 23, f 24, f 25, f 26, f 27, f 28, f 29, f 30, f 31, f 32, f 33, f 34, f 35, f 36, f 37, f 38, f 39, f 40, f 41, f 42, f 43, f 44, f 45, f 46, f 47, f 48, f 49, f 50, f 51, f 52, f 53, f 54, f 55, f 56, f 57, f 58, f 59, f 60, f 61, f 62, f 63, f 64, f 65, f 66, f 67, f 68, f 69, f 70, f 71, f 72, f 73, f 74, f 75, f 76, f 77, f 78, f 79], defers := [] } : Act)) ∧ Blk W b10 #[x.iV, x.nV, x.oV, .slice A vs.length c, u0, u1, u2] 54 ∧ Isa.Cmds W u0 M0 ∧ Isa.Cmds W u1 M1 ∧ Isa.Cmds W u2 M2 ∧ Hid ((M0 = l1 ∧ M1 = [] ∧ M2 = []) ∨ (M0 = [] ∧ M1 = l1 ∧ M2 = []) ∨ (M0 = [] ∧ M1 = [] ∧ M2 = l1)) ∧ Hid (Ints .i64 W (.slice A vs.length c) (List.replicate vs.length 0)) ∧ Hid (Ext w5 W)) (fun K hK => ?_) ?_
      · have HK := Lib.hid hK
        have hf := fun i => hb10.frozen i
        have hlt := hb10.lt
        have HIN : Hid (∀ i, Ints .i64 (wc.setCell ⟨b10, i, none⟩ (.slice Al l1.length cl)) (.slice A vs.length c) (List.replicate vs.length 0)) := fun i => Row.grown HPV7.out (setCell_grown wc b10 i _) (by
          cases eo : (Value.slice A vs.length c).ownBlock with
          | none => exact Or.inl rfl
          | some q => exact Or.inr fun e => HNE.out (by rw [eo, e]))
        have HEX : Hid (∀ i, Ext w5 (wc.setCell ⟨b10, i, none⟩ (.slice Al l1.length cl))) := fun i => Below.setCell HE7.out HBW.out _
        have HCM : Hid (∀ i, Isa.Cmds (wc.setCell ⟨b10, i, none⟩ (.slice Al l1.length cl)) (.slice Al l1.length cl) l1) := fun i => HLS.out.below (H5.out.trans (HEX.out i)) (Nat.le_refl _)
        have HB : Hid (∀ i, Blk (wc.setCell ⟨b10, i, none⟩ (.slice Al l1.length cl)) b10 ((#[x.iV, x.nV, x.oV, .slice A vs.length c, .slice none 0 0, .slice none 0 0, .slice none 0 0] : Array Value).setIfInBounds i (.slice Al l1.length cl)) 54) := fun i => hb10.set i _
        clear hK
        rcases (by omega : k = 0 ∨ k = 1 ∨ k = 2) with rfl | rfl | rfl
        · have y4 : World.cell? wc ⟨b10, 4, none⟩ = some (.slice none 0 0) := hb10.cell 4
          have hfk := hf 4
          have HBk := HB.out 4
          clear hb10 hf
          go_wp2_with fail
          exact HK.out _ _ ⟨_, _, _, _, _, _, .of rfl, by simpa using HBk, HCM.out 4, cmds_nil _, cmds_nil _, .inl ⟨rfl, rfl, rfl⟩, HIN.out 4, HEX.out 4⟩
        · have y5 : World.cell? wc ⟨b10, 5, none⟩ = some (.slice none 0 0) := hb10.cell 5
          have hfk := hf 5
          have HBk := HB.out 5
          clear hb10 hf
          go_wp2_with fail
          exact HK.out _ _ ⟨_, _, _, _, _, _, .of rfl, by simpa using HBk, cmds_nil _, HCM.out 5, cmds_nil _, .inr (.inl ⟨rfl, rfl, rfl⟩), HIN.out 5, HEX.out 5⟩
        · have y6 : World.cell? wc ⟨b10, 6, none⟩ = some (.slice none 0 0) := hb10.cell 6
          have hfk := hf 6
          have HBk := HB.out 6
          clear hb10 hf
          go_wp2_with fail
          exact HK.out _ _ ⟨_, _, _, _, _, _, .of rfl, by simpa using HBk, cmds_nil _, cmds_nil _, HCM.out 6, .inr (.inr ⟨rfl, rfl, rfl⟩), HIN.out 6, HEX.out 6⟩
      clear hb10 HPV7 HE7
      rintro a wr0 ⟨u0, u1, u2, M0, M1, M2, ⟨f2, rfl⟩, hb10, hu0, hu1, hu2, HM, HPV, HE⟩
      obtain ⟨A0, d0, e0, _, _, _⟩ := id (show Row _ _ _ _ _ from hu0)
      obtain ⟨A1, d1, e1, _, _, _⟩ := id (show Row _ _ _ _ _ from hu1)
      obtain ⟨A2, d2, e2, _, _, _⟩ := id (show Row _ _ _ _ _ from hu2)
      subst e0
      subst e1
      subst e2
      obtain ⟨n0, hn0⟩ : ∃ n, M0.length = n := ⟨_, rfl⟩
      obtain ⟨n1, hn1⟩ : ∃ n, M1.length = n := ⟨_, rfl⟩
      obtain ⟨n2, hn2⟩ : ∃ n, M2.length = n := ⟨_, rfl⟩
      rw [hn0, hn1, hn2] at hb10
      rw [hn0] at hu0
      rw [hn1] at hu1
      rw [hn2] at hu2
      clear hn0 hn1 hn2
      have HU := Lib.hid (And.intro hu0 (And.intro hu1 hu2))
      clear hu0 hu1 hu2
      have hput := Isa.refPut_calls (.slice Al l1.length cl) l1 wr0 (HLS.out.below (H5.out.trans HE.out) (Nat.le_refl _))
      unfold Isa.PutPost at hput
      have HMAY : Hid (mayI x (List.replicate vs.length 0) M0 M1 M2 = Isa.putErr l1) := by
        show _ = _
        rw [HMV.out]
        have hnil : Isa.putErr [] = 0 := rfl
        rcases HM.out with ⟨rfl, rfl, rfl⟩ | ⟨rfl, rfl, rfl⟩ | ⟨rfl, rfl, rfl⟩
        · by_cases h : Isa.putErr M0 = 0 <;> simp [h, hnil]
        · by_cases h : Isa.putErr M1 = 0 <;> simp [h, hnil]
        · simp [hnil]
      obtain ⟨z, hzz⟩ : ∃ z, Isa.putErr l1 = z := ⟨_, rfl⟩
      rw [hzz] at HMAY hput
      generalize Isa.putB l1 = pb at *
      clear hzz HM
      go_wp2_with fail
      refine hput.mono ?_
      rintro e w8 ⟨vb, rfl, _, hE8⟩
      have hE8 : Ext wr0 w8 := hE8
      replace hb10 := hb10.ext hE8
      have HX8 := Lib.hid hE8
      clear hput hE8
      have hz := Blk.new w8 #[.slice none 0 0, .slice none 0 0, .slice none 0 0, .slice none 0 0, .slice none 0 0, .slice none 0 0, .slice none 0 0] 54
      have hb14 : Blk ((w8.alloc (.cells #[.slice none 0 0, .slice none 0 0, .slice none 0 0, .slice none 0 0, .slice none 0 0, .slice none 0 0, .slice none 0 0] 54)).setRow w8.heap.size #[x.iV, x.nV, x.oV, .slice A vs.length c, .slice A0 n0 d0, .slice A1 n1 d1, .slice A2 n2 d2]) w8.heap.size #[x.iV, x.nV, x.oV, .slice A vs.length c, .slice A0 n0 d0, .slice A1 n1 d1, .slice A2 n2 d2] 54 := setRow_heap _ _ _ _ _ _ hz
      have hQ : Ext w8 ((w8.alloc (.cells #[.slice none 0 0, .slice none 0 0, .slice none 0 0, .slice none 0 0, .slice none 0 0, .slice none 0 0, .slice none 0 0] 54)).setRow w8.heap.size #[x.iV, x.nV, x.oV, .slice A vs.length c, .slice A0 n0 d0, .slice A1 n1 d1, .slice A2 n2 d2]) := ext_setRow (ext_alloc _ _) _ (Nat.le_refl _)
      have hone : Array.all #[x.iV, x.nV, x.oV, .slice A vs.length c, .slice A0 n0 d0, .slice A1 n1 d1, .slice A2 n2 d2] (·.oneCell') = true := by
        obtain ⟨_, _, e1, _⟩ := HG.out.ins
        obtain ⟨_, _, e2, _⟩ := HG.out.nodes
        obtain ⟨_, _, e3, _⟩ := HG.out.outs
        rw [e1, e2, e3]
        simp [Value.oneCell']
      have HO2 := Lib.hid hone
      clear hone
      have hl10 := hb10.lt
      have y0 : World.cell? w8 ⟨b10, 0, none⟩ = some (x.iV) := hb10.cell 0
      have y1 : World.cell? w8 ⟨b10, 1, none⟩ = some (x.nV) := hb10.cell 1
      have y2 : World.cell? w8 ⟨b10, 2, none⟩ = some (x.oV) := hb10.cell 2
      have y3 : World.cell? w8 ⟨b10, 3, none⟩ = some (.slice A vs.length c) := hb10.cell 3
      have y4 : World.cell? w8 ⟨b10, 4, none⟩ = some (.slice A0 n0 d0) := hb10.cell 4
      have y5 : World.cell? w8 ⟨b10, 5, none⟩ = some (.slice A1 n1 d1) := hb10.cell 5
      have y6 : World.cell? w8 ⟨b10, 6, none⟩ = some (.slice A2 n2 d2) := hb10.cell 6
      go_upto_region 15 with (refine wpList_store_row rfl 54 _ _ rfl w8.heap.size #[x.iV, x.nV, x.oV, .slice A vs.length c, .slice A0 n0 d0, .slice A1 n1 d1, .slice A2 n2 d2] rfl rfl 54 _ hz (by kernel_rfl) rfl HO2.out ?_)
      have hb10' := hb10.ext hQ
      have hl10' : b10 < w8.heap.size := hb10.lt
      have HX9 := Lib.hid (HX8.out.trans hQ)
      have hs8 := HX8.out.size
      clear y0 y1 y2 y3 y4 y5 y6 hz hQ hl10 hb10 HO2 HX8
      generalize World.setRow (World.alloc w8 _) _ _ = w9 at *
      generalize w8.heap.size = b14 at *
      have HB14 := Lib.hid (And.intro hs8 hl10')
      have HBB := Lib.hid (And.intro hb10' hb14)
      have hsz9 : b14 < w9.heap.size := hb14.lt
      have HS9 := Lib.hid hsz9
      clear hs8 hl10' hb10' hb14 hsz9
      have hown0 := World.ownsRow_made (base := w9.heap.size) (e := 57) (size := 14) w9 #[] 0 (Nat.le_refl _) (Nat.zero_le _) (by simp)
      have HOWN0 := Lib.hid (show (w9.alloc (.cells #[] 57)).ownsRow w9.heap.size 57 14 (.slice (some ⟨w9.heap.size, 0, none⟩) 0 0) 0 ((List.replicate 0 haltC).flatMap Isa.Cm.cs) from hown0)
      have HE90 := Lib.hid (ext_alloc w9 (.cells #[] 57))
      clear hown0
      go_wp2_with fail
      go_loopw [15, 16] (fun v0 i wr => ∃ (v : Value) (k : Nat), v = v0 ∧ k ≤ 4097 ∧ i = .int .i64 k ∧ Hid (wr.ownsRow w9.heap.size 57 14 v k ((List.replicate k haltC).flatMap Isa.Cm.cs)) ∧ Hid (Ext w9 wr)) (fun _ i _ => 4097 - (intOf i).toNat)
      case atStart => exact ⟨_, 0, rfl, by omega, rfl, HOWN0, HE90⟩
      case round =>
        clear HOWN0 HE90
        obtain ⟨v, k, rfl, hk, rfl, HOWN, HEK⟩ := hrel
        by_cases hlt : k < 4097
        · have hEn := ext_alloc wr (.cells #[.int .i64 7, .int .i64 0, .int .i64 0, .int .i64 0, .int .i64 0, .int .i64 0, .int .i64 0, .int .i64 0, .int .i64 0, .int .i64 0, .int .i64 0, .int .i64 0, .int .i64 0, .int .i64 0] 57)
          have hnew := row_new wr #[.int .i64 7, .int .i64 0, .int .i64 0, .int .i64 0, .int .i64 0, .int .i64 0, .int .i64 0, .int .i64 0, .int .i64 0, .int .i64 0, .int .i64 0, .int .i64 0, .int .i64 0, .int .i64 0] 57 1 14 rfl (by decide)
          have hownA := World.ownsRow.kept (row := none) HOWN.out (grown_of_ext hEn) (by cases v.ownBlock <;> simp)
          have hbase := (HEK.out.trans hEn).size
          have hk1 : k + 1 ≤ 140737488355328 := by omega
          have hk2 : (k + 1) * 112 ≤ 140737488355328 := by omega
          have hone : ∀ u ∈ (#[.int .i64 7, .int .i64 0, .int .i64 0, .int .i64 0, .int .i64 0, .int .i64 0, .int .i64 0, .int .i64 0, .int .i64 0, .int .i64 0, .int .i64 0, .int .i64 0, .int .i64 0, .int .i64 0] : Array Value).toList, u.oneCell' = true := one_ints .i64 [7, 0, 0, 0, 0, 0, 0, 0, 0, 0, 0, 0, 0, 0]
          have HE9 : Hid (∀ w' : World, World.grownBy (wr.alloc (.cells #[.int .i64 7, .int .i64 0, .int .i64 0, .int .i64 0, .int .i64 0, .int .i64 0, .int .i64 0, .int .i64 0, .int .i64 0, .int .i64 0, .int .i64 0, .int .i64 0, .int .i64 0, .int .i64 0] 57)) w' v.ownBlock → Ext w9 w') := fun w' hg => Below.grown (HEK.out.trans hEn) hg (HEK.out.trans hEn).size (fun q hq => (hownA.lt q hq).1)
          have HA9 : Hid (∀ (v' : Value) (w' : World), w'.ownsRow w9.heap.size 57 14 v' (k + 1) ((List.replicate k haltC).flatMap Isa.Cm.cs ++ (#[.int .i64 7, .int .i64 0, .int .i64 0, .int .i64 0, .int .i64 0, .int .i64 0, .int .i64 0, .int .i64 0, .int .i64 0, .int .i64 0, .int .i64 0, .int .i64 0, .int .i64 0, .int .i64 0] : Array Value).toList) → w'.ownsRow w9.heap.size 57 14 v' (k + 1) ((List.replicate (k + 1) haltC).flatMap Isa.Cm.cs)) := fun v' w' ho => by
            rw [List.replicate_succ', List.flatMap_append]
            exact ho
          clear HOWN HEK hEn
          go_wp2_with (at_builtin; refine wpList_append_row rfl rfl elem_cmdI hownA rfl hnew rfl hone hk1 hk2 hbase ?_; intro v' w' ho hgr _)
          have HO9 := Lib.hid (HA9.out _ _ ho)
          have HEK9 := Lib.hid (HE9.out _ hgr)
          clear ho hgr hownA hnew HA9 HE9
          go_roundw
          case rel => exact ⟨_, k + 1, rfl, by omega, by go_num, HO9, HEK9⟩
          case measure => simp [intOf]; omega
        · have hkk : k = 4097 := by omega
          subst hkk
          obtain ⟨A9, c9, e9, _⟩ := row_of_own HOWN.out
          subst e9
          have hb14 := HBB.out.2.ext HEK.out
          have hf := hb14.frozen 4
          have hl14 := hb14.lt
          have y4 : World.cell? wr ⟨b14, 4, none⟩ = some (.slice A0 n0 d0) := hb14.cell 4
          have hv9 : ∀ q, (Value.slice A9 4097 c9).ownBlock = some q → w9.heap.size ≤ q := fun q hq => (HOWN.out.lt q hq).1
          have K14 : Hid (Blk (wr.setCell ⟨b14, 4, none⟩ (.slice A9 4097 c9)) b14 #[x.iV, x.nV, x.oV, .slice A vs.length c, .slice A9 4097 c9, .slice A1 n1 d1, .slice A2 n2 d2] 54) := by show Blk _ _ _ _; simpa using hb14.set 4 (.slice A9 4097 c9)
          have K10 : Hid (Blk (wr.setCell ⟨b14, 4, none⟩ (.slice A9 4097 c9)) b10 #[x.iV, x.nV, x.oV, .slice A vs.length c, .slice A0 n0 d0, .slice A1 n1 d1, .slice A2 n2 d2] 54) := (HBB.out.1.ext HEK.out).grown (setCell_grown wr b14 4 _) (fun e => by have := HB14.out.2; have := Option.some.inj e; omega)
          have KH : Hid (Isa.Cmds (wr.setCell ⟨b14, 4, none⟩ (.slice A9 4097 c9)) (.slice A9 4097 c9) (List.replicate 4097 haltC)) := by
            have h := row_of_own HOWN.out
            have h2 := Row.grown h (setCell_grown wr b14 4 (.slice A9 4097 c9)) (by
              cases eo : (Value.slice A9 4097 c9).ownBlock with
              | none => exact Or.inl rfl
              | some q => exact Or.inr fun e2 => by have := hv9 q eo; have := HS9.out; have := Option.some.inj e2; omega)
            show Row _ _ _ _ _
            rw [List.length_replicate]
            exact h2
          have KX : Hid (Ext wr0 (wr.setCell ⟨b14, 4, none⟩ (.slice A9 4097 c9))) := Below.setCell (HX9.out.trans HEK.out) HB14.out.1 _
          clear hv9 hb14 HOWN HEK
          go_upto_region 21 with fail
          clear hf hl14 y4
          generalize World.setCell wr _ _ = w10 at *
          have HM1 : Hid (∀ W, Ext w10 W → Calls Try.prog 35 #[.agg #[x.iV, x.nV, x.oV, .slice A vs.length c, .slice A0 n0 d0, .slice A1 n1 d1, .slice A2 n2 d2]] W (MayP z W)) := by
            intro W hW
            have hX := KX.out.trans hW
            have h := imay_calls x (.slice A vs.length c) (.slice A0 n0 d0) (.slice A1 n1 d1) (.slice A2 n2 d2) (List.replicate vs.length 0) M0 M1 M2 W (HG.out.ext (HE.out.trans hX)) (HPV.out.ext hX) (fun z hz => by rw [(List.mem_replicate.1 hz).2]; simp [InK]) (HU.out.1.below hX (Nat.le_refl _)) (HU.out.2.1.below hX (Nat.le_refl _)) (HU.out.2.2.below hX (Nat.le_refl _))
            rw [HMAY.out] at h
            exact h
          have HM2 : Hid (∀ W, Ext w10 W → Calls Try.prog 35 #[.agg #[x.iV, x.nV, x.oV, .slice A vs.length c, .slice A9 4097 c9, .slice A1 n1 d1, .slice A2 n2 d2]] W (MayP 3 W)) := by
            intro W hW
            have hX := KX.out.trans hW
            have h := imay_calls x (.slice A vs.length c) (.slice A9 4097 c9) (.slice A1 n1 d1) (.slice A2 n2 d2) (List.replicate vs.length 0) (List.replicate 4097 haltC) M1 M2 W (HG.out.ext (HE.out.trans hX)) (HPV.out.ext hX) (fun z hz => by rw [(List.mem_replicate.1 hz).2]; simp [InK]) (KH.out.below hW (Nat.le_refl _)) (HU.out.2.1.below hX (Nat.le_refl _)) (HU.out.2.2.below hX (Nat.le_refl _))
            rw [HMV.out, halts_err 4097 (by omega)] at h
            exact h
          unfold MayP at HM1 HM2
          have hzz : (z == z) = true := by simp
          clear HPV HU HMAY HMV KH
          have hk := K10.out.ext (Ext.refl w10)
          have y0 : World.cell? w10 ⟨b10, 0, none⟩ = some (x.iV) := hk.cell 0
          have y1 : World.cell? w10 ⟨b10, 1, none⟩ = some (x.nV) := hk.cell 1
          have y2 : World.cell? w10 ⟨b10, 2, none⟩ = some (x.oV) := hk.cell 2
          have y3 : World.cell? w10 ⟨b10, 3, none⟩ = some (.slice A vs.length c) := hk.cell 3
          have y4 : World.cell? w10 ⟨b10, 4, none⟩ = some (.slice A0 n0 d0) := hk.cell 4
          have y5 : World.cell? w10 ⟨b10, 5, none⟩ = some (.slice A1 n1 d1) := hk.cell 5
          have y6 : World.cell? w10 ⟨b10, 6, none⟩ = some (.slice A2 n2 d2) := hk.cell 6
          have hm := HM1.out w10 (Ext.refl w10)
          clear hk
          go_wp2_with fail
          refine hm.mono ?_
          rintro e v0 ⟨rfl, hE0⟩
          clear hm y0 y1 y2 y3 y4 y5 y6
          have HE30 : Hid (Ext w10 v0) := Ext.trans (Ext.refl w10) hE0
          clear hE0
          have hk := K14.out.ext HE30.out
          have y0 : World.cell? v0 ⟨b14, 0, none⟩ = some (x.iV) := hk.cell 0
          have y1 : World.cell? v0 ⟨b14, 1, none⟩ = some (x.nV) := hk.cell 1
          have y2 : World.cell? v0 ⟨b14, 2, none⟩ = some (x.oV) := hk.cell 2
          have y3 : World.cell? v0 ⟨b14, 3, none⟩ = some (.slice A vs.length c) := hk.cell 3
          have y4 : World.cell? v0 ⟨b14, 4, none⟩ = some (.slice A9 4097 c9) := hk.cell 4
          have y5 : World.cell? v0 ⟨b14, 5, none⟩ = some (.slice A1 n1 d1) := hk.cell 5
          have y6 : World.cell? v0 ⟨b14, 6, none⟩ = some (.slice A2 n2 d2) := hk.cell 6
          have hm := HM2.out v0 HE30.out
          clear hk
          go_wp2_with fail
          refine hm.mono ?_
          rintro e v1 ⟨rfl, hE1⟩
          clear hm y0 y1 y2 y3 y4 y5 y6
          have HE31 : Hid (Ext w10 v1) := Ext.trans HE30.out hE1
          clear hE1
          go_wp2_with fail
          exact HP.out _ _ rfl ((H5.out.trans (HE.out.trans KX.out)).trans HE31.out)
  · have hvb : ((valuesR x).2 != 0) = true := by simpa using hv0
    have HV0 := Lib.hid hv0
    have HE4 := Lib.hid hE4
    go_wp2_with fail
    refine hval.mono ?_
    rintro e w5 ⟨_, hA, hE5⟩
    obtain rfl := hA HV0.out
    have HH := Lib.hid (HE4.out.trans hE5)
    clear q0 q1 q2 hval hA hv0 hE5 hE4
    generalize (valuesR x).2 = z at *
    go_wp2_with fail
    exact HP.out _ _ rfl HH.out

end Go.Proofs.Ytdhdbmfipkppiaa
