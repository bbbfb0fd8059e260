/- The walk of isa.numbers. -/
/- Rows of commands, and what they are laid down as. -/
/- The walk of the reader's number. -/
/- Which commands may be, kind by kind. -/
import Derived.Test.YtdhdbmfipkppiaaGreatNsaM
import Derived.Test.YtdhdbmfipkppiaaGreatBytes
import Derived.Test.YtdhdbmfipkppiaaGreatNsaV
set_option linter.unusedSimpArgs false
set_option linter.unusedVariables false
set_option linter.unnecessarySimpa false
namespace Go.Proofs.YtdhdbmfipkppiaaGreat.Isa
set_option maxRecDepth 10000
open Go.RowKit

def GrewPost (w : World) (base : Nat) (e : TypeId) (sz : Nat) (v : Value) (n : Nat) (xs : List Value) (ed : Ending) (w' : World) : Prop := ∃ v', ed = .returned v' ∧ Grew w base e sz v n xs w' v'

theorem shift_i64 {wide i : Nat} (h : i < wide) : (8 * ((wide : Int) - 1 - (i : Int))).toNat = 8 * (wide - 1 - i) := by omega

set_option maxHeartbeats 1600000 in
theorem numbers_calls (base : Nat) (v lv : Value) (bs : List Int) (wide : Nat) (zs : List Int) (w : World)
    (hown : w.ownsRow base 5 1 v bs.length (bs.map (.int .u8))) (hbase : base ≤ w.heap.size) (hl : Ints .i64 w lv zs) (hsep : Sep v lv) (hll : ∀ k, lv.ownBlock = some k → k < w.heap.size) (hw : 1 ≤ wide) (hw8 : wide ≤ 8) (hn : bs.length + zs.length * wide ≤ 1099511627776) :
    Calls Tryz.prog 59 #[v, .int .i64 wide, lv] w (GrewPost w base 5 1 v (bs ++ zs.flatMap (be · wide)).length ((bs ++ zs.flatMap (be · wide)).map (.int .u8))) := by
  obtain ⟨A, c, rfl, hlc, hcm, _⟩ := id hl.form
  unfold maxLen at hcm
  have hg0 := Grew.refl hown
  go_enter Tryz.func59, Tryz.ntmps59
  go_wp2_with fail
  go_loopw [0, 12] (fun b i wr => ∃ (k : Nat) (bk : List Int), k ≤ zs.length ∧ i = .int .i64 k ∧ Hid (bk = bs ++ (zs.take k).flatMap (be · wide)) ∧ Hid (bk.length = bs.length + k * wide) ∧ Grew w base 5 1 v bk.length (bk.map (.int .u8)) wr b) (fun _ i _ => zs.length - (intOf i).toNat)
  case atStart => exact ⟨0, bs, by omega, rfl, by show _ = _; simp, by show _ = _; simp, hg0⟩
  case round =>
    obtain ⟨k, bk, hk, rfl, hbk, hbl, hg⟩ := hrel
    by_cases hlt : k < zs.length
    · have hl1 := Row.grown hl hg.grown hsep.or
      obtain ⟨_, _, e1, _, _, hcells⟩ := Ints.form (k := .i64) (zs := zs) hl1
      cases e1
      obtain ⟨g, off, rfl, c0⟩ := hcells k hlt
      have hx : zs[k]? = some (zs[k]?.getD 0) := by simp [hlt]
      have HS : Hid (∀ ys, bs ++ (zs.take k).flatMap (be · wide) ++ ys = bs ++ (zs.take (k + 1)).flatMap (be · wide) ↔ ys = be (zs[k]?.getD 0) wide) := by
        show ∀ ys, _ ↔ _
        intro ys
        rw [List.take_add_one, hx]
        simp [List.flatMap_append]
      have hroom : bk.length + wide ≤ 1099511627776 := by
        have h1 := hbl.out
        have h2 : (k + 1) * wide ≤ zs.length * wide := Nat.mul_le_mul_right _ hlt
        rw [Nat.add_mul, Nat.one_mul] at h2
        omega
      clear hcells hl1 hx
      generalize zs[k]?.getD 0 = x at *
      have hg0 : Grew w base 5 1 v (bk ++ (be x wide).take 0).length ((bk ++ (be x wide).take 0).map (.int .u8)) wr u0 := by simpa using hg
      have hgz := hg.grown.size
      go_wp2_with fail
      go_loopw [0, 17] (fun b i wr => ∃ (j : Nat), j ≤ wide ∧ i = .int .i64 j ∧ Grew w base 5 1 v (bk ++ (be x wide).take j).length ((bk ++ (be x wide).take j).map (.int .u8)) wr b) (fun _ i _ => wide - (intOf i).toNat)
      case atStart => exact ⟨0, by omega, rfl, hg0⟩
      case round =>
        clear hg0 hg c0 hgz
        obtain ⟨j, hj, rfl, hg⟩ := hrel
        by_cases hjlt : j < wide
        · have hs := shift_i64 hjlt
          have hs0 : (0 : Int) ≤ 8 * ((wide : Int) - 1 - (j : Int)) := by omega
          have hs1 : 8 * ((wide : Int) - 1 - (j : Int)) ≤ 64 := by omega
          have HT := Lib.hid (be_take_succ x hjlt)
          have hlen : (bk ++ (be x wide).take j).length = bk.length + j := by rw [List.length_append, List.length_take, be_len]; omega
          have hlen := Lib.hid hlen
          go_wp2_with (at_builtin; refine stopped ?_)
          have hnew := row_lit wr #[.int .u8 (x / 2 ^ (8 * (wide - 1 - j)) % 256)] 5 1 1 wr.heap.size rfl rfl (by unfold maxLen; omega)
          have hg1 := hg.alloc (.cells #[.int .u8 (x / 2 ^ (8 * (wide - 1 - j)) % 256)] 5)
          have hl1 := hlen.out
          refine wpList_append_row rfl rfl elem_u8 hg1.own rfl hnew rfl (by intro u hu; simp at hu; subst hu; rfl) (by omega) (by omega) (Nat.le_trans hbase hg1.grown.size) ?_
          intro v' w' ho hgr hn
          have hg2 : Grew w base 5 1 v (bk ++ (be x wide).take (j + 1)).length ((bk ++ (be x wide).take (j + 1)).map (.int .u8)) w' v' := by
            refine hg1.append ?_ hgr hn
            rw [HT.out, ← List.append_assoc, List.length_append, List.map_append]
            exact ho
          clear hg hg1 ho hgr hn hnew hl1
          go_wp2_with fail
          go_roundw
          case rel => exact ⟨j + 1, by omega, by go_num, hg2⟩
          case measure => simp [intOf]; omega
        · obtain rfl : j = wide := by omega
          have hb2 : Hid (bk ++ be x j = bs ++ (zs.take (k + 1)).flatMap (be · j)) := by
            show _ = _
            rw [hbk.out]
            exact (HS.out _).2 rfl
          have hb3 : Hid ((bk ++ be x j).length = bs.length + (k + 1) * j) := by
            show _ = _
            rw [List.length_append, be_len, hbl.out, Nat.add_mul, Nat.one_mul, Nat.add_assoc]
          have hg2 : Grew w base 5 1 v (bk ++ be x j).length ((bk ++ be x j).map (.int .u8)) wr u0 := by
            have e : (be x j).take j = be x j := List.take_of_length_le (by rw [be_len]; omega)
            rw [e] at hg
            exact hg
          clear hg HS
          go_wp2_with fail
          go_roundw
          case rel => exact ⟨k + 1, bk ++ be x j, by omega, by go_num, hb2, hb3, hg2⟩
          case measure => simp [intOf]; omega
    · have hkk : k = zs.length := by omega
      have hb : Hid (bk = bs ++ zs.flatMap (be · wide)) := by
        show _ = _
        rw [hbk.out, hkk, List.take_length]
      have hg2 := hg
      rw [hb.out] at hg2
      clear hg hbk hbl
      go_wp2_with fail
      go_ret
      exact ⟨_, rfl, hg2⟩

end Go.Proofs.YtdhdbmfipkppiaaGreat.Isa

namespace Go.Proofs.YtdhdbmfipkppiaaGreat.Isa
set_option maxRecDepth 10000
open Go.RowKit

/-- A slice of commands. -/
def Cmds (w : World) (v : Value) (l : List Cm) : Prop := Row w v l.length 14 (l.flatMap Cm.cs)

theorem ccs_get : ∀ (l : List Cm) (j i : Nat), i < 14 → (l.flatMap Cm.cs)[j * 14 + i]? = (l[j]?).bind fun s => s.cs[i]?
  | [], j, i, _ => by simp
  | s :: l, 0, i, hi => by
    rw [List.flatMap_cons, Nat.zero_mul, Nat.zero_add, List.getElem?_append_left (by rw [Cm.cs_len]; exact hi)]
    rfl
  | s :: l, j + 1, i, hi => by
    rw [List.flatMap_cons, List.getElem?_append_right (by rw [Cm.cs_len]; omega), show (j + 1) * 14 + i - s.cs.length = j * 14 + i from by rw [Cm.cs_len]; omega, ccs_get l j i hi]
    rfl

theorem ccs_len (l : List Cm) : (l.flatMap Cm.cs).length = l.length * 14 := by
  induction l with
  | nil => rfl
  | cons x l ih => rw [List.flatMap_cons, List.length_append, ih, Cm.cs_len, List.length_cons]; omega

theorem Cmds.below {w w' : World} {v : Value} {l : List Cm} (h : Cmds w v l) {B : Nat} (hb : Below B w w') (hB : w.heap.size ≤ B) : Cmds w' v l := Row.below h (hb.mono hB)

theorem Cmds.form {w : World} {v : Value} {l : List Cm} (h : Cmds w v l) : ∃ A c, v = .slice A l.length c ∧ l.length ≤ c ∧ c ≤ maxLen ∧
    (∀ j s, l[j]? = some s → ∃ b off, A = some ⟨b, off, none⟩ ∧ b < w.heap.size ∧ w.cell? ⟨b, off + j * 14, none⟩ = some (.int .i64 s.k) ∧ w.cell? ⟨b, off + j * 14 + 1, none⟩ = some (.int .i64 s.s) ∧ w.cell? ⟨b, off + j * 14 + 2, none⟩ = some (.int .i64 s.n) ∧
      w.cell? ⟨b, off + j * 14 + 3, none⟩ = some (.int .i64 s.f) ∧ w.cell? ⟨b, off + j * 14 + 4, none⟩ = some (.int .i64 s.r) ∧ w.cell? ⟨b, off + j * 14 + 5, none⟩ = some (.int .i64 s.o) ∧ w.cell? ⟨b, off + j * 14 + 6, none⟩ = some (.int .i64 s.d) ∧
      w.cell? ⟨b, off + j * 14 + 7, none⟩ = some (.int .i64 s.p) ∧ w.cell? ⟨b, off + j * 14 + 8, none⟩ = some (.int .i64 s.i0) ∧ w.cell? ⟨b, off + j * 14 + 9, none⟩ = some (.int .i64 s.i1) ∧ w.cell? ⟨b, off + j * 14 + 10, none⟩ = some (.int .i64 s.b0) ∧
      w.cell? ⟨b, off + j * 14 + 11, none⟩ = some (.int .i64 s.b1) ∧ w.cell? ⟨b, off + j * 14 + 12, none⟩ = some (.int .i64 s.h0) ∧ w.cell? ⟨b, off + j * 14 + 13, none⟩ = some (.int .i64 s.h1)) := by
  obtain ⟨A, c, e, h1, h2, h3, h4⟩ := h
  refine ⟨A, c, e, h1, h2, fun j s hj => ?_⟩
  have g := fun i u (hi : i < 14) (hu : s.cs[i]? = some u) => h4 (j * 14 + i) u (by rw [ccs_get _ _ _ hi, hj]; exact hu)
  obtain ⟨b, off, rfl, k0⟩ := g 0 _ (by omega) rfl
  have g' : ∀ i u, i < 14 → s.cs[i]? = some u → w.cell? ⟨b, off + j * 14 + i, none⟩ = some u := fun i u hi hu => by
    obtain ⟨_, _, e1, k1⟩ := g i u hi hu
    cases e1
    rw [← Nat.add_assoc] at k1
    exact k1
  exact ⟨b, off, rfl, World.block_lt_of_cell? w _ k0, g' 0 _ (by omega) rfl, g' 1 _ (by omega) rfl, g' 2 _ (by omega) rfl, g' 3 _ (by omega) rfl, g' 4 _ (by omega) rfl, g' 5 _ (by omega) rfl, g' 6 _ (by omega) rfl, g' 7 _ (by omega) rfl, g' 8 _ (by omega) rfl, g' 9 _ (by omega) rfl, g' 10 _ (by omega) rfl, g' 11 _ (by omega) rfl, g' 12 _ (by omega) rfl, g' 13 _ (by omega) rfl⟩

theorem Cmds.first {w : World} {A : Option Addr} {n c : Nat} {l : List Cm} (h : Cmds w (.slice A n c) l) {m : Nat} (hm : m ≤ l.length) : Cmds w (.slice A m c) (l.take m) := by
  obtain ⟨A', c', e, h1, h2, h3, h4⟩ := h
  cases e
  have hl : (l.take m).length = m := by rw [List.length_take]; omega
  refine ⟨A, c, by rw [hl], by omega, h2, by rw [ccs_len], ?_⟩
  have e2 : (l.take m).flatMap Cm.cs = (l.flatMap Cm.cs).take (m * 14) := by
    have : ∀ (l : List Cm) (m : Nat), (l.take m).flatMap Cm.cs = (l.flatMap Cm.cs).take (m * 14) := by
      intro l
      induction l with
      | nil => intro m; simp
      | cons x l ih =>
        intro m
        cases m with
        | zero => simp
        | succ m =>
          rw [List.take_succ_cons, List.flatMap_cons, List.flatMap_cons, ih, List.take_append, Cm.cs_len, List.take_of_length_le (l := x.cs) (by rw [Cm.cs_len]; omega), show (m + 1) * 14 - 14 = m * 14 from by omega]
    exact this l m
  rw [e2]
  exact h4.take _

/-- What a command is laid down as. -/
def enc (c : Cm) : List Int := be c.k 1 ++ (tbl c.k).flatMap fun x => be (c.l[x.at_]?.getD 0) x.wide
def encs (l : List Cm) : List Int := be l.length 2 ++ l.flatMap enc
def putErr (l : List Cm) : Int := if 4096 < l.length then 3 else if l.all mayB then 0 else 1
def putB (l : List Cm) : List Int := if 4096 < l.length then [] else if l.all mayB then encs l else []

theorem enc_len (c : Cm) : (enc c).length ≤ 14 := by
  unfold enc
  rw [List.length_append, be_len]
  have : ∀ T : List Fd, (T.flatMap fun x => be (c.l[x.at_]?.getD 0) x.wide).length = (T.map (·.wide)).sum := by
    intro T
    induction T with
    | nil => rfl
    | cons x T ih => rw [List.flatMap_cons, List.length_append, be_len, ih]; rfl
  rw [this]
  unfold tbl
  split
  · decide
  · split
    · decide
    · split
      · decide
      · split <;> decide

theorem sep_new {w : World} {base : Nat} {e : TypeId} {sz : Nat} {v : Value} {n : Nat} {xs : List Value} (h : w.ownsRow base e sz v n xs) (m c : Nat) : Sep v (.slice (some ⟨w.heap.size, 0, none⟩) m c) := fun k hk e => by
  have := (h.lt k hk).2
  simp only [Value.ownBlock, Option.some.injEq] at e
  omega

/-- What Put answers. -/
def PutPost (l : List Cm) (w : World) (e : Ending) (w' : World) : Prop :=
  ∃ v', e = .returned (.tuple #[v', .int .i64 (putErr l)]) ∧ w'.ownsRow w.heap.size 5 1 v' (putB l).length ((putB l).map (.int .u8)) ∧ Below w.heap.size w w'

end Go.Proofs.YtdhdbmfipkppiaaGreat.Isa

namespace Go.Proofs.YtdhdbmfipkppiaaGreat.Isa
set_option maxRecDepth 10000
open Go.RowKit

/-- A number of bytes, the highest first. -/
def numOf (l : List Int) : Int := l.foldl (fun x c => 256 * x + c) 0

/-- A reader in a block: what is left, and whether it is bad. -/
def Rd (w : World) (b : Nat) (lv : Value) (zs : List Int) (bad : Bool) : Prop :=
  w.heap[b]? = some (.cells #[lv, .bool bad] 71 (0, 0)) ∧ Ints .u8 w lv zs ∧ (∀ z ∈ zs, 0 ≤ z ∧ z ≤ 255) ∧ (zs = [] ∨ lv.ownBlock ≠ some b)

theorem Rd.lt {w : World} {b : Nat} {lv : Value} {zs : List Int} {bad : Bool} (h : Rd w b lv zs bad) : b < w.heap.size := (Array.getElem?_eq_some_iff.1 h.1).1
theorem Rd.cells {w : World} {b : Nat} {lv : Value} {zs : List Int} {bad : Bool} (h : Rd w b lv zs bad) : w.cell? ⟨b, 0, none⟩ = some lv ∧ w.cell? ⟨b, 1, none⟩ = some (.bool bad) ∧ ∀ o, w.frozen? ⟨b, o, none⟩ = false := by
  have := h.1
  refine ⟨?_, ?_, fun o => ?_⟩ <;> simp [World.cell?, World.frozen?, this]
theorem Rd.below {w w' : World} {b : Nat} {lv : Value} {zs : List Int} {bad : Bool} (h : Rd w b lv zs bad) (hb : Below w.heap.size w w') : Rd w' b lv zs bad :=
  ⟨(hb.block b h.lt).trans h.1, Row.below h.2.1 hb, h.2.2⟩

theorem setCell_grown (w : World) (a : Addr) (v : Value) : w.grownBy (w.setCell a v) (some a.block) :=
  ⟨rfl, rfl, rfl, by simp, fun k _ hk => Below.heap_setCell w a v k (fun e => hk (by rw [e]))⟩

theorem _root_.Go.Proofs.YtdhdbmfipkppiaaGreat.Ints.setCell {w : World} {k : IntKind} {v : Value} {zs : List Int} (h : Ints k w v zs) {b : Nat} (hb : zs = [] ∨ v.ownBlock ≠ some b) (o : Nat) (u : Value) : Ints k (w.setCell ⟨b, o, none⟩ u) v zs := by
  rcases hb with rfl | hb
  · obtain ⟨A, c, e, h1, h2, h3, _⟩ := h
    exact ⟨A, c, e, h1, h2, h3, At.nil _ _⟩
  · exact Row.setCell h hb o u

theorem _root_.Go.Proofs.YtdhdbmfipkppiaaGreat.Ints.grown2 {w w' : World} {k : IntKind} {v : Value} {zs : List Int} (h : Ints k w v zs) {row : Option Nat} (hg : w.grownBy w' row) (hb : zs = [] ∨ v.ownBlock = none ∨ v.ownBlock ≠ row) : Ints k w' v zs := by
  rcases hb with rfl | hb
  · obtain ⟨A, c, e, h1, h2, h3, _⟩ := h
    exact ⟨A, c, e, h1, h2, h3, At.nil _ _⟩
  · exact Row.grown h hg hb

theorem _root_.Go.Proofs.YtdhdbmfipkppiaaGreat.Ints.lt {w : World} {k : IntKind} {v : Value} {zs : List Int} (h : Ints k w v zs) : zs = [] ∨ ∀ j, v.ownBlock = some j → j < w.heap.size := by
  cases zs with
  | nil => exact Or.inl rfl
  | cons z zs =>
    obtain ⟨j, h1, h2⟩ := Row.lt h (by simp)
    exact Or.inr fun i hi => by rw [h1] at hi; cases hi; exact h2

theorem setRow_grown (w : World) (g : Nat) (cs : Array Value) : w.grownBy (w.setRow g cs) (some g) := ⟨rfl, rfl, rfl, by simp, fun k _ hk => setRow_other w g k cs (fun e => hk (by rw [e]))⟩

theorem Rd.bad {w : World} {b : Nat} {lv : Value} {zs : List Int} {bad : Bool} (h : Rd w b lv zs bad) : Rd (w.setCell ⟨b, 1, none⟩ (.bool true)) b lv zs true := by
  obtain ⟨h1, h2, h3, h4⟩ := h
  refine ⟨?_, Ints.setCell h2 h4 1 _, h3, h4⟩
  simp [World.setCell, Array.getElem?_modify, h1]

theorem Rd.left {w : World} {b : Nat} {lv lv' : Value} {zs zs' : List Int} {bad : Bool} (h : Rd w b lv zs bad) (h2 : Ints .u8 w lv' zs') (h3 : ∀ z ∈ zs', 0 ≤ z ∧ z ≤ 255) (h4 : zs' = [] ∨ lv'.ownBlock ≠ some b) : Rd (w.setCell ⟨b, 0, none⟩ lv') b lv' zs' bad := by
  refine ⟨?_, Ints.setCell h2 h4 0 _, h3, h4⟩
  have h1 := h.1
  simp [World.setCell, Array.getElem?_modify, h1]

theorem numOf_snoc (l : List Int) (c : Int) : numOf (l ++ [c]) = 256 * numOf l + c := by
  unfold numOf
  rw [List.foldl_append]
  rfl
theorem numOf_range (n : Nat) : ∀ (l : List Int), l.length = n → (∀ z ∈ l, 0 ≤ z ∧ z ≤ 255) → 0 ≤ numOf l ∧ numOf l < 256 ^ n := by
  induction n with
  | zero =>
    intro l h _
    obtain rfl := List.eq_nil_of_length_eq_zero h
    exact ⟨by decide, by decide⟩
  | succ n ih =>
    intro l h hz
    have hne : l ≠ [] := by intro e; rw [e] at h; cases h
    have e := List.dropLast_concat_getLast hne
    have h1 := ih l.dropLast (by rw [List.length_dropLast, h]; rfl) (fun z hm => hz z (List.dropLast_subset l hm))
    have h2 := hz _ (List.getLast_mem hne)
    rw [← e, numOf_snoc, Int.pow_succ]
    omega

theorem i64_or_nat (a b : Nat) (ha : a < 2 ^ 62) (hb : b < 2 ^ 62) : bits .or .i64 (a : Int) (b : Int) = ((a ||| b : Nat) : Int) := by
  have h := Nat.or_lt_two_pow ha hb
  show IntKind.i64.wrap ((BitVec.ofInt 64 (a : Int) ||| BitVec.ofInt 64 (b : Int)).toNat : Int) = _
  rw [BitVec.toNat_or, BitVec.ofInt_natCast, BitVec.ofInt_natCast, BitVec.toNat_ofNat, BitVec.toNat_ofNat, Nat.mod_eq_of_lt (by omega), Nat.mod_eq_of_lt (by omega), IntKind.wrap_i64]
  omega

theorem or_byte (x c : Int) (h1 : 0 ≤ x) (h2 : x < 1099511627776) (h3 : 0 ≤ c) (h4 : c ≤ 255) : bits .or .i64 (x * 256) c = 256 * x + c := by
  obtain ⟨a, rfl⟩ := Int.eq_ofNat_of_zero_le h1
  obtain ⟨b, rfl⟩ := Int.eq_ofNat_of_zero_le h3
  have e := i64_or_nat (a * 256) b (by omega) (by omega)
  rw [show ((a : Int) * 256) = ((a * 256 : Nat) : Int) from by omega, e]
  have e2 : a * 256 ||| b = a * 256 + b := by
    have := Nat.shiftLeft_add_eq_or_of_lt (i := 8) (b := b) (by omega) a
    rw [Nat.shiftLeft_eq] at this
    exact this.symm
  rw [e2]
  omega

/-- What number answers, and what it leaves. -/
def NumPost (b : Nat) (lv : Value) (zs : List Int) (bad : Bool) (n : Nat) (w : World) (e : Ending) (w' : World) : Prop :=
  if n ≤ zs.length then e = .returned (.int .i64 (numOf (zs.take n))) ∧ (∃ lv', Rd w' b lv' (zs.drop n) bad ∧ lv'.ownBlock = lv.ownBlock) ∧ w.grownBy w' (some b)
  else e = .returned (.int .i64 0) ∧ (∃ lv', Rd w' b lv' zs true ∧ lv'.ownBlock = lv.ownBlock) ∧ w.grownBy w' (some b)

set_option maxHeartbeats 1600000 in
theorem number_calls (b : Nat) (lv : Value) (zs : List Int) (bad : Bool) (n : Nat) (w : World) (hr : Rd w b lv zs bad) (hn : n ≤ 4) :
    Calls Tryz.prog 33 #[.pointer (some ⟨b, 0, none⟩), .int .i64 n] w (NumPost b lv zs bad n w) := by
  obtain ⟨A, c, rfl, hlc, hcm, _⟩ := id hr.2.1.form
  unfold maxLen at hcm
  obtain ⟨c0, c1, hf⟩ := hr.cells
  have f0 := hf 0
  have f1 := hf 1
  clear hf
  by_cases hlt : zs.length < n
  · have hp : ∀ e w', NumPost b (.slice A zs.length c) zs bad n w e w' ↔ (e = .returned (.int .i64 0) ∧ (∃ lv', Rd w' b lv' zs true ∧ lv'.ownBlock = (Value.slice A zs.length c).ownBlock) ∧ w.grownBy w' (some b)) := fun e w' => by unfold NumPost; rw [if_neg (by omega)]
    have HP := Lib.hid hp
    clear hp
    generalize NumPost b (.slice A zs.length c) zs bad n w = R at *
    go_enter Tryz.func33, Tryz.ntmps33
    go_wp2_with fail
    refine (HP.out _ _).2 ⟨rfl, ⟨_, hr.bad, rfl⟩, setCell_grown w _ _⟩
  · have hge : n ≤ zs.length := by omega
    have hp : ∀ e w', NumPost b (.slice A zs.length c) zs bad n w e w' ↔ (e = .returned (.int .i64 (numOf (zs.take n))) ∧ (∃ lv', Rd w' b lv' (zs.drop n) bad ∧ lv'.ownBlock = (Value.slice A zs.length c).ownBlock) ∧ w.grownBy w' (some b)) := fun e w' => by unfold NumPost; rw [if_pos hge]
    have HP := Lib.hid hp
    clear hp
    generalize NumPost b (.slice A zs.length c) zs bad n w = R at *
    have hz := hr.2.2.1
    go_enter Tryz.func33, Tryz.ntmps33
    go_wp2_with fail
    go_loopw [5, 25] (fun x i wr => ∃ k : Nat, k ≤ n ∧ i = .int .i64 k ∧ x = .int .i64 (numOf (zs.take k)) ∧ w = wr) (fun _ i _ => n - (intOf i).toNat)
    case atStart => exact ⟨0, by omega, rfl, rfl, rfl⟩
    case round =>
      obtain ⟨k, hk, rfl, rfl, rfl⟩ := hrel
      by_cases hkl : k < n
      · have hkz : k < zs.length := by omega
        obtain ⟨_, _, e1, _, _, hcells⟩ := hr.2.1.form
        cases e1
        obtain ⟨g, off, rfl, x0⟩ := hcells k hkz
        have HS := Lib.hid (show numOf (zs.take (k + 1)) = 256 * numOf (zs.take k) + zs[k] from by rw [List.take_succ_eq_append_getElem hkz, numOf_snoc])
        have hz1 := hz zs[k] (List.getElem_mem hkz)
        have hr1 := numOf_range k (zs.take k) (by rw [List.length_take]; omega) (fun z hm => hz z (List.mem_of_mem_take hm))
        have hx : zs[k]?.getD 0 = zs[k] := by simp [hkz]
        rw [hx] at x0
        clear hx hcells
        have hb : numOf (zs.take k) < 4294967296 := by
          have : (256 : Int) ^ k ≤ 16777216 := by rcases (by omega : k = 0 ∨ k = 1 ∨ k = 2 ∨ k = 3) with e | e | e | e <;> rw [e] <;> decide
          omega
        have h0 := hr1.1
        clear hr1
        have ho := or_byte (numOf (zs.take k)) zs[k] h0 (by omega) hz1.1 hz1.2
        have h256 : numOf (zs.take k) * 256 < 9223372036854775807 := by omega
        generalize numOf (zs.take k) = x at *
        generalize zs[k] = z at *
        go_wp2_with fail
        go_roundw
        case rel => exact ⟨k + 1, by omega, by go_num, by rw [HS.out], trivial⟩
        case measure => simp [intOf]; omega
      · obtain rfl : k = n := by omega
        have hdz : ∀ z ∈ zs.drop k, 0 ≤ z ∧ z ≤ 255 := fun z hm => hz z (List.mem_of_mem_drop hm)
        have hnb := hr.2.2.2
        obtain ⟨_, _, e1, _, _, _, hat⟩ := hr.2.1
        cases e1
        have hld : (zs.drop k).length = zs.length - k := List.length_drop
        by_cases hc : c = k
        · subst hc
          have hdr : Ints .u8 w (.slice A 0 0) (zs.drop c) := by
            have e : zs.drop c = [] := List.drop_of_length_le (by omega)
            rw [e]
            exact ⟨A, 0, rfl, Nat.le_refl _, by omega, rfl, At.nil _ _⟩
          have hob : (Value.slice A 0 0).ownBlock = (Value.slice A zs.length c).ownBlock := by cases A <;> rfl
          have hR := hr.left hdr hdz (Or.inl (List.drop_of_length_le (by omega)))
          clear hat hld
          go_wp2_with fail
          exact (HP.out _ _).2 ⟨rfl, ⟨_, hR, hob⟩, setCell_grown w _ _⟩
        · have hdr : Ints .u8 w (.slice (A.map fun a => a.add k) (zs.length - k) (c - k)) (zs.drop k) := by
            refine ⟨A.map fun a => a.add k, c - k, by rw [hld], by omega, by unfold maxLen; omega, by simp, fun j u hj => ?_⟩
            rw [List.map_drop, List.getElem?_drop] at hj
            obtain ⟨g, off, rfl, hc⟩ := hat _ _ hj
            refine ⟨g, off + k, ?_, ?_⟩
            · simp only [Option.map_some, Option.some.injEq]
              unfold Addr.add
              split <;> simp_all
            · rw [show off + k + j = off + (k + j) from by omega]
              exact hc
          have hob : (Value.slice (A.map fun a => a.add k) (zs.length - k) (c - k)).ownBlock = (Value.slice A zs.length c).ownBlock := by
            cases A with
            | none => rfl
            | some ad =>
              have hb : (ad.add k).block = ad.block := by unfold Addr.add; split <;> rfl
              simp only [Option.map_some, Value.ownBlock, hb]
          have hR := hr.left hdr hdz (by
            rcases hnb with h | h
            · exact Or.inl (by rw [h]; simp)
            · exact Or.inr (by rw [hob]; exact h))
          clear hat hld
          go_wp2_with fail
          exact (HP.out _ _).2 ⟨rfl, ⟨_, hR, hob⟩, setCell_grown w _ _⟩

end Go.Proofs.YtdhdbmfipkppiaaGreat.Isa

namespace Go.Proofs.YtdhdbmfipkppiaaGreat.Isa
set_option maxRecDepth 10000

theorem mayB_load {c : Cm} (h : c.k = 1 ∨ c.k = 2) : mayB c = true ↔ ((1 ≤ c.r ∧ c.r ≤ 16) ∧ (1 ≤ c.o ∧ c.o ≤ 128) ∧ (0 ≤ c.d ∧ c.d ≤ 65535) ∧ (0 ≤ c.p ∧ c.p ≤ 1023)) ∧ c.s = 0 ∧ c.n = 0 ∧ c.f = 0 ∧ c.i0 = 0 ∧ c.i1 = 0 ∧ c.b0 = 0 ∧ c.b1 = 0 ∧ c.h0 = 0 ∧ c.h1 = 0 := by
  have e : tbl c.k = [⟨4, 1, 1, 16⟩, ⟨5, 2, 1, 128⟩, ⟨6, 3, 0, 65535⟩, ⟨7, 2, 0, 1023⟩] := if_pos h
  have o : okK c.k = true := by unfold okK; rw [decide_eq_true_iff]; omega
  unfold mayB
  rw [e, o]
  simp [runF, Cm.l, Cm.of, and_assoc]

theorem mayB_tile {c : Cm} (h : c.k = 3) : mayB c = true ↔ ((0 ≤ c.n ∧ c.n ≤ 11) ∧ (0 ≤ c.f ∧ c.f ≤ 15) ∧ (1 ≤ c.r ∧ c.r ≤ 16) ∧ (0 ≤ c.p ∧ c.p ≤ 1023) ∧ (0 ≤ c.i0 ∧ c.i0 ≤ 1023) ∧ (0 ≤ c.b0 ∧ c.b0 ≤ 15) ∧ (0 ≤ c.h0 ∧ c.h0 ≤ 16) ∧ (0 ≤ c.i1 ∧ c.i1 ≤ 1023) ∧ (0 ≤ c.b1 ∧ c.b1 ≤ 15) ∧ (0 ≤ c.h1 ∧ c.h1 ≤ 16)) ∧ c.s = 0 ∧ c.o = 0 ∧ c.d = 0 := by
  have e : tbl c.k = [⟨2, 1, 0, 11⟩, ⟨3, 1, 0, 15⟩, ⟨4, 1, 1, 16⟩, ⟨7, 2, 0, 1023⟩, ⟨8, 2, 0, 1023⟩, ⟨10, 1, 0, 15⟩, ⟨12, 1, 0, 16⟩, ⟨9, 2, 0, 1023⟩, ⟨11, 1, 0, 15⟩, ⟨13, 1, 0, 16⟩] := by
    unfold tbl
    rw [if_neg (by omega), if_pos h]
    rfl
  have o : okK c.k = true := by unfold okK; rw [decide_eq_true_iff]; omega
  unfold mayB
  rw [e, o]
  simp [runF, Cm.l, Cm.of, and_assoc]

theorem mayB_kernel {c : Cm} (h : c.k = 4) : mayB c = true ↔ ((0 ≤ c.n ∧ c.n ≤ 11) ∧ (1 ≤ c.r ∧ c.r ≤ 16)) ∧ c.s = 0 ∧ c.f = 0 ∧ c.o = 0 ∧ c.d = 0 ∧ c.p = 0 ∧ c.i0 = 0 ∧ c.i1 = 0 ∧ c.b0 = 0 ∧ c.b1 = 0 ∧ c.h0 = 0 ∧ c.h1 = 0 := by
  have e : tbl c.k = [⟨2, 1, 0, 11⟩, ⟨4, 1, 1, 16⟩] := by
    unfold tbl
    rw [if_neg (by omega), if_neg (by omega), if_pos h]
  have o : okK c.k = true := by unfold okK; rw [decide_eq_true_iff]; omega
  unfold mayB
  rw [e, o]
  simp [runF, Cm.l, Cm.of, and_assoc]

theorem mayB_sem {c : Cm} (h : c.k = 5 ∨ c.k = 6) : mayB c = true ↔ (0 ≤ c.s ∧ c.s ≤ 7) ∧ c.n = 0 ∧ c.f = 0 ∧ c.r = 0 ∧ c.o = 0 ∧ c.d = 0 ∧ c.p = 0 ∧ c.i0 = 0 ∧ c.i1 = 0 ∧ c.b0 = 0 ∧ c.b1 = 0 ∧ c.h0 = 0 ∧ c.h1 = 0 := by
  have e : tbl c.k = [⟨1, 1, 0, 7⟩] := by
    unfold tbl
    rw [if_neg (by omega), if_neg (by omega), if_neg (by omega), if_pos h]
  have o : okK c.k = true := by unfold okK; rw [decide_eq_true_iff]; omega
  unfold mayB
  rw [e, o]
  simp [runF, Cm.l, Cm.of, and_assoc]

theorem mayB_halt {c : Cm} (h : c.k = 7) : mayB c = true ↔ c.s = 0 ∧ c.n = 0 ∧ c.f = 0 ∧ c.r = 0 ∧ c.o = 0 ∧ c.d = 0 ∧ c.p = 0 ∧ c.i0 = 0 ∧ c.i1 = 0 ∧ c.b0 = 0 ∧ c.b1 = 0 ∧ c.h0 = 0 ∧ c.h1 = 0 := by
  have e : tbl c.k = [] := by
    unfold tbl
    rw [if_neg (by omega), if_neg (by omega), if_neg (by omega), if_neg (by omega)]
  have o : okK c.k = true := by unfold okK; rw [decide_eq_true_iff]; omega
  unfold mayB
  rw [e, o]
  simp [runF, Cm.l, Cm.of]

theorem mayB_none {c : Cm} (h : c.k < 1 ∨ 7 < c.k) : mayB c = false := by
  have e : tbl c.k = [] := by
    unfold tbl
    rw [if_neg (by omega), if_neg (by omega), if_neg (by omega), if_neg (by omega)]
  have o : okK c.k = false := by unfold okK; rw [decide_eq_false_iff_not]; omega
  unfold mayB
  rw [e, o]
  rfl

end Go.Proofs.YtdhdbmfipkppiaaGreat.Isa
