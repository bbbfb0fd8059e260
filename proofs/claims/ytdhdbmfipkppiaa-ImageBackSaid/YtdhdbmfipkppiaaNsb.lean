/- The walk of the reader's number. -/
/- The walk of the reader's command. -/
/- The walk of isa.Take. -/
/- Commands as bytes: what was laid down is taken, and what is taken was laid down so. It speaks of no program's text. -/
/- The walk of Same of the reference. -/
import Derived.Test.YtdhdbmfipkppiaaNsaP
import Derived.Test.YtdhdbmfipkppiaaNsaB
import Derived.OwnWalk
namespace Go.Proofs.Ytdhdbmfipkppiaa.Isa
set_option linter.unusedSimpArgs false
set_option linter.unusedVariables false
set_option linter.unnecessarySimpa false
set_option maxRecDepth 10000
open Go.RowKit

/-- A number of bytes, the highest first. -/
def numOf (l : List Int) : Int := l.foldl (fun x c => 256 * x + c) 0

/-- A reader in a block: what is left, and whether it is bad. -/
def Rd (w : World) (b : Nat) (lv : Value) (zs : List Int) (bad : Bool) : Prop :=
  w.heap[b]? = some (.cells #[lv, .bool bad] 156 (0, 0)) ∧ Ints .u8 w lv zs ∧ (∀ z ∈ zs, 0 ≤ z ∧ z ≤ 255) ∧ (zs = [] ∨ lv.ownBlock ≠ some b)

theorem Rd.lt {w : World} {b : Nat} {lv : Value} {zs : List Int} {bad : Bool} (h : Rd w b lv zs bad) : b < w.heap.size := (Array.getElem?_eq_some_iff.1 h.1).1
theorem Rd.cells {w : World} {b : Nat} {lv : Value} {zs : List Int} {bad : Bool} (h : Rd w b lv zs bad) : w.cell? ⟨b, 0, none⟩ = some lv ∧ w.cell? ⟨b, 1, none⟩ = some (.bool bad) ∧ ∀ o, w.frozen? ⟨b, o, none⟩ = false := by
  have := h.1
  refine ⟨?_, ?_, fun o => ?_⟩ <;> simp [World.cell?, World.frozen?, this]
theorem Rd.below {w w' : World} {b : Nat} {lv : Value} {zs : List Int} {bad : Bool} (h : Rd w b lv zs bad) (hb : Below w.heap.size w w') : Rd w' b lv zs bad :=
  ⟨(hb.block b h.lt).trans h.1, Row.below h.2.1 hb, h.2.2⟩

theorem setCell_grown (w : World) (a : Addr) (v : Value) : w.grownBy (w.setCell a v) (some a.block) :=
  ⟨rfl, rfl, rfl, by simp, fun k _ hk => Below.heap_setCell w a v k (fun e => hk (by rw [e]))⟩

theorem _root_.Go.Proofs.Ytdhdbmfipkppiaa.Ints.setCell {w : World} {k : IntKind} {v : Value} {zs : List Int} (h : Ints k w v zs) {b : Nat} (hb : zs = [] ∨ v.ownBlock ≠ some b) (o : Nat) (u : Value) : Ints k (w.setCell ⟨b, o, none⟩ u) v zs := by
  rcases hb with rfl | hb
  · obtain ⟨A, c, e, h1, h2, h3, _⟩ := h
    exact ⟨A, c, e, h1, h2, h3, At.nil _ _⟩
  · exact Row.setCell h hb o u

theorem _root_.Go.Proofs.Ytdhdbmfipkppiaa.Ints.grown2 {w w' : World} {k : IntKind} {v : Value} {zs : List Int} (h : Ints k w v zs) {row : Option Nat} (hg : w.grownBy w' row) (hb : zs = [] ∨ v.ownBlock = none ∨ v.ownBlock ≠ row) : Ints k w' v zs := by
  rcases hb with rfl | hb
  · obtain ⟨A, c, e, h1, h2, h3, _⟩ := h
    exact ⟨A, c, e, h1, h2, h3, At.nil _ _⟩
  · exact Row.grown h hg hb

theorem _root_.Go.Proofs.Ytdhdbmfipkppiaa.Ints.lt {w : World} {k : IntKind} {v : Value} {zs : List Int} (h : Ints k w v zs) : zs = [] ∨ ∀ j, v.ownBlock = some j → j < w.heap.size := by
  cases zs with
  | nil => exact Or.inl rfl
  | cons z zs =>
    obtain ⟨j, h1, h2⟩ := Row.lt h (by simp)
    exact Or.inr fun i hi => by rw [h1] at hi; cases hi; exact h2

theorem setRow_grown (w : World) (g : Nat) (cs : Array Value) : w.grownBy (w.setRow g cs) (some g) := ⟨rfl, rfl, rfl, by simp, fun k _ hk => setRow_other w g k cs (fun e => hk (by rw [e]))⟩

theorem Rd.bad {w : World} {b : Nat} {lv : Value} {zs : List Int} {bad : Bool} (h : Rd w b lv zs bad) : Rd (w.setCell ⟨b, 1, none⟩ (.bool true)) b lv zs true := by
  obtain ⟨h1, h2, h3, h4⟩ := h
  refine ⟨?_, Ints.setCell h2 h4 1 _, h3, h4⟩
  simp [World.setCell, Array.getElem?_modify, h1]

theorem Rd.left {w : World} {b : Nat} {lv lv' : Value} {zs zs' : List Int} {bad : Bool} (h : Rd w b lv zs bad) (h2 : Ints .u8 w lv' zs') (h3 : ∀ z ∈ zs', 0 ≤ z ∧ z ≤ 255) (h4 : zs' = [] ∨ lv'.ownBlock ≠ some b) : Rd (w.setCell ⟨b, 0, none⟩ lv') b lv' zs' bad := by
  refine ⟨?_, Ints.setCell h2 h4 0 _, h3, h4⟩
  have h1 := h.1
  simp [World.setCell, Array.getElem?_modify, h1]

theorem numOf_snoc (l : List Int) (c : Int) : numOf (l ++ [c]) = 256 * numOf l + c := by
  unfold numOf
  rw [List.foldl_append]
  rfl
theorem numOf_range (n : Nat) : ∀ (l : List Int), l.length = n → (∀ z ∈ l, 0 ≤ z ∧ z ≤ 255) → 0 ≤ numOf l ∧ numOf l < 256 ^ n := by
  induction n with
  | zero =>
    intro l h _
    obtain rfl := List.eq_nil_of_length_eq_zero h
    exact ⟨by decide, by decide⟩
  | succ n ih =>
    intro l h hz
    have hne : l ≠ [] := by intro e; rw [e] at h; cases h
    have e := List.dropLast_concat_getLast hne
    have h1 := ih l.dropLast (by rw [List.length_dropLast, h]; rfl) (fun z hm => hz z (List.dropLast_subset l hm))
    have h2 := hz _ (List.getLast_mem hne)
    rw [← e, numOf_snoc, Int.pow_succ]
    omega

theorem i64_or_nat (a b : Nat) (ha : a < 2 ^ 62) (hb : b < 2 ^ 62) : bits .or .i64 (a : Int) (b : Int) = ((a ||| b : Nat) : Int) := by
  have h := Nat.or_lt_two_pow ha hb
  show IntKind.i64.wrap ((BitVec.ofInt 64 (a : Int) ||| BitVec.ofInt 64 (b : Int)).toNat : Int) = _
  rw [BitVec.toNat_or, BitVec.ofInt_natCast, BitVec.ofInt_natCast, BitVec.toNat_ofNat, BitVec.toNat_ofNat, Nat.mod_eq_of_lt (by omega), Nat.mod_eq_of_lt (by omega), IntKind.wrap_i64]
  omega

theorem or_byte (x c : Int) (h1 : 0 ≤ x) (h2 : x < 1099511627776) (h3 : 0 ≤ c) (h4 : c ≤ 255) : bits .or .i64 (x * 256) c = 256 * x + c := by
  obtain ⟨a, rfl⟩ := Int.eq_ofNat_of_zero_le h1
  obtain ⟨b, rfl⟩ := Int.eq_ofNat_of_zero_le h3
  have e := i64_or_nat (a * 256) b (by omega) (by omega)
  rw [show ((a : Int) * 256) = ((a * 256 : Nat) : Int) from by omega, e]
  have e2 : a * 256 ||| b = a * 256 + b := by
    have := Nat.shiftLeft_add_eq_or_of_lt (i := 8) (b := b) (by omega) a
    rw [Nat.shiftLeft_eq] at this
    exact this.symm
  rw [e2]
  omega

/-- What number answers, and what it leaves. -/
def NumPost (b : Nat) (lv : Value) (zs : List Int) (bad : Bool) (n : Nat) (w : World) (e : Ending) (w' : World) : Prop :=
  if n ≤ zs.length then e = .returned (.int .i64 (numOf (zs.take n))) ∧ (∃ lv', Rd w' b lv' (zs.drop n) bad ∧ lv'.ownBlock = lv.ownBlock) ∧ w.grownBy w' (some b)
  else e = .returned (.int .i64 0) ∧ (∃ lv', Rd w' b lv' zs true ∧ lv'.ownBlock = lv.ownBlock) ∧ w.grownBy w' (some b)

set_option maxHeartbeats 1600000 in
theorem number_calls (b : Nat) (lv : Value) (zs : List Int) (bad : Bool) (n : Nat) (w : World) (hr : Rd w b lv zs bad) (hn : n ≤ 4) :
    Calls Try.prog 117 #[.pointer (some ⟨b, 0, none⟩), .int .i64 n] w (NumPost b lv zs bad n w) := by
  obtain ⟨A, c, rfl, hlc, hcm, _⟩ := id hr.2.1.form
  unfold maxLen at hcm
  obtain ⟨c0, c1, hf⟩ := hr.cells
  have f0 := hf 0
  have f1 := hf 1
  clear hf
  by_cases hlt : zs.length < n
  · have hp : ∀ e w', NumPost b (.slice A zs.length c) zs bad n w e w' ↔ (e = .returned (.int .i64 0) ∧ (∃ lv', Rd w' b lv' zs true ∧ lv'.ownBlock = (Value.slice A zs.length c).ownBlock) ∧ w.grownBy w' (some b)) := fun e w' => by unfold NumPost; rw [if_neg (by omega)]
    have HP := Lib.hid hp
    clear hp
    generalize NumPost b (.slice A zs.length c) zs bad n w = R at *
    go_enter Try.func117, Try.ntmps117
    go_wp2_with fail
    refine (HP.out _ _).2 ⟨rfl, ⟨_, hr.bad, rfl⟩, setCell_grown w _ _⟩
  · have hge : n ≤ zs.length := by omega
    have hp : ∀ e w', NumPost b (.slice A zs.length c) zs bad n w e w' ↔ (e = .returned (.int .i64 (numOf (zs.take n))) ∧ (∃ lv', Rd w' b lv' (zs.drop n) bad ∧ lv'.ownBlock = (Value.slice A zs.length c).ownBlock) ∧ w.grownBy w' (some b)) := fun e w' => by unfold NumPost; rw [if_pos hge]
    have HP := Lib.hid hp
    clear hp
    generalize NumPost b (.slice A zs.length c) zs bad n w = R at *
    have hz := hr.2.2.1
    go_enter Try.func117, Try.ntmps117
    go_wp2_with fail
    go_loopw [5, 25] (fun x i wr => ∃ k : Nat, k ≤ n ∧ i = .int .i64 k ∧ x = .int .i64 (numOf (zs.take k)) ∧ w = wr) (fun _ i _ => n - (intOf i).toNat)
    case atStart => exact ⟨0, by omega, rfl, rfl, rfl⟩
    case round =>
      obtain ⟨k, hk, rfl, rfl, rfl⟩ := hrel
      by_cases hkl : k < n
      · have hkz : k < zs.length := by omega
        obtain ⟨_, _, e1, _, _, hcells⟩ := hr.2.1.form
        cases e1
        obtain ⟨g, off, rfl, x0⟩ := hcells k hkz
        have HS := Lib.hid (show numOf (zs.take (k + 1)) = 256 * numOf (zs.take k) + zs[k] from by rw [List.take_succ_eq_append_getElem hkz, numOf_snoc])
        have hz1 := hz zs[k] (List.getElem_mem hkz)
        have hr1 := numOf_range k (zs.take k) (by rw [List.length_take]; omega) (fun z hm => hz z (List.mem_of_mem_take hm))
        have hx : zs[k]?.getD 0 = zs[k] := by simp [hkz]
        rw [hx] at x0
        clear hx hcells
        have hb : numOf (zs.take k) < 4294967296 := by
          have : (256 : Int) ^ k ≤ 16777216 := by rcases (by omega : k = 0 ∨ k = 1 ∨ k = 2 ∨ k = 3) with e | e | e | e <;> rw [e] <;> decide
          omega
        have h0 := hr1.1
        clear hr1
        have ho := or_byte (numOf (zs.take k)) zs[k] h0 (by omega) hz1.1 hz1.2
        have h256 : numOf (zs.take k) * 256 < 9223372036854775807 := by omega
        generalize numOf (zs.take k) = x at *
        generalize zs[k] = z at *
        go_wp2_with fail
        go_roundw
        case rel => exact ⟨k + 1, by omega, by go_num, by rw [HS.out], trivial⟩
        case measure => simp [intOf]; omega
      · obtain rfl : k = n := by omega
        have hdz : ∀ z ∈ zs.drop k, 0 ≤ z ∧ z ≤ 255 := fun z hm => hz z (List.mem_of_mem_drop hm)
        have hnb := hr.2.2.2
        obtain ⟨_, _, e1, _, _, _, hat⟩ := hr.2.1
        cases e1
        have hld : (zs.drop k).length = zs.length - k := List.length_drop
        by_cases hc : c = k
        · subst hc
          have hdr : Ints .u8 w (.slice A 0 0) (zs.drop c) := by
            have e : zs.drop c = [] := List.drop_of_length_le (by omega)
            rw [e]
            exact ⟨A, 0, rfl, Nat.le_refl _, by omega, rfl, At.nil _ _⟩
          have hob : (Value.slice A 0 0).ownBlock = (Value.slice A zs.length c).ownBlock := by cases A <;> rfl
          have hR := hr.left hdr hdz (Or.inl (List.drop_of_length_le (by omega)))
          clear hat hld
          go_wp2_with fail
          exact (HP.out _ _).2 ⟨rfl, ⟨_, hR, hob⟩, setCell_grown w _ _⟩
        · have hdr : Ints .u8 w (.slice (A.map fun a => a.add k) (zs.length - k) (c - k)) (zs.drop k) := by
            refine ⟨A.map fun a => a.add k, c - k, by rw [hld], by omega, by unfold maxLen; omega, by simp, fun j u hj => ?_⟩
            rw [List.map_drop, List.getElem?_drop] at hj
            obtain ⟨g, off, rfl, hc⟩ := hat _ _ hj
            refine ⟨g, off + k, ?_, ?_⟩
            · simp only [Option.map_some, Option.some.injEq]
              unfold Addr.add
              split <;> simp_all
            · rw [show off + k + j = off + (k + j) from by omega]
              exact hc
          have hob : (Value.slice (A.map fun a => a.add k) (zs.length - k) (c - k)).ownBlock = (Value.slice A zs.length c).ownBlock := by
            cases A with
            | none => rfl
            | some ad =>
              have hb : (ad.add k).block = ad.block := by unfold Addr.add; split <;> rfl
              simp only [Option.map_some, Value.ownBlock, hb]
          have hR := hr.left hdr hdz (by
            rcases hnb with h | h
            · exact Or.inl (by rw [h]; simp)
            · exact Or.inr (by rw [hob]; exact h))
          clear hat hld
          go_wp2_with fail
          exact (HP.out _ _).2 ⟨rfl, ⟨_, hR, hob⟩, setCell_grown w _ _⟩

end Go.Proofs.Ytdhdbmfipkppiaa.Isa

namespace Go.Proofs.Ytdhdbmfipkppiaa.Isa
set_option linter.unusedSimpArgs false
set_option linter.unusedVariables false
set_option linter.unnecessarySimpa false
set_option maxRecDepth 10000
open Go.RowKit

def numStep (zs : List Int) (bad : Bool) (n : Nat) : Int × List Int × Bool := if n ≤ zs.length then (numOf (zs.take n), zs.drop n, bad) else (0, zs, true)

def NumPost2 (b : Nat) (lv : Value) (q : Int × List Int × Bool) (w : World) (e : Ending) (w' : World) : Prop := e = .returned (.int .i64 q.1) ∧ (∃ lv', Rd w' b lv' q.2.1 q.2.2 ∧ lv'.ownBlock = lv.ownBlock) ∧ w.grownBy w' (some b)

theorem number_step (b : Nat) (lv : Value) (zs : List Int) (bad : Bool) (n : Nat) (w : World) (hr : Rd w b lv zs bad) (hn : n ≤ 4) :
    Calls Try.prog 117 #[.pointer (some ⟨b, 0, none⟩), .int .i64 n] w (NumPost2 b lv (numStep zs bad n) w) := by
  refine (number_calls b lv zs bad n w hr hn).mono fun e w' h => ?_
  unfold NumPost at h
  unfold NumPost2 numStep
  split at h
  · rename_i hc
    rw [if_pos hc]
    exact h
  · rename_i hc
    rw [if_neg hc]
    exact h

/-- The numbers of a command are read, one field after the other. -/
def readF (zs : List Int) (bad : Bool) (cs : List Int) : List Fd → List Int × Bool × List Int
  | [] => (zs, bad, cs)
  | x :: l => readF (numStep zs bad x.wide).2.1 (numStep zs bad x.wide).2.2 (cs.set x.at_ (numStep zs bad x.wide).1) l

/-- The next command: what is left, whether the reader is bad, the command, whether it is one. -/
def cmdStep (zs : List Int) (bad : Bool) : List Int × Bool × List Int × Int :=
  let q := numStep zs bad 1
  let r := readF q.2.1 q.2.2 (Cm.of q.1).l (tbl q.1)
  (r.1, r.2.1, r.2.2, q.1)

/-- What command answers, and what it leaves. -/
def CmdPost (b : Nat) (lv : Value) (zs : List Int) (bad : Bool) (w : World) (e : Ending) (w' : World) : Prop :=
  ∃ c : Cm, c.l = (cmdStep zs bad).2.2.1 ∧ e = .returned (.tuple #[c.v, .bool (okK (cmdStep zs bad).2.2.2 && !(cmdStep zs bad).2.1 && mayB c)]) ∧ (∃ lv', Rd w' b lv' (cmdStep zs bad).1 (cmdStep zs bad).2.1 ∧ lv'.ownBlock = lv.ownBlock) ∧ w.grownBy w' (some b)

theorem cm_one (c : Cm) : ((#[.int .i64 c.k, .int .i64 c.s, .int .i64 c.n, .int .i64 c.f, .int .i64 c.r, .int .i64 c.o, .int .i64 c.d, .int .i64 c.p, .int .i64 c.i0, .int .i64 c.i1, .int .i64 c.b0, .int .i64 c.b1, .int .i64 c.h0, .int .i64 c.h1] : Array Value).all (fun x => x.oneCell')) = true := by simp [Value.oneCell']

theorem load_cmd (W : World) (g : Nat) (c : Cm) (h : CBox W g c.l) : (loadVar 57 ⟨g, 0, none⟩).run Try.prog W = .ok c.v W := by
  have hu : Try.prog.underlying 57 = some (.struct (Try.prog.fieldsOf 57)) := by kernel_rfl
  exact run_loadVar_row W g 57 57 _ (0, 0) _ h hu rfl (by kernel_rfl)

theorem numStep_le (zs : List Int) (bad : Bool) (n : Nat) : (numStep zs bad n).2.1.length ≤ zs.length := by
  unfold numStep
  split
  · simp
  · exact Nat.le_refl _

theorem Rd.grown {w w' : World} {b : Nat} {lv : Value} {zs : List Int} {bad : Bool} (h : Rd w b lv zs bad) {row : Option Nat} (hg : w.grownBy w' row) (h1 : some b ≠ row) (h2 : zs = [] ∨ lv.ownBlock = none ∨ lv.ownBlock ≠ row) : Rd w' b lv zs bad :=
  ⟨(hg.block b h.lt h1).trans h.1, Ints.grown2 h.2.1 hg h2, h.2.2⟩
theorem Rd.setCell {w : World} {b : Nat} {lv : Value} {zs : List Int} {bad : Bool} (h : Rd w b lv zs bad) {B : Nat} (h1 : b ≠ B) (h2 : zs = [] ∨ lv.ownBlock ≠ some B) (o : Nat) (u : Value) : Rd (w.setCell ⟨B, o, none⟩ u) b lv zs bad := by
  refine ⟨?_, Ints.setCell h.2.1 h2 o u, h.2.2⟩
  rw [Below.heap_setCell w _ _ _ (by simpa using h1)]
  exact h.1

theorem grown_comp {w w1 w2 : World} {b g : Nat} (h : w.grownBy w1 (some b)) (k : w1.grownBy w2 (some g)) (hg : w.heap.size ≤ g) : w.grownBy w2 (some b) :=
  ⟨k.os.trans h.os, k.tape.trans h.tape, k.output.trans h.output, Nat.le_trans h.size k.size, fun x hx hr => (k.block x (Nat.lt_of_lt_of_le hx h.size) (fun e => by have := Option.some.inj e; omega)).trans (h.block x hx hr)⟩

/-- The end of command: the result is laid down. -/
theorem cmd_end (W : World) (g b B : Nat) (c : Cm) (lj : Value) (zj : List Int) (bj : Bool) (hbz : CBox W g [0, 0, 0, 0, 0, 0, 0, 0, 0, 0, 0, 0, 0, 0]) (hrd : Rd W b lj zj bj) (hgb : g ≠ b) (hgB : g ≠ B) (hB : B < W.heap.size) (hk : zj = [] ∨ ∀ j, lj.ownBlock = some j → j < g) :
    CBox (W.setRow g #[.int .i64 c.k, .int .i64 c.s, .int .i64 c.n, .int .i64 c.f, .int .i64 c.r, .int .i64 c.o, .int .i64 c.d, .int .i64 c.p, .int .i64 c.i0, .int .i64 c.i1, .int .i64 c.b0, .int .i64 c.b1, .int .i64 c.h0, .int .i64 c.h1]) g c.l ∧ Rd (W.setRow g #[.int .i64 c.k, .int .i64 c.s, .int .i64 c.n, .int .i64 c.f, .int .i64 c.r, .int .i64 c.o, .int .i64 c.d, .int .i64 c.p, .int .i64 c.i0, .int .i64 c.i1, .int .i64 c.b0, .int .i64 c.b1, .int .i64 c.h0, .int .i64 c.h1]) b lj zj bj ∧ W.grownBy (W.setRow g #[.int .i64 c.k, .int .i64 c.s, .int .i64 c.n, .int .i64 c.f, .int .i64 c.r, .int .i64 c.o, .int .i64 c.d, .int .i64 c.p, .int .i64 c.i0, .int .i64 c.i1, .int .i64 c.b0, .int .i64 c.b1, .int .i64 c.h0, .int .i64 c.h1]) (some g) ∧ Keeps [B, b] W (W.setRow g #[.int .i64 c.k, .int .i64 c.s, .int .i64 c.n, .int .i64 c.f, .int .i64 c.r, .int .i64 c.o, .int .i64 c.d, .int .i64 c.p, .int .i64 c.i0, .int .i64 c.i1, .int .i64 c.b0, .int .i64 c.b1, .int .i64 c.h0, .int .i64 c.h1]) := by
  have hst := setRow_grown W g #[.int .i64 c.k, .int .i64 c.s, .int .i64 c.n, .int .i64 c.f, .int .i64 c.r, .int .i64 c.o, .int .i64 c.d, .int .i64 c.p, .int .i64 c.i0, .int .i64 c.i1, .int .i64 c.b0, .int .i64 c.b1, .int .i64 c.h0, .int .i64 c.h1]
  refine ⟨setRow_heap W g _ _ _ _ hbz, Rd.grown hrd hst (fun e => by have := Option.some.inj e; omega) ?_, hst, Keeps.grown hst (fun k hk => ?_)⟩
  · rcases hk with h | h
    · exact Or.inl h
    · cases hq : lj.ownBlock with
      | none => exact Or.inr (Or.inl rfl)
      | some k => exact Or.inr (Or.inr (fun e => by have := Option.some.inj e; have := h _ hq; omega))
  · simp only [List.mem_cons, List.not_mem_nil, or_false] at hk
    rcases hk with rfl | rfl
    · exact ⟨hB, fun e => by have := Option.some.inj e; omega⟩
    · exact ⟨hrd.lt, fun e => by have := Option.some.inj e; omega⟩

set_option maxHeartbeats 3200000 in
theorem command_calls (b : Nat) (lv : Value) (zs : List Int) (bad : Bool) (w : World) (hr : Rd w b lv zs bad) :
    Calls Try.prog 118 #[.pointer (some ⟨b, 0, none⟩)] w (CmdPost b lv zs bad w) := by
  have hP : ∀ e w', (∃ c : Cm, c.l = (cmdStep zs bad).2.2.1 ∧ e = .returned (.tuple #[c.v, .bool (okK (cmdStep zs bad).2.2.2 && !(cmdStep zs bad).2.1 && mayB c)]) ∧ (∃ lv', Rd w' b lv' (cmdStep zs bad).1 (cmdStep zs bad).2.1 ∧ lv'.ownBlock = lv.ownBlock) ∧ w.grownBy w' (some b)) → CmdPost b lv zs bad w e w' := fun e w' h => h
  have HP := Lib.hid hP
  clear hP
  have HC : Hid (cmdStep zs bad = ((readF (numStep zs bad 1).2.1 (numStep zs bad 1).2.2 (Cm.of (numStep zs bad 1).1).l (tbl (numStep zs bad 1).1)).1, (readF (numStep zs bad 1).2.1 (numStep zs bad 1).2.2 (Cm.of (numStep zs bad 1).1).l (tbl (numStep zs bad 1).1)).2.1, (readF (numStep zs bad 1).2.1 (numStep zs bad 1).2.2 (Cm.of (numStep zs bad 1).1).l (tbl (numStep zs bad 1).1)).2.2, (numStep zs bad 1).1)) := rfl
  generalize CmdPost b lv zs bad w = R at *
  generalize cmdStep zs bad = cst at *
  have hblt := hr.lt
  have hba := below_alloc (Below.refl w.heap.size w) (Nat.le_refl _) (.cells #[.int .i64 0, .int .i64 0, .int .i64 0, .int .i64 0, .int .i64 0, .int .i64 0, .int .i64 0, .int .i64 0, .int .i64 0, .int .i64 0, .int .i64 0, .int .i64 0, .int .i64 0, .int .i64 0] 57)
  have hbz := cbox_new w (Cm.of 0)
  have hr0 := hr.below hba
  have hn := number_step b lv zs bad 1 _ hr0 (by omega)
  have hz0 : w.heap.size < (w.alloc (.cells #[.int .i64 0, .int .i64 0, .int .i64 0, .int .i64 0, .int .i64 0, .int .i64 0, .int .i64 0, .int .i64 0, .int .i64 0, .int .i64 0, .int .i64 0, .int .i64 0, .int .i64 0, .int .i64 0] 57)).heap.size := by simp
  simp only [Cm.of] at hbz
  go_enter Try.func118, Try.ntmps118
  go_wp2_with fail
  generalize w.alloc _ = w0 at *
  refine hn.mono ?_
  rintro e w1 ⟨rfl, ⟨lv1, hr1, ho1⟩, hg1⟩
  have hle1 := numStep_le zs bad 1
  have hkey := hr.2.1.lt
  generalize numStep zs bad 1 = q at *
  obtain ⟨z, zs1, bad1⟩ := q
  simp only at hr1 hle1
  have hkey1 : ∀ (zj : List Int) (lv' : Value), zj.length ≤ zs1.length → lv'.ownBlock = lv.ownBlock → zj = [] ∨ ∀ j, lv'.ownBlock = some j → j < w.heap.size := fun zj lv' hl ho => by
    rcases hkey with h | h
    · exact Or.inl (List.eq_nil_of_length_eq_zero (by have h2 := Nat.le_trans hl hle1; rw [h] at h2; simpa using h2))
    · exact Or.inr fun j hj => h j (by rw [← ho]; exact hj)
  have HK := Lib.hid hkey1
  clear hkey hkey1 hle1
  have HO := Lib.hid ho1
  clear ho1
  simp only
  have hbz1 : CBox w1 w.heap.size [0, 0, 0, 0, 0, 0, 0, 0, 0, 0, 0, 0, 0, 0] := (hg1.block _ hz0 (fun e => by cases e; omega)).trans hbz
  have hgw1 : w.grownBy w1 (some b) := ⟨hg1.os.trans hba.os, hg1.tape.trans hba.tape, hg1.output.trans hba.output, Nat.le_trans hba.size hg1.size, fun k hk h => (hg1.block k (Nat.lt_of_lt_of_le hk hba.size) h).trans (hba.block k hk)⟩
  have hz1 : w.heap.size < w1.heap.size := Nat.lt_of_lt_of_le hz0 hg1.size
  clear hn hr0 hba hbz hg1 hz0
  have hb2 := below_alloc (Below.refl w1.heap.size w1) (Nat.le_refl _) (.cells #[.int .i64 z, .int .i64 0, .int .i64 0, .int .i64 0, .int .i64 0, .int .i64 0, .int .i64 0, .int .i64 0, .int .i64 0, .int .i64 0, .int .i64 0, .int .i64 0, .int .i64 0, .int .i64 0] 57)
  have hcb := cbox_new w1 (Cm.of z)
  have hr2 := hr1.below hb2
  have hbz2 := hbz1.below hb2 hz1
  have hf := fields_calls w1.heap.size z _ hcb.all.1
  simp only [Cm.of] at hcb hf
  have hcl := hcb.lt
  go_wp2_with fail
  generalize w1.alloc _ = w2 at *
  refine hf.mono ?_
  rintro e w3 ⟨vf, rfl, hrow, hfr, hb3⟩
  have hcb3 := hcb.below hb3 hcl
  have hr3 := hr2.below hb3
  have hbz3 := hbz2.below hb3 (Nat.lt_of_lt_of_le hz1 hb2.size)
  have hgw3 : w.grownBy w3 (some b) := ⟨(hb3.os.trans hb2.os).trans hgw1.os, (hb3.tape.trans hb2.tape).trans hgw1.tape, (hb3.output.trans hb2.output).trans hgw1.output, Nat.le_trans hgw1.size (Nat.le_trans hb2.size hb3.size), fun k hk h => ((hb3.block k (by have := hgw1.size; have := hb2.size; omega)).trans (hb2.block k (by have := hgw1.size; omega))).trans (hgw1.block k hk h)⟩
  have hfb : vf.ownBlock ≠ some b := fun e => by have := hfr _ e; omega
  have hf4 : vf.ownBlock ≠ some w1.heap.size := fun e => by have := hfr _ e; omega
  have hsz3 : w1.heap.size < w3.heap.size := hcb3.lt
  have hat := tbl_at z
  have HCs : Hid (cst = ((readF zs1 bad1 (Cm.of z).l (tbl z)).1, (readF zs1 bad1 (Cm.of z).l (tbl z)).2.1, (readF zs1 bad1 (Cm.of z).l (tbl z)).2.2, z)) := HC.out
  clear HC hf hfr hb3 hcb hr2 hbz2 hb2 hr1 hbz1 hgw1
  have hL14 : Hid ((Cm.of z).l.length = 14) := rfl
  have hLz : Hid ((Cm.of z).l[0]?.getD 0 = z) := rfl
  have hcb3 : CBox w3 w1.heap.size (Cm.of z).l := hcb3
  generalize hL : (Cm.of z).l = L at *
  clear hL
  generalize tbl z = T at *
  have hbB : b < w1.heap.size := by omega
  generalize w1.heap.size = B at *
  obtain ⟨A, cp, rfl, hlc, hcm, _⟩ := fds_form hrow
  unfold maxLen at hcm
  go_wp2_with fail
  go_loopw [18] (fun i wr => ∃ (j : Nat) (lv' : Value) (zj : List Int) (bj : Bool) (cs : List Int), j ≤ T.length ∧ i = .int .i64 j ∧ Hid (readF zj bj cs (T.drop j) = readF zs1 bad1 L T) ∧ Hid (cs.length = 14) ∧ Hid (cs[0]?.getD 0 = z) ∧ CBox wr B cs ∧ CBox wr w.heap.size [0, 0, 0, 0, 0, 0, 0, 0, 0, 0, 0, 0, 0, 0] ∧ Rd wr b lv' zj bj ∧ Hid (zj.length ≤ zs1.length) ∧ Hid (lv'.ownBlock = lv.ownBlock) ∧ Row wr (.slice A T.length cp) T.length 4 (Fds B T) ∧ w.grownBy wr (some b)) (fun i _ => T.length - (intOf i).toNat)
  case atStart => exact ⟨0, lv1, zs1, bad1, L, by omega, rfl, rfl, hL14, hLz, hcb3, hbz3, hr3, Nat.le_refl _, HO.out, hrow, hgw3⟩
  case round =>
    clear hcb3 hbz3 hr3 hrow hgw3
    obtain ⟨j, lj, zj, bj, cs, hj, rfl, hrun, hlen, hz, hcb, hbz, hrd, hzl, hlo, hrow, hgw⟩ := hrel
    by_cases hlt : j < T.length
    · have hx : T[j]? = some T[j] := by simp [hlt]
      obtain ⟨hxa, hxb, hw1, hw3⟩ := hat T[j] (List.getElem_mem hlt)
      obtain ⟨_, _, e1, _, _, hcells⟩ := fds_form hrow
      cases e1
      obtain ⟨g, off, rfl, c0, c1, c2, c3⟩ := hcells j _ hx
      have hgl := World.block_lt_of_cell? wr _ c0
      simp only at hgl
      have HR : Hid (readF (numStep zj bj T[j].wide).2.1 (numStep zj bj T[j].wide).2.2 (cs.set T[j].at_ (numStep zj bj T[j].wide).1) (T.drop (j + 1)) = readF zs1 bad1 L T) := by
        show _ = _
        rw [← hrun.out, List.drop_eq_getElem_cons hlt, readF]
      clear hcells hx hrun
      generalize T[j] = x at *
      have hBlt := hcb.lt
      have hzlt := hbz.lt
      have hb6 := below_alloc (Below.refl wr.heap.size wr) (Nat.le_refl _) (.cells #[.pointer (some ⟨B, x.at_, none⟩), .int .i64 x.wide, .int .i64 x.low, .int .i64 x.high] 146)
      have n0 : (wr.alloc (.cells #[.pointer (some ⟨B, x.at_, none⟩), .int .i64 x.wide, .int .i64 x.low, .int .i64 x.high] 146)).cell? ⟨wr.heap.size, 0, none⟩ = some (.pointer (some ⟨B, x.at_, none⟩)) := by
        rw [cell_of_row _ _ 0 _ _ _ (heap_alloc_new wr _)]; rfl
      have n1 : (wr.alloc (.cells #[.pointer (some ⟨B, x.at_, none⟩), .int .i64 x.wide, .int .i64 x.low, .int .i64 x.high] 146)).cell? ⟨wr.heap.size, 1, none⟩ = some (.int .i64 x.wide) := by
        rw [cell_of_row _ _ 1 _ _ _ (heap_alloc_new wr _)]; rfl
      have hcb6 := hcb.below hb6 hBlt
      have hbz6 := hbz.below hb6 hzlt
      have hrd6 := hrd.below hb6
      have hrow6 := hrow.below hb6
      have hgw6 : w.grownBy (wr.alloc (.cells #[.pointer (some ⟨B, x.at_, none⟩), .int .i64 x.wide, .int .i64 x.low, .int .i64 x.high] 146)) (some b) := ⟨hb6.os.trans hgw.os, hb6.tape.trans hgw.tape, hb6.output.trans hgw.output, Nat.le_trans hgw.size hb6.size, fun k hk h => (hb6.block k (by have := hgw.size; omega)).trans (hgw.block k hk h)⟩
      have hG : wr.heap.size < (wr.alloc (.cells #[.pointer (some ⟨B, x.at_, none⟩), .int .i64 x.wide, .int .i64 x.low, .int .i64 x.high] 146)).heap.size := by simp
      go_wp2_with fail
      clear hb6 c0 c1 c2 c3 hcb hbz hrd hrow hgw
      generalize wr.alloc _ = w6 at *
      generalize wr.heap.size = G at *
      have k0 : ∀ W, Keeps [G] w6 W → W.cell? ⟨G, 0, none⟩ = some (.pointer (some ⟨B, x.at_, none⟩)) := fun W hW => (hW.cell (by simp)).trans n0
      have k1 : ∀ W, Keeps [G] w6 W → W.cell? ⟨G, 1, none⟩ = some (.int .i64 x.wide) := fun W hW => (hW.cell (by simp)).trans n1
      clear n0 n1
      have hn := number_step b lj zj bj x.wide w6.drew ⟨hrd6.1, Row.drew hrd6.2.1, hrd6.2.2⟩ (by omega)
      refine wp_region_S (Keeps [G] w6) [(0, true), (1, true), (2, true), (3, true), (4, true), (5, false), (6, true), (7, false)] (by kernel_rfl) (by kernel_rfl) (fun _ _ d _ _ h => by cases d <;> exact h) (Keeps.drew _ _) ?_
      simp only [pickE, List.getElem?_cons_zero, List.getElem?_cons_succ]
      repeat (refine wpF_pure (by rfl) (fun W hW => by go_simp; with_reducible rfl) ?_; simp only [Act.put, List.setIfInBounds_toArray, List.set_cons_zero, List.set_cons_succ])
      refine wpF_step (by rfl) (fun K hK => ?_)
      go_simp
      refine hn.mono ?_
      rintro e w7 ⟨rfl, ⟨l7, hr7, ho7⟩, hg7⟩
      have hK7 : Keeps [G] w6 w7 := Keeps.trans (Keeps.drew [G] w6) (Keeps.grown hg7 (fun k hk => by
        simp only [List.mem_cons, List.not_mem_nil, or_false] at hk
        subst hk
        exact ⟨hG, fun e => by cases e; omega⟩))
      refine hK _ _ hK7 ?_
      clear hK K hn k0 k1
      have hcb7 : CBox w7 B cs := (hg7.block _ hcb6.lt (fun e => by cases e; omega)).trans hcb6
      have hbz7 : CBox w7 w.heap.size [0, 0, 0, 0, 0, 0, 0, 0, 0, 0, 0, 0, 0, 0] := (hg7.block _ hbz6.lt (fun e => by cases e; omega)).trans hbz6
      have hrow7 := Row.grown (Row.drew hrow6) hg7 (Or.inr (fun e => hfb e))
      have hgw7 : w.grownBy w7 (some b) := ⟨hg7.os.trans hgw6.os, hg7.tape.trans hgw6.tape, hg7.output.trans hgw6.output, Nat.le_trans hgw6.size hg7.size, fun k hk h => (hg7.block k (Nat.lt_of_lt_of_le hk hgw6.size) h).trans (hgw6.block k hk h)⟩
      have hG7 : G < w7.heap.size := Nat.lt_of_lt_of_le hG hg7.size
      have hle := numStep_le zj bj x.wide
      have hzl7 : Hid ((numStep zj bj x.wide).2.1.length ≤ zs1.length) := Nat.le_trans hle hzl.out
      have hlo7 : Hid (l7.ownBlock = lv.ownBlock) := ho7.trans hlo.out
      have hc8 := hcb7.cell (i := x.at_) (by rw [hlen.out]; exact hxa)
      have hf8 := hcb7.frozen x.at_
      clear hcb6 hbz6 hrd6 hrow6 hgw6 hg7 hle ho7 hzl hlo
      generalize numStep zj bj x.wide = q at *
      obtain ⟨y, z7, b7⟩ := q
      simp only at hr7 HR hzl7
      simp only
      have hcb8 := hcb7.set x.at_ y
      have hbz8 := hbz7.other (b' := B) (by omega) x.at_ (.int .i64 y)
      have hrd8 := hr7.setCell (B := B) (by omega) (by
        rcases HK.out z7 l7 hzl7.out hlo7.out with h | h
        · exact Or.inl h
        · exact Or.inr fun e => by have := h _ e; omega) x.at_ (.int .i64 y)
      have hrow8 := hrow7.setCell hf4 x.at_ (.int .i64 y)
      have hgw8 : w.grownBy (w7.setCell ⟨B, x.at_, none⟩ (.int .i64 y)) (some b) := by
        have h1 := setCell_grown w7 ⟨B, x.at_, none⟩ (.int .i64 y)
        exact ⟨h1.os.trans hgw7.os, h1.tape.trans hgw7.tape, h1.output.trans hgw7.output, Nat.le_trans hgw7.size h1.size, fun k hk h => (h1.block k (Nat.lt_of_lt_of_le hk hgw7.size) (fun e => by have := Option.some.inj e; simp only at this; omega)).trans (hgw7.block k hk h)⟩
      repeat (refine wpF_pure (by rfl) (fun W hW => by go_simp; with_reducible rfl) ?_; simp only [Act.put, List.setIfInBounds_toArray, List.set_cons_zero, List.set_cons_succ])
      refine wpF_step (by rfl) (fun K hK => ?_)
      go_simp
      refine hK _ _ ?_ ?_
      · exact hK7.trans (Keeps.grown (setCell_grown w7 ⟨B, x.at_, none⟩ _) (fun k hk => by
          simp only [List.mem_cons, List.not_mem_nil, or_false] at hk
          subst hk
          exact ⟨hG7, fun e => by have := Option.some.inj e; simp only at this; omega⟩))
      clear hK7 hK K hcb7 hbz7 hr7 hrow7 hgw7 hc8 hf8
      refine wpF_nil ?_
      go_wp2_with fail
      go_roundw
      case rel => exact ⟨j + 1, l7, z7, b7, cs.set x.at_ y, by omega, by go_num, HR, by rw [List.length_set]; exact hlen.out, (set_head hxb y).trans hz.out, hcb8, hbz8, hrd8, hzl7.out, hlo7.out, hrow8, hgw8⟩
      case measure => simp [intOf]; omega
    · have HD : Hid (readF zs1 bad1 L T = (zj, bj, cs)) := by
        show _ = _
        rw [← hrun.out, List.drop_of_length_le (by omega), readF]
      obtain ⟨c, rfl⟩ := cm_of_list cs hlen.out
      have HCs2 : Hid (cst = (zj, bj, c.l, z)) := by
        show _ = _
        rw [HCs.out, HD.out]
      clear HD hrun hlen hz HCs hrow hat hL14 hLz
      obtain ⟨y0, y1, y2, y3, y4, y5, y6, y7, y8, y9, y10, y11, y12, y13⟩ := hcb.all
      have hBlt := hcb.lt
      have hzlt := hbz.lt
      have r1 := hrd.cells.2.1
      have hblt2 := hrd.lt
      have kc : ∀ i v, wr.cell? ⟨B, i, none⟩ = some v → ∀ W, Keeps [B, b] wr W → W.cell? ⟨B, i, none⟩ = some v := fun i v h W hW => (hW.cell (by simp)).trans h
      have z0 := kc 0 _ y0
      have z1 := kc 1 _ y1
      have z2 := kc 2 _ y2
      have z3 := kc 3 _ y3
      have z4 := kc 4 _ y4
      have z5 := kc 5 _ y5
      have z6 := kc 6 _ y6
      have z7 := kc 7 _ y7
      have z8 := kc 8 _ y8
      have z9 := kc 9 _ y9
      have z10 := kc 10 _ y10
      have z11 := kc 11 _ y11
      have z12 := kc 12 _ y12
      have z13 := kc 13 _ y13
      have kr : ∀ W, Keeps [B, b] wr W → W.cell? ⟨b, 1, none⟩ = some (.bool bj) := fun W hW => (hW.cell (by simp)).trans r1
      clear kc y0 y1 y2 y3 y4 y5 y6 y7 y8 y9 y10 y11 y12 y13 r1
      have hm := may_calls c wr.drew
      unfold Cm.v at hm
      obtain ⟨ok, hok⟩ : ∃ ok, okK z = ok := ⟨_, rfl⟩
      rw [hok]
      have HOK := Lib.hid hok
      clear hok
      go_wp2_with fail
      cases ok
      · refine wp_region_S (Keeps [B, b] wr) [(0, true), (1, true), (2, true), (3, true), (4, true), (5, true), (6, true), (7, true), (8, true), (9, true), (10, true), (11, false), (12, true), (13, true), (14, false), (15, true)] (by kernel_rfl) (by kernel_rfl) (fun _ _ d _ _ h => by cases d <;> exact h) (Keeps.drew _ _) ?_
        simp only [pickE, List.getElem?_cons_zero, List.getElem?_cons_succ]
        repeat (first
          | (refine wpF_skip (by rfl) ?_; simp only [Act.put, List.setIfInBounds_toArray, List.set_cons_zero, List.set_cons_succ])
          | (refine wpF_pass (by rfl) ?_; simp only [Act.put, List.setIfInBounds_toArray, List.set_cons_zero, List.set_cons_succ])
          | (refine wpF_pure (by rfl) (fun W hW => by go_simp; with_reducible rfl) ?_; simp only [Act.put, List.setIfInBounds_toArray, List.set_cons_zero, List.set_cons_succ]))
        obtain ⟨e1, e2, e3, e4⟩ := cmd_end wr.drew w.heap.size b B c lj zj _ hbz ⟨hrd.1, Row.drew hrd.2.1, hrd.2.2⟩ (by omega) (by omega) hBlt (HK.out zj lj hzl.out hlo.out)
        have e5 := grown_comp (⟨hgw.os, hgw.tape, hgw.output, hgw.size, hgw.block⟩ : w.grownBy wr.drew (some b)) e3 (Nat.le_refl _)
        refine wpF_step (by rfl) (fun K hK => ?_)
        refine wp_store_row 57 _ _ rfl w.heap.size #[.int .i64 c.k, .int .i64 c.s, .int .i64 c.n, .int .i64 c.f, .int .i64 c.r, .int .i64 c.o, .int .i64 c.d, .int .i64 c.p, .int .i64 c.i0, .int .i64 c.i1, .int .i64 c.b0, .int .i64 c.b1, .int .i64 c.h0, .int .i64 c.h1] rfl rfl 57 _ hbz (by kernel_rfl) rfl (cm_one c) ?_
        refine hK _ _ ((Keeps.drew _ _).trans e4) ?_
        clear hK K e3 e4
        generalize wr.drew.setRow w.heap.size _ = wF at *
        simp only [Act.put]
        repeat (refine wpF_pure (by rfl) (fun W hW => by go_simp; with_reducible rfl) ?_; simp only [Act.put, List.setIfInBounds_toArray, List.set_cons_zero, List.set_cons_succ])
        refine wpF_nil ?_
        have hl := load_cmd wF w.heap.size c e1
        go_wp2_with fail
        refine bodyPost_ret (v := .tuple #[c.v, .bool false]) (by simp [results, Try.results118, asAddr, hl]) rfl ?_
        exact HP.out _ _ ⟨c, by rw [HCs2.out], by rw [HCs2.out, HOK.out]; rfl, ⟨lj, by rw [HCs2.out]; exact e2, hlo.out⟩, e5⟩
      · cases bj with
        | true =>
          refine wp_region_S (Keeps [B, b] wr) [(0, true), (1, true), (2, true), (3, true), (4, true), (5, true), (6, true), (7, true), (8, true), (9, true), (10, true), (11, false), (12, true), (13, true), (14, false), (15, true)] (by kernel_rfl) (by kernel_rfl) (fun _ _ d _ _ h => by cases d <;> exact h) (Keeps.drew _ _) ?_
          simp only [pickE, List.getElem?_cons_zero, List.getElem?_cons_succ]
          repeat (first
            | (refine wpF_skip (by rfl) ?_; simp only [Act.put, List.setIfInBounds_toArray, List.set_cons_zero, List.set_cons_succ])
            | (refine wpF_pass (by rfl) ?_; simp only [Act.put, List.setIfInBounds_toArray, List.set_cons_zero, List.set_cons_succ])
            | (refine wpF_pure (by rfl) (fun W hW => by go_simp; with_reducible rfl) ?_; simp only [Act.put, List.setIfInBounds_toArray, List.set_cons_zero, List.set_cons_succ]))
          obtain ⟨e1, e2, e3, e4⟩ := cmd_end wr.drew w.heap.size b B c lj zj _ hbz ⟨hrd.1, Row.drew hrd.2.1, hrd.2.2⟩ (by omega) (by omega) hBlt (HK.out zj lj hzl.out hlo.out)
          have e5 := grown_comp (⟨hgw.os, hgw.tape, hgw.output, hgw.size, hgw.block⟩ : w.grownBy wr.drew (some b)) e3 (Nat.le_refl _)
          refine wpF_step (by rfl) (fun K hK => ?_)
          refine wp_store_row 57 _ _ rfl w.heap.size #[.int .i64 c.k, .int .i64 c.s, .int .i64 c.n, .int .i64 c.f, .int .i64 c.r, .int .i64 c.o, .int .i64 c.d, .int .i64 c.p, .int .i64 c.i0, .int .i64 c.i1, .int .i64 c.b0, .int .i64 c.b1, .int .i64 c.h0, .int .i64 c.h1] rfl rfl 57 _ hbz (by kernel_rfl) rfl (cm_one c) ?_
          refine hK _ _ ((Keeps.drew _ _).trans e4) ?_
          clear hK K e3 e4
          generalize wr.drew.setRow w.heap.size _ = wF at *
          simp only [Act.put]
          repeat (refine wpF_pure (by rfl) (fun W hW => by go_simp; with_reducible rfl) ?_; simp only [Act.put, List.setIfInBounds_toArray, List.set_cons_zero, List.set_cons_succ])
          refine wpF_nil ?_
          have hl := load_cmd wF w.heap.size c e1
          go_wp2_with fail
          refine bodyPost_ret (v := .tuple #[c.v, .bool false]) (by simp [results, Try.results118, asAddr, hl]) rfl ?_
          exact HP.out _ _ ⟨c, by rw [HCs2.out], by rw [HCs2.out, HOK.out]; rfl, ⟨lj, by rw [HCs2.out]; exact e2, hlo.out⟩, e5⟩
        | false =>
          refine wp_region_S (Keeps [B, b] wr) [(0, true), (1, true), (2, true), (3, true), (4, true), (5, true), (6, true), (7, true), (8, true), (9, true), (10, true), (11, false), (12, true), (13, true), (14, false), (15, true)] (by kernel_rfl) (by kernel_rfl) (fun _ _ d _ _ h => by cases d <;> exact h) (Keeps.drew _ _) ?_
          simp only [pickE, List.getElem?_cons_zero, List.getElem?_cons_succ]
          repeat (first
            | (refine wpF_skip (by rfl) ?_; simp only [Act.put, List.setIfInBounds_toArray, List.set_cons_zero, List.set_cons_succ])
            | (refine wpF_pass (by rfl) ?_; simp only [Act.put, List.setIfInBounds_toArray, List.set_cons_zero, List.set_cons_succ])
            | (refine wpF_pure (by rfl) (fun W hW => by go_simp; with_reducible rfl) ?_; simp only [Act.put, List.setIfInBounds_toArray, List.set_cons_zero, List.set_cons_succ]))
          refine wpF_step (by rfl) (fun K hK => ?_)
          go_simp
          refine hm.mono ?_
          rintro e w5 ⟨rfl, hb5⟩
          have hK5 : Keeps [B, b] wr w5 := (Keeps.drew _ _).trans (Keeps.below hb5 (fun k hk => by
            simp only [List.mem_cons, List.not_mem_nil, or_false] at hk
            rcases hk with rfl | rfl
            · exact hBlt
            · exact hblt2))
          refine hK _ _ hK5 ?_
          clear hK K
          have hbz5 : CBox w5 w.heap.size [0, 0, 0, 0, 0, 0, 0, 0, 0, 0, 0, 0, 0, 0] := CBox.below (w := wr.drew) hbz hb5 hzlt
          have hrd5 : Rd w5 b lj zj false := Rd.below (w := wr.drew) ⟨hrd.1, Row.drew hrd.2.1, hrd.2.2⟩ hb5
          have hgw5 : w.grownBy w5 (some b) := ⟨hb5.os.trans hgw.os, hb5.tape.trans hgw.tape, hb5.output.trans hgw.output, Nat.le_trans hgw.size hb5.size, fun k hk h => (hb5.block k (Nat.lt_of_lt_of_le hk hgw.size)).trans (hgw.block k hk h)⟩
          obtain ⟨e1, e2, e3, e4⟩ := cmd_end w5 w.heap.size b B c lj zj false hbz5 hrd5 (by omega) (by omega) (Nat.lt_of_lt_of_le hBlt hb5.size) (HK.out zj lj hzl.out hlo.out)
          have e5 := grown_comp hgw5 e3 (Nat.le_refl _)
          have HMB : Hid ((mayE c == 0) = mayB c) := by
            show _ = _
            unfold mayE
            cases mayB c <;> rfl
          generalize mayE c = me at *
          have hl := fun W (h : CBox W w.heap.size c.l) => load_cmd W w.heap.size c h
          repeat (refine wpF_pure (by rfl) (fun W hW => by go_simp; with_reducible rfl) ?_; simp only [Act.put, List.setIfInBounds_toArray, List.set_cons_zero, List.set_cons_succ])
          refine wpF_step (by rfl) (fun K hK => ?_)
          refine wp_store_row 57 _ _ rfl w.heap.size #[.int .i64 c.k, .int .i64 c.s, .int .i64 c.n, .int .i64 c.f, .int .i64 c.r, .int .i64 c.o, .int .i64 c.d, .int .i64 c.p, .int .i64 c.i0, .int .i64 c.i1, .int .i64 c.b0, .int .i64 c.b1, .int .i64 c.h0, .int .i64 c.h1] rfl rfl 57 _ hbz5 (by kernel_rfl) rfl (cm_one c) ?_
          refine hK _ _ (hK5.trans e4) ?_
          clear hK K e3 e4
          generalize w5.setRow w.heap.size _ = wF at *
          simp only [Act.put]
          repeat (refine wpF_pure (by rfl) (fun W hW => by go_simp; with_reducible rfl) ?_; simp only [Act.put, List.setIfInBounds_toArray, List.set_cons_zero, List.set_cons_succ])
          refine wpF_nil ?_
          have hl := hl wF e1
          go_wp2_with fail
          refine bodyPost_ret (v := .tuple #[c.v, .bool (me == 0)]) (by simp [results, Try.results118, asAddr, hl]) rfl ?_
          exact HP.out _ _ ⟨c, by rw [HCs2.out], by rw [HCs2.out, HOK.out, HMB.out]; rfl, ⟨lj, by rw [HCs2.out]; exact e2, hlo.out⟩, e5⟩

end Go.Proofs.Ytdhdbmfipkppiaa.Isa

namespace Go.Proofs.Ytdhdbmfipkppiaa.Isa
set_option linter.unusedSimpArgs false
set_option linter.unusedVariables false
set_option linter.unnecessarySimpa false
set_option maxRecDepth 10000
open Go.RowKit

def toCm (cs : List Int) : Cm := ⟨cs[0]?.getD 0, cs[1]?.getD 0, cs[2]?.getD 0, cs[3]?.getD 0, cs[4]?.getD 0, cs[5]?.getD 0, cs[6]?.getD 0, cs[7]?.getD 0, cs[8]?.getD 0, cs[9]?.getD 0, cs[10]?.getD 0, cs[11]?.getD 0, cs[12]?.getD 0, cs[13]?.getD 0⟩
theorem toCm_l (c : Cm) : toCm c.l = c := rfl

def stepOk (s : List Int × Bool × List Int × Int) : Bool := okK s.2.2.2 && !s.2.1 && mayB (toCm s.2.2.1)

/-- So many commands are taken off the beginning. -/
def goTake : Nat → List Int → Option (List Cm × List Int)
  | 0, zs => some ([], zs)
  | n + 1, zs => if stepOk (cmdStep zs false) then (goTake n (cmdStep zs false).1).map fun p => (toCm (cmdStep zs false).2.2.1 :: p.1, p.2) else none

def takeL (zs : List Int) : Option (List Cm × Nat) :=
  if zs.length < 2 ∨ 4096 < numOf (zs.take 2) then none else (goTake (numOf (zs.take 2)).toNat (zs.drop 2)).map fun p => (p.1, zs.length - p.2.length)

theorem readF_le : ∀ (l : List Fd) (zs : List Int) (bad : Bool) (cs : List Int), (readF zs bad cs l).1.length ≤ zs.length
  | [], zs, bad, cs => Nat.le_refl _
  | x :: l, zs, bad, cs => by
    rw [readF]
    exact Nat.le_trans (readF_le l _ _ _) (numStep_le zs bad x.wide)
theorem cmdStep_le (zs : List Int) (bad : Bool) : (cmdStep zs bad).1.length ≤ zs.length := by
  unfold cmdStep
  exact Nat.le_trans (readF_le _ _ _ _) (numStep_le zs bad 1)

theorem elem_cmd : ElemT Try.prog 51 57 14 112 := elemT_of (z := .agg #[.int .i64 0, .int .i64 0, .int .i64 0, .int .i64 0, .int .i64 0, .int .i64 0, .int .i64 0, .int .i64 0, .int .i64 0, .int .i64 0, .int .i64 0, .int .i64 0, .int .i64 0, .int .i64 0]) Try.underlying51 (by kernel_rfl) rfl (by omega)

/-- What Take answers. -/
def TakePost (r : Option (List Cm × Nat)) (w : World) (e : Ending) (w' : World) : Prop :=
  (r = none → e = .returned (.tuple #[.slice none 0 0, .int .i64 0, .int .i64 2])) ∧
  (∀ l n, r = some (l, n) → ∃ v', e = .returned (.tuple #[v', .int .i64 n, .int .i64 0]) ∧ w'.ownsRow w.heap.size 57 14 v' l.length (l.flatMap Cm.cs)) ∧ Below w.heap.size w w'

theorem ownsRow_base {w : World} {base base' : Nat} {e : TypeId} {sz : Nat} {v : Value} {n : Nat} {xs : List Value} (h : w.ownsRow base e sz v n xs) (hb : base' ≤ base) : w.ownsRow base' e sz v n xs := by
  refine ⟨h.1, ?_⟩
  rcases h.2 with h2 | ⟨g, cap, cur, h3, h4, h5⟩
  · exact Or.inl h2
  · exact Or.inr ⟨g, cap, cur, h3, Nat.le_trans hb h4, h5⟩

theorem below_grown {w w' : World} {b : Nat} (h : w.grownBy w' (some b)) (hb : w.heap.size ≤ b) : Below w.heap.size w w' := Below.grown (Below.refl _ _) h (Nat.le_refl _) (fun k hk => by cases hk; exact hb)

set_option maxHeartbeats 3200000 in
theorem take_calls (v : Value) (zs : List Int) (w : World) (hv : Ints .u8 w v zs) (hz : ∀ z ∈ zs, 0 ≤ z ∧ z ≤ 255) :
    Calls Try.prog 86 #[v] w (TakePost (takeL zs) w) := by
  have hP : ∀ e w', ((takeL zs = none → e = .returned (.tuple #[.slice none 0 0, .int .i64 0, .int .i64 2])) ∧ (∀ l n, takeL zs = some (l, n) → ∃ v', e = .returned (.tuple #[v', .int .i64 n, .int .i64 0]) ∧ w'.ownsRow w.heap.size 57 14 v' l.length (l.flatMap Cm.cs)) ∧ Below w.heap.size w w') → TakePost (takeL zs) w e w' := fun e w' h => h
  have HP := Lib.hid hP
  clear hP
  have HT : Hid (takeL zs = if zs.length < 2 ∨ 4096 < numOf (zs.take 2) then none else (goTake (numOf (zs.take 2)).toNat (zs.drop 2)).map fun p => (p.1, zs.length - p.2.length)) := rfl
  generalize TakePost (takeL zs) w = R at *
  generalize takeL zs = tk at *
  obtain ⟨A, c, rfl, hlc, hcm, _⟩ := id hv.form
  unfold maxLen at hcm
  have hb0 := below_alloc (Below.refl w.heap.size w) (Nat.le_refl _) (.cells #[.slice A zs.length c, .bool false] 156)
  have hr0 : Rd (w.alloc (.cells #[.slice A zs.length c, .bool false] 156)) w.heap.size (.slice A zs.length c) zs false := ⟨heap_alloc_new w _, Row.below hv hb0, hz, by
    rcases hv.lt with h | h
    · exact Or.inl h
    · exact Or.inr fun e => by have := h _ e; omega⟩
  have hn := number_step w.heap.size _ zs false 2 _ hr0 (by omega)
  go_enter Try.func86, Try.ntmps86
  go_wp2_with fail
  generalize w.alloc _ = w0 at *
  refine hn.mono ?_
  rintro e w1 ⟨rfl, ⟨l1, hr1, ho1⟩, hg1⟩
  have hb1 : Below w.heap.size w w1 := Below.grown hb0 hg1 hb0.size (fun k hk => by cases hk; exact Nat.le_refl _)
  clear hn hr0 hg1
  obtain ⟨x0, x1, _⟩ := hr1.cells
  by_cases h2 : zs.length < 2
  · have e : numStep zs false 2 = (0, zs, true) := by unfold numStep; rw [if_neg (by omega)]
    rw [e] at x1 ⊢
    simp only at x1 ⊢
    have HN : Hid (tk = none) := by show _ = _; rw [HT.out, if_pos (Or.inl h2)]
    clear e HT
    go_wp2_with fail
    go_ret3
    exact HP.out _ _ ⟨fun _ => rfl, (fun l n h => by rw [HN.out] at h; cases h), hb1⟩
  · have e : numStep zs false 2 = (numOf (zs.take 2), zs.drop 2, false) := by unfold numStep; rw [if_pos (by omega)]
    rw [e] at x1 hr1 ⊢
    simp only at x1 hr1 ⊢
    have hrg := numOf_range 2 (zs.take 2) (by rw [List.length_take]; omega) (fun z hm => hz z (List.mem_of_mem_take hm))
    obtain ⟨N, hN⟩ := Int.eq_ofNat_of_zero_le hrg.1
    rw [hN] at HT ⊢
    clear e hrg hN
    by_cases h3 : 4096 < (N : Int)
    · have HN : Hid (tk = none) := by show _ = _; rw [HT.out, if_pos (Or.inr h3)]
      clear HT
      go_wp2_with fail
      go_ret3
      exact HP.out _ _ ⟨fun _ => rfl, (fun l n h => by rw [HN.out] at h; cases h), hb1⟩
    · have HT2 : Hid (tk = (goTake N (zs.drop 2)).map fun p => (p.1, zs.length - p.2.length)) := by
        show _ = _
        rw [HT.out, if_neg (by omega), Int.toNat_natCast]
      clear HT
      go_wp2_with fail
      have hblt := hr1.lt
      have HO1 := Lib.hid ho1
      have HV := Lib.hid hv.lt
      clear ho1
      have hnil : w1.ownsRow (w.heap.size + 1) 57 14 (.slice none 0 0) ([] : List Cm).length (([] : List Cm).flatMap Cm.cs) := World.ownsRow_nil _ _ _ _
      go_loopw [7, 24] (fun b i wr => ∃ (k : Nat) (lk : List Cm) (zk : List Int) (lv : Value), k ≤ N ∧ i = .int .i64 k ∧ Hid (goTake N (zs.drop 2) = (goTake (N - k) zk).map fun p => (lk ++ p.1, p.2)) ∧ Hid (lk.length = k) ∧ Hid (zk.length ≤ zs.length) ∧ Hid (lv.ownBlock = (Value.slice A zs.length c).ownBlock) ∧ Rd wr w.heap.size lv zk false ∧ wr.ownsRow (w.heap.size + 1) 57 14 b lk.length (lk.flatMap Cm.cs) ∧ Below w.heap.size w wr) (fun _ i _ => N - (intOf i).toNat)
      case atStart => exact ⟨0, [], zs.drop 2, l1, by omega, rfl, by show _ = _; simp, rfl, by show _ ≤ _; simp, HO1.out, hr1, hnil, hb1⟩
      case round =>
        clear hr1 hnil hb1 x0 x1 hblt
        obtain ⟨k, lk, zk, lv, hk, rfl, hgo, hlk, hzk, hlo, hrd, hown, hbel⟩ := hrel
        by_cases hlt : k < N
        · have hc := command_calls w.heap.size lv zk false wr hrd
          obtain ⟨M, hM⟩ : ∃ M, N - k = M + 1 := ⟨N - k - 1, by omega⟩
          have hM' : N - (k + 1) = M := by omega
          have HG : Hid (goTake N (zs.drop 2) = (if stepOk (cmdStep zk false) then (goTake M (cmdStep zk false).1).map fun p => (toCm (cmdStep zk false).2.2.1 :: p.1, p.2) else none).map fun p => (lk ++ p.1, p.2)) := by
            show _ = _
            rw [hgo.out, hM, goTake]
          have HM := Lib.hid hM'
          clear hM hM' hgo
          go_wp2_with fail
          refine hc.mono ?_
          rintro e w2 ⟨x, hx, rfl, ⟨lv2, hrd2, ho2⟩, hg2⟩
          have hown2 := hown.kept hg2 (by
            cases hq : u7.ownBlock with
            | none => exact Or.inl rfl
            | some j => exact Or.inr fun e => by have := (hown.lt j hq).1; have := Option.some.inj e; omega)
          have hb2 : Below w.heap.size w w2 := Below.grown hbel hg2 hbel.size (fun k hk => by cases hk; exact Nat.le_refl _)
          have hb3 := below_alloc hb2 hb2.size (.cells #[.int .i64 x.k, .int .i64 x.s, .int .i64 x.n, .int .i64 x.f, .int .i64 x.r, .int .i64 x.o, .int .i64 x.d, .int .i64 x.p, .int .i64 x.i0, .int .i64 x.i1, .int .i64 x.b0, .int .i64 x.b1, .int .i64 x.h0, .int .i64 x.h1] 57)
          have hx2 : toCm (cmdStep zk false).2.2.1 = x := by rw [← hx]; rfl
          have hst : (okK (cmdStep zk false).2.2.2 && !(cmdStep zk false).2.1 && mayB x) = stepOk (cmdStep zk false) := by unfold stepOk; rw [hx2]
          have hle := Nat.le_trans (cmdStep_le zk false) hzk.out
          rw [hst]
          rw [hx2] at HG
          have hbad : stepOk (cmdStep zk false) = true → (cmdStep zk false).2.1 = false := fun h => by
            unfold stepOk at h
            simp only [Bool.and_eq_true, Bool.not_eq_true'] at h
            exact h.1.2
          have HBD := Lib.hid hbad
          have HLE := Lib.hid hle
          clear hc hst hx hx2 hbad hle hown hg2 hbel
          generalize stepOk (cmdStep zk false) = q at *
          cases q with
          | false =>
            have HN : Hid (tk = none) := by
              show _ = _
              rw [HT2.out, HG.out]
              rfl
            clear HG HT2
            unfold Cm.v
            go_wp2_with fail
            go_ret3
            exact HP.out _ _ ⟨fun _ => rfl, (fun l n h => by rw [HN.out] at h; cases h), hb3⟩
          | true =>
            have hbf := HBD.out rfl
            rw [hbf] at hrd2
            clear hbf HBD
            have hlk1 := hlk.out
            have hkN : k < 4096 := by omega
            have hb4 := below_alloc hb3 hb3.size (.cells #[.int .i64 x.k, .int .i64 x.s, .int .i64 x.n, .int .i64 x.f, .int .i64 x.r, .int .i64 x.o, .int .i64 x.d, .int .i64 x.p, .int .i64 x.i0, .int .i64 x.i1, .int .i64 x.b0, .int .i64 x.b1, .int .i64 x.h0, .int .i64 x.h1] 57)
            have hnew : Row ((w2.alloc (.cells #[.int .i64 x.k, .int .i64 x.s, .int .i64 x.n, .int .i64 x.f, .int .i64 x.r, .int .i64 x.o, .int .i64 x.d, .int .i64 x.p, .int .i64 x.i0, .int .i64 x.i1, .int .i64 x.b0, .int .i64 x.b1, .int .i64 x.h0, .int .i64 x.h1] 57)).alloc (.cells #[.int .i64 x.k, .int .i64 x.s, .int .i64 x.n, .int .i64 x.f, .int .i64 x.r, .int .i64 x.o, .int .i64 x.d, .int .i64 x.p, .int .i64 x.i0, .int .i64 x.i1, .int .i64 x.b0, .int .i64 x.b1, .int .i64 x.h0, .int .i64 x.h1] 57)) (.slice (some ⟨w2.heap.size + 1, 0, none⟩) 1 1) 1 14 x.cs := row_lit (w2.alloc (.cells #[.int .i64 x.k, .int .i64 x.s, .int .i64 x.n, .int .i64 x.f, .int .i64 x.r, .int .i64 x.o, .int .i64 x.d, .int .i64 x.p, .int .i64 x.i0, .int .i64 x.i1, .int .i64 x.b0, .int .i64 x.b1, .int .i64 x.h0, .int .i64 x.h1] 57)) #[.int .i64 x.k, .int .i64 x.s, .int .i64 x.n, .int .i64 x.f, .int .i64 x.r, .int .i64 x.o, .int .i64 x.d, .int .i64 x.p, .int .i64 x.i0, .int .i64 x.i1, .int .i64 x.b0, .int .i64 x.b1, .int .i64 x.h0, .int .i64 x.h1] 57 1 14 (w2.heap.size + 1) (by simp) rfl (by unfold maxLen; omega)
            have hown3 := (hown2.alloc (.cells #[.int .i64 x.k, .int .i64 x.s, .int .i64 x.n, .int .i64 x.f, .int .i64 x.r, .int .i64 x.o, .int .i64 x.d, .int .i64 x.p, .int .i64 x.i0, .int .i64 x.i1, .int .i64 x.b0, .int .i64 x.b1, .int .i64 x.h0, .int .i64 x.h1] 57 (0, 0))).alloc (.cells #[.int .i64 x.k, .int .i64 x.s, .int .i64 x.n, .int .i64 x.f, .int .i64 x.r, .int .i64 x.o, .int .i64 x.d, .int .i64 x.p, .int .i64 x.i0, .int .i64 x.i1, .int .i64 x.b0, .int .i64 x.b1, .int .i64 x.h0, .int .i64 x.h1] 57 (0, 0))
            have hrd3 := (hrd2.below (below_alloc (Below.refl w2.heap.size w2) (Nat.le_refl _) (.cells #[.int .i64 x.k, .int .i64 x.s, .int .i64 x.n, .int .i64 x.f, .int .i64 x.r, .int .i64 x.o, .int .i64 x.d, .int .i64 x.p, .int .i64 x.i0, .int .i64 x.i1, .int .i64 x.b0, .int .i64 x.b1, .int .i64 x.h0, .int .i64 x.h1] 57))).below (below_alloc (Below.refl _ _) (Nat.le_refl _) (.cells #[.int .i64 x.k, .int .i64 x.s, .int .i64 x.n, .int .i64 x.f, .int .i64 x.r, .int .i64 x.o, .int .i64 x.d, .int .i64 x.p, .int .i64 x.i0, .int .i64 x.i1, .int .i64 x.b0, .int .i64 x.b1, .int .i64 x.h0, .int .i64 x.h1] 57))
            unfold Cm.v
            go_wp2_with (at_builtin; refine stopped ?_)
            refine wpList_append_row rfl rfl elem_cmd hown3 rfl hnew rfl (one_ints _ _) (by omega) (by omega) (by have := hrd2.lt; simp; omega) ?_
            intro v5 w5 ho hgr hn
            have hlo2 : Hid (lv2.ownBlock = (Value.slice A zs.length c).ownBlock) := ho2.trans hlo.out
            have hrd5 := hrd3.grown hgr (fun e => by have := (hown2.lt _ e.symm).1; omega) (by
              rcases HV.out with h | h
              · refine Or.inl (List.eq_nil_of_length_eq_zero ?_)
                have h2 := HLE.out
                rw [h] at h2
                simpa using h2
              · cases hq : lv2.ownBlock with
                | none => exact Or.inr (Or.inl rfl)
                | some j => exact Or.inr (Or.inr (fun e => by
                    have h3 := h j (by rw [← hlo2.out]; exact hq)
                    have := (hown2.lt j e.symm).1
                    omega)))
            have hb5 : Below w.heap.size w w5 := Below.grown hb4 hgr hb4.size (fun k hk => by have := (hown2.lt k hk).1; omega)
            have ho5 : w5.ownsRow (w.heap.size + 1) 57 14 v5 (lk ++ [x]).length ((lk ++ [x]).flatMap Cm.cs) := by
              rw [List.length_append, List.flatMap_append]
              simpa using ho
            have hlk5 : Hid ((lk ++ [x]).length = k + 1) := by show _ = _; rw [List.length_append, hlk1]; rfl
            have HG5 : Hid (goTake N (zs.drop 2) = (goTake (N - (k + 1)) (cmdStep zk false).1).map fun p => ((lk ++ [x]) ++ p.1, p.2)) := by
              show _ = _
              rw [HG.out, HM.out]
              simp [Option.map_map, Function.comp_def]
            clear HG hlk hlk1 ho hgr hn hnew hown2 hown3 hrd2 hrd3 hb2 hb3 hb4 ho2 hlo hrd HM
            go_wp2_with fail
            go_roundw
            case rel => exact ⟨k + 1, lk ++ [x], _, lv2, by omega, by go_num, HG5, hlk5, HLE.out, hlo2, hrd5, ho5, hb5⟩
            case measure => simp [intOf]; omega
        · have hkN : N - k = 0 := by omega
          have HF : Hid (tk = some (lk, zs.length - zk.length)) := by
            show _ = _
            rw [HT2.out, hgo.out, hkN, goTake]
            simp
          obtain ⟨y0, _, _⟩ := hrd.cells
          obtain ⟨A2, c2, rfl, _⟩ := id hrd.2.1.form
          clear hkN
          go_wp2_with fail
          go_region
          go_wp2_with fail
          go_ret3
          refine HP.out _ _ ⟨(fun h => by rw [HF.out] at h; cases h), (fun l n h => ?_), hbel.drew⟩
          rw [HF.out] at h
          cases h
          refine ⟨u7, ?_, ownsRow_drew (ownsRow_base hown (by omega))⟩
          show Ending.returned (Value.tuple #[u7, .int .i64 (wrap64 ((zs.length : Int) - (zk.length : Int))), .int .i64 0]) = _
          have h4 : wrap64 ((zs.length : Int) - (zk.length : Int)) = ((zs.length - zk.length : Nat) : Int) := by
            have := hzk.out
            unfold wrap64
            omega
          rw [h4]

end Go.Proofs.Ytdhdbmfipkppiaa.Isa

namespace Go.Proofs.Ytdhdbmfipkppiaa.Isa
set_option linter.unusedSimpArgs false
set_option linter.unusedVariables false
set_option linter.unnecessarySimpa false
set_option maxRecDepth 10000
open Go.RowKit

def Bytes (zs : List Int) : Prop := ∀ z ∈ zs, 0 ≤ z ∧ z ≤ 255
theorem Bytes.take {zs : List Int} (h : Bytes zs) (n : Nat) : Bytes (zs.take n) := fun z hz => h z (List.mem_of_mem_take hz)
theorem Bytes.drop {zs : List Int} (h : Bytes zs) (n : Nat) : Bytes (zs.drop n) := fun z hz => h z (List.mem_of_mem_drop hz)

theorem be_succ (x : Int) (n : Nat) : be x (n + 1) = be (x / 256) n ++ [x % 256] := by
  unfold be
  rw [List.range_succ, List.map_append]
  congr 1
  · apply List.map_congr_left
    intro i hi
    have hi' := List.mem_range.1 hi
    unfold byteAt
    rw [show 8 * (n + 1 - 1 - i) = 8 + 8 * (n - 1 - i) from by omega, Int.pow_add, ← Int.ediv_ediv_of_nonneg (by decide)]
    rfl
  · simp [byteAt]

theorem numOf_be : ∀ (n : Nat) (x : Int), 0 ≤ x → x < 256 ^ n → numOf (be x n) = x
  | 0, x, h1, h2 => by
    rw [Int.pow_zero] at h2
    have : x = 0 := by omega
    subst this
    rfl
  | n + 1, x, h1, h2 => by
    rw [be_succ, numOf_snoc, numOf_be n (x / 256) (by omega) (by rw [Int.pow_succ] at h2; omega)]
    omega

theorem be_numOf : ∀ (n : Nat) (zs : List Int), zs.length = n → Bytes zs → be (numOf zs) n = zs
  | 0, zs, h, _ => by
    obtain rfl := List.eq_nil_of_length_eq_zero h
    rfl
  | n + 1, zs, h, hb => by
    have hne : zs ≠ [] := by intro e; rw [e] at h; cases h
    have e := List.dropLast_concat_getLast hne
    have h1 := hb _ (List.getLast_mem hne)
    have hd : zs.dropLast.length = n := by rw [List.length_dropLast, h]; rfl
    have hbd : Bytes zs.dropLast := fun z hm => hb z (List.dropLast_subset zs hm)
    rw [be_succ]
    have hn : numOf zs = 256 * numOf zs.dropLast + zs.getLast hne := by
      conv => lhs; rw [← e]
      rw [numOf_snoc]
    rw [hn, show (256 * numOf zs.dropLast + zs.getLast hne) / 256 = numOf zs.dropLast from by omega, show (256 * numOf zs.dropLast + zs.getLast hne) % 256 = zs.getLast hne from by omega, be_numOf n _ hd hbd, e]

theorem numStep_be (x : Int) (n : Nat) (rest : List Int) (bad : Bool) (h1 : 0 ≤ x) (h2 : x < 256 ^ n) : numStep (be x n ++ rest) bad n = (x, rest, bad) := by
  unfold numStep
  rw [if_pos (by rw [List.length_append, be_len]; omega), List.take_append_of_le_length (by rw [be_len]; exact Nat.le_refl _), List.take_of_length_le (by rw [be_len]; exact Nat.le_refl _), numOf_be n x h1 h2, List.drop_append_of_le_length (by rw [be_len]; exact Nat.le_refl _), List.drop_of_length_le (by rw [be_len]; exact Nat.le_refl _)]
  rfl

theorem readF_be (L : List Int) (rest : List Int) : ∀ (T : List Fd) (cs : List Int), (∀ x ∈ T, 0 ≤ L[x.at_]?.getD 0 ∧ L[x.at_]?.getD 0 < 256 ^ x.wide) →
    readF ((T.flatMap fun x => be (L[x.at_]?.getD 0) x.wide) ++ rest) false cs T = (rest, false, T.foldl (fun cs x => cs.set x.at_ (L[x.at_]?.getD 0)) cs)
  | [], cs, _ => rfl
  | x :: T, cs, h => by
    obtain ⟨h1, h2⟩ := h x (by simp)
    rw [readF, List.flatMap_cons, List.append_assoc, numStep_be _ _ _ _ h1 h2]
    exact readF_be L rest T _ (fun y hy => h y (by simp [hy]))

theorem range_of_may {c : Cm} (h : mayB c = true) : (∀ x ∈ tbl c.k, 0 ≤ c.l[x.at_]?.getD 0 ∧ c.l[x.at_]?.getD 0 < 256 ^ x.wide) ∧ (tbl c.k).foldl (fun cs x => cs.set x.at_ (c.l[x.at_]?.getD 0)) (Cm.of c.k).l = c.l := by
  obtain ⟨h1, h2⟩ := mayB_kind h
  have hk : (c.k = 1 ∨ c.k = 2) ∨ c.k = 3 ∨ c.k = 4 ∨ (c.k = 5 ∨ c.k = 6) ∨ c.k = 7 := by omega
  rcases hk with hk | hk | hk | hk | hk
  · have hm := (mayB_load hk).1 h
    have e : tbl c.k = [⟨4, 1, 1, 16⟩, ⟨5, 2, 1, 128⟩, ⟨6, 3, 0, 65535⟩, ⟨7, 2, 0, 1023⟩] := if_pos hk
    rw [e]
    obtain ⟨hb, z1, z2, z3, z4, z5, z6, z7, z8, z9⟩ := hm
    refine ⟨?_, ?_⟩
    · intro x hx
      simp only [List.mem_cons, List.not_mem_nil, or_false] at hx
      rcases hx with rfl | rfl | rfl | rfl <;> simp [Cm.l] <;> omega
    · simp [Cm.l, Cm.of, z1, z2, z3, z4, z5, z6, z7, z8, z9]
  · have hm := (mayB_tile hk).1 h
    have e : tbl c.k = [⟨2, 1, 0, 11⟩, ⟨3, 1, 0, 15⟩, ⟨4, 1, 1, 16⟩, ⟨7, 2, 0, 1023⟩, ⟨8, 2, 0, 1023⟩, ⟨10, 1, 0, 15⟩, ⟨12, 1, 0, 16⟩, ⟨9, 2, 0, 1023⟩, ⟨11, 1, 0, 15⟩, ⟨13, 1, 0, 16⟩] := by
      unfold tbl
      rw [if_neg (by omega), if_pos hk]
      rfl
    rw [e]
    obtain ⟨hb, z1, z2, z3⟩ := hm
    refine ⟨?_, ?_⟩
    · intro x hx
      simp only [List.mem_cons, List.not_mem_nil, or_false] at hx
      rcases hx with rfl | rfl | rfl | rfl | rfl | rfl | rfl | rfl | rfl | rfl <;> simp [Cm.l] <;> omega
    · simp [Cm.l, Cm.of, z1, z2, z3]
  · have hm := (mayB_kernel hk).1 h
    have e : tbl c.k = [⟨2, 1, 0, 11⟩, ⟨4, 1, 1, 16⟩] := by
      unfold tbl
      rw [if_neg (by omega), if_neg (by omega), if_pos hk]
    rw [e]
    obtain ⟨hb, z1, z2, z3, z4, z5, z6, z7, z8, z9, z10, z11⟩ := hm
    refine ⟨?_, ?_⟩
    · intro x hx
      simp only [List.mem_cons, List.not_mem_nil, or_false] at hx
      rcases hx with rfl | rfl <;> simp [Cm.l] <;> omega
    · simp [Cm.l, Cm.of, z1, z2, z3, z4, z5, z6, z7, z8, z9, z10, z11]
  · have hm := (mayB_sem hk).1 h
    have e : tbl c.k = [⟨1, 1, 0, 7⟩] := by
      unfold tbl
      rw [if_neg (by omega), if_neg (by omega), if_neg (by omega), if_pos hk]
    rw [e]
    obtain ⟨hb, z1, z2, z3, z4, z5, z6, z7, z8, z9, z10, z11, z12⟩ := hm
    refine ⟨?_, ?_⟩
    · intro x hx
      simp only [List.mem_cons, List.not_mem_nil, or_false] at hx
      rcases hx with rfl; simp [Cm.l]; omega
    · simp [Cm.l, Cm.of, z1, z2, z3, z4, z5, z6, z7, z8, z9, z10, z11, z12]
  · have hm := (mayB_halt hk).1 h
    have e : tbl c.k = [] := by
      unfold tbl
      rw [if_neg (by omega), if_neg (by omega), if_neg (by omega), if_neg (by omega)]
    rw [e]
    obtain ⟨z1, z2, z3, z4, z5, z6, z7, z8, z9, z10, z11, z12, z13⟩ := hm
    refine ⟨(fun x hx => by cases hx), ?_⟩
    simp [Cm.l, Cm.of, z1, z2, z3, z4, z5, z6, z7, z8, z9, z10, z11, z12, z13]

theorem cmdStep_enc {c : Cm} (h : mayB c = true) (rest : List Int) : cmdStep (enc c ++ rest) false = (rest, false, c.l, c.k) := by
  obtain ⟨h1, h2⟩ := mayB_kind h
  obtain ⟨h3, h4⟩ := range_of_may h
  unfold cmdStep enc
  rw [List.append_assoc, numStep_be c.k 1 _ false (by omega) (by omega)]
  simp only
  rw [readF_be c.l rest _ _ h3, h4]

theorem stepOk_enc {c : Cm} (h : mayB c = true) (rest : List Int) : stepOk (cmdStep (enc c ++ rest) false) = true := by
  rw [cmdStep_enc h]
  unfold stepOk
  simp only [toCm_l, h]
  have := mayB_kind h
  have ho : okK c.k = true := by unfold okK; rw [decide_eq_true_iff]; exact this
  rw [ho]
  rfl

theorem goTake_enc : ∀ (l : List Cm) (rest : List Int), l.all mayB = true → goTake l.length (l.flatMap enc ++ rest) = some (l, rest)
  | [], rest, _ => rfl
  | c :: l, rest, h => by
    simp only [List.all_cons, Bool.and_eq_true] at h
    rw [List.length_cons, goTake, List.flatMap_cons, List.append_assoc, stepOk_enc h.1, cmdStep_enc h.1, goTake_enc l rest h.2, if_pos rfl]
    simp [toCm_l]

theorem takeL_encs (l : List Cm) (rest : List Int) (h : l.all mayB = true) (hl : l.length ≤ 4096) : takeL (encs l ++ rest) = some (l, (encs l).length) := by
  have e : (encs l ++ rest).take 2 = be l.length 2 := by
    unfold encs
    rw [List.append_assoc, List.take_append_of_le_length (by rw [be_len]; exact Nat.le_refl _), List.take_of_length_le (by rw [be_len]; exact Nat.le_refl _)]
  have e2 : (encs l ++ rest).drop 2 = l.flatMap enc ++ rest := by
    unfold encs
    rw [List.append_assoc, List.drop_append_of_le_length (by rw [be_len]; exact Nat.le_refl _), List.drop_of_length_le (by rw [be_len]; exact Nat.le_refl _)]
    rfl
  have hn : numOf (be l.length 2) = l.length := numOf_be 2 _ (by omega) (by omega)
  have hlen : 2 ≤ (encs l).length := by unfold encs; rw [List.length_append, be_len]; omega
  unfold takeL
  rw [e, e2, hn, if_neg (by rw [List.length_append]; omega), Int.toNat_natCast, goTake_enc l rest h]
  simp

theorem numStep_ok {zs : List Int} {n : Nat} (hb : Bytes zs) (hf : (numStep zs false n).2.2 = false) : zs = be (numStep zs false n).1 n ++ (numStep zs false n).2.1 ∧ Bytes (numStep zs false n).2.1 := by
  unfold numStep at hf ⊢
  split at hf
  · rename_i hn
    rw [if_pos hn]
    refine ⟨?_, hb.drop n⟩
    rw [be_numOf n _ (by rw [List.length_take]; omega) (hb.take n), List.take_append_drop]
  · cases hf

theorem readF_bad : ∀ (T : List Fd) (zs cs : List Int), (readF zs true cs T).2.1 = true
  | [], zs, cs => rfl
  | x :: T, zs, cs => by
    rw [readF]
    have : (numStep zs true x.wide).2.2 = true := by unfold numStep; split <;> rfl
    rw [this]
    exact readF_bad T _ _

theorem readF_keeps : ∀ (T : List Fd) (zs : List Int) (bad : Bool) (cs : List Int) (i : Nat), (∀ x ∈ T, x.at_ ≠ i) → (readF zs bad cs T).2.2[i]? = cs[i]?
  | [], zs, bad, cs, i, _ => rfl
  | x :: T, zs, bad, cs, i, h => by
    rw [readF, readF_keeps T _ _ _ i (fun y hy => h y (by simp [hy])), List.getElem?_set_ne (h x (by simp))]

theorem readF_len : ∀ (T : List Fd) (zs : List Int) (bad : Bool) (cs : List Int), (readF zs bad cs T).2.2.length = cs.length
  | [], zs, bad, cs => rfl
  | x :: T, zs, bad, cs => by
    rw [readF, readF_len T, List.length_set]

theorem readF_ok : ∀ (T : List Fd) (zs cs : List Int), (T.map (·.at_)).Nodup → (∀ x ∈ T, x.at_ < cs.length) → Bytes zs → (readF zs false cs T).2.1 = false →
    zs = (T.flatMap fun x => be ((readF zs false cs T).2.2[x.at_]?.getD 0) x.wide) ++ (readF zs false cs T).1
  | [], zs, cs, _, _, _, _ => rfl
  | x :: T, zs, cs, hn, hl, hb, hf => by
    rw [readF] at hf ⊢
    cases hq : (numStep zs false x.wide).2.2 with
    | true => rw [hq, readF_bad] at hf; cases hf
    | false =>
      obtain ⟨e1, e2⟩ := numStep_ok hb hq
      rw [hq] at hf
      simp only [List.map_cons, List.nodup_cons] at hn
      have hlx := hl x (by simp)
      have ih := readF_ok T (numStep zs false x.wide).2.1 (cs.set x.at_ (numStep zs false x.wide).1) hn.2 (fun y hy => by rw [List.length_set]; exact hl y (by simp [hy])) e2 hf
      have ek : (readF (numStep zs false x.wide).2.1 false (cs.set x.at_ (numStep zs false x.wide).1) T).2.2[x.at_]?.getD 0 = (numStep zs false x.wide).1 := by
        rw [readF_keeps T _ _ _ _ (fun y hy e => hn.1 (by rw [← e]; exact List.mem_map_of_mem hy))]
        simp [hlx]
      rw [List.flatMap_cons, ek, List.append_assoc, ← ih]
      exact e1

theorem tbl_nodup (z : Int) : ((tbl z).map (·.at_)).Nodup := by
  unfold tbl
  split
  · decide
  · split
    · decide
    · split
      · decide
      · split <;> decide

theorem cmdStep_ok {zs : List Int} (hb : Bytes zs) (h : stepOk (cmdStep zs false) = true) :
    zs = enc (toCm (cmdStep zs false).2.2.1) ++ (cmdStep zs false).1 ∧ mayB (toCm (cmdStep zs false).2.2.1) = true := by
  unfold stepOk at h
  simp only [Bool.and_eq_true, Bool.not_eq_true'] at h
  obtain ⟨⟨h1, h2⟩, h3⟩ := h
  refine ⟨?_, h3⟩
  unfold cmdStep at h2 ⊢
  simp only at h2 ⊢
  cases hq : (numStep zs false 1).2.2 with
  | true => rw [hq, readF_bad] at h2; cases h2
  | false =>
    obtain ⟨e1, e2⟩ := numStep_ok hb hq
    rw [hq] at h2
    have hz := tbl_at (numStep zs false 1).1
    have hr := readF_ok (tbl (numStep zs false 1).1) (numStep zs false 1).2.1 (Cm.of (numStep zs false 1).1).l (tbl_nodup _) (fun x hx => (hz x hx).1) e2 h2
    have h0 := readF_keeps (tbl (numStep zs false 1).1) (numStep zs false 1).2.1 false (Cm.of (numStep zs false 1).1).l 0 (fun x hx e => by have := (hz x hx).2.1; omega)
    have hlen := readF_len (tbl (numStep zs false 1).1) (numStep zs false 1).2.1 false (Cm.of (numStep zs false 1).1).l
    generalize (numStep zs false 1).1 = z at *
    generalize (numStep zs false 1).2.1 = r1 at *
    generalize readF r1 false (Cm.of z).l (tbl z) = q at *
    obtain ⟨c, hc⟩ := cm_of_list q.2.2 hlen
    rw [hc, toCm_l]
    rw [hc] at hr h0
    have hk : c.k = z := by
      have : c.l[0]? = some c.k := rfl
      rw [this] at h0
      simpa [Cm.of, Cm.l] using h0
    rw [e1]
    unfold enc
    rw [hk, List.append_assoc, ← hr]

theorem goTake_ok : ∀ (n : Nat) (zs : List Int) (l : List Cm) (r : List Int), Bytes zs → goTake n zs = some (l, r) → l.length = n ∧ l.all mayB = true ∧ zs = l.flatMap enc ++ r
  | 0, zs, l, r, _, h => by
    simp only [goTake, Option.some.injEq, Prod.mk.injEq] at h
    obtain ⟨rfl, rfl⟩ := h
    exact ⟨rfl, rfl, rfl⟩
  | n + 1, zs, l, r, hb, h => by
    rw [goTake] at h
    split at h
    · rename_i hs
      obtain ⟨e1, e2⟩ := cmdStep_ok hb hs
      cases hg : goTake n (cmdStep zs false).1 with
      | none => rw [hg] at h; cases h
      | some p =>
        obtain ⟨l', r'⟩ := p
        rw [hg] at h
        simp only [Option.map_some, Option.some.injEq, Prod.mk.injEq] at h
        obtain ⟨rfl, rfl⟩ := h
        have hb1 : Bytes (cmdStep zs false).1 := fun z hz => hb z (by rw [e1]; exact List.mem_append_right _ hz)
        obtain ⟨i1, i2, i3⟩ := goTake_ok n _ l' r' hb1 hg
        refine ⟨by rw [List.length_cons, i1], by rw [List.all_cons, e2, i2]; rfl, ?_⟩
        rw [List.flatMap_cons, List.append_assoc, ← i3]
        exact e1
    · cases h

theorem takeL_ok {zs : List Int} {l : List Cm} {n : Nat} (hb : Bytes zs) (h : takeL zs = some (l, n)) : l.length ≤ 4096 ∧ l.all mayB = true ∧ n ≤ zs.length ∧ encs l = zs.take n := by
  unfold takeL at h
  split at h
  · cases h
  · rename_i hc
    cases hg : goTake (numOf (zs.take 2)).toNat (zs.drop 2) with
    | none => rw [hg] at h; cases h
    | some p =>
      obtain ⟨l', r⟩ := p
      rw [hg] at h
      simp only [Option.map_some, Option.some.injEq, Prod.mk.injEq] at h
      obtain ⟨rfl, rfl⟩ := h
      obtain ⟨i1, i2, i3⟩ := goTake_ok _ _ _ _ (hb.drop 2) hg
      have hr := numOf_range 2 (zs.take 2) (by rw [List.length_take]; omega) (hb.take 2)
      have h2 : (zs.take 2).length = 2 := by rw [List.length_take]; omega
      have hl : ((l'.length : Nat) : Int) = numOf (zs.take 2) := by rw [i1]; omega
      refine ⟨by omega, i2, by omega, ?_⟩
      have e : zs = (zs.take 2 ++ l'.flatMap enc) ++ r := by rw [List.append_assoc, ← i3, List.take_append_drop]
      have e2 : encs l' = zs.take 2 ++ l'.flatMap enc := by
        unfold encs
        rw [hl, be_numOf 2 _ h2 (hb.take 2)]
      rw [e2]
      clear e2 hl h2 hr i3
      generalize zs.take 2 ++ l'.flatMap enc = Q at e ⊢
      rw [e, List.length_append, Nat.add_sub_cancel, List.take_left]

theorem bytes_enc (c : Cm) : Bytes (enc c) := by
  intro z hz
  unfold enc at hz
  rcases List.mem_append.1 hz with h | h
  · exact be_range _ _ z h
  · obtain ⟨x, _, hx⟩ := List.mem_flatMap.1 h
    exact be_range _ _ z hx
theorem bytes_encs (l : List Cm) : Bytes (encs l) := by
  intro z hz
  unfold encs at hz
  rcases List.mem_append.1 hz with h | h
  · exact be_range _ _ z h
  · obtain ⟨x, _, hx⟩ := List.mem_flatMap.1 h
    exact bytes_enc x z hx

/-- What is cut is none. -/
theorem takeL_cut {l : List Cm} (h : l.all mayB = true) (hl : l.length ≤ 4096) {k : Nat} (hk : k < (encs l).length) : takeL ((encs l).take k) = none := by
  cases hq : takeL ((encs l).take k) with
  | none => rfl
  | some p =>
    obtain ⟨l', n⟩ := p
    obtain ⟨a1, a2, a3, a4⟩ := takeL_ok ((bytes_encs l).take k) hq
    rw [List.length_take] at a3
    have e1 := takeL_encs l [] h hl
    have e2 := takeL_encs l' ((encs l).drop n) a2 a1
    have e3 : encs l' ++ (encs l).drop n = encs l := by
      rw [a4, List.take_take, Nat.min_eq_left (by omega), List.take_append_drop]
    rw [List.append_nil] at e1
    rw [e3, e1] at e2
    simp only [Option.some.injEq, Prod.mk.injEq] at e2
    have : (encs l').length = n := by rw [a4, List.length_take, List.length_take]; omega
    omega

theorem encs_inj {l m : List Cm} (hl : l.all mayB = true) (hm : m.all mayB = true) (h1 : l.length ≤ 4096) (h2 : m.length ≤ 4096) (h : encs l = encs m) : l = m := by
  have e1 := takeL_encs l [] hl h1
  have e2 := takeL_encs m [] hm h2
  rw [h, e2] at e1
  simp only [Option.some.injEq, Prod.mk.injEq] at e1
  exact e1.1.symm

end Go.Proofs.Ytdhdbmfipkppiaa.Isa

namespace Go.Proofs.Ytdhdbmfipkppiaa.Isa
set_option linter.unusedSimpArgs false
set_option linter.unusedVariables false
set_option linter.unnecessarySimpa false
set_option maxRecDepth 10000
open Go.RowKit

theorem neqGuard : Try.prog.eqGuardType Try.prog.depth 57 = false := by kernel_rfl

set_option maxHeartbeats 1600000 in
theorem same_calls (v u : Value) (l m : List Cm) (w : World) (hv : Cmds w v l) (hu : Cmds w u m) :
    Calls Try.prog 40 #[v, u] w fun e w' => e = .returned (.bool (decide (l = m))) ∧ Below w.heap.size w w' := by
  obtain ⟨A, c, rfl, hlc, hcm, _⟩ := hv.form
  obtain ⟨B, d, rfl, hld, hdm, _⟩ := hu.form
  unfold maxLen at hcm hdm
  by_cases hl : l.length = m.length
  · have HL := Lib.hid hl
    rw [hl] at hlc ⊢
    clear hl
    go_enter Try.func40, Try.ntmps40
    go_wp2
    go_loopw [5] (fun i wr => ∃ k : Nat, k ≤ m.length ∧ i = .int .i64 k ∧ Hid (l.take k = m.take k) ∧ Below w.heap.size w wr) (fun i _ => m.length - (intOf i).toNat)
    case atStart => exact ⟨0, by omega, rfl, rfl, Below.refl _ _⟩
    case round =>
      obtain ⟨k, hk, rfl, heq, hbel⟩ := hrel
      by_cases hlt : k < m.length
      · have hlz : k < l.length := by rw [HL.out]; exact hlt
        obtain ⟨_, _, e1, _, _, hc1⟩ := (hv.below hbel (Nat.le_refl _)).form
        obtain ⟨_, _, e2, _, _, hc2⟩ := (hu.below hbel (Nat.le_refl _)).form
        injection e1 with e3 e4 e5
        injection e2 with e6 e7 e8
        subst e3 e5 e6 e8
        clear e4 e7
        obtain ⟨g, off, rfl, hg, x0, x1, x2, x3, x4, x5, x6, x7, x8, x9, x10, x11, x12, x13⟩ := hc1 k l[k] (by simp [hlz])
        obtain ⟨g2, off2, rfl, hg2, y0, y1, y2, y3, y4, y5, y6, y7, y8, y9, y10, y11, y12, y13⟩ := hc2 k m[k] (by simp [hlt])
        have HS : Hid (l[k] = m[k] → l.take (k + 1) = m.take (k + 1)) := by
          show _ → _
          intro e
          rw [List.take_succ_eq_append_getElem hlz, List.take_succ_eq_append_getElem hlt, heq.out, e]
        have HN : Hid (l[k] ≠ m[k] → decide (l = m) = false) := by
          show _ → _
          intro e
          refine decide_eq_false (fun h => e ?_)
          subst h
          rfl
        clear hc1 hc2
        generalize l[k] = x at *
        generalize m[k] = y at *
        have hq := fun w => cmd_neq x y w
        unfold Cm.v at hq
        have hgd := neqGuard
        go_wp2_with fail
        refine wp_region_R [(0, true), (1, true), (2, true), (3, true), (4, true), (5, true), (6, true), (7, true), (8, true)] (by kernel_rfl) (by kernel_rfl) (fun _ _ d _ _ h => by cases d <;> exact h) ?_
        simp only [pickE, List.getElem?_cons_zero, List.getElem?_cons_succ]
        repeat (refine wpF_pure (by rfl) (fun W hW => by subst hW; go_simp; with_reducible rfl) ?_; simp only [Act.put, List.setIfInBounds_toArray, List.set_cons_zero, List.set_cons_succ])
        refine wpF_nil ?_
        by_cases hxy : x = y
        · have HS1 := Lib.hid (HS.out hxy)
          rw [decide_eq_true hxy]
          clear HS HN hq hxy x0 x1 x2 x3 x4 x5 x6 x7 x8 x9 x10 x11 x12 x13 y0 y1 y2 y3 y4 y5 y6 y7 y8 y9 y10 y11 y12 y13
          go_wp2_with fail
          go_roundw
          case rel => exact ⟨k + 1, by omega, by go_num, HS1, hbel.drew⟩
          case measure => simp [intOf]; omega
        · have HN1 := Lib.hid (HN.out hxy)
          rw [decide_eq_false hxy]
          clear HS HN hq hxy x0 x1 x2 x3 x4 x5 x6 x7 x8 x9 x10 x11 x12 x13 y0 y1 y2 y3 y4 y5 y6 y7 y8 y9 y10 y11 y12 y13
          go_wp2_with fail
          go_ret
          exact ⟨by rw [HN1.out]; rfl, hbel.drew⟩
      · have hkk : k = m.length := by omega
        have HE : Hid (decide (l = m) = true) := by
          show _ = _
          have h1 := heq.out
          rw [hkk, List.take_length, ← HL.out, List.take_length] at h1
          exact decide_eq_true h1
        go_wp2
        go_ret
        exact ⟨by rw [HE.out]; rfl, hbel⟩
  · have HN : Hid (decide (l = m) = false) := decide_eq_false (fun h => hl (by rw [h]))
    go_enter Try.func40, Try.ntmps40
    go_wp2
    go_ret
    exact ⟨by rw [HN.out]; rfl, Below.refl _ _⟩

end Go.Proofs.Ytdhdbmfipkppiaa.Isa
