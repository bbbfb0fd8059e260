/- The walks of number and put of the reference of commands. -/
/- The walk of the reader's number. -/
/- The walks of in and May of the reference of commands. -/
/- The walk of put of the reference of commands. -/
/- The walk of Put of the reference of commands, and of the law IsaPuts. -/
import Derived.Test.YtdhdbmfipkppiaaNsaP
import Derived.Test.YtdhdbmfipkppiaaNsaM
import Derived.Test.YtdhdbmfipkppiaaNsaB
import Derived.Deep.DeepCutAuto
import Derived.Deep.CutBlock
namespace Go.Proofs.Ytdhdbmfipkppiaa.Isa
set_option linter.unusedSimpArgs false
set_option linter.unusedVariables false
set_option linter.unnecessarySimpa false
set_option maxRecDepth 10000
open Go.RowKit

/-- The first bytes of a number are laid down. -/
def GrewBe (w : World) (base : Nat) (v : Value) (bs : List Int) (x : Int) (wide j : Nat) (w' : World) (v' : Value) : Prop := Grew w base 5 1 v (bs ++ (be x wide).take j).length ((bs ++ (be x wide).take j).map (.int .u8)) w' v'
/-- Which byte is next. -/
def Idx (wide j : Nat) (i : Value) : Prop := i = .int .i64 ((wide : Int) - 1 - (j : Int))

set_option maxHeartbeats 1600000 in
theorem refNumber_calls (base : Nat) (v : Value) (bs : List Int) (x : Int) (wide : Nat) (w : World)
    (hown : w.ownsRow base 5 1 v bs.length (bs.map (.int .u8))) (hbase : base ≤ w.heap.size) (hw8 : wide ≤ 8) (hn : bs.length + wide ≤ 1099511627776) :
    Calls Try.prog 79 #[v, .int .i64 x, .int .i64 wide] w (GrewPost w base 5 1 v (bs ++ be x wide).length ((bs ++ be x wide).map (.int .u8))) := by
  have hg0 : GrewBe w base v bs x wide 0 w v := by unfold GrewBe; simpa using Grew.refl hown
  obtain ⟨F, hF⟩ : ∃ F, bs ++ be x wide = F := ⟨_, rfl⟩
  rw [hF]
  have HF := Lib.hid hF
  clear hF
  go_enter Try.func79, Try.ntmps79
  go_wp2_with fail
  go_loopw [0, 7] (fun b i wr => ∃ (j : Nat), j ≤ wide ∧ Idx wide j i ∧ GrewBe w base v bs x wide j wr b) (fun _ i _ => (intOf i + 1).toNat)
  case atStart => exact ⟨0, by omega, by unfold Idx; exact congrArg (Value.int .i64) (by omega), hg0⟩
  case round =>
    clear hg0
    obtain ⟨j, hj, hix, hg⟩ := hrel
    unfold Idx at hix
    subst hix
    unfold GrewBe at hg
    by_cases hjlt : j < wide
    · have hs := shift_i64 hjlt
      have hs0 : (0 : Int) ≤ 8 * ((wide : Int) - 1 - (j : Int)) := by omega
      have hs1 : 8 * ((wide : Int) - 1 - (j : Int)) ≤ 64 := by omega
      have hc : (0 : Int) ≤ (wide : Int) - 1 - (j : Int) := by omega
      have HT := Lib.hid (be_take_succ x hjlt)
      have hlen : (bs ++ (be x wide).take j).length = bs.length + j := by rw [List.length_append, List.length_take, be_len]; omega
      have hlen := Lib.hid hlen
      go_wp2_with (at_builtin; refine stopped ?_)
      have hnew := row_lit wr #[.int .u8 (x / 2 ^ (8 * (wide - 1 - j)) % 256)] 5 1 1 wr.heap.size rfl rfl (by unfold maxLen; omega)
      have hg1 := hg.alloc (.cells #[.int .u8 (x / 2 ^ (8 * (wide - 1 - j)) % 256)] 5)
      have hl1 := hlen.out
      refine wpList_append_row rfl rfl elem_u8 hg1.own rfl hnew rfl (by intro u hu; simp at hu; subst hu; rfl) (by omega) (by omega) (Nat.le_trans hbase hg1.grown.size) ?_
      intro v' w' ho hgr hn
      have hg2 : GrewBe w base v bs x wide (j + 1) w' v' := by
        unfold GrewBe
        refine hg1.append ?_ hgr hn
        rw [HT.out, ← List.append_assoc, List.length_append, List.map_append]
        exact ho
      clear hg hg1 ho hgr hn hnew hl1
      go_wp2_with fail
      go_roundw
      case rel => exact ⟨j + 1, by omega, by unfold Idx; exact congrArg (Value.int .i64) (by omega), hg2⟩
      case measure => simp [intOf]; omega
    · obtain rfl : j = wide := by omega
      have hc : ¬ (0 : Int) ≤ (j : Int) - 1 - (j : Int) := by omega
      have hg2 : Grew w base 5 1 v F.length (F.map (.int .u8)) wr u0 := by
        have e : (be x j).take j = be x j := List.take_of_length_le (by rw [be_len]; omega)
        rw [e, HF.out] at hg
        exact hg
      clear hg
      go_wp2_with fail
      go_ret
      exact ⟨_, rfl, hg2⟩

end Go.Proofs.Ytdhdbmfipkppiaa.Isa

namespace Go.Proofs.Ytdhdbmfipkppiaa.Isa
set_option linter.unusedSimpArgs false
set_option linter.unusedVariables false
set_option linter.unnecessarySimpa false
set_option maxRecDepth 10000
open Go.RowKit

/-- A number of bytes, the highest first. -/
def numOf (l : List Int) : Int := l.foldl (fun x c => 256 * x + c) 0

/-- A reader in a block: what is left, and whether it is bad. -/
def Rd (w : World) (b : Nat) (lv : Value) (zs : List Int) (bad : Bool) : Prop :=
  w.heap[b]? = some (.cells #[lv, .bool bad] 156 (0, 0)) ∧ Ints .u8 w lv zs ∧ (∀ z ∈ zs, 0 ≤ z ∧ z ≤ 255) ∧ (zs = [] ∨ lv.ownBlock ≠ some b)

theorem Rd.lt {w : World} {b : Nat} {lv : Value} {zs : List Int} {bad : Bool} (h : Rd w b lv zs bad) : b < w.heap.size := (Array.getElem?_eq_some_iff.1 h.1).1
theorem Rd.cells {w : World} {b : Nat} {lv : Value} {zs : List Int} {bad : Bool} (h : Rd w b lv zs bad) : w.cell? ⟨b, 0, none⟩ = some lv ∧ w.cell? ⟨b, 1, none⟩ = some (.bool bad) ∧ ∀ o, w.frozen? ⟨b, o, none⟩ = false := by
  have := h.1
  refine ⟨?_, ?_, fun o => ?_⟩ <;> simp [World.cell?, World.frozen?, this]
theorem Rd.below {w w' : World} {b : Nat} {lv : Value} {zs : List Int} {bad : Bool} (h : Rd w b lv zs bad) (hb : Below w.heap.size w w') : Rd w' b lv zs bad :=
  ⟨(hb.block b h.lt).trans h.1, Row.below h.2.1 hb, h.2.2⟩

theorem setCell_grown (w : World) (a : Addr) (v : Value) : w.grownBy (w.setCell a v) (some a.block) :=
  ⟨rfl, rfl, rfl, by simp, fun k _ hk => Below.heap_setCell w a v k (fun e => hk (by rw [e]))⟩

theorem _root_.Go.Proofs.Ytdhdbmfipkppiaa.Ints.setCell {w : World} {k : IntKind} {v : Value} {zs : List Int} (h : Ints k w v zs) {b : Nat} (hb : zs = [] ∨ v.ownBlock ≠ some b) (o : Nat) (u : Value) : Ints k (w.setCell ⟨b, o, none⟩ u) v zs := by
  rcases hb with rfl | hb
  · obtain ⟨A, c, e, h1, h2, h3, _⟩ := h
    exact ⟨A, c, e, h1, h2, h3, At.nil _ _⟩
  · exact Row.setCell h hb o u

theorem _root_.Go.Proofs.Ytdhdbmfipkppiaa.Ints.grown2 {w w' : World} {k : IntKind} {v : Value} {zs : List Int} (h : Ints k w v zs) {row : Option Nat} (hg : w.grownBy w' row) (hb : zs = [] ∨ v.ownBlock = none ∨ v.ownBlock ≠ row) : Ints k w' v zs := by
  rcases hb with rfl | hb
  · obtain ⟨A, c, e, h1, h2, h3, _⟩ := h
    exact ⟨A, c, e, h1, h2, h3, At.nil _ _⟩
  · exact Row.grown h hg hb

theorem _root_.Go.Proofs.Ytdhdbmfipkppiaa.Ints.lt {w : World} {k : IntKind} {v : Value} {zs : List Int} (h : Ints k w v zs) : zs = [] ∨ ∀ j, v.ownBlock = some j → j < w.heap.size := by
  cases zs with
  | nil => exact Or.inl rfl
  | cons z zs =>
    obtain ⟨j, h1, h2⟩ := Row.lt h (by simp)
    exact Or.inr fun i hi => by rw [h1] at hi; cases hi; exact h2

theorem setRow_grown (w : World) (g : Nat) (cs : Array Value) : w.grownBy (w.setRow g cs) (some g) := ⟨rfl, rfl, rfl, by simp, fun k _ hk => setRow_other w g k cs (fun e => hk (by rw [e]))⟩

theorem Rd.bad {w : World} {b : Nat} {lv : Value} {zs : List Int} {bad : Bool} (h : Rd w b lv zs bad) : Rd (w.setCell ⟨b, 1, none⟩ (.bool true)) b lv zs true := by
  obtain ⟨h1, h2, h3, h4⟩ := h
  refine ⟨?_, Ints.setCell h2 h4 1 _, h3, h4⟩
  simp [World.setCell, Array.getElem?_modify, h1]

theorem Rd.left {w : World} {b : Nat} {lv lv' : Value} {zs zs' : List Int} {bad : Bool} (h : Rd w b lv zs bad) (h2 : Ints .u8 w lv' zs') (h3 : ∀ z ∈ zs', 0 ≤ z ∧ z ≤ 255) (h4 : zs' = [] ∨ lv'.ownBlock ≠ some b) : Rd (w.setCell ⟨b, 0, none⟩ lv') b lv' zs' bad := by
  refine ⟨?_, Ints.setCell h2 h4 0 _, h3, h4⟩
  have h1 := h.1
  simp [World.setCell, Array.getElem?_modify, h1]

theorem numOf_snoc (l : List Int) (c : Int) : numOf (l ++ [c]) = 256 * numOf l + c := by
  unfold numOf
  rw [List.foldl_append]
  rfl
theorem numOf_range (n : Nat) : ∀ (l : List Int), l.length = n → (∀ z ∈ l, 0 ≤ z ∧ z ≤ 255) → 0 ≤ numOf l ∧ numOf l < 256 ^ n := by
  induction n with
  | zero =>
    intro l h _
    obtain rfl := List.eq_nil_of_length_eq_zero h
    exact ⟨by decide, by decide⟩
  | succ n ih =>
    intro l h hz
    have hne : l ≠ [] := by intro e; rw [e] at h; cases h
    have e := List.dropLast_concat_getLast hne
    have h1 := ih l.dropLast (by rw [List.length_dropLast, h]; rfl) (fun z hm => hz z (List.dropLast_subset l hm))
    have h2 := hz _ (List.getLast_mem hne)
    rw [← e, numOf_snoc, Int.pow_succ]
    omega

theorem i64_or_nat (a b : Nat) (ha : a < 2 ^ 62) (hb : b < 2 ^ 62) : bits .or .i64 (a : Int) (b : Int) = ((a ||| b : Nat) : Int) := by
  have h := Nat.or_lt_two_pow ha hb
  show IntKind.i64.wrap ((BitVec.ofInt 64 (a : Int) ||| BitVec.ofInt 64 (b : Int)).toNat : Int) = _
  rw [BitVec.toNat_or, BitVec.ofInt_natCast, BitVec.ofInt_natCast, BitVec.toNat_ofNat, BitVec.toNat_ofNat, Nat.mod_eq_of_lt (by omega), Nat.mod_eq_of_lt (by omega), IntKind.wrap_i64]
  omega

theorem or_byte (x c : Int) (h1 : 0 ≤ x) (h2 : x < 1099511627776) (h3 : 0 ≤ c) (h4 : c ≤ 255) : bits .or .i64 (x * 256) c = 256 * x + c := by
  obtain ⟨a, rfl⟩ := Int.eq_ofNat_of_zero_le h1
  obtain ⟨b, rfl⟩ := Int.eq_ofNat_of_zero_le h3
  have e := i64_or_nat (a * 256) b (by omega) (by omega)
  rw [show ((a : Int) * 256) = ((a * 256 : Nat) : Int) from by omega, e]
  have e2 : a * 256 ||| b = a * 256 + b := by
    have := Nat.shiftLeft_add_eq_or_of_lt (i := 8) (b := b) (by omega) a
    rw [Nat.shiftLeft_eq] at this
    exact this.symm
  rw [e2]
  omega

/-- What number answers, and what it leaves. -/
def NumPost (b : Nat) (lv : Value) (zs : List Int) (bad : Bool) (n : Nat) (w : World) (e : Ending) (w' : World) : Prop :=
  if n ≤ zs.length then e = .returned (.int .i64 (numOf (zs.take n))) ∧ (∃ lv', Rd w' b lv' (zs.drop n) bad ∧ lv'.ownBlock = lv.ownBlock) ∧ w.grownBy w' (some b)
  else e = .returned (.int .i64 0) ∧ (∃ lv', Rd w' b lv' zs true ∧ lv'.ownBlock = lv.ownBlock) ∧ w.grownBy w' (some b)

set_option maxHeartbeats 1600000 in
theorem number_calls (b : Nat) (lv : Value) (zs : List Int) (bad : Bool) (n : Nat) (w : World) (hr : Rd w b lv zs bad) (hn : n ≤ 4) :
    Calls Try.prog 117 #[.pointer (some ⟨b, 0, none⟩), .int .i64 n] w (NumPost b lv zs bad n w) := by
  obtain ⟨A, c, rfl, hlc, hcm, _⟩ := id hr.2.1.form
  unfold maxLen at hcm
  obtain ⟨c0, c1, hf⟩ := hr.cells
  have f0 := hf 0
  have f1 := hf 1
  clear hf
  by_cases hlt : zs.length < n
  · have hp : ∀ e w', NumPost b (.slice A zs.length c) zs bad n w e w' ↔ (e = .returned (.int .i64 0) ∧ (∃ lv', Rd w' b lv' zs true ∧ lv'.ownBlock = (Value.slice A zs.length c).ownBlock) ∧ w.grownBy w' (some b)) := fun e w' => by unfold NumPost; rw [if_neg (by omega)]
    have HP := Lib.hid hp
    clear hp
    generalize NumPost b (.slice A zs.length c) zs bad n w = R at *
    go_enter Try.func117, Try.ntmps117
    go_wp2_with fail
    refine (HP.out _ _).2 ⟨rfl, ⟨_, hr.bad, rfl⟩, setCell_grown w _ _⟩
  · have hge : n ≤ zs.length := by omega
    have hp : ∀ e w', NumPost b (.slice A zs.length c) zs bad n w e w' ↔ (e = .returned (.int .i64 (numOf (zs.take n))) ∧ (∃ lv', Rd w' b lv' (zs.drop n) bad ∧ lv'.ownBlock = (Value.slice A zs.length c).ownBlock) ∧ w.grownBy w' (some b)) := fun e w' => by unfold NumPost; rw [if_pos hge]
    have HP := Lib.hid hp
    clear hp
    generalize NumPost b (.slice A zs.length c) zs bad n w = R at *
    have hz := hr.2.2.1
    go_enter Try.func117, Try.ntmps117
    go_wp2_with fail
    go_loopw [5, 25] (fun x i wr => ∃ k : Nat, k ≤ n ∧ i = .int .i64 k ∧ x = .int .i64 (numOf (zs.take k)) ∧ w = wr) (fun _ i _ => n - (intOf i).toNat)
    case atStart => exact ⟨0, by omega, rfl, rfl, rfl⟩
    case round =>
      obtain ⟨k, hk, rfl, rfl, rfl⟩ := hrel
      by_cases hkl : k < n
      · have hkz : k < zs.length := by omega
        obtain ⟨_, _, e1, _, _, hcells⟩ := hr.2.1.form
        cases e1
        obtain ⟨g, off, rfl, x0⟩ := hcells k hkz
        have HS := Lib.hid (show numOf (zs.take (k + 1)) = 256 * numOf (zs.take k) + zs[k] from by rw [List.take_succ_eq_append_getElem hkz, numOf_snoc])
        have hz1 := hz zs[k] (List.getElem_mem hkz)
        have hr1 := numOf_range k (zs.take k) (by rw [List.length_take]; omega) (fun z hm => hz z (List.mem_of_mem_take hm))
        have hx : zs[k]?.getD 0 = zs[k] := by simp [hkz]
        rw [hx] at x0
        clear hx hcells
        have hb : numOf (zs.take k) < 4294967296 := by
          have : (256 : Int) ^ k ≤ 16777216 := by rcases (by omega : k = 0 ∨ k = 1 ∨ k = 2 ∨ k = 3) with e | e | e | e <;> rw [e] <;> decide
          omega
        have h0 := hr1.1
        clear hr1
        have ho := or_byte (numOf (zs.take k)) zs[k] h0 (by omega) hz1.1 hz1.2
        have h256 : numOf (zs.take k) * 256 < 9223372036854775807 := by omega
        generalize numOf (zs.take k) = x at *
        generalize zs[k] = z at *
        go_wp2_with fail
        go_roundw
        case rel => exact ⟨k + 1, by omega, by go_num, by rw [HS.out], trivial⟩
        case measure => simp [intOf]; omega
      · obtain rfl : k = n := by omega
        have hdz : ∀ z ∈ zs.drop k, 0 ≤ z ∧ z ≤ 255 := fun z hm => hz z (List.mem_of_mem_drop hm)
        have hnb := hr.2.2.2
        obtain ⟨_, _, e1, _, _, _, hat⟩ := hr.2.1
        cases e1
        have hld : (zs.drop k).length = zs.length - k := List.length_drop
        by_cases hc : c = k
        · subst hc
          have hdr : Ints .u8 w (.slice A 0 0) (zs.drop c) := by
            have e : zs.drop c = [] := List.drop_of_length_le (by omega)
            rw [e]
            exact ⟨A, 0, rfl, Nat.le_refl _, by omega, rfl, At.nil _ _⟩
          have hob : (Value.slice A 0 0).ownBlock = (Value.slice A zs.length c).ownBlock := by cases A <;> rfl
          have hR := hr.left hdr hdz (Or.inl (List.drop_of_length_le (by omega)))
          clear hat hld
          go_wp2_with fail
          exact (HP.out _ _).2 ⟨rfl, ⟨_, hR, hob⟩, setCell_grown w _ _⟩
        · have hdr : Ints .u8 w (.slice (A.map fun a => a.add k) (zs.length - k) (c - k)) (zs.drop k) := by
            refine ⟨A.map fun a => a.add k, c - k, by rw [hld], by omega, by unfold maxLen; omega, by simp, fun j u hj => ?_⟩
            rw [List.map_drop, List.getElem?_drop] at hj
            obtain ⟨g, off, rfl, hc⟩ := hat _ _ hj
            refine ⟨g, off + k, ?_, ?_⟩
            · simp only [Option.map_some, Option.some.injEq]
              unfold Addr.add
              split <;> simp_all
            · rw [show off + k + j = off + (k + j) from by omega]
              exact hc
          have hob : (Value.slice (A.map fun a => a.add k) (zs.length - k) (c - k)).ownBlock = (Value.slice A zs.length c).ownBlock := by
            cases A with
            | none => rfl
            | some ad =>
              have hb : (ad.add k).block = ad.block := by unfold Addr.add; split <;> rfl
              simp only [Option.map_some, Value.ownBlock, hb]
          have hR := hr.left hdr hdz (by
            rcases hnb with h | h
            · exact Or.inl (by rw [h]; simp)
            · exact Or.inr (by rw [hob]; exact h))
          clear hat hld
          go_wp2_with fail
          exact (HP.out _ _).2 ⟨rfl, ⟨_, hR, hob⟩, setCell_grown w _ _⟩

end Go.Proofs.Ytdhdbmfipkppiaa.Isa

namespace Go.Proofs.Ytdhdbmfipkppiaa.Isa
set_option linter.unusedSimpArgs false
set_option linter.unusedVariables false
set_option linter.unnecessarySimpa false
set_option maxRecDepth 10000
open Go.RowKit

theorem setRow_grownH (w : World) (g : Nat) (cs : Array Value) : w.grownBy (w.setRow g cs) (some g) := ⟨rfl, rfl, rfl, by simp, fun k _ hk => setRow_other w g k cs (fun e => hk (by rw [e]))⟩

def inB (x lo hi : Int) : Bool := decide (lo ≤ x ∧ x ≤ hi)

theorem in_calls (x lo hi : Int) (w : World) : Calls Try.prog 108 #[.int .i64 x, .int .i64 lo, .int .i64 hi] w fun e w' => e = .returned (.bool (inB x lo hi)) ∧ w = w' := by
  have hI : Hid (inB x lo hi = decide (lo ≤ x ∧ x ≤ hi)) := rfl
  generalize inB x lo hi = q at *
  by_cases h1 : lo ≤ x
  · go_enter Try.func108, Try.ntmps108
    go_wp2
    go_ret
    exact ⟨ret_bool (by rw [hI.out, Bool.eq_iff_iff]; simp; omega), rfl⟩
  · go_enter Try.func108, Try.ntmps108
    go_wp2
    go_ret
    exact ⟨ret_bool (by rw [hI.out, Bool.eq_iff_iff]; simp; omega), rfl⟩

/-- What the reference looks at, kind by kind. -/
def looks (c : Cm) : Bool :=
  if c.k = 1 ∨ c.k = 2 then inB c.r 1 16 && inB c.o 1 128 && inB c.d 0 65535 && inB c.p 0 1023
  else if c.k = 3 then inB c.n 0 11 && inB c.f 0 15 && inB c.r 1 16 && inB c.p 0 1023 && (inB c.i0 0 1023 && inB c.b0 0 15 && inB c.h0 0 16) && (inB c.i1 0 1023 && inB c.b1 0 15 && inB c.h1 0 16)
  else if c.k = 4 then inB c.n 0 11 && inB c.r 1 16
  else if c.k = 5 ∨ c.k = 6 then inB c.s 0 7
  else inB c.k 1 7

def rest (c : Cm) : Cm :=
  if c.k = 1 ∨ c.k = 2 then { c with r := 0, o := 0, d := 0, p := 0 }
  else if c.k = 3 then { Cm.of c.k with s := c.s, o := c.o, d := c.d }
  else if c.k = 4 then { c with n := 0, r := 0 }
  else if c.k = 5 ∨ c.k = 6 then { c with s := 0 }
  else c

theorem mayB_looks (c : Cm) : mayB c = (looks c && decide (rest c = Cm.of c.k)) := by
  have ext : ∀ a b : Cm, a = b ↔ a.k = b.k ∧ a.s = b.s ∧ a.n = b.n ∧ a.f = b.f ∧ a.r = b.r ∧ a.o = b.o ∧ a.d = b.d ∧ a.p = b.p ∧ a.i0 = b.i0 ∧ a.i1 = b.i1 ∧ a.b0 = b.b0 ∧ a.b1 = b.b1 ∧ a.h0 = b.h0 ∧ a.h1 = b.h1 := by
    intro a b
    constructor
    · rintro rfl; simp
    · obtain ⟨k, s, n, f, r, o, d, p, i0, i1, b0, b1, h0, h1⟩ := a
      obtain ⟨k', s', n', f', r', o', d', p', i0', i1', b0', b1', h0', h1'⟩ := b
      simp only
      rintro ⟨rfl, rfl, rfl, rfl, rfl, rfl, rfl, rfl, rfl, rfl, rfl, rfl, rfl, rfl⟩
      rfl
  rw [Bool.eq_iff_iff, Bool.and_eq_true, decide_eq_true_iff]
  by_cases h1 : c.k = 1 ∨ c.k = 2
  · rw [mayB_load h1]
    unfold looks rest
    rw [if_pos h1, if_pos h1, ext]
    simp only [inB, Cm.of, Bool.and_eq_true, decide_eq_true_iff, true_and]
    omega
  · by_cases h3 : c.k = 3
    · rw [mayB_tile h3]
      unfold looks rest
      rw [if_neg h1, if_pos h3, if_neg h1, if_pos h3, ext]
      simp only [inB, Cm.of, Bool.and_eq_true, decide_eq_true_iff, true_and, and_true]
      omega
    · by_cases h4 : c.k = 4
      · rw [mayB_kernel h4]
        unfold looks rest
        rw [if_neg h1, if_neg h3, if_pos h4, if_neg h1, if_neg h3, if_pos h4, ext]
        simp only [inB, Cm.of, Bool.and_eq_true, decide_eq_true_iff, true_and]
      · by_cases h5 : c.k = 5 ∨ c.k = 6
        · rw [mayB_sem h5]
          unfold looks rest
          rw [if_neg h1, if_neg h3, if_neg h4, if_pos h5, if_neg h1, if_neg h3, if_neg h4, if_pos h5, ext]
          simp only [inB, Cm.of, decide_eq_true_iff, true_and]
        · unfold looks rest
          rw [if_neg h1, if_neg h3, if_neg h4, if_neg h5, if_neg h1, if_neg h3, if_neg h4, if_neg h5, ext]
          simp only [inB, Cm.of, decide_eq_true_iff, true_and]
          by_cases h7 : c.k = 7
          · rw [mayB_halt h7]
            omega
          · rw [mayB_none (by omega)]
            simp <;> omega

theorem cells_one (l : List Int) : ((l.map (Value.int .i64)).toArray.all (fun x => x.oneCell')) = true := by
  rw [Array.all_eq_true_iff_forall_mem]
  intro x hx
  simp only [List.mem_toArray, List.mem_map] at hx
  obtain ⟨z, _, rfl⟩ := hx
  rfl

def accB (g : Bool) (i0 i1 b0 b1 h0 h1 : Int) : Nat → Bool
  | 0 => g
  | 1 => g && (inB i0 0 1023 && inB b0 0 15 && inB h0 0 16)
  | _ => (g && (inB i0 0 1023 && inB b0 0 15 && inB h0 0 16)) && (inB i1 0 1023 && inB b1 0 15 && inB h1 0 16)

def restOk (c : Cm) : Bool := decide (rest c = Cm.of c.k)

set_option maxRecDepth 20000 in
set_option maxHeartbeats 6400000 in
theorem refMay_core (C : Cm) (k s n f r o d p i0 i1 b0 b1 h0 h1 : Int) (HC : Hid (C = ⟨k, s, n, f, r, o, d, p, i0, i1, b0, b1, h0, h1⟩)) (w : World) :
    Calls Try.prog 71 #[.agg #[.int .i64 k, .int .i64 s, .int .i64 n, .int .i64 f, .int .i64 r, .int .i64 o, .int .i64 d, .int .i64 p, .int .i64 i0, .int .i64 i1, .int .i64 b0, .int .i64 b1, .int .i64 h0, .int .i64 h1]] w fun e w' => e = .returned (.int .i64 (mayE C)) ∧ Below w.heap.size w w' := by
  have HM : Hid (mayE C = if (looks C && restOk C) then 0 else 1) := by
    show _ = _
    unfold mayE
    rw [mayB_looks]
    rfl
  generalize mayE C = me at *
  have hbox := cbox_new w ⟨k, s, n, f, r, o, d, p, i0, i1, b0, b1, h0, h1⟩
  have hnew := below_alloc (Below.refl w.heap.size w) (Nat.le_refl _) (.cells #[.int .i64 k, .int .i64 s, .int .i64 n, .int .i64 f, .int .i64 r, .int .i64 o, .int .i64 d, .int .i64 p, .int .i64 i0, .int .i64 i1, .int .i64 b0, .int .i64 b1, .int .i64 h0, .int .i64 h1] 57)
  simp only at hbox
  go_enter Try.func71, Try.ntmps71
  go_wp2_with fail
  generalize w.alloc _ = w0 at *
  refine (in_calls _ _ _ _).mono ?_
  rintro e w' ⟨rfl, rfl⟩
  obtain ⟨x0, x1, x2, x3, x4, x5, x6, x7, x8, x9, x10, x11, x12, x13⟩ := hbox.all
  have fz := hbox.frozen
  go_upto_block 0 with fail
  go_cut [3] (fun s3 wx => s3 = .bool (looks C) ∧ CBox wx w.heap.size (rest C).l ∧ Below w.heap.size w wx)
  case first =>
    by_cases h12 : k = 1 ∨ k = 2
    · have HL : Hid (looks C = (inB r 1 16 && inB o 1 128 && inB d 0 65535 && inB p 0 1023)) := by show _ = _; rw [HC.out]; exact if_pos h12
      have HR : Hid ((rest C).l = [k, s, n, f, 0, 0, 0, 0, i0, i1, b0, b1, h0, h1]) := by show _ = _; rw [HC.out]; unfold rest; rw [if_pos h12]; rfl
      have e1 := ((((hbox.set 4 0).set 5 0).set 6 0).set 7 0)
      have e2 := (((hnew.setCell (p := ⟨w.heap.size, 4, none⟩) (Nat.le_refl _) (.int .i64 0)).setCell (p := ⟨w.heap.size, 5, none⟩) (Nat.le_refl _) (.int .i64 0)).setCell (p := ⟨w.heap.size, 6, none⟩) (Nat.le_refl _) (.int .i64 0)).setCell (p := ⟨w.heap.size, 7, none⟩) (Nat.le_refl _) (.int .i64 0)
      clear hbox hnew
      rcases h12 with rfl | rfl
      all_goals
        go_wp2_with (with_reducible refine (in_calls _ _ _ _).mono ?_; rintro e w' ⟨rfl, rfl⟩)
        all_goals
          go_meet
          exact ⟨congrArg Value.bool (by rw [HL.out]; simp only [*, Bool.and_true, Bool.true_and, Bool.and_false, Bool.false_and]), by rw [HR.out]; exact e1, e2⟩
    · by_cases h3 : k = 3
      · have HL : Hid (looks C = (inB n 0 11 && inB f 0 15 && inB r 1 16 && inB p 0 1023 && (inB i0 0 1023 && inB b0 0 15 && inB h0 0 16) && (inB i1 0 1023 && inB b1 0 15 && inB h1 0 16))) := by
          show _ = _; rw [HC.out]; unfold looks; rw [if_neg h12, if_pos h3]
        have HR : Hid ((rest C).l = [k, s, 0, 0, 0, o, d, 0, 0, 0, 0, 0, 0, 0]) := by show _ = _; rw [HC.out]; unfold rest; rw [if_neg h12, if_pos h3]; rfl
        subst h3
        clear h12
        go_upto_region 12 with fail
        go_cut [3] (fun s3 wx => s3 = .bool (inB n 0 11 && inB f 0 15 && inB r 1 16 && inB p 0 1023) ∧ w0 = wx)
        case first =>
          go_wp2_with (with_reducible refine (in_calls _ _ _ _).mono ?_; rintro e w' ⟨rfl, rfl⟩)
          all_goals
            go_meet
            exact ⟨congrArg Value.bool (by simp only [*, Bool.and_true, Bool.true_and, Bool.and_false, Bool.false_and]), rfl⟩
        obtain ⟨rfl, rfl⟩ := hcut
        generalize (inB n 0 11 && inB f 0 15 && inB r 1 16 && inB p 0 1023) = g0 at *
        have HA0 : Hid (accB g0 i0 i1 b0 b1 h0 h1 0 = g0) := rfl
        have HA1 : Hid (accB g0 i0 i1 b0 b1 h0 h1 1 = (g0 && (inB i0 0 1023 && inB b0 0 15 && inB h0 0 16))) := rfl
        have HA2 : Hid (accB g0 i0 i1 b0 b1 h0 h1 2 = (accB g0 i0 i1 b0 b1 h0 h1 1 && (inB i1 0 1023 && inB b1 0 15 && inB h1 0 16))) := rfl
        rw [← HA1.out, ← HA2.out] at HL
        go_wp2_with fail
        go_loop [3, 5] (fun t i => ∃ j : Nat, j ≤ 2 ∧ i = .int .i64 j ∧ t = .bool (accB g0 i0 i1 b0 b1 h0 h1 j)) (fun _ i => 2 - (intOf i).toNat)
        case atStart => exact ⟨0, by omega, rfl, rfl⟩
        case round =>
          obtain ⟨j, hj, rfl, rfl⟩ := hrel
          rcases (by omega : j = 0 ∨ j = 1 ∨ j = 2) with rfl | rfl | rfl
          · rw [HA0.out]
            cases g0
            all_goals
              go_wp2_with (with_reducible refine (in_calls _ _ _ _).mono ?_; rintro e w' ⟨rfl, rfl⟩)
              all_goals
                go_round
                case rel => exact ⟨1, by omega, rfl, congrArg Value.bool (by rw [HA1.out]; simp [*])⟩
                case measure => simp [intOf]
          · generalize accB g0 i0 i1 b0 b1 h0 h1 1 = g1 at *
            cases g1
            all_goals
              go_wp2_with (with_reducible refine (in_calls _ _ _ _).mono ?_; rintro e w' ⟨rfl, rfl⟩)
              all_goals
                go_round
                case rel => exact ⟨2, by omega, rfl, congrArg Value.bool (by rw [HA2.out]; simp [*])⟩
                case measure => simp [intOf]
          · rw [show ((2 : Nat) : Int) = 2 from rfl]
            have e1 : CBox (w0.setRow w.heap.size #[.int .i64 3, .int .i64 s, .int .i64 0, .int .i64 0, .int .i64 0, .int .i64 o, .int .i64 d, .int .i64 0, .int .i64 0, .int .i64 0, .int .i64 0, .int .i64 0, .int .i64 0, .int .i64 0]) w.heap.size [3, s, 0, 0, 0, o, d, 0, 0, 0, 0, 0, 0, 0] := setRow_heap w0 w.heap.size _ _ _ _ hbox
            have e2 : Below w.heap.size w (w0.setRow w.heap.size #[.int .i64 3, .int .i64 s, .int .i64 0, .int .i64 0, .int .i64 0, .int .i64 o, .int .i64 d, .int .i64 0, .int .i64 0, .int .i64 0, .int .i64 0, .int .i64 0, .int .i64 0, .int .i64 0]) := Below.grown hnew (setRow_grownH w0 w.heap.size _) hnew.size (fun k hk => by cases hk; exact Nat.le_refl _)
            go_wp2_with (refine wpList_store_row rfl 57 _ _ rfl w.heap.size #[.int .i64 3, .int .i64 s, .int .i64 0, .int .i64 0, .int .i64 0, .int .i64 o, .int .i64 d, .int .i64 0, .int .i64 0, .int .i64 0, .int .i64 0, .int .i64 0, .int .i64 0, .int .i64 0] rfl rfl 57 _ hbox (by kernel_rfl) rfl (cells_one [3, s, 0, 0, 0, o, d, 0, 0, 0, 0, 0, 0, 0]) ?_)
            go_meet
            exact ⟨congrArg Value.bool HL.out.symm, by rw [HR.out]; exact e1, e2⟩
      · by_cases h4 : k = 4
        · have HL : Hid (looks C = (inB n 0 11 && inB r 1 16)) := by show _ = _; rw [HC.out]; unfold looks; rw [if_neg h12, if_neg h3, if_pos h4]
          have HR : Hid ((rest C).l = [k, s, 0, f, 0, o, d, p, i0, i1, b0, b1, h0, h1]) := by show _ = _; rw [HC.out]; unfold rest; rw [if_neg h12, if_neg h3, if_pos h4]; rfl
          have e1 := ((hbox.set 2 0).set 4 0)
          have e2 := ((hnew.setCell (p := ⟨w.heap.size, 2, none⟩) (Nat.le_refl _) (.int .i64 0)).setCell (p := ⟨w.heap.size, 4, none⟩) (Nat.le_refl _) (.int .i64 0))
          clear hbox hnew h12 h3
          subst h4
          go_wp2_with (with_reducible refine (in_calls _ _ _ _).mono ?_; rintro e w' ⟨rfl, rfl⟩)
          all_goals
            go_meet
            exact ⟨congrArg Value.bool (by rw [HL.out]; simp only [*, Bool.true_and, Bool.false_and]), by rw [HR.out]; exact e1, e2⟩
        · by_cases h5 : k = 5 ∨ k = 6
          · have HL : Hid (looks C = inB s 0 7) := by show _ = _; rw [HC.out]; unfold looks; rw [if_neg h12, if_neg h3, if_neg h4, if_pos h5]
            have HR : Hid ((rest C).l = [k, 0, n, f, r, o, d, p, i0, i1, b0, b1, h0, h1]) := by show _ = _; rw [HC.out]; unfold rest; rw [if_neg h12, if_neg h3, if_neg h4, if_pos h5]; rfl
            have e1 := hbox.set 1 0
            have e2 := hnew.setCell (p := ⟨w.heap.size, 1, none⟩) (Nat.le_refl _) (.int .i64 0)
            clear hbox hnew h12 h3 h4
            rcases h5 with rfl | rfl
            all_goals
              go_wp2_with (with_reducible refine (in_calls _ _ _ _).mono ?_; rintro e w' ⟨rfl, rfl⟩)
              all_goals
                go_meet
                exact ⟨congrArg Value.bool (by rw [HL.out]), by rw [HR.out]; exact e1, e2⟩
          · have HL : Hid (looks C = inB k 1 7) := by show _ = _; rw [HC.out]; unfold looks; rw [if_neg h12, if_neg h3, if_neg h4, if_neg h5]
            have HR : Hid ((rest C).l = [k, s, n, f, r, o, d, p, i0, i1, b0, b1, h0, h1]) := by show _ = _; rw [HC.out]; unfold rest; rw [if_neg h12, if_neg h3, if_neg h4, if_neg h5]; rfl
            have n1 : ¬ k = 1 := by omega
            have n2 : ¬ k = 2 := by omega
            have n5 : ¬ k = 5 := by omega
            have n6 : ¬ k = 6 := by omega
            go_wp2_with fail
            all_goals
              go_meet
              exact ⟨congrArg Value.bool (by rw [HL.out]), by rw [HR.out]; exact hbox, hnew⟩
  obtain ⟨rfl, hb2, hE⟩ := hcut
  clear x0 x1 x2 x3 x4 x5 x6 x7 x8 x9 x10 x11 x12 x13 fz hnew hbox
  obtain ⟨rc, hrc⟩ : ∃ rc, rest C = rc := ⟨_, rfl⟩
  have hrk : rc.k = k := by
    rw [← hrc, HC.out]
    unfold rest
    split
    · rfl
    · split
      · rfl
      · split
        · rfl
        · split <;> rfl
  have hro : restOk C = decide (rc = Cm.of k) := by
    unfold restOk
    rw [Bool.eq_iff_iff, decide_eq_true_iff, decide_eq_true_iff, hrc, HC.out]
  rw [hrc] at hb2
  have HM2 : Hid (me = if (looks C && decide (rc = Cm.of k)) then 0 else 1) := by
    show _ = _
    rw [HM.out, hro]
  clear hrc hro HM
  obtain ⟨x0, x1, x2, x3, x4, x5, x6, x7, x8, x9, x10, x11, x12, x13⟩ := hb2.all
  rw [hrk] at x0
  have hq := fun w => cmd_neq rc (Cm.of k) w
  unfold Cm.v Cm.of at hq
  simp only at hq
  rw [hrk] at hq
  unfold Cm.of at HM2
  have hgd : Try.prog.eqGuardType Try.prog.depth 57 = false := by kernel_rfl
  clear hrk
  generalize decide (rc = ⟨k, 0, 0, 0, 0, 0, 0, 0, 0, 0, 0, 0, 0, 0⟩) = q at *
  generalize looks C = lk at *
  cases lk <;> cases q
  all_goals
    go_wp2_with fail
    go_ret
    exact ⟨ret_int (by rw [HM2.out]; rfl), hE⟩

theorem refMay_calls (c : Cm) (w : World) : Calls Try.prog 71 #[c.v] w fun e w' => e = .returned (.int .i64 (mayE c)) ∧ Below w.heap.size w w' :=
  refMay_core c c.k c.s c.n c.f c.r c.o c.d c.p c.i0 c.i1 c.b0 c.b1 c.h0 c.h1 rfl w

end Go.Proofs.Ytdhdbmfipkppiaa.Isa

namespace Go.Proofs.Ytdhdbmfipkppiaa.Isa
set_option linter.unusedSimpArgs false
set_option linter.unusedVariables false
set_option linter.unnecessarySimpa false
set_option maxRecDepth 10000
open Go.RowKit

theorem be_one (x : Int) : be x 1 = [x % 256] := by simp [be, byteAt]

def tileB (i0 i1 b0 b1 h0 h1 : Int) : Nat → List Int
  | 0 => []
  | 1 => be i0 2 ++ be b0 1 ++ be h0 1
  | _ => be i0 2 ++ be b0 1 ++ be h0 1 ++ be i1 2 ++ be b1 1 ++ be h1 1

def GrewB (w : World) (base : Nat) (v : Value) (bs : List Int) (w' : World) (v' : Value) : Prop := Grew w base 5 1 v bs.length (bs.map (.int .u8)) w' v'

def PutCPost (w : World) (base : Nat) (v : Value) (bs : List Int) (ed : Ending) (w' : World) : Prop := ∃ v', ed = .returned v' ∧ GrewB w base v bs w' v'

set_option maxRecDepth 20000 in
set_option maxHeartbeats 6400000 in
theorem refPut1_core (C : Cm) (k s n f r o d p i0 i1 b0 b1 h0 h1 : Int) (HC : Hid (C = ⟨k, s, n, f, r, o, d, p, i0, i1, b0, b1, h0, h1⟩)) (base : Nat) (v : Value) (bs : List Int) (w : World)
    (hown : w.ownsRow base 5 1 v bs.length (bs.map (.int .u8))) (hbase : base ≤ w.heap.size) (hn : bs.length + 20 ≤ 1099511627776) :
    Calls Try.prog 80 #[v, .agg #[.int .i64 k, .int .i64 s, .int .i64 n, .int .i64 f, .int .i64 r, .int .i64 o, .int .i64 d, .int .i64 p, .int .i64 i0, .int .i64 i1, .int .i64 b0, .int .i64 b1, .int .i64 h0, .int .i64 h1]] w (PutCPost w base v (bs ++ enc C)) := by
  have hP : ∀ e w' v', e = .returned v' → GrewB w base v (bs ++ enc C) w' v' → PutCPost w base v (bs ++ enc C) e w' := fun e w' v' h1 h2 => ⟨v', h1, h2⟩
  have HP := Lib.hid hP
  clear hP
  have HE : Hid (enc C = be k 1 ++ (tbl k).flatMap fun x => be (C.l[x.at_]?.getD 0) x.wide) := by show _ = _; rw [HC.out]; rfl
  generalize PutCPost w base v (bs ++ enc C) = R at *
  have hbox := cbox_new w ⟨k, s, n, f, r, o, d, p, i0, i1, b0, b1, h0, h1⟩
  simp only at hbox
  have hga := (Grew.refl hown).alloc (.cells #[.int .i64 k, .int .i64 s, .int .i64 n, .int .i64 f, .int .i64 r, .int .i64 o, .int .i64 d, .int .i64 p, .int .i64 i0, .int .i64 i1, .int .i64 b0, .int .i64 b1, .int .i64 h0, .int .i64 h1] 57)
  have hB0 : w.heap.size < (w.alloc (.cells #[.int .i64 k, .int .i64 s, .int .i64 n, .int .i64 f, .int .i64 r, .int .i64 o, .int .i64 d, .int .i64 p, .int .i64 i0, .int .i64 i1, .int .i64 b0, .int .i64 b1, .int .i64 h0, .int .i64 h1] 57)).heap.size := by simp
  have hvB : some w.heap.size ≠ v.ownBlock := fun e => by have := (hown.lt _ e.symm).2; omega
  go_enter Try.func80, Try.ntmps80
  go_wp2_with (at_builtin; refine stopped ?_)
  have hnew := row_lit (w.alloc (.cells #[.int .i64 k, .int .i64 s, .int .i64 n, .int .i64 f, .int .i64 r, .int .i64 o, .int .i64 d, .int .i64 p, .int .i64 i0, .int .i64 i1, .int .i64 b0, .int .i64 b1, .int .i64 h0, .int .i64 h1] 57)) #[.int .u8 (k % 256)] 5 1 1 (w.heap.size + 1) (by simp) rfl (by unfold maxLen; omega)
  have hg1 := hga.alloc (.cells #[.int .u8 (k % 256)] 5)
  have hbox1 := hbox.below (below_alloc (Below.refl _ _) (Nat.le_refl _) (.cells #[.int .u8 (k % 256)] 5)) hB0
  have hB1 := hbox1.lt
  refine wpList_append_row rfl rfl elem_u8 hg1.own rfl hnew rfl (by intro u hu; simp at hu; subst hu; rfl) (by omega) (by omega) (Nat.le_trans hbase hg1.grown.size) ?_
  intro v2 w2 ho hgr hnr
  have hg2 : Grew w base 5 1 v (bs ++ be k 1).length ((bs ++ be k 1).map (.int .u8)) w2 v2 := by
    refine hg1.append ?_ hgr hnr
    rw [be_one, List.length_append, List.map_append]
    exact ho
  have hbox2 : CBox w2 w.heap.size [k, s, n, f, r, o, d, p, i0, i1, b0, b1, h0, h1] := (hgr.block _ hB1 hvB).trans hbox1
  have hv2 : some w.heap.size ≠ v2.ownBlock := fun e => by
    rcases hnr _ e.symm with h | h
    · exact hvB h.symm
    · omega
  have hl2 : (bs ++ be k 1).length ≤ bs.length + 1 := by rw [List.length_append, be_len]; omega
  have hB2 := hbox2.lt
  clear hbox hga hB0 hnew hg1 hbox1 hB1 ho hgr hnr hvB hown
  obtain ⟨x0, x1, x2, x3, x4, x5, x6, x7, x8, x9, x10, x11, x12, x13⟩ := CBox.all (c := ⟨k, s, n, f, r, o, d, p, i0, i1, b0, b1, h0, h1⟩) hbox2
  simp only at x0 x1 x2 x3 x4 x5 x6 x7 x8 x9 x10 x11 x12 x13
  by_cases h12 : k = 1 ∨ k = 2
  · have ht : tbl k = [⟨4, 1, 1, 16⟩, ⟨5, 2, 1, 128⟩, ⟨6, 3, 0, 65535⟩, ⟨7, 2, 0, 1023⟩] := if_pos h12
    have HTB := Lib.hid ht
    clear ht
    rcases h12 with hk | hk
    all_goals
      go_wp2_with fail
      have x4k : ∀ W', Keeps [w.heap.size] w2 W' → W'.cell? ⟨w.heap.size, 4, none⟩ = some (.int .i64 r) := fun W' hW => (hW.cell (by simp)).trans x4
      have x5k : ∀ W', Keeps [w.heap.size] w2 W' → W'.cell? ⟨w.heap.size, 5, none⟩ = some (.int .i64 o) := fun W' hW => (hW.cell (by simp)).trans x5
      have x6k : ∀ W', Keeps [w.heap.size] w2 W' → W'.cell? ⟨w.heap.size, 6, none⟩ = some (.int .i64 d) := fun W' hW => (hW.cell (by simp)).trans x6
      have x7k : ∀ W', Keeps [w.heap.size] w2 W' → W'.cell? ⟨w.heap.size, 7, none⟩ = some (.int .i64 p) := fun W' hW => (hW.cell (by simp)).trans x7
      refine wp_region_S (Keeps [w.heap.size] w2) [(0, true), (1, true), (2, true), (4, true), (5, true), (7, true), (8, true), (10, true), (11, true), (3, false), (6, false), (9, false), (12, false), (13, true)] (by kernel_rfl) (by kernel_rfl) (fun _ _ d _ _ h => by cases d <;> exact h) (Keeps.drew _ _) ?_
      simp only [pickE, List.getElem?_cons_zero, List.getElem?_cons_succ]
      repeat (refine wpF_pure (by rfl) (fun W hW => by go_simp; with_reducible rfl) ?_; simp only [Act.put, List.setIfInBounds_toArray, List.set_cons_zero, List.set_cons_succ])
      have g0 := hg2.drew
      have K0 : Keeps [w.heap.size] w2 w2.drew := Keeps.drew _ _
      have v0 := hv2
      have s0 : w.heap.size < w2.drew.heap.size := hB2
      have l0 := hl2
      clear x4k x5k x6k x7k
      generalize w2.drew = y0 at *
      have hn0 := refNumber_calls base v2 (bs ++ be k 1) r 1 y0 g0.own (Nat.le_trans hbase g0.grown.size) (by omega) (by have := l0; omega)
      refine wpF_step (by rfl) (fun K hK => ?_)
      go_simp
      refine hn0.mono ?_
      rintro e y1 ⟨z1, rfl, q1⟩
      have K1 := K0.trans (Keeps.grown q1.grown (bs := [w.heap.size]) (fun k hk => by simp only [List.mem_cons, List.not_mem_nil, or_false] at hk; subst hk; exact ⟨s0, v0⟩))
      refine hK _ _ K1 ?_
      clear hK K hn0
      have v1 : some w.heap.size ≠ z1.ownBlock := fun e => by rcases q1.near _ e.symm with h | h; exact v0 h.symm; omega
      have s1 : w.heap.size < y1.heap.size := Nat.lt_of_lt_of_le s0 q1.grown.size
      have g1 := g0.trans q1
      have l1 : ((bs ++ be k 1) ++ be r 1).length ≤ bs.length + 2 := by have := l0; rw [List.length_append, be_len]; omega
      have hn1 := refNumber_calls base z1 ((bs ++ be k 1) ++ be r 1) o 2 y1 g1.own (Nat.le_trans hbase g1.grown.size) (by omega) (by have := l1; omega)
      refine wpF_step (by rfl) (fun K hK => ?_)
      go_simp
      refine hn1.mono ?_
      rintro e y2 ⟨z2, rfl, q2⟩
      have K2 := K1.trans (Keeps.grown q2.grown (bs := [w.heap.size]) (fun k hk => by simp only [List.mem_cons, List.not_mem_nil, or_false] at hk; subst hk; exact ⟨s1, v1⟩))
      refine hK _ _ K2 ?_
      clear hK K hn1
      have v2 : some w.heap.size ≠ z2.ownBlock := fun e => by rcases q2.near _ e.symm with h | h; exact v1 h.symm; omega
      have s2 : w.heap.size < y2.heap.size := Nat.lt_of_lt_of_le s1 q2.grown.size
      have g2 := g1.trans q2
      have l2 : (((bs ++ be k 1) ++ be r 1) ++ be o 2).length ≤ bs.length + 4 := by have := l1; rw [List.length_append, be_len]; omega
      have hn2 := refNumber_calls base z2 (((bs ++ be k 1) ++ be r 1) ++ be o 2) d 3 y2 g2.own (Nat.le_trans hbase g2.grown.size) (by omega) (by have := l2; omega)
      refine wpF_step (by rfl) (fun K hK => ?_)
      go_simp
      refine hn2.mono ?_
      rintro e y3 ⟨z3, rfl, q3⟩
      have K3 := K2.trans (Keeps.grown q3.grown (bs := [w.heap.size]) (fun k hk => by simp only [List.mem_cons, List.not_mem_nil, or_false] at hk; subst hk; exact ⟨s2, v2⟩))
      refine hK _ _ K3 ?_
      clear hK K hn2
      have v3 : some w.heap.size ≠ z3.ownBlock := fun e => by rcases q3.near _ e.symm with h | h; exact v2 h.symm; omega
      have s3 : w.heap.size < y3.heap.size := Nat.lt_of_lt_of_le s2 q3.grown.size
      have g3 := g2.trans q3
      have l3 : ((((bs ++ be k 1) ++ be r 1) ++ be o 2) ++ be d 3).length ≤ bs.length + 7 := by have := l2; rw [List.length_append, be_len]; omega
      have hn3 := refNumber_calls base z3 ((((bs ++ be k 1) ++ be r 1) ++ be o 2) ++ be d 3) p 2 y3 g3.own (Nat.le_trans hbase g3.grown.size) (by omega) (by have := l3; omega)
      refine wpF_step (by rfl) (fun K hK => ?_)
      go_simp
      refine hn3.mono ?_
      rintro e y4 ⟨z4, rfl, q4⟩
      have K4 := K3.trans (Keeps.grown q4.grown (bs := [w.heap.size]) (fun k hk => by simp only [List.mem_cons, List.not_mem_nil, or_false] at hk; subst hk; exact ⟨s3, v3⟩))
      refine hK _ _ K4 ?_
      clear hK K hn3
      have v4 : some w.heap.size ≠ z4.ownBlock := fun e => by rcases q4.near _ e.symm with h | h; exact v3 h.symm; omega
      have s4 : w.heap.size < y4.heap.size := Nat.lt_of_lt_of_le s3 q4.grown.size
      have g4 := g3.trans q4
      have l4 : (((((bs ++ be k 1) ++ be r 1) ++ be o 2) ++ be d 3) ++ be p 2).length ≤ bs.length + 9 := by have := l3; rw [List.length_append, be_len]; omega
      refine wpF_pure (by rfl) (fun W hW => by go_simp; with_reducible rfl) ?_
      simp only [Act.put, List.setIfInBounds_toArray, List.set_cons_zero]
      refine wpF_nil ?_
      have HF : Hid ((((((bs ++ be k 1) ++ be r 1) ++ be o 2) ++ be d 3) ++ be p 2) = bs ++ enc C) := by show _ = _; rw [HE.out, HC.out, HTB.out]; simp [Cm.l]
      have gF : GrewB w base v (bs ++ enc C) y4 z4 := by rw [← HF.out]; exact g4
      go_wp2_with fail
      exact HP.out _ _ _ rfl gF
  · by_cases h3 : k = 3
    · have ht : tbl k = [⟨2, 1, 0, 11⟩, ⟨3, 1, 0, 15⟩, ⟨4, 1, 1, 16⟩, ⟨7, 2, 0, 1023⟩, ⟨8, 2, 0, 1023⟩, ⟨10, 1, 0, 15⟩, ⟨12, 1, 0, 16⟩, ⟨9, 2, 0, 1023⟩, ⟨11, 1, 0, 15⟩, ⟨13, 1, 0, 16⟩] := by
        unfold tbl
        rw [if_neg (by omega), if_pos h3]
        rfl
      have HTB := Lib.hid ht
      clear ht h12
      have HK3 := Lib.hid h3
      go_wp2_with fail
      have x2k : ∀ W', Keeps [w.heap.size] w2 W' → W'.cell? ⟨w.heap.size, 2, none⟩ = some (.int .i64 n) := fun W' hW => (hW.cell (by simp)).trans x2
      have x3k : ∀ W', Keeps [w.heap.size] w2 W' → W'.cell? ⟨w.heap.size, 3, none⟩ = some (.int .i64 f) := fun W' hW => (hW.cell (by simp)).trans x3
      have x4k : ∀ W', Keeps [w.heap.size] w2 W' → W'.cell? ⟨w.heap.size, 4, none⟩ = some (.int .i64 r) := fun W' hW => (hW.cell (by simp)).trans x4
      have x7k : ∀ W', Keeps [w.heap.size] w2 W' → W'.cell? ⟨w.heap.size, 7, none⟩ = some (.int .i64 p) := fun W' hW => (hW.cell (by simp)).trans x7
      refine wp_region_S (Keeps [w.heap.size] w2) [(0, true), (1, true), (2, true), (4, true), (5, true), (7, true), (8, true), (10, true), (11, true), (3, false), (6, false), (9, false), (12, false), (13, true)] (by kernel_rfl) (by kernel_rfl) (fun _ _ d _ _ h => by cases d <;> exact h) (Keeps.drew _ _) ?_
      simp only [pickE, List.getElem?_cons_zero, List.getElem?_cons_succ]
      repeat (refine wpF_pure (by rfl) (fun W hW => by go_simp; with_reducible rfl) ?_; simp only [Act.put, List.setIfInBounds_toArray, List.set_cons_zero, List.set_cons_succ])
      have g0 := hg2.drew
      have K0 : Keeps [w.heap.size] w2 w2.drew := Keeps.drew _ _
      have v0 := hv2
      have s0 : w.heap.size < w2.drew.heap.size := hB2
      have l0 := hl2
      clear x2k x3k x4k x7k
      generalize w2.drew = y0 at *
      have hn0 := refNumber_calls base v2 (bs ++ be k 1) n 1 y0 g0.own (Nat.le_trans hbase g0.grown.size) (by omega) (by have := l0; omega)
      refine wpF_step (by rfl) (fun K hK => ?_)
      go_simp
      refine hn0.mono ?_
      rintro e y1 ⟨z1, rfl, q1⟩
      have K1 := K0.trans (Keeps.grown q1.grown (bs := [w.heap.size]) (fun k hk => by simp only [List.mem_cons, List.not_mem_nil, or_false] at hk; subst hk; exact ⟨s0, v0⟩))
      refine hK _ _ K1 ?_
      clear hK K hn0
      have v1 : some w.heap.size ≠ z1.ownBlock := fun e => by rcases q1.near _ e.symm with h | h; exact v0 h.symm; omega
      have s1 : w.heap.size < y1.heap.size := Nat.lt_of_lt_of_le s0 q1.grown.size
      have g1 := g0.trans q1
      have l1 : ((bs ++ be k 1) ++ be n 1).length ≤ bs.length + 2 := by have := l0; rw [List.length_append, be_len]; omega
      have hn1 := refNumber_calls base z1 ((bs ++ be k 1) ++ be n 1) f 1 y1 g1.own (Nat.le_trans hbase g1.grown.size) (by omega) (by have := l1; omega)
      refine wpF_step (by rfl) (fun K hK => ?_)
      go_simp
      refine hn1.mono ?_
      rintro e y2 ⟨z2, rfl, q2⟩
      have K2 := K1.trans (Keeps.grown q2.grown (bs := [w.heap.size]) (fun k hk => by simp only [List.mem_cons, List.not_mem_nil, or_false] at hk; subst hk; exact ⟨s1, v1⟩))
      refine hK _ _ K2 ?_
      clear hK K hn1
      have v2 : some w.heap.size ≠ z2.ownBlock := fun e => by rcases q2.near _ e.symm with h | h; exact v1 h.symm; omega
      have s2 : w.heap.size < y2.heap.size := Nat.lt_of_lt_of_le s1 q2.grown.size
      have g2 := g1.trans q2
      have l2 : (((bs ++ be k 1) ++ be n 1) ++ be f 1).length ≤ bs.length + 3 := by have := l1; rw [List.length_append, be_len]; omega
      have hn2 := refNumber_calls base z2 (((bs ++ be k 1) ++ be n 1) ++ be f 1) r 1 y2 g2.own (Nat.le_trans hbase g2.grown.size) (by omega) (by have := l2; omega)
      refine wpF_step (by rfl) (fun K hK => ?_)
      go_simp
      refine hn2.mono ?_
      rintro e y3 ⟨z3, rfl, q3⟩
      have K3 := K2.trans (Keeps.grown q3.grown (bs := [w.heap.size]) (fun k hk => by simp only [List.mem_cons, List.not_mem_nil, or_false] at hk; subst hk; exact ⟨s2, v2⟩))
      refine hK _ _ K3 ?_
      clear hK K hn2
      have v3 : some w.heap.size ≠ z3.ownBlock := fun e => by rcases q3.near _ e.symm with h | h; exact v2 h.symm; omega
      have s3 : w.heap.size < y3.heap.size := Nat.lt_of_lt_of_le s2 q3.grown.size
      have g3 := g2.trans q3
      have l3 : ((((bs ++ be k 1) ++ be n 1) ++ be f 1) ++ be r 1).length ≤ bs.length + 4 := by have := l2; rw [List.length_append, be_len]; omega
      have hn3 := refNumber_calls base z3 ((((bs ++ be k 1) ++ be n 1) ++ be f 1) ++ be r 1) p 2 y3 g3.own (Nat.le_trans hbase g3.grown.size) (by omega) (by have := l3; omega)
      refine wpF_step (by rfl) (fun K hK => ?_)
      go_simp
      refine hn3.mono ?_
      rintro e y4 ⟨z4, rfl, q4⟩
      have K4 := K3.trans (Keeps.grown q4.grown (bs := [w.heap.size]) (fun k hk => by simp only [List.mem_cons, List.not_mem_nil, or_false] at hk; subst hk; exact ⟨s3, v3⟩))
      refine hK _ _ K4 ?_
      clear hK K hn3
      have v4 : some w.heap.size ≠ z4.ownBlock := fun e => by rcases q4.near _ e.symm with h | h; exact v3 h.symm; omega
      have s4 : w.heap.size < y4.heap.size := Nat.lt_of_lt_of_le s3 q4.grown.size
      have g4 := g3.trans q4
      have l4 : (((((bs ++ be k 1) ++ be n 1) ++ be f 1) ++ be r 1) ++ be p 2).length ≤ bs.length + 6 := by have := l3; rw [List.length_append, be_len]; omega
      refine wpF_pure (by rfl) (fun W hW => by go_simp; with_reducible rfl) ?_
      simp only [Act.put, List.setIfInBounds_toArray, List.set_cons_zero]
      refine wpF_nil ?_
      have hbox4 : CBox y4 w.heap.size [k, s, n, f, r, o, d, p, i0, i1, b0, b1, h0, h1] := (K4.2 _ (by simp)).trans hbox2
      obtain ⟨bq, hbq⟩ : ∃ bq, (((((bs ++ be k 1) ++ be n 1) ++ be f 1) ++ be r 1) ++ be p 2) = bq := ⟨_, rfl⟩
      rw [hbq] at g4 l4
      have HBQ := Lib.hid hbq
      clear hbq K0 K1 K2 K3 K4 g0 g1 g2 g3 q1 q2 q3 q4 v0 v1 v3 s0 s1 s2 s3 s4 l0 l1 l2 l3 hbox2 x0 x1 x2 x3 x4 x5 x6 x7 x8 x9 x10 x11 x12 x13 hg2 hv2 hl2 hB2
      go_wp2_with fail
      go_loopw [0, 5] (fun b i wr => ∃ (j : Nat) (bj : List Int), j ≤ 2 ∧ i = .int .i64 j ∧ Hid (bj = bq ++ tileB i0 i1 b0 b1 h0 h1 j) ∧ Hid (bj.length ≤ bs.length + 10 + 4 * j) ∧ GrewB w base v bj wr b ∧ CBox wr w.heap.size [k, s, n, f, r, o, d, p, i0, i1, b0, b1, h0, h1] ∧ some w.heap.size ≠ b.ownBlock) (fun _ i _ => 2 - (intOf i).toNat)
      case atStart => exact ⟨0, bq, by omega, rfl, by show _ = _; simp [tileB], by show _ ≤ _; omega, g4, hbox4, v4⟩
      case round =>
        clear g4 hbox4 v4 l4
        obtain ⟨j, bj, hj, rfl, hbj, hbl, hgj, hboxj, hvj⟩ := hrel
        unfold GrewB at hgj
        have hBj := hboxj.lt
        have hbl1 := hbl.out
        obtain ⟨x0, x1, x2, x3, x4, x5, x6, x7, x8, x9, x10, x11, x12, x13⟩ := CBox.all (c := ⟨k, s, n, f, r, o, d, p, i0, i1, b0, b1, h0, h1⟩) hboxj
        simp only at x0 x1 x2 x3 x4 x5 x6 x7 x8 x9 x10 x11 x12 x13
        rcases (by omega : j = 0 ∨ j = 1 ∨ j = 2) with rfl | rfl | rfl
        · rw [show ((0 : Nat) : Int) = 0 from rfl]
          go_wp2_with fail
          have x8k : ∀ W', Keeps [w.heap.size] wr W' → W'.cell? ⟨w.heap.size, 8, none⟩ = some (.int .i64 i0) := fun W' hW => (hW.cell (by simp)).trans x8
          have x10k : ∀ W', Keeps [w.heap.size] wr W' → W'.cell? ⟨w.heap.size, 10, none⟩ = some (.int .i64 b0) := fun W' hW => (hW.cell (by simp)).trans x10
          have x12k : ∀ W', Keeps [w.heap.size] wr W' → W'.cell? ⟨w.heap.size, 12, none⟩ = some (.int .i64 h0) := fun W' hW => (hW.cell (by simp)).trans x12
          refine wp_region_S (Keeps [w.heap.size] wr) [(0, true), (1, true), (2, true), (3, true), (4, true), (6, true), (7, true), (8, true), (9, true), (11, true), (12, true), (13, true), (14, true), (5, false), (10, false), (15, false), (16, true)] (by kernel_rfl) (by kernel_rfl) (fun _ _ d _ _ h => by cases d <;> exact h) (Keeps.drew _ _) ?_
          simp only [pickE, List.getElem?_cons_zero, List.getElem?_cons_succ]
          repeat (refine wpF_pure (by rfl) (fun W hW => by go_simp; with_reducible rfl) ?_; simp only [Act.put, List.setIfInBounds_toArray, List.set_cons_zero, List.set_cons_succ])
          have g0 := hgj.drew
          have K0 : Keeps [w.heap.size] wr wr.drew := Keeps.drew _ _
          have v0 := hvj
          have s0 : w.heap.size < wr.drew.heap.size := hBj
          have l0 := hbl1
          clear x8k x10k x12k
          generalize wr.drew = y0 at *
          have hn0 := refNumber_calls base u0 bj i0 2 y0 g0.own (Nat.le_trans hbase g0.grown.size) (by omega) (by have := l0; omega)
          refine wpF_step (by rfl) (fun K hK => ?_)
          go_simp
          refine hn0.mono ?_
          rintro e y1 ⟨z1, rfl, q1⟩
          have K1 := K0.trans (Keeps.grown q1.grown (bs := [w.heap.size]) (fun k hk => by simp only [List.mem_cons, List.not_mem_nil, or_false] at hk; subst hk; exact ⟨s0, v0⟩))
          refine hK _ _ K1 ?_
          clear hK K hn0
          have v1 : some w.heap.size ≠ z1.ownBlock := fun e => by rcases q1.near _ e.symm with h | h; exact v0 h.symm; omega
          have s1 : w.heap.size < y1.heap.size := Nat.lt_of_lt_of_le s0 q1.grown.size
          have g1 := g0.trans q1
          have l1 : (bj ++ be i0 2).length ≤ bs.length + 12 := by have := l0; rw [List.length_append, be_len]; omega
          have hn1 := refNumber_calls base z1 (bj ++ be i0 2) b0 1 y1 g1.own (Nat.le_trans hbase g1.grown.size) (by omega) (by have := l1; omega)
          refine wpF_step (by rfl) (fun K hK => ?_)
          go_simp
          refine hn1.mono ?_
          rintro e y2 ⟨z2, rfl, q2⟩
          have K2 := K1.trans (Keeps.grown q2.grown (bs := [w.heap.size]) (fun k hk => by simp only [List.mem_cons, List.not_mem_nil, or_false] at hk; subst hk; exact ⟨s1, v1⟩))
          refine hK _ _ K2 ?_
          clear hK K hn1
          have v2 : some w.heap.size ≠ z2.ownBlock := fun e => by rcases q2.near _ e.symm with h | h; exact v1 h.symm; omega
          have s2 : w.heap.size < y2.heap.size := Nat.lt_of_lt_of_le s1 q2.grown.size
          have g2 := g1.trans q2
          have l2 : ((bj ++ be i0 2) ++ be b0 1).length ≤ bs.length + 13 := by have := l1; rw [List.length_append, be_len]; omega
          have hn2 := refNumber_calls base z2 ((bj ++ be i0 2) ++ be b0 1) h0 1 y2 g2.own (Nat.le_trans hbase g2.grown.size) (by omega) (by have := l2; omega)
          refine wpF_step (by rfl) (fun K hK => ?_)
          go_simp
          refine hn2.mono ?_
          rintro e y3 ⟨z3, rfl, q3⟩
          have K3 := K2.trans (Keeps.grown q3.grown (bs := [w.heap.size]) (fun k hk => by simp only [List.mem_cons, List.not_mem_nil, or_false] at hk; subst hk; exact ⟨s2, v2⟩))
          refine hK _ _ K3 ?_
          clear hK K hn2
          have v3 : some w.heap.size ≠ z3.ownBlock := fun e => by rcases q3.near _ e.symm with h | h; exact v2 h.symm; omega
          have s3 : w.heap.size < y3.heap.size := Nat.lt_of_lt_of_le s2 q3.grown.size
          have g3 := g2.trans q3
          have l3 : (((bj ++ be i0 2) ++ be b0 1) ++ be h0 1).length ≤ bs.length + 14 := by have := l2; rw [List.length_append, be_len]; omega
          refine wpF_pure (by rfl) (fun W hW => by go_simp; with_reducible rfl) ?_
          simp only [Act.put, List.setIfInBounds_toArray, List.set_cons_zero]
          refine wpF_nil ?_
          have hboxk : CBox y3 w.heap.size [k, s, n, f, r, o, d, p, i0, i1, b0, b1, h0, h1] := (K3.2 _ (by simp)).trans hboxj
          have HF : Hid ((((bj ++ be i0 2) ++ be b0 1) ++ be h0 1) = bq ++ tileB i0 i1 b0 b1 h0 h1 1) := by show _ = _; rw [hbj.out]; simp [tileB]
          have gF : GrewB w base v (bq ++ tileB i0 i1 b0 b1 h0 h1 1) y3 z3 := by rw [← HF.out]; exact g3
          have lF : Hid ((bq ++ tileB i0 i1 b0 b1 h0 h1 1).length ≤ bs.length + 10 + 4 * 1) := by show _ ≤ _; rw [← HF.out]; omega
          clear g0 g1 g2 g3 q1 q2 q3 K0 K1 K2 K3 l0 l1 l2 l3
          go_wp2_with fail
          go_roundw
          case rel => exact ⟨1, _, by omega, by go_num, rfl, lF, gF, hboxk, v3⟩
          case measure => simp [intOf]
        · rw [show ((1 : Nat) : Int) = 1 from rfl]
          go_wp2_with fail
          have x9k : ∀ W', Keeps [w.heap.size] wr W' → W'.cell? ⟨w.heap.size, 9, none⟩ = some (.int .i64 i1) := fun W' hW => (hW.cell (by simp)).trans x9
          have x11k : ∀ W', Keeps [w.heap.size] wr W' → W'.cell? ⟨w.heap.size, 11, none⟩ = some (.int .i64 b1) := fun W' hW => (hW.cell (by simp)).trans x11
          have x13k : ∀ W', Keeps [w.heap.size] wr W' → W'.cell? ⟨w.heap.size, 13, none⟩ = some (.int .i64 h1) := fun W' hW => (hW.cell (by simp)).trans x13
          refine wp_region_S (Keeps [w.heap.size] wr) [(0, true), (1, true), (2, true), (3, true), (4, true), (6, true), (7, true), (8, true), (9, true), (11, true), (12, true), (13, true), (14, true), (5, false), (10, false), (15, false), (16, true)] (by kernel_rfl) (by kernel_rfl) (fun _ _ d _ _ h => by cases d <;> exact h) (Keeps.drew _ _) ?_
          simp only [pickE, List.getElem?_cons_zero, List.getElem?_cons_succ]
          repeat (refine wpF_pure (by rfl) (fun W hW => by go_simp; with_reducible rfl) ?_; simp only [Act.put, List.setIfInBounds_toArray, List.set_cons_zero, List.set_cons_succ])
          have g0 := hgj.drew
          have K0 : Keeps [w.heap.size] wr wr.drew := Keeps.drew _ _
          have v0 := hvj
          have s0 : w.heap.size < wr.drew.heap.size := hBj
          have l0 := hbl1
          clear x9k x11k x13k
          generalize wr.drew = y0 at *
          have hn0 := refNumber_calls base u0 bj i1 2 y0 g0.own (Nat.le_trans hbase g0.grown.size) (by omega) (by have := l0; omega)
          refine wpF_step (by rfl) (fun K hK => ?_)
          go_simp
          refine hn0.mono ?_
          rintro e y1 ⟨z1, rfl, q1⟩
          have K1 := K0.trans (Keeps.grown q1.grown (bs := [w.heap.size]) (fun k hk => by simp only [List.mem_cons, List.not_mem_nil, or_false] at hk; subst hk; exact ⟨s0, v0⟩))
          refine hK _ _ K1 ?_
          clear hK K hn0
          have v1 : some w.heap.size ≠ z1.ownBlock := fun e => by rcases q1.near _ e.symm with h | h; exact v0 h.symm; omega
          have s1 : w.heap.size < y1.heap.size := Nat.lt_of_lt_of_le s0 q1.grown.size
          have g1 := g0.trans q1
          have l1 : (bj ++ be i1 2).length ≤ bs.length + 16 := by have := l0; rw [List.length_append, be_len]; omega
          have hn1 := refNumber_calls base z1 (bj ++ be i1 2) b1 1 y1 g1.own (Nat.le_trans hbase g1.grown.size) (by omega) (by have := l1; omega)
          refine wpF_step (by rfl) (fun K hK => ?_)
          go_simp
          refine hn1.mono ?_
          rintro e y2 ⟨z2, rfl, q2⟩
          have K2 := K1.trans (Keeps.grown q2.grown (bs := [w.heap.size]) (fun k hk => by simp only [List.mem_cons, List.not_mem_nil, or_false] at hk; subst hk; exact ⟨s1, v1⟩))
          refine hK _ _ K2 ?_
          clear hK K hn1
          have v2 : some w.heap.size ≠ z2.ownBlock := fun e => by rcases q2.near _ e.symm with h | h; exact v1 h.symm; omega
          have s2 : w.heap.size < y2.heap.size := Nat.lt_of_lt_of_le s1 q2.grown.size
          have g2 := g1.trans q2
          have l2 : ((bj ++ be i1 2) ++ be b1 1).length ≤ bs.length + 17 := by have := l1; rw [List.length_append, be_len]; omega
          have hn2 := refNumber_calls base z2 ((bj ++ be i1 2) ++ be b1 1) h1 1 y2 g2.own (Nat.le_trans hbase g2.grown.size) (by omega) (by have := l2; omega)
          refine wpF_step (by rfl) (fun K hK => ?_)
          go_simp
          refine hn2.mono ?_
          rintro e y3 ⟨z3, rfl, q3⟩
          have K3 := K2.trans (Keeps.grown q3.grown (bs := [w.heap.size]) (fun k hk => by simp only [List.mem_cons, List.not_mem_nil, or_false] at hk; subst hk; exact ⟨s2, v2⟩))
          refine hK _ _ K3 ?_
          clear hK K hn2
          have v3 : some w.heap.size ≠ z3.ownBlock := fun e => by rcases q3.near _ e.symm with h | h; exact v2 h.symm; omega
          have s3 : w.heap.size < y3.heap.size := Nat.lt_of_lt_of_le s2 q3.grown.size
          have g3 := g2.trans q3
          have l3 : (((bj ++ be i1 2) ++ be b1 1) ++ be h1 1).length ≤ bs.length + 18 := by have := l2; rw [List.length_append, be_len]; omega
          refine wpF_pure (by rfl) (fun W hW => by go_simp; with_reducible rfl) ?_
          simp only [Act.put, List.setIfInBounds_toArray, List.set_cons_zero]
          refine wpF_nil ?_
          have hboxk : CBox y3 w.heap.size [k, s, n, f, r, o, d, p, i0, i1, b0, b1, h0, h1] := (K3.2 _ (by simp)).trans hboxj
          have HF : Hid ((((bj ++ be i1 2) ++ be b1 1) ++ be h1 1) = bq ++ tileB i0 i1 b0 b1 h0 h1 2) := by show _ = _; rw [hbj.out]; simp [tileB]
          have gF : GrewB w base v (bq ++ tileB i0 i1 b0 b1 h0 h1 2) y3 z3 := by rw [← HF.out]; exact g3
          have lF : Hid ((bq ++ tileB i0 i1 b0 b1 h0 h1 2).length ≤ bs.length + 10 + 4 * 2) := by show _ ≤ _; rw [← HF.out]; omega
          clear g0 g1 g2 g3 q1 q2 q3 K0 K1 K2 K3 l0 l1 l2 l3
          go_wp2_with fail
          go_roundw
          case rel => exact ⟨2, _, by omega, by go_num, rfl, lF, gF, hboxk, v3⟩
          case measure => simp [intOf]
        · rw [show ((2 : Nat) : Int) = 2 from rfl]
          have HF : Hid (bj = bs ++ enc C) := by
            show _ = _
            rw [hbj.out, ← HBQ.out, HE.out, HC.out, HTB.out]
            simp [Cm.l, tileB]
          have gF : GrewB w base v (bs ++ enc C) wr u0 := by rw [← HF.out]; exact hgj
          clear x0 x1 x2 x3 x4 x5 x6 x7 x8 x9 x10 x11 x12 x13
          go_wp2_with fail
          exact HP.out _ _ _ rfl gF
    · by_cases h4 : k = 4
      · have ht : tbl k = [⟨2, 1, 0, 11⟩, ⟨4, 1, 1, 16⟩] := by
          unfold tbl
          rw [if_neg (by omega), if_neg (by omega), if_pos h4]
        have HTB := Lib.hid ht
        clear ht h12 h3
        go_wp2_with fail
        have x2k : ∀ W', Keeps [w.heap.size] w2 W' → W'.cell? ⟨w.heap.size, 2, none⟩ = some (.int .i64 n) := fun W' hW => (hW.cell (by simp)).trans x2
        have x4k : ∀ W', Keeps [w.heap.size] w2 W' → W'.cell? ⟨w.heap.size, 4, none⟩ = some (.int .i64 r) := fun W' hW => (hW.cell (by simp)).trans x4
        refine wp_region_S (Keeps [w.heap.size] w2) [(0, true), (1, true), (2, true), (4, true), (5, true), (3, false), (6, false), (7, true)] (by kernel_rfl) (by kernel_rfl) (fun _ _ d _ _ h => by cases d <;> exact h) (Keeps.drew _ _) ?_
        simp only [pickE, List.getElem?_cons_zero, List.getElem?_cons_succ]
        repeat (refine wpF_pure (by rfl) (fun W hW => by go_simp; with_reducible rfl) ?_; simp only [Act.put, List.setIfInBounds_toArray, List.set_cons_zero, List.set_cons_succ])
        have g0 := hg2.drew
        have K0 : Keeps [w.heap.size] w2 w2.drew := Keeps.drew _ _
        have v0 := hv2
        have s0 : w.heap.size < w2.drew.heap.size := hB2
        have l0 := hl2
        clear x2k x4k
        generalize w2.drew = y0 at *
        have hn0 := refNumber_calls base v2 (bs ++ be k 1) n 1 y0 g0.own (Nat.le_trans hbase g0.grown.size) (by omega) (by have := l0; omega)
        refine wpF_step (by rfl) (fun K hK => ?_)
        go_simp
        refine hn0.mono ?_
        rintro e y1 ⟨z1, rfl, q1⟩
        have K1 := K0.trans (Keeps.grown q1.grown (bs := [w.heap.size]) (fun k hk => by simp only [List.mem_cons, List.not_mem_nil, or_false] at hk; subst hk; exact ⟨s0, v0⟩))
        refine hK _ _ K1 ?_
        clear hK K hn0
        have v1 : some w.heap.size ≠ z1.ownBlock := fun e => by rcases q1.near _ e.symm with h | h; exact v0 h.symm; omega
        have s1 : w.heap.size < y1.heap.size := Nat.lt_of_lt_of_le s0 q1.grown.size
        have g1 := g0.trans q1
        have l1 : ((bs ++ be k 1) ++ be n 1).length ≤ bs.length + 2 := by have := l0; rw [List.length_append, be_len]; omega
        have hn1 := refNumber_calls base z1 ((bs ++ be k 1) ++ be n 1) r 1 y1 g1.own (Nat.le_trans hbase g1.grown.size) (by omega) (by have := l1; omega)
        refine wpF_step (by rfl) (fun K hK => ?_)
        go_simp
        refine hn1.mono ?_
        rintro e y2 ⟨z2, rfl, q2⟩
        have K2 := K1.trans (Keeps.grown q2.grown (bs := [w.heap.size]) (fun k hk => by simp only [List.mem_cons, List.not_mem_nil, or_false] at hk; subst hk; exact ⟨s1, v1⟩))
        refine hK _ _ K2 ?_
        clear hK K hn1
        have v2 : some w.heap.size ≠ z2.ownBlock := fun e => by rcases q2.near _ e.symm with h | h; exact v1 h.symm; omega
        have s2 : w.heap.size < y2.heap.size := Nat.lt_of_lt_of_le s1 q2.grown.size
        have g2 := g1.trans q2
        have l2 : (((bs ++ be k 1) ++ be n 1) ++ be r 1).length ≤ bs.length + 3 := by have := l1; rw [List.length_append, be_len]; omega
        refine wpF_pure (by rfl) (fun W hW => by go_simp; with_reducible rfl) ?_
        simp only [Act.put, List.setIfInBounds_toArray, List.set_cons_zero]
        refine wpF_nil ?_
        have HF : Hid ((((bs ++ be k 1) ++ be n 1) ++ be r 1) = bs ++ enc C) := by show _ = _; rw [HE.out, HC.out, HTB.out]; simp [Cm.l]
        have gF : GrewB w base v (bs ++ enc C) y2 z2 := by rw [← HF.out]; exact g2
        go_wp2_with fail
        exact HP.out _ _ _ rfl gF
      · by_cases h5 : k = 5 ∨ k = 6
        · have ht : tbl k = [⟨1, 1, 0, 7⟩] := by
            unfold tbl
            rw [if_neg (by omega), if_neg (by omega), if_neg (by omega), if_pos h5]
          have HTB := Lib.hid ht
          clear ht h12 h3 h4
          have hn1 := refNumber_calls base v2 (bs ++ be k 1) s 1 w2 hg2.own (Nat.le_trans hbase hg2.grown.size) (by omega) (by omega)
          rcases h5 with hk | hk
          all_goals
            go_wp2_with fail
            refine hn1.mono ?_
            rintro e w3 ⟨z1, rfl, q1⟩
            have g1 := hg2.trans q1
            have HF : Hid (((bs ++ be k 1) ++ be s 1) = bs ++ enc C) := by show _ = _; rw [HE.out, HC.out, HTB.out]; simp [Cm.l]
            have gF : GrewB w base v (bs ++ enc C) w3 z1 := by rw [← HF.out]; exact g1
            go_wp2_with fail
            exact HP.out _ _ _ rfl gF
        · have ht : tbl k = [] := by
            unfold tbl
            rw [if_neg (by omega), if_neg (by omega), if_neg (by omega), if_neg (by omega)]
          have HTB := Lib.hid ht
          have n1 : ¬ k = 1 := by omega
          have n2 : ¬ k = 2 := by omega
          have n5 : ¬ k = 5 := by omega
          have n6 : ¬ k = 6 := by omega
          have HF : Hid ((bs ++ be k 1) = bs ++ enc C) := by show _ = _; rw [HE.out, HTB.out]; simp
          have gF : GrewB w base v (bs ++ enc C) w2 v2 := by rw [← HF.out]; exact hg2
          clear ht
          go_wp2_with fail
          exact HP.out _ _ _ rfl gF

theorem refPut1_calls (c : Cm) (base : Nat) (v : Value) (bs : List Int) (w : World)
    (hown : w.ownsRow base 5 1 v bs.length (bs.map (.int .u8))) (hbase : base ≤ w.heap.size) (hn : bs.length + 20 ≤ 1099511627776) :
    Calls Try.prog 80 #[v, c.v] w (PutCPost w base v (bs ++ enc c)) :=
  refPut1_core c c.k c.s c.n c.f c.r c.o c.d c.p c.i0 c.i1 c.b0 c.b1 c.h0 c.h1 rfl base v bs w hown hbase hn

end Go.Proofs.Ytdhdbmfipkppiaa.Isa

namespace Go.Proofs.Ytdhdbmfipkppiaa.Isa
set_option linter.unusedSimpArgs false
set_option linter.unusedVariables false
set_option linter.unnecessarySimpa false
set_option maxRecDepth 10000
open Go.RowKit

set_option maxRecDepth 20000 in
set_option maxHeartbeats 3200000 in
theorem refPut_calls (v : Value) (l : List Cm) (w : World) (hl : Cmds w v l) :
    Calls Try.prog 36 #[v] w (PutPost l w) := by
  obtain ⟨A, c, rfl, hlc, hcm, _⟩ := id hl.form
  unfold maxLen at hcm
  by_cases hbig : 4096 < l.length
  · have h1 := Lib.hid (show putErr l = 3 from if_pos hbig)
    have h2 := Lib.hid (show putB l = [] from if_pos hbig)
    go_enter Try.func36, Try.ntmps36
    go_wp2
    go_ret2
    refine ⟨.slice none 0 0, by rw [h1.out]; rfl, ?_, Below.refl _ _⟩
    rw [h2.out]
    exact World.ownsRow_nil _ _ _ _
  · have h1 := Lib.hid (show putErr l = if l.all mayB then 0 else 1 from if_neg hbig)
    have h2 := Lib.hid (show putB l = if l.all mayB then encs l else [] from if_neg hbig)
    have hown0 : (w.alloc (.cells #[] 5)).ownsRow w.heap.size 5 1 (.slice (some ⟨w.heap.size, 0, none⟩) 0 0) ([] : List Int).length (([] : List Int).map (Value.int .u8)) := World.ownsRow_made (base := w.heap.size) (e := 5) (size := 1) w #[] 0 (Nat.le_refl _) (Nat.zero_le _) (by simp)
    have hb0 := below_alloc (Below.refl w.heap.size w) (Nat.le_refl _) (.cells #[] 5)
    have hn := refNumber_calls w.heap.size _ [] l.length 2 _ hown0 hb0.size (by omega) (by simp)
    go_enter Try.func36, Try.ntmps36
    go_wp2_with fail
    refine hn.mono ?_
    rintro e w1 ⟨v1, rfl, hg⟩
    have hown := hg.own
    have hb1 := hb0.trans (hg.base hb0.size (fun k hk => by cases hk; exact Nat.le_refl _))
    rw [List.nil_append] at hown
    clear hg hn hown0 hb0
    go_wp2_with fail
    go_loopw [4, 5] (fun b i wr => ∃ (k : Nat) (bk : List Int), k ≤ l.length ∧ i = .int .i64 k ∧ Hid ((l.take k).all mayB = true) ∧ Hid (bk = be l.length 2 ++ (l.take k).flatMap enc) ∧ Hid (bk.length ≤ 2 + k * 14) ∧ wr.ownsRow w.heap.size 5 1 b bk.length (bk.map (.int .u8)) ∧ Below w.heap.size w wr) (fun _ i _ => l.length - (intOf i).toNat)
    case atStart => exact ⟨0, _, by omega, rfl, rfl, by show _ = _; simp, by show _ ≤ _; rw [be_len]; omega, hown, hb1⟩
    case round =>
      clear hown hb1
      obtain ⟨k, bk, hk, rfl, hall, hbk, hbl, hown, hbel⟩ := hrel
      by_cases hlt : k < l.length
      · have hs : l[k]? = some l[k] := by simp [hlt]
        obtain ⟨_, _, e1, _, _, hcells⟩ := (hl.below hbel (Nat.le_refl _)).form
        cases e1
        obtain ⟨g, off, rfl, hg, x0, x1, x2, x3, x4, x5, x6, x7, x8, x9, x10, x11, x12, x13⟩ := hcells k _ hs
        have HT := Lib.hid (show l.take (k + 1) = l.take k ++ [l[k]] from List.take_succ_eq_append_getElem hlt)
        have HM := Lib.hid (show mayB l[k] = false → l.all mayB = false from fun h => by
          rw [Bool.eq_false_iff]; intro h'; rw [List.all_eq_true.1 h' _ (List.getElem_mem hlt)] at h; cases h)
        clear hcells hs
        generalize l[k] = x at *
        have hm := refMay_calls x wr
        unfold Cm.v at hm
        go_wp2_with fail
        refine hm.mono ?_
        rintro e w2 ⟨rfl, hb2⟩
        have hown2 := hown.kept (row := none) (grown_of_ext hb2) (by cases u4.ownBlock <;> simp)
        have hbel2 := hbel.trans (hb2.mono hbel.size)
        have y0 := (hb2.cell (p := ⟨g, off + k * 14, none⟩) hg).trans x0
        have y1 := (hb2.cell (p := ⟨g, off + k * 14 + 1, none⟩) hg).trans x1
        have y2 := (hb2.cell (p := ⟨g, off + k * 14 + 2, none⟩) hg).trans x2
        have y3 := (hb2.cell (p := ⟨g, off + k * 14 + 3, none⟩) hg).trans x3
        have y4 := (hb2.cell (p := ⟨g, off + k * 14 + 4, none⟩) hg).trans x4
        have y5 := (hb2.cell (p := ⟨g, off + k * 14 + 5, none⟩) hg).trans x5
        have y6 := (hb2.cell (p := ⟨g, off + k * 14 + 6, none⟩) hg).trans x6
        have y7 := (hb2.cell (p := ⟨g, off + k * 14 + 7, none⟩) hg).trans x7
        have y8 := (hb2.cell (p := ⟨g, off + k * 14 + 8, none⟩) hg).trans x8
        have y9 := (hb2.cell (p := ⟨g, off + k * 14 + 9, none⟩) hg).trans x9
        have y10 := (hb2.cell (p := ⟨g, off + k * 14 + 10, none⟩) hg).trans x10
        have y11 := (hb2.cell (p := ⟨g, off + k * 14 + 11, none⟩) hg).trans x11
        have y12 := (hb2.cell (p := ⟨g, off + k * 14 + 12, none⟩) hg).trans x12
        have y13 := (hb2.cell (p := ⟨g, off + k * 14 + 13, none⟩) hg).trans x13
        clear hm x0 x1 x2 x3 x4 x5 x6 x7 x8 x9 x10 x11 x12 x13 hown hbel hb2
        have hbl1 := hbl.out
        cases hq : mayB x with
        | false =>
          have hme : mayE x = 1 := by unfold mayE; rw [hq]; rfl
          have HA := Lib.hid (HM.out hq)
          rw [hme]
          clear hme hq HM
          go_wp2_with fail
          go_ret2
          refine ⟨.slice none 0 0, by rw [h1.out, HA.out]; rfl, ?_, hbel2⟩
          rw [h2.out, HA.out]
          exact World.ownsRow_nil _ _ _ _
        | true =>
          have hme : mayE x = 0 := by unfold mayE; rw [hq]; rfl
          have HA : Hid ((l.take (k + 1)).all mayB = true) := by
            show _ = _
            rw [HT.out, List.all_append, hall.out]
            simp [hq]
          rw [hme]
          clear hme hq HM hall
          have hp := refPut1_calls x w.heap.size u4 bk w2 hown2 hbel2.size (by omega)
          unfold Cm.v at hp
          go_wp2_with fail
          refine hp.mono ?_
          rintro e w3 ⟨v3, rfl, hg3⟩
          unfold GrewB at hg3
          have hbk2 : Hid (bk ++ enc x = be l.length 2 ++ (l.take (k + 1)).flatMap enc) := by
            show _ = _
            rw [HT.out, List.flatMap_append, hbk.out]
            simp
          have hbl2 : Hid ((bk ++ enc x).length ≤ 2 + (k + 1) * 14) := by
            show _ ≤ _
            have := enc_len x
            rw [List.length_append]
            omega
          have hownF := hg3.own
          have hbelF := hbel2.trans (hg3.base hbel2.size (fun k hk => (hown2.lt k hk).1))
          clear hg3 hp hown2 hbel2 hbk hbl hbl1 HT y0 y1 y2 y3 y4 y5 y6 y7 y8 y9 y10 y11 y12 y13
          go_wp2_with fail
          go_roundw
          case rel => exact ⟨k + 1, bk ++ enc x, by omega, by go_num, HA, hbk2, hbl2, hownF, hbelF⟩
          case measure => simp [intOf]; omega
      · have hkk : k = l.length := by omega
        have hA : Hid (l.all mayB = true) := by
          have := hall.out
          rwa [hkk, List.take_length] at this
        have hB : Hid (bk = encs l) := by
          show _ = _
          rw [hbk.out, hkk, List.take_length]
          rfl
        clear hall hbk hbl
        go_wp2_with fail
        go_ret2
        refine ⟨_, by rw [h1.out, hA.out]; rfl, ?_, hbel⟩
        rw [h2.out, hA.out, if_pos rfl, ← hB.out]
        exact hown

end Go.Proofs.Ytdhdbmfipkppiaa.Isa
