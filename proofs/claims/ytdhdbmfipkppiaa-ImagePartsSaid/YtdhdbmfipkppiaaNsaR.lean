/- The walk of the reader's number. -/
import Derived.Test.YtdhdbmfipkppiaaNsaP
namespace Go.Proofs.Ytdhdbmfipkppiaa.Isa
set_option linter.unusedSimpArgs false
set_option linter.unusedVariables false
set_option linter.unnecessarySimpa false
set_option maxRecDepth 10000
open Go.RowKit

/-- A number of bytes, the highest first. -/
def numOf (l : List Int) : Int := l.foldl (fun x c => 256 * x + c) 0

/-- A reader in a block: what is left, and whether it is bad. -/
def Rd (w : World) (b : Nat) (lv : Value) (zs : List Int) (bad : Bool) : Prop :=
  w.heap[b]? = some (.cells #[lv, .bool bad] 156 (0, 0)) ∧ Ints .u8 w lv zs ∧ (∀ z ∈ zs, 0 ≤ z ∧ z ≤ 255) ∧ (zs = [] ∨ lv.ownBlock ≠ some b)

theorem Rd.lt {w : World} {b : Nat} {lv : Value} {zs : List Int} {bad : Bool} (h : Rd w b lv zs bad) : b < w.heap.size := (Array.getElem?_eq_some_iff.1 h.1).1
theorem Rd.cells {w : World} {b : Nat} {lv : Value} {zs : List Int} {bad : Bool} (h : Rd w b lv zs bad) : w.cell? ⟨b, 0, none⟩ = some lv ∧ w.cell? ⟨b, 1, none⟩ = some (.bool bad) ∧ ∀ o, w.frozen? ⟨b, o, none⟩ = false := by
  have := h.1
  refine ⟨?_, ?_, fun o => ?_⟩ <;> simp [World.cell?, World.frozen?, this]
theorem Rd.below {w w' : World} {b : Nat} {lv : Value} {zs : List Int} {bad : Bool} (h : Rd w b lv zs bad) (hb : Below w.heap.size w w') : Rd w' b lv zs bad :=
  ⟨(hb.block b h.lt).trans h.1, Row.below h.2.1 hb, h.2.2⟩

theorem setCell_grown (w : World) (a : Addr) (v : Value) : w.grownBy (w.setCell a v) (some a.block) :=
  ⟨rfl, rfl, rfl, by simp, fun k _ hk => Below.heap_setCell w a v k (fun e => hk (by rw [e]))⟩

theorem _root_.Go.Proofs.Ytdhdbmfipkppiaa.Ints.setCell {w : World} {k : IntKind} {v : Value} {zs : List Int} (h : Ints k w v zs) {b : Nat} (hb : zs = [] ∨ v.ownBlock ≠ some b) (o : Nat) (u : Value) : Ints k (w.setCell ⟨b, o, none⟩ u) v zs := by
  rcases hb with rfl | hb
  · obtain ⟨A, c, e, h1, h2, h3, _⟩ := h
    exact ⟨A, c, e, h1, h2, h3, At.nil _ _⟩
  · exact Row.setCell h hb o u

theorem _root_.Go.Proofs.Ytdhdbmfipkppiaa.Ints.grown2 {w w' : World} {k : IntKind} {v : Value} {zs : List Int} (h : Ints k w v zs) {row : Option Nat} (hg : w.grownBy w' row) (hb : zs = [] ∨ v.ownBlock = none ∨ v.ownBlock ≠ row) : Ints k w' v zs := by
  rcases hb with rfl | hb
  · obtain ⟨A, c, e, h1, h2, h3, _⟩ := h
    exact ⟨A, c, e, h1, h2, h3, At.nil _ _⟩
  · exact Row.grown h hg hb

theorem _root_.Go.Proofs.Ytdhdbmfipkppiaa.Ints.lt {w : World} {k : IntKind} {v : Value} {zs : List Int} (h : Ints k w v zs) : zs = [] ∨ ∀ j, v.ownBlock = some j → j < w.heap.size := by
  cases zs with
  | nil => exact Or.inl rfl
  | cons z zs =>
    obtain ⟨j, h1, h2⟩ := Row.lt h (by simp)
    exact Or.inr fun i hi => by rw [h1] at hi; cases hi; exact h2

theorem setRow_grown (w : World) (g : Nat) (cs : Array Value) : w.grownBy (w.setRow g cs) (some g) := ⟨rfl, rfl, rfl, by simp, fun k _ hk => setRow_other w g k cs (fun e => hk (by rw [e]))⟩

theorem Rd.bad {w : World} {b : Nat} {lv : Value} {zs : List Int} {bad : Bool} (h : Rd w b lv zs bad) : Rd (w.setCell ⟨b, 1, none⟩ (.bool true)) b lv zs true := by
  obtain ⟨h1, h2, h3, h4⟩ := h
  refine ⟨?_, Ints.setCell h2 h4 1 _, h3, h4⟩
  simp [World.setCell, Array.getElem?_modify, h1]

theorem Rd.left {w : World} {b : Nat} {lv lv' : Value} {zs zs' : List Int} {bad : Bool} (h : Rd w b lv zs bad) (h2 : Ints .u8 w lv' zs') (h3 : ∀ z ∈ zs', 0 ≤ z ∧ z ≤ 255) (h4 : zs' = [] ∨ lv'.ownBlock ≠ some b) : Rd (w.setCell ⟨b, 0, none⟩ lv') b lv' zs' bad := by
  refine ⟨?_, Ints.setCell h2 h4 0 _, h3, h4⟩
  have h1 := h.1
  simp [World.setCell, Array.getElem?_modify, h1]

theorem numOf_snoc (l : List Int) (c : Int) : numOf (l ++ [c]) = 256 * numOf l + c := by
  unfold numOf
  rw [List.foldl_append]
  rfl
theorem numOf_range (n : Nat) : ∀ (l : List Int), l.length = n → (∀ z ∈ l, 0 ≤ z ∧ z ≤ 255) → 0 ≤ numOf l ∧ numOf l < 256 ^ n := by
  induction n with
  | zero =>
    intro l h _
    obtain rfl := List.eq_nil_of_length_eq_zero h
    exact ⟨by decide, by decide⟩
  | succ n ih =>
    intro l h hz
    have hne : l ≠ [] := by intro e; rw [e] at h; cases h
    have e := List.dropLast_concat_getLast hne
    have h1 := ih l.dropLast (by rw [List.length_dropLast, h]; rfl) (fun z hm => hz z (List.dropLast_subset l hm))
    have h2 := hz _ (List.getLast_mem hne)
    rw [← e, numOf_snoc, Int.pow_succ]
    omega

theorem i64_or_nat (a b : Nat) (ha : a < 2 ^ 62) (hb : b < 2 ^ 62) : bits .or .i64 (a : Int) (b : Int) = ((a ||| b : Nat) : Int) := by
  have h := Nat.or_lt_two_pow ha hb
  show IntKind.i64.wrap ((BitVec.ofInt 64 (a : Int) ||| BitVec.ofInt 64 (b : Int)).toNat : Int) = _
  rw [BitVec.toNat_or, BitVec.ofInt_natCast, BitVec.ofInt_natCast, BitVec.toNat_ofNat, BitVec.toNat_ofNat, Nat.mod_eq_of_lt (by omega), Nat.mod_eq_of_lt (by omega), IntKind.wrap_i64]
  omega

theorem or_byte (x c : Int) (h1 : 0 ≤ x) (h2 : x < 1099511627776) (h3 : 0 ≤ c) (h4 : c ≤ 255) : bits .or .i64 (x * 256) c = 256 * x + c := by
  obtain ⟨a, rfl⟩ := Int.eq_ofNat_of_zero_le h1
  obtain ⟨b, rfl⟩ := Int.eq_ofNat_of_zero_le h3
  have e := i64_or_nat (a * 256) b (by omega) (by omega)
  rw [show ((a : Int) * 256) = ((a * 256 : Nat) : Int) from by omega, e]
  have e2 : a * 256 ||| b = a * 256 + b := by
    have := Nat.shiftLeft_add_eq_or_of_lt (i := 8) (b := b) (by omega) a
    rw [Nat.shiftLeft_eq] at this
    exact this.symm
  rw [e2]
  omega

/-- What number answers, and what it leaves. -/
def NumPost (b : Nat) (lv : Value) (zs : List Int) (bad : Bool) (n : Nat) (w : World) (e : Ending) (w' : World) : Prop :=
  if n ≤ zs.length then e = .returned (.int .i64 (numOf (zs.take n))) ∧ (∃ lv', Rd w' b lv' (zs.drop n) bad ∧ lv'.ownBlock = lv.ownBlock) ∧ w.grownBy w' (some b)
  else e = .returned (.int .i64 0) ∧ (∃ lv', Rd w' b lv' zs true ∧ lv'.ownBlock = lv.ownBlock) ∧ w.grownBy w' (some b)

set_option maxHeartbeats 1600000 in
theorem number_calls (b : Nat) (lv : Value) (zs : List Int) (bad : Bool) (n : Nat) (w : World) (hr : Rd w b lv zs bad) (hn : n ≤ 4) :
    Calls Try.prog 117 #[.pointer (some ⟨b, 0, none⟩), .int .i64 n] w (NumPost b lv zs bad n w) := by
  obtain ⟨A, c, rfl, hlc, hcm, _⟩ := id hr.2.1.form
  unfold maxLen at hcm
  obtain ⟨c0, c1, hf⟩ := hr.cells
  have f0 := hf 0
  have f1 := hf 1
  clear hf
  by_cases hlt : zs.length < n
  · have hp : ∀ e w', NumPost b (.slice A zs.length c) zs bad n w e w' ↔ (e = .returned (.int .i64 0) ∧ (∃ lv', Rd w' b lv' zs true ∧ lv'.ownBlock = (Value.slice A zs.length c).ownBlock) ∧ w.grownBy w' (some b)) := fun e w' => by unfold NumPost; rw [if_neg (by omega)]
    have HP := Lib.hid hp
    clear hp
    generalize NumPost b (.slice A zs.length c) zs bad n w = R at *
    go_enter Try.func117, Try.ntmps117
    go_wp2_with fail
    refine (HP.out _ _).2 ⟨rfl, ⟨_, hr.bad, rfl⟩, setCell_grown w _ _⟩
  · have hge : n ≤ zs.length := by omega
    have hp : ∀ e w', NumPost b (.slice A zs.length c) zs bad n w e w' ↔ (e = .returned (.int .i64 (numOf (zs.take n))) ∧ (∃ lv', Rd w' b lv' (zs.drop n) bad ∧ lv'.ownBlock = (Value.slice A zs.length c).ownBlock) ∧ w.grownBy w' (some b)) := fun e w' => by unfold NumPost; rw [if_pos hge]
    have HP := Lib.hid hp
    clear hp
    generalize NumPost b (.slice A zs.length c) zs bad n w = R at *
    have hz := hr.2.2.1
    go_enter Try.func117, Try.ntmps117
    go_wp2_with fail
    go_loopw [5, 25] (fun x i wr => ∃ k : Nat, k ≤ n ∧ i = .int .i64 k ∧ x = .int .i64 (numOf (zs.take k)) ∧ w = wr) (fun _ i _ => n - (intOf i).toNat)
    case atStart => exact ⟨0, by omega, rfl, rfl, rfl⟩
    case round =>
      obtain ⟨k, hk, rfl, rfl, rfl⟩ := hrel
      by_cases hkl : k < n
      · have hkz : k < zs.length := by omega
        obtain ⟨_, _, e1, _, _, hcells⟩ := hr.2.1.form
        cases e1
        obtain ⟨g, off, rfl, x0⟩ := hcells k hkz
        have HS := Lib.hid (show numOf (zs.take (k + 1)) = 256 * numOf (zs.take k) + zs[k] from by rw [List.take_succ_eq_append_getElem hkz, numOf_snoc])
        have hz1 := hz zs[k] (List.getElem_mem hkz)
        have hr1 := numOf_range k (zs.take k) (by rw [List.length_take]; omega) (fun z hm => hz z (List.mem_of_mem_take hm))
        have hx : zs[k]?.getD 0 = zs[k] := by simp [hkz]
        rw [hx] at x0
        clear hx hcells
        have hb : numOf (zs.take k) < 4294967296 := by
          have : (256 : Int) ^ k ≤ 16777216 := by rcases (by omega : k = 0 ∨ k = 1 ∨ k = 2 ∨ k = 3) with e | e | e | e <;> rw [e] <;> decide
          omega
        have h0 := hr1.1
        clear hr1
        have ho := or_byte (numOf (zs.take k)) zs[k] h0 (by omega) hz1.1 hz1.2
        have h256 : numOf (zs.take k) * 256 < 9223372036854775807 := by omega
        generalize numOf (zs.take k) = x at *
        generalize zs[k] = z at *
        go_wp2_with fail
        go_roundw
        case rel => exact ⟨k + 1, by omega, by go_num, by rw [HS.out], trivial⟩
        case measure => simp [intOf]; omega
      · obtain rfl : k = n := by omega
        have hdz : ∀ z ∈ zs.drop k, 0 ≤ z ∧ z ≤ 255 := fun z hm => hz z (List.mem_of_mem_drop hm)
        have hnb := hr.2.2.2
        obtain ⟨_, _, e1, _, _, _, hat⟩ := hr.2.1
        cases e1
        have hld : (zs.drop k).length = zs.length - k := List.length_drop
        by_cases hc : c = k
        · subst hc
          have hdr : Ints .u8 w (.slice A 0 0) (zs.drop c) := by
            have e : zs.drop c = [] := List.drop_of_length_le (by omega)
            rw [e]
            exact ⟨A, 0, rfl, Nat.le_refl _, by omega, rfl, At.nil _ _⟩
          have hob : (Value.slice A 0 0).ownBlock = (Value.slice A zs.length c).ownBlock := by cases A <;> rfl
          have hR := hr.left hdr hdz (Or.inl (List.drop_of_length_le (by omega)))
          clear hat hld
          go_wp2_with fail
          exact (HP.out _ _).2 ⟨rfl, ⟨_, hR, hob⟩, setCell_grown w _ _⟩
        · have hdr : Ints .u8 w (.slice (A.map fun a => a.add k) (zs.length - k) (c - k)) (zs.drop k) := by
            refine ⟨A.map fun a => a.add k, c - k, by rw [hld], by omega, by unfold maxLen; omega, by simp, fun j u hj => ?_⟩
            rw [List.map_drop, List.getElem?_drop] at hj
            obtain ⟨g, off, rfl, hc⟩ := hat _ _ hj
            refine ⟨g, off + k, ?_, ?_⟩
            · simp only [Option.map_some, Option.some.injEq]
              unfold Addr.add
              split <;> simp_all
            · rw [show off + k + j = off + (k + j) from by omega]
              exact hc
          have hob : (Value.slice (A.map fun a => a.add k) (zs.length - k) (c - k)).ownBlock = (Value.slice A zs.length c).ownBlock := by
            cases A with
            | none => rfl
            | some ad =>
              have hb : (ad.add k).block = ad.block := by unfold Addr.add; split <;> rfl
              simp only [Option.map_some, Value.ownBlock, hb]
          have hR := hr.left hdr hdz (by
            rcases hnb with h | h
            · exact Or.inl (by rw [h]; simp)
            · exact Or.inr (by rw [hob]; exact h))
          clear hat hld
          go_wp2_with fail
          exact (HP.out _ _).2 ⟨rfl, ⟨_, hR, hob⟩, setCell_grown w _ _⟩

end Go.Proofs.Ytdhdbmfipkppiaa.Isa
