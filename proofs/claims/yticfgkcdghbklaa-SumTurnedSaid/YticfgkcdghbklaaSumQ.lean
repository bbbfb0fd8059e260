/- The check of bytes is linear, and no row of noughts hides a number. Plain numbers alone. -/
import Derived.Test.YticfgkcdghbklaaSumP
namespace Go.Proofs.Yticfgkcdghbklaa

/-- Two rows, XORed number by number. -/
def xorL (a b : List Int) : List Int := List.zipWith (fun x y => ((x.toNat ^^^ y.toNat : Nat) : Int)) a b
/-- How many are not nought. -/
def manyL (l : List Int) : Nat := (l.filter fun z => z != 0).length

theorem xor_half (a b : Nat) : (a ^^^ b) / 2 = a / 2 ^^^ b / 2 := by
  have := Nat.shiftRight_xor_distrib (a := a) (b := b) (i := 1)
  simpa [Nat.shiftRight_eq_div_pow] using this

theorem rnd_xor (a b : Nat) : rnd (a ^^^ b) = rnd a ^^^ rnd b := by
  unfold rnd
  generalize (3988292384 : Nat) = p
  rw [xor_half]
  have hm : (a ^^^ b) % 2 = a % 2 ^^^ b % 2 := by
    rw [← Nat.and_one_is_mod, ← Nat.and_one_is_mod, ← Nat.and_one_is_mod, Nat.and_xor_distrib_right]
  have hd : ((a ^^^ b) % 2) * p = (a % 2) * p ^^^ (b % 2) * p := by
    rw [hm]
    rcases Nat.mod_two_eq_zero_or_one a with h | h <;> rcases Nat.mod_two_eq_zero_or_one b with h' | h' <;> simp [h, h']
  rw [hd]
  generalize (a % 2) * p = x
  generalize (b % 2) * p = y
  rw [Nat.xor_assoc, Nat.xor_assoc, ← Nat.xor_assoc (b / 2), Nat.xor_comm (b / 2), Nat.xor_assoc x]

theorem rounds_xor (a b : Nat) : ∀ k, rounds k (a ^^^ b) = rounds k a ^^^ rounds k b
  | 0 => rfl
  | k + 1 => by simp only [rounds]; rw [rounds_xor a b k, rnd_xor]

theorem upd_xor (r s : Nat) (x y : Int) : upd (r ^^^ s) ((x.toNat ^^^ y.toNat : Nat) : Int) = upd r x ^^^ upd s y := by
  unfold upd
  rw [← rounds_xor, Int.toNat_natCast]
  congr 1
  rw [Nat.xor_assoc, Nat.xor_assoc, ← Nat.xor_assoc s, Nat.xor_comm s, Nat.xor_assoc x.toNat]

theorem raw_xor : ∀ (a d : List Int) (r s : Nat), a.length = d.length → raw (r ^^^ s) (xorL a d) = raw r a ^^^ raw s d
  | [], [], r, s, _ => rfl
  | x :: a, y :: d, r, s, h => by
    have ih := raw_xor a d (upd r x) (upd s y) (by simpa using h)
    simp only [raw, xorL, List.zipWith_cons_cons, List.foldl_cons] at ih ⊢
    rw [upd_xor]
    exact ih

theorem crc_xor (a d : List Int) (h : a.length = d.length) : crc a ^^^ crc (xorL a d) = raw 0 d := by
  unfold crc
  have := raw_xor a d 4294967295 0 h
  rw [Nat.xor_zero] at this
  rw [this]
  generalize raw 4294967295 a = x
  generalize raw 0 d = y
  rw [← Nat.xor_assoc 4294967295 x y, ← Nat.xor_assoc, Nat.xor_self, Nat.zero_xor]

theorem rnd_zero {r : Nat} (h : r < 4294967296) (h0 : rnd r = 0) : r = 0 := by
  unfold rnd at h0
  have h1 : r / 2 = (r % 2) * 3988292384 := by
    have := congrArg (· ^^^ (r % 2) * 3988292384) h0
    simpa [Nat.xor_assoc] using this
  omega

theorem rounds_zero {r : Nat} (h : r < 4294967296) : ∀ k, rounds k r = 0 → r = 0
  | 0, h0 => h0
  | k + 1, h0 => rounds_zero h k (rnd_zero (rounds_lt h k) h0)

theorem rounds_nought : ∀ k, rounds k 0 = 0
  | 0 => rfl
  | k + 1 => by simp only [rounds]; rw [rounds_nought k]; rfl

theorem upd_nought (z : Int) (hz : z = 0) (r : Nat) : upd r z = rounds 8 r := by subst hz; simp [upd]

theorem raw_noughts : ∀ (d : List Int) (r : Nat), r < 4294967296 → r ≠ 0 → (∀ z ∈ d, z = 0) → raw r d ≠ 0
  | [], r, _, h0, _ => h0
  | z :: d, r, h, h0, hz => by
    simp only [raw, List.foldl_cons]
    rw [upd_nought z (hz z (by simp))]
    exact raw_noughts d _ (rounds_lt h 8) (fun e => h0 (rounds_zero h 8 e)) (fun y hy => hz y (by simp [hy]))

theorem manyL_cons (z : Int) (d : List Int) : manyL (z :: d) = (if z = 0 then 0 else 1) + manyL d := by
  unfold manyL
  by_cases h : z = 0 <;> simp [h]
  omega

theorem manyL_zero : ∀ {d : List Int}, manyL d = 0 → ∀ z ∈ d, z = 0
  | [], _, z, h => by cases h
  | y :: d, h0, z, h => by
    rw [manyL_cons] at h0
    rcases List.mem_cons.1 h with rfl | h
    · by_cases e : z = 0
      · exact e
      · simp [e] at h0
    · exact manyL_zero (by omega) z h

theorem raw_none : ∀ {d : List Int}, manyL d = 0 → raw 0 d = 0
  | [], _ => rfl
  | z :: d, h => by
    have hz := manyL_zero h z (by simp)
    rw [manyL_cons] at h
    simp only [raw, List.foldl_cons]
    rw [upd_nought z hz, rounds_nought]
    exact raw_none (d := d) (by omega)

theorem raw_one : ∀ {d : List Int}, Bytes d → manyL d = 1 → raw 0 d ≠ 0
  | [], _, h => by simp [manyL] at h
  | z :: d, hb, h => by
    have hz := hb z (by simp)
    rw [manyL_cons] at h
    simp only [raw, List.foldl_cons]
    by_cases e : z = 0
    · rw [upd_nought z e, rounds_nought]
      exact raw_one (d := d) (fun y hy => hb y (by simp [hy])) (by simp [e] at h; exact h)
    · have h0 : manyL d = 0 := by simp [e] at h; omega
      refine raw_noughts d _ (upd_lt (by omega) hz) (fun e' => e ?_) (manyL_zero h0)
      have := rounds_zero (r := 0 ^^^ z.toNat) (by rw [Nat.zero_xor]; omega) 8 e'
      rw [Nat.zero_xor] at this
      omega

theorem xorL_bytes {a b : List Int} (ha : Bytes a) (hb : Bytes b) : Bytes (xorL a b) := by
  intro z hz
  unfold xorL at hz
  obtain ⟨i, hi, rfl⟩ := List.getElem_of_mem hz
  simp only [List.getElem_zipWith]
  simp at hi
  have h1 := ha _ (List.getElem_mem (by omega : i < a.length))
  have h2 := hb _ (List.getElem_mem (by omega : i < b.length))
  have : (a[i]).toNat ^^^ (b[i]).toNat < 2 ^ 8 := Nat.xor_lt_two_pow (by omega) (by omega)
  omega

theorem xorL_snoc (a b : List Int) (k : Nat) (ha : k < a.length) (hb : k < b.length) : xorL (a.take (k + 1)) (b.take (k + 1)) = xorL (a.take k) (b.take k) ++ [(((a[k]?.getD 0).toNat ^^^ (b[k]?.getD 0).toNat : Nat) : Int)] := by
  unfold xorL
  rw [List.take_succ_eq_append_getElem ha, List.take_succ_eq_append_getElem hb, List.zipWith_append (by simp; omega)]
  simp [ha, hb]

theorem manyL_snoc (b : List Int) (k : Nat) (hb : k < b.length) : manyL (b.take (k + 1)) = manyL (b.take k) + (if b[k]?.getD 0 = 0 then 0 else 1) := by
  unfold manyL
  rw [List.take_succ_eq_append_getElem hb, List.filter_append]
  by_cases h : b[k] = 0 <;> simp [hb, h]

end Go.Proofs.Yticfgkcdghbklaa
