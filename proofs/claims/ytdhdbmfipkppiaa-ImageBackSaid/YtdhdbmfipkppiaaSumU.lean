/- The check of bytes is linear, and no row of noughts hides a number. Plain numbers alone. -/
/- Up to four bytes side by side that are turned are told. Plain numbers alone. -/
import Derived.Test.YtdhdbmfipkppiaaSumW
namespace Go.Proofs.Ytdhdbmfipkppiaa
set_option linter.unusedSimpArgs false
set_option linter.unusedVariables false
set_option linter.unnecessarySimpa false

/-- Two rows, XORed number by number. -/
def xorL (a b : List Int) : List Int := List.zipWith (fun x y => ((x.toNat ^^^ y.toNat : Nat) : Int)) a b
/-- How many are not nought. -/
def manyL (l : List Int) : Nat := (l.filter fun z => z != 0).length

theorem xor_half (a b : Nat) : (a ^^^ b) / 2 = a / 2 ^^^ b / 2 := by
  have := Nat.shiftRight_xor_distrib (a := a) (b := b) (i := 1)
  simpa [Nat.shiftRight_eq_div_pow] using this

theorem rnd_xor (a b : Nat) : rnd (a ^^^ b) = rnd a ^^^ rnd b := by
  unfold rnd
  generalize (3988292384 : Nat) = p
  rw [xor_half]
  have hm : (a ^^^ b) % 2 = a % 2 ^^^ b % 2 := by
    rw [← Nat.and_one_is_mod, ← Nat.and_one_is_mod, ← Nat.and_one_is_mod, Nat.and_xor_distrib_right]
  have hd : ((a ^^^ b) % 2) * p = (a % 2) * p ^^^ (b % 2) * p := by
    rw [hm]
    rcases Nat.mod_two_eq_zero_or_one a with h | h <;> rcases Nat.mod_two_eq_zero_or_one b with h' | h' <;> simp [h, h']
  rw [hd]
  generalize (a % 2) * p = x
  generalize (b % 2) * p = y
  rw [Nat.xor_assoc, Nat.xor_assoc, ← Nat.xor_assoc (b / 2), Nat.xor_comm (b / 2), Nat.xor_assoc x]

theorem rounds_xor (a b : Nat) : ∀ k, rounds k (a ^^^ b) = rounds k a ^^^ rounds k b
  | 0 => rfl
  | k + 1 => by simp only [rounds]; rw [rounds_xor a b k, rnd_xor]

theorem upd_xor (r s : Nat) (x y : Int) : upd (r ^^^ s) ((x.toNat ^^^ y.toNat : Nat) : Int) = upd r x ^^^ upd s y := by
  unfold upd
  rw [← rounds_xor, Int.toNat_natCast]
  congr 1
  rw [Nat.xor_assoc, Nat.xor_assoc, ← Nat.xor_assoc s, Nat.xor_comm s, Nat.xor_assoc x.toNat]

theorem raw_xor : ∀ (a d : List Int) (r s : Nat), a.length = d.length → raw (r ^^^ s) (xorL a d) = raw r a ^^^ raw s d
  | [], [], r, s, _ => rfl
  | x :: a, y :: d, r, s, h => by
    have ih := raw_xor a d (upd r x) (upd s y) (by simpa using h)
    simp only [raw, xorL, List.zipWith_cons_cons, List.foldl_cons] at ih ⊢
    rw [upd_xor]
    exact ih

theorem crc_xor (a d : List Int) (h : a.length = d.length) : crc a ^^^ crc (xorL a d) = raw 0 d := by
  unfold crc
  have := raw_xor a d 4294967295 0 h
  rw [Nat.xor_zero] at this
  rw [this]
  generalize raw 4294967295 a = x
  generalize raw 0 d = y
  rw [← Nat.xor_assoc 4294967295 x y, ← Nat.xor_assoc, Nat.xor_self, Nat.zero_xor]

theorem rnd_zero {r : Nat} (h : r < 4294967296) (h0 : rnd r = 0) : r = 0 := by
  unfold rnd at h0
  have h1 : r / 2 = (r % 2) * 3988292384 := by
    have := congrArg (· ^^^ (r % 2) * 3988292384) h0
    simpa [Nat.xor_assoc] using this
  omega

theorem rounds_zero {r : Nat} (h : r < 4294967296) : ∀ k, rounds k r = 0 → r = 0
  | 0, h0 => h0
  | k + 1, h0 => rounds_zero h k (rnd_zero (rounds_lt h k) h0)

theorem rounds_nought : ∀ k, rounds k 0 = 0
  | 0 => rfl
  | k + 1 => by simp only [rounds]; rw [rounds_nought k]; rfl

theorem upd_nought (z : Int) (hz : z = 0) (r : Nat) : upd r z = rounds 8 r := by subst hz; simp [upd]

theorem raw_noughts : ∀ (d : List Int) (r : Nat), r < 4294967296 → r ≠ 0 → (∀ z ∈ d, z = 0) → raw r d ≠ 0
  | [], r, _, h0, _ => h0
  | z :: d, r, h, h0, hz => by
    simp only [raw, List.foldl_cons]
    rw [upd_nought z (hz z (by simp))]
    exact raw_noughts d _ (rounds_lt h 8) (fun e => h0 (rounds_zero h 8 e)) (fun y hy => hz y (by simp [hy]))

theorem manyL_cons (z : Int) (d : List Int) : manyL (z :: d) = (if z = 0 then 0 else 1) + manyL d := by
  unfold manyL
  by_cases h : z = 0 <;> simp [h]
  omega

theorem manyL_zero : ∀ {d : List Int}, manyL d = 0 → ∀ z ∈ d, z = 0
  | [], _, z, h => by cases h
  | y :: d, h0, z, h => by
    rw [manyL_cons] at h0
    rcases List.mem_cons.1 h with rfl | h
    · by_cases e : z = 0
      · exact e
      · simp [e] at h0
    · exact manyL_zero (by omega) z h

theorem raw_none : ∀ {d : List Int}, manyL d = 0 → raw 0 d = 0
  | [], _ => rfl
  | z :: d, h => by
    have hz := manyL_zero h z (by simp)
    rw [manyL_cons] at h
    simp only [raw, List.foldl_cons]
    rw [upd_nought z hz, rounds_nought]
    exact raw_none (d := d) (by omega)

theorem raw_one : ∀ {d : List Int}, Bytes d → manyL d = 1 → raw 0 d ≠ 0
  | [], _, h => by simp [manyL] at h
  | z :: d, hb, h => by
    have hz := hb z (by simp)
    rw [manyL_cons] at h
    simp only [raw, List.foldl_cons]
    by_cases e : z = 0
    · rw [upd_nought z e, rounds_nought]
      exact raw_one (d := d) (fun y hy => hb y (by simp [hy])) (by simp [e] at h; exact h)
    · have h0 : manyL d = 0 := by simp [e] at h; omega
      refine raw_noughts d _ (upd_lt (by omega) hz) (fun e' => e ?_) (manyL_zero h0)
      have := rounds_zero (r := 0 ^^^ z.toNat) (by rw [Nat.zero_xor]; omega) 8 e'
      rw [Nat.zero_xor] at this
      omega

theorem xorL_bytes {a b : List Int} (ha : Bytes a) (hb : Bytes b) : Bytes (xorL a b) := by
  intro z hz
  unfold xorL at hz
  obtain ⟨i, hi, rfl⟩ := List.getElem_of_mem hz
  simp only [List.getElem_zipWith]
  simp at hi
  have h1 := ha _ (List.getElem_mem (by omega : i < a.length))
  have h2 := hb _ (List.getElem_mem (by omega : i < b.length))
  have : (a[i]).toNat ^^^ (b[i]).toNat < 2 ^ 8 := Nat.xor_lt_two_pow (by omega) (by omega)
  omega

theorem xorL_snoc (a b : List Int) (k : Nat) (ha : k < a.length) (hb : k < b.length) : xorL (a.take (k + 1)) (b.take (k + 1)) = xorL (a.take k) (b.take k) ++ [(((a[k]?.getD 0).toNat ^^^ (b[k]?.getD 0).toNat : Nat) : Int)] := by
  unfold xorL
  rw [List.take_succ_eq_append_getElem ha, List.take_succ_eq_append_getElem hb, List.zipWith_append (by simp; omega)]
  simp [ha, hb]

theorem manyL_snoc (b : List Int) (k : Nat) (hb : k < b.length) : manyL (b.take (k + 1)) = manyL (b.take k) + (if b[k]?.getD 0 = 0 then 0 else 1) := by
  unfold manyL
  rw [List.take_succ_eq_append_getElem hb, List.filter_append]
  by_cases h : b[k] = 0 <;> simp [hb, h]

end Go.Proofs.Ytdhdbmfipkppiaa

namespace Go.Proofs.Ytdhdbmfipkppiaa
set_option linter.unusedSimpArgs false
set_option linter.unusedVariables false
set_option linter.unnecessarySimpa false

theorem rounds_inj {x y : Nat} (hx : x < 4294967296) (hy : y < 4294967296) (k : Nat) (h : rounds k x = rounds k y) : x = y := by
  have h1 := rounds_xor x y k
  rw [h, Nat.xor_self] at h1
  have := rounds_zero (xor_lt hx hy) k h1
  have h2 := congrArg (· ^^^ y) this
  simpa [Nat.xor_assoc] using h2

theorem rnd_double (x : Nat) : rnd (2 * x) = x := by
  unfold rnd
  rw [show 2 * x % 2 = 0 by omega, show 2 * x / 2 = x by omega]
  simp

theorem rounds_256 (y : Nat) : rounds 8 (y * 256) = y := by
  simp only [rounds]
  rw [show y * 256 = 2 * (2 * (2 * (2 * (2 * (2 * (2 * (2 * y))))))) by omega]
  simp only [rnd_double]

theorem split_xor (q b : Nat) (h : b < 256) : q * 256 ^^^ b = q * 256 + b := by
  apply Nat.eq_of_testBit_eq
  intro j
  rw [Nat.testBit_xor, Nat.mul_comm q 256, show (256 : Nat) = 2 ^ 8 from rfl, Nat.testBit_two_pow_mul, Nat.testBit_two_pow_mul_add _ (by omega : b < 2 ^ 8)]
  by_cases hj : j < 8
  · simp [hj, show ¬ 8 ≤ j by omega]
  · have : b.testBit j = false := Nat.testBit_lt_two_pow (Nat.lt_of_lt_of_le h (show 256 ≤ 2 ^ j from Nat.pow_le_pow_right (n := 2) (by omega) (by omega : 8 ≤ j)))
    simp [hj, show 8 ≤ j by omega, this]

theorem upd_low {r : Nat} : upd r ((r % 256 : Nat) : Int) = r / 256 := by
  unfold upd
  rw [Int.toNat_natCast]
  have h : r ^^^ r % 256 = r / 256 * 256 := by
    have h1 := split_xor (r / 256) (r % 256) (Nat.mod_lt _ (by omega))
    have h2 : r / 256 * 256 + r % 256 = r := by omega
    rw [h2] at h1
    have h3 := congrArg (· ^^^ r % 256) h1
    simp only [Nat.xor_assoc, Nat.xor_self, Nat.xor_zero] at h3
    exact h3.symm
  rw [h, rounds_256]

theorem raw_le4 {r : Nat} (h : r < 4294967296) : raw r (le4 r) = 0 := by
  simp only [raw, le4, List.foldl_cons, List.foldl_nil]
  rw [upd_low, upd_low, show r / 65536 % 256 = (r / 256 / 256) % 256 by omega, upd_low, show r / 16777216 % 256 = (r / 256 / 256 / 256) % 256 by omega, upd_low]
  omega

theorem back {r s : Nat} {b : Int} (hr : r < 4294967296) (hb : 0 ≤ b ∧ b ≤ 255) (hs : s < 16777216) (h : upd r b = s) : r = s * 256 + b.toNat := by
  unfold upd at h
  have h1 : r ^^^ b.toNat = s * 256 := rounds_inj (xor_lt hr (by omega)) (by omega) 8 (by rw [h, rounds_256])
  have h2 := congrArg (· ^^^ b.toNat) h1
  simp only [Nat.xor_assoc, Nat.xor_self, Nat.xor_zero] at h2
  rw [split_xor s b.toNat (by omega)] at h2
  exact h2

theorem raw_four {b0 b1 b2 b3 : Int} (h0 : 0 ≤ b0 ∧ b0 ≤ 255) (h1 : 0 ≤ b1 ∧ b1 ≤ 255) (h2 : 0 ≤ b2 ∧ b2 ≤ 255) (h3 : 0 ≤ b3 ∧ b3 ≤ 255) (h : raw 0 [b0, b1, b2, b3] = 0) : b0 = 0 ∧ b1 = 0 ∧ b2 = 0 ∧ b3 = 0 := by
  simp only [raw, List.foldl_cons, List.foldl_nil] at h
  have l1 := upd_lt (r := 0) (z := b0) (by omega) h0
  have l2 := upd_lt l1 h1
  have l3 := upd_lt l2 h2
  have e3 := back l3 h3 (by omega) h
  have e2 := back l2 h2 (s := upd (upd (upd 0 b0) b1) b2) (by omega) rfl
  have e1 := back l1 h1 (s := upd (upd 0 b0) b1) (by omega) rfl
  have e0 := back (r := 0) (by omega) h0 (s := upd 0 b0) (by omega) rfl
  omega

theorem raw_append' (r : Nat) (a b : List Int) : raw r (a ++ b) = raw (raw r a) b := List.foldl_append

theorem raw_zeros (n : Nat) : raw 0 (List.replicate n 0) = 0 := by
  induction n with
  | zero => rfl
  | succ n ih =>
    rw [List.replicate_succ, raw, List.foldl_cons, upd_nought 0 rfl, rounds_nought]
    exact ih

theorem raw_short {l : List Int} (hb : Bytes l) (hl : l.length ≤ 4) (h : raw 0 l = 0) : ∀ z ∈ l, z = 0 := by
  have h4 : raw 0 (l ++ List.replicate (4 - l.length) 0) = 0 := by rw [raw_append', h, raw_zeros]
  have hb4 : Bytes (l ++ List.replicate (4 - l.length) 0) := fun z hz => (List.mem_append.1 hz).elim (hb z) (fun h => by have := List.eq_of_mem_replicate h; omega)
  have hlen : (l ++ List.replicate (4 - l.length) (0 : Int)).length = 4 := by simp; omega
  have hz : ∀ z ∈ l ++ List.replicate (4 - l.length) 0, z = 0 := by
    generalize l ++ List.replicate (4 - l.length) 0 = m at *
    match m, hlen with
    | [b0, b1, b2, b3], _ =>
      obtain ⟨rfl, rfl, rfl, rfl⟩ := raw_four (hb4 b0 (by simp)) (hb4 b1 (by simp)) (hb4 b2 (by simp)) (hb4 b3 (by simp)) h4
      intro z hz
      simp at hz
      exact hz
  exact fun z h => hz z (List.mem_append_left _ h)

/-- What is turned: from a place on so many bytes. -/
def burst (n a : Nat) (by_ : List Int) : List Int := List.replicate a 0 ++ by_ ++ List.replicate (n - a - by_.length) 0

theorem burst_length {n a : Nat} {by_ : List Int} (h : a + by_.length ≤ n) : (burst n a by_).length = n := by simp [burst]; omega

theorem burst_bytes {n a : Nat} {by_ : List Int} (hb : Bytes by_) : Bytes (burst n a by_) := by
  intro z hz
  simp only [burst, List.mem_append] at hz
  rcases hz with (h | h) | h
  · have := List.eq_of_mem_replicate h; omega
  · exact hb z h
  · have := List.eq_of_mem_replicate h; omega

theorem burst_zero {n a : Nat} {by_ : List Int} (hb : Bytes by_) (h4 : by_.length ≤ 4) (h : raw 0 (burst n a by_) = 0) : ∀ z ∈ by_, z = 0 := by
  rw [burst, raw_append', raw_append', raw_zeros] at h
  have h1 : raw 0 by_ = 0 := by
    rcases Nat.eq_zero_or_pos (raw 0 by_) with h0 | h0
    · exact h0
    · exact absurd h (raw_noughts _ _ (raw_lt (by omega) hb) (by omega) (fun z hz => List.eq_of_mem_replicate hz))
  exact raw_short hb h4 h1

theorem le4_xor (x y : Nat) : le4 (x ^^^ y) = xorL (le4 x) (le4 y) := by
  have h8 : ∀ a b : Nat, (a ^^^ b) % 256 = a % 256 ^^^ b % 256 := fun a b => Nat.xor_mod_two_pow (n := 8)
  have hd : ∀ (a b k : Nat), (a ^^^ b) / 2 ^ k = a / 2 ^ k ^^^ b / 2 ^ k := fun a b k => by
    have := Nat.shiftRight_xor_distrib (a := a) (b := b) (i := k)
    simpa [Nat.shiftRight_eq_div_pow] using this
  have d1 := hd x y 8
  have d2 := hd x y 16
  have d3 := hd x y 24
  simp only [Nat.reducePow] at d1 d2 d3
  simp only [le4, xorL, List.zipWith_cons_cons, List.zipWith_nil_left, Int.toNat_natCast, d1, d2, d3, h8]

theorem xorL_cancel : ∀ {c a b : List Int}, Bytes a → Bytes b → a.length = c.length → b.length = c.length → xorL c a = xorL c b → a = b
  | [], [], [], _, _, _, _, _ => rfl
  | z :: c, x :: a, y :: b, ha, hb, la, lb, h => by
    simp only [xorL, List.zipWith_cons_cons, List.cons.injEq] at h
    have hx := ha x (by simp)
    have hy := hb y (by simp)
    have h1 : z.toNat ^^^ x.toNat = z.toNat ^^^ y.toNat := by omega
    have h2 := congrArg (z.toNat ^^^ ·) h1
    simp only [← Nat.xor_assoc, Nat.xor_self, Nat.zero_xor] at h2
    rw [show x = y by omega, xorL_cancel (fun z hz => ha z (by simp [hz])) (fun z hz => hb z (by simp [hz])) (by simpa using la) (by simpa using lb) h.2]

theorem le4_bytes (s : Nat) : Bytes (le4 s) := by
  intro z hz
  simp [le4] at hz
  omega

/-- What was sealed and is then turned is right just if nothing was. -/
theorem sealed_burst {p d : List Int} (hd : Bytes d) (hl : d.length = p.length + 4) :
    seal_ ((xorL (seal_ p) d).take ((xorL (seal_ p) d).length - 4)) = xorL (seal_ p) d ↔ le4 (raw 0 (d.take p.length)) = d.drop p.length := by
  have l1 : (seal_ p).length = p.length + 4 := by simp [seal_, le4]
  have l2 : (xorL (seal_ p) d).length = p.length + 4 := by simp [xorL, l1, hl]
  rw [l2, show p.length + 4 - 4 = p.length by omega]
  have ht : (xorL (seal_ p) d).take p.length = xorL p (d.take p.length) := by
    simp only [xorL]
    rw [List.take_zipWith]
    simp [seal_]
  have hs : xorL (seal_ p) d = xorL p (d.take p.length) ++ xorL (le4 (crc p)) (d.drop p.length) := by
    conv => lhs; rw [← List.take_append_drop p.length d]
    simp only [xorL, seal_]
    rw [List.zipWith_append (by simp; omega)]
  rw [ht, hs]
  unfold seal_
  have hc := crc_xor p (d.take p.length) (by simp; omega)
  have hc2 : crc (xorL p (d.take p.length)) = crc p ^^^ raw 0 (d.take p.length) := by
    rw [← hc, ← Nat.xor_assoc, Nat.xor_self, Nat.zero_xor]
  rw [hc2, le4_xor]
  constructor
  · intro h
    have h := List.append_cancel_left h
    exact xorL_cancel (c := le4 (crc p)) (le4_bytes _) (fun z hz => hd z (List.mem_of_mem_drop hz)) rfl (by simp [le4]; omega) h
  · intro h
    rw [h]

theorem burst_told {p by_ : List Int} {a : Nat} (hb : Bytes by_) (h4 : by_.length ≤ 4) (ha : a + by_.length ≤ p.length + 4) :
    seal_ ((xorL (seal_ p) (burst (p.length + 4) a by_)).take ((xorL (seal_ p) (burst (p.length + 4) a by_)).length - 4)) = xorL (seal_ p) (burst (p.length + 4) a by_) ↔ ∀ z ∈ by_, z = 0 := by
  have hd := burst_bytes (n := p.length + 4) (a := a) hb
  have hl := burst_length (n := p.length + 4) ha
  rw [sealed_burst hd hl]
  constructor
  · intro h
    refine burst_zero (n := p.length + 4) (a := a) hb h4 ?_
    have h1 : raw 0 (burst (p.length + 4) a by_) = raw (raw 0 ((burst (p.length + 4) a by_).take p.length)) ((burst (p.length + 4) a by_).drop p.length) := by
      rw [← raw_append', List.take_append_drop]
    rw [h1, ← h]
    exact raw_le4 (raw_lt (by omega) (bytes_take hd _))
  · intro h
    have hz : ∀ z ∈ burst (p.length + 4) a by_, z = 0 := by
      intro z hz
      simp only [burst, List.mem_append] at hz
      rcases hz with (hz | hz) | hz
      · exact List.eq_of_mem_replicate hz
      · exact h z hz
      · exact List.eq_of_mem_replicate hz
    have hm : ∀ l : List Int, (∀ z ∈ l, z = 0) → l = List.replicate l.length 0 := fun l hl => List.eq_replicate_of_mem hl
    have e1 := hm ((burst (p.length + 4) a by_).take p.length) (fun z h => hz z (List.mem_of_mem_take h))
    have e2 := hm ((burst (p.length + 4) a by_).drop p.length) (fun z h => hz z (List.mem_of_mem_drop h))
    rw [e1, raw_zeros, e2, List.length_drop, hl, show p.length + 4 - p.length = 4 by omega]
    rfl

theorem burst_get (n a : Nat) (b : List Int) (i : Nat) : (burst n a b)[i]?.getD 0 = if a ≤ i ∧ i < a + b.length then b[i - a]?.getD 0 else 0 := by
  simp only [burst, List.getElem?_append, List.length_append, List.length_replicate, List.getElem?_replicate]
  rcases Nat.lt_or_ge i a with h1 | h1
  · have h3 : ¬ (a ≤ i ∧ i < a + b.length) := by omega
    have h4 : i < a + b.length := by omega
    rw [if_neg h3]
    simp [h1, h4]
  · rcases Nat.lt_or_ge i (a + b.length) with h2 | h2
    · have h3 : a ≤ i ∧ i < a + b.length := by omega
      have h4 : ¬ i < a := by omega
      rw [if_pos h3]
      simp [h2, h4]
    · have h3 : ¬ (a ≤ i ∧ i < a + b.length) := by omega
      have h4 : ¬ i < a := by omega
      have h5 : ¬ i < a + b.length := by omega
      rw [if_neg h3]
      simp only [h4, h5, if_false]
      split <;> rfl

theorem xorL_get {s d : List Int} {i : Nat} (h1 : i < s.length) (h2 : i < d.length) : (xorL s d)[i]? = some (((s[i]?.getD 0).toNat ^^^ (d[i]?.getD 0).toNat : Nat) : Int) := by
  simp [xorL, List.getElem?_zipWith, h1, h2]

theorem turn_step {s by_ : List Int} {a k : Nat} (ha : a + k < s.length) (hk : k < by_.length) :
    (xorL s (burst s.length a (by_.take k))).set (a + k) (((s[a + k]?.getD 0).toNat ^^^ (by_[k]?.getD 0).toNat : Nat) : Int) = xorL s (burst s.length a (by_.take (k + 1))) := by
  have l1 : (burst s.length a (by_.take k)).length = s.length := burst_length (by simp; omega)
  have l2 : (burst s.length a (by_.take (k + 1))).length = s.length := burst_length (by simp; omega)
  apply List.ext_getElem?
  intro i
  rw [List.getElem?_set]
  by_cases hi : i < s.length
  · rw [xorL_get hi (by omega), xorL_get hi (by omega), burst_get, burst_get]
    have lx : (xorL s (burst s.length a (by_.take k))).length = s.length := by simp [xorL, l1]
    have t1 : (by_.take k).length = k := by simp; omega
    have t2 : (by_.take (k + 1)).length = k + 1 := by simp; omega
    rw [t1, t2, lx]
    by_cases he : a + k = i
    · subst he
      rw [if_pos rfl, if_pos ha, if_pos (by omega), show a + k - a = k by omega]
      simp
    · rw [if_neg he]
      by_cases hr : a ≤ i ∧ i < a + k
      · rw [if_pos hr, if_pos (by omega), List.getElem?_take, List.getElem?_take, if_pos (by omega), if_pos (by omega)]
      · rw [if_neg hr, if_neg (by omega)]
  · rw [if_neg (by omega), List.getElem?_eq_none (by simp [xorL, l1]; omega), List.getElem?_eq_none (by simp [xorL, l2]; omega)]

theorem turn_at {s by_ : List Int} {a k : Nat} (hs : Bytes s) (ha : a + k < s.length) (hk : k < by_.length) : (xorL s (burst s.length a (by_.take k)))[a + k]?.getD 0 = s[a + k]?.getD 0 := by
  have l1 : (burst s.length a (by_.take k)).length = s.length := burst_length (by simp; omega)
  rw [xorL_get ha (by omega), burst_get, if_neg (by simp; omega)]
  have := bytes_at hs ha
  simp only [Int.toNat_zero, Nat.xor_zero, Option.getD_some]
  omega

theorem turn_none {s by_ : List Int} {a : Nat} (hs : Bytes s) (ha : a ≤ s.length) : xorL s (burst s.length a (by_.take 0)) = s := by
  have l1 : (burst s.length a (by_.take 0)).length = s.length := burst_length (by simp; omega)
  apply List.ext_getElem?
  intro i
  by_cases hi : i < s.length
  · rw [xorL_get hi (by omega), burst_get, if_neg (by simp)]
    have h1 := bytes_at hs hi
    have h2 : s[i]? = some (s[i]?.getD 0) := by simp [hi]
    rw [h2]
    simp only [Int.toNat_zero, Nat.xor_zero, Option.some.injEq, Option.getD_some]
    omega
  · rw [List.getElem?_eq_none (by simp [xorL]; omega), List.getElem?_eq_none (by omega)]

theorem turn_length {s by_ : List Int} {a : Nat} (ha : a + by_.length ≤ s.length) : (xorL s (burst s.length a by_)).length = s.length := by
  simp [xorL, burst_length ha]

end Go.Proofs.Ytdhdbmfipkppiaa
