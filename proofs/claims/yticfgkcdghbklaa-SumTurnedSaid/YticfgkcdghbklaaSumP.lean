/- The check of bytes in plain numbers: one round, one byte, all bytes. -/
import Derived.Laws.BitsAllLaws
namespace Go.Proofs.Yticfgkcdghbklaa

def rnd (r : Nat) : Nat := (r / 2) ^^^ ((r % 2) * 3988292384)
def rounds : Nat → Nat → Nat
  | 0, r => r
  | k + 1, r => rnd (rounds k r)
def upd (r : Nat) (z : Int) : Nat := rounds 8 (r ^^^ z.toNat)
def raw (r : Nat) (zs : List Int) : Nat := zs.foldl upd r
def crc (zs : List Int) : Nat := 4294967295 ^^^ raw 4294967295 zs
/-- The four bytes of a number, the lowest first. -/
def le4 (s : Nat) : List Int := [(s % 256 : Nat), (s / 256 % 256 : Nat), (s / 65536 % 256 : Nat), (s / 16777216 % 256 : Nat)]
def seal_ (zs : List Int) : List Int := zs ++ le4 (crc zs)

def Bytes (zs : List Int) : Prop := ∀ z ∈ zs, 0 ≤ z ∧ z ≤ 255

theorem rnd_lt {r : Nat} (h : r < 4294967296) : rnd r < 4294967296 := by
  unfold rnd
  have h1 : r / 2 < 2 ^ 32 := by omega
  have h2 : (r % 2) * 3988292384 < 2 ^ 32 := by omega
  exact Nat.xor_lt_two_pow h1 h2

theorem rounds_lt {r : Nat} (h : r < 4294967296) : ∀ k, rounds k r < 4294967296
  | 0 => h
  | k + 1 => rnd_lt (rounds_lt h k)

theorem xor_lt {a b : Nat} (h : a < 4294967296) (h' : b < 4294967296) : a ^^^ b < 4294967296 := Nat.xor_lt_two_pow (n := 32) h h'

theorem upd_lt {r : Nat} {z : Int} (h : r < 4294967296) (hz : 0 ≤ z ∧ z ≤ 255) : upd r z < 4294967296 := rounds_lt (xor_lt h (by omega)) 8

theorem raw_lt {r : Nat} {zs : List Int} (h : r < 4294967296) (hz : Bytes zs) : raw r zs < 4294967296 := by
  induction zs generalizing r with
  | nil => exact h
  | cons z zs ih => exact ih (upd_lt h (hz z (by simp))) (fun y hy => hz y (by simp [hy]))

theorem crc_lt {zs : List Int} (hz : Bytes zs) : crc zs < 4294967296 := xor_lt (by omega) (raw_lt (by omega) hz)

/-- One round as the walk spells it. -/
theorem rnd_walk (y : Nat) (h : y < 4294967296) : bits .xor .u32 ((y : Int) / 2) (bits .and .u32 (y : Int) 1 * 3988292384 % 4294967296) = (rnd y : Nat) := by
  have h1 : bits .and .u32 (y : Int) 1 = ((y % 2 : Nat) : Int) := by
    have := u32_and_nat y 1 h (by omega)
    rw [Nat.and_one_is_mod] at this
    exact_mod_cast this
  rw [h1]
  have h2 : (((y % 2 : Nat) : Int) * 3988292384 % 4294967296) = (((y % 2) * 3988292384 : Nat) : Int) := by omega
  rw [h2, show ((y : Int) / 2) = ((y / 2 : Nat) : Int) from by omega]
  exact u32_xor_nat _ _ (by omega) (by omega)

theorem xor_walk (x : Nat) (z : Int) (h : x < 4294967296) (hz : 0 ≤ z ∧ z ≤ 255) : Value.int .u32 (bits .xor .u32 (x : Int) z) = .int .u32 ((x ^^^ z.toNat : Nat) : Int) := by
  obtain ⟨n, rfl⟩ := Int.eq_ofNat_of_zero_le hz.1
  rw [Int.toNat_natCast]
  congr 1
  exact u32_xor_nat _ _ h (by omega)

theorem not_walk (x : Nat) (h : x < 4294967296) : bits .xor .u32 IntKind.u32.max (x : Int) = ((4294967295 ^^^ x : Nat) : Int) := by
  have := u32_xor_nat 4294967295 x (by omega) h
  have e : IntKind.u32.max = ((4294967295 : Nat) : Int) := by decide
  rw [e]; exact this

theorem raw_snoc (r : Nat) (zs : List Int) (k : Nat) (h : k < zs.length) : raw r (zs.take (k + 1)) = upd (raw r (zs.take k)) (zs[k]?.getD 0) := by
  unfold raw
  rw [List.take_succ_eq_append_getElem h, List.foldl_append]
  simp [h]

theorem bytes_at {zs : List Int} (hz : Bytes zs) {k : Nat} (h : k < zs.length) : 0 ≤ zs[k]?.getD 0 ∧ zs[k]?.getD 0 ≤ 255 := by
  simp [h]
  exact hz _ (List.getElem_mem h)

theorem bytes_take {zs : List Int} (hz : Bytes zs) (k : Nat) : Bytes (zs.take k) := fun z h => hz z (List.mem_of_mem_take h)

end Go.Proofs.Yticfgkcdghbklaa
