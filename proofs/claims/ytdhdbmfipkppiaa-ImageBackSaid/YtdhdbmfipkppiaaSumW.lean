/- The check of bytes in plain numbers: one round, one byte, all bytes. -/
/- The walks of package sum: Sum, Seal, Open, and what they call. -/
import Derived.Laws.BitsAllLaws
import Derived.Test.YtdhdbmfipkppiaaTypes
namespace Go.Proofs.Ytdhdbmfipkppiaa
set_option linter.unusedSimpArgs false
set_option linter.unusedVariables false
set_option linter.unnecessarySimpa false

def rnd (r : Nat) : Nat := (r / 2) ^^^ ((r % 2) * 3988292384)
def rounds : Nat → Nat → Nat
  | 0, r => r
  | k + 1, r => rnd (rounds k r)
def upd (r : Nat) (z : Int) : Nat := rounds 8 (r ^^^ z.toNat)
def raw (r : Nat) (zs : List Int) : Nat := zs.foldl upd r
def crc (zs : List Int) : Nat := 4294967295 ^^^ raw 4294967295 zs
/-- The four bytes of a number, the lowest first. -/
def le4 (s : Nat) : List Int := [(s % 256 : Nat), (s / 256 % 256 : Nat), (s / 65536 % 256 : Nat), (s / 16777216 % 256 : Nat)]
def seal_ (zs : List Int) : List Int := zs ++ le4 (crc zs)

def Bytes (zs : List Int) : Prop := ∀ z ∈ zs, 0 ≤ z ∧ z ≤ 255

theorem rnd_lt {r : Nat} (h : r < 4294967296) : rnd r < 4294967296 := by
  unfold rnd
  have h1 : r / 2 < 2 ^ 32 := by omega
  have h2 : (r % 2) * 3988292384 < 2 ^ 32 := by omega
  exact Nat.xor_lt_two_pow h1 h2

theorem rounds_lt {r : Nat} (h : r < 4294967296) : ∀ k, rounds k r < 4294967296
  | 0 => h
  | k + 1 => rnd_lt (rounds_lt h k)

theorem xor_lt {a b : Nat} (h : a < 4294967296) (h' : b < 4294967296) : a ^^^ b < 4294967296 := Nat.xor_lt_two_pow (n := 32) h h'

theorem upd_lt {r : Nat} {z : Int} (h : r < 4294967296) (hz : 0 ≤ z ∧ z ≤ 255) : upd r z < 4294967296 := rounds_lt (xor_lt h (by omega)) 8

theorem raw_lt {r : Nat} {zs : List Int} (h : r < 4294967296) (hz : Bytes zs) : raw r zs < 4294967296 := by
  induction zs generalizing r with
  | nil => exact h
  | cons z zs ih => exact ih (upd_lt h (hz z (by simp))) (fun y hy => hz y (by simp [hy]))

theorem crc_lt {zs : List Int} (hz : Bytes zs) : crc zs < 4294967296 := xor_lt (by omega) (raw_lt (by omega) hz)

/-- One round as the walk spells it. -/
theorem rnd_walk (y : Nat) (h : y < 4294967296) : bits .xor .u32 ((y : Int) / 2) (bits .and .u32 (y : Int) 1 * 3988292384 % 4294967296) = (rnd y : Nat) := by
  have h1 : bits .and .u32 (y : Int) 1 = ((y % 2 : Nat) : Int) := by
    have := u32_and_nat y 1 h (by omega)
    rw [Nat.and_one_is_mod] at this
    exact_mod_cast this
  rw [h1]
  have h2 : (((y % 2 : Nat) : Int) * 3988292384 % 4294967296) = (((y % 2) * 3988292384 : Nat) : Int) := by omega
  rw [h2, show ((y : Int) / 2) = ((y / 2 : Nat) : Int) from by omega]
  exact u32_xor_nat _ _ (by omega) (by omega)

theorem xor_walk (x : Nat) (z : Int) (h : x < 4294967296) (hz : 0 ≤ z ∧ z ≤ 255) : Value.int .u32 (bits .xor .u32 (x : Int) z) = .int .u32 ((x ^^^ z.toNat : Nat) : Int) := by
  obtain ⟨n, rfl⟩ := Int.eq_ofNat_of_zero_le hz.1
  rw [Int.toNat_natCast]
  congr 1
  exact u32_xor_nat _ _ h (by omega)

theorem not_walk (x : Nat) (h : x < 4294967296) : bits .xor .u32 IntKind.u32.max (x : Int) = ((4294967295 ^^^ x : Nat) : Int) := by
  have := u32_xor_nat 4294967295 x (by omega) h
  have e : IntKind.u32.max = ((4294967295 : Nat) : Int) := by decide
  rw [e]; exact this

theorem raw_snoc (r : Nat) (zs : List Int) (k : Nat) (h : k < zs.length) : raw r (zs.take (k + 1)) = upd (raw r (zs.take k)) (zs[k]?.getD 0) := by
  unfold raw
  rw [List.take_succ_eq_append_getElem h, List.foldl_append]
  simp [h]

theorem bytes_at {zs : List Int} (hz : Bytes zs) {k : Nat} (h : k < zs.length) : 0 ≤ zs[k]?.getD 0 ∧ zs[k]?.getD 0 ≤ 255 := by
  simp [h]
  exact hz _ (List.getElem_mem h)

theorem bytes_take {zs : List Int} (hz : Bytes zs) (k : Nat) : Bytes (zs.take k) := fun z h => hz z (List.mem_of_mem_take h)

end Go.Proofs.Ytdhdbmfipkppiaa

namespace Go.Proofs.Ytdhdbmfipkppiaa
set_option linter.unusedSimpArgs false
set_option linter.unusedVariables false
set_option linter.unnecessarySimpa false
open Go.RowKit

set_option maxHeartbeats 400000 in
theorem sum_calls (v : Value) (zs : List Int) (w : World) (hv : Ints .u8 w v zs) (hz : Bytes zs) :
    Calls Try.prog 110 #[v] w fun e w' => e = .returned (.int .u32 (crc zs : Nat)) ∧ w = w' := by
  obtain ⟨A, c, rfl, hlc, hcm, hc⟩ := hv.form
  unfold maxLen at hcm
  clear hv
  go_enter Try.func110, Try.ntmps110
  go_wp2
  go_loop [3, 8] (fun r i => ∃ k : Nat, k ≤ zs.length ∧ i = .int .i64 k ∧ r = .int .u32 (raw 4294967295 (zs.take k) : Nat))
    (fun _ i => zs.length - (intOf i).toNat)
  case atStart => exact ⟨0, by omega, rfl, rfl⟩
  case round =>
    obtain ⟨k, hk, rfl, rfl⟩ := hrel
    have hx : raw 4294967295 (zs.take k) < 4294967296 := raw_lt (by omega) (bytes_take hz k)
    by_cases hlt : k < zs.length
    · obtain ⟨b, off, rfl, hcell⟩ := hc k hlt
      have hzk := bytes_at hz hlt
      have HS := Lib.hid (raw_snoc 4294967295 zs k hlt)
      generalize raw 4294967295 (zs.take k) = x at *
      generalize zs[k]?.getD 0 = z at *
      have hxz : x ^^^ z.toNat < 4294967296 := xor_lt hx (by omega)
      have HX := Lib.hid (xor_walk x z hx hzk)
      go_wp2
      go_loop [3, 16] (fun r i => ∃ m : Nat, m ≤ 8 ∧ i = .int .i64 m ∧ r = .int .u32 (rounds m (x ^^^ z.toNat) : Nat))
        (fun _ i => 8 - (intOf i).toNat)
      case atStart => exact ⟨0, by omega, rfl, HX.out⟩
      case round =>
        obtain ⟨m, hm, rfl, rfl⟩ := hrel
        have hr := rounds_lt hxz m
        have HR := Lib.hid (rnd_walk _ hr)
        have e : (rounds (m + 1) (x ^^^ z.toNat)) = rnd (rounds m (x ^^^ z.toNat)) := rfl
        have HE := Lib.hid e
        clear e
        by_cases h8 : m < 8
        · go_wp2
          go_round
          case rel => exact ⟨m + 1, by omega, by go_num, by rw [HE.out, ← HR.out]⟩
          case measure => simp [intOf]; omega
        · have h9 : m = 8 := by omega
          subst h9
          go_wp2
          go_round
          case rel => exact ⟨k + 1, by omega, by go_num, by rw [HS.out]; rfl⟩
          case measure => simp [intOf]; omega
    · have hkk : k = zs.length := by omega
      subst hkk
      have HN := Lib.hid (not_walk _ hx)
      go_wp2
      go_ret
      refine ⟨ret_int ?_, rfl⟩
      rw [List.take_length] at HN
      exact HN.out

set_option maxHeartbeats 400000 in
theorem cloneU8_calls (v : Value) (zs : List Int) (w : World) (hv : Ints .u8 w v zs) (hl : zs.length ≤ 1000000) :
    Calls Try.prog 111 #[v] w (Made 5 1 zs.length (zs.map (.int .u8)) w) := by
  have hv' := hv
  obtain ⟨A, c, rfl, hlc, hcm, _, hA⟩ := hv
  have hq := fun w : World => Lib.run_eql_slice_nil (P := Try.prog) w 29 5 A zs.length c 0 0 Try.underlying29
  cases A with
  | none =>
    have h0 := Lib.hid (show zs = [] by simpa using hA.none)
    clear hA
    go_enter Try.func111, Try.ntmps111
    go_wp2
    go_ret
    have h0 := h0.out
    subst h0
    exact ⟨_, rfl, World.ownsRow_nil _ _ _ _, Below.refl _ _⟩
  | some ad =>
    clear hA
    have hown := World.ownsRow_made (base := w.heap.size) (e := 5) (size := 1) w #[] 0 (Nat.le_refl _) (Nat.zero_le _) rfl
    go_enter Try.func111, Try.ntmps111
    go_wp2_with (at_builtin; refine wpList_append_row rfl rfl elem_u8 hown rfl (Row.below hv' (below_alloc (Below.refl _ _) (Nat.le_refl _) _)) rfl (one_ints _ _) (by omega) (by omega) (by simp) ?_; intro v1 w1 hown1 hg1 _)
    go_ret
    exact ⟨_, rfl, by simpa using hown1, below_own (below_alloc (Below.refl _ _) (Nat.le_refl _) _) (by simp) hown (Nat.le_refl _) hg1⟩

theorem le4_length (s : Nat) : (le4 s).length = 4 := rfl

set_option maxHeartbeats 800000 in
theorem seal_calls (v : Value) (zs : List Int) (w : World) (hv : Ints .u8 w v zs) (hz : Bytes zs) (hl : zs.length ≤ 100000) :
    Calls Try.prog 81 #[v] w (Made 5 1 (seal_ zs).length ((seal_ zs).map (.int .u8)) w) := by
  have hs := crc_lt hz
  go_enter Try.func81, Try.ntmps81
  go_wp2_with (first | (go_at_call 110; refine (sum_calls _ zs _ hv hz).mono ?_; rintro e w' ⟨rfl, rfl⟩) | (go_at_call 111; refine (cloneU8_calls _ zs _ hv (by omega)).mono ?_; rintro e w1 ⟨v1, rfl, hown, hbel⟩))
  have HS : Hid (seal_ zs = zs ++ le4 (crc zs)) := rfl
  generalize crc zs = s at *
  go_loopw [4, 10] (fun v i wr => ∃ k : Nat, k ≤ 4 ∧ i = .int .i64 k ∧ wr.ownsRow w.heap.size 5 1 v (zs.length + k) ((zs ++ (le4 s).take k).map (.int .u8)) ∧ Below w.heap.size w wr)
    (fun _ i _ => 4 - (intOf i).toNat)
  case atStart => exact ⟨0, by omega, rfl, by simpa using hown, hbel⟩
  case round =>
    obtain ⟨k, hk, rfl, hown', hbel'⟩ := hrel
    clear hown hbel
    have hsz := hbel'.size
    by_cases h4 : k < 4
    · have hd : s / 16777216 % 256 = s / 16777216 := by omega
      have hd := Lib.hid hd
      obtain rfl | rfl | rfl | rfl : k = 0 ∨ k = 1 ∨ k = 2 ∨ k = 3 := by omega
      all_goals
        go_wp2_with (at_builtin; refine wpList_append_row rfl rfl elem_u8 (hown'.alloc _) rfl (row_new wr _ 5 1 1 rfl (by decide)) rfl (by intro u hu; simp at hu; subst hu; rfl) (by omega) (by omega) (by simp; omega) ?_; intro v2 w2 hown2 hg2 _)
        go_roundw
        case measure => simp [intOf]
        case rel =>
          have hd := hd.out
          refine ⟨_, ?_, rfl, ?_, below_own (below_alloc hbel' (by omega) _) (by simp; omega) (hown'.alloc _) (Nat.le_refl _) hg2⟩
          · simp
          · simpa [le4, hd, Nat.add_assoc] using hown2
    · obtain rfl : k = 4 := by omega
      go_wp2
      go_ret
      refine ⟨_, rfl, ?_, hbel'⟩
      rw [HS.out]
      have h4 : (le4 s).take 4 = le4 s := rfl
      rw [h4] at hown'
      simpa [le4_length] using hown'

set_option maxHeartbeats 400000 in
theorem bytesEq_calls (v u : Value) (zs ys : List Int) (w : World) (hv : Ints .u8 w v zs) (hu : Ints .u8 w u ys) (hz : Bytes zs) (hy : Bytes ys) :
    Calls Try.prog 55 #[v, u] w fun e w' => e = .returned (.bool (decide (zs = ys))) ∧ w = w' := by
  have h1 := conv_bytes (P := Try.prog) hv Try.underlying29 Try.underlying5 Try.underlying9
  have h2 := conv_bytes (P := Try.prog) hu Try.underlying29 Try.underlying5 Try.underlying9
  have HE := Lib.hid (strEq hz hy)
  go_enter Try.func55, Try.ntmps55
  go_wp2
  go_ret
  exact ⟨ret_bool HE.out, rfl⟩

theorem Made.mono_len {e : TypeId} {sz n n' : Nat} {xs xs' : List Value} {w : World} {ed : Ending} {w' : World} (h : Made e sz n xs w ed w') (hn : n = n') (hx : xs = xs') : Made e sz n' xs' w ed w' := by subst hn; subst hx; exact h

/-- What Open answers: the bytes before the check, if it is theirs. -/
def openOk (zs : List Int) : Prop := seal_ (zs.take (zs.length - 4)) = zs
instance (zs : List Int) : Decidable (openOk zs) := by unfold openOk; infer_instance

def OpenPost (zs : List Int) (w : World) (ed : Ending) (w' : World) : Prop :=
  ∃ v', ed = .returned (.tuple #[v', .int .i64 (if openOk zs then 0 else 2)]) ∧ Below w.heap.size w w' ∧
    (openOk zs → w'.ownsRow w.heap.size 5 1 v' (zs.length - 4) ((zs.take (zs.length - 4)).map (.int .u8))) ∧ (¬ openOk zs → v' = .slice none 0 0)

theorem ownsRow_base {w : World} {base base' : Nat} {e : TypeId} {sz : Nat} {v : Value} {n : Nat} {xs : List Value} (h : w.ownsRow base e sz v n xs) (hb : base' ≤ base) : w.ownsRow base' e sz v n xs := by
  refine ⟨h.1, ?_⟩
  rcases h.2 with h | ⟨g, cap, cur, e1, h1, r⟩
  · exact Or.inl h
  · exact Or.inr ⟨g, cap, cur, e1, by omega, r⟩

theorem bytes_seal {zs : List Int} (hz : Bytes zs) : Bytes (seal_ zs) := by
  intro z hm
  rcases List.mem_append.1 hm with h | h
  · exact hz z h
  · simp [le4] at h
    omega

set_option maxHeartbeats 1600000 in
theorem open_calls (v : Value) (zs : List Int) (w : World) (hv : Ints .u8 w v zs) (hz : Bytes zs) (hl : zs.length ≤ 100000) :
    Calls Try.prog 85 #[v] w (OpenPost zs w) := by
  have hv0 := hv
  obtain ⟨A, c, rfl, hlc, hcm, _, hA⟩ := hv
  unfold maxLen at hcm
  clear hA
  have hp := hv0.first (m := zs.length - 4) (by omega)
  have hpl : (zs.take (zs.length - 4)).length = zs.length - 4 := by rw [List.length_take]; omega
  have hpz : Bytes (zs.take (zs.length - 4)) := bytes_take hz _
  have hok : Hid (openOk zs ↔ seal_ (zs.take (zs.length - 4)) = zs) := Iff.rfl
  obtain ⟨p, HE⟩ : ∃ p, Hid (zs.take (zs.length - 4) = p) := ⟨_, rfl⟩
  rw [HE.out] at hp hpl hpz hok
  have HP := Lib.hid hpl
  clear hpl
  rw [show zs.length - 4 = (max 0 ((zs.length : Int) - 4)).toNat from by omega] at hp
  go_enter Try.func85, Try.ntmps85
  go_wp2_with fail
  refine (seal_calls _ p _ hp hpz (by have := HP.out; omega)).mono ?_
  rintro e w1 ⟨v1, rfl, hown1, hbel1⟩
  have hrow1 : Ints .u8 w1 v1 (seal_ p) := row_of_own hown1
  have hv1 := hv0.below hbel1
  go_wp2_with fail
  refine (bytesEq_calls _ _ _ _ _ hrow1 hv1 (bytes_seal hpz) hz).mono ?_
  rintro e w1 ⟨rfl, rfl⟩
  by_cases hk : seal_ p = zs
  · have hd := Lib.hid (show decide (seal_ p = zs) = true from decide_eq_true hk)
    have hk' : openOk zs := hok.out.2 hk
    clear hk
    rw [hd.out]
    go_wp2_with fail
    refine (cloneU8_calls _ p _ (hp.below hbel1) (by have := HP.out; omega)).mono ?_
    rintro e w2 ⟨v2, rfl, hown2, hbel2⟩
    go_wp2_with fail
    go_ret2
    refine ⟨v2, by rw [if_pos hk']; rfl, hbel1.trans (hbel2.mono hbel1.size), fun _ => ?_, fun h => absurd hk' h⟩
    rw [HP.out] at hown2
    rw [HE.out]
    exact ownsRow_base hown2 hbel1.size
  · have hd := Lib.hid (show decide (seal_ p = zs) = false from decide_eq_false hk)
    have hk' : ¬ openOk zs := fun h => hk (hok.out.1 h)
    clear hk
    rw [hd.out]
    go_wp2_with fail
    go_ret2
    exact ⟨_, by rw [if_neg hk']; rfl, hbel1, fun h => absurd h hk', fun _ => rfl⟩

end Go.Proofs.Ytdhdbmfipkppiaa
