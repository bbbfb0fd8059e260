/- The walk of isa.numbers. -/
import Derived.Test.YtgchdgnephbafaaIsaF
import Derived.Test.YtgchdgnephbafaaBytes
namespace Go.Proofs.Ytgchdgnephbafaa
open Go.RowKit

def GrewPost (w : World) (base : Nat) (e : TypeId) (sz : Nat) (v : Value) (n : Nat) (xs : List Value) (ed : Ending) (w' : World) : Prop := ∃ v', ed = .returned v' ∧ Grew w base e sz v n xs w' v'

theorem shift_i64 {wide i : Nat} (h : i < wide) : (8 * ((wide : Int) - 1 - (i : Int))).toNat = 8 * (wide - 1 - i) := by omega

set_option maxHeartbeats 1600000 in
theorem numbers_calls (base : Nat) (v lv : Value) (bs : List Int) (wide : Nat) (zs : List Int) (w : World)
    (hown : w.ownsRow base 5 1 v bs.length (bs.map (.int .u8))) (hbase : base ≤ w.heap.size) (hl : Ints .i64 w lv zs) (hsep : Sep v lv) (hll : ∀ k, lv.ownBlock = some k → k < w.heap.size) (hw : 1 ≤ wide) (hw8 : wide ≤ 8) (hn : bs.length + zs.length * wide ≤ 1099511627776) :
    Calls Try.prog 22 #[v, .int .i64 wide, lv] w (GrewPost w base 5 1 v (bs ++ zs.flatMap (be · wide)).length ((bs ++ zs.flatMap (be · wide)).map (.int .u8))) := by
  obtain ⟨A, c, rfl, hlc, hcm, _⟩ := id hl.form
  unfold maxLen at hcm
  have hg0 := Grew.refl hown
  go_enter Try.func22, Try.ntmps22
  go_wp2_with fail
  go_loopw [0, 12] (fun b i wr => ∃ (k : Nat) (bk : List Int), k ≤ zs.length ∧ i = .int .i64 k ∧ Hid (bk = bs ++ (zs.take k).flatMap (be · wide)) ∧ Hid (bk.length = bs.length + k * wide) ∧ Grew w base 5 1 v bk.length (bk.map (.int .u8)) wr b) (fun _ i _ => zs.length - (intOf i).toNat)
  case atStart => exact ⟨0, bs, by omega, rfl, by show _ = _; simp, by show _ = _; simp, hg0⟩
  case round =>
    obtain ⟨k, bk, hk, rfl, hbk, hbl, hg⟩ := hrel
    by_cases hlt : k < zs.length
    · have hl1 := Row.grown hl hg.grown hsep.or
      obtain ⟨_, _, e1, _, _, hcells⟩ := Ints.form (k := .i64) (zs := zs) hl1
      cases e1
      obtain ⟨g, off, rfl, c0⟩ := hcells k hlt
      have hx : zs[k]? = some (zs[k]?.getD 0) := by simp [hlt]
      have HS : Hid (∀ ys, bs ++ (zs.take k).flatMap (be · wide) ++ ys = bs ++ (zs.take (k + 1)).flatMap (be · wide) ↔ ys = be (zs[k]?.getD 0) wide) := by
        show ∀ ys, _ ↔ _
        intro ys
        rw [List.take_add_one, hx]
        simp [List.flatMap_append]
      have hroom : bk.length + wide ≤ 1099511627776 := by
        have h1 := hbl.out
        have h2 : (k + 1) * wide ≤ zs.length * wide := Nat.mul_le_mul_right _ hlt
        rw [Nat.add_mul, Nat.one_mul] at h2
        omega
      clear hcells hl1 hx
      generalize zs[k]?.getD 0 = x at *
      have hg0 : Grew w base 5 1 v (bk ++ (be x wide).take 0).length ((bk ++ (be x wide).take 0).map (.int .u8)) wr u0 := by simpa using hg
      have hgz := hg.grown.size
      go_wp2_with fail
      go_loopw [0, 17] (fun b i wr => ∃ (j : Nat), j ≤ wide ∧ i = .int .i64 j ∧ Grew w base 5 1 v (bk ++ (be x wide).take j).length ((bk ++ (be x wide).take j).map (.int .u8)) wr b) (fun _ i _ => wide - (intOf i).toNat)
      case atStart => exact ⟨0, by omega, rfl, hg0⟩
      case round =>
        clear hg0 hg c0 hgz
        obtain ⟨j, hj, rfl, hg⟩ := hrel
        by_cases hjlt : j < wide
        · have hs := shift_i64 hjlt
          have hs0 : (0 : Int) ≤ 8 * ((wide : Int) - 1 - (j : Int)) := by omega
          have hs1 : 8 * ((wide : Int) - 1 - (j : Int)) ≤ 64 := by omega
          have HT := Lib.hid (be_take_succ x hjlt)
          have hlen : (bk ++ (be x wide).take j).length = bk.length + j := by rw [List.length_append, List.length_take, be_len]; omega
          have hlen := Lib.hid hlen
          go_wp2_with (at_builtin; refine stopped ?_)
          have hnew := row_lit wr #[.int .u8 (x / 2 ^ (8 * (wide - 1 - j)) % 256)] 5 1 1 wr.heap.size rfl rfl (by unfold maxLen; omega)
          have hg1 := hg.alloc (.cells #[.int .u8 (x / 2 ^ (8 * (wide - 1 - j)) % 256)] 5)
          have hl1 := hlen.out
          refine wpList_append_row rfl rfl elem_u8 hg1.own rfl hnew rfl (by intro u hu; simp at hu; subst hu; rfl) (by omega) (by omega) (Nat.le_trans hbase hg1.grown.size) ?_
          intro v' w' ho hgr hn
          have hg2 : Grew w base 5 1 v (bk ++ (be x wide).take (j + 1)).length ((bk ++ (be x wide).take (j + 1)).map (.int .u8)) w' v' := by
            refine hg1.append ?_ hgr hn
            rw [HT.out, ← List.append_assoc, List.length_append, List.map_append]
            exact ho
          clear hg hg1 ho hgr hn hnew hl1
          go_wp2_with fail
          go_roundw
          case rel => exact ⟨j + 1, by omega, by go_num, hg2⟩
          case measure => simp [intOf]; omega
        · obtain rfl : j = wide := by omega
          have hb2 : Hid (bk ++ be x j = bs ++ (zs.take (k + 1)).flatMap (be · j)) := by
            show _ = _
            rw [hbk.out]
            exact (HS.out _).2 rfl
          have hb3 : Hid ((bk ++ be x j).length = bs.length + (k + 1) * j) := by
            show _ = _
            rw [List.length_append, be_len, hbl.out, Nat.add_mul, Nat.one_mul, Nat.add_assoc]
          have hg2 : Grew w base 5 1 v (bk ++ be x j).length ((bk ++ be x j).map (.int .u8)) wr u0 := by
            have e : (be x j).take j = be x j := List.take_of_length_le (by rw [be_len]; omega)
            rw [e] at hg
            exact hg
          clear hg HS
          go_wp2_with fail
          go_roundw
          case rel => exact ⟨k + 1, bk ++ be x j, by omega, by go_num, hb2, hb3, hg2⟩
          case measure => simp [intOf]; omega
    · have hkk : k = zs.length := by omega
      have hb : Hid (bk = bs ++ zs.flatMap (be · wide)) := by
        show _ = _
        rw [hbk.out, hkk, List.take_length]
      have hg2 := hg
      rw [hb.out] at hg2
      clear hg hbk hbl
      go_wp2_with fail
      go_ret
      exact ⟨_, rfl, hg2⟩

end Go.Proofs.Ytgchdgnephbafaa
