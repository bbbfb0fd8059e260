/- The walks of number and put of the reference of commands. -/
import Derived.Test.YtdhdbmfipkppiaaGreatNsaB
set_option linter.unusedSimpArgs false
set_option linter.unusedVariables false
set_option linter.unnecessarySimpa false
namespace Go.Proofs.YtdhdbmfipkppiaaGreat.Isa
set_option maxRecDepth 10000
open Go.RowKit

/-- The first bytes of a number are laid down. -/
def GrewBe (w : World) (base : Nat) (v : Value) (bs : List Int) (x : Int) (wide j : Nat) (w' : World) (v' : Value) : Prop := Grew w base 5 1 v (bs ++ (be x wide).take j).length ((bs ++ (be x wide).take j).map (.int .u8)) w' v'
/-- Which byte is next. -/
def Idx (wide j : Nat) (i : Value) : Prop := i = .int .i64 ((wide : Int) - 1 - (j : Int))

set_option maxHeartbeats 1600000 in
theorem refNumber_calls (base : Nat) (v : Value) (bs : List Int) (x : Int) (wide : Nat) (w : World)
    (hown : w.ownsRow base 5 1 v bs.length (bs.map (.int .u8))) (hbase : base ≤ w.heap.size) (hw8 : wide ≤ 8) (hn : bs.length + wide ≤ 1099511627776) :
    Calls Tryz.prog 80 #[v, .int .i64 x, .int .i64 wide] w (GrewPost w base 5 1 v (bs ++ be x wide).length ((bs ++ be x wide).map (.int .u8))) := by
  have hg0 : GrewBe w base v bs x wide 0 w v := by unfold GrewBe; simpa using Grew.refl hown
  obtain ⟨F, hF⟩ : ∃ F, bs ++ be x wide = F := ⟨_, rfl⟩
  rw [hF]
  have HF := Lib.hid hF
  clear hF
  go_enter Tryz.func80, Tryz.ntmps80
  go_wp2_with fail
  go_loopw [0, 7] (fun b i wr => ∃ (j : Nat), j ≤ wide ∧ Idx wide j i ∧ GrewBe w base v bs x wide j wr b) (fun _ i _ => (intOf i + 1).toNat)
  case atStart => exact ⟨0, by omega, by unfold Idx; exact congrArg (Value.int .i64) (by omega), hg0⟩
  case round =>
    clear hg0
    obtain ⟨j, hj, hix, hg⟩ := hrel
    unfold Idx at hix
    subst hix
    unfold GrewBe at hg
    by_cases hjlt : j < wide
    · have hs := shift_i64 hjlt
      have hs0 : (0 : Int) ≤ 8 * ((wide : Int) - 1 - (j : Int)) := by omega
      have hs1 : 8 * ((wide : Int) - 1 - (j : Int)) ≤ 64 := by omega
      have hc : (0 : Int) ≤ (wide : Int) - 1 - (j : Int) := by omega
      have HT := Lib.hid (be_take_succ x hjlt)
      have hlen : (bs ++ (be x wide).take j).length = bs.length + j := by rw [List.length_append, List.length_take, be_len]; omega
      have hlen := Lib.hid hlen
      go_wp2_with (at_builtin; refine stopped ?_)
      have hnew := row_lit wr #[.int .u8 (x / 2 ^ (8 * (wide - 1 - j)) % 256)] 5 1 1 wr.heap.size rfl rfl (by unfold maxLen; omega)
      have hg1 := hg.alloc (.cells #[.int .u8 (x / 2 ^ (8 * (wide - 1 - j)) % 256)] 5)
      have hl1 := hlen.out
      refine wpList_append_row rfl rfl elem_u8 hg1.own rfl hnew rfl (by intro u hu; simp at hu; subst hu; rfl) (by omega) (by omega) (Nat.le_trans hbase hg1.grown.size) ?_
      intro v' w' ho hgr hn
      have hg2 : GrewBe w base v bs x wide (j + 1) w' v' := by
        unfold GrewBe
        refine hg1.append ?_ hgr hn
        rw [HT.out, ← List.append_assoc, List.length_append, List.map_append]
        exact ho
      clear hg hg1 ho hgr hn hnew hl1
      go_wp2_with fail
      go_roundw
      case rel => exact ⟨j + 1, by omega, by unfold Idx; exact congrArg (Value.int .i64) (by omega), hg2⟩
      case measure => simp [intOf]; omega
    · obtain rfl : j = wide := by omega
      have hc : ¬ (0 : Int) ≤ (j : Int) - 1 - (j : Int) := by omega
      have hg2 : Grew w base 5 1 v F.length (F.map (.int .u8)) wr u0 := by
        have e : (be x j).take j = be x j := List.take_of_length_le (by rw [be_len]; omega)
        rw [e, HF.out] at hg
        exact hg
      clear hg
      go_wp2_with fail
      go_ret
      exact ⟨_, rfl, hg2⟩

end Go.Proofs.YtdhdbmfipkppiaaGreat.Isa
