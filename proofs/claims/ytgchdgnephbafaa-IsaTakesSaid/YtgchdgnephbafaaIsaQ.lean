/- Commands compared: a whole command against another. -/
import Derived.Test.YtgchdgnephbafaaIsaV
import Derived.DeepKeys
namespace Go.Proofs.Ytgchdgnephbafaa
open Go.RowKit

section
variable {P : Program} {d : Nat} {xs ys : Array Value} {a b : Value} {r s : Bool} {w : World}

theorem eqFields_step {f : Field} {fs : List Field} (hn : f.name ≠ "_") (ha : (part f.type xs f.offset).run P w = .ok a w) (hb : (part f.type ys f.offset).run P w = .ok b w) (he : (Op.equalIn d f.type a b).run P w = .ok r w)
    (hr : (Op.eqFields d xs ys fs).run P w = .ok s w) : (Op.eqFields d xs ys (f :: fs)).run P w = .ok (r && s) w := by
  rw [Op.eqFields]
  simp only [if_pos hn, Sem.run_bind, ha, hb, he, Result.andThen_ok]
  cases r
  · simp
  · simpa using hr

theorem eqItems_step {e : TypeId} {c i : Nat} {is : List Nat} (ha : (part e xs (i * c)).run P w = .ok a w) (hb : (part e ys (i * c)).run P w = .ok b w) (he : (Op.equalIn d e a b).run P w = .ok r w)
    (hr : (Op.eqItems d e c xs ys is).run P w = .ok s w) : (Op.eqItems d e c xs ys (i :: is)).run P w = .ok (r && s) w := by
  rw [Op.eqItems]
  simp only [Sem.run_bind, ha, hb, he, Result.andThen_ok]
  cases r
  · simp
  · simpa using hr
end

theorem eq_i64 (d : Nat) (w : World) (x y : Int) : (Op.equalIn (d + 1) 3 (.int .i64 x) (.int .i64 y)).run Try.prog w = .ok (x == y) w := run_equalIn_int w d _ _ _ _ _ Try.underlying3

theorem eq_pair (d : Nat) (w : World) (x0 x1 y0 y1 : Int) : (Op.equalIn (d + 2) 24 (.agg #[.int .i64 x0, .int .i64 x1]) (.agg #[.int .i64 y0, .int .i64 y1])).run Try.prog w = .ok ((x0 == y0) && ((x1 == y1) && true)) w := by
  obtain ⟨i, hi⟩ := info_of_underlying (P := Try.prog) Try.underlying3
  rw [run_equalIn_array w (d + 1) _ _ Try.underlying24 hi]
  have hc : Try.prog.cellsOf 3 = 1 := by kernel_rfl
  rw [hc]
  refine eqItems_step (by kernel_rfl) (by kernel_rfl) (eq_i64 _ _ _ _) ?_
  refine eqItems_step (by kernel_rfl) (by kernel_rfl) (eq_i64 _ _ _ _) ?_
  simp [Op.eqItems]

theorem l_inj {c c' : Cm} (h : c.l = c'.l) : c = c' := by
  obtain ⟨k, s, n, f, r, o, d, p, i0, i1, b0, b1, h0, h1⟩ := c
  obtain ⟨k', s', n', f', r', o', d', p', i0', i1', b0', b1', h0', h1'⟩ := c'
  simp only [Cm.l, List.cons.injEq, and_true] at h
  obtain ⟨rfl, rfl, rfl, rfl, rfl, rfl, rfl, rfl, rfl, rfl, rfl, rfl, rfl, rfl⟩ := h
  rfl

theorem cmd_equal (c c' : Cm) (w : World) : (Op.equalIn 10000 26 c.v c'.v).run Try.prog w = .ok (decide (c = c')) w := by
  have h : (Op.equalIn (9999 + 1) 26 c.v c'.v).run Try.prog w = .ok ((c.k == c'.k) && ((c.s == c'.s) && ((c.n == c'.n) && ((c.f == c'.f) && ((c.r == c'.r) && ((c.o == c'.o) && ((c.d == c'.d) && ((c.p == c'.p) &&
      (((c.i0 == c'.i0) && ((c.i1 == c'.i1) && true)) && (((c.b0 == c'.b0) && ((c.b1 == c'.b1) && true)) && (((c.h0 == c'.h0) && ((c.h1 == c'.h1) && true)) && true))))))))))) w := by
    unfold Cm.v
    rw [run_equalIn_agg w 9999 _ _ _ (by kernel_rfl) (by kernel_rfl)]
    refine eqFields_step (by decide) (by kernel_rfl) (by kernel_rfl) (eq_i64 9998 _ _ _) ?_
    refine eqFields_step (by decide) (by kernel_rfl) (by kernel_rfl) (eq_i64 9998 _ _ _) ?_
    refine eqFields_step (by decide) (by kernel_rfl) (by kernel_rfl) (eq_i64 9998 _ _ _) ?_
    refine eqFields_step (by decide) (by kernel_rfl) (by kernel_rfl) (eq_i64 9998 _ _ _) ?_
    refine eqFields_step (by decide) (by kernel_rfl) (by kernel_rfl) (eq_i64 9998 _ _ _) ?_
    refine eqFields_step (by decide) (by kernel_rfl) (by kernel_rfl) (eq_i64 9998 _ _ _) ?_
    refine eqFields_step (by decide) (by kernel_rfl) (by kernel_rfl) (eq_i64 9998 _ _ _) ?_
    refine eqFields_step (by decide) (by kernel_rfl) (by kernel_rfl) (eq_i64 9998 _ _ _) ?_
    refine eqFields_step (by decide) (by kernel_rfl) (by kernel_rfl) (eq_pair 9997 _ _ _ _ _) ?_
    refine eqFields_step (by decide) (by kernel_rfl) (by kernel_rfl) (eq_pair 9997 _ _ _ _ _) ?_
    refine eqFields_step (by decide) (by kernel_rfl) (by kernel_rfl) (eq_pair 9997 _ _ _ _ _) ?_
    simp [Op.eqFields]
  rw [show (10000 : Nat) = 9999 + 1 from rfl, h]
  congr 1
  rw [Bool.eq_iff_iff, decide_eq_true_iff]
  simp only [Bool.and_eq_true, beq_iff_eq, and_true]
  constructor
  · rintro ⟨h1, h2, h3, h4, h5, h6, h7, h8, ⟨h9, h10⟩, ⟨h11, h12⟩, h13, h14⟩
    refine l_inj ?_
    unfold Cm.l
    rw [h1, h2, h3, h4, h5, h6, h7, h8, h9, h10, h11, h12, h13, h14]
  · rintro rfl
    simp

theorem cmd_neq (c c' : Cm) (w : World) : (binOp .neq 26 c.v c'.v).run Try.prog w = .ok (.bool (!decide (c = c'))) w := by
  have := cmd_equal c c' w
  unfold Cm.v at this ⊢
  rw [run_neq_struct, this]
  rfl

end Go.Proofs.Ytgchdgnephbafaa
