/- Words on rows of cells in memory: what a slice reads as, that it stays so, what an append makes of it. They speak of no program. -/
/- How the arguments of a law are opened: a slice of numbers that came in. -/
/- The element types of the slices of this seat. -/
/- The walks of package region: meet, Clash, and slices.IndexFunc and ContainsFunc at spans. -/
import Derived.WalkKit
import Derived.WalkSpells
import Derived.WalkLawsBesides
import Derived.Lib.Hide
import Derived.Lib.SliceRun
import Derived.Lib.Bytes
import Derived.Lib.MinMax
import Derived.ProofKit
import Derived.Test.YtmddlhfahfelpaaProg
import Derived.KernelRfl
import Derived.Shelf.Abstract
set_option linter.unusedSimpArgs false
set_option linter.unusedVariables false
set_option linter.unnecessarySimpa false
namespace Go.Proofs.Ytmddlhfahfelpaa
open Go.RowKit

theorem min2_eq (k k' : IntKind) (x y : Int) : Builtin.min2 (.int k x) (.int k' y) = pure (.int k (min x y)) := by
  have e : (if y < x then y else x) = min x y := by rw [Int.min_def]; split <;> split <;> omega
  simp [Builtin.min2, e]
@[go_sem high] theorem run_min3 {P : Program} (w : World) (ts : Array TypeId) (t : TypeId) (k k' k'' : IntKind) (x y z : Int) :
    (Builtin.min_ ts t #[.int k x, .int k' y, .int k'' z]).run P w = .ok (.int k (min (min x y) z)) w := by
  simp [Builtin.min_, min2_eq]
@[go_sem high] theorem run_min4 {P : Program} (w : World) (ts : Array TypeId) (t : TypeId) (k k' k'' k3 : IntKind) (x y z u : Int) :
    (Builtin.min_ ts t #[.int k x, .int k' y, .int k'' z, .int k3 u]).run P w = .ok (.int k (min (min (min x y) z) u)) w := by
  simp [Builtin.min_, min2_eq]

/-- Where the walk is to stand still. -/
def Stopped (p : Prop) : Prop := p
theorem stopped {p : Prop} (h : Stopped p) : p := h

/-- From an address on lie these cells. -/
def At (w : World) (A : Option Addr) (xs : List Value) : Prop :=
  ∀ j u, xs[j]? = some u → ∃ b off, A = some ⟨b, off, none⟩ ∧ w.cell? ⟨b, off + j, none⟩ = some u

/-- A slice of n elements of sz cells each, whose cells are xs. -/
def Row (w : World) (v : Value) (n sz : Nat) (xs : List Value) : Prop :=
  ∃ A c, v = .slice A n c ∧ n ≤ c ∧ c ≤ maxLen ∧ xs.length = n * sz ∧ At w A xs

/-- The bounds of a kind. -/
def InK : IntKind → Int → Prop
  | .i8, z => -128 ≤ z ∧ z ≤ 127
  | .i16, z => -32768 ≤ z ∧ z ≤ 32767
  | .i32, z => -2147483648 ≤ z ∧ z ≤ 2147483647
  | .i64, z => -9223372036854775808 ≤ z ∧ z ≤ 9223372036854775807
  | .u8, z => 0 ≤ z ∧ z ≤ 255
  | .u16, z => 0 ≤ z ∧ z ≤ 65535
  | .u32, z => 0 ≤ z ∧ z ≤ 4294967295
  | .u64, z => 0 ≤ z ∧ z ≤ 18446744073709551615

theorem inK_of_wf {k : IntKind} {z : Int} (h : (Lit.int k z).wf = true) : InK k z := by
  cases k <;> simp [Lit.wf, IntKind.min, IntKind.max, IntKind.signed, IntKind.bits] at h <;> simp only [InK] <;> omega

/-- A slice of numbers of a kind. -/
def Ints (k : IntKind) (w : World) (v : Value) (zs : List Int) : Prop := Row w v zs.length 1 (zs.map (.int k))

theorem At.nil (w : World) (A : Option Addr) : At w A [] := fun j u h => by simp at h

theorem At.same {w w' : World} {A : Option Addr} {xs : List Value} (h : At w A xs) (hs : ∀ b off, A = some ⟨b, off, none⟩ → b < w.heap.size → w'.heap[b]? = w.heap[b]?) : At w' A xs := fun j u hj => by
  obtain ⟨b, off, e, hc⟩ := h j u hj
  exact ⟨b, off, e, by rw [World.cell?_of_block (hs b off e (World.block_lt_of_cell? w _ hc))]; exact hc⟩

theorem At.below {w w' : World} {A : Option Addr} {xs : List Value} (h : At w A xs) (hb : Below w.heap.size w w') : At w' A xs :=
  h.same fun b _ _ hl => hb.block b hl

theorem At.take {w : World} {A : Option Addr} {xs : List Value} (h : At w A xs) (k : Nat) : At w A (xs.take k) := fun j u hj => by
  rw [List.getElem?_take] at hj
  split at hj
  · exact h j u hj
  · cases hj

theorem At.drop {w : World} {b off : Nat} {xs : List Value} (h : At w (some ⟨b, off, none⟩) xs) (k : Nat) : At w (some ⟨b, off + k, none⟩) (xs.drop k) := fun j u hj => by
  rw [List.getElem?_drop] at hj
  obtain ⟨b', off', e, hc⟩ := h _ _ hj
  cases e
  exact ⟨b, off + k, rfl, by rw [show off + k + j = off + (k + j) from by omega]; exact hc⟩

theorem below_alloc {B : Nat} {w w' : World} (h : Below B w w') (hB : B ≤ w'.heap.size) (o : Obj) : Below B w (w'.alloc o) := h.alloc hB o

theorem Row.below {w w' : World} {v : Value} {n sz : Nat} {xs : List Value} (h : Row w v n sz xs) (hb : Below w.heap.size w w') : Row w' v n sz xs := by
  obtain ⟨A, c, e, h1, h2, h3, h4⟩ := h
  exact ⟨A, c, e, h1, h2, h3, h4.below hb⟩

theorem Row.grown {w w' : World} {v : Value} {n sz : Nat} {xs : List Value} {row : Option Nat} (h : Row w v n sz xs) (hb : w.grownBy w' row) (hne : v.ownBlock = none ∨ v.ownBlock ≠ row) : Row w' v n sz xs := by
  obtain ⟨A, c, rfl, h1, h2, h3, h4⟩ := h
  refine ⟨A, c, rfl, h1, h2, h3, h4.same fun b off e hl => hb.block b hl ?_⟩
  subst e
  simpa [Value.ownBlock] using hne

theorem At.drew {w : World} {A : Option Addr} {xs : List Value} (h : At w A xs) : At w.drew A xs := h
theorem Row.drew {w : World} {v : Value} {n sz : Nat} {xs : List Value} (h : Row w v n sz xs) : Row w.drew v n sz xs := h
theorem ownsRow_drew {w : World} {base : Nat} {e : TypeId} {sz : Nat} {v : Value} {n : Nat} {xs : List Value} (h : w.ownsRow base e sz v n xs) : w.drew.ownsRow base e sz v n xs := h

theorem Row.lt {w : World} {v : Value} {n sz : Nat} {xs : List Value} (h : Row w v n sz xs) (hn : xs ≠ []) : ∃ b, v.ownBlock = some b ∧ b < w.heap.size := by
  obtain ⟨A, c, rfl, h1, h2, h3, h4⟩ := h
  cases xs with
  | nil => exact absurd rfl hn
  | cons x xs =>
    obtain ⟨b, off, rfl, hc⟩ := h4 0 x rfl
    exact ⟨b, rfl, World.block_lt_of_cell? w _ hc⟩

theorem add_lit (g j : Nat) : (⟨g, 0, none⟩ : Addr).add j = ⟨g, 0 + j, none⟩ := by unfold Addr.add; split <;> simp_all

theorem row_of_own {w : World} {base : Nat} {e : TypeId} {sz : Nat} {v : Value} {n : Nat} {xs : List Value} (h : w.ownsRow base e sz v n xs) : Row w v n sz xs := by
  rcases h.2 with ⟨rfl, rfl⟩ | ⟨g, cap, cur, rfl, hb, hg, hn, hc, hs, ht⟩
  · have : xs = [] := List.eq_nil_of_length_eq_zero (by simpa using h.1)
    subst this
    exact ⟨none, 0, rfl, Nat.le_refl _, Nat.zero_le _, h.1, At.nil _ _⟩
  · refine ⟨some ⟨g, 0, none⟩, cap, rfl, hn, hc, h.1, fun j u hj => ⟨g, 0, rfl, ?_⟩⟩
    have := h.cells (g := g) rfl j u hj
    rwa [add_lit] at this

theorem row_nil (w : World) (sz : Nat) : Row w (.slice none 0 0) 0 sz [] := ⟨none, 0, rfl, Nat.le_refl _, Nat.zero_le _, by simp, At.nil _ _⟩

/-- The first of a slice. -/
theorem Row.first {w : World} {v : Value} {n sz : Nat} {xs : List Value} (h : Row w v n sz xs) {A : Option Addr} {c : Nat} (e : v = .slice A n c) (k : Nat) (hk : k ≤ n) : Row w (.slice A k c) k sz (xs.take (k * sz)) := by
  obtain ⟨A', c', e', h1, h2, h3, h4⟩ := h
  rw [e] at e'
  cases e'
  refine ⟨A, c, rfl, by omega, h2, ?_, h4.take _⟩
  rw [List.length_take, h3]
  exact Nat.min_eq_left (Nat.mul_le_mul_right _ hk)

/-- The element's type of a slice type: its cells and bytes. -/
structure ElemT (P : Program) (t e : TypeId) (sz bytes : Nat) : Prop where
  slice : P.underlying t = some (.slice e)
  info : ∃ i z, P.info? e = some i ∧ i.zero = some z ∧ i.size = sz ∧ i.bytes = bytes ∧ z.cells.size = sz
  pos : 0 < sz

theorem elemT_of {P : Program} {t e : TypeId} {z : Value} {sz bytes : Nat} (hs : P.underlying t = some (.slice e)) (hi : (P.info? e).map (fun i => (i.zero, i.size, i.bytes)) = some (some z, sz, bytes)) (hz : z.cells.size = sz) (hp : 0 < sz) : ElemT P t e sz bytes := by
  cases h : P.info? e with
  | none => simp [h] at hi
  | some i => simp [h] at hi; exact ⟨hs, ⟨i, z, h, hi.1, hi.2.1, hi.2.2, hz⟩, hp⟩

/-- A row lies where it lay, or in a block that is new. -/
def Near (w : World) (v v' : Value) : Prop := ∀ k, v'.ownBlock = some k → v.ownBlock = some k ∨ w.heap.size ≤ k

/-- 'append(s, x...)': s is the call's own, x is whatever row. -/
theorem run_append_row {P : Program} {w : World} {t ty e : TypeId} {sz bytes : Nat} (HT : ElemT P t e sz bytes) {base : Nat} {v : Value} {n : Nat} {xs : List Value} (hown : w.ownsRow base e sz v n xs)
    {y : Value} {m : Nat} {news : List Value} (hy : Row w y m sz news) (h1 : ∀ u ∈ news, u.oneCell' = true) (hlen : n + m ≤ 140737488355328) (hb : (n + m) * bytes ≤ 140737488355328) (hbase : base ≤ w.heap.size) :
    ∃ v' w', (Builtin.append_ #[t, t] ty #[v, y]).run P w = .ok v' w' ∧ w'.ownsRow base e sz v' (n + m) (xs ++ news) ∧ w.grownBy w' v.ownBlock ∧ Near w v v' := by
  obtain ⟨i, z, hi, hz, hs, hby, hzs⟩ := HT.info
  obtain ⟨A, c, rfl, h2, h3, h4, h5⟩ := hy
  cases A with
  | none =>
    have hn : news = [] := by
      cases news with
      | nil => rfl
      | cons u us => obtain ⟨b, off, e, _⟩ := h5 0 u rfl; cases e
    subst hn
    have hm : m = 0 := by
      rcases Nat.eq_zero_or_pos m with h | h
      · exact h
      · have := Nat.mul_pos h HT.pos
        simp at h4
        omega
    subst hm
    refine ⟨v, w, ?_, by simpa using hown, ⟨rfl, rfl, rfl, Nat.le_refl _, fun _ _ _ => rfl⟩, fun k hk => Or.inl hk⟩
    rcases hown.2 with ⟨rfl, rfl⟩ | ⟨g, cap, cur, rfl, hbg, hg, hnc, hcm, hcs, htake⟩
    · simp [Builtin.append_, run_underlying HT.slice, sizeOf, typeInfo, hi, Builtin.lenOf, Builtin.firstCells]
    · have hst := run_storeCells_at P g (n * i.size) e [] 0 cur w hg (by simp; rw [hs, hcs]; exact Nat.mul_le_mul_right _ hnc) (by simp)
      have hle : n ≤ cap := hnc
      simp only [List.length_nil, Nat.add_zero] at hst
      simp [Builtin.append_, run_underlying HT.slice, sizeOf, typeInfo, hi, Builtin.lenOf, Builtin.firstCells, hle, Addr.add_lit, storeCells]
  | some ad =>
    have hnews : ∀ j u, news[j]? = some u → w.cell? (ad.add j) = some u := fun j u hj => by
      obtain ⟨b, off, e, hc⟩ := h5 j u hj
      cases e
      have : (⟨b, off, none⟩ : Addr).add j = ⟨b, off + j, none⟩ := by unfold Addr.add; split <;> simp_all
      rw [this]; exact hc
    have hh := run_append_own (P := P) w base t ty e i z sz bytes HT.slice hi hz hs hby hzs HT.pos v n xs hown ad m c news h4 hnews h1 (by simp only [maxLen]; omega) hb hbase
    obtain ⟨v', w', r1, r2, r3, r4⟩ := hh
    refine ⟨v', w', r1, r2, r3, fun k hk => ?_⟩
    subst hs
    subst hby
    have hlen' : news.length = m * i.size := h4
    rcases hown.2 with ⟨rfl, rfl⟩ | ⟨g, cap, cur, rfl, hbg, hg, hnc, hcm, hcs, htake⟩
    · by_cases hm : m = 0
      · rw [r4.2 ⟨rfl, hm⟩] at hk
        cases hk
      · have hr := run_append_nil (P := P) w t ty e i z HT.slice hi hz ad m c news hlen' hnews (by omega) (by omega) (by rw [Nat.zero_add] at hb; omega)
        rw [r1] at hr
        cases hr
        simp only [Value.ownBlock, Option.some.injEq] at hk
        exact Or.inr (by omega)
    · by_cases hroom : n + m ≤ cap
      · have hfit : n * i.size + news.length ≤ cur.size := by rw [hlen', hcs, ← Nat.add_mul]; exact Nat.mul_le_mul_right _ hroom
        have hr := run_append_room (P := P) w t ty e i HT.slice hi g n cap cur hg ad m c news hlen' hnews h1 hroom hfit
        rw [r1] at hr
        cases hr
        exact Or.inl hk
      · have holds : ∀ j u, xs[j]? = some u → w.cell? ((⟨g, 0, none⟩ : Addr).add j) = some u := hown.cells (g := g) rfl
        have hr := run_append_grow (P := P) w t ty e i z HT.slice hi hz ⟨g, 0, none⟩ n cap xs hown.1 holds ad m c news hlen' hnews (by omega) (by omega) (growslice_fits (by omega) hb)
        rw [r1] at hr
        cases hr
        simp only [Value.ownBlock, Option.some.injEq] at hk
        exact Or.inr (by omega)

theorem wp_append_row {P : Program} {w : World} {o : Oper} {a : Act} {K : Act → World → Prop} {Q : Exit → Act → World → Prop} {s x : Operand} {t e : TypeId} {sz bytes : Nat}
    (ho : o.op = .call { callee := .builtin .append, args := #[s, x], argTypes := #[t, t] }) (HT : ElemT P t e sz bytes) {base : Nat} {v : Value} {n : Nat} {xs : List Value} (hown : w.ownsRow base e sz v n xs) (hs : a.eval s = v)
    {y : Value} {m : Nat} {news : List Value} (hy : Row w y m sz news) (hx : a.eval x = y) (h1 : ∀ u ∈ news, u.oneCell' = true) (hlen : n + m ≤ 140737488355328) (hb : (n + m) * bytes ≤ 140737488355328) (hbase : base ≤ w.heap.size)
    (h : ∀ v' w', w'.ownsRow base e sz v' (n + m) (xs ++ news) → w.grownBy w' v.ownBlock → Near w v v' → K (a.put o.dst v') w') : o.wp P a w K Q := by
  obtain ⟨v', w', hr, h2, h3, h4⟩ := run_append_row (ty := o.type) HT hown hy h1 hlen hb hbase
  unfold Oper.wp execOp
  simp only [ho, resolve, invoke, builtin, Sem.run_bind, Sem.run_pure, Result.andThen_ok, List.map_toArray, List.map_cons, List.map_nil, hs, hx, hr]
  exact h v' w' h2 h3 h4

theorem wpList_append_row {P : Program} {w : World} {ops : Array Oper} {rest : List Oper} {o : Oper} {a : Act} {Q : Exit → Act → World → Prop} (hgd : o.guard = none) {s x : Operand} {t e : TypeId} {sz bytes : Nat}
    (ho : o.op = .call { callee := .builtin .append, args := #[s, x], argTypes := #[t, t] }) (HT : ElemT P t e sz bytes) {base : Nat} {v : Value} {n : Nat} {xs : List Value} (hown : w.ownsRow base e sz v n xs) (hs : a.eval s = v)
    {y : Value} {m : Nat} {news : List Value} (hy : Row w y m sz news) (hx : a.eval x = y) (h1 : ∀ u ∈ news, u.oneCell' = true) (hlen : n + m ≤ 140737488355328) (hb : (n + m) * bytes ≤ 140737488355328) (hbase : base ≤ w.heap.size)
    (h : ∀ v' w', w'.ownsRow base e sz v' (n + m) (xs ++ news) → w.grownBy w' v.ownBlock → Near w v v' → wpList P ops Q rest (a.put o.dst v') w') : wpList P ops Q (o :: rest) a w := by
  exact wpList_plain hgd fun K hK => wp_append_row ho HT hown hs hy hx h1 hlen hb hbase fun v' w' h2 h3 h4 => hK _ _ (h v' w' h2 h3 h4)

theorem one_ints (k : IntKind) (zs : List Int) : ∀ u ∈ zs.map (Value.int k), u.oneCell' = true := by
  intro u hu
  obtain ⟨z, _, rfl⟩ := List.mem_map.1 hu
  rfl

/-- A row of numbers, cell by cell. -/
theorem Ints.form {k : IntKind} {w : World} {v : Value} {zs : List Int} (h : Ints k w v zs) : ∃ A c, v = .slice A zs.length c ∧ zs.length ≤ c ∧ c ≤ maxLen ∧
    (∀ j, j < zs.length → ∃ b off, A = some ⟨b, off, none⟩ ∧ w.cell? ⟨b, off + j, none⟩ = some (.int k (zs[j]?.getD 0))) := by
  obtain ⟨A, c, e, h1, h2, h3, h4⟩ := h
  refine ⟨A, c, e, h1, h2, fun j hj => ?_⟩
  obtain ⟨b, off, e1, hc⟩ := h4 j (.int k zs[j]) (by simp [hj])
  exact ⟨b, off, e1, by rw [hc]; simp [hj]⟩

theorem Ints.below {k : IntKind} {w w' : World} {v : Value} {zs : List Int} (h : Ints k w v zs) (hb : Below w.heap.size w w') : Ints k w' v zs := Row.below h hb

theorem At.none {w : World} {xs : List Value} (h : At w none xs) : xs = [] := by
  cases xs with
  | nil => rfl
  | cons z zs => obtain ⟨b, off, e, _⟩ := h 0 z (by simp); cases e

/-- The call answers a row of its own, and nothing that was there has turned. -/
def Made (e : TypeId) (sz n : Nat) (xs : List Value) (w : World) (ed : Ending) (w' : World) : Prop := ∃ v', ed = .returned v' ∧ w'.ownsRow w.heap.size e sz v' n xs ∧ Below w.heap.size w w'

theorem below_own {B base : Nat} {e : TypeId} {sz : Nat} {w w1 w2 : World} {v : Value} {n : Nat} {xs : List Value} (h : Below B w w1) (hB : B ≤ w1.heap.size) (ho : w1.ownsRow base e sz v n xs) (hb : B ≤ base) (hg : w1.grownBy w2 v.ownBlock) : Below B w w2 :=
  h.grown hg hB fun k hk => Nat.le_trans hb (ho.lt k hk).1

/-- A row that has just been laid. -/
theorem row_new' (w : World) (cs : Array Value) (e : TypeId) (fr : Nat × Nat) (n sz : Nat) (h : cs.size = n * sz) (hn : n ≤ maxLen) : Row (w.alloc (.cells cs e fr)) (.slice (some ⟨w.heap.size, 0, none⟩) n n) n sz cs.toList := by
  refine ⟨_, _, rfl, Nat.le_refl _, hn, by simpa using h, fun j u hj => ⟨_, _, rfl, ?_⟩⟩
  rw [Nat.zero_add, cell_of_row _ _ j cs e fr (heap_alloc_new w _)]
  simpa using hj

theorem row_new (w : World) (cs : Array Value) (e : TypeId) (n sz : Nat) (h : cs.size = n * sz) (hn : n ≤ maxLen) : Row (w.alloc (.cells cs e)) (.slice (some ⟨w.heap.size, 0, none⟩) n n) n sz cs.toList := row_new' w cs e (0, 0) n sz h hn

/-- 'append([]T{}, x...)': a new row. -/
theorem wpList_append_fresh {P : Program} {w : World} {ops : Array Oper} {rest : List Oper} {o : Oper} {a : Act} {Q : Exit → Act → World → Prop} (hgd : o.guard = Option.none) {s x : Operand} {t e : TypeId} {sz bytes : Nat}
    (ho : o.op = .call { callee := .builtin .append, args := #[s, x], argTypes := #[t, t] }) (HT : ElemT P t e sz bytes) (hs : a.eval s = .slice (some ⟨w.heap.size, 0, Option.none⟩) 0 0)
    {y : Value} {m : Nat} {news : List Value} (hy : Row w y m sz news) (hx : a.eval x = y) (h1 : ∀ u ∈ news, u.oneCell' = true) (hlen : m ≤ 140737488355328) (hb : m * bytes ≤ 140737488355328)
    (h : ∀ v' w', w'.ownsRow w.heap.size e sz v' m news → Below w.heap.size w w' → wpList P ops Q rest (a.put o.dst v') w') : wpList P ops Q (o :: rest) a (w.alloc (.cells #[] e)) := by
  have hown := World.ownsRow_made (base := w.heap.size) (e := e) (size := sz) w #[] 0 (Nat.le_refl _) (Nat.zero_le _) (by simp)
  refine wpList_append_row hgd ho HT hown hs (hy.below (below_alloc (Below.refl _ _) (Nat.le_refl _) _)) hx h1 (by omega) (by rw [Nat.zero_add]; exact hb) (by simp) fun v' w' h2 h3 _ => ?_
  rw [Nat.zero_add, List.nil_append] at h2
  exact h v' w' h2 (below_own (below_alloc (Below.refl _ _) (Nat.le_refl _) _) (by simp) hown (Nat.le_refl _) h3)

/-- Two rows in blocks of their own. -/
def Sep (x y : Value) : Prop := ∀ k, x.ownBlock = some k → y.ownBlock ≠ some k
theorem Sep.symm {x y : Value} (h : Sep x y) : Sep y x := fun k hk e => h k e hk
theorem Sep.or {x y : Value} (h : Sep x y) : y.ownBlock = none ∨ y.ownBlock ≠ x.ownBlock := by
  cases hy : y.ownBlock with
  | none => exact Or.inl rfl
  | some k => exact Or.inr fun e => h k e.symm hy
theorem Sep.near {w : World} {x x' y : Value} (h : Sep x y) (hn : Near w x x') (hy : ∀ k, y.ownBlock = some k → k < w.heap.size) : Sep x' y := fun k hk e => by
  rcases hn k hk with h1 | h1
  · exact h k h1 e
  · have := hy k e; omega

/-- What the call owns lies elsewhere than what was there. -/
theorem own_ne {w : World} {base : Nat} {e : TypeId} {sz : Nat} {v : Value} {n : Nat} {xs : List Value} (h : w.ownsRow base e sz v n xs) {b : Nat} (hb : b < base) : some b ≠ v.ownBlock := fun he => by
  have := (h.lt b he.symm).1
  omega

theorem ret_int {k : IntKind} {a b : Int} (h : a = b) : Ending.returned (.int k a) = .returned (.int k b) := by rw [h]
theorem ret_bool {a b : Bool} (h : a = b) : Ending.returned (.bool a) = .returned (.bool b) := by rw [h]

theorem Ints.first {k : IntKind} {w : World} {A : Option Addr} {n c : Nat} {zs : List Int} (h : Ints k w (.slice A n c) zs) {m : Nat} (hm : m ≤ zs.length) : Ints k w (.slice A m c) (zs.take m) := by
  obtain ⟨A', c', e, h1, h2, h3, h4⟩ := h
  cases e
  have hl : (zs.take m).length = m := by rw [List.length_take]; omega
  refine ⟨A, c, by rw [hl], by omega, h2, by simp, ?_⟩
  rw [List.map_take]
  exact h4.take m

theorem ints_of_own {k : IntKind} {w : World} {base : Nat} {e : TypeId} {v : Value} {n : Nat} {zs : List Int} (h : w.ownsRow base e 1 v n (zs.map (.int k))) : Ints k w v zs := by
  have hl := h.1
  simp at hl
  subst hl
  exact row_of_own h


end Go.Proofs.Ytmddlhfahfelpaa

namespace Go.Proofs.Ytmddlhfahfelpaa
open Go.ChangeShapes Go.WideShapes Go.ChangeAt Go.RowKit

theorem row_of_cells {w : World} {a : Addr} {n c sz : Nat} {xs : List Value} (hl : n ≤ c) (hm : c ≤ maxLen) (hx : xs.length = n * sz) (h : ∀ j u, xs[j]? = some u → w.cell? (a.add j) = some u) : Row w (.slice (some a) n c) n sz xs := by
  obtain ⟨b, off, spot⟩ := a
  refine ⟨_, _, rfl, hl, hm, hx, fun j u hj => ?_⟩
  have h0 : 0 < xs.length := by
    rcases Nat.eq_zero_or_pos xs.length with h | h
    · have : xs = [] := List.eq_nil_of_length_eq_zero h
      subst this
      simp at hj
    · exact h
  have hc0 := h 0 xs[0] (by simp [h0])
  have hs : spot = none := by simpa [Addr.add] using World.cell?_spot hc0
  subst hs
  have := h j u hj
  refine ⟨b, off, rfl, ?_⟩
  have e : (⟨b, off, none⟩ : Addr).add j = ⟨b, off + j, none⟩ := by unfold Addr.add; split <;> simp_all
  rwa [e] at this

end Go.Proofs.Ytmddlhfahfelpaa

namespace Go.Proofs.Ytmddlhfahfelpaa
theorem elem_u8 : ElemT Try.prog 73 5 1 1 := elemT_of (z := .int .u8 0) Try.underlying73 (by kernel_rfl) rfl (by omega)
theorem elem_i64 : ElemT Try.prog 24 3 1 8 := elemT_of (z := .int .i64 0) Try.underlying24 (by kernel_rfl) rfl (by omega)
end Go.Proofs.Ytmddlhfahfelpaa

namespace Go.Proofs.Ytmddlhfahfelpaa
open Go.RowKit

/-- A span. -/
structure Sp where
  mem : Int
  frm : Int
  to : Int
  wr : Bool
deriving DecidableEq, Inhabited

def Sp.cs (s : Sp) : List Value := [.int .i64 s.mem, .int .i64 s.frm, .int .i64 s.to, .bool s.wr]
def Sp.v (s : Sp) : Value := .agg #[.int .i64 s.mem, .int .i64 s.frm, .int .i64 s.to, .bool s.wr]
def meetB (a b : Sp) : Bool := (a.mem == b.mem) && (a.wr || b.wr) && decide (a.frm < b.to) && decide (b.frm < a.to) && decide (a.frm < a.to) && decide (b.frm < b.to)

def Spans (w : World) (v : Value) (l : List Sp) : Prop := Row w v l.length 4 (l.flatMap Sp.cs)

theorem cs_get : ∀ (l : List Sp) (j i : Nat), i < 4 → (l.flatMap Sp.cs)[j * 4 + i]? = (l[j]?).bind fun s => s.cs[i]?
  | [], j, i, _ => by simp
  | s :: l, 0, i, hi => by
    rw [List.flatMap_cons, Nat.zero_mul, Nat.zero_add, List.getElem?_append_left (by simp [Sp.cs]; omega)]
    rfl
  | s :: l, j + 1, i, hi => by
    rw [List.flatMap_cons, List.getElem?_append_right (by simp [Sp.cs]; omega), show (j + 1) * 4 + i - s.cs.length = j * 4 + i from by simp [Sp.cs]; omega, cs_get l j i hi]
    rfl

theorem Spans.form {w : World} {v : Value} {l : List Sp} (h : Spans w v l) : ∃ A c, v = .slice A l.length c ∧ l.length ≤ c ∧ c ≤ maxLen ∧
    (∀ j s, l[j]? = some s → ∃ b off, A = some ⟨b, off, none⟩ ∧ w.cell? ⟨b, off + j * 4, none⟩ = some (.int .i64 s.mem) ∧ w.cell? ⟨b, off + j * 4 + 1, none⟩ = some (.int .i64 s.frm) ∧
      w.cell? ⟨b, off + j * 4 + 2, none⟩ = some (.int .i64 s.to) ∧ w.cell? ⟨b, off + j * 4 + 3, none⟩ = some (.bool s.wr)) := by
  obtain ⟨A, c, e, h1, h2, h3, h4⟩ := h
  refine ⟨A, c, e, h1, h2, fun j s hj => ?_⟩
  have g := fun i u (hi : i < 4) (hu : s.cs[i]? = some u) => h4 (j * 4 + i) u (by rw [cs_get _ _ _ hi, hj]; exact hu)
  obtain ⟨b, off, rfl, k0⟩ := g 0 _ (by omega) rfl
  obtain ⟨_, _, e1, k1⟩ := g 1 _ (by omega) rfl
  obtain ⟨_, _, e2, k2⟩ := g 2 _ (by omega) rfl
  obtain ⟨_, _, e3, k3⟩ := g 3 _ (by omega) rfl
  cases e1; cases e2; cases e3
  exact ⟨b, off, rfl, by simpa using k0, by simpa [Nat.add_assoc] using k1, by simpa [Nat.add_assoc] using k2, by simpa [Nat.add_assoc] using k3⟩

theorem Spans.below {w w' : World} {v : Value} {l : List Sp} (h : Spans w v l) (hb : Below w.heap.size w w') : Spans w' v l := Row.below h hb

/-- A function value that tells of a span, and turns nothing that was there. -/
def Tells (g : Nat) (lb : Array Value) (p : Sp → Bool) (w : World) : Prop :=
  ∀ (W : World) (x : Sp), Below w.heap.size w W → Calls Try.prog g (#[x.v] ++ lb) W fun e w' => e = .returned (.bool (p x)) ∧ Below w.heap.size w w'

def clashB (a b : List Sp) : Bool := a.any fun x => b.any fun y => meetB x y

end Go.Proofs.Ytmddlhfahfelpaa
