/- How an argument of whatever shape reads: numbers, bools, strings, slices, structs, arrays, one in the other. It speaks of no program. -/
import Derived.Test.YtdhdbmfipkppiaaOpen
import Derived.OpenShut
import Derived.Deep.Slices
namespace Go.Proofs.Ytdhdbmfipkppiaa
set_option linter.unusedSimpArgs false
set_option linter.unusedVariables false
set_option linter.unnecessarySimpa false
open Go.ChangeShapes Go.WideShapes Go.ChangeAt Go.RowKit

/-- A shape. -/
inductive Ty where
  | int (k : IntKind)
  | bool
  | sl (e : Ty)
  | st (b : Ty)
  | unit
  | pair (a b : Ty)

/-- What something of a shape reads as. -/
inductive D where
  | i (z : Int)
  | b (x : Bool)
  | l (xs : List D)
  | u
  | p (x y : D)

def Ty.cells : Ty → Nat
  | .int _ | .bool | .sl _ => 1
  | .st b => b.cells
  | .unit => 0
  | .pair a b => a.cells + b.cells

/-- These cells read so. -/
def Ty.reads (w : World) : Ty → List Value → D → Prop
  | .int k, cs, d => ∃ z, cs = [.int k z] ∧ InK k z ∧ d = .i z
  | .bool, cs, d => ∃ x, cs = [.bool x] ∧ d = .b x
  | .sl e, cs, d => ∃ v n xs ds, cs = [v] ∧ Row w v n e.cells xs ∧ d = .l ds ∧ ds.length = n ∧ ∀ (j : Nat) (x : D), ds[j]? = some x → e.reads w ((xs.drop (j * e.cells)).take e.cells) x
  | .st b, cs, d => b.reads w cs d
  | .unit, cs, d => cs = [] ∧ d = .u
  | .pair a b, cs, d => ∃ c1 c2 x y, cs = c1 ++ c2 ∧ c1.length = a.cells ∧ a.reads w c1 x ∧ b.reads w c2 y ∧ d = .p x y

/-- What a shape is held against. -/
inductive Sh where
  | ty (t : TypeId)
  | flds (fs : List Field) (off : Nat)
  | elems (n : Nat) (e : TypeId)

def Ty.fits (P : Program) : Ty → Sh → Bool
  | .int k, .ty t => match P.underlying t with
    | some (.int k') => decide (k = k')
    | _ => false
  | .bool, .ty t => match P.underlying t with
    | some .bool => true
    | _ => false
  | .sl e, .ty t => match P.underlying t with
    | some (.slice te) => e.fits P (.ty te) && P.cellsOf te == e.cells && decide (0 < e.cells)
    | _ => false
  | .st b, .ty t => match P.underlying t with
    | some (.struct fs) => b.fits P (.flds fs.toList 0) && P.cellsOf t == b.cells
    | some (.array n te) => b.fits P (.elems n te) && P.cellsOf t == b.cells
    | _ => false
  | .unit, .flds [] _ => true
  | .pair a b, .flds (f :: fs) off => f.offset == off && P.cellsOf f.type == a.cells && a.fits P (.ty f.type) && b.fits P (.flds fs (off + a.cells))
  | .unit, .elems 0 _ => true
  | .pair a b, .elems (n + 1) te => P.cellsOf te == a.cells && a.fits P (.ty te) && b.fits P (.elems n te)
  | _, _ => false

section
variable {H : Type} {enc : TypeId × Value → H} {P : Program} {w : World} {base : Nat} {spare : Nat → Bool} {held : Bool}

def Got (enc : TypeId × Value → H) (P : Program) (w : World) (base : Nat) (spare : Nat → Bool) (held : Bool) (m : Nat) : Sh → List Value → Prop
  | .ty t, cs => ∃ x, DataW.trod enc P w base spare held m t cs = some x
  | .flds fs off, cs => ∃ all : List Value, (∀ f ∈ fs, ∃ x, DataW.trod enc P w base spare held m f.type ((all.drop f.offset).take (P.cellsOf f.type)) = some x) ∧ cs = all.drop off
  | .elems n e, cs => ∀ i, i < n → ∃ x, DataW.trod enc P w base spare held m e ((cs.drop (i * P.cellsOf e)).take (P.cellsOf e)) = some x

theorem choose_list {α : Type} {n : Nat} {p : Nat → α → Prop} (h : ∀ i, i < n → ∃ x, p i x) : ∃ l : List α, l.length = n ∧ ∀ i x, l[i]? = some x → p i x := by
  induction n with
  | zero => exact ⟨[], rfl, fun i x h => by simp at h⟩
  | succ n ih =>
    obtain ⟨l, hl, hp⟩ := ih fun i hi => h i (by omega)
    obtain ⟨y, hy⟩ := h n (by omega)
    refine ⟨l ++ [y], by simp [hl], fun i x hx => ?_⟩
    rw [List.getElem?_append] at hx
    split at hx
    · exact hp i x hx
    · rename_i hi
      have : i = n := by
        rcases Nat.lt_or_ge (i - l.length) 1 with h1 | h1
        · omega
        · rw [List.getElem?_eq_none (by simpa using h1)] at hx; cases hx
      subst this
      rw [hl, Nat.sub_self] at hx
      simp at hx
      exact hx ▸ hy

theorem reads_of (T : Ty) : ∀ (s : Sh) (m : Nat) (cs : List Value), T.fits P s = true → Got enc P w base spare held m s cs → cs.length = T.cells → ∃ d, T.reads w cs d := by
  induction T with
  | int k =>
    intro s m cs hf hg _
    cases s with
    | ty t =>
      simp only [Ty.fits] at hf
      split at hf
      · rename_i k' ht
        obtain rfl := of_decide_eq_true hf
        obtain ⟨x, hx⟩ := hg
        obtain ⟨z, rfl, _, hw⟩ := DataW.trod_int ht hx
        exact ⟨.i z, z, rfl, inK_of_wf hw, rfl⟩
      · cases hf
    | flds fs off => cases fs <;> simp [Ty.fits] at hf
    | elems n e => cases n <;> simp [Ty.fits] at hf
  | bool =>
    intro s m cs hf hg _
    cases s with
    | ty t =>
      simp only [Ty.fits] at hf
      split at hf
      · rename_i ht
        obtain ⟨x, hx⟩ := hg
        obtain ⟨z, rfl, _⟩ := DataW.trod_bool ht hx
        exact ⟨.b z, z, rfl, rfl⟩
      · cases hf
    | flds fs off => cases fs <;> simp [Ty.fits] at hf
    | elems n e => cases n <;> simp [Ty.fits] at hf
  | sl e ih =>
    intro s m cs hf hg _
    cases s with
    | ty t =>
      simp only [Ty.fits] at hf
      split at hf
      · rename_i te ht
        simp only [Bool.and_eq_true, beq_iff_eq, decide_eq_true_eq] at hf
        obtain ⟨⟨hf, hc⟩, hp⟩ := hf
        obtain ⟨x, hx⟩ := hg
        rcases Deep.open_slice ht hx with ⟨rfl, _⟩ | ⟨a, len, cap, mm, n, Dd, Pl, rfl, _, hl, hm, hmm, _, hall⟩
        · exact ⟨.l [], _, 0, [], [], rfl, row_nil w _, rfl, rfl, fun j x h => by simp at h⟩
        · have hlen : len ≤ mm := by rw [hmm]; split <;> omega
          have hcs : ∀ i, i < len → ∃ c : List Value × D, w.cells? base (a.add (i * e.cells)) e.cells = some c.1 ∧ c.1.length = e.cells ∧ e.reads w c.1 c.2 := by
            intro i hi
            obtain ⟨cs', h1, h2⟩ := hall i (by omega)
            rw [hc] at h1
            obtain ⟨_, hl', _⟩ := World.cells?_some h1
            obtain ⟨d, hd⟩ := ih (.ty te) n cs' hf ⟨_, h2⟩ hl'
            exact ⟨(cs', d), h1, hl', hd⟩
          obtain ⟨l, hll, hlp⟩ := choose_list hcs
          have hblk : ∀ (l : List (List Value × D)), (∀ (i : Nat) (x : List Value × D), l[i]? = some x → x.1.length = e.cells) → (l.flatMap (·.1)).length = l.length * e.cells ∧
              ∀ (i : Nat) (x : List Value × D), l[i]? = some x → ((l.flatMap (·.1)).drop (i * e.cells)).take e.cells = x.1 := by
            intro l
            induction l with
            | nil => intro _; exact ⟨by simp, fun i x h => by simp at h⟩
            | cons y l ihl =>
              intro h
              have hy := h 0 y rfl
              obtain ⟨h1, h2⟩ := ihl fun i x hx => h (i + 1) x (by simpa using hx)
              refine ⟨by simp [h1, hy, Nat.add_mul, Nat.add_comm], fun i x hx => ?_⟩
              cases i with
              | zero =>
                simp at hx
                subst hx
                simp [← hy]
              | succ i =>
                simp at hx
                rw [List.flatMap_cons, Nat.add_mul, Nat.one_mul, Nat.add_comm, ← List.drop_drop, ← hy, List.drop_left, hy]
                exact h2 i x hx
          obtain ⟨hb1, hb2⟩ := hblk l fun i x hx => (hlp i x hx).2.1
          refine ⟨.l (l.map (·.2)), _, len, l.flatMap (·.1), l.map (·.2), rfl, ?_, rfl, by simp [hll], ?_⟩
          · refine row_of_cells hl hm (by rw [hb1, hll]) fun j u hj => ?_
            have hj' : j < len * e.cells := by
              rcases Nat.lt_or_ge j (len * e.cells) with h | h
              · exact h
              · rw [List.getElem?_eq_none (by rw [hb1, hll]; exact h)] at hj; cases hj
            have hq : j / e.cells < len := Nat.div_lt_of_lt_mul (by rw [Nat.mul_comm]; exact hj')
            have hr : j % e.cells < e.cells := Nat.mod_lt _ hp
            have hje : j / e.cells * e.cells + j % e.cells = j := by rw [Nat.mul_comm]; exact Nat.div_add_mod _ _
            obtain ⟨x, hx⟩ : ∃ x, l[j / e.cells]? = some x := ⟨l[j / e.cells], by simp [hll, hq]⟩
            obtain ⟨hc1, hc2, _⟩ := hlp _ _ hx
            have hu : x.1[j % e.cells]? = some u := by
              rw [← hb2 _ _ hx, List.getElem?_take, if_pos hr, List.getElem?_drop, hje]
              exact hj
            obtain ⟨_, _, h3⟩ := World.cells?_some hc1
            have h4 := h3 (j % e.cells) hr
            rw [hu] at h4
            have h5 : (a.add (j / e.cells * e.cells)).add (j % e.cells) = a.add j := by
              rw [Addr.add_add, hje]
            rw [h5] at h4
            exact h4
          · intro j x hx
            rw [List.getElem?_map] at hx
            cases hlj : l[j]? with
            | none => rw [hlj] at hx; cases hx
            | some y =>
              rw [hlj] at hx
              simp at hx
              subst hx
              rw [hb2 j y hlj]
              exact (hlp j y hlj).2.2
      · cases hf
    | flds fs off => cases fs <;> simp [Ty.fits] at hf
    | elems n e => cases n <;> simp [Ty.fits] at hf
  | st b ih =>
    intro s m cs hf hg hl
    cases s with
    | ty t =>
      simp only [Ty.fits] at hf
      split at hf
      · rename_i fs ht
        simp only [Bool.and_eq_true, beq_iff_eq] at hf
        obtain ⟨x, hx⟩ := hg
        obtain ⟨xs, n, rfl, _, _, hlen, hall⟩ := DataW.trod_struct ht hx
        refine ih (.flds fs.toList 0) n cs hf.1 ⟨cs, fun f hmem => ?_, rfl⟩ hl
        obtain ⟨i, hi, rfl⟩ := List.getElem_of_mem hmem
        have h1 := hall i fs.toList[i] (by simp at hi ⊢)
        rw [h1]
        have : i < xs.length := by rw [hlen]; simpa using hi
        exact ⟨xs[i], by simp [this]⟩
      · rename_i n te ht
        simp only [Bool.and_eq_true, beq_iff_eq] at hf
        obtain ⟨x, hx⟩ := hg
        obtain ⟨xs, m', rfl, _, _, hlen, hall⟩ := DataW.trod_array ht hx
        refine ih (.elems n te) m' cs hf.1 (fun i hi => ?_) hl
        rw [hall i hi]
        exact ⟨xs[i]'(by omega), by simp [show i < xs.length by omega]⟩
      · cases hf
    | flds fs off => cases fs <;> simp [Ty.fits] at hf
    | elems n e => cases n <;> simp [Ty.fits] at hf
  | unit =>
    intro s m cs hf hg hl
    exact ⟨.u, List.eq_nil_of_length_eq_zero hl, rfl⟩
  | pair a b iha ihb =>
    intro s m cs hf hg hl
    simp only [Ty.cells] at hl
    cases s with
    | ty t => simp [Ty.fits] at hf
    | flds fs off =>
      cases fs with
      | nil => simp [Ty.fits] at hf
      | cons f fs =>
        simp only [Ty.fits, Bool.and_eq_true, beq_iff_eq] at hf
        obtain ⟨⟨⟨h1, h2⟩, h3⟩, h4⟩ := hf
        obtain ⟨all, hall, rfl⟩ := hg
        obtain ⟨x, hx⟩ := hall f (by simp)
        rw [h1, h2] at hx
        have hlt : ((all.drop off).take a.cells).length = a.cells := by rw [List.length_take]; omega
        obtain ⟨d1, hd1⟩ := iha (.ty f.type) m _ h3 ⟨x, hx⟩ hlt
        obtain ⟨d2, hd2⟩ := ihb (.flds fs (off + a.cells)) m ((all.drop off).drop a.cells) h4 ⟨all, fun g hg => hall g (by simp [hg]), by rw [List.drop_drop]⟩ (by rw [List.length_drop]; omega)
        exact ⟨.p d1 d2, _, _, d1, d2, (List.take_append_drop _ _).symm, hlt, hd1, hd2, rfl⟩
    | elems n te =>
      cases n with
      | zero => simp [Ty.fits] at hf
      | succ n =>
        simp only [Ty.fits, Bool.and_eq_true, beq_iff_eq] at hf
        obtain ⟨⟨h2, h3⟩, h4⟩ := hf
        simp only [Got] at hg
        obtain ⟨x, hx⟩ := hg 0 (by omega)
        rw [Nat.zero_mul, List.drop_zero, h2] at hx
        have hlt : (cs.take a.cells).length = a.cells := by rw [List.length_take]; omega
        obtain ⟨d1, hd1⟩ := iha (.ty te) m _ h3 ⟨x, hx⟩ hlt
        obtain ⟨d2, hd2⟩ := ihb (.elems n te) m (cs.drop a.cells) h4 (fun i hi => by
          obtain ⟨y, hy⟩ := hg (i + 1) (by omega)
          rw [h2] at hy ⊢
          rw [Nat.add_mul, Nat.one_mul, Nat.add_comm, ← List.drop_drop] at hy
          exact ⟨y, hy⟩) (by rw [List.length_drop]; omega)
        exact ⟨.p d1 d2, _, _, d1, d2, (List.take_append_drop _ _).symm, hlt, hd1, hd2, rfl⟩

/-- An argument, by its shape. -/
theorem open_read {t : TypeId} {v : Value} {d : DataW H} {p : List MemPlace} (T : Ty) (hf : T.fits P (.ty t) = true) (h : DataW.Trod enc P w base spare held t v d p) (hl : v.cells.toList.length = T.cells) : ∃ x, T.reads w v.cells.toList x := by
  obtain ⟨m, hm⟩ := h
  exact reads_of (enc := enc) (base := base) (spare := spare) (held := held) T (.ty t) m _ hf ⟨_, hm⟩ hl

theorem okWide_agg {r : Reach} {b0 : Nat} {t : TypeId} {v : Value} (ht : (match P.underlying t with | some (.struct _) | some (.array _ _) => true | _ => false) = true) (h : Value.okWide P w r b0 t v) : ∃ cs, v = .agg cs ∧ cs.size = P.cellsOf t := by
  unfold Value.okWide at h
  split at h
  · obtain ⟨cs, h1, h2, _⟩ := h; exact ⟨cs, h1, h2⟩
  · obtain ⟨cs, h1, h2, _⟩ := h; exact ⟨cs, h1, h2⟩
  · rename_i h1 h2
    split at ht
    · rename_i fs he; exact absurd he (h1 fs)
    · rename_i n e he; exact absurd he (h2 n e)
    · cases ht
end

def u8x4 : Ty := .st (.pair (.int .u8) (.pair (.int .u8) (.pair (.int .u8) (.pair (.int .u8) .unit))))

theorem read_u8x4 {w : World} {cs : Array Value} {d : D} (h : u8x4.reads w (Value.agg cs).cells.toList d) : ∃ b0 b1 b2 b3, cs = #[.int .u8 b0, .int .u8 b1, .int .u8 b2, .int .u8 b3] ∧ InK .u8 b0 ∧ InK .u8 b1 ∧ InK .u8 b2 ∧ InK .u8 b3 := by
  simp only [u8x4, Ty.reads, Value.cells] at h
  obtain ⟨_, _, _, _, e, _, ⟨b0, rfl, k0, _⟩, ⟨_, _, _, _, rfl, _, ⟨b1, rfl, k1, _⟩, ⟨_, _, _, _, rfl, _, ⟨b2, rfl, k2, _⟩, ⟨_, _, _, _, rfl, _, ⟨b3, rfl, k3, _⟩, ⟨rfl, _⟩, _⟩, _⟩, _⟩, _⟩ := h
  exact ⟨b0, b1, b2, b3, by apply Array.ext'; simpa using e, k0, k1, k2, k3⟩

end Go.Proofs.Ytdhdbmfipkppiaa
