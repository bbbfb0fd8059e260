/- Regions that draw their order, walked without an order: what each operation leaves is told of whatever world it comes up in, and stays so. -/
import Derived.Test.YtmddlhfahfelpaaRegM
set_option linter.unusedSimpArgs false
set_option linter.unusedVariables false
set_option linter.unnecessarySimpa false
namespace Go.Proofs.Ytmddlhfahfelpaa
open Go.RowKit

/-- What is told of a value in a world, and stays so. -/
structure MP (R : World → World → Prop) where
  p : World → Value → Prop
  mono : ∀ w w' v, R w w' → p w v → p w' v

/-- What is told of a value and of those that it was made of. -/
structure TP (R : World → World → Prop) where
  p : World → Value → List Value → Prop
  mono : ∀ w w' v us, R w w' → p w v us → p w' v us
def TP.top {R : World → World → Prop} : TP R := ⟨fun _ _ _ => True, fun _ _ _ _ _ _ => trivial⟩

/-- An operation's number, those whose values it looks at, and what is told of its value. -/
structure MT (R : World → World → Prop) where
  m : MP R
  t : TP R
instance {R : World → World → Prop} : Coe (MP R) (MT R) := ⟨fun m => ⟨m, TP.top⟩⟩
structure OpM (R : World → World → Prop) where
  i : Nat
  js : List Nat
  m : MT R

section
variable {R : World → World → Prop}
def phi : List (OpM R) → Nat → World → Value → Prop
  | [], _ => fun _ _ => True
  | e :: es, i => if e.i = i then e.m.m.p else phi es i
def tie : List (OpM R) → Nat → World → Value → List Value → Prop
  | [], _ => fun _ _ _ => True
  | e :: es, i => if e.i = i then e.m.t.p else tie es i
def jsOf : List (OpM R) → Nat → List Nat
  | [], _ => []
  | e :: es, i => if e.i = i then e.js else jsOf es i
variable (P : Program) (l : List Oper) (Q : Exit → Act → World → Prop) (φs : List (OpM R))

def dstAt (i : Nat) : Option Tmp := (l[i]?).bind (·.dst)
def depsOf (o : Oper) : List Nat := (o.after.toList.filter fun e => Region.binds .any e).map (·.on)
def isIn (ks : List Nat) (i : Nat) : Bool := ks.contains i
def keys : List Nat := φs.map (·.i)

/-- For whatever values these operations have left. -/
def rNeed (w : World) (G : List Value → Act → Prop) : List Nat → List Value → Act → Prop
  | [], us, a => G us.reverse a
  | j :: js, us, a => ∀ v, phi φs j w v → rNeed w G js (v :: us) (a.put (dstAt l j) v)

def envAt : List (Nat × Value) → Nat → Value
  | [], _ => undef
  | (i, v) :: r, j => if i = j then v else envAt r j

/-- What is known behind all of them. -/
def rFin (w : World) : List (OpM R) → List (Nat × Value) → Act → Prop
  | [], _, a => Q .normal a w
  | e :: es, env, a => ∀ v, e.m.m.p w v → e.m.t.p w v (e.js.map (envAt env)) → rFin w es ((e.i, v) :: env) (a.put (dstAt l e.i) v)

/-- What a step has to show. -/
def Left (R : World → World → Prop) (a : Act) (d : Option Tmp) (p : World → Value → Prop) (w : World) (a' : Act) (w' : World) : Prop := ∃ v, a' = a.put d v ∧ R w w' ∧ p w' v
def NoExit (_ : Exit) (_ : Act) (_ : World) : Prop := False

def both (p : World → Value → Prop) (q : World → Value → List Value → Prop) (us : List Value) (w : World) (v : Value) : Prop := p w v ∧ q w v us

theorem both_top (p : World → Value → Prop) (us : List Value) : both p (fun _ _ _ => True) us = p := by
  funext w v
  simp [both]

def rStep (i : Nat) (o : Oper) (w : World) (us : List Value) (a : Act) : Prop :=
  if Region.wanted o (yielded l.toArray a.tmps) = true then o.wp P a w (Left R a o.dst (both (phi φs i) (tie φs i) us) w) NoExit else both (phi φs i) (tie φs i) us w undef

def rSteps (w0 : World) (a0 : Act) : List (OpM R) → Prop
  | [] => True
  | e :: es => (∀ w, R w0 w → match l[e.i]? with | some o => rNeed l φs w (rStep P l φs e.i o w) e.js [] a0 | none => True) ∧ rSteps w0 a0 es

/-- Does j wait for i? -/
def waits : Nat → Nat → Nat → Bool
  | 0, _, _ => false
  | f + 1, j, i => match l[j]? with
    | some o => (depsOf o).any fun k => k == i || waits f k i
    | none => false

def looks (o : Oper) : List Tmp := o.looksAt l.toArray

def relyOk0 (ks : List Nat) (n : Nat) : Bool :=
  Region.noSelect l.toArray && (ks.all fun i => decide (i < l.length)) &&
  ((List.range l.length).all fun i => match l[i]? with
    | some o => (depsOf o).all fun j => decide (j < i)
    | none => true) &&
  (ks.all fun i => match dstAt l i with
    | some d => decide (d < n) && ks.all fun j => j == i || dstAt l j != some d
    | none => true) &&
  (ks.all fun i => match l[i]? with
    | some o => (looks l o).all fun t => ks.all fun j => dstAt l j != some t || j == i || (depsOf o).contains j || waits l l.length j i
    | none => true)

def relyOk (ks : List (Nat × List Nat)) (n : Nat) : Bool := relyOk0 l (ks.map (·.1)) n && ks.all fun (i, js) => match l[i]? with
    | some o => (js.all fun j => (depsOf o).contains j && (ks.map (·.1)).contains j && (dstAt l j).isSome) && ks.all fun (k, _) => match dstAt l k with
      | some d => js.contains k || !(depsOf o).contains k || !(looks l o).contains d
      | none => true
    | none => false

def jobs : List (Nat × List Nat) := φs.map fun e => (e.i, e.js)

/-- They are told in an order in which each stands behind those that it looks at, and no two are the same. -/
def inOrder : List (Nat × List Nat) → List Nat → Bool
  | [], _ => true
  | (i, js) :: r, seen => !seen.contains i && (js.all fun j => seen.contains j) && inOrder r (i :: seen)
end

section
variable {P : Program} {l : List Oper} {Q : Exit → Act → World → Prop} {R : World → World → Prop} {φs : List (OpM R)}

theorem tie_mono : ∀ (φs : List (OpM R)) (i : Nat) (w w' : World) (v : Value) (us : List Value), R w w' → tie φs i w v us → tie φs i w' v us
  | [], _, _, _, _, _, _, _ => trivial
  | e :: es, i, w, w', v, us, h, hp => by
    simp only [tie] at hp ⊢
    split
    · rename_i hi
      rw [if_pos hi] at hp
      exact e.m.t.mono _ _ _ _ h hp
    · rename_i hi
      rw [if_neg hi] at hp
      exact tie_mono es i w w' v us h hp

theorem phi_mono : ∀ (φs : List (OpM R)) (i : Nat) (w w' : World) (v : Value), R w w' → phi φs i w v → phi φs i w' v
  | [], _, _, _, _, _, _ => trivial
  | e :: es, i, w, w', v, h, hp => by
    simp only [phi] at hp ⊢
    split
    · rename_i hi
      rw [if_pos hi] at hp
      exact e.m.m.mono _ _ _ h hp
    · rename_i hi
      rw [if_neg hi] at hp
      exact phi_mono es i w w' v h hp

theorem put_tmps (a : Act) (d : Option Tmp) (v : Value) (t : Nat) : (a.put d v).tmps[t]? = if d = some t ∧ t < a.tmps.size then some v else a.tmps[t]? := by
  cases d with
  | none => simp [Act.put]
  | some d =>
    simp only [Act.put, Array.getElem?_setIfInBounds, Option.some.injEq]
    by_cases h : d = t
    · subst h
      by_cases h2 : d < a.tmps.size
      · simp [h2]
      · simp [h2]
    · simp [h]
theorem put_size (a : Act) (d : Option Tmp) (v : Value) : (a.put d v).tmps.size = a.tmps.size := by
  cases d <;> simp [Act.put]
theorem put_defers (a : Act) (d : Option Tmp) (v : Value) : (a.put d v).defers = a.defers := by
  cases d <;> rfl

def valAt (l : List Oper) (a : Act) (j : Nat) : Value := match dstAt l j with
  | some d => a.tmps.getD d undef
  | none => undef

theorem valAt_some {a : Act} {j : Nat} {d : Tmp} {v : Value} (hd : dstAt l j = some d) (h : a.tmps[d]? = some v) : valAt l a j = v := by
  unfold valAt
  rw [hd]
  simp only [Array.getD_eq_getD_getElem?, h, Option.getD_some]

/-- What has been left lies where it lies. -/
theorem rNeed_out {w : World} {G : List Value → Act → Prop} (a : Act) : ∀ (js : List Nat) (us : List Value) (b : Act), b.tmps.size = a.tmps.size → rNeed l φs w G js us b →
    (∀ j ∈ js, (dstAt l j).isSome = true ∧ ∃ v, phi φs j w v ∧ ∀ d, dstAt l j = some d → a.tmps[d]? = some v) →
    ∃ b', G (us.reverse ++ js.map (valAt l a)) b' ∧ b'.defers = b.defers ∧ b'.tmps.size = b.tmps.size ∧ ∀ t : Nat, ((∃ j ∈ js, dstAt l j = some t) → b'.tmps[t]? = a.tmps[t]?) ∧ ((∀ j ∈ js, dstAt l j ≠ some t) → b'.tmps[t]? = b.tmps[t]?)
  | [], us, b, _, h, _ => ⟨b, by simpa [rNeed] using h, rfl, rfl, fun t => ⟨fun ⟨j, hj, _⟩ => (by cases hj), fun _ => rfl⟩⟩
  | j :: js, us, b, hs, h, hv => by
    obtain ⟨hsome, v, hp, hd⟩ := hv j (by simp)
    obtain ⟨b', h1, h2, h3, h4⟩ := rNeed_out a js (v :: us) (b.put (dstAt l j) v) (by rw [put_size]; exact hs) (h v hp) (fun k hk => hv k (by simp [hk]))
    have hva : valAt l a j = v := by
      obtain ⟨d, e⟩ := Option.isSome_iff_exists.1 hsome
      exact valAt_some e (hd d e)
    refine ⟨b', by simpa [hva] using h1, by rw [h2, put_defers], by rw [h3, put_size], fun t => ?_⟩
    have hlt : ∀ d : Nat, dstAt l j = some d → d < b.tmps.size := fun d e => by
      have := hd d e
      have := (Array.getElem?_eq_some_iff.1 this).1
      omega
    obtain ⟨k1, k2⟩ := h4 t
    refine ⟨fun ⟨k, hk, he⟩ => ?_, fun hn => ?_⟩
    · by_cases hin : ∃ m ∈ js, dstAt l m = some t
      · exact k1 hin
      · rw [k2 (fun m hm e => hin ⟨m, hm, e⟩), put_tmps]
        rcases List.mem_cons.1 hk with rfl | hk
        · rw [if_pos ⟨he, hlt t he⟩, hd t he]
        · exact absurd ⟨k, hk, he⟩ hin
    · rw [k2 (fun m hm => hn m (by simp [hm])), put_tmps, if_neg (fun h => hn j (by simp) h.1)]

/-- The same behind all of them. -/
theorem rFin_out {w : World} (a : Act) : ∀ (es : List (OpM R)) (env : List (Nat × Value)) (b : Act), b.tmps.size = a.tmps.size → rFin l Q w es env b →
    (∀ e ∈ es, (∀ j ∈ e.js, (dstAt l j).isSome = true) ∧ ∃ v, e.m.m.p w v ∧ e.m.t.p w v (e.js.map (valAt l a)) ∧ ∀ d, dstAt l e.i = some d → a.tmps[d]? = some v) →
    (∀ j v, (j, v) ∈ env → (dstAt l j).isSome = true → v = valAt l a j) → inOrder (es.map fun e => (e.i, e.js)) (env.map (·.1)) = true →
    ∃ b', Q .normal b' w ∧ b'.defers = b.defers ∧ ∀ t : Nat, ((∃ e ∈ es, dstAt l e.i = some t) → b'.tmps[t]? = a.tmps[t]?) ∧ ((∀ e ∈ es, dstAt l e.i ≠ some t) → b'.tmps[t]? = b.tmps[t]?)
  | [], env, b, _, h, _, _, _ => ⟨b, h, rfl, fun t => ⟨fun ⟨j, hj, _⟩ => (by cases hj), fun _ => rfl⟩⟩
  | e :: es, env, b, hs, h, hv, henv, ho => by
    simp only [List.map_cons, inOrder, Bool.and_eq_true] at ho
    obtain ⟨hjs, v, hp, ht, hd⟩ := hv e (by simp)
    have hval : ∀ (env : List (Nat × Value)) j, j ∈ env.map (·.1) → (∀ j v, (j, v) ∈ env → (dstAt l j).isSome = true → v = valAt l a j) → (dstAt l j).isSome = true → envAt env j = valAt l a j := by
      intro env
      induction env with
      | nil => intro j hj; cases hj
      | cons x env ih =>
        intro j hj hx hsome
        obtain ⟨i, u⟩ := x
        simp only [envAt]
        split
        · rename_i hi
          subst hi
          exact hx i u (by simp) hsome
        · rename_i hi
          refine ih j ?_ (fun j v hjv => hx j v (by simp [hjv])) hsome
          rcases List.mem_cons.1 hj with rfl | hj
          · exact absurd rfl hi
          · exact hj
    have hmap : e.js.map (envAt env) = e.js.map (valAt l a) := by
      refine List.map_congr_left fun j hj => hval env j ?_ henv (hjs j hj)
      have := List.all_eq_true.1 ho.1.2 j hj
      simpa using this
    obtain ⟨b', h1, h2, h4⟩ := rFin_out a es ((e.i, v) :: env) (b.put (dstAt l e.i) v) (by rw [put_size]; exact hs) (h v hp (by rw [hmap]; exact ht)) (fun k hk => hv k (by simp [hk])) (fun j u hju hsome => by
      rcases List.mem_cons.1 hju with h | h
      · cases h
        obtain ⟨d, e'⟩ := Option.isSome_iff_exists.1 hsome
        exact (valAt_some e' (hd d e')).symm
      · exact henv j u h hsome) ho.2
    refine ⟨b', h1, by rw [h2, put_defers], fun t => ?_⟩
    have hlt : ∀ d : Nat, dstAt l e.i = some d → d < b.tmps.size := fun d e => by
      have := hd d e
      have := (Array.getElem?_eq_some_iff.1 this).1
      omega
    obtain ⟨k1, k2⟩ := h4 t
    refine ⟨fun ⟨k, hk, he⟩ => ?_, fun hn => ?_⟩
    · by_cases hin : ∃ m ∈ es, dstAt l m.i = some t
      · exact k1 hin
      · rw [k2 (fun m hm e => hin ⟨m, hm, e⟩), put_tmps]
        rcases List.mem_cons.1 hk with rfl | hk
        · rw [if_pos ⟨he, hlt t he⟩, hd t he]
        · exact absurd ⟨k, hk, he⟩ hin
    · rw [k2 (fun m hm => hn m (by simp [hm])), put_tmps, if_neg (fun h => hn e (by simp) h.1)]

theorem countP_lt_of {α : Type} {p q : α → Bool} : ∀ {xs : List α}, (∀ x ∈ xs, p x = true → q x = true) → ∀ y ∈ xs, q y = true → p y = false → xs.countP p < xs.countP q
  | [], _, y, hy, _, _ => by cases hy
  | x :: xs, h, y, hy, h1, h2 => by
    have hle : xs.countP p ≤ xs.countP q := List.countP_mono_left fun z hz => h z (by simp [hz])
    rw [List.countP_cons, List.countP_cons]
    rcases List.mem_cons.1 hy with rfl | hy
    · rw [h1, h2]; simp; omega
    · have ih := countP_lt_of (fun z hz => h z (by simp [hz])) y hy h1 h2
      have hx := h x (by simp)
      cases hp : p x with
      | false => simp; split <;> omega
      | true => rw [hx hp]; simp; omega

theorem nodup_len {α : Type} [BEq α] [LawfulBEq α] : ∀ {xs ks : List α}, xs.Nodup → (∀ x ∈ xs, x ∈ ks) → xs.length ≤ ks.length
  | [], _, _, _ => Nat.zero_le _
  | x :: xs, ks, hn, h => by
    rw [List.nodup_cons] at hn
    have := nodup_len (ks := ks.erase x) hn.2 fun y hy => (List.mem_erase_of_ne (show y ≠ x from fun e => hn.1 (e ▸ hy))).2 (h y (by simp [hy]))
    rw [List.length_erase_of_mem (h x (by simp))] at this
    have : 0 < ks.length := List.length_pos_of_mem (h x (by simp))
    simp only [List.length_cons]
    omega

theorem countP_le_keys {p : Nat → Bool} {n : Nat} {ks : List Nat} (h : ∀ i, i < n → p i = true → i ∈ ks) : (List.range n).countP p ≤ ks.length := by
  rw [List.countP_eq_length_filter]
  exact nodup_len (List.Pairwise.filter _ List.nodup_range) fun i hi => h i (by simpa using (List.mem_filter.1 hi).1) (List.mem_filter.1 hi).2

structure Held (φs : List (OpM R)) (w0 : World) (a0 : Act) (listed : Array Bool) (a : Act) (w : World) : Prop where
  rel : R w0 w
  dfs : a.defers = a0.defers
  size : a.tmps.size = a0.tmps.size
  pre : ∀ i, i < l.length → i ∉ keys φs → listed.getD i false = true
  down : ∀ j o, l[j]? = some o → listed.getD j false = true → ∀ k ∈ depsOf o, listed.getD k false = true
  got : ∀ i ∈ keys φs, listed.getD i false = true → ∃ v, phi φs i w v ∧ tie φs i w v ((jsOf φs i).map (valAt l a)) ∧ ∀ d, dstAt l i = some d → a.tmps[d]? = some v
  old : ∀ t : Nat, (∀ i ∈ keys φs, listed.getD i false = true → dstAt l i ≠ some t) → a.tmps[t]? = a0.tmps[t]?

theorem waits_listed {listed : Array Bool} (hd : ∀ j o, l[j]? = some o → listed.getD j false = true → ∀ k ∈ depsOf o, listed.getD k false = true) :
    ∀ (f j i : Nat), waits l f j i = true → listed.getD j false = true → listed.getD i false = true
  | 0, j, i, h, _ => by simp [waits] at h
  | f + 1, j, i, h, hj => by
    simp only [waits] at h
    split at h
    · rename_i o ho
      simp only [List.any_eq_true, Bool.or_eq_true, beq_iff_eq] at h
      obtain ⟨k, hk, h⟩ := h
      have hl := hd j o ho hj k hk
      rcases h with rfl | h
      · exact hl
      · exact waits_listed hd f k i h hl
    · cases h

theorem wanted_same {o : Oper} {a b : Act} (h : ∀ t ∈ looks l o, a.tmps[t]? = b.tmps[t]?) : Region.wanted o (yielded l.toArray a.tmps) = Region.wanted o (yielded l.toArray b.tmps) := by
  unfold Region.wanted
  cases hg : o.guard with
  | none => rfl
  | some g =>
    obtain ⟨g, want⟩ := g
    have : yielded l.toArray a.tmps g = yielded l.toArray b.tmps g := by
      unfold yielded
      cases hd : (l.toArray[g]?).bind (·.dst) with
      | none => rfl
      | some d =>
        have := h d (List.mem_append_right _ (by rw [hg]; simp only; rw [hd]; simp))
        simp only [Option.bind_some, this]
    simp only [this]

theorem rSteps_at {w0 : World} {a0 : Act} : ∀ (es : List (OpM R)) (e : OpM R) (o : Oper), rSteps P l φs w0 a0 es → e ∈ es → l[e.i]? = some o → ∀ w, R w0 w → rNeed l φs w (rStep P l φs e.i o w) e.js [] a0
  | [], e, o, _, h, _ => by cases h
  | k :: es, e, o, hs, h, ho => by
    rcases List.mem_cons.1 h with rfl | h
    · intro w hw
      have := hs.1 w hw
      rwa [ho] at this
    · exact rSteps_at es e o hs.2 h ho

theorem uniq_at : ∀ (es : List (OpM R)) (seen : List Nat), inOrder (jobs es) seen = true → ∀ e ∈ es, phi es e.i = e.m.m.p ∧ tie es e.i = e.m.t.p ∧ jsOf es e.i = e.js
  | [], _, _, e, he => by cases he
  | k :: es, seen, ho, e, he => by
    simp only [jobs, List.map_cons, inOrder, Bool.and_eq_true] at ho
    simp only [phi, tie, jsOf]
    rcases List.mem_cons.1 he with rfl | he
    · simp
    · have hne : ¬ k.i = e.i := by
        intro h
        have := notSeen es (k.i :: seen) ho.2 e he
        exact this (by simp [h])
      rw [if_neg hne, if_neg hne, if_neg hne]
      exact uniq_at es (k.i :: seen) ho.2 e he
where notSeen : ∀ (es : List (OpM R)) (seen : List Nat), inOrder (es.map fun e => (e.i, e.js)) seen = true → ∀ e ∈ es, e.i ∉ seen
  | [], _, _, e, he => by cases he
  | k :: es, seen, ho, e, he => by
    simp only [List.map_cons, inOrder, Bool.and_eq_true] at ho
    rcases List.mem_cons.1 he with rfl | he
    · simpa using ho.1.1
    · intro h
      exact notSeen es (k.i :: seen) ho.2 e he (by simp [h])

theorem rely_any {w0 : World} {a0 : Act} (hok : relyOk l (jobs φs) a0.tmps.size = true) (hord : inOrder (jobs φs) [] = true) (htr : ∀ u v w, R u v → R v w → R u w) (hrf : ∀ w, R w w)
    (hsteps : rSteps P l φs w0 a0 φs)
    (hfin : ∀ w, R w0 w → rFin l Q w φs [] a0) :
    ∀ (fuel : Nat) (listed : Array Bool) (a : Act) (w : World), listed.size = l.length → (List.range l.length).countP (fun i => !listed.getD i true) ≤ fuel → Held (l := l) φs w0 a0 listed a w →
      wpAnyH P .any l.toArray Q (R w0) fuel listed a w := by
  have hkj : (jobs φs).map (·.1) = keys φs := by simp [jobs, keys, Function.comp_def]
  simp only [relyOk, relyOk0, hkj, Bool.and_eq_true] at hok
  obtain ⟨⟨⟨⟨⟨hsel, hkl⟩, hback⟩, hdst⟩, hlook⟩, hjobs⟩ := hok
  have hkl1 : ∀ i ∈ keys φs, i < l.length := fun i hi => by simpa using List.all_eq_true.1 hkl i hi
  have hdst1 : ∀ i ∈ keys φs, ∀ d, dstAt l i = some d → d < a0.tmps.size ∧ ∀ j ∈ keys φs, dstAt l j = some d → j = i := by
    intro i hi d e
    have := List.all_eq_true.1 hdst i hi
    rw [e] at this
    simp only [Bool.and_eq_true, decide_eq_true_eq] at this
    refine ⟨this.1, fun j hj ej => ?_⟩
    have := List.all_eq_true.1 this.2 j hj
    simpa [ej] using this
  have hlook1 : ∀ i ∈ keys φs, ∀ o, l[i]? = some o → ∀ t ∈ looks l o, ∀ j ∈ keys φs, dstAt l j = some t → j = i ∨ j ∈ depsOf o ∨ waits l l.length j i = true := by
    intro i hi o ho t ht j hj ej
    have := List.all_eq_true.1 hlook i hi
    rw [ho] at this
    have := List.all_eq_true.1 (List.all_eq_true.1 this t ht) j hj
    simpa [ej, or_assoc] using this
  have hjsome : ∀ e ∈ φs, ∀ j ∈ e.js, (dstAt l j).isSome = true := by
    intro e he j hj
    have h1 := List.all_eq_true.1 hjobs (e.i, e.js) (by simp only [jobs, List.mem_map]; exact ⟨e, he, rfl⟩)
    split at h1
    · simp only [Bool.and_eq_true] at h1
      have := List.all_eq_true.1 h1.1 j hj
      simp only [Bool.and_eq_true] at this
      exact this.2
    · cases h1
  have done : ∀ (listed : Array Bool) (a : Act) (w : World), Held (l := l) φs w0 a0 listed a w → (∀ i, i < l.length → listed.getD i false = true) → Q .normal a w := by
    intro listed a w hh hall
    obtain ⟨b, hq, hb1, hb3⟩ := rFin_out a φs [] a0 hh.size.symm (hfin w hh.rel) (fun e he => by
      have hk : e.i ∈ keys φs := by simp only [keys, List.mem_map]; exact ⟨e, he, rfl⟩
      obtain ⟨v, h1, h2, h3⟩ := hh.got e.i hk (hall e.i (hkl1 e.i hk))
      obtain ⟨g1, g2, g3⟩ := uniq_at φs [] hord e he
      rw [g1] at h1
      rw [g2, g3] at h2
      exact ⟨hjsome e he, v, h1, h2, h3⟩) (fun j v h => by cases h) hord
    have : b = a := by
      obtain ⟨bt, bd⟩ := b
      obtain ⟨at_, ad⟩ := a
      have e1 : bd = ad := hb1.trans hh.dfs.symm
      have e2 : bt = at_ := by
        refine Array.ext_getElem? fun t => ?_
        by_cases ht : ∃ e ∈ φs, dstAt l e.i = some t
        · exact (hb3 t).1 ht
        · rw [(hb3 t).2 fun j hj e => ht ⟨j, hj, e⟩]
          refine (hh.old t fun i hi _ ei => ht ?_).symm
          obtain ⟨e, he, rfl⟩ : ∃ e ∈ φs, e.i = i := by simpa [keys] using hi
          exact ⟨e, he, ei⟩
      rw [e1, e2]
    rwa [this] at hq
  intro fuel
  induction fuel with
  | zero =>
    intro listed a w hls hc hh
    have hall : ∀ i, i < l.length → listed.getD i false = true := by
      intro i hi
      have := List.countP_eq_zero.1 (Nat.le_zero.1 hc) i (by simpa using hi)
      simp only [Bool.not_eq_true', Bool.not_eq_false] at this
      have hi' : i < listed.size := by omega
      simpa [Array.getD, hi'] using this
    refine ⟨?_, done listed a w hh hall⟩
    refine List.eq_nil_iff_forall_not_mem.2 fun j hj => ?_
    obtain ⟨h1, o, ho, _⟩ := mem_ready.1 hj
    have hjl : j < l.length := by
      have := (Array.getElem?_eq_some_iff.1 ho).1
      simpa using this
    have := hall j hjl
    have hj' : j < listed.size := by omega
    simp [Array.getD, hj'] at h1 this
    rw [h1] at this
    cases this
  | succ fuel ih =>
    intro listed a w hls hc hh
    refine ⟨fun hr => ?_, fun i hi => ?_⟩
    · -- nothing is ready: all have come up, since the edges lead back
      by_cases hall : ∀ i, i < l.length → listed.getD i false = true
      · exact done listed a w hh hall
      · exfalso
        have hex : ∃ i, i < l.length ∧ listed.getD i false = false := by
          refine Classical.byContradiction fun hn => hall fun i hi => ?_
          cases h : listed.getD i false with
          | true => rfl
          | false => exact absurd ⟨i, hi, h⟩ hn
        have hmin : ∀ n i, i < n → i < l.length → listed.getD i false = false → False := by
          intro n
          induction n with
          | zero => intro i h; omega
          | succ n ihn =>
            intro i hin hi hf
            have hb := List.all_eq_true.1 hback i (by simp [hi])
            have hli : l[i]? = some l[i] := by simp [hi]
            rw [hli] at hb
            have : i ∈ Region.ready .any l.toArray listed := by
              refine mem_ready.2 ⟨?_, l[i], by simp [hi], fun e he hbd => ?_⟩
              · have hi' : i < listed.size := by omega
                simpa [Array.getD, hi'] using hf
              · have hj := List.all_eq_true.1 hb e.on (by
                  simp only [depsOf, List.mem_map, List.mem_filter, Array.mem_toList_iff]
                  exact ⟨e, ⟨he, hbd⟩, rfl⟩)
                have hj : e.on < i := by simpa using hj
                cases h : listed.getD e.on false with
                | true => rfl
                | false => exact (ihn e.on (by omega) (by omega) h).elim
            rw [hr] at this
            cases this
        obtain ⟨i, hi, hf⟩ := hex
        exact hmin (i + 1) i (by omega) hi hf
    · obtain ⟨h1, o, ho, hdep⟩ := mem_ready.1 hi
      have ho' : l[i]? = some o := by simpa using ho
      have hil : i < l.length := (List.getElem?_eq_some_iff.1 ho').1
      have hi' : i < listed.size := by omega
      have h1f : listed.getD i false = false := by simpa [Array.getD, hi'] using h1
      have hik : i ∈ keys φs := by
        refine Classical.byContradiction fun hn => ?_
        have := hh.pre i hil hn
        rw [h1f] at this; cases this
      have hdl : ∀ j ∈ depsOf o, listed.getD j false = true := by
        intro j hj
        simp only [depsOf, List.mem_map, List.mem_filter, Array.mem_toList_iff] at hj
        obtain ⟨e, ⟨he, hb⟩, rfl⟩ := hj
        exact hdep e he hb
      obtain ⟨e, hee, hei⟩ : ∃ e ∈ φs, e.i = i := by simpa [keys] using hik
      have hj1 := List.all_eq_true.1 hjobs (i, e.js) (by simp only [jobs, List.mem_map]; exact ⟨e, hee, by rw [hei]⟩)
      simp only [ho', Bool.and_eq_true] at hj1
      have hfil : ∀ j ∈ e.js, j ∈ depsOf o ∧ j ∈ keys φs := fun j hj => by
        have := List.all_eq_true.1 hj1.1 j hj
        simp only [Bool.and_eq_true, List.contains_iff_mem] at this
        exact this.1
      have hrel : ∀ j ∈ keys φs, j ∈ depsOf o → ∀ d ∈ looks l o, dstAt l j = some d → j ∈ e.js := by
        intro j hjk hjd d hd ed
        obtain ⟨ej, hej, hji⟩ : ∃ e ∈ φs, e.i = j := by simpa [keys] using hjk
        have := List.all_eq_true.1 hj1.2 (j, ej.js) (by simp only [jobs, List.mem_map]; exact ⟨ej, hej, by rw [hji]⟩)
        simp only [ed] at this
        simpa [hjd, hd] using this
      have hgot : ∀ j ∈ e.js, (dstAt l j).isSome = true ∧ ∃ v, phi φs j w v ∧ ∀ d, dstAt l j = some d → a.tmps[d]? = some v := by
        intro j hj
        have := hfil j hj
        obtain ⟨v, h1, _, h3⟩ := hh.got j this.2 (hdl j this.1)
        exact ⟨hjsome e hee j hj, v, h1, h3⟩
      have hst := rSteps_at φs e o hsteps hee (by rw [hei]; exact ho') w hh.rel
      rw [hei] at hst
      obtain ⟨b, hb, hb1, hb2, hb3⟩ := rNeed_out a _ [] a0 hh.size.symm hst hgot
      simp only [List.reverse_nil, List.nil_append] at hb
      have hjs : jsOf φs i = e.js := by rw [← hei]; exact (uniq_at φs [] hord e hee).2.2
      -- what the operation looks at is the same
      have hsame : ∀ t ∈ looks l o, a.tmps[t]? = b.tmps[t]? := by
        intro t ht
        by_cases hin : ∃ j ∈ e.js, dstAt l j = some t
        · exact ((hb3 t).1 hin).symm
        · rw [(hb3 t).2 fun j hj e => hin ⟨j, hj, e⟩]
          refine hh.old t fun j hjk hj ed => ?_
          rcases hlook1 i hik o ho' t ht j hjk ed with rfl | h | h
          · rw [h1f] at hj; cases hj
          · exact hin ⟨j, hrel j hjk h t ht ed, ed⟩
          · have := waits_listed hh.down _ j i h hj
            rw [h1f] at this; cases this
      have hdo : dstAt l i = o.dst := by simp [dstAt, ho']
      have hheld : ∀ v w', R w w' → both (phi φs i) (tie φs i) (e.js.map (valAt l a)) w' v → Held (l := l) φs w0 a0 (listed.setIfInBounds i true) (a.put o.dst v) w' := by
        intro v w' hR hp
        have hset : ∀ j, (listed.setIfInBounds i true).getD j false = true ↔ j = i ∨ listed.getD j false = true := by
          intro j
          by_cases hji : j = i
          · subst hji
            simp [Array.getD, hi']
          · simp only [hji, false_or]
            rw [getD_set_ne false (Ne.symm hji)]
        have hvk0 : ∀ k, k ∈ keys φs ∧ listed.getD k false = true → valAt l (a.put o.dst v) k = valAt l a k := by
          intro k ⟨hk, hkl⟩
          unfold valAt
          cases hd : dstAt l k with
          | none => rfl
          | some d =>
            simp only [Array.getD_eq_getD_getElem?, put_tmps]
            rw [if_neg]
            intro h
            have := (hdst1 k hk d hd).2 i hik (hdo.trans h.1)
            rw [← this, h1f] at hkl
            cases hkl
        have hvk : ∀ k, k ∈ depsOf o ∧ k ∈ keys φs → valAt l (a.put o.dst v) k = valAt l a k := fun k hk => hvk0 k ⟨hk.2, hdl k hk.1⟩
        refine ⟨htr _ _ _ hh.rel hR, by rw [put_defers]; exact hh.dfs, by rw [put_size]; exact hh.size, fun j hj hn => (hset j).2 (Or.inr (hh.pre j hj hn)), fun j oj hoj hj k hk => ?_, fun j hjk hj => ?_, fun t ht => ?_⟩
        · rw [hset] at hj ⊢
          rcases hj with rfl | hj
          · rw [ho'] at hoj
            cases hoj
            exact Or.inr (hdl k hk)
          · exact Or.inr (hh.down j oj hoj hj k hk)
        · rw [hset] at hj
          by_cases hji : j = i
          · subst hji
            refine ⟨v, hp.1, ?_, fun d hd => ?_⟩
            · rw [hjs, List.map_congr_left fun k hk => hvk k (hfil k hk)]
              exact hp.2
            rw [put_tmps, if_pos]
            exact ⟨by rw [← hdo]; exact hd, by rw [hh.size]; exact (hdst1 j hjk d hd).1⟩
          · obtain ⟨u, hu, htu, hd⟩ := hh.got j hjk (hj.resolve_left hji)
            refine ⟨u, phi_mono _ _ _ _ _ hR hu, ?_, fun d e => ?_⟩
            · obtain ⟨ej, hej, hejj⟩ : ∃ e ∈ φs, e.i = j := by simpa [keys] using hjk
              have hjl : jsOf φs j = ej.js := by rw [← hejj]; exact (uniq_at φs [] hord ej hej).2.2
              have hlj : ∀ k ∈ ej.js, k ∈ keys φs ∧ listed.getD k false = true := by
                intro k hk
                have h1 := List.all_eq_true.1 hjobs (ej.i, ej.js) (by simp only [jobs, List.mem_map]; exact ⟨ej, hej, rfl⟩)
                simp only [hejj] at h1
                obtain ⟨oj, hoj⟩ : ∃ oj, l[j]? = some oj := ⟨l[j]'(hkl1 j hjk), by simp [hkl1 j hjk]⟩
                rw [hoj] at h1
                simp only [Bool.and_eq_true] at h1
                have h2 := List.all_eq_true.1 h1.1 k hk
                simp only [Bool.and_eq_true, List.contains_iff_mem] at h2
                exact ⟨h2.1.2, hh.down j oj hoj (hj.resolve_left hji) k h2.1.1⟩
              rw [hjl] at htu ⊢
              rw [List.map_congr_left fun k hk => hvk0 k (hlj k hk)]
              exact tie_mono _ _ _ _ _ _ hR htu
            rw [put_tmps, if_neg]
            · exact hd d e
            · intro h
              have := (hdst1 j hjk d e).2 i hik (hdo.trans h.1)
              exact hji this.symm
        · rw [put_tmps, if_neg]
          · exact hh.old t fun j hjk hj => ht j hjk ((hset j).2 (Or.inr hj))
          · intro h
            exact ht i hik ((hset i).2 (Or.inl rfl)) (hdo.trans h.1)
      have hcnt : (List.range l.length).countP (fun j => !(listed.setIfInBounds i true).getD j true) ≤ fuel := by
        have hlt : (List.range l.length).countP (fun j => !(listed.setIfInBounds i true).getD j true) < (List.range l.length).countP (fun j => !listed.getD j true) := by
          refine countP_lt_of (fun j hj => ?_) i (by simpa using hil) (by rw [h1]; rfl) (by simp [Array.getD, hi'])
          by_cases hji : j = i
          · subst hji
            simp [Array.getD, hi']
          · rw [getD_set_ne true (Ne.symm hji)]
            exact id
        omega
      have next : ∀ v w', R w w' → both (phi φs i) (tie φs i) (e.js.map (valAt l a)) w' v → wpAnyH P .any l.toArray Q (R w0) fuel (listed.setIfInBounds i true) (a.put o.dst v) w' := fun v w' hR hp =>
        ih _ _ _ (by simpa using hls) hcnt (hheld v w' hR hp)
      unfold wpOp
      simp only [ho]
      unfold rStep at hb
      rw [← wanted_same hsame] at hb
      split
      · rename_i hw
        rw [if_pos hw] at hb
        refine .inl ?_
        unfold Oper.wp at hb ⊢
        have he : execOp a.eval o = execOp b.eval o := execOp_congr o (fun cs c => Region.noSelect_spec hsel i o cs c ho) fun x hx => by
          cases x with
          | tmp t =>
            have := hsame t (List.mem_append_left _ (List.mem_filterMap.2 ⟨.tmp t, by simpa using hx, rfl⟩))
            simp only [Act.eval, Array.getD_eq_getD_getElem?, this]
          | const v => rfl
          | global g => rfl
          | func f => rfl
        rw [he]
        have hinj : ∀ u v : Value, b.put o.dst u = b.put o.dst v → a.put o.dst u = a.put o.dst v := by
          intro u v h
          cases hd : o.dst with
          | none => rfl
          | some d =>
            rw [hd] at h
            have h2 := congrArg (fun x : Act => x.tmps[d]?) h
            simp only [put_tmps] at h2
            have hlt : d < b.tmps.size := by rw [hb2]; exact (hdst1 i hik d (by rw [hdo, hd])).1
            simp only [hlt, and_self, if_true, Option.some.injEq] at h2
            rw [h2]
        have fin : ∀ u w', (∃ v, b.put o.dst u = b.put o.dst v ∧ R w w' ∧ both (phi φs i) (tie φs i) (e.js.map (valAt l a)) w' v) → R w0 w' ∧ wpAnyH P .any l.toArray Q (R w0) fuel (listed.setIfInBounds i true) (a.put o.dst u) w' := by
          intro u w' ⟨v, e, hR, hp⟩
          rw [hinj u v e]
          exact ⟨htr _ _ _ hh.rel hR, next v w' hR hp⟩
        generalize (execOp b.eval o).run P w = r at hb ⊢
        cases r with
        | ok n w' =>
          cases n <;> simp only [Oper.upon] at hb ⊢
          case value u => exact fin u w' hb
          case skip => exact fin undef w' hb
          case defer d =>
            exfalso
            obtain ⟨v, e, _⟩ := hb
            have := congrArg Act.defers e
            rw [put_defers, put_defers] at this
            simp at this
          case enter f args =>
            refine Calls.mono hb fun e w'' he => ?_
            cases e with
            | returned u => exact fin u w'' he
            | panicked c => exact he.elim
            | outgrown => exact absurd he (by simp [LetsOut, NoExit])
          case row row args => exact Rows.mono hb fun u w'' he => fin u w'' he
        | halt x w' =>
          cases x <;> simp only [Oper.upon, NoExit] at hb
      · rename_i hw
        rw [if_neg hw] at hb
        exact ⟨hh.rel, next undef w (hrf w) hb⟩

/-- First these, which only read; then the others, in whatever order. -/
def wpP (P : Program) (l : List Oper) (S : World → Prop) (Rest : Act → Prop) : List Nat → Act → Prop
  | [], a => Rest a
  | i :: r, a => ∃ o v, l[i]? = some o ∧ YieldsIf P l.toArray S o v a ∧ wpP P l S Rest r (a.put o.dst v)

def checkP (l : List Oper) : List Nat → Array Bool → Bool
  | [], _ => true
  | i :: r, listed => (Region.ready .any l.toArray listed).contains i && Region.free .any l.toArray listed i && checkP l r (listed.setIfInBounds i true)

def marked (n : Nat) : List Nat → Array Bool → Array Bool
  | [], x => x
  | i :: r, x => marked n r (x.setIfInBounds i true)

/-- What is left to be shown behind those that are taken first. -/
structure Rest (P : Program) (l : List Oper) (Q : Exit → Act → World → Prop) {R : World → World → Prop} (φs : List (OpM R)) (w : World) (a : Act) : Prop where
  steps : rSteps P l φs w a φs
  fin : ∀ W, R w W → rFin l Q W φs [] a

theorem wpP_sound {S : World → Prop} {w : World} {fin : Act → Prop} {n : Nat} (hsel : Region.noSelect l.toArray = true) (hQ : ∀ c a d v w, Q (.panic c) (Act.put a d v) w → Q (.panic c) a w) (hS : S w) : ∀ (r : List Nat) (fuel : Nat) (listed : Array Bool) (a : Act),
    checkP l r listed = true → a.tmps.size = n → wpP P l S fin r a → (∀ b, b.tmps.size = n → fin b → wpAnyH P .any l.toArray Q S fuel (marked l.length r listed) b w) → wpAnyH P .any l.toArray Q S (fuel + r.length) listed a w
  | [], fuel, listed, a, _, hn, h, hk => hk a hn h
  | i :: r, fuel, listed, a, hc, hn, h, hk => by
    simp only [checkP, Bool.and_eq_true] at hc
    obtain ⟨o, v, ho, hy, hr⟩ := h
    rw [List.length_cons, ← Nat.add_assoc]
    exact wpAnyH_take (by simpa using ho) hsel hc.1.2 hc.1.1 (fun c a w => hQ c a _ v w) hy hS (wpP_sound hsel hQ hS r fuel _ _ hc.2 (by rw [put_size]; exact hn) hr hk)

theorem marked_size (n : Nat) : ∀ (r : List Nat) (x : Array Bool), (marked n r x).size = x.size
  | [], _ => rfl
  | i :: r, x => by rw [marked, marked_size n r]; simp
theorem marked_get (n : Nat) : ∀ (r : List Nat) (x : Array Bool) (i : Nat), i < x.size → ((marked n r x).getD i false = true ↔ i ∈ r ∨ x.getD i false = true)
  | [], x, i, _ => by simp [marked]
  | k :: r, x, i, hi => by
    rw [marked, marked_get n r _ i (by simpa using hi)]
    by_cases h : i = k
    · subst h
      simp [Array.getD, hi]
    · rw [getD_set_ne false (Ne.symm h)]
      simp [h]

def coverOk (l : List Oper) (r ks : List Nat) : Bool :=
  checkP l r (Array.replicate l.length false) && ((List.range l.length).all fun i => r.contains i != ks.contains i) && (r.all fun i => decide (i < l.length) && match l[i]? with
    | some o => (depsOf o).all fun j => r.contains j
    | none => true) && decide (r.length + ks.length ≤ l.length)

/-- The beginning. -/
theorem wp_region_R2 {id : Nat} {a : Act} {w : World} (R : World → World → Prop) (htr : ∀ u v w, R u v → R v w → R u w) (hrf : ∀ w, R w w) (r : List Nat) (φs : List (OpM R)) (hm : P.follows .mixedOrders = true)
    (hok : (relyOk l (jobs φs) a.tmps.size && coverOk l r (keys φs) && inOrder (jobs φs) []) = true)
    (hQ : ∀ c a d v w, Q (.panic c) (Act.put a d v) w → Q (.panic c) a w)
    (h : ∀ w2, w2 = w.drew → wpP P l (R w2) (Rest P l Q φs w2) r a) : (Code.region id l.toArray true).wp P Q a w := by
  simp only [coverOk, Bool.and_eq_true] at hok
  obtain ⟨⟨hrel, ⟨⟨hcp, hcov⟩, hrd⟩, hlen⟩, hord⟩ := hok
  have hsel : Region.noSelect l.toArray = true := by simp only [relyOk, relyOk0, Bool.and_eq_true] at hrel; exact hrel.1.1.1.1.1
  refine wp_region_held (S := R w.drew) hm ?_
  have hlen : r.length + (keys φs).length ≤ l.length := of_decide_eq_true hlen
  have hsz : l.toArray.size = (l.length - r.length) + r.length := by simp; omega
  rw [hsz, show (Array.replicate (l.length - r.length + r.length) false : Array Bool) = Array.replicate l.length false from by rw [Nat.sub_add_cancel (by omega)]]
  refine wpP_sound (n := a.tmps.size) hsel hQ (hrf _) r _ _ a hcp rfl (h w.drew rfl) fun b hbn hb => ?_
  have hmk : ∀ i, i < l.length → ((marked l.length r (Array.replicate l.length false)).getD i false = true ↔ i ∈ r) := fun i hi => by
    rw [marked_get _ _ _ _ (by simpa using hi)]
    simp [Array.getD, hi]
  have hmk2 : ∀ i, (marked l.length r (Array.replicate l.length false)).getD i false = true → i < l.length := fun i hi => by
    rcases Nat.lt_or_ge i l.length with h | h
    · exact h
    · have : ¬ i < (marked l.length r (Array.replicate l.length false)).size := by rw [marked_size]; simp; omega
      simp [Array.getD, this] at hi
  have hxor : ∀ i, i < l.length → ¬ (i ∈ r ∧ i ∈ keys φs) ∧ (i ∈ r ∨ i ∈ keys φs) := fun i hi => by
    have := List.all_eq_true.1 hcov i (by simpa using hi)
    by_cases h1 : i ∈ r <;> by_cases h2 : i ∈ keys φs <;> simp [h1, h2] at this ⊢
  refine rely_any (w0 := w.drew) (a0 := b) (by rw [hbn]; exact hrel) hord htr hrf hb.steps hb.fin _ _ _ _ (by rw [marked_size]; simp) ?_ ⟨hrf _, rfl, rfl, fun i hi hn => ?_, fun j o ho hj k hk => ?_, fun i hi hj => ?_, fun t _ => rfl⟩
  · have hnd : ∀ (m : Nat) (rr : List Nat), True := fun _ _ => trivial
    refine Nat.le_trans (Nat.le_trans (countP_le_keys (fun i hi hf => ?_)) (Nat.le_refl (keys φs).length)) (by omega)
    rcases (hxor i hi).2 with h | h
    · have := (hmk i hi).2 h
      have hi' : i < (marked l.length r (Array.replicate l.length false)).size := by rw [marked_size]; simpa using hi
      simp [Array.getD, hi'] at this hf
      rw [this] at hf
      cases hf
    · exact h
  · rw [hmk i hi]
    exact (hxor i hi).2.resolve_right hn
  · have hjl := hmk2 j hj
    rw [hmk j hjl] at hj
    have := List.all_eq_true.1 hrd j hj
    rw [ho] at this
    simp only [Bool.and_eq_true] at this
    have hkr : k ∈ r := by simpa using List.all_eq_true.1 this.2 k hk
    have hkl : k < l.length := by
      have := List.all_eq_true.1 hrd k hkr
      simp only [Bool.and_eq_true, decide_eq_true_eq] at this
      exact this.1
    exact (hmk k hkl).2 hkr
  · exfalso
    have hil := hmk2 i hj
    rw [hmk i hil] at hj
    exact (hxor i hil).1 ⟨hj, hi⟩
theorem wpP_pure {S : World → Prop} {G : Act → Prop} {i : Nat} {r : List Nat} {a : Act} {o : Oper} {v : Value} (ho : l[i]? = some o) (hw : Region.wanted o (yielded l.toArray a.tmps) = true)
    (hy : ∀ W, S W → (execOp a.eval o).run P W = .ok (.value v) W) (h : wpP P l S G r (a.put o.dst v)) : wpP P l S G (i :: r) a := ⟨o, v, ho, .inl ⟨hw, hy⟩, h⟩
theorem wpP_skip {S : World → Prop} {G : Act → Prop} {i : Nat} {r : List Nat} {a : Act} {o : Oper} (ho : l[i]? = some o) (hw : Region.wanted o (yielded l.toArray a.tmps) = false)
    (h : wpP P l S G r (a.put o.dst undef)) : wpP P l S G (i :: r) a := ⟨o, undef, ho, .inr ⟨hw, rfl⟩, h⟩

end

/-! Where blocks are only laid. -/
def ME.is (c : Value) : MP Ext := ⟨fun _ v => v = c, fun _ _ _ _ h => h⟩
def ME.ints (k : IntKind) (zs : List Int) : MP Ext := ⟨fun w v => Ints k w v zs, fun _ _ _ e h => h.ext e⟩
def ME.row (n sz : Nat) (xs : List Value) : MP Ext := ⟨fun w v => Row w v n sz xs, fun _ _ _ e h => h.ext e⟩
def ME.any : MP Ext := ⟨fun _ _ => True, fun _ _ _ _ _ => trivial⟩

theorem wp_region_X {P : Program} {l : List Oper} {Q : Exit → Act → World → Prop} {id : Nat} {a : Act} {w : World} (r : List Nat) (φs : List (OpM Ext)) (hm : P.follows .mixedOrders = true)
    (hok : (relyOk l (jobs φs) a.tmps.size && coverOk l r (keys φs) && inOrder (jobs φs) []) = true) (hQ : ∀ c a d v w, Q (.panic c) (Act.put a d v) w → Q (.panic c) a w)
    (h : ∀ w2, Ext w w2 → wpP P l (Ext w2) (Rest P l Q φs w2) r a) : (Code.region id l.toArray true).wp P Q a w :=
  wp_region_R2 Ext (fun _ _ _ h k => h.trans k) Ext.refl r φs hm hok hQ fun w2 e => h w2 (e ▸ Ext.drew w)

/-! Where one block of the call's own is stored into, once. -/
def MP.is {R : World → World → Prop} (c : Value) : MP R := ⟨fun _ v => v = c, fun _ _ _ _ h => h⟩
def MT.is {R : World → World → Prop} (c : Value) : MT R := ⟨MP.is c, TP.top⟩
/-- A block, known whole. -/
def Blk (w : World) (b : Nat) (cs : Array Value) (T : TypeId) : Prop := w.heap[b]? = some (.cells cs T (0, 0))
theorem Blk.lt {w : World} {b : Nat} {cs : Array Value} {T : TypeId} (h : Blk w b cs T) : b < w.heap.size := (Array.getElem?_eq_some_iff.1 h).1
theorem Blk.ext {w W : World} {b : Nat} {cs : Array Value} {T : TypeId} (h : Blk w b cs T) (e : Ext w W) : Blk W b cs T := (e.block b h.lt).trans h
theorem Blk.new (w : World) (cs : Array Value) (T : TypeId) : Blk (w.alloc (.cells cs T)) w.heap.size cs T := heap_alloc_new w _
theorem Blk.cell {w : World} {b : Nat} {cs : Array Value} {T : TypeId} (h : Blk w b cs T) (i : Nat) : w.cell? ⟨b, i, none⟩ = cs[i]? := cell_of_row _ _ i _ _ _ h
theorem Blk.frozen {w : World} {b : Nat} {cs : Array Value} {T : TypeId} (h : Blk w b cs T) (o : Nat) : w.frozen? ⟨b, o, none⟩ = false := by
  unfold Blk at h
  simp [World.frozen?, h]
theorem Blk.grown {w W : World} {b : Nat} {cs : Array Value} {T : TypeId} {row : Option Nat} (h : Blk w b cs T) (hg : w.grownBy W row) (hne : some b ≠ row) : Blk W b cs T := (hg.block b h.lt hne).trans h
theorem Blk.set {w : World} {b : Nat} {cs : Array Value} {T : TypeId} (h : Blk w b cs T) (i : Nat) (v : Value) : Blk (w.setCell ⟨b, i, none⟩ v) b (cs.setIfInBounds i v) T := by
  unfold Blk at h ⊢
  simp [World.setCell, Array.getElem?_modify, h]
theorem Blk.setRow {w : World} {b : Nat} {cs cs' : Array Value} {T : TypeId} (h : Blk w b cs T) : Blk (w.setRow b cs') b cs' T := setRow_heap w b cs cs' T _ h
theorem setRow_grown (w : World) (g : Nat) (cs : Array Value) : w.grownBy (w.setRow g cs) (some g) := ⟨rfl, rfl, rfl, by simp, fun k _ hk => setRow_other w g k cs (fun e => hk (by rw [e]))⟩
theorem setCell_grown (w : World) (g i : Nat) (v : Value) : w.grownBy (w.setCell ⟨g, i, none⟩ v) (some g) :=
  ⟨rfl, rfl, rfl, by simp [World.setCell], fun k _ hk => by
    have : g ≠ k := fun e => hk (by rw [e])
    simp [World.setCell, Array.getElem?_modify, this]⟩

structure RB (B : Nat) (T : TypeId) (old new : Array Value) (w W : World) : Prop where
  gr : w.grownBy W (some B)
  has : Blk w B old T ∨ Blk w B new T → Blk W B old T ∨ Blk W B new T
  is : Blk w B new T → Blk W B new T

theorem RB.refl {B : Nat} {T : TypeId} {old new : Array Value} (w : World) : RB B T old new w w := ⟨World.grownBy.refl _ _, id, id⟩
theorem RB.trans {B : Nat} {T : TypeId} {old new : Array Value} {u v w : World} (h : RB B T old new u v) (k : RB B T old new v w) : RB B T old new u w := ⟨World.grownBy.trans h.gr k.gr, fun x => k.has (h.has x), fun x => k.is (h.is x)⟩
theorem RB.ext {B : Nat} {T : TypeId} {old new : Array Value} {w W : World} (h : Ext w W) : RB B T old new w W :=
  ⟨⟨h.os, h.tape, h.output, h.size, fun k hk _ => h.block k hk⟩, fun x => x.imp (Blk.ext · h) (Blk.ext · h), fun x => x.ext h⟩
theorem RB.store {B : Nat} {T : TypeId} {old new : Array Value} {w : World} (h : Blk w B old T ∨ Blk w B new T) : RB B T old new w (w.setRow B new) :=
  ⟨setRow_grown _ _ _, fun _ => .inr (h.elim Blk.setRow Blk.setRow), fun x => x.setRow⟩
theorem RB.cell {B : Nat} {T : TypeId} {old new : Array Value} {w W : World} (h : RB B T old new w W) {b i : Nat} {u : Value} (hc : w.cell? ⟨b, i, none⟩ = some u) (hne : b ≠ B) : W.cell? ⟨b, i, none⟩ = some u :=
  (World.cell?_of_block (h.gr.block b (World.block_lt_of_cell? w _ hc) (fun e => hne (by injection e)))).trans hc
/-- The store has been done. -/
def MP.done {B : Nat} {T : TypeId} {old new : Array Value} : MP (RB B T old new) := ⟨fun w _ => Blk w B new T, fun _ _ _ h x => h.is x⟩

def MT.done {B : Nat} {T : TypeId} {old new : Array Value} : MT (RB B T old new) := ⟨MP.done, TP.top⟩

theorem wp_region_B {P : Program} {l : List Oper} {Q : Exit → Act → World → Prop} {id : Nat} {a : Act} {w : World} (B : Nat) (T : TypeId) (old new : Array Value) (r : List Nat) (φs : List (OpM (RB B T old new))) (hm : P.follows .mixedOrders = true)
    (hok : (relyOk l (jobs φs) a.tmps.size && coverOk l r (keys φs) && inOrder (jobs φs) []) = true) (hQ : ∀ c a d v w, Q (.panic c) (Act.put a d v) w → Q (.panic c) a w)
    (hold : Blk w B old T) (h : ∀ w2, Ext w w2 → (∀ W, RB B T old new w2 W → Blk W B old T ∨ Blk W B new T) → wpP P l (RB B T old new w2) (Rest P l Q φs w2) r a) : (Code.region id l.toArray true).wp P Q a w :=
  wp_region_R2 (RB B T old new) (fun _ _ _ h k => h.trans k) RB.refl r φs hm hok hQ fun w2 e => h w2 (e ▸ Ext.drew w) (fun _ k => k.has (.inl (e ▸ hold)))

theorem wp_store_B {P : Program} {o : Oper} {a : Act} {w : World} {B : Nat} {T : TypeId} {old new : Array Value} {p : World → Value → Prop} (ty : TypeId) (x y : Operand) (ho : o.op = .store ty x y)
    (hx : a.eval x = .pointer (some ⟨B, 0, none⟩)) (hy : a.eval y = .agg new) (h : Blk w B old T ∨ Blk w B new T) (hi : (P.info? ty).map (·.size) = some new.size) (hs : old.size = new.size) (h1 : new.all (·.oneCell') = true)
    (hp : p (w.setRow B new) undef) : o.wp P a w (Left (RB B T old new) a o.dst p w) NoExit := by
  have key : ∀ c, Blk w B c T → c.size = new.size → o.wp P a w (Left (RB B T old new) a o.dst p w) NoExit := fun c hc hcs =>
    wp_store_row ty x y ho B new hx hy T c hc hi hcs h1 ⟨undef, rfl, RB.store h, hp⟩
  rcases h with h | h
  · exact key old h hs
  · exact key new h rfl

/-! Where a block is laid and then stored into. -/
structure RN (N : Nat) (T : TypeId) (old new : Array Value) (w W : World) : Prop where
  bel : Below N w W
  has : ∀ B, Blk w B old T ∨ Blk w B new T → Blk W B old T ∨ Blk W B new T
  is : ∀ B, Blk w B new T → Blk W B new T
theorem RN.refl {N : Nat} {T : TypeId} {old new : Array Value} (w : World) : RN N T old new w w := ⟨Below.refl _ _, fun _ h => h, fun _ h => h⟩
theorem RN.trans {N : Nat} {T : TypeId} {old new : Array Value} {u v w : World} (h : RN N T old new u v) (k : RN N T old new v w) : RN N T old new u w :=
  ⟨h.bel.trans k.bel, fun B x => k.has B (h.has B x), fun B x => k.is B (h.is B x)⟩
theorem RN.ext {N : Nat} {T : TypeId} {old new : Array Value} {w W : World} (h : Ext w W) (hN : N ≤ w.heap.size) : RN N T old new w W :=
  ⟨h.mono hN, fun _ x => x.imp (Blk.ext · h) (Blk.ext · h), fun _ x => x.ext h⟩
theorem RN.store {N : Nat} {T : TypeId} {old new : Array Value} {w : World} {B : Nat} (h : Blk w B old T ∨ Blk w B new T) (hN : N ≤ B) : RN N T old new w (w.setRow B new) := by
  have hg := setRow_grown w B new
  have hB : B < w.heap.size := h.elim Blk.lt Blk.lt
  refine ⟨Below.grown (Below.refl _ _) hg (by omega) (fun k hk => by cases hk; exact hN), fun C x => ?_, fun C x => ?_⟩
  · by_cases hc : C = B
    · subst hc; exact .inr (h.elim Blk.setRow Blk.setRow)
    · exact x.imp (fun z => z.grown hg (by simpa using hc)) (fun z => z.grown hg (by simpa using hc))
  · by_cases hc : C = B
    · subst hc; exact x.setRow
    · exact x.grown hg (by simpa using hc)
theorem RN.blk {N : Nat} {T : TypeId} {old new : Array Value} {w W : World} (h : RN N T old new w W) {b : Nat} {cs : Array Value} {T' : TypeId} (hb : Blk w b cs T') (hN : b < N) : Blk W b cs T' := (h.bel.block b hN).trans hb

/-- A block of one's own, that holds what it held at first or what is stored. -/
def MP.mine {N : Nat} {T : TypeId} {old new : Array Value} : MP (RN N T old new) := ⟨fun w v => ∃ B, N ≤ B ∧ v = .pointer (some ⟨B, 0, none⟩) ∧ (Blk w B old T ∨ Blk w B new T), fun _ _ _ h ⟨B, h1, h2, h3⟩ => ⟨B, h1, h2, h.has B h3⟩⟩
def MP.top {R : World → World → Prop} : MP R := ⟨fun _ _ => True, fun _ _ _ _ _ => trivial⟩
/-- It has been stored into that block. -/
def TP.mine {N : Nat} {T : TypeId} {old new : Array Value} : TP (RN N T old new) := ⟨fun w _ us => ∃ B, us.head? = some (.pointer (some ⟨B, 0, none⟩)) ∧ Blk w B new T, fun _ _ _ _ h ⟨B, h1, h2⟩ => ⟨B, h1, h.is B h2⟩⟩

def MT.mine {N : Nat} {T : TypeId} {old new : Array Value} : MT (RN N T old new) := ⟨MP.mine, TP.top⟩
def MT.tied {N : Nat} {T : TypeId} {old new : Array Value} : MT (RN N T old new) := ⟨MP.top, TP.mine⟩

theorem wp_region_N {P : Program} {l : List Oper} {Q : Exit → Act → World → Prop} {id : Nat} {a : Act} {w : World} (T : TypeId) (old new : Array Value) (r : List Nat) (φs : List (OpM (RN w.heap.size T old new))) (hm : P.follows .mixedOrders = true)
    (hok : (relyOk l (jobs φs) a.tmps.size && coverOk l r (keys φs) && inOrder (jobs φs) []) = true) (hQ : ∀ c a d v w, Q (.panic c) (Act.put a d v) w → Q (.panic c) a w)
    (h : ∀ w2, Ext w w2 → w2.heap.size = w.heap.size → wpP P l (RN w.heap.size T old new w2) (Rest P l Q φs w2) r a) : (Code.region id l.toArray true).wp P Q a w :=
  wp_region_R2 (RN w.heap.size T old new) (fun _ _ _ h k => h.trans k) RN.refl r φs hm hok hQ fun w2 e => h w2 (e ▸ Ext.drew w) (e ▸ rfl)

theorem wp_store_N {P : Program} {o : Oper} {a : Act} {w : World} {N B : Nat} {T : TypeId} {old new : Array Value} {p : World → Value → Prop} (ty : TypeId) (x y : Operand) (ho : o.op = .store ty x y)
    (hx : a.eval x = .pointer (some ⟨B, 0, none⟩)) (hy : a.eval y = .agg new) (h : Blk w B old T ∨ Blk w B new T) (hN : N ≤ B) (hi : (P.info? ty).map (·.size) = some new.size) (hs : old.size = new.size) (h1 : new.all (·.oneCell') = true)
    (hp : Blk (w.setRow B new) B new T → p (w.setRow B new) undef) : o.wp P a w (Left (RN N T old new) a o.dst p w) NoExit := by
  have key : ∀ c, Blk w B c T → c.size = new.size → o.wp P a w (Left (RN N T old new) a o.dst p w) NoExit := fun c hc hcs =>
    wp_store_row ty x y ho B new hx hy T c hc hi hcs h1 ⟨undef, rfl, RN.store h hN, hp (h.elim Blk.setRow Blk.setRow)⟩
  rcases h with h | h
  · exact key old h hs
  · exact key new h rfl

end Go.Proofs.Ytmddlhfahfelpaa
