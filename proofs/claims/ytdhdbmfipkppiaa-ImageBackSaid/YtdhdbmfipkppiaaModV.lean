/- A graph that may be has numbers of bytes. -/
import Derived.Test.YtdhdbmfipkppiaaModP
namespace Go.Proofs.Ytdhdbmfipkppiaa
set_option linter.unusedSimpArgs false
set_option linter.unusedVariables false
set_option linter.unnecessarySimpa false
open Go.RowKit

theorem kindOf_op {op : Int} {k : Kn} (h : kindOf op = some k) : 1 ≤ op ∧ op ≤ 12 := by
  by_cases ho : 1 ≤ op ∧ op ≤ 12
  · exact ho
  · exfalso
    unfold kindOf at h
    rw [if_neg (by omega), if_neg (by omega), if_neg (by omega), if_neg (by omega), if_neg (by omega), if_neg (by omega), if_neg (by omega), if_neg (by omega), if_neg (by omega), if_neg (by omega), if_neg (by omega), if_neg (by omega)] at h
    cases h

theorem inB_iff {a b z : Int} : inB a b z = true ↔ a ≤ z ∧ z ≤ b := by simp [inB]

theorem node_ok {n : Nd} {l : List Vl} (h : (valueR n l).2 = 0) (hil : n.ins.length ≤ 255) (hwl : n.ws.length ≤ 65535) (hbl : n.bs.length ≤ 255) (hin : ∀ z ∈ n.ins, 0 ≤ z ∧ z ≤ 255) (hw : ∀ z ∈ n.ws, InK .i8 z) (hb : ∀ z ∈ n.bs, InK .i32 z) : NcOk n.c := by
  unfold valueR at h
  cases hk : kindOf n.op with
  | none => rw [hk] at h; simp at h
  | some k =>
    rw [hk] at h
    simp only at h
    by_cases h1 : nodeOk k n l.length = false
    · rw [if_pos h1] at h; simp at h
    rw [if_neg h1] at h
    by_cases h2 : (k.keeps && l.any fun x => !decide (x.z = n.zero)) = true
    · rw [if_pos h2] at h; simp at h
    rw [if_neg h2] at h
    by_cases h3 : (l.any fun x => !x.s.ok) = true
    · rw [if_pos h3] at h; simp at h
    rw [if_neg h3] at h
    by_cases h4 : (madeZ n (l[0]?.getD default).s (l[l.length - 1]?.getD default).s).ok = false
    · rw [if_pos h4] at h; simp at h
    have hop := kindOf_op hk
    have h1' : nodeOk k n l.length = true := by simpa using h1
    clear h h1 h2 h3
    simp only [nodeOk, Bool.and_eq_true] at h1'
    obtain ⟨⟨⟨⟨o1, o2⟩, o3⟩, o4⟩, o5⟩ := h1'
    simp only [ok1, Bool.and_eq_true, inB_iff] at o1
    obtain ⟨⟨⟨_, hmul⟩, hsh⟩, hzero⟩ := o1
    have hkk : 0 ≤ n.k ∧ n.k ≤ 3 ∧ 0 ≤ n.st ∧ n.st ≤ 2 := by
      unfold ok3 at o3
      split at o3
      · simp only [Bool.and_eq_true, inB_iff] at o3; omega
      · simp only [Bool.and_eq_true, decide_eq_true_eq] at o3; omega
    have hpad : 0 ≤ n.pad ∧ n.pad ≤ 255 := by
      unfold ok4 at o4
      split at o4
      · simp only [inB_iff] at o4; omega
      · split at o4
        · simp only [decide_eq_true_eq] at o4; omega
        · simp only [decide_eq_true_eq] at o4; omega
    have hout : 0 ≤ n.out ∧ n.out ≤ 255 := by
      unfold ok5 at o5
      split at o5
      · simp only [inB_iff] at o5; omega
      · simp only [decide_eq_true_eq] at o5; omega
    have hto : (0 ≤ n.th ∧ n.th ≤ 255) ∧ (0 ≤ n.tw ∧ n.tw ≤ 255) ∧ 0 ≤ n.tc ∧ n.tc ≤ 255 := by
      simp only [ok2, Bool.or_eq_true, decide_eq_true_eq] at o2
      rcases o2 with o2 | o2
      · have h4' : (madeZ n (l[0]?.getD default).s (l[l.length - 1]?.getD default).s).ok = true := by simpa using h4
        unfold madeZ at h4'
        rw [if_neg (by omega), if_neg (by omega), if_neg (by omega), if_neg (by omega), if_neg (by omega), if_neg (by omega), if_neg (by omega), if_neg (by omega), if_neg (by omega), if_neg (by omega), if_pos o2] at h4'
        unfold anewZ at h4'
        split at h4'
        · have := sz_range h4'
          simp [Nd.to] at this <;> omega
        · have := sz_range h4'
          simp [Nd.to] at this <;> omega
      · have e1 := congrArg Sz.h o2
        have e2 := congrArg Sz.w o2
        have e3 := congrArg Sz.c o2
        simp only [Nd.to] at e1 e2 e3
        omega
    exact ⟨by show 0 ≤ n.op ∧ n.op ≤ 255; omega, by show 0 ≤ n.k ∧ n.k ≤ 255; omega, by show 0 ≤ n.st ∧ n.st ≤ 255; omega, hpad, hout, by show 0 ≤ n.mul ∧ n.mul ≤ 65535; omega, by show 0 ≤ n.sh ∧ n.sh ≤ 255; omega, hzero,
      hto.1, hto.2.1, hto.2.2, hil, hwl, hbl, hin, hw, hb⟩

/-- What is known of a graph's nodes that may be. -/
theorem goNodes_ok : ∀ (ns : List Nd) (vals : List Vl) (t : Nat), (goNodes ns vals t).2 = 0 → (goNodes ns vals t).1.1.length = vals.length + ns.length ∧ t ≤ (goNodes ns vals t).1.2 ∧
    ∀ n ∈ ns, n.ws.length ≤ (goNodes ns vals t).1.2 ∧ (∃ l, (valueR n l).2 = 0) ∧ ∀ z ∈ n.ins, 0 ≤ z ∧ z < vals.length + ns.length
  | [], vals, t, _ => ⟨by simp [goNodes], by simp [goNodes], fun n hn => by cases hn⟩
  | n :: ns, vals, t, h => by
    unfold goNodes at h ⊢
    by_cases h1 : n.ins.all (okI vals) = false
    · rw [if_pos h1] at h; simp at h
    rw [if_neg h1] at h ⊢
    by_cases h2 : (valueR n (n.ins.map (getV vals))).2 ≠ 0
    · rw [if_pos h2] at h; exact absurd h h2
    rw [if_neg h2] at h ⊢
    obtain ⟨k1, k2, k3⟩ := goNodes_ok ns _ _ h
    refine ⟨by rw [k1]; simp; omega, by omega, fun m hm => ?_⟩
    rcases List.mem_cons.1 hm with rfl | hm
    · refine ⟨by omega, ⟨_, by simpa using h2⟩, fun z hz => ?_⟩
      have h1' : m.ins.all (okI vals) = true := by simpa using h1
      have := List.all_eq_true.1 h1' z hz
      simp only [okI, inB_iff] at this
      simp only [List.length_cons]
      omega
    · obtain ⟨j1, j2, j3⟩ := k3 m hm
      refine ⟨j1, j2, fun z hz => ?_⟩
      have := j3 z hz
      simp only [List.length_append, List.length_cons, List.length_nil] at this ⊢
      omega

theorem insR_ok : ∀ (l : List Vl), goesInR.insR l = 0 → ∀ v ∈ l, v.s.ok = true ∧ -128 ≤ v.z ∧ v.z ≤ 127
  | [], _, v, hv => by cases hv
  | a :: l, h, v, hv => by
    unfold goesInR.insR at h
    by_cases h1 : a.s.ok = false
    · rw [if_pos h1] at h; cases h
    rw [if_neg h1] at h
    by_cases h2 : inB (-128) 127 a.z = false
    · rw [if_pos h2] at h; cases h
    rw [if_neg h2] at h
    rcases List.mem_cons.1 hv with rfl | hv
    · exact ⟨by simpa using h1, inB_iff.1 (by simpa using h2)⟩
    · exact insR_ok l h v hv

/-- The node's own numbers are within their kinds. -/
structure NdIn (n : Nd) : Prop where
  il : n.ins.length ≤ 255
  bl : n.bs.length ≤ 255
  ws : ∀ z ∈ n.ws, InK .i8 z
  bs : ∀ z ∈ n.bs, InK .i32 z
theorem nodeAt.isIn {w : World} {n : Nd} (h : nodeAt w n) : NdIn n := ⟨h.2.2.2.2.2.1, h.2.2.2.2.2.2.2, h.2.2.2.2.1, h.2.2.2.1⟩

structure GoodG (g : Gr) : Prop where
  il : 1 ≤ g.ins.length ∧ g.ins.length ≤ 4
  nl : g.nodes.length ≤ 12
  ol : 1 ≤ g.outs.length ∧ g.outs.length ≤ 4
  ok : GcOk g.c

theorem valid_ok {g : Gr} (h : (valuesR g).2 = 0) (hn : ∀ n ∈ g.nodes, NdIn n) : GoodG g := by
  unfold valuesR at h
  by_cases h1 : goesInR g ≠ 0
  · rw [if_pos h1] at h; exact absurd h h1
  rw [if_neg h1] at h
  by_cases h2 : (goNodes g.nodes g.ins 0).2 ≠ 0
  · rw [if_pos h2] at h; exact absurd h h2
  rw [if_neg h2] at h
  by_cases h3 : 4096 < (goNodes g.nodes g.ins 0).1.2
  · rw [if_pos h3] at h; simp at h
  rw [if_neg h3] at h
  by_cases h4 : g.outs.all (okI (goNodes g.nodes g.ins 0).1.1) = false
  · rw [if_pos h4] at h; simp at h
  have h1' : goesInR g = 0 := by simpa using h1
  have h2' : (goNodes g.nodes g.ins 0).2 = 0 := by simpa using h2
  have h4' : g.outs.all (okI (goNodes g.nodes g.ins 0).1.1) = true := by simpa using h4
  clear h h1 h2 h4
  unfold goesInR at h1'
  split at h1'
  · cases h1'
  rename_i hb
  split at h1'
  · cases h1'
  rename_i he
  obtain ⟨k1, k2, k3⟩ := goNodes_ok _ _ _ h2'
  refine ⟨by omega, by omega, by omega, ?_, by show g.ins.length ≤ 255; omega, by show (g.nodes.map Nd.c).length ≤ 255; rw [List.length_map]; omega, by show g.outs.length ≤ 255; omega, ?_, ?_⟩
  · exact insR_ok _ h1'
  · intro c hc
    obtain ⟨n, hn', rfl⟩ := List.mem_map.1 hc
    obtain ⟨j1, ⟨l, j2⟩, j3⟩ := k3 n hn'
    obtain ⟨i1, i2, i3, i4⟩ := hn n hn'
    exact node_ok j2 i1 (by omega) i2 (fun z hz => by have := j3 z hz; omega) i3 i4
  · intro z hz
    have := List.all_eq_true.1 h4' z hz
    simp only [okI, inB_iff] at this
    omega

end Go.Proofs.Ytdhdbmfipkppiaa
