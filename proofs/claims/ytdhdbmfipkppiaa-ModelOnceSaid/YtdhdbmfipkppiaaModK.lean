/- The walk of the reference's SameNode. -/
import Derived.Test.YtdhdbmfipkppiaaModKa
import Derived.Test.YtdhdbmfipkppiaaModKb
import Derived.Test.YtdhdbmfipkppiaaModKc
import Derived.Test.YtdhdbmfipkppiaaModKd
namespace Go.Proofs.Ytdhdbmfipkppiaa
set_option linter.unusedSimpArgs false
set_option linter.unusedVariables false
set_option linter.unnecessarySimpa false
open Go.RowKit

theorem sameNode_calls (n m : Nd) (w : World) (hn : nodeAt w n) (hm : nodeAt w m) :
    Calls Try.prog 58 #[.agg #[.int .i64 n.op, n.inV, .int .i64 n.k, .int .i64 n.st, .int .i64 n.pad, .int .i64 n.out, .int .i64 n.mul, .int .i64 n.sh, .int .i64 n.zero, .int .i64 n.th, .int .i64 n.tw, .int .i64 n.tc, n.wV, n.bV], .agg #[.int .i64 m.op, m.inV, .int .i64 m.k, .int .i64 m.st, .int .i64 m.pad, .int .i64 m.out, .int .i64 m.mul, .int .i64 m.sh, .int .i64 m.zero, .int .i64 m.th, .int .i64 m.tw, .int .i64 m.tc, m.wV, m.bV]] w fun e w' => e = .returned (.bool (decide (n.c = m.c))) ∧ Ext w w' := by
  have key : ∀ (b : Bool), (n.c ≠ m.c) → Calls Try.prog 58 #[.agg #[.int .i64 n.op, n.inV, .int .i64 n.k, .int .i64 n.st, .int .i64 n.pad, .int .i64 n.out, .int .i64 n.mul, .int .i64 n.sh, .int .i64 n.zero, .int .i64 n.th, .int .i64 n.tw, .int .i64 n.tc, n.wV, n.bV], .agg #[.int .i64 m.op, m.inV, .int .i64 m.k, .int .i64 m.st, .int .i64 m.pad, .int .i64 m.out, .int .i64 m.mul, .int .i64 m.sh, .int .i64 m.zero, .int .i64 m.th, .int .i64 m.tw, .int .i64 m.tc, m.wV, m.bV]] w (fun e w' => e = .returned (.bool false) ∧ Ext w w') → Calls Try.prog 58 #[.agg #[.int .i64 n.op, n.inV, .int .i64 n.k, .int .i64 n.st, .int .i64 n.pad, .int .i64 n.out, .int .i64 n.mul, .int .i64 n.sh, .int .i64 n.zero, .int .i64 n.th, .int .i64 n.tw, .int .i64 n.tc, n.wV, n.bV], .agg #[.int .i64 m.op, m.inV, .int .i64 m.k, .int .i64 m.st, .int .i64 m.pad, .int .i64 m.out, .int .i64 m.mul, .int .i64 m.sh, .int .i64 m.zero, .int .i64 m.th, .int .i64 m.tw, .int .i64 m.tc, m.wV, m.bV]] w fun e w' => e = .returned (.bool (decide (n.c = m.c))) ∧ Ext w w' := fun _ h hc => hc.mono fun e w' ⟨h1, h2⟩ => ⟨by rw [h1, decide_eq_false h], h2⟩
  by_cases hi : n.ins = m.ins
  case neg => exact key true (fun e => hi (congrArg Nc.ins e)) (sn_ins n m w hn hm hi)
  by_cases hop : n.op = m.op
  case neg => exact key true (fun e => hop (congrArg Nc.op e)) (sn_op n m w hn hm hi hop)
  by_cases hk : n.k = m.k
  case neg => exact key true (fun e => hk (congrArg Nc.k e)) (sn_k n m w hn hm hi hop hk)
  by_cases hst : n.st = m.st
  case neg => exact key true (fun e => hst (congrArg Nc.st e)) (sn_st n m w hn hm hi hop hk hst)
  by_cases hpad : n.pad = m.pad
  case neg => exact key true (fun e => hpad (congrArg Nc.pad e)) (sn_pad n m w hn hm hi hop hk hst hpad)
  by_cases hout : n.out = m.out
  case neg => exact key true (fun e => hout (congrArg Nc.out e)) (sn_out n m w hn hm hi hop hk hst hpad hout)
  by_cases hmul : n.mul = m.mul
  case neg => exact key true (fun e => hmul (congrArg Nc.mul e)) (sn_mul n m w hn hm hi hop hk hst hpad hout hmul)
  by_cases hsh : n.sh = m.sh
  case neg => exact key true (fun e => hsh (congrArg Nc.sh e)) (sn_sh n m w hn hm hi hop hk hst hpad hout hmul hsh)
  by_cases hzero : n.zero = m.zero
  case neg => exact key true (fun e => hzero (congrArg Nc.zero e)) (sn_zero n m w hn hm hi hop hk hst hpad hout hmul hsh hzero)
  by_cases hto : (⟨n.th, n.tw, n.tc⟩ : Sz) = ⟨m.th, m.tw, m.tc⟩
  case neg => exact key true (fun e => hto (by
    have e1 := congrArg Nc.th e
    have e2 := congrArg Nc.tw e
    have e3 := congrArg Nc.tc e
    simp only [Nd.c] at e1 e2 e3
    rw [e1, e2, e3])) (sn_to n m w hn hm hi hop hk hst hpad hout hmul hsh hzero hto)
  by_cases hw : n.ws.length = m.ws.length
  case neg => exact key true (fun e => hw (congrArg (fun c : Nc => c.ws.length) e)) (sn_wl n m w hn hm hi hop hk hst hpad hout hmul hsh hzero hto hw)
  by_cases hb : n.bs.length = m.bs.length
  case neg => exact key true (fun e => hb (congrArg (fun c : Nc => c.bs.length) e)) (sn_bl n m w hn hm hi hop hk hst hpad hout hmul hsh hzero hto hw hb)
  refine (sn_eq n m w hn hm hi hop hk hst hpad hout hmul hsh hzero hto hw hb).mono fun e w' ⟨h1, h2⟩ => ⟨?_, h2⟩
  rw [h1]
  refine ret_bool ?_
  rw [Bool.eq_iff_iff, decide_eq_true_iff, decide_eq_true_iff]
  constructor
  · rintro ⟨k1, k2⟩
    simp only [Sz.mk.injEq] at hto
    exact nc_ext hop hk hst hpad hout hmul hsh hzero hto.1 hto.2.1 hto.2.2 hi k1 k2
  · intro e
    exact ⟨congrArg Nc.ws e, congrArg Nc.bs e⟩

end Go.Proofs.Ytdhdbmfipkppiaa
