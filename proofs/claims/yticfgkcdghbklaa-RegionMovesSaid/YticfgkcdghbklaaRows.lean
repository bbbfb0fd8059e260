/-
  No cell of these rows narrows 'for every input' (looked for: loops, veiled, ifaces, maps, wideKeys, modest, calm, conditions, laid).
  DERIVED. THE GIVEN ROWS OF THIS SEAT. 12 by the template 'for every input the law returns true; each argument reads behind the call as it read before'; 0 by the template 'total and deterministic' (their statements: YticfgkcdghbklaaTotals.lean).
  GIVEN WITH THE SEED: the statements are not yours to turn. If you find one false, say at which input.
  Laid BY PROGRAM, IN A SANDBOX (cutbox-rows.mjs): the forced cells as the released guide's own fill.sh prints them over the translation b974a3b0d4fdfd77… (all of the seat's roots in one cut). By AI agents, Wed Nov 11 2026. No macro, syntax, notation, axiom, sorry.
-/
import Derived.Test.YticfgkcdghbklaaChecked
import GoSem.Claim
import GoSem.ClaimJoined
import GoSem.ClaimMapViews
import Derived.JoinedTies
import Derived.KernelRfl
namespace Go.Proofs.Yticfgkcdghbklaa
/- THE CELL 'sum', in the pinned program and in every row, IS THE sha256 OF THE DUMP (.gsa) THAT YticfgkcdghbklaaProg.lean LOADS. Nothing in Lean hashes anything: it is a label: what it is worth is what the hold of that sum in a sandbox is worth. -/
noncomputable def Try.pinned : Pinned := { name := "yticfgkcdghbklaa", sum := "b974a3b0d4fdfd77253539d6491acc49887240d9bc950331bdda7caaa217d8fe", checked := Try.checked }
namespace Rows
def none {H : Type} : Left H := { results := [], args := [] }

/-- 'quiltlaw07.SumLinear': WHATEVER THE INPUT: true; the input reads as it did. -/
def sumLinearSpec : ChangeSpec := { name := "sumLinear", fn := fun _ => fun
  | [d1, d2, d3] => { results := [.lit (.bool true)], args := [d1, d2, d3] }
  | _ => none }
def sumLinearRow : OpenClaim := { program := "yticfgkcdghbklaa", sum := "b974a3b0d4fdfd77253539d6491acc49887240d9bc950331bdda7caaa217d8fe", func := "quilt/quiltlaw07.SumLinear", spec := "sumLinear", apart := false }
def SumLinearSaid : Prop := sumLinearRow.holds Try.pinned (OpenSpec.ofChange sumLinearSpec)

/-- ITS FALSE NEIGHBOUR: 'it returns false'. Refute it at one input. -/
def sumLinearWrong : ChangeSpec := { name := "sumLinear", fn := fun _ => fun
  | [d1, d2, d3] => { results := [.lit (.bool false)], args := [d1, d2, d3] }
  | _ => none }
def SumLinearWrongFalsely : Prop := sumLinearRow.holds Try.pinned (OpenSpec.ofChange sumLinearWrong)

/-- 'quiltlaw12.RegionParts': WHATEVER THE INPUT: true; the input reads as it did. -/
def regionPartsSpec : ChangeSpec := { name := "regionParts", fn := fun _ => fun
  | [d1, d2, d3] => { results := [.lit (.bool true)], args := [d1, d2, d3] }
  | _ => none }
def regionPartsRow : OpenClaim := { program := "yticfgkcdghbklaa", sum := "b974a3b0d4fdfd77253539d6491acc49887240d9bc950331bdda7caaa217d8fe", func := "quilt/quiltlaw12.RegionParts", spec := "regionParts", unfollowed := true, recurses := true, apart := false }
def RegionPartsSaid : Prop := regionPartsRow.holds Try.pinned (OpenSpec.ofChange regionPartsSpec)

/-- ITS FALSE NEIGHBOUR: 'it returns false'. Refute it at one input. -/
def regionPartsWrong : ChangeSpec := { name := "regionParts", fn := fun _ => fun
  | [d1, d2, d3] => { results := [.lit (.bool false)], args := [d1, d2, d3] }
  | _ => none }
def RegionPartsWrongFalsely : Prop := regionPartsRow.holds Try.pinned (OpenSpec.ofChange regionPartsWrong)

/-- 'quiltlaw11.MemApart': WHATEVER THE INPUT: true; the input reads as it did. -/
def memApartSpec : ChangeSpec := { name := "memApart", fn := fun _ => fun
  | [d1, d2, d3] => { results := [.lit (.bool true)], args := [d1, d2, d3] }
  | _ => none }
def memApartRow : OpenClaim := { program := "yticfgkcdghbklaa", sum := "b974a3b0d4fdfd77253539d6491acc49887240d9bc950331bdda7caaa217d8fe", func := "quilt/quiltlaw11.MemApart", spec := "memApart", apart := false }
def MemApartSaid : Prop := memApartRow.holds Try.pinned (OpenSpec.ofChange memApartSpec)

/-- ITS FALSE NEIGHBOUR: 'it returns false'. Refute it at one input. -/
def memApartWrong : ChangeSpec := { name := "memApart", fn := fun _ => fun
  | [d1, d2, d3] => { results := [.lit (.bool false)], args := [d1, d2, d3] }
  | _ => none }
def MemApartWrongFalsely : Prop := memApartRow.holds Try.pinned (OpenSpec.ofChange memApartWrong)

/-- 'quiltlaw11.MemParts': WHATEVER THE INPUT: true; the input reads as it did. -/
def memPartsSpec : ChangeSpec := { name := "memParts", fn := fun _ => fun
  | [d1, d2] => { results := [.lit (.bool true)], args := [d1, d2] }
  | _ => none }
def memPartsRow : OpenClaim := { program := "yticfgkcdghbklaa", sum := "b974a3b0d4fdfd77253539d6491acc49887240d9bc950331bdda7caaa217d8fe", func := "quilt/quiltlaw11.MemParts", spec := "memParts", apart := false }
def MemPartsSaid : Prop := memPartsRow.holds Try.pinned (OpenSpec.ofChange memPartsSpec)

/-- ITS FALSE NEIGHBOUR: 'it returns false'. Refute it at one input. -/
def memPartsWrong : ChangeSpec := { name := "memParts", fn := fun _ => fun
  | [d1, d2] => { results := [.lit (.bool false)], args := [d1, d2] }
  | _ => none }
def MemPartsWrongFalsely : Prop := memPartsRow.holds Try.pinned (OpenSpec.ofChange memPartsWrong)

/-- 'quiltlaw11.MemKeeps': WHATEVER THE INPUT: true; the input reads as it did. -/
def memKeepsSpec : ChangeSpec := { name := "memKeeps", fn := fun _ => fun
  | [d1, d2] => { results := [.lit (.bool true)], args := [d1, d2] }
  | _ => none }
def memKeepsRow : OpenClaim := { program := "yticfgkcdghbklaa", sum := "b974a3b0d4fdfd77253539d6491acc49887240d9bc950331bdda7caaa217d8fe", func := "quilt/quiltlaw11.MemKeeps", spec := "memKeeps", apart := false }
def MemKeepsSaid : Prop := memKeepsRow.holds Try.pinned (OpenSpec.ofChange memKeepsSpec)

/-- ITS FALSE NEIGHBOUR: 'it returns false'. Refute it at one input. -/
def memKeepsWrong : ChangeSpec := { name := "memKeeps", fn := fun _ => fun
  | [d1, d2] => { results := [.lit (.bool false)], args := [d1, d2] }
  | _ => none }
def MemKeepsWrongFalsely : Prop := memKeepsRow.holds Try.pinned (OpenSpec.ofChange memKeepsWrong)

/-- 'quiltlaw11.MemEdges': WHATEVER THE INPUT: true; the input reads as it did. -/
def memEdgesSpec : ChangeSpec := { name := "memEdges", fn := fun _ => fun
  | [d1, d2, d3] => { results := [.lit (.bool true)], args := [d1, d2, d3] }
  | _ => none }
def memEdgesRow : OpenClaim := { program := "yticfgkcdghbklaa", sum := "b974a3b0d4fdfd77253539d6491acc49887240d9bc950331bdda7caaa217d8fe", func := "quilt/quiltlaw11.MemEdges", spec := "memEdges", apart := false }
def MemEdgesSaid : Prop := memEdgesRow.holds Try.pinned (OpenSpec.ofChange memEdgesSpec)

/-- ITS FALSE NEIGHBOUR: 'it returns false'. Refute it at one input. -/
def memEdgesWrong : ChangeSpec := { name := "memEdges", fn := fun _ => fun
  | [d1, d2, d3] => { results := [.lit (.bool false)], args := [d1, d2, d3] }
  | _ => none }
def MemEdgesWrongFalsely : Prop := memEdgesRow.holds Try.pinned (OpenSpec.ofChange memEdgesWrong)

/-- 'quiltlaw11.MemPlays': WHATEVER THE INPUT: true; the input reads as it did. -/
def memPlaysSpec : ChangeSpec := { name := "memPlays", fn := fun _ => fun
  | [d1, d2] => { results := [.lit (.bool true)], args := [d1, d2] }
  | _ => none }
def memPlaysRow : OpenClaim := { program := "yticfgkcdghbklaa", sum := "b974a3b0d4fdfd77253539d6491acc49887240d9bc950331bdda7caaa217d8fe", func := "quilt/quiltlaw11.MemPlays", spec := "memPlays", apart := false }
def MemPlaysSaid : Prop := memPlaysRow.holds Try.pinned (OpenSpec.ofChange memPlaysSpec)

/-- ITS FALSE NEIGHBOUR: 'it returns false'. Refute it at one input. -/
def memPlaysWrong : ChangeSpec := { name := "memPlays", fn := fun _ => fun
  | [d1, d2] => { results := [.lit (.bool false)], args := [d1, d2] }
  | _ => none }
def MemPlaysWrongFalsely : Prop := memPlaysRow.holds Try.pinned (OpenSpec.ofChange memPlaysWrong)

/-- 'quiltlaw07.SumAll': WHATEVER THE INPUT: true; the input reads as it did. -/
def sumAllSpec : ChangeSpec := { name := "sumAll", fn := fun _ => fun
  | [d] => { results := [.lit (.bool true)], args := [d] }
  | _ => none }
def sumAllRow : OpenClaim := { program := "yticfgkcdghbklaa", sum := "b974a3b0d4fdfd77253539d6491acc49887240d9bc950331bdda7caaa217d8fe", func := "quilt/quiltlaw07.SumAll", spec := "sumAll", apart := false }
def SumAllSaid : Prop := sumAllRow.holds Try.pinned (OpenSpec.ofChange sumAllSpec)

/-- ITS FALSE NEIGHBOUR: 'it returns false'. Refute it at one input. -/
def sumAllWrong : ChangeSpec := { name := "sumAll", fn := fun _ => fun
  | [d] => { results := [.lit (.bool false)], args := [d] }
  | _ => none }
def SumAllWrongFalsely : Prop := sumAllRow.holds Try.pinned (OpenSpec.ofChange sumAllWrong)

/-- 'quiltlaw07.SumTurned': WHATEVER THE INPUT: true; the input reads as it did. -/
def sumTurnedSpec : ChangeSpec := { name := "sumTurned", fn := fun _ => fun
  | [d1, d2, d3] => { results := [.lit (.bool true)], args := [d1, d2, d3] }
  | _ => none }
def sumTurnedRow : OpenClaim := { program := "yticfgkcdghbklaa", sum := "b974a3b0d4fdfd77253539d6491acc49887240d9bc950331bdda7caaa217d8fe", func := "quilt/quiltlaw07.SumTurned", spec := "sumTurned", apart := false }
def SumTurnedSaid : Prop := sumTurnedRow.holds Try.pinned (OpenSpec.ofChange sumTurnedSpec)

/-- ITS FALSE NEIGHBOUR: 'it returns false'. Refute it at one input. -/
def sumTurnedWrong : ChangeSpec := { name := "sumTurned", fn := fun _ => fun
  | [d1, d2, d3] => { results := [.lit (.bool false)], args := [d1, d2, d3] }
  | _ => none }
def SumTurnedWrongFalsely : Prop := sumTurnedRow.holds Try.pinned (OpenSpec.ofChange sumTurnedWrong)

/-- 'quiltlaw07.SumParts': WHATEVER THE INPUT: true; the input reads as it did. -/
def sumPartsSpec : ChangeSpec := { name := "sumParts", fn := fun _ => fun
  | [d1, d2, d3] => { results := [.lit (.bool true)], args := [d1, d2, d3] }
  | _ => none }
def sumPartsRow : OpenClaim := { program := "yticfgkcdghbklaa", sum := "b974a3b0d4fdfd77253539d6491acc49887240d9bc950331bdda7caaa217d8fe", func := "quilt/quiltlaw07.SumParts", spec := "sumParts", apart := false }
def SumPartsSaid : Prop := sumPartsRow.holds Try.pinned (OpenSpec.ofChange sumPartsSpec)

/-- ITS FALSE NEIGHBOUR: 'it returns false'. Refute it at one input. -/
def sumPartsWrong : ChangeSpec := { name := "sumParts", fn := fun _ => fun
  | [d1, d2, d3] => { results := [.lit (.bool false)], args := [d1, d2, d3] }
  | _ => none }
def SumPartsWrongFalsely : Prop := sumPartsRow.holds Try.pinned (OpenSpec.ofChange sumPartsWrong)

/-- 'quiltlaw12.RegionClash': WHATEVER THE INPUT: true; the input reads as it did. -/
def regionClashSpec : ChangeSpec := { name := "regionClash", fn := fun _ => fun
  | [d1, d2] => { results := [.lit (.bool true)], args := [d1, d2] }
  | _ => none }
def regionClashRow : OpenClaim := { program := "yticfgkcdghbklaa", sum := "b974a3b0d4fdfd77253539d6491acc49887240d9bc950331bdda7caaa217d8fe", func := "quilt/quiltlaw12.RegionClash", spec := "regionClash", unfollowed := true, recurses := true, apart := false }
def RegionClashSaid : Prop := regionClashRow.holds Try.pinned (OpenSpec.ofChange regionClashSpec)

/-- ITS FALSE NEIGHBOUR: 'it returns false'. Refute it at one input. -/
def regionClashWrong : ChangeSpec := { name := "regionClash", fn := fun _ => fun
  | [d1, d2] => { results := [.lit (.bool false)], args := [d1, d2] }
  | _ => none }
def RegionClashWrongFalsely : Prop := regionClashRow.holds Try.pinned (OpenSpec.ofChange regionClashWrong)

/-- 'quiltlaw12.RegionMoves': WHATEVER THE INPUT: true; the input reads as it did. -/
def regionMovesSpec : ChangeSpec := { name := "regionMoves", fn := fun _ => fun
  | [d1, d2, d3] => { results := [.lit (.bool true)], args := [d1, d2, d3] }
  | _ => none }
def regionMovesRow : OpenClaim := { program := "yticfgkcdghbklaa", sum := "b974a3b0d4fdfd77253539d6491acc49887240d9bc950331bdda7caaa217d8fe", func := "quilt/quiltlaw12.RegionMoves", spec := "regionMoves", unfollowed := true, recurses := true, apart := false }
def RegionMovesSaid : Prop := regionMovesRow.holds Try.pinned (OpenSpec.ofChange regionMovesSpec)

/-- ITS FALSE NEIGHBOUR: 'it returns false'. Refute it at one input. -/
def regionMovesWrong : ChangeSpec := { name := "regionMoves", fn := fun _ => fun
  | [d1, d2, d3] => { results := [.lit (.bool false)], args := [d1, d2, d3] }
  | _ => none }
def RegionMovesWrongFalsely : Prop := regionMovesRow.holds Try.pinned (OpenSpec.ofChange regionMovesWrong)

/- THE SECOND FORM. 'bulk': how many values and letters a reading holds, each counted each time it is reached (what is shared counts as often as it is met; a slice's spare places count too). A statement '..UptoSaid' is the law's where the arguments, and the package variables that the reading takes, are together of bulk at most 1048576: NARROWER than '..Said'. Prove '..Said' where nothing that the law and all that it calls make is longer than what came in: it says more and counts as full. Else prove '..UptoSaid'. A law counts once. -/
mutual
def uptoBulk {H : Type} : DataW H → Nat
  | .lit (.string bytes) => bytes.length + 1
  | .lit _ => 1
  | .nil => 1
  | .ptr d => uptoBulk d + 1
  | .slice elems spare => uptoBulkAll elems + uptoBulkAll spare + 1
  | .agg parts => uptoBulkAll parts + 1
  | .iface _ d => uptoBulk d + 1
  | .map entries => uptoBulkEntries entries + 1
  | .held _ => 1
def uptoBulkAll {H : Type} : List (DataW H) → Nat
  | [] => 0
  | d :: r => uptoBulk d + uptoBulkAll r
def uptoBulkEntries {H : Type} : List (Lit × DataW H) → Nat
  | [] => 0
  | x :: r => uptoBulkEntry x + uptoBulkEntries r
def uptoBulkEntry {H : Type} : Lit × DataW H → Nat
  | (.string bytes, d) => bytes.length + uptoBulk d + 1
  | (_, d) => uptoBulk d + 1
 end
def uptoSmall : (H : Type) → List (DataW H) → Bool := fun _ ds => decide (uptoBulkAll ds ≤ 1048576)
def OpenSpec.upto (s : _root_.Go.ChangeSpec) : _root_.Go.OpenSpec := { _root_.Go.OpenSpec.ofChange s with cond := some uptoSmall }

/-- 'quiltlaw07.SumLinear', WHERE WHAT IT READS IS OF BULK AT MOST 1048576: true; the input reads as it did. -/
def sumLinearUptoRow : OpenClaim := { program := "yticfgkcdghbklaa", sum := "b974a3b0d4fdfd77253539d6491acc49887240d9bc950331bdda7caaa217d8fe", func := "quilt/quiltlaw07.SumLinear", spec := "sumLinear", apart := false, narrowed := true }
def SumLinearUptoSaid : Prop := sumLinearUptoRow.holds Try.pinned (OpenSpec.upto sumLinearSpec)

/-- 'quiltlaw12.RegionParts', WHERE WHAT IT READS IS OF BULK AT MOST 1048576: true; the input reads as it did. -/
def regionPartsUptoRow : OpenClaim := { program := "yticfgkcdghbklaa", sum := "b974a3b0d4fdfd77253539d6491acc49887240d9bc950331bdda7caaa217d8fe", func := "quilt/quiltlaw12.RegionParts", spec := "regionParts", unfollowed := true, recurses := true, apart := false, narrowed := true }
def RegionPartsUptoSaid : Prop := regionPartsUptoRow.holds Try.pinned (OpenSpec.upto regionPartsSpec)

/-- 'quiltlaw11.MemApart', WHERE WHAT IT READS IS OF BULK AT MOST 1048576: true; the input reads as it did. -/
def memApartUptoRow : OpenClaim := { program := "yticfgkcdghbklaa", sum := "b974a3b0d4fdfd77253539d6491acc49887240d9bc950331bdda7caaa217d8fe", func := "quilt/quiltlaw11.MemApart", spec := "memApart", apart := false, narrowed := true }
def MemApartUptoSaid : Prop := memApartUptoRow.holds Try.pinned (OpenSpec.upto memApartSpec)

/-- 'quiltlaw11.MemParts', WHERE WHAT IT READS IS OF BULK AT MOST 1048576: true; the input reads as it did. -/
def memPartsUptoRow : OpenClaim := { program := "yticfgkcdghbklaa", sum := "b974a3b0d4fdfd77253539d6491acc49887240d9bc950331bdda7caaa217d8fe", func := "quilt/quiltlaw11.MemParts", spec := "memParts", apart := false, narrowed := true }
def MemPartsUptoSaid : Prop := memPartsUptoRow.holds Try.pinned (OpenSpec.upto memPartsSpec)

/-- 'quiltlaw11.MemKeeps', WHERE WHAT IT READS IS OF BULK AT MOST 1048576: true; the input reads as it did. -/
def memKeepsUptoRow : OpenClaim := { program := "yticfgkcdghbklaa", sum := "b974a3b0d4fdfd77253539d6491acc49887240d9bc950331bdda7caaa217d8fe", func := "quilt/quiltlaw11.MemKeeps", spec := "memKeeps", apart := false, narrowed := true }
def MemKeepsUptoSaid : Prop := memKeepsUptoRow.holds Try.pinned (OpenSpec.upto memKeepsSpec)

/-- 'quiltlaw11.MemEdges', WHERE WHAT IT READS IS OF BULK AT MOST 1048576: true; the input reads as it did. -/
def memEdgesUptoRow : OpenClaim := { program := "yticfgkcdghbklaa", sum := "b974a3b0d4fdfd77253539d6491acc49887240d9bc950331bdda7caaa217d8fe", func := "quilt/quiltlaw11.MemEdges", spec := "memEdges", apart := false, narrowed := true }
def MemEdgesUptoSaid : Prop := memEdgesUptoRow.holds Try.pinned (OpenSpec.upto memEdgesSpec)

/-- 'quiltlaw11.MemPlays', WHERE WHAT IT READS IS OF BULK AT MOST 1048576: true; the input reads as it did. -/
def memPlaysUptoRow : OpenClaim := { program := "yticfgkcdghbklaa", sum := "b974a3b0d4fdfd77253539d6491acc49887240d9bc950331bdda7caaa217d8fe", func := "quilt/quiltlaw11.MemPlays", spec := "memPlays", apart := false, narrowed := true }
def MemPlaysUptoSaid : Prop := memPlaysUptoRow.holds Try.pinned (OpenSpec.upto memPlaysSpec)

/-- 'quiltlaw07.SumAll', WHERE WHAT IT READS IS OF BULK AT MOST 1048576: true; the input reads as it did. -/
def sumAllUptoRow : OpenClaim := { program := "yticfgkcdghbklaa", sum := "b974a3b0d4fdfd77253539d6491acc49887240d9bc950331bdda7caaa217d8fe", func := "quilt/quiltlaw07.SumAll", spec := "sumAll", apart := false, narrowed := true }
def SumAllUptoSaid : Prop := sumAllUptoRow.holds Try.pinned (OpenSpec.upto sumAllSpec)

/-- 'quiltlaw07.SumTurned', WHERE WHAT IT READS IS OF BULK AT MOST 1048576: true; the input reads as it did. -/
def sumTurnedUptoRow : OpenClaim := { program := "yticfgkcdghbklaa", sum := "b974a3b0d4fdfd77253539d6491acc49887240d9bc950331bdda7caaa217d8fe", func := "quilt/quiltlaw07.SumTurned", spec := "sumTurned", apart := false, narrowed := true }
def SumTurnedUptoSaid : Prop := sumTurnedUptoRow.holds Try.pinned (OpenSpec.upto sumTurnedSpec)

/-- 'quiltlaw07.SumParts', WHERE WHAT IT READS IS OF BULK AT MOST 1048576: true; the input reads as it did. -/
def sumPartsUptoRow : OpenClaim := { program := "yticfgkcdghbklaa", sum := "b974a3b0d4fdfd77253539d6491acc49887240d9bc950331bdda7caaa217d8fe", func := "quilt/quiltlaw07.SumParts", spec := "sumParts", apart := false, narrowed := true }
def SumPartsUptoSaid : Prop := sumPartsUptoRow.holds Try.pinned (OpenSpec.upto sumPartsSpec)

/-- 'quiltlaw12.RegionClash', WHERE WHAT IT READS IS OF BULK AT MOST 1048576: true; the input reads as it did. -/
def regionClashUptoRow : OpenClaim := { program := "yticfgkcdghbklaa", sum := "b974a3b0d4fdfd77253539d6491acc49887240d9bc950331bdda7caaa217d8fe", func := "quilt/quiltlaw12.RegionClash", spec := "regionClash", unfollowed := true, recurses := true, apart := false, narrowed := true }
def RegionClashUptoSaid : Prop := regionClashUptoRow.holds Try.pinned (OpenSpec.upto regionClashSpec)

/-- 'quiltlaw12.RegionMoves', WHERE WHAT IT READS IS OF BULK AT MOST 1048576: true; the input reads as it did. -/
def regionMovesUptoRow : OpenClaim := { program := "yticfgkcdghbklaa", sum := "b974a3b0d4fdfd77253539d6491acc49887240d9bc950331bdda7caaa217d8fe", func := "quilt/quiltlaw12.RegionMoves", spec := "regionMoves", unfollowed := true, recurses := true, apart := false, narrowed := true }
def RegionMovesUptoSaid : Prop := regionMovesUptoRow.holds Try.pinned (OpenSpec.upto regionMovesSpec)

end Rows
end Go.Proofs.Yticfgkcdghbklaa
