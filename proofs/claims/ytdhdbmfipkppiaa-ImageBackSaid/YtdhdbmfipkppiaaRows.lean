/-
  No cell of these rows narrows 'for every input' (looked for: loops, veiled, ifaces, maps, wideKeys, modest, calm, conditions, laid).
  DERIVED. THE GIVEN ROWS OF THIS SEAT. 11 by the template 'for every input the law returns true; each argument reads behind the call as it read before'; 0 by the template 'total and deterministic' (their statements: YtdhdbmfipkppiaaTotals.lean).
  GIVEN WITH THE SEED: the statements are not yours to turn. If you find one false, say at which input.
  Laid BY PROGRAM, IN A SANDBOX (cutbox-rows.mjs): the forced cells as the released guide's own fill.sh prints them over the translation 6079d54142b38841… (all of the seat's roots in one cut). By AI agents, Wed Nov 11 2026. No macro, syntax, notation, axiom, sorry.
-/
import Derived.Test.YtdhdbmfipkppiaaChecked
import GoSem.Claim
import GoSem.ClaimJoined
import GoSem.ClaimMapViews
import Derived.JoinedTies
import Derived.KernelRfl
namespace Go.Proofs.Ytdhdbmfipkppiaa
/- THE CELL 'sum', in the pinned program and in every row, IS THE sha256 OF THE DUMP (.gsa) THAT YtdhdbmfipkppiaaProg.lean LOADS. Nothing in Lean hashes anything: it is a label: what it is worth is what the hold of that sum in a sandbox is worth. -/
noncomputable def Try.pinned : Pinned := { name := "ytdhdbmfipkppiaa", sum := "6079d54142b38841aca43aa32706f003d2a674ad1bdae13d84298ee74e294f8d", checked := Try.checked }
namespace Rows
def none {H : Type} : Left H := { results := [], args := [] }

/-- 'quiltlaw04.ModelLong': WHATEVER THE INPUT: true; the input reads as it did. -/
def modelLongSpec : ChangeSpec := { name := "modelLong", fn := fun _ => fun
  | [d] => { results := [.lit (.bool true)], args := [d] }
  | _ => none }
def modelLongRow : OpenClaim := { program := "ytdhdbmfipkppiaa", sum := "6079d54142b38841aca43aa32706f003d2a674ad1bdae13d84298ee74e294f8d", func := "quilt/quiltlaw04.ModelLong", spec := "modelLong", unfollowed := true, recurses := true, apart := false }
def ModelLongSaid : Prop := modelLongRow.holds Try.pinned (OpenSpec.ofChange modelLongSpec)

/-- ITS FALSE NEIGHBOUR: 'it returns false'. Refute it at one input. -/
def modelLongWrong : ChangeSpec := { name := "modelLong", fn := fun _ => fun
  | [d] => { results := [.lit (.bool false)], args := [d] }
  | _ => none }
def ModelLongWrongFalsely : Prop := modelLongRow.holds Try.pinned (OpenSpec.ofChange modelLongWrong)

/-- 'quiltlaw04.ModelOnce': WHATEVER THE INPUT: true; the input reads as it did. -/
def modelOnceSpec : ChangeSpec := { name := "modelOnce", fn := fun _ => fun
  | [d1, d2, d3] => { results := [.lit (.bool true)], args := [d1, d2, d3] }
  | _ => none }
def modelOnceRow : OpenClaim := { program := "ytdhdbmfipkppiaa", sum := "6079d54142b38841aca43aa32706f003d2a674ad1bdae13d84298ee74e294f8d", func := "quilt/quiltlaw04.ModelOnce", spec := "modelOnce", unfollowed := true, recurses := true, apart := false }
def ModelOnceSaid : Prop := modelOnceRow.holds Try.pinned (OpenSpec.ofChange modelOnceSpec)

/-- ITS FALSE NEIGHBOUR: 'it returns false'. Refute it at one input. -/
def modelOnceWrong : ChangeSpec := { name := "modelOnce", fn := fun _ => fun
  | [d1, d2, d3] => { results := [.lit (.bool false)], args := [d1, d2, d3] }
  | _ => none }
def ModelOnceWrongFalsely : Prop := modelOnceRow.holds Try.pinned (OpenSpec.ofChange modelOnceWrong)

/-- 'quiltlaw04.ModelTakes': WHATEVER THE INPUT: true; the input reads as it did. -/
def modelTakesSpec : ChangeSpec := { name := "modelTakes", fn := fun _ => fun
  | [d] => { results := [.lit (.bool true)], args := [d] }
  | _ => none }
def modelTakesRow : OpenClaim := { program := "ytdhdbmfipkppiaa", sum := "6079d54142b38841aca43aa32706f003d2a674ad1bdae13d84298ee74e294f8d", func := "quilt/quiltlaw04.ModelTakes", spec := "modelTakes", unfollowed := true, recurses := true, apart := false }
def ModelTakesSaid : Prop := modelTakesRow.holds Try.pinned (OpenSpec.ofChange modelTakesSpec)

/-- ITS FALSE NEIGHBOUR: 'it returns false'. Refute it at one input. -/
def modelTakesWrong : ChangeSpec := { name := "modelTakes", fn := fun _ => fun
  | [d] => { results := [.lit (.bool false)], args := [d] }
  | _ => none }
def ModelTakesWrongFalsely : Prop := modelTakesRow.holds Try.pinned (OpenSpec.ofChange modelTakesWrong)

/-- 'quiltlaw04.ModelBack': WHATEVER THE INPUT: true; the input reads as it did. -/
def modelBackSpec : ChangeSpec := { name := "modelBack", fn := fun _ => fun
  | [d1, d2] => { results := [.lit (.bool true)], args := [d1, d2] }
  | _ => none }
def modelBackRow : OpenClaim := { program := "ytdhdbmfipkppiaa", sum := "6079d54142b38841aca43aa32706f003d2a674ad1bdae13d84298ee74e294f8d", func := "quilt/quiltlaw04.ModelBack", spec := "modelBack", unfollowed := true, recurses := true, apart := false }
def ModelBackSaid : Prop := modelBackRow.holds Try.pinned (OpenSpec.ofChange modelBackSpec)

/-- ITS FALSE NEIGHBOUR: 'it returns false'. Refute it at one input. -/
def modelBackWrong : ChangeSpec := { name := "modelBack", fn := fun _ => fun
  | [d1, d2] => { results := [.lit (.bool false)], args := [d1, d2] }
  | _ => none }
def ModelBackWrongFalsely : Prop := modelBackRow.holds Try.pinned (OpenSpec.ofChange modelBackWrong)

/-- 'quiltlaw04.ModelRows': WHATEVER THE INPUT: true; the input reads as it did. -/
def modelRowsSpec : ChangeSpec := { name := "modelRows", fn := fun _ => fun
  | [d1, d2] => { results := [.lit (.bool true)], args := [d1, d2] }
  | _ => none }
def modelRowsRow : OpenClaim := { program := "ytdhdbmfipkppiaa", sum := "6079d54142b38841aca43aa32706f003d2a674ad1bdae13d84298ee74e294f8d", func := "quilt/quiltlaw04.ModelRows", spec := "modelRows", unfollowed := true, recurses := true, apart := false }
def ModelRowsSaid : Prop := modelRowsRow.holds Try.pinned (OpenSpec.ofChange modelRowsSpec)

/-- ITS FALSE NEIGHBOUR: 'it returns false'. Refute it at one input. -/
def modelRowsWrong : ChangeSpec := { name := "modelRows", fn := fun _ => fun
  | [d1, d2] => { results := [.lit (.bool false)], args := [d1, d2] }
  | _ => none }
def ModelRowsWrongFalsely : Prop := modelRowsRow.holds Try.pinned (OpenSpec.ofChange modelRowsWrong)

/-- 'quiltlaw12.RegionOf': WHATEVER THE INPUT: true; the input reads as it did. -/
def regionOfSpec : ChangeSpec := { name := "regionOf", fn := fun _ => fun
  | [d1, d2] => { results := [.lit (.bool true)], args := [d1, d2] }
  | _ => none }
def regionOfRow : OpenClaim := { program := "ytdhdbmfipkppiaa", sum := "6079d54142b38841aca43aa32706f003d2a674ad1bdae13d84298ee74e294f8d", func := "quilt/quiltlaw12.RegionOf", spec := "regionOf", unfollowed := true, recurses := true, apart := false }
def RegionOfSaid : Prop := regionOfRow.holds Try.pinned (OpenSpec.ofChange regionOfSpec)

/-- ITS FALSE NEIGHBOUR: 'it returns false'. Refute it at one input. -/
def regionOfWrong : ChangeSpec := { name := "regionOf", fn := fun _ => fun
  | [d1, d2] => { results := [.lit (.bool false)], args := [d1, d2] }
  | _ => none }
def RegionOfWrongFalsely : Prop := regionOfRow.holds Try.pinned (OpenSpec.ofChange regionOfWrong)

/-- 'quiltlaw12.RegionNodes': WHATEVER THE INPUT: true; the input reads as it did. -/
def regionNodesSpec : ChangeSpec := { name := "regionNodes", fn := fun _ => fun
  | [d1, d2] => { results := [.lit (.bool true)], args := [d1, d2] }
  | _ => none }
def regionNodesRow : OpenClaim := { program := "ytdhdbmfipkppiaa", sum := "6079d54142b38841aca43aa32706f003d2a674ad1bdae13d84298ee74e294f8d", func := "quilt/quiltlaw12.RegionNodes", spec := "regionNodes", unfollowed := true, recurses := true, apart := false }
def RegionNodesSaid : Prop := regionNodesRow.holds Try.pinned (OpenSpec.ofChange regionNodesSpec)

/-- ITS FALSE NEIGHBOUR: 'it returns false'. Refute it at one input. -/
def regionNodesWrong : ChangeSpec := { name := "regionNodes", fn := fun _ => fun
  | [d1, d2] => { results := [.lit (.bool false)], args := [d1, d2] }
  | _ => none }
def RegionNodesWrongFalsely : Prop := regionNodesRow.holds Try.pinned (OpenSpec.ofChange regionNodesWrong)

/-- 'quiltlaw09.ImagePlaces': WHATEVER THE INPUT: true; the input reads as it did. -/
def imagePlacesSpec : ChangeSpec := { name := "imagePlaces", fn := fun _ => fun
  | [d1, d2] => { results := [.lit (.bool true)], args := [d1, d2] }
  | _ => none }
def imagePlacesRow : OpenClaim := { program := "ytdhdbmfipkppiaa", sum := "6079d54142b38841aca43aa32706f003d2a674ad1bdae13d84298ee74e294f8d", func := "quilt/quiltlaw09.ImagePlaces", spec := "imagePlaces", unfollowed := true, recurses := true, apart := false }
def ImagePlacesSaid : Prop := imagePlacesRow.holds Try.pinned (OpenSpec.ofChange imagePlacesSpec)

/-- ITS FALSE NEIGHBOUR: 'it returns false'. Refute it at one input. -/
def imagePlacesWrong : ChangeSpec := { name := "imagePlaces", fn := fun _ => fun
  | [d1, d2] => { results := [.lit (.bool false)], args := [d1, d2] }
  | _ => none }
def ImagePlacesWrongFalsely : Prop := imagePlacesRow.holds Try.pinned (OpenSpec.ofChange imagePlacesWrong)

/-- 'quiltlaw09.ImageStreams': WHATEVER THE INPUT: true; the input reads as it did. -/
def imageStreamsSpec : ChangeSpec := { name := "imageStreams", fn := fun _ => fun
  | [d1, d2, d3] => { results := [.lit (.bool true)], args := [d1, d2, d3] }
  | _ => none }
def imageStreamsRow : OpenClaim := { program := "ytdhdbmfipkppiaa", sum := "6079d54142b38841aca43aa32706f003d2a674ad1bdae13d84298ee74e294f8d", func := "quilt/quiltlaw09.ImageStreams", spec := "imageStreams", unfollowed := true, recurses := true, apart := false }
def ImageStreamsSaid : Prop := imageStreamsRow.holds Try.pinned (OpenSpec.ofChange imageStreamsSpec)

/-- ITS FALSE NEIGHBOUR: 'it returns false'. Refute it at one input. -/
def imageStreamsWrong : ChangeSpec := { name := "imageStreams", fn := fun _ => fun
  | [d1, d2, d3] => { results := [.lit (.bool false)], args := [d1, d2, d3] }
  | _ => none }
def ImageStreamsWrongFalsely : Prop := imageStreamsRow.holds Try.pinned (OpenSpec.ofChange imageStreamsWrong)

/-- 'quiltlaw09.ImageParts': WHATEVER THE INPUT: true; the input reads as it did. -/
def imagePartsSpec : ChangeSpec := { name := "imageParts", fn := fun _ => fun
  | [d1, d2] => { results := [.lit (.bool true)], args := [d1, d2] }
  | _ => none }
def imagePartsRow : OpenClaim := { program := "ytdhdbmfipkppiaa", sum := "6079d54142b38841aca43aa32706f003d2a674ad1bdae13d84298ee74e294f8d", func := "quilt/quiltlaw09.ImageParts", spec := "imageParts", unfollowed := true, recurses := true, apart := false }
def ImagePartsSaid : Prop := imagePartsRow.holds Try.pinned (OpenSpec.ofChange imagePartsSpec)

/-- ITS FALSE NEIGHBOUR: 'it returns false'. Refute it at one input. -/
def imagePartsWrong : ChangeSpec := { name := "imageParts", fn := fun _ => fun
  | [d1, d2] => { results := [.lit (.bool false)], args := [d1, d2] }
  | _ => none }
def ImagePartsWrongFalsely : Prop := imagePartsRow.holds Try.pinned (OpenSpec.ofChange imagePartsWrong)

/-- 'quiltlaw09.ImageBack': WHATEVER THE INPUT: true; the input reads as it did. -/
def imageBackSpec : ChangeSpec := { name := "imageBack", fn := fun _ => fun
  | [d1, d2, d3] => { results := [.lit (.bool true)], args := [d1, d2, d3] }
  | _ => none }
def imageBackRow : OpenClaim := { program := "ytdhdbmfipkppiaa", sum := "6079d54142b38841aca43aa32706f003d2a674ad1bdae13d84298ee74e294f8d", func := "quilt/quiltlaw09.ImageBack", spec := "imageBack", unfollowed := true, recurses := true, apart := false }
def ImageBackSaid : Prop := imageBackRow.holds Try.pinned (OpenSpec.ofChange imageBackSpec)

/-- ITS FALSE NEIGHBOUR: 'it returns false'. Refute it at one input. -/
def imageBackWrong : ChangeSpec := { name := "imageBack", fn := fun _ => fun
  | [d1, d2, d3] => { results := [.lit (.bool false)], args := [d1, d2, d3] }
  | _ => none }
def ImageBackWrongFalsely : Prop := imageBackRow.holds Try.pinned (OpenSpec.ofChange imageBackWrong)

/- THE SECOND FORM. 'bulk': how many values and letters a reading holds, each counted each time it is reached (what is shared counts as often as it is met; a slice's spare places count too). A statement '..UptoSaid' is the law's where the arguments, and the package variables that the reading takes, are together of bulk at most 1048576: NARROWER than '..Said'. Prove '..Said' where nothing that the law and all that it calls make is longer than what came in: it says more and counts as full. Else prove '..UptoSaid'. A law counts once. -/
mutual
def uptoBulk {H : Type} : DataW H → Nat
  | .lit (.string bytes) => bytes.length + 1
  | .lit _ => 1
  | .nil => 1
  | .ptr d => uptoBulk d + 1
  | .slice elems spare => uptoBulkAll elems + uptoBulkAll spare + 1
  | .agg parts => uptoBulkAll parts + 1
  | .iface _ d => uptoBulk d + 1
  | .map entries => uptoBulkEntries entries + 1
  | .held _ => 1
def uptoBulkAll {H : Type} : List (DataW H) → Nat
  | [] => 0
  | d :: r => uptoBulk d + uptoBulkAll r
def uptoBulkEntries {H : Type} : List (Lit × DataW H) → Nat
  | [] => 0
  | x :: r => uptoBulkEntry x + uptoBulkEntries r
def uptoBulkEntry {H : Type} : Lit × DataW H → Nat
  | (.string bytes, d) => bytes.length + uptoBulk d + 1
  | (_, d) => uptoBulk d + 1
 end
def uptoSmall : (H : Type) → List (DataW H) → Bool := fun _ ds => decide (uptoBulkAll ds ≤ 1048576)
def OpenSpec.upto (s : _root_.Go.ChangeSpec) : _root_.Go.OpenSpec := { _root_.Go.OpenSpec.ofChange s with cond := some uptoSmall }

/-- 'quiltlaw04.ModelLong', WHERE WHAT IT READS IS OF BULK AT MOST 1048576: true; the input reads as it did. -/
def modelLongUptoRow : OpenClaim := { program := "ytdhdbmfipkppiaa", sum := "6079d54142b38841aca43aa32706f003d2a674ad1bdae13d84298ee74e294f8d", func := "quilt/quiltlaw04.ModelLong", spec := "modelLong", unfollowed := true, recurses := true, apart := false, narrowed := true }
def ModelLongUptoSaid : Prop := modelLongUptoRow.holds Try.pinned (OpenSpec.upto modelLongSpec)

/-- 'quiltlaw04.ModelOnce', WHERE WHAT IT READS IS OF BULK AT MOST 1048576: true; the input reads as it did. -/
def modelOnceUptoRow : OpenClaim := { program := "ytdhdbmfipkppiaa", sum := "6079d54142b38841aca43aa32706f003d2a674ad1bdae13d84298ee74e294f8d", func := "quilt/quiltlaw04.ModelOnce", spec := "modelOnce", unfollowed := true, recurses := true, apart := false, narrowed := true }
def ModelOnceUptoSaid : Prop := modelOnceUptoRow.holds Try.pinned (OpenSpec.upto modelOnceSpec)

/-- 'quiltlaw04.ModelTakes', WHERE WHAT IT READS IS OF BULK AT MOST 1048576: true; the input reads as it did. -/
def modelTakesUptoRow : OpenClaim := { program := "ytdhdbmfipkppiaa", sum := "6079d54142b38841aca43aa32706f003d2a674ad1bdae13d84298ee74e294f8d", func := "quilt/quiltlaw04.ModelTakes", spec := "modelTakes", unfollowed := true, recurses := true, apart := false, narrowed := true }
def ModelTakesUptoSaid : Prop := modelTakesUptoRow.holds Try.pinned (OpenSpec.upto modelTakesSpec)

/-- 'quiltlaw04.ModelBack', WHERE WHAT IT READS IS OF BULK AT MOST 1048576: true; the input reads as it did. -/
def modelBackUptoRow : OpenClaim := { program := "ytdhdbmfipkppiaa", sum := "6079d54142b38841aca43aa32706f003d2a674ad1bdae13d84298ee74e294f8d", func := "quilt/quiltlaw04.ModelBack", spec := "modelBack", unfollowed := true, recurses := true, apart := false, narrowed := true }
def ModelBackUptoSaid : Prop := modelBackUptoRow.holds Try.pinned (OpenSpec.upto modelBackSpec)

/-- 'quiltlaw04.ModelRows', WHERE WHAT IT READS IS OF BULK AT MOST 1048576: true; the input reads as it did. -/
def modelRowsUptoRow : OpenClaim := { program := "ytdhdbmfipkppiaa", sum := "6079d54142b38841aca43aa32706f003d2a674ad1bdae13d84298ee74e294f8d", func := "quilt/quiltlaw04.ModelRows", spec := "modelRows", unfollowed := true, recurses := true, apart := false, narrowed := true }
def ModelRowsUptoSaid : Prop := modelRowsUptoRow.holds Try.pinned (OpenSpec.upto modelRowsSpec)

/-- 'quiltlaw12.RegionOf', WHERE WHAT IT READS IS OF BULK AT MOST 1048576: true; the input reads as it did. -/
def regionOfUptoRow : OpenClaim := { program := "ytdhdbmfipkppiaa", sum := "6079d54142b38841aca43aa32706f003d2a674ad1bdae13d84298ee74e294f8d", func := "quilt/quiltlaw12.RegionOf", spec := "regionOf", unfollowed := true, recurses := true, apart := false, narrowed := true }
def RegionOfUptoSaid : Prop := regionOfUptoRow.holds Try.pinned (OpenSpec.upto regionOfSpec)

/-- 'quiltlaw12.RegionNodes', WHERE WHAT IT READS IS OF BULK AT MOST 1048576: true; the input reads as it did. -/
def regionNodesUptoRow : OpenClaim := { program := "ytdhdbmfipkppiaa", sum := "6079d54142b38841aca43aa32706f003d2a674ad1bdae13d84298ee74e294f8d", func := "quilt/quiltlaw12.RegionNodes", spec := "regionNodes", unfollowed := true, recurses := true, apart := false, narrowed := true }
def RegionNodesUptoSaid : Prop := regionNodesUptoRow.holds Try.pinned (OpenSpec.upto regionNodesSpec)

/-- 'quiltlaw09.ImagePlaces', WHERE WHAT IT READS IS OF BULK AT MOST 1048576: true; the input reads as it did. -/
def imagePlacesUptoRow : OpenClaim := { program := "ytdhdbmfipkppiaa", sum := "6079d54142b38841aca43aa32706f003d2a674ad1bdae13d84298ee74e294f8d", func := "quilt/quiltlaw09.ImagePlaces", spec := "imagePlaces", unfollowed := true, recurses := true, apart := false, narrowed := true }
def ImagePlacesUptoSaid : Prop := imagePlacesUptoRow.holds Try.pinned (OpenSpec.upto imagePlacesSpec)

/-- 'quiltlaw09.ImageStreams', WHERE WHAT IT READS IS OF BULK AT MOST 1048576: true; the input reads as it did. -/
def imageStreamsUptoRow : OpenClaim := { program := "ytdhdbmfipkppiaa", sum := "6079d54142b38841aca43aa32706f003d2a674ad1bdae13d84298ee74e294f8d", func := "quilt/quiltlaw09.ImageStreams", spec := "imageStreams", unfollowed := true, recurses := true, apart := false, narrowed := true }
def ImageStreamsUptoSaid : Prop := imageStreamsUptoRow.holds Try.pinned (OpenSpec.upto imageStreamsSpec)

/-- 'quiltlaw09.ImageParts', WHERE WHAT IT READS IS OF BULK AT MOST 1048576: true; the input reads as it did. -/
def imagePartsUptoRow : OpenClaim := { program := "ytdhdbmfipkppiaa", sum := "6079d54142b38841aca43aa32706f003d2a674ad1bdae13d84298ee74e294f8d", func := "quilt/quiltlaw09.ImageParts", spec := "imageParts", unfollowed := true, recurses := true, apart := false, narrowed := true }
def ImagePartsUptoSaid : Prop := imagePartsUptoRow.holds Try.pinned (OpenSpec.upto imagePartsSpec)

/-- 'quiltlaw09.ImageBack', WHERE WHAT IT READS IS OF BULK AT MOST 1048576: true; the input reads as it did. -/
def imageBackUptoRow : OpenClaim := { program := "ytdhdbmfipkppiaa", sum := "6079d54142b38841aca43aa32706f003d2a674ad1bdae13d84298ee74e294f8d", func := "quilt/quiltlaw09.ImageBack", spec := "imageBack", unfollowed := true, recurses := true, apart := false, narrowed := true }
def ImageBackUptoSaid : Prop := imageBackUptoRow.holds Try.pinned (OpenSpec.upto imageBackSpec)

end Rows
end Go.Proofs.Ytdhdbmfipkppiaa
