/-
  No cell of these rows narrows 'for every input' (looked for: loops, veiled, ifaces, maps, wideKeys, modest, calm, conditions, laid).
  DERIVED. THE GIVEN ROWS OF THIS SEAT. 10 by the template 'for every input the law returns true; each argument reads behind the call as it read before'; 0 by the template 'total and deterministic' (their statements: YtamghkoanamapaaTotals.lean).
  GIVEN WITH THE SEED: the statements are not yours to turn. If you find one false, say at which input.
  Laid BY PROGRAM, IN A SANDBOX (cutbox-rows.mjs): the forced cells as the released guide's own fill.sh prints them over the translation 34c2d74bc9a4c064… (all of the seat's roots in one cut). By AI agents, Wed Nov 11 2026. No macro, syntax, notation, axiom, sorry.
-/
import Derived.Test.YtamghkoanamapaaChecked
import GoSem.Claim
import GoSem.ClaimJoined
import GoSem.ClaimMapViews
import Derived.JoinedTies
import Derived.KernelRfl
namespace Go.Proofs.Ytamghkoanamapaa
/- THE CELL 'sum', in the pinned program and in every row, IS THE sha256 OF THE DUMP (.gsa) THAT YtamghkoanamapaaProg.lean LOADS. Nothing in Lean hashes anything: it is a label: what it is worth is what the hold of that sum in a sandbox is worth. -/
noncomputable def Try.pinned : Pinned := { name := "ytamghkoanamapaa", sum := "34c2d74bc9a4c06465aad76c8713cbb492e88748b3df7cbd161d0d28b49bc195", checked := Try.checked }
namespace Rows
def none {H : Type} : Left H := { results := [], args := [] }

/-- 'armplanlaw12.ConfigNested': WHATEVER THE INPUT: true; the input reads as it did. -/
def configNestedSpec : ChangeSpec := { name := "configNested", fn := fun _ => fun
  | [d1, d2, d3, d4, d5, d6, d7] => { results := [.lit (.bool true)], args := [d1, d2, d3, d4, d5, d6, d7] }
  | _ => none }
def configNestedRow : OpenClaim := { program := "ytamghkoanamapaa", sum := "34c2d74bc9a4c06465aad76c8713cbb492e88748b3df7cbd161d0d28b49bc195", func := "armplan/armplanlaw12.ConfigNested", spec := "configNested", unfollowed := true, recurses := true, apart := false }
def ConfigNestedSaid : Prop := configNestedRow.holds Try.pinned (OpenSpec.ofChange configNestedSpec)

/-- ITS FALSE NEIGHBOUR: 'it returns false'. Refute it at one input. -/
def configNestedWrong : ChangeSpec := { name := "configNested", fn := fun _ => fun
  | [d1, d2, d3, d4, d5, d6, d7] => { results := [.lit (.bool false)], args := [d1, d2, d3, d4, d5, d6, d7] }
  | _ => none }
def ConfigNestedWrongFalsely : Prop := configNestedRow.holds Try.pinned (OpenSpec.ofChange configNestedWrong)

/-- 'armplanlaw12.ConfigReverse': WHATEVER THE INPUT: true; the input reads as it did. -/
def configReverseSpec : ChangeSpec := { name := "configReverse", fn := fun _ => fun
  | [d1, d2, d3, d4, d5] => { results := [.lit (.bool true)], args := [d1, d2, d3, d4, d5] }
  | _ => none }
def configReverseRow : OpenClaim := { program := "ytamghkoanamapaa", sum := "34c2d74bc9a4c06465aad76c8713cbb492e88748b3df7cbd161d0d28b49bc195", func := "armplan/armplanlaw12.ConfigReverse", spec := "configReverse", unfollowed := true, recurses := true, apart := false }
def ConfigReverseSaid : Prop := configReverseRow.holds Try.pinned (OpenSpec.ofChange configReverseSpec)

/-- ITS FALSE NEIGHBOUR: 'it returns false'. Refute it at one input. -/
def configReverseWrong : ChangeSpec := { name := "configReverse", fn := fun _ => fun
  | [d1, d2, d3, d4, d5] => { results := [.lit (.bool false)], args := [d1, d2, d3, d4, d5] }
  | _ => none }
def ConfigReverseWrongFalsely : Prop := configReverseRow.holds Try.pinned (OpenSpec.ofChange configReverseWrong)

/-- 'armplanlaw12.ConfigPieces': WHATEVER THE INPUT: true; the input reads as it did. -/
def configPiecesSpec : ChangeSpec := { name := "configPieces", fn := fun _ => fun
  | [d1, d2, d3, d4, d5, d6, d7] => { results := [.lit (.bool true)], args := [d1, d2, d3, d4, d5, d6, d7] }
  | _ => none }
def configPiecesRow : OpenClaim := { program := "ytamghkoanamapaa", sum := "34c2d74bc9a4c06465aad76c8713cbb492e88748b3df7cbd161d0d28b49bc195", func := "armplan/armplanlaw12.ConfigPieces", spec := "configPieces", unfollowed := true, recurses := true, apart := false }
def ConfigPiecesSaid : Prop := configPiecesRow.holds Try.pinned (OpenSpec.ofChange configPiecesSpec)

/-- ITS FALSE NEIGHBOUR: 'it returns false'. Refute it at one input. -/
def configPiecesWrong : ChangeSpec := { name := "configPieces", fn := fun _ => fun
  | [d1, d2, d3, d4, d5, d6, d7] => { results := [.lit (.bool false)], args := [d1, d2, d3, d4, d5, d6, d7] }
  | _ => none }
def ConfigPiecesWrongFalsely : Prop := configPiecesRow.holds Try.pinned (OpenSpec.ofChange configPiecesWrong)

/-- 'armplanlaw12.ConfigEnds': WHATEVER THE INPUT: true; the input reads as it did. -/
def configEndsSpec : ChangeSpec := { name := "configEnds", fn := fun _ => fun
  | [d1, d2, d3, d4, d5] => { results := [.lit (.bool true)], args := [d1, d2, d3, d4, d5] }
  | _ => none }
def configEndsRow : OpenClaim := { program := "ytamghkoanamapaa", sum := "34c2d74bc9a4c06465aad76c8713cbb492e88748b3df7cbd161d0d28b49bc195", func := "armplan/armplanlaw12.ConfigEnds", spec := "configEnds", unfollowed := true, recurses := true, apart := false }
def ConfigEndsSaid : Prop := configEndsRow.holds Try.pinned (OpenSpec.ofChange configEndsSpec)

/-- ITS FALSE NEIGHBOUR: 'it returns false'. Refute it at one input. -/
def configEndsWrong : ChangeSpec := { name := "configEnds", fn := fun _ => fun
  | [d1, d2, d3, d4, d5] => { results := [.lit (.bool false)], args := [d1, d2, d3, d4, d5] }
  | _ => none }
def ConfigEndsWrongFalsely : Prop := configEndsRow.holds Try.pinned (OpenSpec.ofChange configEndsWrong)

/-- 'armplanlaw12.ConfigTouches': WHATEVER THE INPUT: true; the input reads as it did. -/
def configTouchesSpec : ChangeSpec := { name := "configTouches", fn := fun _ => fun
  | [d1, d2, d3] => { results := [.lit (.bool true)], args := [d1, d2, d3] }
  | _ => none }
def configTouchesRow : OpenClaim := { program := "ytamghkoanamapaa", sum := "34c2d74bc9a4c06465aad76c8713cbb492e88748b3df7cbd161d0d28b49bc195", func := "armplan/armplanlaw12.ConfigTouches", spec := "configTouches", unfollowed := true, recurses := true, apart := false }
def ConfigTouchesSaid : Prop := configTouchesRow.holds Try.pinned (OpenSpec.ofChange configTouchesSpec)

/-- ITS FALSE NEIGHBOUR: 'it returns false'. Refute it at one input. -/
def configTouchesWrong : ChangeSpec := { name := "configTouches", fn := fun _ => fun
  | [d1, d2, d3] => { results := [.lit (.bool false)], args := [d1, d2, d3] }
  | _ => none }
def ConfigTouchesWrongFalsely : Prop := configTouchesRow.holds Try.pinned (OpenSpec.ofChange configTouchesWrong)

/-- 'armplanlaw12.ConfigHalves': WHATEVER THE INPUT: true; the input reads as it did. -/
def configHalvesSpec : ChangeSpec := { name := "configHalves", fn := fun _ => fun
  | [d1, d2, d3, d4] => { results := [.lit (.bool true)], args := [d1, d2, d3, d4] }
  | _ => none }
def configHalvesRow : OpenClaim := { program := "ytamghkoanamapaa", sum := "34c2d74bc9a4c06465aad76c8713cbb492e88748b3df7cbd161d0d28b49bc195", func := "armplan/armplanlaw12.ConfigHalves", spec := "configHalves", unfollowed := true, recurses := true, apart := false }
def ConfigHalvesSaid : Prop := configHalvesRow.holds Try.pinned (OpenSpec.ofChange configHalvesSpec)

/-- ITS FALSE NEIGHBOUR: 'it returns false'. Refute it at one input. -/
def configHalvesWrong : ChangeSpec := { name := "configHalves", fn := fun _ => fun
  | [d1, d2, d3, d4] => { results := [.lit (.bool false)], args := [d1, d2, d3, d4] }
  | _ => none }
def ConfigHalvesWrongFalsely : Prop := configHalvesRow.holds Try.pinned (OpenSpec.ofChange configHalvesWrong)

/-- 'armplanlaw12.ConfigDistance': WHATEVER THE INPUT: true; the input reads as it did. -/
def configDistanceSpec : ChangeSpec := { name := "configDistance", fn := fun _ => fun
  | [d1, d2, d3, d4, d5, d6, d7] => { results := [.lit (.bool true)], args := [d1, d2, d3, d4, d5, d6, d7] }
  | _ => none }
def configDistanceRow : OpenClaim := { program := "ytamghkoanamapaa", sum := "34c2d74bc9a4c06465aad76c8713cbb492e88748b3df7cbd161d0d28b49bc195", func := "armplan/armplanlaw12.ConfigDistance", spec := "configDistance", unfollowed := true, recurses := true, apart := false }
def ConfigDistanceSaid : Prop := configDistanceRow.holds Try.pinned (OpenSpec.ofChange configDistanceSpec)

/-- ITS FALSE NEIGHBOUR: 'it returns false'. Refute it at one input. -/
def configDistanceWrong : ChangeSpec := { name := "configDistance", fn := fun _ => fun
  | [d1, d2, d3, d4, d5, d6, d7] => { results := [.lit (.bool false)], args := [d1, d2, d3, d4, d5, d6, d7] }
  | _ => none }
def ConfigDistanceWrongFalsely : Prop := configDistanceRow.holds Try.pinned (OpenSpec.ofChange configDistanceWrong)

/-- 'armplanlaw12.ConfigGeodesic': WHATEVER THE INPUT: true; the input reads as it did. -/
def configGeodesicSpec : ChangeSpec := { name := "configGeodesic", fn := fun _ => fun
  | [d1, d2, d3, d4, d5] => { results := [.lit (.bool true)], args := [d1, d2, d3, d4, d5] }
  | _ => none }
def configGeodesicRow : OpenClaim := { program := "ytamghkoanamapaa", sum := "34c2d74bc9a4c06465aad76c8713cbb492e88748b3df7cbd161d0d28b49bc195", func := "armplan/armplanlaw12.ConfigGeodesic", spec := "configGeodesic", unfollowed := true, recurses := true, apart := false }
def ConfigGeodesicSaid : Prop := configGeodesicRow.holds Try.pinned (OpenSpec.ofChange configGeodesicSpec)

/-- ITS FALSE NEIGHBOUR: 'it returns false'. Refute it at one input. -/
def configGeodesicWrong : ChangeSpec := { name := "configGeodesic", fn := fun _ => fun
  | [d1, d2, d3, d4, d5] => { results := [.lit (.bool false)], args := [d1, d2, d3, d4, d5] }
  | _ => none }
def ConfigGeodesicWrongFalsely : Prop := configGeodesicRow.holds Try.pinned (OpenSpec.ofChange configGeodesicWrong)

/-- 'armplanlaw12.ConfigBoxes': WHATEVER THE INPUT: true; the input reads as it did. -/
def configBoxesSpec : ChangeSpec := { name := "configBoxes", fn := fun _ => fun
  | [d1, d2, d3, d4, d5, d6, d7] => { results := [.lit (.bool true)], args := [d1, d2, d3, d4, d5, d6, d7] }
  | _ => none }
def configBoxesRow : OpenClaim := { program := "ytamghkoanamapaa", sum := "34c2d74bc9a4c06465aad76c8713cbb492e88748b3df7cbd161d0d28b49bc195", func := "armplan/armplanlaw12.ConfigBoxes", spec := "configBoxes", unfollowed := true, recurses := true, apart := false }
def ConfigBoxesSaid : Prop := configBoxesRow.holds Try.pinned (OpenSpec.ofChange configBoxesSpec)

/-- ITS FALSE NEIGHBOUR: 'it returns false'. Refute it at one input. -/
def configBoxesWrong : ChangeSpec := { name := "configBoxes", fn := fun _ => fun
  | [d1, d2, d3, d4, d5, d6, d7] => { results := [.lit (.bool false)], args := [d1, d2, d3, d4, d5, d6, d7] }
  | _ => none }
def ConfigBoxesWrongFalsely : Prop := configBoxesRow.holds Try.pinned (OpenSpec.ofChange configBoxesWrong)

/-- 'armplanlaw12.ConfigLists': WHATEVER THE INPUT: true; the input reads as it did. -/
def configListsSpec : ChangeSpec := { name := "configLists", fn := fun _ => fun
  | [d1, d2, d3, d4, d5, d6, d7, d8] => { results := [.lit (.bool true)], args := [d1, d2, d3, d4, d5, d6, d7, d8] }
  | _ => none }
def configListsRow : OpenClaim := { program := "ytamghkoanamapaa", sum := "34c2d74bc9a4c06465aad76c8713cbb492e88748b3df7cbd161d0d28b49bc195", func := "armplan/armplanlaw12.ConfigLists", spec := "configLists", unfollowed := true, recurses := true, apart := false }
def ConfigListsSaid : Prop := configListsRow.holds Try.pinned (OpenSpec.ofChange configListsSpec)

/-- ITS FALSE NEIGHBOUR: 'it returns false'. Refute it at one input. -/
def configListsWrong : ChangeSpec := { name := "configLists", fn := fun _ => fun
  | [d1, d2, d3, d4, d5, d6, d7, d8] => { results := [.lit (.bool false)], args := [d1, d2, d3, d4, d5, d6, d7, d8] }
  | _ => none }
def ConfigListsWrongFalsely : Prop := configListsRow.holds Try.pinned (OpenSpec.ofChange configListsWrong)

/- THE SECOND FORM. 'bulk': how many values and letters a reading holds, each counted each time it is reached (what is shared counts as often as it is met; a slice's spare places count too). A statement '..UptoSaid' is the law's where the arguments, and the package variables that the reading takes, are together of bulk at most 1048576: NARROWER than '..Said'. Prove '..Said' where nothing that the law and all that it calls make is longer than what came in: it says more and counts as full. Else prove '..UptoSaid'. A law counts once. -/
mutual
def uptoBulk {H : Type} : DataW H → Nat
  | .lit (.string bytes) => bytes.length + 1
  | .lit _ => 1
  | .nil => 1
  | .ptr d => uptoBulk d + 1
  | .slice elems spare => uptoBulkAll elems + uptoBulkAll spare + 1
  | .agg parts => uptoBulkAll parts + 1
  | .iface _ d => uptoBulk d + 1
  | .map entries => uptoBulkEntries entries + 1
  | .held _ => 1
def uptoBulkAll {H : Type} : List (DataW H) → Nat
  | [] => 0
  | d :: r => uptoBulk d + uptoBulkAll r
def uptoBulkEntries {H : Type} : List (Lit × DataW H) → Nat
  | [] => 0
  | x :: r => uptoBulkEntry x + uptoBulkEntries r
def uptoBulkEntry {H : Type} : Lit × DataW H → Nat
  | (.string bytes, d) => bytes.length + uptoBulk d + 1
  | (_, d) => uptoBulk d + 1
 end
def uptoSmall : (H : Type) → List (DataW H) → Bool := fun _ ds => decide (uptoBulkAll ds ≤ 1048576)
def OpenSpec.upto (s : _root_.Go.ChangeSpec) : _root_.Go.OpenSpec := { _root_.Go.OpenSpec.ofChange s with cond := some uptoSmall }

/-- 'armplanlaw12.ConfigNested', WHERE WHAT IT READS IS OF BULK AT MOST 1048576: true; the input reads as it did. -/
def configNestedUptoRow : OpenClaim := { program := "ytamghkoanamapaa", sum := "34c2d74bc9a4c06465aad76c8713cbb492e88748b3df7cbd161d0d28b49bc195", func := "armplan/armplanlaw12.ConfigNested", spec := "configNested", unfollowed := true, recurses := true, apart := false, narrowed := true }
def ConfigNestedUptoSaid : Prop := configNestedUptoRow.holds Try.pinned (OpenSpec.upto configNestedSpec)

/-- 'armplanlaw12.ConfigReverse', WHERE WHAT IT READS IS OF BULK AT MOST 1048576: true; the input reads as it did. -/
def configReverseUptoRow : OpenClaim := { program := "ytamghkoanamapaa", sum := "34c2d74bc9a4c06465aad76c8713cbb492e88748b3df7cbd161d0d28b49bc195", func := "armplan/armplanlaw12.ConfigReverse", spec := "configReverse", unfollowed := true, recurses := true, apart := false, narrowed := true }
def ConfigReverseUptoSaid : Prop := configReverseUptoRow.holds Try.pinned (OpenSpec.upto configReverseSpec)

/-- 'armplanlaw12.ConfigPieces', WHERE WHAT IT READS IS OF BULK AT MOST 1048576: true; the input reads as it did. -/
def configPiecesUptoRow : OpenClaim := { program := "ytamghkoanamapaa", sum := "34c2d74bc9a4c06465aad76c8713cbb492e88748b3df7cbd161d0d28b49bc195", func := "armplan/armplanlaw12.ConfigPieces", spec := "configPieces", unfollowed := true, recurses := true, apart := false, narrowed := true }
def ConfigPiecesUptoSaid : Prop := configPiecesUptoRow.holds Try.pinned (OpenSpec.upto configPiecesSpec)

/-- 'armplanlaw12.ConfigEnds', WHERE WHAT IT READS IS OF BULK AT MOST 1048576: true; the input reads as it did. -/
def configEndsUptoRow : OpenClaim := { program := "ytamghkoanamapaa", sum := "34c2d74bc9a4c06465aad76c8713cbb492e88748b3df7cbd161d0d28b49bc195", func := "armplan/armplanlaw12.ConfigEnds", spec := "configEnds", unfollowed := true, recurses := true, apart := false, narrowed := true }
def ConfigEndsUptoSaid : Prop := configEndsUptoRow.holds Try.pinned (OpenSpec.upto configEndsSpec)

/-- 'armplanlaw12.ConfigTouches', WHERE WHAT IT READS IS OF BULK AT MOST 1048576: true; the input reads as it did. -/
def configTouchesUptoRow : OpenClaim := { program := "ytamghkoanamapaa", sum := "34c2d74bc9a4c06465aad76c8713cbb492e88748b3df7cbd161d0d28b49bc195", func := "armplan/armplanlaw12.ConfigTouches", spec := "configTouches", unfollowed := true, recurses := true, apart := false, narrowed := true }
def ConfigTouchesUptoSaid : Prop := configTouchesUptoRow.holds Try.pinned (OpenSpec.upto configTouchesSpec)

/-- 'armplanlaw12.ConfigHalves', WHERE WHAT IT READS IS OF BULK AT MOST 1048576: true; the input reads as it did. -/
def configHalvesUptoRow : OpenClaim := { program := "ytamghkoanamapaa", sum := "34c2d74bc9a4c06465aad76c8713cbb492e88748b3df7cbd161d0d28b49bc195", func := "armplan/armplanlaw12.ConfigHalves", spec := "configHalves", unfollowed := true, recurses := true, apart := false, narrowed := true }
def ConfigHalvesUptoSaid : Prop := configHalvesUptoRow.holds Try.pinned (OpenSpec.upto configHalvesSpec)

/-- 'armplanlaw12.ConfigDistance', WHERE WHAT IT READS IS OF BULK AT MOST 1048576: true; the input reads as it did. -/
def configDistanceUptoRow : OpenClaim := { program := "ytamghkoanamapaa", sum := "34c2d74bc9a4c06465aad76c8713cbb492e88748b3df7cbd161d0d28b49bc195", func := "armplan/armplanlaw12.ConfigDistance", spec := "configDistance", unfollowed := true, recurses := true, apart := false, narrowed := true }
def ConfigDistanceUptoSaid : Prop := configDistanceUptoRow.holds Try.pinned (OpenSpec.upto configDistanceSpec)

/-- 'armplanlaw12.ConfigGeodesic', WHERE WHAT IT READS IS OF BULK AT MOST 1048576: true; the input reads as it did. -/
def configGeodesicUptoRow : OpenClaim := { program := "ytamghkoanamapaa", sum := "34c2d74bc9a4c06465aad76c8713cbb492e88748b3df7cbd161d0d28b49bc195", func := "armplan/armplanlaw12.ConfigGeodesic", spec := "configGeodesic", unfollowed := true, recurses := true, apart := false, narrowed := true }
def ConfigGeodesicUptoSaid : Prop := configGeodesicUptoRow.holds Try.pinned (OpenSpec.upto configGeodesicSpec)

/-- 'armplanlaw12.ConfigBoxes', WHERE WHAT IT READS IS OF BULK AT MOST 1048576: true; the input reads as it did. -/
def configBoxesUptoRow : OpenClaim := { program := "ytamghkoanamapaa", sum := "34c2d74bc9a4c06465aad76c8713cbb492e88748b3df7cbd161d0d28b49bc195", func := "armplan/armplanlaw12.ConfigBoxes", spec := "configBoxes", unfollowed := true, recurses := true, apart := false, narrowed := true }
def ConfigBoxesUptoSaid : Prop := configBoxesUptoRow.holds Try.pinned (OpenSpec.upto configBoxesSpec)

/-- 'armplanlaw12.ConfigLists', WHERE WHAT IT READS IS OF BULK AT MOST 1048576: true; the input reads as it did. -/
def configListsUptoRow : OpenClaim := { program := "ytamghkoanamapaa", sum := "34c2d74bc9a4c06465aad76c8713cbb492e88748b3df7cbd161d0d28b49bc195", func := "armplan/armplanlaw12.ConfigLists", spec := "configLists", unfollowed := true, recurses := true, apart := false, narrowed := true }
def ConfigListsUptoSaid : Prop := configListsUptoRow.holds Try.pinned (OpenSpec.upto configListsSpec)

end Rows
end Go.Proofs.Ytamghkoanamapaa
