/-
  No cell of these rows narrows 'for every input' (looked for: loops, veiled, ifaces, maps, wideKeys, modest, calm, conditions, laid).
  DERIVED. THE GIVEN ROWS OF THIS SEAT. 14 by the template 'for every input the law returns true; each argument reads behind the call as it read before'; 0 by the template 'total and deterministic' (their statements: YtbempjkkohjnbaaTotals.lean).
  GIVEN WITH THE SEED: the statements are not yours to turn. If you find one false, say at which input.
  Laid BY PROGRAM, IN A SANDBOX (cutbox-rows.mjs): the forced cells as the released guide's own fill.sh prints them over the translation 72a9b928981dc077… (all of the seat's roots in one cut). By AI agents, Wed Nov 11 2026. No macro, syntax, notation, axiom, sorry.
-/
import Derived.Test.YtbempjkkohjnbaaChecked
import GoSem.Claim
import GoSem.ClaimJoined
import GoSem.ClaimMapViews
import Derived.JoinedTies
import Derived.KernelRfl
namespace Go.Proofs.Ytbempjkkohjnbaa
/- THE CELL 'sum', in the pinned program and in every row, IS THE sha256 OF THE DUMP (.gsa) THAT YtbempjkkohjnbaaProg.lean LOADS. Nothing in Lean hashes anything: it is a label: what it is worth is what the hold of that sum in a sandbox is worth. -/
noncomputable def Try.pinned : Pinned := { name := "ytbempjkkohjnbaa", sum := "72a9b928981dc077f16d198508cdd3612d3fd5abe19851dea750a52bd3fb9ca6", checked := Try.checked }
namespace Rows
def none {H : Type} : Left H := { results := [], args := [] }

/-- 'breviarylaw04.TreeAny': WHATEVER THE INPUT: true; the input reads as it did. -/
def treeAnySpec : ChangeSpec := { name := "treeAny", fn := fun _ => fun
  | [d1, d2, d3] => { results := [.lit (.bool true)], args := [d1, d2, d3] }
  | _ => none }
def treeAnyRow : OpenClaim := { program := "ytbempjkkohjnbaa", sum := "72a9b928981dc077f16d198508cdd3612d3fd5abe19851dea750a52bd3fb9ca6", func := "breviary/breviarylaw04.TreeAny", spec := "treeAny", inPlace := ["slices.overlaps[breviary/tree.pair]", "slices.overlaps[*breviary/tree.node]"], unfollowed := true, recurses := true, apart := false }
def TreeAnySaid : Prop := treeAnyRow.holds Try.pinned (OpenSpec.ofChange treeAnySpec)

/-- ITS FALSE NEIGHBOUR: 'it returns false'. Refute it at one input. -/
def treeAnyWrong : ChangeSpec := { name := "treeAny", fn := fun _ => fun
  | [d1, d2, d3] => { results := [.lit (.bool false)], args := [d1, d2, d3] }
  | _ => none }
def TreeAnyWrongFalsely : Prop := treeAnyRow.holds Try.pinned (OpenSpec.ofChange treeAnyWrong)

/-- 'breviarylaw05.CursorNil': WHATEVER THE INPUT: true; the input reads as it did. -/
def cursorNilSpec : ChangeSpec := { name := "cursorNil", fn := fun _ => fun
  | [d1, d2] => { results := [.lit (.bool true)], args := [d1, d2] }
  | _ => none }
def cursorNilRow : OpenClaim := { program := "ytbempjkkohjnbaa", sum := "72a9b928981dc077f16d198508cdd3612d3fd5abe19851dea750a52bd3fb9ca6", func := "breviary/breviarylaw05.CursorNil", spec := "cursorNil", inPlace := ["slices.overlaps[breviary/tree.pair]", "slices.overlaps[*breviary/tree.node]"], unfollowed := true, recurses := true, apart := false }
def CursorNilSaid : Prop := cursorNilRow.holds Try.pinned (OpenSpec.ofChange cursorNilSpec)

/-- ITS FALSE NEIGHBOUR: 'it returns false'. Refute it at one input. -/
def cursorNilWrong : ChangeSpec := { name := "cursorNil", fn := fun _ => fun
  | [d1, d2] => { results := [.lit (.bool false)], args := [d1, d2] }
  | _ => none }
def CursorNilWrongFalsely : Prop := cursorNilRow.holds Try.pinned (OpenSpec.ofChange cursorNilWrong)

/-- 'breviarylaw04.TreeShapes': WHATEVER THE INPUT: true; the input reads as it did. -/
def treeShapesSpec : ChangeSpec := { name := "treeShapes", fn := fun _ => fun
  | [d1, d2] => { results := [.lit (.bool true)], args := [d1, d2] }
  | _ => none }
def treeShapesRow : OpenClaim := { program := "ytbempjkkohjnbaa", sum := "72a9b928981dc077f16d198508cdd3612d3fd5abe19851dea750a52bd3fb9ca6", func := "breviary/breviarylaw04.TreeShapes", spec := "treeShapes", inPlace := ["slices.overlaps[breviary/tree.pair]", "slices.overlaps[*breviary/tree.node]"], unfollowed := true, recurses := true, apart := false }
def TreeShapesSaid : Prop := treeShapesRow.holds Try.pinned (OpenSpec.ofChange treeShapesSpec)

/-- ITS FALSE NEIGHBOUR: 'it returns false'. Refute it at one input. -/
def treeShapesWrong : ChangeSpec := { name := "treeShapes", fn := fun _ => fun
  | [d1, d2] => { results := [.lit (.bool false)], args := [d1, d2] }
  | _ => none }
def TreeShapesWrongFalsely : Prop := treeShapesRow.holds Try.pinned (OpenSpec.ofChange treeShapesWrong)

/-- 'breviarylaw04.TreeSteps': WHATEVER THE INPUT: true; the input reads as it did. -/
def treeStepsSpec : ChangeSpec := { name := "treeSteps", fn := fun _ => fun
  | [d1, d2] => { results := [.lit (.bool true)], args := [d1, d2] }
  | _ => none }
def treeStepsRow : OpenClaim := { program := "ytbempjkkohjnbaa", sum := "72a9b928981dc077f16d198508cdd3612d3fd5abe19851dea750a52bd3fb9ca6", func := "breviary/breviarylaw04.TreeSteps", spec := "treeSteps", inPlace := ["slices.overlaps[breviary/tree.pair]", "slices.overlaps[*breviary/tree.node]"], unfollowed := true, recurses := true, apart := false }
def TreeStepsSaid : Prop := treeStepsRow.holds Try.pinned (OpenSpec.ofChange treeStepsSpec)

/-- ITS FALSE NEIGHBOUR: 'it returns false'. Refute it at one input. -/
def treeStepsWrong : ChangeSpec := { name := "treeSteps", fn := fun _ => fun
  | [d1, d2] => { results := [.lit (.bool false)], args := [d1, d2] }
  | _ => none }
def TreeStepsWrongFalsely : Prop := treeStepsRow.holds Try.pinned (OpenSpec.ofChange treeStepsWrong)

/-- 'breviarylaw04.TreeOrders': WHATEVER THE INPUT: true; the input reads as it did. -/
def treeOrdersSpec : ChangeSpec := { name := "treeOrders", fn := fun _ => fun
  | [d1, d2] => { results := [.lit (.bool true)], args := [d1, d2] }
  | _ => none }
def treeOrdersRow : OpenClaim := { program := "ytbempjkkohjnbaa", sum := "72a9b928981dc077f16d198508cdd3612d3fd5abe19851dea750a52bd3fb9ca6", func := "breviary/breviarylaw04.TreeOrders", spec := "treeOrders", inPlace := ["slices.overlaps[breviary/tree.pair]", "slices.overlaps[*breviary/tree.node]"], unfollowed := true, recurses := true, apart := false }
def TreeOrdersSaid : Prop := treeOrdersRow.holds Try.pinned (OpenSpec.ofChange treeOrdersSpec)

/-- ITS FALSE NEIGHBOUR: 'it returns false'. Refute it at one input. -/
def treeOrdersWrong : ChangeSpec := { name := "treeOrders", fn := fun _ => fun
  | [d1, d2] => { results := [.lit (.bool false)], args := [d1, d2] }
  | _ => none }
def TreeOrdersWrongFalsely : Prop := treeOrdersRow.holds Try.pinned (OpenSpec.ofChange treeOrdersWrong)

/-- 'breviarylaw05.CursorScans': WHATEVER THE INPUT: true; the input reads as it did. -/
def cursorScansSpec : ChangeSpec := { name := "cursorScans", fn := fun _ => fun
  | [d1, d2, d3] => { results := [.lit (.bool true)], args := [d1, d2, d3] }
  | _ => none }
def cursorScansRow : OpenClaim := { program := "ytbempjkkohjnbaa", sum := "72a9b928981dc077f16d198508cdd3612d3fd5abe19851dea750a52bd3fb9ca6", func := "breviary/breviarylaw05.CursorScans", spec := "cursorScans", inPlace := ["slices.overlaps[breviary/tree.pair]", "slices.overlaps[*breviary/tree.node]"], unfollowed := true, recurses := true, apart := false }
def CursorScansSaid : Prop := cursorScansRow.holds Try.pinned (OpenSpec.ofChange cursorScansSpec)

/-- ITS FALSE NEIGHBOUR: 'it returns false'. Refute it at one input. -/
def cursorScansWrong : ChangeSpec := { name := "cursorScans", fn := fun _ => fun
  | [d1, d2, d3] => { results := [.lit (.bool false)], args := [d1, d2, d3] }
  | _ => none }
def CursorScansWrongFalsely : Prop := cursorScansRow.holds Try.pinned (OpenSpec.ofChange cursorScansWrong)

/-- 'breviarylaw05.CursorStays': WHATEVER THE INPUT: true; the input reads as it did. -/
def cursorStaysSpec : ChangeSpec := { name := "cursorStays", fn := fun _ => fun
  | [d1, d2, d3] => { results := [.lit (.bool true)], args := [d1, d2, d3] }
  | _ => none }
def cursorStaysRow : OpenClaim := { program := "ytbempjkkohjnbaa", sum := "72a9b928981dc077f16d198508cdd3612d3fd5abe19851dea750a52bd3fb9ca6", func := "breviary/breviarylaw05.CursorStays", spec := "cursorStays", inPlace := ["slices.overlaps[breviary/tree.pair]", "slices.overlaps[*breviary/tree.node]"], unfollowed := true, recurses := true, apart := false }
def CursorStaysSaid : Prop := cursorStaysRow.holds Try.pinned (OpenSpec.ofChange cursorStaysSpec)

/-- ITS FALSE NEIGHBOUR: 'it returns false'. Refute it at one input. -/
def cursorStaysWrong : ChangeSpec := { name := "cursorStays", fn := fun _ => fun
  | [d1, d2, d3] => { results := [.lit (.bool false)], args := [d1, d2, d3] }
  | _ => none }
def CursorStaysWrongFalsely : Prop := cursorStaysRow.holds Try.pinned (OpenSpec.ofChange cursorStaysWrong)

/-- 'breviarylaw04.TreePlays': WHATEVER THE INPUT: true; the input reads as it did. -/
def treePlaysSpec : ChangeSpec := { name := "treePlays", fn := fun _ => fun
  | [d1, d2, d3] => { results := [.lit (.bool true)], args := [d1, d2, d3] }
  | _ => none }
def treePlaysRow : OpenClaim := { program := "ytbempjkkohjnbaa", sum := "72a9b928981dc077f16d198508cdd3612d3fd5abe19851dea750a52bd3fb9ca6", func := "breviary/breviarylaw04.TreePlays", spec := "treePlays", inPlace := ["slices.overlaps[breviary/tree.pair]", "slices.overlaps[*breviary/tree.node]"], unfollowed := true, recurses := true, apart := false }
def TreePlaysSaid : Prop := treePlaysRow.holds Try.pinned (OpenSpec.ofChange treePlaysSpec)

/-- ITS FALSE NEIGHBOUR: 'it returns false'. Refute it at one input. -/
def treePlaysWrong : ChangeSpec := { name := "treePlays", fn := fun _ => fun
  | [d1, d2, d3] => { results := [.lit (.bool false)], args := [d1, d2, d3] }
  | _ => none }
def TreePlaysWrongFalsely : Prop := treePlaysRow.holds Try.pinned (OpenSpec.ofChange treePlaysWrong)

/-- 'breviarylaw04.TreeBack': WHATEVER THE INPUT: true; the input reads as it did. -/
def treeBackSpec : ChangeSpec := { name := "treeBack", fn := fun _ => fun
  | [d1, d2, d3] => { results := [.lit (.bool true)], args := [d1, d2, d3] }
  | _ => none }
def treeBackRow : OpenClaim := { program := "ytbempjkkohjnbaa", sum := "72a9b928981dc077f16d198508cdd3612d3fd5abe19851dea750a52bd3fb9ca6", func := "breviary/breviarylaw04.TreeBack", spec := "treeBack", inPlace := ["slices.overlaps[breviary/tree.pair]", "slices.overlaps[*breviary/tree.node]"], unfollowed := true, recurses := true, apart := false }
def TreeBackSaid : Prop := treeBackRow.holds Try.pinned (OpenSpec.ofChange treeBackSpec)

/-- ITS FALSE NEIGHBOUR: 'it returns false'. Refute it at one input. -/
def treeBackWrong : ChangeSpec := { name := "treeBack", fn := fun _ => fun
  | [d1, d2, d3] => { results := [.lit (.bool false)], args := [d1, d2, d3] }
  | _ => none }
def TreeBackWrongFalsely : Prop := treeBackRow.holds Try.pinned (OpenSpec.ofChange treeBackWrong)

/-- 'breviarylaw05.CursorMoves': WHATEVER THE INPUT: true; the input reads as it did. -/
def cursorMovesSpec : ChangeSpec := { name := "cursorMoves", fn := fun _ => fun
  | [d1, d2, d3] => { results := [.lit (.bool true)], args := [d1, d2, d3] }
  | _ => none }
def cursorMovesRow : OpenClaim := { program := "ytbempjkkohjnbaa", sum := "72a9b928981dc077f16d198508cdd3612d3fd5abe19851dea750a52bd3fb9ca6", func := "breviary/breviarylaw05.CursorMoves", spec := "cursorMoves", inPlace := ["slices.overlaps[breviary/tree.pair]", "slices.overlaps[*breviary/tree.node]"], unfollowed := true, recurses := true, apart := false }
def CursorMovesSaid : Prop := cursorMovesRow.holds Try.pinned (OpenSpec.ofChange cursorMovesSpec)

/-- ITS FALSE NEIGHBOUR: 'it returns false'. Refute it at one input. -/
def cursorMovesWrong : ChangeSpec := { name := "cursorMoves", fn := fun _ => fun
  | [d1, d2, d3] => { results := [.lit (.bool false)], args := [d1, d2, d3] }
  | _ => none }
def CursorMovesWrongFalsely : Prop := cursorMovesRow.holds Try.pinned (OpenSpec.ofChange cursorMovesWrong)

/-- 'breviarylaw05.CursorTwo': WHATEVER THE INPUT: true; the input reads as it did. -/
def cursorTwoSpec : ChangeSpec := { name := "cursorTwo", fn := fun _ => fun
  | [d1, d2, d3] => { results := [.lit (.bool true)], args := [d1, d2, d3] }
  | _ => none }
def cursorTwoRow : OpenClaim := { program := "ytbempjkkohjnbaa", sum := "72a9b928981dc077f16d198508cdd3612d3fd5abe19851dea750a52bd3fb9ca6", func := "breviary/breviarylaw05.CursorTwo", spec := "cursorTwo", inPlace := ["slices.overlaps[breviary/tree.pair]", "slices.overlaps[*breviary/tree.node]"], unfollowed := true, recurses := true, apart := false }
def CursorTwoSaid : Prop := cursorTwoRow.holds Try.pinned (OpenSpec.ofChange cursorTwoSpec)

/-- ITS FALSE NEIGHBOUR: 'it returns false'. Refute it at one input. -/
def cursorTwoWrong : ChangeSpec := { name := "cursorTwo", fn := fun _ => fun
  | [d1, d2, d3] => { results := [.lit (.bool false)], args := [d1, d2, d3] }
  | _ => none }
def CursorTwoWrongFalsely : Prop := cursorTwoRow.holds Try.pinned (OpenSpec.ofChange cursorTwoWrong)

/-- 'breviarylaw04.TreeCopies': WHATEVER THE INPUT: true; the input reads as it did. -/
def treeCopiesSpec : ChangeSpec := { name := "treeCopies", fn := fun _ => fun
  | [d1, d2, d3] => { results := [.lit (.bool true)], args := [d1, d2, d3] }
  | _ => none }
def treeCopiesRow : OpenClaim := { program := "ytbempjkkohjnbaa", sum := "72a9b928981dc077f16d198508cdd3612d3fd5abe19851dea750a52bd3fb9ca6", func := "breviary/breviarylaw04.TreeCopies", spec := "treeCopies", inPlace := ["slices.overlaps[breviary/tree.pair]", "slices.overlaps[*breviary/tree.node]"], unfollowed := true, recurses := true, apart := false }
def TreeCopiesSaid : Prop := treeCopiesRow.holds Try.pinned (OpenSpec.ofChange treeCopiesSpec)

/-- ITS FALSE NEIGHBOUR: 'it returns false'. Refute it at one input. -/
def treeCopiesWrong : ChangeSpec := { name := "treeCopies", fn := fun _ => fun
  | [d1, d2, d3] => { results := [.lit (.bool false)], args := [d1, d2, d3] }
  | _ => none }
def TreeCopiesWrongFalsely : Prop := treeCopiesRow.holds Try.pinned (OpenSpec.ofChange treeCopiesWrong)

/-- 'breviarylaw04.TreeNil': WHATEVER THE INPUT: true; the input reads as it did. -/
def treeNilSpec : ChangeSpec := { name := "treeNil", fn := fun _ => fun
  | [d1, d2] => { results := [.lit (.bool true)], args := [d1, d2] }
  | _ => none }
def treeNilRow : OpenClaim := { program := "ytbempjkkohjnbaa", sum := "72a9b928981dc077f16d198508cdd3612d3fd5abe19851dea750a52bd3fb9ca6", func := "breviary/breviarylaw04.TreeNil", spec := "treeNil", inPlace := ["slices.overlaps[breviary/tree.pair]", "slices.overlaps[*breviary/tree.node]"], unfollowed := true, recurses := true, apart := false }
def TreeNilSaid : Prop := treeNilRow.holds Try.pinned (OpenSpec.ofChange treeNilSpec)

/-- ITS FALSE NEIGHBOUR: 'it returns false'. Refute it at one input. -/
def treeNilWrong : ChangeSpec := { name := "treeNil", fn := fun _ => fun
  | [d1, d2] => { results := [.lit (.bool false)], args := [d1, d2] }
  | _ => none }
def TreeNilWrongFalsely : Prop := treeNilRow.holds Try.pinned (OpenSpec.ofChange treeNilWrong)

/-- 'breviarylaw05.CursorWhole': WHATEVER THE INPUT: true; the input reads as it did. -/
def cursorWholeSpec : ChangeSpec := { name := "cursorWhole", fn := fun _ => fun
  | [d1, d2, d3] => { results := [.lit (.bool true)], args := [d1, d2, d3] }
  | _ => none }
def cursorWholeRow : OpenClaim := { program := "ytbempjkkohjnbaa", sum := "72a9b928981dc077f16d198508cdd3612d3fd5abe19851dea750a52bd3fb9ca6", func := "breviary/breviarylaw05.CursorWhole", spec := "cursorWhole", inPlace := ["slices.overlaps[breviary/tree.pair]", "slices.overlaps[*breviary/tree.node]"], unfollowed := true, recurses := true, apart := false }
def CursorWholeSaid : Prop := cursorWholeRow.holds Try.pinned (OpenSpec.ofChange cursorWholeSpec)

/-- ITS FALSE NEIGHBOUR: 'it returns false'. Refute it at one input. -/
def cursorWholeWrong : ChangeSpec := { name := "cursorWhole", fn := fun _ => fun
  | [d1, d2, d3] => { results := [.lit (.bool false)], args := [d1, d2, d3] }
  | _ => none }
def CursorWholeWrongFalsely : Prop := cursorWholeRow.holds Try.pinned (OpenSpec.ofChange cursorWholeWrong)

/- THE SECOND FORM. 'bulk': how many values and letters a reading holds, each counted each time it is reached (what is shared counts as often as it is met; a slice's spare places count too). A statement '..UptoSaid' is the law's where the arguments, and the package variables that the reading takes, are together of bulk at most 1048576: NARROWER than '..Said'. Prove '..Said' where nothing that the law and all that it calls make is longer than what came in: it says more and counts as full. Else prove '..UptoSaid'. A law counts once. -/
mutual
def uptoBulk {H : Type} : DataW H → Nat
  | .lit (.string bytes) => bytes.length + 1
  | .lit _ => 1
  | .nil => 1
  | .ptr d => uptoBulk d + 1
  | .slice elems spare => uptoBulkAll elems + uptoBulkAll spare + 1
  | .agg parts => uptoBulkAll parts + 1
  | .iface _ d => uptoBulk d + 1
  | .map entries => uptoBulkEntries entries + 1
  | .held _ => 1
def uptoBulkAll {H : Type} : List (DataW H) → Nat
  | [] => 0
  | d :: r => uptoBulk d + uptoBulkAll r
def uptoBulkEntries {H : Type} : List (Lit × DataW H) → Nat
  | [] => 0
  | x :: r => uptoBulkEntry x + uptoBulkEntries r
def uptoBulkEntry {H : Type} : Lit × DataW H → Nat
  | (.string bytes, d) => bytes.length + uptoBulk d + 1
  | (_, d) => uptoBulk d + 1
 end
def uptoSmall : (H : Type) → List (DataW H) → Bool := fun _ ds => decide (uptoBulkAll ds ≤ 1048576)
def OpenSpec.upto (s : _root_.Go.ChangeSpec) : _root_.Go.OpenSpec := { _root_.Go.OpenSpec.ofChange s with cond := some uptoSmall }

/-- 'breviarylaw04.TreeAny', WHERE WHAT IT READS IS OF BULK AT MOST 1048576: true; the input reads as it did. -/
def treeAnyUptoRow : OpenClaim := { program := "ytbempjkkohjnbaa", sum := "72a9b928981dc077f16d198508cdd3612d3fd5abe19851dea750a52bd3fb9ca6", func := "breviary/breviarylaw04.TreeAny", spec := "treeAny", inPlace := ["slices.overlaps[breviary/tree.pair]", "slices.overlaps[*breviary/tree.node]"], unfollowed := true, recurses := true, apart := false, narrowed := true }
def TreeAnyUptoSaid : Prop := treeAnyUptoRow.holds Try.pinned (OpenSpec.upto treeAnySpec)

/-- 'breviarylaw05.CursorNil', WHERE WHAT IT READS IS OF BULK AT MOST 1048576: true; the input reads as it did. -/
def cursorNilUptoRow : OpenClaim := { program := "ytbempjkkohjnbaa", sum := "72a9b928981dc077f16d198508cdd3612d3fd5abe19851dea750a52bd3fb9ca6", func := "breviary/breviarylaw05.CursorNil", spec := "cursorNil", inPlace := ["slices.overlaps[breviary/tree.pair]", "slices.overlaps[*breviary/tree.node]"], unfollowed := true, recurses := true, apart := false, narrowed := true }
def CursorNilUptoSaid : Prop := cursorNilUptoRow.holds Try.pinned (OpenSpec.upto cursorNilSpec)

/-- 'breviarylaw04.TreeShapes', WHERE WHAT IT READS IS OF BULK AT MOST 1048576: true; the input reads as it did. -/
def treeShapesUptoRow : OpenClaim := { program := "ytbempjkkohjnbaa", sum := "72a9b928981dc077f16d198508cdd3612d3fd5abe19851dea750a52bd3fb9ca6", func := "breviary/breviarylaw04.TreeShapes", spec := "treeShapes", inPlace := ["slices.overlaps[breviary/tree.pair]", "slices.overlaps[*breviary/tree.node]"], unfollowed := true, recurses := true, apart := false, narrowed := true }
def TreeShapesUptoSaid : Prop := treeShapesUptoRow.holds Try.pinned (OpenSpec.upto treeShapesSpec)

/-- 'breviarylaw04.TreeSteps', WHERE WHAT IT READS IS OF BULK AT MOST 1048576: true; the input reads as it did. -/
def treeStepsUptoRow : OpenClaim := { program := "ytbempjkkohjnbaa", sum := "72a9b928981dc077f16d198508cdd3612d3fd5abe19851dea750a52bd3fb9ca6", func := "breviary/breviarylaw04.TreeSteps", spec := "treeSteps", inPlace := ["slices.overlaps[breviary/tree.pair]", "slices.overlaps[*breviary/tree.node]"], unfollowed := true, recurses := true, apart := false, narrowed := true }
def TreeStepsUptoSaid : Prop := treeStepsUptoRow.holds Try.pinned (OpenSpec.upto treeStepsSpec)

/-- 'breviarylaw04.TreeOrders', WHERE WHAT IT READS IS OF BULK AT MOST 1048576: true; the input reads as it did. -/
def treeOrdersUptoRow : OpenClaim := { program := "ytbempjkkohjnbaa", sum := "72a9b928981dc077f16d198508cdd3612d3fd5abe19851dea750a52bd3fb9ca6", func := "breviary/breviarylaw04.TreeOrders", spec := "treeOrders", inPlace := ["slices.overlaps[breviary/tree.pair]", "slices.overlaps[*breviary/tree.node]"], unfollowed := true, recurses := true, apart := false, narrowed := true }
def TreeOrdersUptoSaid : Prop := treeOrdersUptoRow.holds Try.pinned (OpenSpec.upto treeOrdersSpec)

/-- 'breviarylaw05.CursorScans', WHERE WHAT IT READS IS OF BULK AT MOST 1048576: true; the input reads as it did. -/
def cursorScansUptoRow : OpenClaim := { program := "ytbempjkkohjnbaa", sum := "72a9b928981dc077f16d198508cdd3612d3fd5abe19851dea750a52bd3fb9ca6", func := "breviary/breviarylaw05.CursorScans", spec := "cursorScans", inPlace := ["slices.overlaps[breviary/tree.pair]", "slices.overlaps[*breviary/tree.node]"], unfollowed := true, recurses := true, apart := false, narrowed := true }
def CursorScansUptoSaid : Prop := cursorScansUptoRow.holds Try.pinned (OpenSpec.upto cursorScansSpec)

/-- 'breviarylaw05.CursorStays', WHERE WHAT IT READS IS OF BULK AT MOST 1048576: true; the input reads as it did. -/
def cursorStaysUptoRow : OpenClaim := { program := "ytbempjkkohjnbaa", sum := "72a9b928981dc077f16d198508cdd3612d3fd5abe19851dea750a52bd3fb9ca6", func := "breviary/breviarylaw05.CursorStays", spec := "cursorStays", inPlace := ["slices.overlaps[breviary/tree.pair]", "slices.overlaps[*breviary/tree.node]"], unfollowed := true, recurses := true, apart := false, narrowed := true }
def CursorStaysUptoSaid : Prop := cursorStaysUptoRow.holds Try.pinned (OpenSpec.upto cursorStaysSpec)

/-- 'breviarylaw04.TreePlays', WHERE WHAT IT READS IS OF BULK AT MOST 1048576: true; the input reads as it did. -/
def treePlaysUptoRow : OpenClaim := { program := "ytbempjkkohjnbaa", sum := "72a9b928981dc077f16d198508cdd3612d3fd5abe19851dea750a52bd3fb9ca6", func := "breviary/breviarylaw04.TreePlays", spec := "treePlays", inPlace := ["slices.overlaps[breviary/tree.pair]", "slices.overlaps[*breviary/tree.node]"], unfollowed := true, recurses := true, apart := false, narrowed := true }
def TreePlaysUptoSaid : Prop := treePlaysUptoRow.holds Try.pinned (OpenSpec.upto treePlaysSpec)

/-- 'breviarylaw04.TreeBack', WHERE WHAT IT READS IS OF BULK AT MOST 1048576: true; the input reads as it did. -/
def treeBackUptoRow : OpenClaim := { program := "ytbempjkkohjnbaa", sum := "72a9b928981dc077f16d198508cdd3612d3fd5abe19851dea750a52bd3fb9ca6", func := "breviary/breviarylaw04.TreeBack", spec := "treeBack", inPlace := ["slices.overlaps[breviary/tree.pair]", "slices.overlaps[*breviary/tree.node]"], unfollowed := true, recurses := true, apart := false, narrowed := true }
def TreeBackUptoSaid : Prop := treeBackUptoRow.holds Try.pinned (OpenSpec.upto treeBackSpec)

/-- 'breviarylaw05.CursorMoves', WHERE WHAT IT READS IS OF BULK AT MOST 1048576: true; the input reads as it did. -/
def cursorMovesUptoRow : OpenClaim := { program := "ytbempjkkohjnbaa", sum := "72a9b928981dc077f16d198508cdd3612d3fd5abe19851dea750a52bd3fb9ca6", func := "breviary/breviarylaw05.CursorMoves", spec := "cursorMoves", inPlace := ["slices.overlaps[breviary/tree.pair]", "slices.overlaps[*breviary/tree.node]"], unfollowed := true, recurses := true, apart := false, narrowed := true }
def CursorMovesUptoSaid : Prop := cursorMovesUptoRow.holds Try.pinned (OpenSpec.upto cursorMovesSpec)

/-- 'breviarylaw05.CursorTwo', WHERE WHAT IT READS IS OF BULK AT MOST 1048576: true; the input reads as it did. -/
def cursorTwoUptoRow : OpenClaim := { program := "ytbempjkkohjnbaa", sum := "72a9b928981dc077f16d198508cdd3612d3fd5abe19851dea750a52bd3fb9ca6", func := "breviary/breviarylaw05.CursorTwo", spec := "cursorTwo", inPlace := ["slices.overlaps[breviary/tree.pair]", "slices.overlaps[*breviary/tree.node]"], unfollowed := true, recurses := true, apart := false, narrowed := true }
def CursorTwoUptoSaid : Prop := cursorTwoUptoRow.holds Try.pinned (OpenSpec.upto cursorTwoSpec)

/-- 'breviarylaw04.TreeCopies', WHERE WHAT IT READS IS OF BULK AT MOST 1048576: true; the input reads as it did. -/
def treeCopiesUptoRow : OpenClaim := { program := "ytbempjkkohjnbaa", sum := "72a9b928981dc077f16d198508cdd3612d3fd5abe19851dea750a52bd3fb9ca6", func := "breviary/breviarylaw04.TreeCopies", spec := "treeCopies", inPlace := ["slices.overlaps[breviary/tree.pair]", "slices.overlaps[*breviary/tree.node]"], unfollowed := true, recurses := true, apart := false, narrowed := true }
def TreeCopiesUptoSaid : Prop := treeCopiesUptoRow.holds Try.pinned (OpenSpec.upto treeCopiesSpec)

/-- 'breviarylaw04.TreeNil', WHERE WHAT IT READS IS OF BULK AT MOST 1048576: true; the input reads as it did. -/
def treeNilUptoRow : OpenClaim := { program := "ytbempjkkohjnbaa", sum := "72a9b928981dc077f16d198508cdd3612d3fd5abe19851dea750a52bd3fb9ca6", func := "breviary/breviarylaw04.TreeNil", spec := "treeNil", inPlace := ["slices.overlaps[breviary/tree.pair]", "slices.overlaps[*breviary/tree.node]"], unfollowed := true, recurses := true, apart := false, narrowed := true }
def TreeNilUptoSaid : Prop := treeNilUptoRow.holds Try.pinned (OpenSpec.upto treeNilSpec)

/-- 'breviarylaw05.CursorWhole', WHERE WHAT IT READS IS OF BULK AT MOST 1048576: true; the input reads as it did. -/
def cursorWholeUptoRow : OpenClaim := { program := "ytbempjkkohjnbaa", sum := "72a9b928981dc077f16d198508cdd3612d3fd5abe19851dea750a52bd3fb9ca6", func := "breviary/breviarylaw05.CursorWhole", spec := "cursorWhole", inPlace := ["slices.overlaps[breviary/tree.pair]", "slices.overlaps[*breviary/tree.node]"], unfollowed := true, recurses := true, apart := false, narrowed := true }
def CursorWholeUptoSaid : Prop := cursorWholeUptoRow.holds Try.pinned (OpenSpec.upto cursorWholeSpec)

end Rows
end Go.Proofs.Ytbempjkkohjnbaa
