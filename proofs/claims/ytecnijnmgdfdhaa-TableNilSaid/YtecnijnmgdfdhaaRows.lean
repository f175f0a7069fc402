/-
  No cell of these rows narrows 'for every input' (looked for: loops, veiled, ifaces, maps, wideKeys, modest, calm, conditions, laid).
  DERIVED. THE GIVEN ROWS OF THIS SEAT. 7 by the template 'for every input the law returns true; each argument reads behind the call as it read before'; 0 by the template 'total and deterministic' (their statements: YtecnijnmgdfdhaaTotals.lean).
  GIVEN WITH THE SEED: the statements are not yours to turn. If you find one false, say at which input.
  Laid BY PROGRAM, IN A SANDBOX (cutbox-rows.mjs): the forced cells as the released guide's own fill.sh prints them over the translation e6f5ff29509dd37e… (all of the seat's roots in one cut). By AI agents, Wed Nov 11 2026. No macro, syntax, notation, axiom, sorry.
-/
import Derived.Test.YtecnijnmgdfdhaaChecked
import GoSem.Claim
import GoSem.ClaimJoined
import GoSem.ClaimMapViews
import Derived.JoinedTies
import Derived.KernelRfl
namespace Go.Proofs.Ytecnijnmgdfdhaa
/- THE CELL 'sum', in the pinned program and in every row, IS THE sha256 OF THE DUMP (.gsa) THAT YtecnijnmgdfdhaaProg.lean LOADS. Nothing in Lean hashes anything: it is a label: what it is worth is what the hold of that sum in a sandbox is worth. -/
noncomputable def Try.pinned : Pinned := { name := "ytecnijnmgdfdhaa", sum := "e6f5ff29509dd37e64282ec78afce1a26c543eda10b11a47a35e1754b7c13fbd", checked := Try.checked }
namespace Rows
def none {H : Type} : Left H := { results := [], args := [] }

/-- 'breviarylaw07.TableWhole': WHATEVER THE INPUT: true; the input reads as it did. -/
def tableWholeSpec : ChangeSpec := { name := "tableWhole", fn := fun _ => fun
  | [d1, d2, d3] => { results := [.lit (.bool true)], args := [d1, d2, d3] }
  | _ => none }
def tableWholeRow : OpenClaim := { program := "ytecnijnmgdfdhaa", sum := "e6f5ff29509dd37e64282ec78afce1a26c543eda10b11a47a35e1754b7c13fbd", func := "breviary/breviarylaw07.TableWhole", spec := "tableWhole", inPlace := ["slices.overlaps[breviary/tree.pair]", "slices.overlaps[*breviary/tree.node]"], unfollowed := true, recurses := true, apart := false }
def TableWholeSaid : Prop := tableWholeRow.holds Try.pinned (OpenSpec.ofChange tableWholeSpec)

/-- ITS FALSE NEIGHBOUR: 'it returns false'. Refute it at one input. -/
def tableWholeWrong : ChangeSpec := { name := "tableWhole", fn := fun _ => fun
  | [d1, d2, d3] => { results := [.lit (.bool false)], args := [d1, d2, d3] }
  | _ => none }
def TableWholeWrongFalsely : Prop := tableWholeRow.holds Try.pinned (OpenSpec.ofChange tableWholeWrong)

/-- 'breviarylaw07.TablePrefix': WHATEVER THE INPUT: true; the input reads as it did. -/
def tablePrefixSpec : ChangeSpec := { name := "tablePrefix", fn := fun _ => fun
  | [d1, d2, d3] => { results := [.lit (.bool true)], args := [d1, d2, d3] }
  | _ => none }
def tablePrefixRow : OpenClaim := { program := "ytecnijnmgdfdhaa", sum := "e6f5ff29509dd37e64282ec78afce1a26c543eda10b11a47a35e1754b7c13fbd", func := "breviary/breviarylaw07.TablePrefix", spec := "tablePrefix", inPlace := ["slices.overlaps[breviary/tree.pair]", "slices.overlaps[*breviary/tree.node]"], unfollowed := true, recurses := true, apart := false }
def TablePrefixSaid : Prop := tablePrefixRow.holds Try.pinned (OpenSpec.ofChange tablePrefixSpec)

/-- ITS FALSE NEIGHBOUR: 'it returns false'. Refute it at one input. -/
def tablePrefixWrong : ChangeSpec := { name := "tablePrefix", fn := fun _ => fun
  | [d1, d2, d3] => { results := [.lit (.bool false)], args := [d1, d2, d3] }
  | _ => none }
def TablePrefixWrongFalsely : Prop := tablePrefixRow.holds Try.pinned (OpenSpec.ofChange tablePrefixWrong)

/-- 'breviarylaw07.TablePlays': WHATEVER THE INPUT: true; the input reads as it did. -/
def tablePlaysSpec : ChangeSpec := { name := "tablePlays", fn := fun _ => fun
  | [d1, d2] => { results := [.lit (.bool true)], args := [d1, d2] }
  | _ => none }
def tablePlaysRow : OpenClaim := { program := "ytecnijnmgdfdhaa", sum := "e6f5ff29509dd37e64282ec78afce1a26c543eda10b11a47a35e1754b7c13fbd", func := "breviary/breviarylaw07.TablePlays", spec := "tablePlays", inPlace := ["slices.overlaps[breviary/tree.pair]", "slices.overlaps[*breviary/tree.node]"], unfollowed := true, recurses := true, apart := false }
def TablePlaysSaid : Prop := tablePlaysRow.holds Try.pinned (OpenSpec.ofChange tablePlaysSpec)

/-- ITS FALSE NEIGHBOUR: 'it returns false'. Refute it at one input. -/
def tablePlaysWrong : ChangeSpec := { name := "tablePlays", fn := fun _ => fun
  | [d1, d2] => { results := [.lit (.bool false)], args := [d1, d2] }
  | _ => none }
def TablePlaysWrongFalsely : Prop := tablePlaysRow.holds Try.pinned (OpenSpec.ofChange tablePlaysWrong)

/-- 'breviarylaw07.TableFinds': WHATEVER THE INPUT: true; the input reads as it did. -/
def tableFindsSpec : ChangeSpec := { name := "tableFinds", fn := fun _ => fun
  | [d1, d2, d3] => { results := [.lit (.bool true)], args := [d1, d2, d3] }
  | _ => none }
def tableFindsRow : OpenClaim := { program := "ytecnijnmgdfdhaa", sum := "e6f5ff29509dd37e64282ec78afce1a26c543eda10b11a47a35e1754b7c13fbd", func := "breviary/breviarylaw07.TableFinds", spec := "tableFinds", inPlace := ["slices.overlaps[breviary/tree.pair]", "slices.overlaps[*breviary/tree.node]"], unfollowed := true, recurses := true, apart := false }
def TableFindsSaid : Prop := tableFindsRow.holds Try.pinned (OpenSpec.ofChange tableFindsSpec)

/-- ITS FALSE NEIGHBOUR: 'it returns false'. Refute it at one input. -/
def tableFindsWrong : ChangeSpec := { name := "tableFinds", fn := fun _ => fun
  | [d1, d2, d3] => { results := [.lit (.bool false)], args := [d1, d2, d3] }
  | _ => none }
def TableFindsWrongFalsely : Prop := tableFindsRow.holds Try.pinned (OpenSpec.ofChange tableFindsWrong)

/-- 'breviarylaw07.TableBack': WHATEVER THE INPUT: true; the input reads as it did. -/
def tableBackSpec : ChangeSpec := { name := "tableBack", fn := fun _ => fun
  | [d1, d2, d3] => { results := [.lit (.bool true)], args := [d1, d2, d3] }
  | _ => none }
def tableBackRow : OpenClaim := { program := "ytecnijnmgdfdhaa", sum := "e6f5ff29509dd37e64282ec78afce1a26c543eda10b11a47a35e1754b7c13fbd", func := "breviary/breviarylaw07.TableBack", spec := "tableBack", inPlace := ["slices.overlaps[breviary/tree.pair]", "slices.overlaps[*breviary/tree.node]"], unfollowed := true, recurses := true, apart := false }
def TableBackSaid : Prop := tableBackRow.holds Try.pinned (OpenSpec.ofChange tableBackSpec)

/-- ITS FALSE NEIGHBOUR: 'it returns false'. Refute it at one input. -/
def tableBackWrong : ChangeSpec := { name := "tableBack", fn := fun _ => fun
  | [d1, d2, d3] => { results := [.lit (.bool false)], args := [d1, d2, d3] }
  | _ => none }
def TableBackWrongFalsely : Prop := tableBackRow.holds Try.pinned (OpenSpec.ofChange tableBackWrong)

/-- 'breviarylaw07.TableCommutes': WHATEVER THE INPUT: true; the input reads as it did. -/
def tableCommutesSpec : ChangeSpec := { name := "tableCommutes", fn := fun _ => fun
  | [d1, d2, d3] => { results := [.lit (.bool true)], args := [d1, d2, d3] }
  | _ => none }
def tableCommutesRow : OpenClaim := { program := "ytecnijnmgdfdhaa", sum := "e6f5ff29509dd37e64282ec78afce1a26c543eda10b11a47a35e1754b7c13fbd", func := "breviary/breviarylaw07.TableCommutes", spec := "tableCommutes", inPlace := ["slices.overlaps[breviary/tree.pair]", "slices.overlaps[*breviary/tree.node]"], unfollowed := true, recurses := true, apart := false }
def TableCommutesSaid : Prop := tableCommutesRow.holds Try.pinned (OpenSpec.ofChange tableCommutesSpec)

/-- ITS FALSE NEIGHBOUR: 'it returns false'. Refute it at one input. -/
def tableCommutesWrong : ChangeSpec := { name := "tableCommutes", fn := fun _ => fun
  | [d1, d2, d3] => { results := [.lit (.bool false)], args := [d1, d2, d3] }
  | _ => none }
def TableCommutesWrongFalsely : Prop := tableCommutesRow.holds Try.pinned (OpenSpec.ofChange tableCommutesWrong)

/-- 'breviarylaw07.TableNil': WHATEVER THE INPUT: true; the input reads as it did. -/
def tableNilSpec : ChangeSpec := { name := "tableNil", fn := fun _ => fun
  | [d1, d2] => { results := [.lit (.bool true)], args := [d1, d2] }
  | _ => none }
def tableNilRow : OpenClaim := { program := "ytecnijnmgdfdhaa", sum := "e6f5ff29509dd37e64282ec78afce1a26c543eda10b11a47a35e1754b7c13fbd", func := "breviary/breviarylaw07.TableNil", spec := "tableNil", inPlace := ["slices.overlaps[breviary/tree.pair]", "slices.overlaps[*breviary/tree.node]"], unfollowed := true, recurses := true, apart := false }
def TableNilSaid : Prop := tableNilRow.holds Try.pinned (OpenSpec.ofChange tableNilSpec)

/-- ITS FALSE NEIGHBOUR: 'it returns false'. Refute it at one input. -/
def tableNilWrong : ChangeSpec := { name := "tableNil", fn := fun _ => fun
  | [d1, d2] => { results := [.lit (.bool false)], args := [d1, d2] }
  | _ => none }
def TableNilWrongFalsely : Prop := tableNilRow.holds Try.pinned (OpenSpec.ofChange tableNilWrong)

/- THE SECOND FORM. 'bulk': how many values and letters a reading holds, each counted each time it is reached (what is shared counts as often as it is met; a slice's spare places count too). A statement '..UptoSaid' is the law's where the arguments, and the package variables that the reading takes, are together of bulk at most 1048576: NARROWER than '..Said'. Prove '..Said' where nothing that the law and all that it calls make is longer than what came in: it says more and counts as full. Else prove '..UptoSaid'. A law counts once. -/
mutual
def uptoBulk {H : Type} : DataW H → Nat
  | .lit (.string bytes) => bytes.length + 1
  | .lit _ => 1
  | .nil => 1
  | .ptr d => uptoBulk d + 1
  | .slice elems spare => uptoBulkAll elems + uptoBulkAll spare + 1
  | .agg parts => uptoBulkAll parts + 1
  | .iface _ d => uptoBulk d + 1
  | .map entries => uptoBulkEntries entries + 1
  | .held _ => 1
def uptoBulkAll {H : Type} : List (DataW H) → Nat
  | [] => 0
  | d :: r => uptoBulk d + uptoBulkAll r
def uptoBulkEntries {H : Type} : List (Lit × DataW H) → Nat
  | [] => 0
  | x :: r => uptoBulkEntry x + uptoBulkEntries r
def uptoBulkEntry {H : Type} : Lit × DataW H → Nat
  | (.string bytes, d) => bytes.length + uptoBulk d + 1
  | (_, d) => uptoBulk d + 1
 end
def uptoSmall : (H : Type) → List (DataW H) → Bool := fun _ ds => decide (uptoBulkAll ds ≤ 1048576)
def OpenSpec.upto (s : _root_.Go.ChangeSpec) : _root_.Go.OpenSpec := { _root_.Go.OpenSpec.ofChange s with cond := some uptoSmall }

/-- 'breviarylaw07.TableWhole', WHERE WHAT IT READS IS OF BULK AT MOST 1048576: true; the input reads as it did. -/
def tableWholeUptoRow : OpenClaim := { program := "ytecnijnmgdfdhaa", sum := "e6f5ff29509dd37e64282ec78afce1a26c543eda10b11a47a35e1754b7c13fbd", func := "breviary/breviarylaw07.TableWhole", spec := "tableWhole", inPlace := ["slices.overlaps[breviary/tree.pair]", "slices.overlaps[*breviary/tree.node]"], unfollowed := true, recurses := true, apart := false, narrowed := true }
def TableWholeUptoSaid : Prop := tableWholeUptoRow.holds Try.pinned (OpenSpec.upto tableWholeSpec)

/-- 'breviarylaw07.TablePrefix', WHERE WHAT IT READS IS OF BULK AT MOST 1048576: true; the input reads as it did. -/
def tablePrefixUptoRow : OpenClaim := { program := "ytecnijnmgdfdhaa", sum := "e6f5ff29509dd37e64282ec78afce1a26c543eda10b11a47a35e1754b7c13fbd", func := "breviary/breviarylaw07.TablePrefix", spec := "tablePrefix", inPlace := ["slices.overlaps[breviary/tree.pair]", "slices.overlaps[*breviary/tree.node]"], unfollowed := true, recurses := true, apart := false, narrowed := true }
def TablePrefixUptoSaid : Prop := tablePrefixUptoRow.holds Try.pinned (OpenSpec.upto tablePrefixSpec)

/-- 'breviarylaw07.TablePlays', WHERE WHAT IT READS IS OF BULK AT MOST 1048576: true; the input reads as it did. -/
def tablePlaysUptoRow : OpenClaim := { program := "ytecnijnmgdfdhaa", sum := "e6f5ff29509dd37e64282ec78afce1a26c543eda10b11a47a35e1754b7c13fbd", func := "breviary/breviarylaw07.TablePlays", spec := "tablePlays", inPlace := ["slices.overlaps[breviary/tree.pair]", "slices.overlaps[*breviary/tree.node]"], unfollowed := true, recurses := true, apart := false, narrowed := true }
def TablePlaysUptoSaid : Prop := tablePlaysUptoRow.holds Try.pinned (OpenSpec.upto tablePlaysSpec)

/-- 'breviarylaw07.TableFinds', WHERE WHAT IT READS IS OF BULK AT MOST 1048576: true; the input reads as it did. -/
def tableFindsUptoRow : OpenClaim := { program := "ytecnijnmgdfdhaa", sum := "e6f5ff29509dd37e64282ec78afce1a26c543eda10b11a47a35e1754b7c13fbd", func := "breviary/breviarylaw07.TableFinds", spec := "tableFinds", inPlace := ["slices.overlaps[breviary/tree.pair]", "slices.overlaps[*breviary/tree.node]"], unfollowed := true, recurses := true, apart := false, narrowed := true }
def TableFindsUptoSaid : Prop := tableFindsUptoRow.holds Try.pinned (OpenSpec.upto tableFindsSpec)

/-- 'breviarylaw07.TableBack', WHERE WHAT IT READS IS OF BULK AT MOST 1048576: true; the input reads as it did. -/
def tableBackUptoRow : OpenClaim := { program := "ytecnijnmgdfdhaa", sum := "e6f5ff29509dd37e64282ec78afce1a26c543eda10b11a47a35e1754b7c13fbd", func := "breviary/breviarylaw07.TableBack", spec := "tableBack", inPlace := ["slices.overlaps[breviary/tree.pair]", "slices.overlaps[*breviary/tree.node]"], unfollowed := true, recurses := true, apart := false, narrowed := true }
def TableBackUptoSaid : Prop := tableBackUptoRow.holds Try.pinned (OpenSpec.upto tableBackSpec)

/-- 'breviarylaw07.TableCommutes', WHERE WHAT IT READS IS OF BULK AT MOST 1048576: true; the input reads as it did. -/
def tableCommutesUptoRow : OpenClaim := { program := "ytecnijnmgdfdhaa", sum := "e6f5ff29509dd37e64282ec78afce1a26c543eda10b11a47a35e1754b7c13fbd", func := "breviary/breviarylaw07.TableCommutes", spec := "tableCommutes", inPlace := ["slices.overlaps[breviary/tree.pair]", "slices.overlaps[*breviary/tree.node]"], unfollowed := true, recurses := true, apart := false, narrowed := true }
def TableCommutesUptoSaid : Prop := tableCommutesUptoRow.holds Try.pinned (OpenSpec.upto tableCommutesSpec)

/-- 'breviarylaw07.TableNil', WHERE WHAT IT READS IS OF BULK AT MOST 1048576: true; the input reads as it did. -/
def tableNilUptoRow : OpenClaim := { program := "ytecnijnmgdfdhaa", sum := "e6f5ff29509dd37e64282ec78afce1a26c543eda10b11a47a35e1754b7c13fbd", func := "breviary/breviarylaw07.TableNil", spec := "tableNil", inPlace := ["slices.overlaps[breviary/tree.pair]", "slices.overlaps[*breviary/tree.node]"], unfollowed := true, recurses := true, apart := false, narrowed := true }
def TableNilUptoSaid : Prop := tableNilUptoRow.holds Try.pinned (OpenSpec.upto tableNilSpec)

end Rows
end Go.Proofs.Ytecnijnmgdfdhaa
