/-
  No cell of these rows narrows 'for every input' (looked for: loops, veiled, ifaces, maps, wideKeys, modest, calm, conditions, laid).
  DERIVED. THE GIVEN ROWS OF THIS SEAT. 12 by the template 'for every input the law returns true; each argument reads behind the call as it read before'; 0 by the template 'total and deterministic' (their statements: YtapjdcofnigjhaaTotals.lean).
  GIVEN WITH THE SEED: the statements are not yours to turn. If you find one false, say at which input.
  Laid BY PROGRAM, IN A SANDBOX (cutbox-rows.mjs): the forced cells as the released guide's own fill.sh prints them over the translation 3cd0ea06e54fdced… (all of the seat's roots in one cut). By AI agents, Wed Nov 11 2026. No macro, syntax, notation, axiom, sorry.
-/
import Derived.Test.YtapjdcofnigjhaaChecked
import GoSem.Claim
import GoSem.ClaimJoined
import GoSem.ClaimMapViews
import Derived.JoinedTies
import Derived.KernelRfl
namespace Go.Proofs.Ytapjdcofnigjhaa
/- THE CELL 'sum', in the pinned program and in every row, IS THE sha256 OF THE DUMP (.gsa) THAT YtapjdcofnigjhaaProg.lean LOADS. Nothing in Lean hashes anything: it is a label: what it is worth is what the hold of that sum in a sandbox is worth. -/
noncomputable def Try.pinned : Pinned := { name := "ytapjdcofnigjhaa", sum := "3cd0ea06e54fdcede01b89675fa002a47a23be7c083be064659f05684e787dfd", checked := Try.checked }
namespace Rows
def none {H : Type} : Left H := { results := [], args := [] }

/-- 'breviarylaw06.RowsEncode': WHATEVER THE INPUT: true; the input reads as it did. -/
def rowsEncodeSpec : ChangeSpec := { name := "rowsEncode", fn := fun _ => fun
  | [d] => { results := [.lit (.bool true)], args := [d] }
  | _ => none }
def rowsEncodeRow : OpenClaim := { program := "ytapjdcofnigjhaa", sum := "3cd0ea06e54fdcede01b89675fa002a47a23be7c083be064659f05684e787dfd", func := "breviary/breviarylaw06.RowsEncode", spec := "rowsEncode", unfollowed := true, recurses := true, apart := false }
def RowsEncodeSaid : Prop := rowsEncodeRow.holds Try.pinned (OpenSpec.ofChange rowsEncodeSpec)

/-- ITS FALSE NEIGHBOUR: 'it returns false'. Refute it at one input. -/
def rowsEncodeWrong : ChangeSpec := { name := "rowsEncode", fn := fun _ => fun
  | [d] => { results := [.lit (.bool false)], args := [d] }
  | _ => none }
def RowsEncodeWrongFalsely : Prop := rowsEncodeRow.holds Try.pinned (OpenSpec.ofChange rowsEncodeWrong)

/-- 'breviarylaw06.RowsChange': WHATEVER THE INPUT: true; the input reads as it did. -/
def rowsChangeSpec : ChangeSpec := { name := "rowsChange", fn := fun _ => fun
  | [d1, d2] => { results := [.lit (.bool true)], args := [d1, d2] }
  | _ => none }
def rowsChangeRow : OpenClaim := { program := "ytapjdcofnigjhaa", sum := "3cd0ea06e54fdcede01b89675fa002a47a23be7c083be064659f05684e787dfd", func := "breviary/breviarylaw06.RowsChange", spec := "rowsChange", unfollowed := true, recurses := true, apart := false }
def RowsChangeSaid : Prop := rowsChangeRow.holds Try.pinned (OpenSpec.ofChange rowsChangeSpec)

/-- ITS FALSE NEIGHBOUR: 'it returns false'. Refute it at one input. -/
def rowsChangeWrong : ChangeSpec := { name := "rowsChange", fn := fun _ => fun
  | [d1, d2] => { results := [.lit (.bool false)], args := [d1, d2] }
  | _ => none }
def RowsChangeWrongFalsely : Prop := rowsChangeRow.holds Try.pinned (OpenSpec.ofChange rowsChangeWrong)

/-- 'breviarylaw06.RowsTwice': WHATEVER THE INPUT: true; the input reads as it did. -/
def rowsTwiceSpec : ChangeSpec := { name := "rowsTwice", fn := fun _ => fun
  | [d1, d2] => { results := [.lit (.bool true)], args := [d1, d2] }
  | _ => none }
def rowsTwiceRow : OpenClaim := { program := "ytapjdcofnigjhaa", sum := "3cd0ea06e54fdcede01b89675fa002a47a23be7c083be064659f05684e787dfd", func := "breviary/breviarylaw06.RowsTwice", spec := "rowsTwice", unfollowed := true, recurses := true, apart := false }
def RowsTwiceSaid : Prop := rowsTwiceRow.holds Try.pinned (OpenSpec.ofChange rowsTwiceSpec)

/-- ITS FALSE NEIGHBOUR: 'it returns false'. Refute it at one input. -/
def rowsTwiceWrong : ChangeSpec := { name := "rowsTwice", fn := fun _ => fun
  | [d1, d2] => { results := [.lit (.bool false)], args := [d1, d2] }
  | _ => none }
def RowsTwiceWrongFalsely : Prop := rowsTwiceRow.holds Try.pinned (OpenSpec.ofChange rowsTwiceWrong)

/-- 'breviarylaw06.RowsApply': WHATEVER THE INPUT: true; the input reads as it did. -/
def rowsApplySpec : ChangeSpec := { name := "rowsApply", fn := fun _ => fun
  | [d1, d2] => { results := [.lit (.bool true)], args := [d1, d2] }
  | _ => none }
def rowsApplyRow : OpenClaim := { program := "ytapjdcofnigjhaa", sum := "3cd0ea06e54fdcede01b89675fa002a47a23be7c083be064659f05684e787dfd", func := "breviary/breviarylaw06.RowsApply", spec := "rowsApply", unfollowed := true, recurses := true, apart := false }
def RowsApplySaid : Prop := rowsApplyRow.holds Try.pinned (OpenSpec.ofChange rowsApplySpec)

/-- ITS FALSE NEIGHBOUR: 'it returns false'. Refute it at one input. -/
def rowsApplyWrong : ChangeSpec := { name := "rowsApply", fn := fun _ => fun
  | [d1, d2] => { results := [.lit (.bool false)], args := [d1, d2] }
  | _ => none }
def RowsApplyWrongFalsely : Prop := rowsApplyRow.holds Try.pinned (OpenSpec.ofChange rowsApplyWrong)

/-- 'breviarylaw02.FieldWrites': WHATEVER THE INPUT: true; the input reads as it did. -/
def fieldWritesSpec : ChangeSpec := { name := "fieldWrites", fn := fun _ => fun
  | [d] => { results := [.lit (.bool true)], args := [d] }
  | _ => none }
def fieldWritesRow : OpenClaim := { program := "ytapjdcofnigjhaa", sum := "3cd0ea06e54fdcede01b89675fa002a47a23be7c083be064659f05684e787dfd", func := "breviary/breviarylaw02.FieldWrites", spec := "fieldWrites", unfollowed := true, recurses := true, apart := false }
def FieldWritesSaid : Prop := fieldWritesRow.holds Try.pinned (OpenSpec.ofChange fieldWritesSpec)

/-- ITS FALSE NEIGHBOUR: 'it returns false'. Refute it at one input. -/
def fieldWritesWrong : ChangeSpec := { name := "fieldWrites", fn := fun _ => fun
  | [d] => { results := [.lit (.bool false)], args := [d] }
  | _ => none }
def FieldWritesWrongFalsely : Prop := fieldWritesRow.holds Try.pinned (OpenSpec.ofChange fieldWritesWrong)

/-- 'breviarylaw02.FieldReads': WHATEVER THE INPUT: true; the input reads as it did. -/
def fieldReadsSpec : ChangeSpec := { name := "fieldReads", fn := fun _ => fun
  | [d1, d2] => { results := [.lit (.bool true)], args := [d1, d2] }
  | _ => none }
def fieldReadsRow : OpenClaim := { program := "ytapjdcofnigjhaa", sum := "3cd0ea06e54fdcede01b89675fa002a47a23be7c083be064659f05684e787dfd", func := "breviary/breviarylaw02.FieldReads", spec := "fieldReads", unfollowed := true, recurses := true, apart := false }
def FieldReadsSaid : Prop := fieldReadsRow.holds Try.pinned (OpenSpec.ofChange fieldReadsSpec)

/-- ITS FALSE NEIGHBOUR: 'it returns false'. Refute it at one input. -/
def fieldReadsWrong : ChangeSpec := { name := "fieldReads", fn := fun _ => fun
  | [d1, d2] => { results := [.lit (.bool false)], args := [d1, d2] }
  | _ => none }
def FieldReadsWrongFalsely : Prop := fieldReadsRow.holds Try.pinned (OpenSpec.ofChange fieldReadsWrong)

/-- 'breviarylaw02.FieldBack': WHATEVER THE INPUT: true; the input reads as it did. -/
def fieldBackSpec : ChangeSpec := { name := "fieldBack", fn := fun _ => fun
  | [d] => { results := [.lit (.bool true)], args := [d] }
  | _ => none }
def fieldBackRow : OpenClaim := { program := "ytapjdcofnigjhaa", sum := "3cd0ea06e54fdcede01b89675fa002a47a23be7c083be064659f05684e787dfd", func := "breviary/breviarylaw02.FieldBack", spec := "fieldBack", unfollowed := true, recurses := true, apart := false }
def FieldBackSaid : Prop := fieldBackRow.holds Try.pinned (OpenSpec.ofChange fieldBackSpec)

/-- ITS FALSE NEIGHBOUR: 'it returns false'. Refute it at one input. -/
def fieldBackWrong : ChangeSpec := { name := "fieldBack", fn := fun _ => fun
  | [d] => { results := [.lit (.bool false)], args := [d] }
  | _ => none }
def FieldBackWrongFalsely : Prop := fieldBackRow.holds Try.pinned (OpenSpec.ofChange fieldBackWrong)

/-- 'breviarylaw02.FieldOne': WHATEVER THE INPUT: true; the input reads as it did. -/
def fieldOneSpec : ChangeSpec := { name := "fieldOne", fn := fun _ => fun
  | [d1, d2] => { results := [.lit (.bool true)], args := [d1, d2] }
  | _ => none }
def fieldOneRow : OpenClaim := { program := "ytapjdcofnigjhaa", sum := "3cd0ea06e54fdcede01b89675fa002a47a23be7c083be064659f05684e787dfd", func := "breviary/breviarylaw02.FieldOne", spec := "fieldOne", unfollowed := true, recurses := true, apart := false }
def FieldOneSaid : Prop := fieldOneRow.holds Try.pinned (OpenSpec.ofChange fieldOneSpec)

/-- ITS FALSE NEIGHBOUR: 'it returns false'. Refute it at one input. -/
def fieldOneWrong : ChangeSpec := { name := "fieldOne", fn := fun _ => fun
  | [d1, d2] => { results := [.lit (.bool false)], args := [d1, d2] }
  | _ => none }
def FieldOneWrongFalsely : Prop := fieldOneRow.holds Try.pinned (OpenSpec.ofChange fieldOneWrong)

/-- 'breviarylaw02.FieldNil': WHATEVER THE INPUT: true; the input reads as it did. -/
def fieldNilSpec : ChangeSpec := { name := "fieldNil", fn := fun _ => fun
  | [d1, d2] => { results := [.lit (.bool true)], args := [d1, d2] }
  | _ => none }
def fieldNilRow : OpenClaim := { program := "ytapjdcofnigjhaa", sum := "3cd0ea06e54fdcede01b89675fa002a47a23be7c083be064659f05684e787dfd", func := "breviary/breviarylaw02.FieldNil", spec := "fieldNil", unfollowed := true, recurses := true, apart := false }
def FieldNilSaid : Prop := fieldNilRow.holds Try.pinned (OpenSpec.ofChange fieldNilSpec)

/-- ITS FALSE NEIGHBOUR: 'it returns false'. Refute it at one input. -/
def fieldNilWrong : ChangeSpec := { name := "fieldNil", fn := fun _ => fun
  | [d1, d2] => { results := [.lit (.bool false)], args := [d1, d2] }
  | _ => none }
def FieldNilWrongFalsely : Prop := fieldNilRow.holds Try.pinned (OpenSpec.ofChange fieldNilWrong)

/-- 'breviarylaw02.FieldGrows': WHATEVER THE INPUT: true; the input reads as it did. -/
def fieldGrowsSpec : ChangeSpec := { name := "fieldGrows", fn := fun _ => fun
  | [d1, d2, d3] => { results := [.lit (.bool true)], args := [d1, d2, d3] }
  | _ => none }
def fieldGrowsRow : OpenClaim := { program := "ytapjdcofnigjhaa", sum := "3cd0ea06e54fdcede01b89675fa002a47a23be7c083be064659f05684e787dfd", func := "breviary/breviarylaw02.FieldGrows", spec := "fieldGrows", unfollowed := true, recurses := true, apart := false }
def FieldGrowsSaid : Prop := fieldGrowsRow.holds Try.pinned (OpenSpec.ofChange fieldGrowsSpec)

/-- ITS FALSE NEIGHBOUR: 'it returns false'. Refute it at one input. -/
def fieldGrowsWrong : ChangeSpec := { name := "fieldGrows", fn := fun _ => fun
  | [d1, d2, d3] => { results := [.lit (.bool false)], args := [d1, d2, d3] }
  | _ => none }
def FieldGrowsWrongFalsely : Prop := fieldGrowsRow.holds Try.pinned (OpenSpec.ofChange fieldGrowsWrong)

/-- 'breviarylaw06.RowsDecode': WHATEVER THE INPUT: true; the input reads as it did. -/
def rowsDecodeSpec : ChangeSpec := { name := "rowsDecode", fn := fun _ => fun
  | [d] => { results := [.lit (.bool true)], args := [d] }
  | _ => none }
def rowsDecodeRow : OpenClaim := { program := "ytapjdcofnigjhaa", sum := "3cd0ea06e54fdcede01b89675fa002a47a23be7c083be064659f05684e787dfd", func := "breviary/breviarylaw06.RowsDecode", spec := "rowsDecode", unfollowed := true, recurses := true, apart := false }
def RowsDecodeSaid : Prop := rowsDecodeRow.holds Try.pinned (OpenSpec.ofChange rowsDecodeSpec)

/-- ITS FALSE NEIGHBOUR: 'it returns false'. Refute it at one input. -/
def rowsDecodeWrong : ChangeSpec := { name := "rowsDecode", fn := fun _ => fun
  | [d] => { results := [.lit (.bool false)], args := [d] }
  | _ => none }
def RowsDecodeWrongFalsely : Prop := rowsDecodeRow.holds Try.pinned (OpenSpec.ofChange rowsDecodeWrong)

/-- 'breviarylaw06.RowsBack': WHATEVER THE INPUT: true; the input reads as it did. -/
def rowsBackSpec : ChangeSpec := { name := "rowsBack", fn := fun _ => fun
  | [d1, d2] => { results := [.lit (.bool true)], args := [d1, d2] }
  | _ => none }
def rowsBackRow : OpenClaim := { program := "ytapjdcofnigjhaa", sum := "3cd0ea06e54fdcede01b89675fa002a47a23be7c083be064659f05684e787dfd", func := "breviary/breviarylaw06.RowsBack", spec := "rowsBack", unfollowed := true, recurses := true, apart := false }
def RowsBackSaid : Prop := rowsBackRow.holds Try.pinned (OpenSpec.ofChange rowsBackSpec)

/-- ITS FALSE NEIGHBOUR: 'it returns false'. Refute it at one input. -/
def rowsBackWrong : ChangeSpec := { name := "rowsBack", fn := fun _ => fun
  | [d1, d2] => { results := [.lit (.bool false)], args := [d1, d2] }
  | _ => none }
def RowsBackWrongFalsely : Prop := rowsBackRow.holds Try.pinned (OpenSpec.ofChange rowsBackWrong)

/- THE SECOND FORM. 'bulk': how many values and letters a reading holds, each counted each time it is reached (what is shared counts as often as it is met; a slice's spare places count too). A statement '..UptoSaid' is the law's where the arguments, and the package variables that the reading takes, are together of bulk at most 1048576: NARROWER than '..Said'. Prove '..Said' where nothing that the law and all that it calls make is longer than what came in: it says more and counts as full. Else prove '..UptoSaid'. A law counts once. -/
mutual
def uptoBulk {H : Type} : DataW H → Nat
  | .lit (.string bytes) => bytes.length + 1
  | .lit _ => 1
  | .nil => 1
  | .ptr d => uptoBulk d + 1
  | .slice elems spare => uptoBulkAll elems + uptoBulkAll spare + 1
  | .agg parts => uptoBulkAll parts + 1
  | .iface _ d => uptoBulk d + 1
  | .map entries => uptoBulkEntries entries + 1
  | .held _ => 1
def uptoBulkAll {H : Type} : List (DataW H) → Nat
  | [] => 0
  | d :: r => uptoBulk d + uptoBulkAll r
def uptoBulkEntries {H : Type} : List (Lit × DataW H) → Nat
  | [] => 0
  | x :: r => uptoBulkEntry x + uptoBulkEntries r
def uptoBulkEntry {H : Type} : Lit × DataW H → Nat
  | (.string bytes, d) => bytes.length + uptoBulk d + 1
  | (_, d) => uptoBulk d + 1
 end
def uptoSmall : (H : Type) → List (DataW H) → Bool := fun _ ds => decide (uptoBulkAll ds ≤ 1048576)
def OpenSpec.upto (s : _root_.Go.ChangeSpec) : _root_.Go.OpenSpec := { _root_.Go.OpenSpec.ofChange s with cond := some uptoSmall }

/-- 'breviarylaw06.RowsEncode', WHERE WHAT IT READS IS OF BULK AT MOST 1048576: true; the input reads as it did. -/
def rowsEncodeUptoRow : OpenClaim := { program := "ytapjdcofnigjhaa", sum := "3cd0ea06e54fdcede01b89675fa002a47a23be7c083be064659f05684e787dfd", func := "breviary/breviarylaw06.RowsEncode", spec := "rowsEncode", unfollowed := true, recurses := true, apart := false, narrowed := true }
def RowsEncodeUptoSaid : Prop := rowsEncodeUptoRow.holds Try.pinned (OpenSpec.upto rowsEncodeSpec)

/-- 'breviarylaw06.RowsChange', WHERE WHAT IT READS IS OF BULK AT MOST 1048576: true; the input reads as it did. -/
def rowsChangeUptoRow : OpenClaim := { program := "ytapjdcofnigjhaa", sum := "3cd0ea06e54fdcede01b89675fa002a47a23be7c083be064659f05684e787dfd", func := "breviary/breviarylaw06.RowsChange", spec := "rowsChange", unfollowed := true, recurses := true, apart := false, narrowed := true }
def RowsChangeUptoSaid : Prop := rowsChangeUptoRow.holds Try.pinned (OpenSpec.upto rowsChangeSpec)

/-- 'breviarylaw06.RowsTwice', WHERE WHAT IT READS IS OF BULK AT MOST 1048576: true; the input reads as it did. -/
def rowsTwiceUptoRow : OpenClaim := { program := "ytapjdcofnigjhaa", sum := "3cd0ea06e54fdcede01b89675fa002a47a23be7c083be064659f05684e787dfd", func := "breviary/breviarylaw06.RowsTwice", spec := "rowsTwice", unfollowed := true, recurses := true, apart := false, narrowed := true }
def RowsTwiceUptoSaid : Prop := rowsTwiceUptoRow.holds Try.pinned (OpenSpec.upto rowsTwiceSpec)

/-- 'breviarylaw06.RowsApply', WHERE WHAT IT READS IS OF BULK AT MOST 1048576: true; the input reads as it did. -/
def rowsApplyUptoRow : OpenClaim := { program := "ytapjdcofnigjhaa", sum := "3cd0ea06e54fdcede01b89675fa002a47a23be7c083be064659f05684e787dfd", func := "breviary/breviarylaw06.RowsApply", spec := "rowsApply", unfollowed := true, recurses := true, apart := false, narrowed := true }
def RowsApplyUptoSaid : Prop := rowsApplyUptoRow.holds Try.pinned (OpenSpec.upto rowsApplySpec)

/-- 'breviarylaw02.FieldWrites', WHERE WHAT IT READS IS OF BULK AT MOST 1048576: true; the input reads as it did. -/
def fieldWritesUptoRow : OpenClaim := { program := "ytapjdcofnigjhaa", sum := "3cd0ea06e54fdcede01b89675fa002a47a23be7c083be064659f05684e787dfd", func := "breviary/breviarylaw02.FieldWrites", spec := "fieldWrites", unfollowed := true, recurses := true, apart := false, narrowed := true }
def FieldWritesUptoSaid : Prop := fieldWritesUptoRow.holds Try.pinned (OpenSpec.upto fieldWritesSpec)

/-- 'breviarylaw02.FieldReads', WHERE WHAT IT READS IS OF BULK AT MOST 1048576: true; the input reads as it did. -/
def fieldReadsUptoRow : OpenClaim := { program := "ytapjdcofnigjhaa", sum := "3cd0ea06e54fdcede01b89675fa002a47a23be7c083be064659f05684e787dfd", func := "breviary/breviarylaw02.FieldReads", spec := "fieldReads", unfollowed := true, recurses := true, apart := false, narrowed := true }
def FieldReadsUptoSaid : Prop := fieldReadsUptoRow.holds Try.pinned (OpenSpec.upto fieldReadsSpec)

/-- 'breviarylaw02.FieldBack', WHERE WHAT IT READS IS OF BULK AT MOST 1048576: true; the input reads as it did. -/
def fieldBackUptoRow : OpenClaim := { program := "ytapjdcofnigjhaa", sum := "3cd0ea06e54fdcede01b89675fa002a47a23be7c083be064659f05684e787dfd", func := "breviary/breviarylaw02.FieldBack", spec := "fieldBack", unfollowed := true, recurses := true, apart := false, narrowed := true }
def FieldBackUptoSaid : Prop := fieldBackUptoRow.holds Try.pinned (OpenSpec.upto fieldBackSpec)

/-- 'breviarylaw02.FieldOne', WHERE WHAT IT READS IS OF BULK AT MOST 1048576: true; the input reads as it did. -/
def fieldOneUptoRow : OpenClaim := { program := "ytapjdcofnigjhaa", sum := "3cd0ea06e54fdcede01b89675fa002a47a23be7c083be064659f05684e787dfd", func := "breviary/breviarylaw02.FieldOne", spec := "fieldOne", unfollowed := true, recurses := true, apart := false, narrowed := true }
def FieldOneUptoSaid : Prop := fieldOneUptoRow.holds Try.pinned (OpenSpec.upto fieldOneSpec)

/-- 'breviarylaw02.FieldNil', WHERE WHAT IT READS IS OF BULK AT MOST 1048576: true; the input reads as it did. -/
def fieldNilUptoRow : OpenClaim := { program := "ytapjdcofnigjhaa", sum := "3cd0ea06e54fdcede01b89675fa002a47a23be7c083be064659f05684e787dfd", func := "breviary/breviarylaw02.FieldNil", spec := "fieldNil", unfollowed := true, recurses := true, apart := false, narrowed := true }
def FieldNilUptoSaid : Prop := fieldNilUptoRow.holds Try.pinned (OpenSpec.upto fieldNilSpec)

/-- 'breviarylaw02.FieldGrows', WHERE WHAT IT READS IS OF BULK AT MOST 1048576: true; the input reads as it did. -/
def fieldGrowsUptoRow : OpenClaim := { program := "ytapjdcofnigjhaa", sum := "3cd0ea06e54fdcede01b89675fa002a47a23be7c083be064659f05684e787dfd", func := "breviary/breviarylaw02.FieldGrows", spec := "fieldGrows", unfollowed := true, recurses := true, apart := false, narrowed := true }
def FieldGrowsUptoSaid : Prop := fieldGrowsUptoRow.holds Try.pinned (OpenSpec.upto fieldGrowsSpec)

/-- 'breviarylaw06.RowsDecode', WHERE WHAT IT READS IS OF BULK AT MOST 1048576: true; the input reads as it did. -/
def rowsDecodeUptoRow : OpenClaim := { program := "ytapjdcofnigjhaa", sum := "3cd0ea06e54fdcede01b89675fa002a47a23be7c083be064659f05684e787dfd", func := "breviary/breviarylaw06.RowsDecode", spec := "rowsDecode", unfollowed := true, recurses := true, apart := false, narrowed := true }
def RowsDecodeUptoSaid : Prop := rowsDecodeUptoRow.holds Try.pinned (OpenSpec.upto rowsDecodeSpec)

/-- 'breviarylaw06.RowsBack', WHERE WHAT IT READS IS OF BULK AT MOST 1048576: true; the input reads as it did. -/
def rowsBackUptoRow : OpenClaim := { program := "ytapjdcofnigjhaa", sum := "3cd0ea06e54fdcede01b89675fa002a47a23be7c083be064659f05684e787dfd", func := "breviary/breviarylaw06.RowsBack", spec := "rowsBack", unfollowed := true, recurses := true, apart := false, narrowed := true }
def RowsBackUptoSaid : Prop := rowsBackUptoRow.holds Try.pinned (OpenSpec.upto rowsBackSpec)

end Rows
end Go.Proofs.Ytapjdcofnigjhaa
