/-
  No cell of these rows narrows 'for every input' (looked for: loops, veiled, ifaces, maps, wideKeys, modest, calm, conditions, laid).
  DERIVED. THE GIVEN ROWS OF THIS SEAT. 7 by the template 'for every input the law returns true; each argument reads behind the call as it read before'; 0 by the template 'total and deterministic' (their statements: YtecnijnmgdfdhaaGreatTotals.lean).
  GIVEN WITH THE SEED: the statements are not yours to turn. If you find one false, say at which input.
  Laid BY PROGRAM, IN A SANDBOX (cutbox-rows.mjs): the forced cells as the released guide's own fill.sh prints them over the translation e7eaa999e11d747b… (all of the seat's roots in one cut). By AI agents, Wed Nov 11 2026. No macro, syntax, notation, axiom, sorry.
-/
import Derived.Test.YtecnijnmgdfdhaaGreatChecked
import GoSem.Claim
import GoSem.ClaimJoined
import GoSem.ClaimMapViews
import Derived.JoinedTies
import Derived.KernelRfl
namespace Go.Proofs.YtecnijnmgdfdhaaGreat
/- THE CELL 'sum', in the pinned program and in every row, IS THE sha256 OF THE DUMP (.gsa) THAT YtecnijnmgdfdhaaGreatProg.lean LOADS. Nothing in Lean hashes anything: it is a label: what it is worth is what the hold of that sum in a sandbox is worth. -/
noncomputable def Tryz.pinned : Pinned := { name := "ytecnijnmgdfdhaagreat", sum := "e7eaa999e11d747bbc65132756ef5279980520c2c263862c055bab02f3717689", checked := Tryz.checked }
namespace Rows
def none {H : Type} : Left H := { results := [], args := [] }

/-- 'breviarylaw08.BufferPlays': WHATEVER THE INPUT: true; the input reads as it did. -/
def bufferPlaysSpec : ChangeSpec := { name := "bufferPlays", fn := fun _ => fun
  | [d1, d2, d3] => { results := [.lit (.bool true)], args := [d1, d2, d3] }
  | _ => none }
def bufferPlaysRow : OpenClaim := { program := "ytecnijnmgdfdhaagreat", sum := "e7eaa999e11d747bbc65132756ef5279980520c2c263862c055bab02f3717689", func := "breviary/breviarylaw08.BufferPlays", spec := "bufferPlays", inPlace := ["slices.overlaps[breviary/tree.pair]", "slices.overlaps[*breviary/tree.node]"], unfollowed := true, recurses := true, apart := false }
def BufferPlaysSaid : Prop := bufferPlaysRow.holds Tryz.pinned (OpenSpec.ofChange bufferPlaysSpec)

/-- ITS FALSE NEIGHBOUR: 'it returns false'. Refute it at one input. -/
def bufferPlaysWrong : ChangeSpec := { name := "bufferPlays", fn := fun _ => fun
  | [d1, d2, d3] => { results := [.lit (.bool false)], args := [d1, d2, d3] }
  | _ => none }
def BufferPlaysWrongFalsely : Prop := bufferPlaysRow.holds Tryz.pinned (OpenSpec.ofChange bufferPlaysWrong)

/-- 'breviarylaw08.BufferShows': WHATEVER THE INPUT: true; the input reads as it did. -/
def bufferShowsSpec : ChangeSpec := { name := "bufferShows", fn := fun _ => fun
  | [d1, d2, d3] => { results := [.lit (.bool true)], args := [d1, d2, d3] }
  | _ => none }
def bufferShowsRow : OpenClaim := { program := "ytecnijnmgdfdhaagreat", sum := "e7eaa999e11d747bbc65132756ef5279980520c2c263862c055bab02f3717689", func := "breviary/breviarylaw08.BufferShows", spec := "bufferShows", inPlace := ["slices.overlaps[breviary/tree.pair]", "slices.overlaps[*breviary/tree.node]"], unfollowed := true, recurses := true, apart := false }
def BufferShowsSaid : Prop := bufferShowsRow.holds Tryz.pinned (OpenSpec.ofChange bufferShowsSpec)

/-- ITS FALSE NEIGHBOUR: 'it returns false'. Refute it at one input. -/
def bufferShowsWrong : ChangeSpec := { name := "bufferShows", fn := fun _ => fun
  | [d1, d2, d3] => { results := [.lit (.bool false)], args := [d1, d2, d3] }
  | _ => none }
def BufferShowsWrongFalsely : Prop := bufferShowsRow.holds Tryz.pinned (OpenSpec.ofChange bufferShowsWrong)

/-- 'breviarylaw07.TableCopies': WHATEVER THE INPUT: true; the input reads as it did. -/
def tableCopiesSpec : ChangeSpec := { name := "tableCopies", fn := fun _ => fun
  | [d1, d2, d3] => { results := [.lit (.bool true)], args := [d1, d2, d3] }
  | _ => none }
def tableCopiesRow : OpenClaim := { program := "ytecnijnmgdfdhaagreat", sum := "e7eaa999e11d747bbc65132756ef5279980520c2c263862c055bab02f3717689", func := "breviary/breviarylaw07.TableCopies", spec := "tableCopies", inPlace := ["slices.overlaps[breviary/tree.pair]", "slices.overlaps[*breviary/tree.node]"], unfollowed := true, recurses := true, apart := false }
def TableCopiesSaid : Prop := tableCopiesRow.holds Tryz.pinned (OpenSpec.ofChange tableCopiesSpec)

/-- ITS FALSE NEIGHBOUR: 'it returns false'. Refute it at one input. -/
def tableCopiesWrong : ChangeSpec := { name := "tableCopies", fn := fun _ => fun
  | [d1, d2, d3] => { results := [.lit (.bool false)], args := [d1, d2, d3] }
  | _ => none }
def TableCopiesWrongFalsely : Prop := tableCopiesRow.holds Tryz.pinned (OpenSpec.ofChange tableCopiesWrong)

/-- 'breviarylaw08.BufferDrops': WHATEVER THE INPUT: true; the input reads as it did. -/
def bufferDropsSpec : ChangeSpec := { name := "bufferDrops", fn := fun _ => fun
  | [d1, d2, d3] => { results := [.lit (.bool true)], args := [d1, d2, d3] }
  | _ => none }
def bufferDropsRow : OpenClaim := { program := "ytecnijnmgdfdhaagreat", sum := "e7eaa999e11d747bbc65132756ef5279980520c2c263862c055bab02f3717689", func := "breviary/breviarylaw08.BufferDrops", spec := "bufferDrops", inPlace := ["slices.overlaps[breviary/tree.pair]", "slices.overlaps[*breviary/tree.node]"], unfollowed := true, recurses := true, apart := false }
def BufferDropsSaid : Prop := bufferDropsRow.holds Tryz.pinned (OpenSpec.ofChange bufferDropsSpec)

/-- ITS FALSE NEIGHBOUR: 'it returns false'. Refute it at one input. -/
def bufferDropsWrong : ChangeSpec := { name := "bufferDrops", fn := fun _ => fun
  | [d1, d2, d3] => { results := [.lit (.bool false)], args := [d1, d2, d3] }
  | _ => none }
def BufferDropsWrongFalsely : Prop := bufferDropsRow.holds Tryz.pinned (OpenSpec.ofChange bufferDropsWrong)

/-- 'breviarylaw08.BufferOver': WHATEVER THE INPUT: true; the input reads as it did. -/
def bufferOverSpec : ChangeSpec := { name := "bufferOver", fn := fun _ => fun
  | [d1, d2, d3] => { results := [.lit (.bool true)], args := [d1, d2, d3] }
  | _ => none }
def bufferOverRow : OpenClaim := { program := "ytecnijnmgdfdhaagreat", sum := "e7eaa999e11d747bbc65132756ef5279980520c2c263862c055bab02f3717689", func := "breviary/breviarylaw08.BufferOver", spec := "bufferOver", inPlace := ["slices.overlaps[breviary/tree.pair]", "slices.overlaps[*breviary/tree.node]"], unfollowed := true, recurses := true, apart := false }
def BufferOverSaid : Prop := bufferOverRow.holds Tryz.pinned (OpenSpec.ofChange bufferOverSpec)

/-- ITS FALSE NEIGHBOUR: 'it returns false'. Refute it at one input. -/
def bufferOverWrong : ChangeSpec := { name := "bufferOver", fn := fun _ => fun
  | [d1, d2, d3] => { results := [.lit (.bool false)], args := [d1, d2, d3] }
  | _ => none }
def BufferOverWrongFalsely : Prop := bufferOverRow.holds Tryz.pinned (OpenSpec.ofChange bufferOverWrong)

/-- 'breviarylaw08.BufferApplies': WHATEVER THE INPUT: true; the input reads as it did. -/
def bufferAppliesSpec : ChangeSpec := { name := "bufferApplies", fn := fun _ => fun
  | [d1, d2] => { results := [.lit (.bool true)], args := [d1, d2] }
  | _ => none }
def bufferAppliesRow : OpenClaim := { program := "ytecnijnmgdfdhaagreat", sum := "e7eaa999e11d747bbc65132756ef5279980520c2c263862c055bab02f3717689", func := "breviary/breviarylaw08.BufferApplies", spec := "bufferApplies", inPlace := ["slices.overlaps[breviary/tree.pair]", "slices.overlaps[*breviary/tree.node]"], unfollowed := true, recurses := true, apart := false }
def BufferAppliesSaid : Prop := bufferAppliesRow.holds Tryz.pinned (OpenSpec.ofChange bufferAppliesSpec)

/-- ITS FALSE NEIGHBOUR: 'it returns false'. Refute it at one input. -/
def bufferAppliesWrong : ChangeSpec := { name := "bufferApplies", fn := fun _ => fun
  | [d1, d2] => { results := [.lit (.bool false)], args := [d1, d2] }
  | _ => none }
def BufferAppliesWrongFalsely : Prop := bufferAppliesRow.holds Tryz.pinned (OpenSpec.ofChange bufferAppliesWrong)

/-- 'breviarylaw08.BufferNil': WHATEVER THE INPUT: true; the input reads as it did. -/
def bufferNilSpec : ChangeSpec := { name := "bufferNil", fn := fun _ => fun
  | [d1, d2] => { results := [.lit (.bool true)], args := [d1, d2] }
  | _ => none }
def bufferNilRow : OpenClaim := { program := "ytecnijnmgdfdhaagreat", sum := "e7eaa999e11d747bbc65132756ef5279980520c2c263862c055bab02f3717689", func := "breviary/breviarylaw08.BufferNil", spec := "bufferNil", inPlace := ["slices.overlaps[breviary/tree.pair]", "slices.overlaps[*breviary/tree.node]"], unfollowed := true, recurses := true, apart := false }
def BufferNilSaid : Prop := bufferNilRow.holds Tryz.pinned (OpenSpec.ofChange bufferNilSpec)

/-- ITS FALSE NEIGHBOUR: 'it returns false'. Refute it at one input. -/
def bufferNilWrong : ChangeSpec := { name := "bufferNil", fn := fun _ => fun
  | [d1, d2] => { results := [.lit (.bool false)], args := [d1, d2] }
  | _ => none }
def BufferNilWrongFalsely : Prop := bufferNilRow.holds Tryz.pinned (OpenSpec.ofChange bufferNilWrong)

/- THE SECOND FORM. 'bulk': how many values and letters a reading holds, each counted each time it is reached (what is shared counts as often as it is met; a slice's spare places count too). A statement '..UptoSaid' is the law's where the arguments, and the package variables that the reading takes, are together of bulk at most 1048576: NARROWER than '..Said'. Prove '..Said' where nothing that the law and all that it calls make is longer than what came in: it says more and counts as full. Else prove '..UptoSaid'. A law counts once. -/
mutual
def uptoBulk {H : Type} : DataW H → Nat
  | .lit (.string bytes) => bytes.length + 1
  | .lit _ => 1
  | .nil => 1
  | .ptr d => uptoBulk d + 1
  | .slice elems spare => uptoBulkAll elems + uptoBulkAll spare + 1
  | .agg parts => uptoBulkAll parts + 1
  | .iface _ d => uptoBulk d + 1
  | .map entries => uptoBulkEntries entries + 1
  | .held _ => 1
def uptoBulkAll {H : Type} : List (DataW H) → Nat
  | [] => 0
  | d :: r => uptoBulk d + uptoBulkAll r
def uptoBulkEntries {H : Type} : List (Lit × DataW H) → Nat
  | [] => 0
  | x :: r => uptoBulkEntry x + uptoBulkEntries r
def uptoBulkEntry {H : Type} : Lit × DataW H → Nat
  | (.string bytes, d) => bytes.length + uptoBulk d + 1
  | (_, d) => uptoBulk d + 1
 end
def uptoSmall : (H : Type) → List (DataW H) → Bool := fun _ ds => decide (uptoBulkAll ds ≤ 1048576)
def OpenSpec.upto (s : _root_.Go.ChangeSpec) : _root_.Go.OpenSpec := { _root_.Go.OpenSpec.ofChange s with cond := some uptoSmall }

/-- 'breviarylaw08.BufferPlays', WHERE WHAT IT READS IS OF BULK AT MOST 1048576: true; the input reads as it did. -/
def bufferPlaysUptoRow : OpenClaim := { program := "ytecnijnmgdfdhaagreat", sum := "e7eaa999e11d747bbc65132756ef5279980520c2c263862c055bab02f3717689", func := "breviary/breviarylaw08.BufferPlays", spec := "bufferPlays", inPlace := ["slices.overlaps[breviary/tree.pair]", "slices.overlaps[*breviary/tree.node]"], unfollowed := true, recurses := true, apart := false, narrowed := true }
def BufferPlaysUptoSaid : Prop := bufferPlaysUptoRow.holds Tryz.pinned (OpenSpec.upto bufferPlaysSpec)

/-- 'breviarylaw08.BufferShows', WHERE WHAT IT READS IS OF BULK AT MOST 1048576: true; the input reads as it did. -/
def bufferShowsUptoRow : OpenClaim := { program := "ytecnijnmgdfdhaagreat", sum := "e7eaa999e11d747bbc65132756ef5279980520c2c263862c055bab02f3717689", func := "breviary/breviarylaw08.BufferShows", spec := "bufferShows", inPlace := ["slices.overlaps[breviary/tree.pair]", "slices.overlaps[*breviary/tree.node]"], unfollowed := true, recurses := true, apart := false, narrowed := true }
def BufferShowsUptoSaid : Prop := bufferShowsUptoRow.holds Tryz.pinned (OpenSpec.upto bufferShowsSpec)

/-- 'breviarylaw07.TableCopies', WHERE WHAT IT READS IS OF BULK AT MOST 1048576: true; the input reads as it did. -/
def tableCopiesUptoRow : OpenClaim := { program := "ytecnijnmgdfdhaagreat", sum := "e7eaa999e11d747bbc65132756ef5279980520c2c263862c055bab02f3717689", func := "breviary/breviarylaw07.TableCopies", spec := "tableCopies", inPlace := ["slices.overlaps[breviary/tree.pair]", "slices.overlaps[*breviary/tree.node]"], unfollowed := true, recurses := true, apart := false, narrowed := true }
def TableCopiesUptoSaid : Prop := tableCopiesUptoRow.holds Tryz.pinned (OpenSpec.upto tableCopiesSpec)

/-- 'breviarylaw08.BufferDrops', WHERE WHAT IT READS IS OF BULK AT MOST 1048576: true; the input reads as it did. -/
def bufferDropsUptoRow : OpenClaim := { program := "ytecnijnmgdfdhaagreat", sum := "e7eaa999e11d747bbc65132756ef5279980520c2c263862c055bab02f3717689", func := "breviary/breviarylaw08.BufferDrops", spec := "bufferDrops", inPlace := ["slices.overlaps[breviary/tree.pair]", "slices.overlaps[*breviary/tree.node]"], unfollowed := true, recurses := true, apart := false, narrowed := true }
def BufferDropsUptoSaid : Prop := bufferDropsUptoRow.holds Tryz.pinned (OpenSpec.upto bufferDropsSpec)

/-- 'breviarylaw08.BufferOver', WHERE WHAT IT READS IS OF BULK AT MOST 1048576: true; the input reads as it did. -/
def bufferOverUptoRow : OpenClaim := { program := "ytecnijnmgdfdhaagreat", sum := "e7eaa999e11d747bbc65132756ef5279980520c2c263862c055bab02f3717689", func := "breviary/breviarylaw08.BufferOver", spec := "bufferOver", inPlace := ["slices.overlaps[breviary/tree.pair]", "slices.overlaps[*breviary/tree.node]"], unfollowed := true, recurses := true, apart := false, narrowed := true }
def BufferOverUptoSaid : Prop := bufferOverUptoRow.holds Tryz.pinned (OpenSpec.upto bufferOverSpec)

/-- 'breviarylaw08.BufferApplies', WHERE WHAT IT READS IS OF BULK AT MOST 1048576: true; the input reads as it did. -/
def bufferAppliesUptoRow : OpenClaim := { program := "ytecnijnmgdfdhaagreat", sum := "e7eaa999e11d747bbc65132756ef5279980520c2c263862c055bab02f3717689", func := "breviary/breviarylaw08.BufferApplies", spec := "bufferApplies", inPlace := ["slices.overlaps[breviary/tree.pair]", "slices.overlaps[*breviary/tree.node]"], unfollowed := true, recurses := true, apart := false, narrowed := true }
def BufferAppliesUptoSaid : Prop := bufferAppliesUptoRow.holds Tryz.pinned (OpenSpec.upto bufferAppliesSpec)

/-- 'breviarylaw08.BufferNil', WHERE WHAT IT READS IS OF BULK AT MOST 1048576: true; the input reads as it did. -/
def bufferNilUptoRow : OpenClaim := { program := "ytecnijnmgdfdhaagreat", sum := "e7eaa999e11d747bbc65132756ef5279980520c2c263862c055bab02f3717689", func := "breviary/breviarylaw08.BufferNil", spec := "bufferNil", inPlace := ["slices.overlaps[breviary/tree.pair]", "slices.overlaps[*breviary/tree.node]"], unfollowed := true, recurses := true, apart := false, narrowed := true }
def BufferNilUptoSaid : Prop := bufferNilUptoRow.holds Tryz.pinned (OpenSpec.upto bufferNilSpec)

end Rows
end Go.Proofs.YtecnijnmgdfdhaaGreat
