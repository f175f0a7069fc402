/-
  No cell of these rows narrows 'for every input' (looked for: loops, veiled, ifaces, maps, wideKeys, modest, calm, conditions, laid).
  DERIVED. THE GIVEN ROWS OF THIS SEAT. 6 by the template 'for every input the law returns true; each argument reads behind the call as it read before'; 0 by the template 'total and deterministic' (their statements: YtakgpljpdcjmfaaTotals.lean).
  GIVEN WITH THE SEED: the statements are not yours to turn. If you find one false, say at which input.
  Laid BY PROGRAM, IN A SANDBOX (cutbox-rows.mjs): the forced cells as the released guide's own fill.sh prints them over the translation 7f158a134f42d7a5… (all of the seat's roots in one cut). By AI agents, Wed Nov 11 2026. No macro, syntax, notation, axiom, sorry.
-/
import Derived.Test.YtakgpljpdcjmfaaChecked
import GoSem.Claim
import GoSem.ClaimJoined
import GoSem.ClaimMapViews
import Derived.JoinedTies
import Derived.KernelRfl
namespace Go.Proofs.Ytakgpljpdcjmfaa
/- THE CELL 'sum', in the pinned program and in every row, IS THE sha256 OF THE DUMP (.gsa) THAT YtakgpljpdcjmfaaProg.lean LOADS. Nothing in Lean hashes anything: it is a label: what it is worth is what the hold of that sum in a sandbox is worth. -/
noncomputable def Try.pinned : Pinned := { name := "ytakgpljpdcjmfaa", sum := "7f158a134f42d7a5457617e0e1e5f3f99a398c747238ef0202a3c3e811b8758d", checked := Try.checked }
namespace Rows
def none {H : Type} : Left H := { results := [], args := [] }

/-- 'breviarylaw03.KeysPuts': WHATEVER THE INPUT: true; the input reads as it did. -/
def keysPutsSpec : ChangeSpec := { name := "keysPuts", fn := fun _ => fun
  | [d] => { results := [.lit (.bool true)], args := [d] }
  | _ => none }
def keysPutsRow : OpenClaim := { program := "ytakgpljpdcjmfaa", sum := "7f158a134f42d7a5457617e0e1e5f3f99a398c747238ef0202a3c3e811b8758d", func := "breviary/breviarylaw03.KeysPuts", spec := "keysPuts", apart := false }
def KeysPutsSaid : Prop := keysPutsRow.holds Try.pinned (OpenSpec.ofChange keysPutsSpec)

/-- ITS FALSE NEIGHBOUR: 'it returns false'. Refute it at one input. -/
def keysPutsWrong : ChangeSpec := { name := "keysPuts", fn := fun _ => fun
  | [d] => { results := [.lit (.bool false)], args := [d] }
  | _ => none }
def KeysPutsWrongFalsely : Prop := keysPutsRow.holds Try.pinned (OpenSpec.ofChange keysPutsWrong)

/-- 'breviarylaw03.KeysBounds': WHATEVER THE INPUT: true; the input reads as it did. -/
def keysBoundsSpec : ChangeSpec := { name := "keysBounds", fn := fun _ => fun
  | [d1, d2, d3] => { results := [.lit (.bool true)], args := [d1, d2, d3] }
  | _ => none }
def keysBoundsRow : OpenClaim := { program := "ytakgpljpdcjmfaa", sum := "7f158a134f42d7a5457617e0e1e5f3f99a398c747238ef0202a3c3e811b8758d", func := "breviary/breviarylaw03.KeysBounds", spec := "keysBounds", apart := false }
def KeysBoundsSaid : Prop := keysBoundsRow.holds Try.pinned (OpenSpec.ofChange keysBoundsSpec)

/-- ITS FALSE NEIGHBOUR: 'it returns false'. Refute it at one input. -/
def keysBoundsWrong : ChangeSpec := { name := "keysBounds", fn := fun _ => fun
  | [d1, d2, d3] => { results := [.lit (.bool false)], args := [d1, d2, d3] }
  | _ => none }
def KeysBoundsWrongFalsely : Prop := keysBoundsRow.holds Try.pinned (OpenSpec.ofChange keysBoundsWrong)

/-- 'breviarylaw03.KeysGets': WHATEVER THE INPUT: true; the input reads as it did. -/
def keysGetsSpec : ChangeSpec := { name := "keysGets", fn := fun _ => fun
  | [d] => { results := [.lit (.bool true)], args := [d] }
  | _ => none }
def keysGetsRow : OpenClaim := { program := "ytakgpljpdcjmfaa", sum := "7f158a134f42d7a5457617e0e1e5f3f99a398c747238ef0202a3c3e811b8758d", func := "breviary/breviarylaw03.KeysGets", spec := "keysGets", apart := false }
def KeysGetsSaid : Prop := keysGetsRow.holds Try.pinned (OpenSpec.ofChange keysGetsSpec)

/-- ITS FALSE NEIGHBOUR: 'it returns false'. Refute it at one input. -/
def keysGetsWrong : ChangeSpec := { name := "keysGets", fn := fun _ => fun
  | [d] => { results := [.lit (.bool false)], args := [d] }
  | _ => none }
def KeysGetsWrongFalsely : Prop := keysGetsRow.holds Try.pinned (OpenSpec.ofChange keysGetsWrong)

/-- 'breviarylaw03.KeysBack': WHATEVER THE INPUT: true; the input reads as it did. -/
def keysBackSpec : ChangeSpec := { name := "keysBack", fn := fun _ => fun
  | [d1, d2] => { results := [.lit (.bool true)], args := [d1, d2] }
  | _ => none }
def keysBackRow : OpenClaim := { program := "ytakgpljpdcjmfaa", sum := "7f158a134f42d7a5457617e0e1e5f3f99a398c747238ef0202a3c3e811b8758d", func := "breviary/breviarylaw03.KeysBack", spec := "keysBack", apart := false }
def KeysBackSaid : Prop := keysBackRow.holds Try.pinned (OpenSpec.ofChange keysBackSpec)

/-- ITS FALSE NEIGHBOUR: 'it returns false'. Refute it at one input. -/
def keysBackWrong : ChangeSpec := { name := "keysBack", fn := fun _ => fun
  | [d1, d2] => { results := [.lit (.bool false)], args := [d1, d2] }
  | _ => none }
def KeysBackWrongFalsely : Prop := keysBackRow.holds Try.pinned (OpenSpec.ofChange keysBackWrong)

/-- 'breviarylaw03.KeysOrder': WHATEVER THE INPUT: true; the input reads as it did. -/
def keysOrderSpec : ChangeSpec := { name := "keysOrder", fn := fun _ => fun
  | [d1, d2] => { results := [.lit (.bool true)], args := [d1, d2] }
  | _ => none }
def keysOrderRow : OpenClaim := { program := "ytakgpljpdcjmfaa", sum := "7f158a134f42d7a5457617e0e1e5f3f99a398c747238ef0202a3c3e811b8758d", func := "breviary/breviarylaw03.KeysOrder", spec := "keysOrder", apart := false }
def KeysOrderSaid : Prop := keysOrderRow.holds Try.pinned (OpenSpec.ofChange keysOrderSpec)

/-- ITS FALSE NEIGHBOUR: 'it returns false'. Refute it at one input. -/
def keysOrderWrong : ChangeSpec := { name := "keysOrder", fn := fun _ => fun
  | [d1, d2] => { results := [.lit (.bool false)], args := [d1, d2] }
  | _ => none }
def KeysOrderWrongFalsely : Prop := keysOrderRow.holds Try.pinned (OpenSpec.ofChange keysOrderWrong)

/-- 'breviarylaw03.KeysSorts': WHATEVER THE INPUT: true; the input reads as it did. -/
def keysSortsSpec : ChangeSpec := { name := "keysSorts", fn := fun _ => fun
  | [d] => { results := [.lit (.bool true)], args := [d] }
  | _ => none }
def keysSortsRow : OpenClaim := { program := "ytakgpljpdcjmfaa", sum := "7f158a134f42d7a5457617e0e1e5f3f99a398c747238ef0202a3c3e811b8758d", func := "breviary/breviarylaw03.KeysSorts", spec := "keysSorts", apart := false }
def KeysSortsSaid : Prop := keysSortsRow.holds Try.pinned (OpenSpec.ofChange keysSortsSpec)

/-- ITS FALSE NEIGHBOUR: 'it returns false'. Refute it at one input. -/
def keysSortsWrong : ChangeSpec := { name := "keysSorts", fn := fun _ => fun
  | [d] => { results := [.lit (.bool false)], args := [d] }
  | _ => none }
def KeysSortsWrongFalsely : Prop := keysSortsRow.holds Try.pinned (OpenSpec.ofChange keysSortsWrong)

/- THE SECOND FORM. 'bulk': how many values and letters a reading holds, each counted each time it is reached (what is shared counts as often as it is met; a slice's spare places count too). A statement '..UptoSaid' is the law's where the arguments, and the package variables that the reading takes, are together of bulk at most 1048576: NARROWER than '..Said'. Prove '..Said' where nothing that the law and all that it calls make is longer than what came in: it says more and counts as full. Else prove '..UptoSaid'. A law counts once. -/
mutual
def uptoBulk {H : Type} : DataW H → Nat
  | .lit (.string bytes) => bytes.length + 1
  | .lit _ => 1
  | .nil => 1
  | .ptr d => uptoBulk d + 1
  | .slice elems spare => uptoBulkAll elems + uptoBulkAll spare + 1
  | .agg parts => uptoBulkAll parts + 1
  | .iface _ d => uptoBulk d + 1
  | .map entries => uptoBulkEntries entries + 1
  | .held _ => 1
def uptoBulkAll {H : Type} : List (DataW H) → Nat
  | [] => 0
  | d :: r => uptoBulk d + uptoBulkAll r
def uptoBulkEntries {H : Type} : List (Lit × DataW H) → Nat
  | [] => 0
  | x :: r => uptoBulkEntry x + uptoBulkEntries r
def uptoBulkEntry {H : Type} : Lit × DataW H → Nat
  | (.string bytes, d) => bytes.length + uptoBulk d + 1
  | (_, d) => uptoBulk d + 1
 end
def uptoSmall : (H : Type) → List (DataW H) → Bool := fun _ ds => decide (uptoBulkAll ds ≤ 1048576)
def OpenSpec.upto (s : _root_.Go.ChangeSpec) : _root_.Go.OpenSpec := { _root_.Go.OpenSpec.ofChange s with cond := some uptoSmall }

/-- 'breviarylaw03.KeysPuts', WHERE WHAT IT READS IS OF BULK AT MOST 1048576: true; the input reads as it did. -/
def keysPutsUptoRow : OpenClaim := { program := "ytakgpljpdcjmfaa", sum := "7f158a134f42d7a5457617e0e1e5f3f99a398c747238ef0202a3c3e811b8758d", func := "breviary/breviarylaw03.KeysPuts", spec := "keysPuts", apart := false, narrowed := true }
def KeysPutsUptoSaid : Prop := keysPutsUptoRow.holds Try.pinned (OpenSpec.upto keysPutsSpec)

/-- 'breviarylaw03.KeysBounds', WHERE WHAT IT READS IS OF BULK AT MOST 1048576: true; the input reads as it did. -/
def keysBoundsUptoRow : OpenClaim := { program := "ytakgpljpdcjmfaa", sum := "7f158a134f42d7a5457617e0e1e5f3f99a398c747238ef0202a3c3e811b8758d", func := "breviary/breviarylaw03.KeysBounds", spec := "keysBounds", apart := false, narrowed := true }
def KeysBoundsUptoSaid : Prop := keysBoundsUptoRow.holds Try.pinned (OpenSpec.upto keysBoundsSpec)

/-- 'breviarylaw03.KeysGets', WHERE WHAT IT READS IS OF BULK AT MOST 1048576: true; the input reads as it did. -/
def keysGetsUptoRow : OpenClaim := { program := "ytakgpljpdcjmfaa", sum := "7f158a134f42d7a5457617e0e1e5f3f99a398c747238ef0202a3c3e811b8758d", func := "breviary/breviarylaw03.KeysGets", spec := "keysGets", apart := false, narrowed := true }
def KeysGetsUptoSaid : Prop := keysGetsUptoRow.holds Try.pinned (OpenSpec.upto keysGetsSpec)

/-- 'breviarylaw03.KeysBack', WHERE WHAT IT READS IS OF BULK AT MOST 1048576: true; the input reads as it did. -/
def keysBackUptoRow : OpenClaim := { program := "ytakgpljpdcjmfaa", sum := "7f158a134f42d7a5457617e0e1e5f3f99a398c747238ef0202a3c3e811b8758d", func := "breviary/breviarylaw03.KeysBack", spec := "keysBack", apart := false, narrowed := true }
def KeysBackUptoSaid : Prop := keysBackUptoRow.holds Try.pinned (OpenSpec.upto keysBackSpec)

/-- 'breviarylaw03.KeysOrder', WHERE WHAT IT READS IS OF BULK AT MOST 1048576: true; the input reads as it did. -/
def keysOrderUptoRow : OpenClaim := { program := "ytakgpljpdcjmfaa", sum := "7f158a134f42d7a5457617e0e1e5f3f99a398c747238ef0202a3c3e811b8758d", func := "breviary/breviarylaw03.KeysOrder", spec := "keysOrder", apart := false, narrowed := true }
def KeysOrderUptoSaid : Prop := keysOrderUptoRow.holds Try.pinned (OpenSpec.upto keysOrderSpec)

/-- 'breviarylaw03.KeysSorts', WHERE WHAT IT READS IS OF BULK AT MOST 1048576: true; the input reads as it did. -/
def keysSortsUptoRow : OpenClaim := { program := "ytakgpljpdcjmfaa", sum := "7f158a134f42d7a5457617e0e1e5f3f99a398c747238ef0202a3c3e811b8758d", func := "breviary/breviarylaw03.KeysSorts", spec := "keysSorts", apart := false, narrowed := true }
def KeysSortsUptoSaid : Prop := keysSortsUptoRow.holds Try.pinned (OpenSpec.upto keysSortsSpec)

end Rows
end Go.Proofs.Ytakgpljpdcjmfaa
