/-
  DERIVED. GIVEN WITH THE SEED: THE CARDS: each row of YtgoegdlhbadlfaaDoorRows.lean that lists a variable, with what it lists TIED to the program's text (the seventh form; the later family's looks); each row that meets fmt, with fmt's text TOLD by the authors' own Lean function (tested against real Go, not proved from fmt's source: count such statements apart). THE CARD IS WHAT COUNTS. Prove the row's statement (the work); the ties are given (YtgoegdlhbadlfaaDoorTie.lean); close each card by the builder's one call (the guide's Derived/Test/ToyasCard.lean, 'card_holds'). Laid BY PROGRAM, IN A SANDBOX (cutbox-door.mjs). By AI agents, Wed Nov 11 2026. No macro, syntax, notation, axiom, sorry.
-/
import Derived.Test.YtgoegdlhbadlfaaDoorRows
import GoSem.ClaimSeven
namespace Go.Proofs.YtgoegdlhbadlfaaDoor
namespace Rows

/-- THE TIED CARD OF 'breviarylaw11.ProcJoins'. -/
def procJoinsCard : Claim7 := { stood := { row := procJoinsRow, standIns := [], harness := (true, "c3ab00eeb7a8ee8634f57bc07e5b786b9206642759cd8c190363796c660f61fe"), looks := true }, kinds := [], alts := [], laidByText := true, laidKinds := [.data, .data, .data, .data, .sentinel, .sentinel, .data, .pinned], laidTests := true, laidLooks := .later }
def ProcJoinsCardSaid : Prop := Claim7.holds Tryd.pinned (.plain (OpenSpec.ofChange procJoinsSpec)) procJoinsCard

/-- THE TIED CARD OF 'breviarylaw11.ProcBack'. -/
def procBackCard : Claim7 := { stood := { row := procBackRow, standIns := [], harness := (true, "c3ab00eeb7a8ee8634f57bc07e5b786b9206642759cd8c190363796c660f61fe"), looks := true }, kinds := [], alts := [], laidByText := true, laidKinds := [.data, .data, .data, .data, .sentinel, .sentinel, .data, .pinned], laidTests := true, laidLooks := .later }
def ProcBackCardSaid : Prop := Claim7.holds Tryd.pinned (.plain (OpenSpec.ofChange procBackSpec)) procBackCard

/-- THE SECOND FORM's CARD OF 'breviarylaw11.ProcJoins'. -/
def procJoinsUptoCard : Claim7 := { stood := { row := procJoinsUptoRow, standIns := [], harness := (true, "c3ab00eeb7a8ee8634f57bc07e5b786b9206642759cd8c190363796c660f61fe"), looks := true }, kinds := [], alts := [], laidByText := true, laidKinds := [.data, .data, .data, .data, .sentinel, .sentinel, .data, .pinned], laidTests := true, laidLooks := .later }
def ProcJoinsUptoCardSaid : Prop := Claim7.holds Tryd.pinned (.plain (OpenSpec.upto procJoinsSpec)) procJoinsUptoCard

/-- THE SECOND FORM's CARD OF 'breviarylaw11.ProcBack'. -/
def procBackUptoCard : Claim7 := { stood := { row := procBackUptoRow, standIns := [], harness := (true, "c3ab00eeb7a8ee8634f57bc07e5b786b9206642759cd8c190363796c660f61fe"), looks := true }, kinds := [], alts := [], laidByText := true, laidKinds := [.data, .data, .data, .data, .sentinel, .sentinel, .data, .pinned], laidTests := true, laidLooks := .later }
def ProcBackUptoCardSaid : Prop := Claim7.holds Tryd.pinned (.plain (OpenSpec.upto procBackSpec)) procBackUptoCard
end Rows
end Go.Proofs.YtgoegdlhbadlfaaDoor
