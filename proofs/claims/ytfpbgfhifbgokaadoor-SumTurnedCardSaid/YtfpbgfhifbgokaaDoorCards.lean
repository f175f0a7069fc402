/-
  DERIVED. GIVEN WITH THE SEED: THE CARDS: each row of YtfpbgfhifbgokaaDoorRows.lean that lists a variable, with what it lists TIED to the program's text (the seventh form; the later family's looks); each row that meets fmt, with fmt's text TOLD by the authors' own Lean function (tested against real Go, not proved from fmt's source: count such statements apart). THE CARD IS WHAT COUNTS. Prove the row's statement (the work); the ties are given (YtfpbgfhifbgokaaDoorTie.lean); close each card by the builder's one call (the guide's Derived/Test/ToyasCard.lean, 'card_holds'). Laid BY PROGRAM, IN A SANDBOX (cutbox-door.mjs). By AI agents, Wed Nov 11 2026. No macro, syntax, notation, axiom, sorry.
-/
import Derived.Test.YtfpbgfhifbgokaaDoorRows
import GoSem.ClaimSeven
namespace Go.Proofs.YtfpbgfhifbgokaaDoor
namespace Rows

/-- THE TIED CARD OF 'breviarylaw01.SumTells'. -/
def sumTellsCard : Claim7 := { stood := { row := sumTellsRow, standIns := [], harness := (true, "a89c76b6f28bb1083b57b10669451886d2f727811f039ec3342acfe7b0b96739"), looks := false }, kinds := [], alts := [], laidByText := true, laidKinds := [.data], laidTests := true, laidLooks := .later }
def SumTellsCardSaid : Prop := Claim7.holds Tryd.pinned (.plain (OpenSpec.ofChange sumTellsSpec)) sumTellsCard

/-- THE TIED CARD OF 'breviarylaw01.SumLinear'. -/
def sumLinearCard : Claim7 := { stood := { row := sumLinearRow, standIns := [], harness := (true, "a89c76b6f28bb1083b57b10669451886d2f727811f039ec3342acfe7b0b96739"), looks := false }, kinds := [], alts := [], laidByText := true, laidKinds := [.data], laidTests := true, laidLooks := .later }
def SumLinearCardSaid : Prop := Claim7.holds Tryd.pinned (.plain (OpenSpec.ofChange sumLinearSpec)) sumLinearCard

/-- THE TIED CARD OF 'breviarylaw01.SumMore'. -/
def sumMoreCard : Claim7 := { stood := { row := sumMoreRow, standIns := [], harness := (true, "a89c76b6f28bb1083b57b10669451886d2f727811f039ec3342acfe7b0b96739"), looks := false }, kinds := [], alts := [], laidByText := true, laidKinds := [.data], laidTests := true, laidLooks := .later }
def SumMoreCardSaid : Prop := Claim7.holds Tryd.pinned (.plain (OpenSpec.ofChange sumMoreSpec)) sumMoreCard

/-- THE TIED CARD OF 'breviarylaw01.SumParts'. -/
def sumPartsCard : Claim7 := { stood := { row := sumPartsRow, standIns := [], harness := (true, "a89c76b6f28bb1083b57b10669451886d2f727811f039ec3342acfe7b0b96739"), looks := false }, kinds := [], alts := [], laidByText := true, laidKinds := [.data], laidTests := true, laidLooks := .later }
def SumPartsCardSaid : Prop := Claim7.holds Tryd.pinned (.plain (OpenSpec.ofChange sumPartsSpec)) sumPartsCard

/-- THE TIED CARD OF 'breviarylaw01.SumSeals'. -/
def sumSealsCard : Claim7 := { stood := { row := sumSealsRow, standIns := [], harness := (true, "a89c76b6f28bb1083b57b10669451886d2f727811f039ec3342acfe7b0b96739"), looks := false }, kinds := [], alts := [], laidByText := true, laidKinds := [.data], laidTests := true, laidLooks := .later }
def SumSealsCardSaid : Prop := Claim7.holds Tryd.pinned (.plain (OpenSpec.ofChange sumSealsSpec)) sumSealsCard

/-- THE TIED CARD OF 'breviarylaw01.SumBack'. -/
def sumBackCard : Claim7 := { stood := { row := sumBackRow, standIns := [], harness := (true, "a89c76b6f28bb1083b57b10669451886d2f727811f039ec3342acfe7b0b96739"), looks := false }, kinds := [], alts := [], laidByText := true, laidKinds := [.data], laidTests := true, laidLooks := .later }
def SumBackCardSaid : Prop := Claim7.holds Tryd.pinned (.plain (OpenSpec.ofChange sumBackSpec)) sumBackCard

/-- THE TIED CARD OF 'breviarylaw01.SumTurned'. -/
def sumTurnedCard : Claim7 := { stood := { row := sumTurnedRow, standIns := [], harness := (true, "a89c76b6f28bb1083b57b10669451886d2f727811f039ec3342acfe7b0b96739"), looks := false }, kinds := [], alts := [], laidByText := true, laidKinds := [.data], laidTests := true, laidLooks := .later }
def SumTurnedCardSaid : Prop := Claim7.holds Tryd.pinned (.plain (OpenSpec.ofChange sumTurnedSpec)) sumTurnedCard

/-- THE SECOND FORM's CARD OF 'breviarylaw01.SumTells'. -/
def sumTellsUptoCard : Claim7 := { stood := { row := sumTellsUptoRow, standIns := [], harness := (true, "a89c76b6f28bb1083b57b10669451886d2f727811f039ec3342acfe7b0b96739"), looks := false }, kinds := [], alts := [], laidByText := true, laidKinds := [.data], laidTests := true, laidLooks := .later }
def SumTellsUptoCardSaid : Prop := Claim7.holds Tryd.pinned (.plain (OpenSpec.upto sumTellsSpec)) sumTellsUptoCard

/-- THE SECOND FORM's CARD OF 'breviarylaw01.SumLinear'. -/
def sumLinearUptoCard : Claim7 := { stood := { row := sumLinearUptoRow, standIns := [], harness := (true, "a89c76b6f28bb1083b57b10669451886d2f727811f039ec3342acfe7b0b96739"), looks := false }, kinds := [], alts := [], laidByText := true, laidKinds := [.data], laidTests := true, laidLooks := .later }
def SumLinearUptoCardSaid : Prop := Claim7.holds Tryd.pinned (.plain (OpenSpec.upto sumLinearSpec)) sumLinearUptoCard

/-- THE SECOND FORM's CARD OF 'breviarylaw01.SumMore'. -/
def sumMoreUptoCard : Claim7 := { stood := { row := sumMoreUptoRow, standIns := [], harness := (true, "a89c76b6f28bb1083b57b10669451886d2f727811f039ec3342acfe7b0b96739"), looks := false }, kinds := [], alts := [], laidByText := true, laidKinds := [.data], laidTests := true, laidLooks := .later }
def SumMoreUptoCardSaid : Prop := Claim7.holds Tryd.pinned (.plain (OpenSpec.upto sumMoreSpec)) sumMoreUptoCard

/-- THE SECOND FORM's CARD OF 'breviarylaw01.SumParts'. -/
def sumPartsUptoCard : Claim7 := { stood := { row := sumPartsUptoRow, standIns := [], harness := (true, "a89c76b6f28bb1083b57b10669451886d2f727811f039ec3342acfe7b0b96739"), looks := false }, kinds := [], alts := [], laidByText := true, laidKinds := [.data], laidTests := true, laidLooks := .later }
def SumPartsUptoCardSaid : Prop := Claim7.holds Tryd.pinned (.plain (OpenSpec.upto sumPartsSpec)) sumPartsUptoCard

/-- THE SECOND FORM's CARD OF 'breviarylaw01.SumSeals'. -/
def sumSealsUptoCard : Claim7 := { stood := { row := sumSealsUptoRow, standIns := [], harness := (true, "a89c76b6f28bb1083b57b10669451886d2f727811f039ec3342acfe7b0b96739"), looks := false }, kinds := [], alts := [], laidByText := true, laidKinds := [.data], laidTests := true, laidLooks := .later }
def SumSealsUptoCardSaid : Prop := Claim7.holds Tryd.pinned (.plain (OpenSpec.upto sumSealsSpec)) sumSealsUptoCard

/-- THE SECOND FORM's CARD OF 'breviarylaw01.SumBack'. -/
def sumBackUptoCard : Claim7 := { stood := { row := sumBackUptoRow, standIns := [], harness := (true, "a89c76b6f28bb1083b57b10669451886d2f727811f039ec3342acfe7b0b96739"), looks := false }, kinds := [], alts := [], laidByText := true, laidKinds := [.data], laidTests := true, laidLooks := .later }
def SumBackUptoCardSaid : Prop := Claim7.holds Tryd.pinned (.plain (OpenSpec.upto sumBackSpec)) sumBackUptoCard

/-- THE SECOND FORM's CARD OF 'breviarylaw01.SumTurned'. -/
def sumTurnedUptoCard : Claim7 := { stood := { row := sumTurnedUptoRow, standIns := [], harness := (true, "a89c76b6f28bb1083b57b10669451886d2f727811f039ec3342acfe7b0b96739"), looks := false }, kinds := [], alts := [], laidByText := true, laidKinds := [.data], laidTests := true, laidLooks := .later }
def SumTurnedUptoCardSaid : Prop := Claim7.holds Tryd.pinned (.plain (OpenSpec.upto sumTurnedSpec)) sumTurnedUptoCard
end Rows
end Go.Proofs.YtfpbgfhifbgokaaDoor
