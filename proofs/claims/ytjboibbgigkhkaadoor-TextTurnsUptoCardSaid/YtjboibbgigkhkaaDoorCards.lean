/-
  DERIVED. GIVEN WITH THE SEED: THE CARDS: each row of YtjboibbgigkhkaaDoorRows.lean that lists a variable, with what it lists TIED to the program's text (the seventh form; the later family's looks); each row that meets fmt, with fmt's text TOLD by the authors' own Lean function (tested against real Go, not proved from fmt's source: count such statements apart). THE CARD IS WHAT COUNTS. Prove the row's statement (the work); the ties are given (YtjboibbgigkhkaaDoorTie.lean); close each card by the builder's one call (the guide's Derived/Test/ToyasCard.lean, 'card_holds'). Laid BY PROGRAM, IN A SANDBOX (cutbox-door.mjs). By AI agents, Wed Nov 11 2026. No macro, syntax, notation, axiom, sorry.
-/
import Derived.Test.YtjboibbgigkhkaaDoorRows
import GoSem.ClaimSeven
namespace Go.Proofs.YtjboibbgigkhkaaDoor
namespace Rows

/-- THE TIED CARD OF 'sklaw1.TermLift'. -/
def termLiftCard : Claim7 := { stood := { row := termLiftRow, standIns := [], harness := (true, "325ee1ae93954737bf38e7242f7b4b5d7bb6c660e95575ccb807d8c5a609eeff"), looks := true }, kinds := [], alts := [], laidByText := true, laidKinds := [.data, .data, .data, .sentinel, .sentinel], laidTests := true, laidLooks := .later }
def TermLiftCardSaid : Prop := Claim7.holds Tryd.pinned (.plain (OpenSpec.ofChange termLiftSpec)) termLiftCard

/-- THE TIED CARD OF 'sklaw1.TermPuts'. -/
def termPutsCard : Claim7 := { stood := { row := termPutsRow, standIns := [], harness := (true, "325ee1ae93954737bf38e7242f7b4b5d7bb6c660e95575ccb807d8c5a609eeff"), looks := true }, kinds := [], alts := [], laidByText := true, laidKinds := [.data, .data, .data, .sentinel, .sentinel], laidTests := true, laidLooks := .later }
def TermPutsCardSaid : Prop := Claim7.holds Tryd.pinned (.plain (OpenSpec.ofChange termPutsSpec)) termPutsCard

/-- THE TIED CARD OF 'sklaw3.TextTurns'. -/
def textTurnsCard : Claim7 := { stood := { row := textTurnsRow, standIns := [], harness := (true, "325ee1ae93954737bf38e7242f7b4b5d7bb6c660e95575ccb807d8c5a609eeff"), looks := true }, kinds := [], alts := [], laidByText := true, laidKinds := [.data, .data, .data, .data, .sentinel, .sentinel, .pinned], laidTests := true, laidLooks := .later }
def TextTurnsCardSaid : Prop := Claim7.holds Tryd.pinned (.plain (OpenSpec.ofChange textTurnsSpec)) textTurnsCard

/-- THE TIED CARD OF 'sklaw3.TextBlank'. -/
def textBlankCard : Claim7 := { stood := { row := textBlankRow, standIns := [], harness := (true, "325ee1ae93954737bf38e7242f7b4b5d7bb6c660e95575ccb807d8c5a609eeff"), looks := true }, kinds := [], alts := [], laidByText := true, laidKinds := [.data, .data, .data, .data, .sentinel, .sentinel, .pinned], laidTests := true, laidLooks := .later }
def TextBlankCardSaid : Prop := Claim7.holds Tryd.pinned (.plain (OpenSpec.ofChange textBlankSpec)) textBlankCard

/-- THE SECOND FORM's CARD OF 'sklaw1.TermLift'. -/
def termLiftUptoCard : Claim7 := { stood := { row := termLiftUptoRow, standIns := [], harness := (true, "325ee1ae93954737bf38e7242f7b4b5d7bb6c660e95575ccb807d8c5a609eeff"), looks := true }, kinds := [], alts := [], laidByText := true, laidKinds := [.data, .data, .data, .sentinel, .sentinel], laidTests := true, laidLooks := .later }
def TermLiftUptoCardSaid : Prop := Claim7.holds Tryd.pinned (.plain (OpenSpec.upto termLiftSpec)) termLiftUptoCard

/-- THE SECOND FORM's CARD OF 'sklaw1.TermPuts'. -/
def termPutsUptoCard : Claim7 := { stood := { row := termPutsUptoRow, standIns := [], harness := (true, "325ee1ae93954737bf38e7242f7b4b5d7bb6c660e95575ccb807d8c5a609eeff"), looks := true }, kinds := [], alts := [], laidByText := true, laidKinds := [.data, .data, .data, .sentinel, .sentinel], laidTests := true, laidLooks := .later }
def TermPutsUptoCardSaid : Prop := Claim7.holds Tryd.pinned (.plain (OpenSpec.upto termPutsSpec)) termPutsUptoCard

/-- THE SECOND FORM's CARD OF 'sklaw3.TextTurns'. -/
def textTurnsUptoCard : Claim7 := { stood := { row := textTurnsUptoRow, standIns := [], harness := (true, "325ee1ae93954737bf38e7242f7b4b5d7bb6c660e95575ccb807d8c5a609eeff"), looks := true }, kinds := [], alts := [], laidByText := true, laidKinds := [.data, .data, .data, .data, .sentinel, .sentinel, .pinned], laidTests := true, laidLooks := .later }
def TextTurnsUptoCardSaid : Prop := Claim7.holds Tryd.pinned (.plain (OpenSpec.upto textTurnsSpec)) textTurnsUptoCard

/-- THE SECOND FORM's CARD OF 'sklaw3.TextBlank'. -/
def textBlankUptoCard : Claim7 := { stood := { row := textBlankUptoRow, standIns := [], harness := (true, "325ee1ae93954737bf38e7242f7b4b5d7bb6c660e95575ccb807d8c5a609eeff"), looks := true }, kinds := [], alts := [], laidByText := true, laidKinds := [.data, .data, .data, .data, .sentinel, .sentinel, .pinned], laidTests := true, laidLooks := .later }
def TextBlankUptoCardSaid : Prop := Claim7.holds Tryd.pinned (.plain (OpenSpec.upto textBlankSpec)) textBlankUptoCard
end Rows
end Go.Proofs.YtjboibbgigkhkaaDoor
