/-
  DERIVED. GIVEN WITH THE SEED: THE CARDS: each row of YtjboibbgigkhkaaGreatDoorRows.lean that lists a variable, with what it lists TIED to the program's text (the seventh form; the later family's looks); each row that meets fmt, with fmt's text TOLD by the authors' own Lean function (tested against real Go, not proved from fmt's source: count such statements apart). THE CARD IS WHAT COUNTS. Prove the row's statement (the work); the ties are given (YtjboibbgigkhkaaGreatDoorTie.lean); close each card by the builder's one call (the guide's Derived/Test/ToyasCard.lean, 'card_holds'). Laid BY PROGRAM, IN A SANDBOX (cutbox-door.mjs). By AI agents, Wed Nov 11 2026. No macro, syntax, notation, axiom, sorry.
-/
import Derived.Test.YtjboibbgigkhkaaGreatDoorRows
import GoSem.ClaimSeven
namespace Go.Proofs.YtjboibbgigkhkaaGreatDoor
namespace Rows

/-- THE TIED CARD OF 'sktop.TopSums'. -/
def topSumsCard : Claim7 := { stood := { row := topSumsRow, standIns := [], harness := (true, "3957fe8b5215e37d232c04f0dce159d0769341ff21dc7c784efbcaaa29588cfb"), looks := true }, kinds := [], alts := [], laidByText := true, laidKinds := [.data, .data, .data, .data, .sentinel, .sentinel, .pinned], laidTests := true, laidLooks := .later }
def TopSumsCardSaid : Prop := Claim7.holds Tryz.pinned (.plain (OpenSpec.ofChange topSumsSpec)) topSumsCard

/-- THE TIED CARD OF 'sktop.TopSwap'. -/
def topSwapCard : Claim7 := { stood := { row := topSwapRow, standIns := [], harness := (true, "3957fe8b5215e37d232c04f0dce159d0769341ff21dc7c784efbcaaa29588cfb"), looks := true }, kinds := [], alts := [], laidByText := true, laidKinds := [.data, .data, .data, .data, .sentinel, .sentinel, .pinned], laidTests := true, laidLooks := .later }
def TopSwapCardSaid : Prop := Claim7.holds Tryz.pinned (.plain (OpenSpec.ofChange topSwapSpec)) topSwapCard

/-- THE TIED CARD OF 'sklaw3.TextTells'. -/
def textTellsCard : Claim7 := { stood := { row := textTellsRow, standIns := [], harness := (true, "3957fe8b5215e37d232c04f0dce159d0769341ff21dc7c784efbcaaa29588cfb"), looks := true }, kinds := [], alts := [], laidByText := true, laidKinds := [.data, .data, .data, .data, .sentinel, .sentinel, .pinned], laidTests := true, laidLooks := .later }
def TextTellsCardSaid : Prop := Claim7.holds Tryz.pinned (.plain (OpenSpec.ofChange textTellsSpec)) textTellsCard

/-- THE TIED CARD OF 'sktop.TopProof'. -/
def topProofCard : Claim7 := { stood := { row := topProofRow, standIns := [], harness := (true, "3957fe8b5215e37d232c04f0dce159d0769341ff21dc7c784efbcaaa29588cfb"), looks := true }, kinds := [], alts := [], laidByText := true, laidKinds := [.data, .data, .data, .data, .sentinel, .sentinel, .pinned], laidTests := true, laidLooks := .later }
def TopProofCardSaid : Prop := Claim7.holds Tryz.pinned (.plain (OpenSpec.ofChange topProofSpec)) topProofCard

/-- THE SECOND FORM's CARD OF 'sktop.TopSums'. -/
def topSumsUptoCard : Claim7 := { stood := { row := topSumsUptoRow, standIns := [], harness := (true, "3957fe8b5215e37d232c04f0dce159d0769341ff21dc7c784efbcaaa29588cfb"), looks := true }, kinds := [], alts := [], laidByText := true, laidKinds := [.data, .data, .data, .data, .sentinel, .sentinel, .pinned], laidTests := true, laidLooks := .later }
def TopSumsUptoCardSaid : Prop := Claim7.holds Tryz.pinned (.plain (OpenSpec.upto topSumsSpec)) topSumsUptoCard

/-- THE SECOND FORM's CARD OF 'sktop.TopSwap'. -/
def topSwapUptoCard : Claim7 := { stood := { row := topSwapUptoRow, standIns := [], harness := (true, "3957fe8b5215e37d232c04f0dce159d0769341ff21dc7c784efbcaaa29588cfb"), looks := true }, kinds := [], alts := [], laidByText := true, laidKinds := [.data, .data, .data, .data, .sentinel, .sentinel, .pinned], laidTests := true, laidLooks := .later }
def TopSwapUptoCardSaid : Prop := Claim7.holds Tryz.pinned (.plain (OpenSpec.upto topSwapSpec)) topSwapUptoCard

/-- THE SECOND FORM's CARD OF 'sklaw3.TextTells'. -/
def textTellsUptoCard : Claim7 := { stood := { row := textTellsUptoRow, standIns := [], harness := (true, "3957fe8b5215e37d232c04f0dce159d0769341ff21dc7c784efbcaaa29588cfb"), looks := true }, kinds := [], alts := [], laidByText := true, laidKinds := [.data, .data, .data, .data, .sentinel, .sentinel, .pinned], laidTests := true, laidLooks := .later }
def TextTellsUptoCardSaid : Prop := Claim7.holds Tryz.pinned (.plain (OpenSpec.upto textTellsSpec)) textTellsUptoCard

/-- THE SECOND FORM's CARD OF 'sktop.TopProof'. -/
def topProofUptoCard : Claim7 := { stood := { row := topProofUptoRow, standIns := [], harness := (true, "3957fe8b5215e37d232c04f0dce159d0769341ff21dc7c784efbcaaa29588cfb"), looks := true }, kinds := [], alts := [], laidByText := true, laidKinds := [.data, .data, .data, .data, .sentinel, .sentinel, .pinned], laidTests := true, laidLooks := .later }
def TopProofUptoCardSaid : Prop := Claim7.holds Tryz.pinned (.plain (OpenSpec.upto topProofSpec)) topProofUptoCard
end Rows
end Go.Proofs.YtjboibbgigkhkaaGreatDoor
