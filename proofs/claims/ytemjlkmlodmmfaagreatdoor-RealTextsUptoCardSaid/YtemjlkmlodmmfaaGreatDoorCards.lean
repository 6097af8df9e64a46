/-
  DERIVED. GIVEN WITH THE SEED: THE CARDS: each row of YtemjlkmlodmmfaaGreatDoorRows.lean that lists a variable, with what it lists TIED to the program's text (the seventh form; the later family's looks); each row that meets fmt, with fmt's text TOLD by the authors' own Lean function (tested against real Go, not proved from fmt's source: count such statements apart). THE CARD IS WHAT COUNTS. Prove the row's statement (the work); the ties are given (YtemjlkmlodmmfaaGreatDoorTie.lean); close each card by the builder's one call (the guide's Derived/Test/ToyasCard.lean, 'card_holds'). Laid BY PROGRAM, IN A SANDBOX (cutbox-door.mjs). By AI agents, Wed Nov 11 2026. No macro, syntax, notation, axiom, sorry.
-/
import Derived.Test.YtemjlkmlodmmfaaGreatDoorRows
import GoSem.ClaimSeven
namespace Go.Proofs.YtemjlkmlodmmfaaGreatDoor
namespace Rows

/-- THE TIED CARD OF 'flumelaw3.RealTexts'. -/
def realTextsCard : Claim7 := { stood := { row := realTextsRow, standIns := [], harness := (true, "f73d2c6b4904d43e0fb31553739a09c098326ca1157312eeb392d56167454626"), looks := true }, kinds := [], alts := [], laidByText := true, laidKinds := [.data, .data, .widerDeep, .widerDeep, .data, .data, .data, .data, .data, .sentinel, .sentinel, .pinned, .pinned], laidTests := true, laidLooks := .later }
def RealTextsCardSaid : Prop := Claim7.holds Tryz.pinned (.plain (OpenSpec.ofChange realTextsSpec)) realTextsCard

/-- THE SECOND FORM's CARD OF 'flumelaw3.RealTexts'. -/
def realTextsUptoCard : Claim7 := { stood := { row := realTextsUptoRow, standIns := [], harness := (true, "f73d2c6b4904d43e0fb31553739a09c098326ca1157312eeb392d56167454626"), looks := true }, kinds := [], alts := [], laidByText := true, laidKinds := [.data, .data, .widerDeep, .widerDeep, .data, .data, .data, .data, .data, .sentinel, .sentinel, .pinned, .pinned], laidTests := true, laidLooks := .later }
def RealTextsUptoCardSaid : Prop := Claim7.holds Tryz.pinned (.plain (OpenSpec.upto realTextsSpec)) realTextsUptoCard
end Rows
end Go.Proofs.YtemjlkmlodmmfaaGreatDoor
