/-
  DERIVED. GIVEN WITH THE SEED: THE CARDS: each row of YtipkiiblghnoiabGreatDoorRows.lean that lists a variable, with what it lists TIED to the program's text (the seventh form; the later family's looks); each row that meets fmt, with fmt's text TOLD by the authors' own Lean function (tested against real Go, not proved from fmt's source: count such statements apart). THE CARD IS WHAT COUNTS. Prove the row's statement (the work); the ties are given (YtipkiiblghnoiabGreatDoorTie.lean); close each card by the builder's one call (the guide's Derived/Test/ToyasCard.lean, 'card_holds'). Laid BY PROGRAM, IN A SANDBOX (cutbox-door.mjs). By AI agents, Wed Nov 11 2026. No macro, syntax, notation, axiom, sorry.
-/
import Derived.Test.YtipkiiblghnoiabGreatDoorRows
import GoSem.ClaimSeven
namespace Go.Proofs.YtipkiiblghnoiabGreatDoor
namespace Rows

/-- THE TIED CARD OF 'flumelaw3.RealNext'. -/
def realNextCard : Claim7 := { stood := { row := realNextRow, standIns := [], harness := (true, "e979d75722ab66132254191cc6a8326dd0cddad34d2faee6db05d5a07732293d"), looks := true }, kinds := [], alts := [], laidByText := true, laidKinds := [.data, .data, .widerDeep, .widerDeep, .data, .data, .data, .data, .data, .sentinel, .sentinel, .pinned, .pinned], laidTests := true, laidLooks := .later }
def RealNextCardSaid : Prop := Claim7.holds Tryz.pinned (.plain (OpenSpec.ofChange realNextSpec)) realNextCard

/-- THE SECOND FORM's CARD OF 'flumelaw3.RealNext'. -/
def realNextUptoCard : Claim7 := { stood := { row := realNextUptoRow, standIns := [], harness := (true, "e979d75722ab66132254191cc6a8326dd0cddad34d2faee6db05d5a07732293d"), looks := true }, kinds := [], alts := [], laidByText := true, laidKinds := [.data, .data, .widerDeep, .widerDeep, .data, .data, .data, .data, .data, .sentinel, .sentinel, .pinned, .pinned], laidTests := true, laidLooks := .later }
def RealNextUptoCardSaid : Prop := Claim7.holds Tryz.pinned (.plain (OpenSpec.upto realNextSpec)) realNextUptoCard
end Rows
end Go.Proofs.YtipkiiblghnoiabGreatDoor
