/-
  DERIVED. GIVEN WITH THE SEED: THE CARDS: each row of YtjlnicjnjnkdoaaDoorRows.lean that lists a variable, with what it lists TIED to the program's text (the seventh form; the later family's looks); each row that meets fmt, with fmt's text TOLD by the authors' own Lean function (tested against real Go, not proved from fmt's source: count such statements apart). THE CARD IS WHAT COUNTS. Prove the row's statement (the work); the ties are given (YtjlnicjnjnkdoaaDoorTie.lean); close each card by the builder's one call (the guide's Derived/Test/ToyasCard.lean, 'card_holds'). Laid BY PROGRAM, IN A SANDBOX (cutbox-door.mjs). By AI agents, Wed Nov 11 2026. No macro, syntax, notation, axiom, sorry.
-/
import Derived.Test.YtjlnicjnjnkdoaaDoorRows
import GoSem.ClaimSeven
namespace Go.Proofs.YtjlnicjnjnkdoaaDoor
namespace Rows

/-- THE TIED CARD OF 'flumelaw5.SeriesAll'. -/
def seriesAllCard : Claim7 := { stood := { row := seriesAllRow, standIns := [], harness := (true, "18e270b3d09efcfe9890ff77d050bc63f82e319ba95167df44db72a7543ee21e"), looks := false }, kinds := [], alts := [], laidByText := true, laidKinds := [.data], laidTests := true, laidLooks := .later }
def SeriesAllCardSaid : Prop := Claim7.holds Tryd.pinned (.plain (OpenSpec.ofChange seriesAllSpec)) seriesAllCard

/-- THE SECOND FORM's CARD OF 'flumelaw5.SeriesAll'. -/
def seriesAllUptoCard : Claim7 := { stood := { row := seriesAllUptoRow, standIns := [], harness := (true, "18e270b3d09efcfe9890ff77d050bc63f82e319ba95167df44db72a7543ee21e"), looks := false }, kinds := [], alts := [], laidByText := true, laidKinds := [.data], laidTests := true, laidLooks := .later }
def SeriesAllUptoCardSaid : Prop := Claim7.holds Tryd.pinned (.plain (OpenSpec.upto seriesAllSpec)) seriesAllUptoCard
end Rows
end Go.Proofs.YtjlnicjnjnkdoaaDoor
