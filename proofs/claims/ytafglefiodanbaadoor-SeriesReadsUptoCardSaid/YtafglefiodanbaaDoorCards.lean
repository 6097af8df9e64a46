/-
  DERIVED. GIVEN WITH THE SEED: THE CARDS: each row of YtafglefiodanbaaDoorRows.lean that lists a variable, with what it lists TIED to the program's text (the seventh form; the later family's looks); each row that meets fmt, with fmt's text TOLD by the authors' own Lean function (tested against real Go, not proved from fmt's source: count such statements apart). THE CARD IS WHAT COUNTS. Prove the row's statement (the work); the ties are given (YtafglefiodanbaaDoorTie.lean); close each card by the builder's one call (the guide's Derived/Test/ToyasCard.lean, 'card_holds'). Laid BY PROGRAM, IN A SANDBOX (cutbox-door.mjs). By AI agents, Wed Nov 11 2026. No macro, syntax, notation, axiom, sorry.
-/
import Derived.Test.YtafglefiodanbaaDoorRows
import GoSem.ClaimSeven
namespace Go.Proofs.YtafglefiodanbaaDoor
namespace Rows

/-- THE TIED CARD OF 'flumelaw5.SeriesBack'. -/
def seriesBackCard : Claim7 := { stood := { row := seriesBackRow, standIns := [], harness := (true, "400582baabd8a0657b9c925bb2ceea72c6ca704c2c7753f406fe92afa4240214"), looks := false }, kinds := [], alts := [], laidByText := true, laidKinds := [.data], laidTests := true, laidLooks := .later }
def SeriesBackCardSaid : Prop := Claim7.holds Tryd.pinned (.plain (OpenSpec.ofChange seriesBackSpec)) seriesBackCard

/-- THE TIED CARD OF 'flumelaw5.SeriesReads'. -/
def seriesReadsCard : Claim7 := { stood := { row := seriesReadsRow, standIns := [], harness := (true, "400582baabd8a0657b9c925bb2ceea72c6ca704c2c7753f406fe92afa4240214"), looks := false }, kinds := [], alts := [], laidByText := true, laidKinds := [.data], laidTests := true, laidLooks := .later }
def SeriesReadsCardSaid : Prop := Claim7.holds Tryd.pinned (.plain (OpenSpec.ofChange seriesReadsSpec)) seriesReadsCard

/-- THE TIED CARD OF 'flumelaw5.SeriesSame'. -/
def seriesSameCard : Claim7 := { stood := { row := seriesSameRow, standIns := [], harness := (true, "400582baabd8a0657b9c925bb2ceea72c6ca704c2c7753f406fe92afa4240214"), looks := false }, kinds := [], alts := [], laidByText := true, laidKinds := [.data], laidTests := true, laidLooks := .later }
def SeriesSameCardSaid : Prop := Claim7.holds Tryd.pinned (.plain (OpenSpec.ofChange seriesSameSpec)) seriesSameCard

/-- THE SECOND FORM's CARD OF 'flumelaw5.SeriesBack'. -/
def seriesBackUptoCard : Claim7 := { stood := { row := seriesBackUptoRow, standIns := [], harness := (true, "400582baabd8a0657b9c925bb2ceea72c6ca704c2c7753f406fe92afa4240214"), looks := false }, kinds := [], alts := [], laidByText := true, laidKinds := [.data], laidTests := true, laidLooks := .later }
def SeriesBackUptoCardSaid : Prop := Claim7.holds Tryd.pinned (.plain (OpenSpec.upto seriesBackSpec)) seriesBackUptoCard

/-- THE SECOND FORM's CARD OF 'flumelaw5.SeriesReads'. -/
def seriesReadsUptoCard : Claim7 := { stood := { row := seriesReadsUptoRow, standIns := [], harness := (true, "400582baabd8a0657b9c925bb2ceea72c6ca704c2c7753f406fe92afa4240214"), looks := false }, kinds := [], alts := [], laidByText := true, laidKinds := [.data], laidTests := true, laidLooks := .later }
def SeriesReadsUptoCardSaid : Prop := Claim7.holds Tryd.pinned (.plain (OpenSpec.upto seriesReadsSpec)) seriesReadsUptoCard

/-- THE SECOND FORM's CARD OF 'flumelaw5.SeriesSame'. -/
def seriesSameUptoCard : Claim7 := { stood := { row := seriesSameUptoRow, standIns := [], harness := (true, "400582baabd8a0657b9c925bb2ceea72c6ca704c2c7753f406fe92afa4240214"), looks := false }, kinds := [], alts := [], laidByText := true, laidKinds := [.data], laidTests := true, laidLooks := .later }
def SeriesSameUptoCardSaid : Prop := Claim7.holds Tryd.pinned (.plain (OpenSpec.upto seriesSameSpec)) seriesSameUptoCard
end Rows
end Go.Proofs.YtafglefiodanbaaDoor
