/-
  DERIVED. GIVEN WITH THE SEED: THE CARDS: each row of YtipkiiblghnoiaaGreatDoorRows.lean that lists a variable, with what it lists TIED to the program's text (the seventh form; the later family's looks); each row that meets fmt, with fmt's text TOLD by the authors' own Lean function (tested against real Go, not proved from fmt's source: count such statements apart). THE CARD IS WHAT COUNTS. Prove the row's statement (the work); the ties are given (YtipkiiblghnoiaaGreatDoorTie.lean); close each card by the builder's one call (the guide's Derived/Test/ToyasCard.lean, 'card_holds'). Laid BY PROGRAM, IN A SANDBOX (cutbox-door.mjs). By AI agents, Wed Nov 11 2026. No macro, syntax, notation, axiom, sorry.
-/
import Derived.Test.YtipkiiblghnoiaaGreatDoorRows
import GoSem.ClaimSeven
namespace Go.Proofs.YtipkiiblghnoiaaGreatDoor
namespace Rows

/-- THE TIED CARD OF 'flumelaw3.RealLists'. -/
def realListsCard : Claim7 := { stood := { row := realListsRow, standIns := [], harness := (true, "eedd4402537acebd845ab1ee551adfaedab3594bf411a4f0b5e2982da62752a7"), looks := true }, kinds := [], alts := [], laidByText := true, laidKinds := [.data, .data, .widerDeep, .widerDeep, .data, .data, .data, .data, .data, .sentinel, .sentinel, .pinned, .pinned], laidTests := true, laidLooks := .later }
def RealListsCardSaid : Prop := Claim7.holds Tryz.pinned (.plain (OpenSpec.ofChange realListsSpec)) realListsCard

/-- THE TIED CARD OF 'flumelaw3.RealEnds'. -/
def realEndsCard : Claim7 := { stood := { row := realEndsRow, standIns := [], harness := (true, "eedd4402537acebd845ab1ee551adfaedab3594bf411a4f0b5e2982da62752a7"), looks := true }, kinds := [], alts := [], laidByText := true, laidKinds := [.data, .data, .widerDeep, .widerDeep, .data, .data, .data, .data, .data, .sentinel, .sentinel, .pinned, .pinned], laidTests := true, laidLooks := .later }
def RealEndsCardSaid : Prop := Claim7.holds Tryz.pinned (.plain (OpenSpec.ofChange realEndsSpec)) realEndsCard

/-- THE TIED CARD OF 'flumelaw3.RealClasses'. -/
def realClassesCard : Claim7 := { stood := { row := realClassesRow, standIns := [], harness := (true, "eedd4402537acebd845ab1ee551adfaedab3594bf411a4f0b5e2982da62752a7"), looks := true }, kinds := [], alts := [], laidByText := true, laidKinds := [.data, .data, .widerDeep, .widerDeep, .data, .data, .data, .data, .data, .sentinel, .sentinel, .pinned, .pinned], laidTests := true, laidLooks := .later }
def RealClassesCardSaid : Prop := Claim7.holds Tryz.pinned (.plain (OpenSpec.ofChange realClassesSpec)) realClassesCard

/-- THE TIED CARD OF 'flumelaw3.RealOrder'. -/
def realOrderCard : Claim7 := { stood := { row := realOrderRow, standIns := [], harness := (true, "eedd4402537acebd845ab1ee551adfaedab3594bf411a4f0b5e2982da62752a7"), looks := true }, kinds := [], alts := [], laidByText := true, laidKinds := [.data, .data, .widerDeep, .widerDeep, .data, .data, .data, .data, .data, .sentinel, .sentinel, .pinned, .pinned], laidTests := true, laidLooks := .later }
def RealOrderCardSaid : Prop := Claim7.holds Tryz.pinned (.plain (OpenSpec.ofChange realOrderSpec)) realOrderCard

/-- THE TIED CARD OF 'flumelaw3.RealSums'. -/
def realSumsCard : Claim7 := { stood := { row := realSumsRow, standIns := [], harness := (true, "eedd4402537acebd845ab1ee551adfaedab3594bf411a4f0b5e2982da62752a7"), looks := true }, kinds := [], alts := [], laidByText := true, laidKinds := [.data, .data, .widerDeep, .widerDeep, .data, .data, .data, .data, .data, .sentinel, .sentinel, .pinned, .pinned], laidTests := true, laidLooks := .later }
def RealSumsCardSaid : Prop := Claim7.holds Tryz.pinned (.plain (OpenSpec.ofChange realSumsSpec)) realSumsCard

/-- THE TIED CARD OF 'flumelaw3.RealAll'. -/
def realAllCard : Claim7 := { stood := { row := realAllRow, standIns := [], harness := (true, "eedd4402537acebd845ab1ee551adfaedab3594bf411a4f0b5e2982da62752a7"), looks := true }, kinds := [], alts := [], laidByText := true, laidKinds := [.data, .data, .widerDeep, .widerDeep, .data, .data, .data, .data, .data, .sentinel, .sentinel, .pinned, .pinned], laidTests := true, laidLooks := .later }
def RealAllCardSaid : Prop := Claim7.holds Tryz.pinned (.plain (OpenSpec.ofChange realAllSpec)) realAllCard

/-- THE SECOND FORM's CARD OF 'flumelaw3.RealLists'. -/
def realListsUptoCard : Claim7 := { stood := { row := realListsUptoRow, standIns := [], harness := (true, "eedd4402537acebd845ab1ee551adfaedab3594bf411a4f0b5e2982da62752a7"), looks := true }, kinds := [], alts := [], laidByText := true, laidKinds := [.data, .data, .widerDeep, .widerDeep, .data, .data, .data, .data, .data, .sentinel, .sentinel, .pinned, .pinned], laidTests := true, laidLooks := .later }
def RealListsUptoCardSaid : Prop := Claim7.holds Tryz.pinned (.plain (OpenSpec.upto realListsSpec)) realListsUptoCard

/-- THE SECOND FORM's CARD OF 'flumelaw3.RealEnds'. -/
def realEndsUptoCard : Claim7 := { stood := { row := realEndsUptoRow, standIns := [], harness := (true, "eedd4402537acebd845ab1ee551adfaedab3594bf411a4f0b5e2982da62752a7"), looks := true }, kinds := [], alts := [], laidByText := true, laidKinds := [.data, .data, .widerDeep, .widerDeep, .data, .data, .data, .data, .data, .sentinel, .sentinel, .pinned, .pinned], laidTests := true, laidLooks := .later }
def RealEndsUptoCardSaid : Prop := Claim7.holds Tryz.pinned (.plain (OpenSpec.upto realEndsSpec)) realEndsUptoCard

/-- THE SECOND FORM's CARD OF 'flumelaw3.RealClasses'. -/
def realClassesUptoCard : Claim7 := { stood := { row := realClassesUptoRow, standIns := [], harness := (true, "eedd4402537acebd845ab1ee551adfaedab3594bf411a4f0b5e2982da62752a7"), looks := true }, kinds := [], alts := [], laidByText := true, laidKinds := [.data, .data, .widerDeep, .widerDeep, .data, .data, .data, .data, .data, .sentinel, .sentinel, .pinned, .pinned], laidTests := true, laidLooks := .later }
def RealClassesUptoCardSaid : Prop := Claim7.holds Tryz.pinned (.plain (OpenSpec.upto realClassesSpec)) realClassesUptoCard

/-- THE SECOND FORM's CARD OF 'flumelaw3.RealOrder'. -/
def realOrderUptoCard : Claim7 := { stood := { row := realOrderUptoRow, standIns := [], harness := (true, "eedd4402537acebd845ab1ee551adfaedab3594bf411a4f0b5e2982da62752a7"), looks := true }, kinds := [], alts := [], laidByText := true, laidKinds := [.data, .data, .widerDeep, .widerDeep, .data, .data, .data, .data, .data, .sentinel, .sentinel, .pinned, .pinned], laidTests := true, laidLooks := .later }
def RealOrderUptoCardSaid : Prop := Claim7.holds Tryz.pinned (.plain (OpenSpec.upto realOrderSpec)) realOrderUptoCard

/-- THE SECOND FORM's CARD OF 'flumelaw3.RealSums'. -/
def realSumsUptoCard : Claim7 := { stood := { row := realSumsUptoRow, standIns := [], harness := (true, "eedd4402537acebd845ab1ee551adfaedab3594bf411a4f0b5e2982da62752a7"), looks := true }, kinds := [], alts := [], laidByText := true, laidKinds := [.data, .data, .widerDeep, .widerDeep, .data, .data, .data, .data, .data, .sentinel, .sentinel, .pinned, .pinned], laidTests := true, laidLooks := .later }
def RealSumsUptoCardSaid : Prop := Claim7.holds Tryz.pinned (.plain (OpenSpec.upto realSumsSpec)) realSumsUptoCard

/-- THE SECOND FORM's CARD OF 'flumelaw3.RealAll'. -/
def realAllUptoCard : Claim7 := { stood := { row := realAllUptoRow, standIns := [], harness := (true, "eedd4402537acebd845ab1ee551adfaedab3594bf411a4f0b5e2982da62752a7"), looks := true }, kinds := [], alts := [], laidByText := true, laidKinds := [.data, .data, .widerDeep, .widerDeep, .data, .data, .data, .data, .data, .sentinel, .sentinel, .pinned, .pinned], laidTests := true, laidLooks := .later }
def RealAllUptoCardSaid : Prop := Claim7.holds Tryz.pinned (.plain (OpenSpec.upto realAllSpec)) realAllUptoCard
end Rows
end Go.Proofs.YtipkiiblghnoiaaGreatDoor
