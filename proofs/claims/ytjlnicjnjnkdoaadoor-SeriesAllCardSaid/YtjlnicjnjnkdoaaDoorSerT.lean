/- What the rows' list gives: the library's table; a world that holds it. By an AI agent. -/
import Derived.Test.YtjlnicjnjnkdoaaDoorSerJ
import Derived.Test.YtjlnicjnjnkdoaaDoorCards
import Derived.Test.YtjlnicjnjnkdoaaDoorTie
import Derived.Deep.DeepHandedRow
import Derived.Lib.LaidTab
namespace Go.Proofs.YtjlnicjnjnkdoaaDoor
open Go.ChangeShapes Go.WideShapes Go.ChangeAt Go.RowKit
open Bt
set_option linter.unusedVariables false

theorem own : ownKnob Tryd.prog.godebug = none := by kernel_rfl
theorem gTab : Tryd.prog.globalNamed "math/bits.deBruijn64tab" = some 1 := by kernel_rfl
theorem gTabType : (Tryd.prog.globals[1]?).map (·.type) = some 90 := by kernel_rfl
theorem cellsA : Tryd.prog.cellsOf 90 = 64 := by kernel_rfl
theorem cellsE : Tryd.prog.cellsOf 5 = 1 := by kernel_rfl

theorem table {W : World} (h : laidMetH Tryd.prog [("math/bits.deBruijn64tab", Rows.laid_math_bits_deBruijn64tab)] W) : Tab W := by
  have ht : Lib.TabIs Tryd.prog W "math/bits.deBruijn64tab" .u8 (Lib.deBruijn64tab.map fun n : Nat => (n : Int)) :=
    Lib.tabIs_of_head (rest := []) gTab gTabType Tryd.underlying90 Tryd.underlying5 cellsE cellsA h
  intro j hj
  have hl : j < Lib.deBruijn64tab.length := by simpa [Lib.deBruijn64tab] using hj
  rw [ht.cell gTab j (by simpa using hl)]
  rw [List.getD_eq_getElem?_getD, List.getD_eq_getElem?_getD, List.getElem?_map, List.getElem?_eq_getElem hl]
  rfl

theorem tab_lt {W : World} (h : Tab W) : 1 < W.heap.size := by
  have := cell_in (h 0 (by omega))
  exact this

/-- A world for the witness: the settled one, the table holding what its initialiser lays. -/
noncomputable def laidWorld (os : Os) : World :=
  { World.holding Tryd.prog os ⟨#[], #[], []⟩ with heap := (World.holding Tryd.prog os ⟨#[], #[], []⟩).heap.modify 1 fun
      | .cells _ t frozen => .cells (Lib.deBruijn64tab.map fun n : Nat => Value.int .u8 (n : Int)).toArray t frozen
      | o => o }

end Go.Proofs.YtjlnicjnjnkdoaaDoor
