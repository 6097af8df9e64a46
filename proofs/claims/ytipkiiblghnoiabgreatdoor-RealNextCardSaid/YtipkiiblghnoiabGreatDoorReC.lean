/- Small functions on floats: IsNaN, Canon. By an AI agent. -/
import Derived.Test.YtipkiiblghnoiabGreatDoorReB
namespace Go.Proofs.YtipkiiblghnoiabGreatDoor
open Go.ChangeShapes Go.WideShapes Go.ChangeAt Go.RowKit
open Bt
set_option linter.unusedVariables false

/-- The canonical NaN for a NaN. -/
def canW (u : Nat) : Nat := if Flt.nan u = true then 9221120237041090561 else u

theorem isnan_any (a : Nat) (w : World) : Calls Tryz.prog 7 #[.float .f64 a] w fun e w' => e = .returned (.bool (Flt.nan a)) ∧ w' = w := by
  have hb : (FloatKind.f64.format.order a a != some .eq) = Flt.nan a := by rw [← Flt.fnan_eq]; rfl
  go_enter Tryz.func7, Tryz.ntmps7
  go_wp2
  go_ret
  exact ⟨by rw [← hb]; rfl, rfl⟩

end Go.Proofs.YtipkiiblghnoiabGreatDoor
