/- Small functions on floats: IsNaN, Canon. By an AI agent. -/
import Derived.Test.YtipkiiblghnoiaaGreatDoorReB
namespace Go.Proofs.YtipkiiblghnoiaaGreatDoor
open Go.ChangeShapes Go.WideShapes Go.ChangeAt Go.RowKit
open Bt
set_option linter.unusedVariables false

/-- The canonical NaN for a NaN. -/
def canW (u : Nat) : Nat := if Flt.nan u = true then 9221120237041090561 else u

theorem isnan_any (a : Nat) (w : World) : Calls Tryz.prog 18 #[.float .f64 a] w fun e w' => e = .returned (.bool (Flt.nan a)) ∧ w' = w := by
  have hb : (FloatKind.f64.format.order a a != some .eq) = Flt.nan a := by rw [← Flt.fnan_eq]; rfl
  go_enter Tryz.func18, Tryz.ntmps18
  go_wp2
  go_ret
  exact ⟨by rw [← hb]; rfl, rfl⟩

theorem canon_any (a : Nat) (w : World) : Calls Tryz.prog 22 #[.float .f64 a] w fun e w' => e = .returned (.float .f64 (canW a)) ∧ w' = w := by
  unfold canW
  cases hn : Flt.nan a
  · have hb : (FloatKind.f64.format.order a a != some .eq) = false := by rw [← hn, ← Flt.fnan_eq]; rfl
    go_enter Tryz.func22, Tryz.ntmps22
    go_wp2_with fail
    go_ret
    exact ⟨rfl, rfl⟩
  · have hb : (FloatKind.f64.format.order a a != some .eq) = true := by rw [← hn, ← Flt.fnan_eq]; rfl
    go_enter Tryz.func22, Tryz.ntmps22
    go_wp2_with fail
    refine (Sm.none_any _).mono ?_
    rintro e w' ⟨rfl, hw⟩
    obtain rfl : w = w' := hw.symm
    go_wp2_with fail
    go_ret
    exact ⟨rfl, rfl⟩
end Go.Proofs.YtipkiiblghnoiaaGreatDoor
