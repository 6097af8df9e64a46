/- Abs, IsInf, Copysign, Nextafter. By an AI agent. -/
import Derived.Test.YtipkiiblghnoiaaGreatDoorReH
import Derived.Test.YtipkiiblghnoiaaGreatDoorSumG
namespace Go.Proofs.YtipkiiblghnoiaaGreatDoor
open Go.ChangeShapes Go.WideShapes Go.ChangeAt Go.RowKit
open Bt
set_option linter.unusedVariables false

theorem gt_max {u : Nat} (hu : u < 18446744073709551616) : (FloatKind.f64.format.order u 9218868437227405311 == some .gt) = decide (u = 9218868437227405312) := by
  have nm : Flt.nan 9218868437227405311 = false := by decide +kernel
  cases hn : Flt.nan u
  · rw [Flt.t_gt hn nm, decide_eq_decide, Re.fv_pos (show 9218868437227405311 < 9223372036854775808 by decide)]
    have h1 := Re.not_nan hn
    by_cases h : u < 9223372036854775808
    · rw [Re.fv_pos h]
      constructor
      · intro h2
        have : 9218868437227405311 < u := Nat.lt_of_not_le fun h3 => by have := Flt.mag_le h3; omega
        omega
      · intro h2
        have := Flt.mag_lt (show 9218868437227405311 < u by omega)
        omega
    · obtain ⟨m, hm⟩ := Re.split_top h
      rw [Re.fv_neg hm hu]
      have h3 : Flt.mag 0 < Flt.mag 9218868437227405311 := Flt.mag_lt (by decide)
      rw [Flt.mag_zero] at h3
      constructor
      · intro h2; omega
      · intro h2; omega
  · rw [Flt.order_nan (.inl hn)]
    have : ¬ u = 9218868437227405312 := fun h => by rw [h] at hn; exact absurd hn (by decide +kernel)
    rw [decide_eq_false this]
    rfl

theorem mabs_any (u : Nat) (w : World) : Calls Tryz.prog 57 #[.float .f64 u] w fun e w' => e = .returned (.float .f64 (u % 9223372036854775808)) ∧ w = w' := by
  have e1 := ext_bits
  have e2 := Sm.andNot_top u
  have f1 : ∀ w : World, (callFunc 20 #[.int .u64 ((u % 9223372036854775808 : Nat) : Int)]).run Tryz.prog w = .ok (.value (.float .f64 (u % 9223372036854775808))) w := fun w => ext_from _ w
  generalize u % 9223372036854775808 = s at *
  go_enter Tryz.func57, Tryz.ntmps57
  go_wp2_with fail
  go_ret
  exact ⟨rfl, rfl⟩
theorem isinf0_any (u : Nat) (hu : u < 18446744073709551616) (w : World) : Calls Tryz.prog 26 #[.float .f64 u, .int .i64 0] w fun e w' => e = .returned (.bool (decide (u % 9223372036854775808 = 9218868437227405312))) ∧ w = w' := by
  have HA := Lib.hid (mabs_any u)
  have hg := gt_max (u := u % 9223372036854775808) (by omega)
  generalize decide (u % 9223372036854775808 = 9218868437227405312) = r at *
  generalize u % 9223372036854775808 = s at *
  clear hu
  go_enter Tryz.func26, Tryz.ntmps26
  go_wp2_with fail
  refine (HA.out _).mono ?_
  rintro e w1 ⟨rfl, rfl⟩
  go_wp2_with fail
  go_ret
  exact ⟨rfl, rfl⟩
theorem isinf1_any (u : Nat) (hu : u < 18446744073709551616) (w : World) : Calls Tryz.prog 26 #[.float .f64 u, .int .i64 1] w fun e w' => e = .returned (.bool (decide (u = 9218868437227405312))) ∧ w = w' := by
  have hg := gt_max hu
  generalize decide (u = 9218868437227405312) = r at *
  clear hu
  go_enter Tryz.func26, Tryz.ntmps26
  go_wp2_with fail
  go_ret
  exact ⟨rfl, rfl⟩
end Go.Proofs.YtipkiiblghnoiaaGreatDoor
