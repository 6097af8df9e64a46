/- math.Nextafter towards infinity. By an AI agent. -/
import Derived.Test.YtipkiiblghnoiabGreatDoorNxA
namespace Go.Proofs.YtipkiiblghnoiabGreatDoor
open Go.ChangeShapes Go.WideShapes Go.ChangeAt Go.RowKit
open Bt
set_option linter.unusedVariables false

theorem sign_one (w : World) : Calls Tryz.prog 18 #[.float .f64 1, .float .f64 9218868437227405312] w fun e w' => e = .returned (.float .f64 1) ∧ w' = w := by
  have f1 : ∀ w : World, (callFunc 5 #[.int .u64 1]).run Tryz.prog w = .ok (.value (.float .f64 1)) w := fun w => ext_from 1 w
  have e2 := ext_bits
  have h1 : bits BinOp.andNot IntKind.u64 1 9223372036854775808 = 1 := by decide
  have h2 : bits BinOp.and IntKind.u64 9218868437227405312 9223372036854775808 = 0 := by decide
  have h3 : bits BinOp.or IntKind.u64 1 0 = 1 := by decide
  go_enter Tryz.func18, Tryz.ntmps18
  go_wp2_with fail
  go_ret
  exact ⟨rfl, rfl⟩

/-- Below infinity the next number is by one bit. -/
theorem next_pos {u : Nat} (h : u < 9218868437227405312) : nextF u = u + 1 ∧ Flt.nan u = false := by
  have hn : Flt.nan u = false := by
    cases hc : Flt.nan u
    · rfl
    · rw [Re.nan_iff] at hc; omega
  refine ⟨?_, hn⟩
  unfold nextF
  rw [hn, Re.key_pos hn (by omega)]
  have := unk_pos (k := u + 9223372036854775808 + 1) (by omega) (by omega)
  rw [this.2, this.1]
  simp only [Bool.false_eq_true, if_false, if_true]
  omega
theorem next_neg {u : Nat} (h : 9223372036854775808 < u) (h2 : u ≤ 18442240474082181120) : nextF u = u - 1 ∧ Flt.nan u = false := by
  have hn : Flt.nan u = false := by
    cases hc : Flt.nan u
    · rfl
    · rw [Re.nan_iff] at hc; omega
  refine ⟨?_, hn⟩
  unfold nextF
  rw [hn, Re.key_neg hn (by omega)]
  have := unk_neg (k := 18446744073709551615 - u + 1) (by omega) (by omega)
  rw [this.2, this.1]
  simp only [Bool.false_eq_true, if_false, if_true]
  omega
theorem nan_inf : Flt.nan 9218868437227405312 = false := by decide +kernel
theorem fv_inf : Flt.fv 9218868437227405312 = (Flt.mag 9218868437227405312 : Int) := Re.fv_pos (by decide)
/-- What the floats' tests say of a number beside infinity and nought. -/
theorem tests_pos {u : Nat} (h : u < 9218868437227405312) (h0 : 0 < u) :
    (FloatKind.f64.format.order u 9218868437227405312 == some .eq) = false ∧ (FloatKind.f64.format.order u 0 == some .eq) = false ∧ (FloatKind.f64.format.order 9218868437227405312 u == some .gt) = true ∧ (FloatKind.f64.format.order u 0 == some .gt) = true := by
  have hn := (next_pos h).2
  have n0 : Flt.nan 0 = false := by decide +kernel
  have f0 : Flt.fv 0 = 0 := by decide +kernel
  have h1 : Flt.mag 0 < Flt.mag u := Flt.mag_lt h0
  rw [Flt.mag_zero] at h1
  have h2 : Flt.mag u < Flt.mag 9218868437227405312 := Flt.mag_lt h
  rw [Flt.t_eq hn nan_inf, Flt.t_eq hn n0, Flt.t_gt nan_inf hn, Flt.t_gt hn n0, fv_inf, f0, Re.fv_pos (by omega)]
  refine ⟨?_, ?_, ?_, ?_⟩
  · rw [decide_eq_false_iff_not]; omega
  · rw [decide_eq_false_iff_not]; omega
  · rw [decide_eq_true_eq]; omega
  · rw [decide_eq_true_eq]; omega
theorem tests_neg {u : Nat} (h : 9223372036854775808 < u) (hu : u ≤ 18442240474082181120) :
    (FloatKind.f64.format.order u 9218868437227405312 == some .eq) = false ∧ (FloatKind.f64.format.order u 0 == some .eq) = false ∧ (FloatKind.f64.format.order 9218868437227405312 u == some .gt) = true ∧ (FloatKind.f64.format.order u 0 == some .gt) = false := by
  have hn := (next_neg h hu).2
  have n0 : Flt.nan 0 = false := by decide +kernel
  have f0 : Flt.fv 0 = 0 := by decide +kernel
  obtain ⟨m, hm⟩ := Re.split_top (a := u) (by omega)
  have h1 : Flt.mag 0 < Flt.mag m := Flt.mag_lt (by omega)
  rw [Flt.mag_zero] at h1
  have h2 : Flt.mag 0 < Flt.mag 9218868437227405312 := Flt.mag_lt (by decide)
  rw [Flt.mag_zero] at h2
  rw [Flt.t_eq hn nan_inf, Flt.t_eq hn n0, Flt.t_gt nan_inf hn, Flt.t_gt hn n0, fv_inf, f0, Re.fv_neg hm (by omega)]
  refine ⟨?_, ?_, ?_, ?_⟩
  · rw [decide_eq_false_iff_not]; omega
  · rw [decide_eq_false_iff_not]; omega
  · rw [decide_eq_true_eq]; omega
  · rw [decide_eq_false_iff_not]; omega

theorem nextafter_any (u : Nat) (h : u < 9218868437227405312 ∨ (9223372036854775808 < u ∧ u ≤ 18442240474082181120)) (w : World) :
    Calls Tryz.prog 12 #[.float .f64 u, .float .f64 9218868437227405312] w fun e w' => e = .returned (.float .f64 (nextF u)) ∧ w = w' := by
  have HI := Lib.hid (isnan_any 9218868437227405312)
  rw [nan_inf] at HI
  have HN := Lib.hid (isnan_any u)
  have e2 := ext_bits
  rcases h with h | ⟨h, h2⟩
  · obtain ⟨hx, hn⟩ := next_pos h
    rw [hn] at HN
    by_cases h0 : u = 0
    · rw [hx, h0]
      rw [h0] at HN
      have f1 : ∀ w : World, (callFunc 5 #[.int .u64 1]).run Tryz.prog w = .ok (.value (.float .f64 1)) w := fun w => ext_from 1 w
      have t1 : (FloatKind.f64.format.order 0 9218868437227405312 == some .eq) = false := by decide +kernel
      have t2 : (FloatKind.f64.format.order 0 0 == some .eq) = true := by decide +kernel
      clear hx hn h h0 e2
      go_enter Tryz.func12, Tryz.ntmps12
      go_wp2_with fail
      refine (HN.out _).mono ?_
      rintro e w1 ⟨rfl, hw⟩
      obtain rfl : w = w1 := hw.symm
      go_wp2_with fail
      refine (HI.out _).mono ?_
      rintro e w1 ⟨rfl, hw⟩
      obtain rfl : w = w1 := hw.symm
      go_wp2_with fail
      refine (sign_one _).mono ?_
      rintro e w1 ⟨rfl, hw⟩
      obtain rfl : w = w1 := hw.symm
      go_wp2_with fail
      go_ret
      exact ⟨rfl, rfl⟩
    · obtain ⟨t1, t2, t3, t4⟩ := tests_pos h (by omega)
      have hs : IntKind.u64.wrap ((u : Int) + 1) = ((u + 1 : Nat) : Int) := by rw [IntKind.wrap_u64]; omega
      rw [hx]
      have f1 : ∀ w : World, (callFunc 5 #[.int .u64 ((u + 1 : Nat) : Int)]).run Tryz.prog w = .ok (.value (.float .f64 (u + 1))) w := fun w => ext_from _ w
      clear hx hn h h0
      generalize hv : u + 1 = v at *
      clear hv
      go_enter Tryz.func12, Tryz.ntmps12
      go_wp2_with fail
      refine (HN.out _).mono ?_
      rintro e w1 ⟨rfl, hw⟩
      obtain rfl : w = w1 := hw.symm
      go_wp2_with fail
      refine (HI.out _).mono ?_
      rintro e w1 ⟨rfl, hw⟩
      obtain rfl : w = w1 := hw.symm
      go_wp2_with fail
      go_ret
      exact ⟨rfl, rfl⟩
  · obtain ⟨hx, hn⟩ := next_neg h h2
    rw [hn] at HN
    obtain ⟨t1, t2, t3, t4⟩ := tests_neg h h2
    have hs : IntKind.u64.wrap ((u : Int) - 1) = ((u - 1 : Nat) : Int) := by rw [IntKind.wrap_u64]; omega
    rw [hx]
    have f1 : ∀ w : World, (callFunc 5 #[.int .u64 ((u - 1 : Nat) : Int)]).run Tryz.prog w = .ok (.value (.float .f64 (u - 1))) w := fun w => ext_from _ w
    clear hx hn h h2
    generalize hv : u - 1 = v at *
    clear hv
    go_enter Tryz.func12, Tryz.ntmps12
    go_wp2_with fail
    refine (HN.out _).mono ?_
    rintro e w1 ⟨rfl, hw⟩
    obtain rfl : w = w1 := hw.symm
    go_wp2_with fail
    refine (HI.out _).mono ?_
    rintro e w1 ⟨rfl, hw⟩
    obtain rfl : w = w1 := hw.symm
    go_wp2_with fail
    go_ret
    exact ⟨rfl, rfl⟩
end Go.Proofs.YtipkiiblghnoiabGreatDoor
