/- RealNext's walk. By an AI agent. -/
import Derived.Test.YtipkiiblghnoiabGreatDoorNxB
namespace Go.Proofs.YtipkiiblghnoiabGreatDoor.realNext
open Go.ChangeShapes Go.WideShapes Go.ChangeAt Go.RowKit
open Bt
set_option linter.unusedVariables false

/-- No number behind. -/
theorem next_none {u : Nat} (hu : u < 18446744073709551616) (h : Flt.nan u = true ∨ u = 9218868437227405312) : nextF u = 9221120237041090561 := by
  unfold nextF
  rcases h with h | h
  · rw [if_pos h]
  · subst h; decide +kernel
/-- A number and the next one: their keys are neighbours. -/
theorem next_key {u : Nat} (hu : u < 18446744073709551616) (hn : Flt.nan u = false) (hi : u ≠ 9218868437227405312) : keyF (nextF u) = keyF u + 1 ∧ Flt.nan (nextF u) = false ∧ nextF u < 18446744073709551616 := by
  have h1 := Re.not_nan hn
  by_cases h : u < 9223372036854775808
  · obtain ⟨a, -⟩ := next_pos (u := u) (by omega)
    have hn2 : Flt.nan (u + 1) = false := by
      cases hc : Flt.nan (u + 1)
      · rfl
      · rw [Re.nan_iff] at hc; omega
    rw [a, Re.key_pos hn h, Re.key_pos hn2 (by omega)]
    exact ⟨by omega, hn2, by omega⟩
  · by_cases h0 : u = 9223372036854775808
    · subst h0; decide +kernel
    · obtain ⟨a, -⟩ := next_neg (u := u) (by omega) (by omega)
      have hn2 : Flt.nan (u - 1) = false := by
        cases hc : Flt.nan (u - 1)
        · rfl
        · rw [Re.nan_iff] at hc; omega
      rw [a, Re.key_neg hn (by omega), Re.key_neg hn2 (by omega)]
      exact ⟨by omega, hn2, by omega⟩

set_option maxRecDepth 100000 in
set_option maxHeartbeats 4000000 in
theorem walk_none (a b : Nat) (w : World) (ha : a < 18446744073709551616) (hb : b < 18446744073709551616) (hopt : Opt w) (hT : Tb w.heap.size w) (h : Flt.nan a = true ∨ a = 9218868437227405312) :
    Calls Tryz.prog 3 #[.int .u64 (a : Int), .int .u64 (b : Int)] w fun e w' => e = .returned (.bool true) ∧ Below w.heap.size w w' := by
  have HO := Lib.hid (And.intro hopt hT)
  have f1 : ∀ w : World, (callFunc 5 #[.int .u64 (a : Int)]).run Tryz.prog w = .ok (.value (.float .f64 a)) w := fun w => ext_from a w
  have f2 : ∀ w : World, (callFunc 5 #[.int .u64 (b : Int)]).run Tryz.prog w = .ok (.value (.float .f64 b)) w := fun w => ext_from b w
  have f3 : ∀ w : World, (callFunc 5 #[.int .u64 9221120237041090561]).run Tryz.prog w = .ok (.value (.float .f64 9221120237041090561)) w := fun w => ext_from 9221120237041090561 w
  have HX := Lib.hid (next_any a ha)
  rw [next_none ha h] at HX
  have HN := Lib.hid (isnan_any a)
  have HI := Lib.hid (isinf1_any a ha)
  rcases h with h | h
  · rw [h] at HN
    clear hopt hT ha hb h
    go_enter Tryz.func3, Tryz.ntmps3
    go_wp2_with fail
    refine (begun3 _ HO.out.1 HO.out.2).mono ?_
    rintro e w1 ⟨rfl, hb1⟩
    have H1 := Lib.hid hb1
    clear hb1
    go_wp2_with fail
    refine (HX.out _).mono ?_
    rintro e w2 ⟨rfl, hw⟩
    obtain rfl : w1 = w2 := hw
    go_wp2_with fail
    refine (HN.out _).mono ?_
    rintro e w2 ⟨rfl, hw⟩
    obtain rfl : w1 = w2 := hw.symm
    go_wp2_with fail
    refine (fbits_any 9221120237041090561 9221120237041090561 _).mono ?_
    rintro e w2 ⟨rfl, hw⟩
    obtain rfl : w1 = w2 := hw
    go_wp2_with fail
    go_ret
    exact ⟨ret_b (by decide +kernel), H1.out⟩
  · rw [decide_eq_true h] at HI
    have hn : Flt.nan a = false := by rw [h]; exact nan_inf
    rw [hn] at HN
    clear hopt hT ha hb h hn
    go_enter Tryz.func3, Tryz.ntmps3
    go_wp2_with fail
    refine (begun3 _ HO.out.1 HO.out.2).mono ?_
    rintro e w1 ⟨rfl, hb1⟩
    have H1 := Lib.hid hb1
    clear hb1
    go_wp2_with fail
    refine (HX.out _).mono ?_
    rintro e w2 ⟨rfl, hw⟩
    obtain rfl : w1 = w2 := hw
    go_wp2_with fail
    refine (HN.out _).mono ?_
    rintro e w2 ⟨rfl, hw⟩
    obtain rfl : w1 = w2 := hw.symm
    go_wp2_with fail
    refine (HI.out _).mono ?_
    rintro e w2 ⟨rfl, hw⟩
    obtain rfl : w1 = w2 := hw
    go_wp2_with fail
    refine (fbits_any 9221120237041090561 9221120237041090561 _).mono ?_
    rintro e w2 ⟨rfl, hw⟩
    obtain rfl : w1 = w2 := hw
    go_wp2_with fail
    go_ret
    exact ⟨ret_b (by decide +kernel), H1.out⟩

set_option maxRecDepth 100000 in
set_option maxHeartbeats 8000000 in
theorem walk_some (a b : Nat) (w : World) (ha : a < 18446744073709551616) (hb : b < 18446744073709551616) (hopt : Opt w) (hT : Tb w.heap.size w) (hn : Flt.nan a = false) (hi : a ≠ 9218868437227405312) :
    Calls Tryz.prog 3 #[.int .u64 (a : Int), .int .u64 (b : Int)] w fun e w' => e = .returned (.bool true) ∧ Below w.heap.size w w' := by
  have HO := Lib.hid (And.intro hopt hT)
  have f1 : ∀ w : World, (callFunc 5 #[.int .u64 (a : Int)]).run Tryz.prog w = .ok (.value (.float .f64 a)) w := fun w => ext_from a w
  have f2 : ∀ w : World, (callFunc 5 #[.int .u64 (b : Int)]).run Tryz.prog w = .ok (.value (.float .f64 b)) w := fun w => ext_from b w
  obtain ⟨k1, k2, k3⟩ := next_key ha hn hi
  have HX := Lib.hid (next_any a ha)
  have HN := Lib.hid (isnan_any a)
  have HI := Lib.hid (isinf1_any a ha)
  rw [decide_eq_false hi] at HI
  rw [hn] at HN
  have HAP := Lib.hid (apart_any a (nextF a) ha k3)
  have hW : apW a (nextF a) = 1 := by
    unfold apW
    rw [hn, k2, if_neg (by simp), k1]
    omega
  have hB : apB a (nextF a) = true := by unfold apB; rw [hn, k2]; rfl
  rw [hW, hB] at HAP
  have HP := Lib.hid (compare_any a b ha hb)
  have HQ := Lib.hid (compare_any b (nextF a) hb k3)
  have HR := Lib.hid (compare_any a (nextF a) ha k3)
  rw [Re.cmp_lt (a := a) (b := nextF a) (by omega)] at HR
  have hpq : ¬ (cmpF a b < 0 ∧ cmpF b (nextF a) < 0) := by
    rintro ⟨h1, h2⟩
    rcases Re.cmp_cases a b with ⟨_, c⟩ | ⟨_, c⟩ | ⟨_, c⟩ <;> rcases Re.cmp_cases b (nextF a) with ⟨_, d⟩ | ⟨_, d⟩ | ⟨_, d⟩ <;> omega
  have n0 : Flt.nan 0 = false := by decide +kernel
  have f0 : Flt.fv 0 = 0 := by decide +kernel
  have hself : (FloatKind.f64.format.order (nextF a) (nextF a) == some .eq) = true := by rw [Flt.t_eq k2 k2]; simp
  -- the last test's three arms
  have arms : ((FloatKind.f64.format.order a 0 == some .eq) = true ∧ (FloatKind.f64.format.order (nextF a) 0 == some .eq) = true) ∨ (((FloatKind.f64.format.order a 0 == some .eq) = false ∨ ((FloatKind.f64.format.order a 0 == some .eq) = true ∧ (FloatKind.f64.format.order (nextF a) 0 == some .eq) = false)) ∧ (a < 9218868437227405312 ∨ (9223372036854775808 < a ∧ a ≤ 18442240474082181120))) := by
    have h1 := Re.not_nan hn
    by_cases h : a < 9218868437227405312
    · right
      refine ⟨?_, .inl h⟩
      by_cases h0 : a = 0
      · right
        subst h0
        exact ⟨by decide +kernel, by decide +kernel⟩
      · left
        exact (tests_pos h (by omega)).2.1
    · by_cases h0 : a = 9223372036854775808
      · left
        subst h0
        exact ⟨by decide +kernel, by decide +kernel⟩
      · right
        exact ⟨.inl (tests_neg (by omega) (by omega)).2.1, .inr ⟨by omega, by omega⟩⟩
  have HA := Lib.hid fun h => nextafter_any a h
  clear hopt hT ha hb hn hi hW hB k1 k2 k3 n0 f0
  have HARM := Lib.hid arms
  clear arms
  generalize nextF a = nx at *
  generalize cmpF a b = p at *
  generalize cmpF b nx = q at *
  have h2 : (decide (p < 0) = false) ∨ (decide (p < 0) = true ∧ decide (q < 0) = false) := by
    by_cases h : p < 0
    · right; exact ⟨decide_eq_true h, decide_eq_false fun h3 => hpq ⟨h, h3⟩⟩
    · left; exact decide_eq_false h
  clear hpq
  go_enter Tryz.func3, Tryz.ntmps3
  go_wp2_with fail
  refine (begun3 _ HO.out.1 HO.out.2).mono ?_
  rintro e w1 ⟨rfl, hb1⟩
  have H1 := Lib.hid hb1
  clear hb1
  go_wp2_with fail
  refine (HX.out _).mono ?_
  rintro e w2 ⟨rfl, hw⟩
  obtain rfl : w1 = w2 := hw
  go_wp2_with fail
  refine (HN.out _).mono ?_
  rintro e w2 ⟨rfl, hw⟩
  obtain rfl : w1 = w2 := hw.symm
  go_wp2_with fail
  refine (HI.out _).mono ?_
  rintro e w2 ⟨rfl, hw⟩
  obtain rfl : w1 = w2 := hw
  go_wp2_with fail
  refine (HAP.out _).mono ?_
  rintro e w2 ⟨rfl, hw⟩
  obtain rfl : w1 = w2 := hw
  go_wp2_with fail
  refine (HP.out _).mono ?_
  rintro e w2 ⟨rfl, hw⟩
  obtain rfl : w1 = w2 := hw
  go_wp2_with fail
  refine (HQ.out _).mono ?_
  rintro e w2 ⟨rfl, hw⟩
  obtain rfl : w1 = w2 := hw
  go_wp2_with fail
  refine (HR.out _).mono ?_
  rintro e w2 ⟨rfl, hw⟩
  obtain rfl : w1 = w2 := hw
  rcases h2 with h2 | ⟨h2, h3⟩
  · rcases HARM.out with ⟨t1, t2⟩ | ⟨t1 | ⟨t1, t2⟩, t3⟩
    · go_wp2_with fail
      go_ret
      exact ⟨rfl, H1.out⟩
    · have HAF := Lib.hid (HA.out t3)
      clear t3
      go_wp2_with fail
      refine (Sm.inf_up _).mono ?_
      rintro e w2 ⟨rfl, hw⟩
      obtain rfl : w1 = w2 := hw.symm
      go_wp2_with fail
      refine (HAF.out _).mono ?_
      rintro e w2 ⟨rfl, hw⟩
      obtain rfl : w1 = w2 := hw
      go_wp2_with fail
      go_ret
      exact ⟨rfl, H1.out⟩
    · have HAF := Lib.hid (HA.out t3)
      clear t3
      go_wp2_with fail
      refine (Sm.inf_up _).mono ?_
      rintro e w2 ⟨rfl, hw⟩
      obtain rfl : w1 = w2 := hw.symm
      go_wp2_with fail
      refine (HAF.out _).mono ?_
      rintro e w2 ⟨rfl, hw⟩
      obtain rfl : w1 = w2 := hw
      go_wp2_with fail
      go_ret
      exact ⟨rfl, H1.out⟩
  · rcases HARM.out with ⟨t1, t2⟩ | ⟨t1 | ⟨t1, t2⟩, t3⟩
    · go_wp2_with fail
      go_ret
      exact ⟨rfl, H1.out⟩
    · have HAF := Lib.hid (HA.out t3)
      clear t3
      go_wp2_with fail
      refine (Sm.inf_up _).mono ?_
      rintro e w2 ⟨rfl, hw⟩
      obtain rfl : w1 = w2 := hw.symm
      go_wp2_with fail
      refine (HAF.out _).mono ?_
      rintro e w2 ⟨rfl, hw⟩
      obtain rfl : w1 = w2 := hw
      go_wp2_with fail
      go_ret
      exact ⟨rfl, H1.out⟩
    · have HAF := Lib.hid (HA.out t3)
      clear t3
      go_wp2_with fail
      refine (Sm.inf_up _).mono ?_
      rintro e w2 ⟨rfl, hw⟩
      obtain rfl : w1 = w2 := hw.symm
      go_wp2_with fail
      refine (HAF.out _).mono ?_
      rintro e w2 ⟨rfl, hw⟩
      obtain rfl : w1 = w2 := hw
      go_wp2_with fail
      go_ret
      exact ⟨rfl, H1.out⟩

theorem walk (a b : Nat) (w : World) (ha : a < 18446744073709551616) (hb : b < 18446744073709551616) (hopt : Opt w) (hT : Tb w.heap.size w) :
    Calls Tryz.prog 3 #[.int .u64 (a : Int), .int .u64 (b : Int)] w fun e w' => e = .returned (.bool true) ∧ Below w.heap.size w w' := by
  cases hn : Flt.nan a
  · by_cases hi : a = 9218868437227405312
    · exact walk_none a b w ha hb hopt hT (.inr hi)
    · exact walk_some a b w ha hb hopt hT hn hi
  · exact walk_none a b w ha hb hopt hT (.inl hn)
end Go.Proofs.YtipkiiblghnoiabGreatDoor.realNext
