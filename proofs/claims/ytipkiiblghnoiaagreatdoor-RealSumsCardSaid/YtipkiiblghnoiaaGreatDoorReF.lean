/- Small functions on floats: Unkey, Next, Apart, Same and the reference's. By an AI agent. -/
import Derived.Test.YtipkiiblghnoiaaGreatDoorReD
namespace Go.Proofs.YtipkiiblghnoiaaGreatDoor
open Go.ChangeShapes Go.WideShapes Go.ChangeAt Go.RowKit
open Bt
set_option linter.unusedVariables false

/-- The number of a key, and whether there is one. -/
def unkB (k : Nat) : Bool := decide (k = 18446744073709551615 ∨ (4503599627370495 ≤ k ∧ k ≤ 18442240474082181120))
def unkW (k : Nat) : Nat := if k = 18446744073709551615 then 9221120237041090561 else if 4503599627370495 ≤ k ∧ k ≤ 18442240474082181120 then (if 9223372036854775808 ≤ k then k - 9223372036854775808 else 18446744073709551615 - k) else 0
theorem ret_fb {a b : Nat} {c d : Bool} (h : a = b) (h2 : c = d) : Ending.returned (.tuple #[.float .f64 a, .bool c]) = .returned (.tuple #[.float .f64 b, .bool d]) := by rw [h, h2]
theorem ret_ub {a b : Nat} {c d : Bool} (h : a = b) (h2 : c = d) : Ending.returned (.tuple #[.int .u64 (a : Int), .bool c]) = .returned (.tuple #[.int .u64 (b : Int), .bool d]) := by rw [h, h2]
theorem ret_b {c d : Bool} (h2 : c = d) : Ending.returned (.bool c) = .returned (.bool d) := by rw [h2]
theorem ret_f {a b : Nat} (h2 : a = b) : Ending.returned (.float .f64 a) = .returned (.float .f64 b) := by rw [h2]
theorem ret_u {a b : Nat} (h2 : a = b) : Ending.returned (.int .u64 (a : Int)) = .returned (.int .u64 (b : Int)) := by rw [h2]

theorem unk_last : unkW 18446744073709551615 = 9221120237041090561 ∧ unkB 18446744073709551615 = true := by decide +kernel
theorem unk_low {k : Nat} (h : k < 4503599627370495) : unkW k = 0 ∧ unkB k = false := by
  unfold unkW unkB
  rw [if_neg (by omega), if_neg (by omega), decide_eq_false_iff_not]
  exact ⟨rfl, by omega⟩
theorem unk_high {k : Nat} (h : 18442240474082181120 < k) (h2 : k < 18446744073709551615) : unkW k = 0 ∧ unkB k = false := by
  unfold unkW unkB
  rw [if_neg (by omega), if_neg (by omega), decide_eq_false_iff_not]
  exact ⟨rfl, by omega⟩
theorem unk_neg {k : Nat} (h : 4503599627370495 ≤ k) (h2 : k < 9223372036854775808) : unkW k = 18446744073709551615 - k ∧ unkB k = true := by
  unfold unkW unkB
  rw [if_neg (by omega), if_pos (by omega), if_neg (by omega), decide_eq_true_eq]
  exact ⟨rfl, by omega⟩
theorem unk_pos {k : Nat} (h : 9223372036854775808 ≤ k) (h2 : k ≤ 18442240474082181120) : unkW k = k - 9223372036854775808 ∧ unkB k = true := by
  unfold unkW unkB
  rw [if_neg (by omega), if_pos (by omega), if_pos (by omega), decide_eq_true_eq]
  exact ⟨rfl, by omega⟩
/-- A key above the middle, opened without a subtraction. -/
theorem unk_up {k : Nat} (h : 9223372036854775808 ≤ k) (hk : k < 18446744073709551616) : ∃ m : Nat, k % 9223372036854775808 = m ∧ m % 9223372036854775808 = m ∧ m + 9223372036854775808 = k ∧ m < 9223372036854775808 ∧
    (k ≤ 18442240474082181120 → m ≤ 9218868437227405312 ∧ unkW k = m ∧ unkB k = true) ∧ (18442240474082181120 < k → 9218868437227405312 < m) := by
  refine ⟨k % 9223372036854775808, rfl, by omega, by omega, by omega, fun h3 => ⟨by omega, ?_, (unk_pos h h3).2⟩, fun h3 => by omega⟩
  rw [(unk_pos h h3).1]; omega
theorem unk_lt {k : Nat} (h : k < 18446744073709551616) : unkW k < 18446744073709551616 := by
  unfold unkW
  (repeat' split) <;> omega

/-- A whole number behind a mask of the sign: what Unkey looks at. -/
theorem xor_top (a : Nat) (h : a < 2 ^ 64) : IntKind.u64.wrap ((18446744073709551615 : Int) - (a : Int)) = ((18446744073709551615 - a : Nat) : Int) := by
  rw [IntKind.wrap_u64]
  omega

set_option maxRecDepth 100000 in
set_option maxHeartbeats 2000000 in
theorem unkey_any (k : Nat) (hk : k < 18446744073709551616) (w : World) :
    Calls Tryz.prog 25 #[.int .u64 (k : Int)] w fun e w' => e = .returned (.tuple #[.float .f64 (unkW k), .bool (unkB k)]) ∧ w = w' := by
  by_cases h1 : k = 18446744073709551615
  · have HU := Lib.hid (show unkW k = 9221120237041090561 ∧ unkB k = true by rw [h1]; exact unk_last)
    have d1 : ((k : Int) == 18446744073709551615) = true := by rw [beq_iff_eq]; omega
    have d1' : (k == 18446744073709551615) = true := by rw [beq_iff_eq]; omega
    clear h1 hk
    go_enter Tryz.func25, Tryz.ntmps25
    go_wp2_with fail
    refine (Sm.none_any _).mono ?_
    rintro e w' ⟨rfl, hw⟩
    obtain rfl : w = w' := hw.symm
    go_wp2_with fail
    go_ret2
    exact ⟨ret_fb HU.out.1.symm HU.out.2.symm, rfl⟩
  have d1 : ((k : Int) == 18446744073709551615) = false := by rw [beq_eq_false_iff_ne]; omega
  have d1' : (k == 18446744073709551615) = false := by rw [beq_eq_false_iff_ne]; omega
  by_cases h2 : 9223372036854775808 ≤ k
  · have d2 : decide ((k : Int) < 9223372036854775808) = false := by rw [decide_eq_false_iff_not]; omega
    have d2' : decide (k < 9223372036854775808) = false := by rw [decide_eq_false_iff_not]; omega
    obtain ⟨m, hm, hm2, -, -, hlo, hhi⟩ := unk_up h2 hk
    have e2 := Sm.andNot_top k
    rw [hm] at e2
    have e3 := Sm.andNot_top m
    rw [hm2] at e3
    by_cases h3 : k ≤ 18442240474082181120
    · have HU := Lib.hid (hlo h3).2
      have d3 : decide ((m : Int) > 9218868437227405312) = false := by have := (hlo h3).1; rw [decide_eq_false_iff_not]; omega
      have d3' : decide (9218868437227405312 < m) = false := by have := (hlo h3).1; rw [decide_eq_false_iff_not]; omega
      have f1 : ∀ w : World, (callFunc 20 #[.int .u64 (m : Int)]).run Tryz.prog w = .ok (.value (.float .f64 m)) w := fun w => ext_from m w
      clear h1 h2 h3 hk hm hlo hhi hm2
      go_enter Tryz.func25, Tryz.ntmps25
      go_wp2_with fail
      go_ret2
      exact ⟨ret_fb HU.out.1.symm HU.out.2.symm, rfl⟩
    · have h3' : 18442240474082181120 < k := Nat.lt_of_not_le h3
      have h1' : k < 18446744073709551615 := by omega
      have HU := Lib.hid (unk_high h3' h1')
      have d3 : decide ((m : Int) > 9218868437227405312) = true := by have := hhi h3'; rw [decide_eq_true_eq]; omega
      have d3' : decide (9218868437227405312 < m) = true := by have := hhi h3'; rw [decide_eq_true_eq]; omega
      clear h1 h2 h3 hk hm h3' h1' hlo hhi hm2
      go_enter Tryz.func25, Tryz.ntmps25
      go_wp2_with fail
      go_ret2
      exact ⟨ret_fb HU.out.1.symm HU.out.2.symm, rfl⟩
  · have d2 : decide ((k : Int) < 9223372036854775808) = true := by rw [decide_eq_true_eq]; omega
    have d2' : decide (k < 9223372036854775808) = true := by rw [decide_eq_true_eq]; omega
    have e1 : bits BinOp.xor IntKind.u64 (if IntKind.u64.signed = true then -1 else IntKind.u64.max) (k : Int) = ((18446744073709551615 - k : Nat) : Int) := xor_max k hk
    have e2 := Sm.andNot_top (18446744073709551615 - k)
    rw [show (18446744073709551615 - k) % 9223372036854775808 = 9223372036854775807 - k by omega] at e2
    have e0 := Sm.andNot_top k
    have HE1 := Lib.hid e1
    clear e1
    by_cases h3 : 4503599627370495 ≤ k
    · have HU := Lib.hid (unk_neg h3 (Nat.lt_of_not_le h2))
      have d3 : decide (((9223372036854775807 - k : Nat) : Int) > 9218868437227405312) = false := by rw [decide_eq_false_iff_not]; omega
      have d3' : decide (9218868437227405312 < 9223372036854775807 - k) = false := by rw [decide_eq_false_iff_not]; omega
      generalize 9223372036854775807 - k = m at *
      generalize 18446744073709551615 - k = j at *
      generalize k % 9223372036854775808 = i at *
      have f1 : ∀ w : World, (callFunc 20 #[.int .u64 (j : Int)]).run Tryz.prog w = .ok (.value (.float .f64 j)) w := fun w => ext_from j w
      clear h1 h2 h3 hk
      go_enter Tryz.func25, Tryz.ntmps25
      go_upto_region 6 with fail
      rw [HE1.out]
      go_wp2_with fail
      go_ret2
      exact ⟨ret_fb HU.out.1.symm HU.out.2.symm, rfl⟩
    · have HU := Lib.hid (unk_low (Nat.lt_of_not_le h3))
      have d3 : decide (((9223372036854775807 - k : Nat) : Int) > 9218868437227405312) = true := by rw [decide_eq_true_eq]; omega
      have d3' : decide (9218868437227405312 < 9223372036854775807 - k) = true := by rw [decide_eq_true_eq]; omega
      generalize 9223372036854775807 - k = m at *
      generalize 18446744073709551615 - k = j at *
      generalize k % 9223372036854775808 = i at *
      clear h1 h2 h3 hk
      go_enter Tryz.func25, Tryz.ntmps25
      go_upto_region 6 with fail
      rw [HE1.out]
      go_wp2_with fail
      go_ret2
      exact ⟨ret_fb HU.out.1.symm HU.out.2.symm, rfl⟩

/-- The number just behind. -/
def nextF (u : Nat) : Nat := if Flt.nan u = true then 9221120237041090561 else if unkB (keyF u + 1) = true then unkW (keyF u + 1) else 9221120237041090561
theorem key_room {u : Nat} (hu : u < 18446744073709551616) (hn : Flt.nan u = false) : keyF u ≤ 18442240474082181120 ∧ 4503599627370495 ≤ keyF u := by
  have h1 : ¬ 9218868437227405312 < u % 9223372036854775808 := fun x => by rw [(Re.nan_iff u).2 x] at hn; cases hn
  unfold keyF
  rw [hn]
  simp only [Bool.false_eq_true, if_false]
  split <;> omega
theorem next_any (u : Nat) (hu : u < 18446744073709551616) (w : World) :
    Calls Tryz.prog 31 #[.float .f64 u] w fun e w' => e = .returned (.float .f64 (nextF u)) ∧ w = w' := by
  unfold nextF
  cases hn : Flt.nan u
  · have hb : (FloatKind.f64.format.order u u != some .eq) = false := by rw [← hn, ← Flt.fnan_eq]; rfl
    have hr := key_room hu hn
    have HK := Lib.hid (key_any u hu)
    have HU := Lib.hid (unkey_any (keyF u + 1) (by omega))
    have hadd : IntKind.u64.wrap ((keyF u : Int) + 1) = ((keyF u + 1 : Nat) : Int) := by rw [IntKind.wrap_u64]; omega
    clear hn hu hr
    simp only [Bool.false_eq_true, if_false]
    generalize hk1 : keyF u + 1 = k1 at *
    clear hk1
    generalize keyF u = k at *
    generalize unkW k1 = uw at *
    cases hB : unkB k1
    · rw [hB] at HU
      clear hB
      simp only [Bool.false_eq_true, if_false]
      go_enter Tryz.func31, Tryz.ntmps31
      go_wp2_with fail
      refine (HK.out _).mono ?_
      rintro e w1 ⟨rfl, rfl⟩
      go_wp2_with fail
      refine (HU.out _).mono ?_
      rintro e w1 ⟨rfl, rfl⟩
      go_wp2_with fail
      refine (Sm.none_any _).mono ?_
      rintro e w' ⟨rfl, hw⟩
      obtain rfl : w = w' := hw.symm
      go_wp2_with fail
      go_ret
      exact ⟨rfl, rfl⟩
    · rw [hB] at HU
      clear hB
      simp only [if_true]
      go_enter Tryz.func31, Tryz.ntmps31
      go_wp2_with fail
      refine (HK.out _).mono ?_
      rintro e w1 ⟨rfl, rfl⟩
      go_wp2_with fail
      refine (HU.out _).mono ?_
      rintro e w1 ⟨rfl, rfl⟩
      go_wp2_with fail
      go_ret
      exact ⟨rfl, rfl⟩
  · have hb : (FloatKind.f64.format.order u u != some .eq) = true := by rw [← hn, ← Flt.fnan_eq]; rfl
    simp only [if_true]
    go_enter Tryz.func31, Tryz.ntmps31
    go_wp2_with fail
    refine (Sm.none_any _).mono ?_
    rintro e w' ⟨rfl, hw⟩
    obtain rfl : w = w' := hw.symm
    go_wp2_with fail
    go_ret
    exact ⟨rfl, rfl⟩

theorem same_any (a b : Nat) (ha : a < 2 ^ 64) (hb : b < 2 ^ 64) (w : World) :
    Calls Tryz.prog 24 #[.float .f64 a, .float .f64 b] w fun e w' => e = .returned (.bool (decide (keyF a = keyF b))) ∧ w = w' := by
  have HA := Lib.hid (key_any a ha)
  have HB := Lib.hid (key_any b hb)
  clear ha hb
  generalize keyF a = x at *
  generalize keyF b = y at *
  go_enter Tryz.func24, Tryz.ntmps24
  go_wp2_with fail
  refine (HA.out _).mono ?_
  rintro e w1 ⟨rfl, rfl⟩
  go_wp2_with fail
  refine (HB.out _).mono ?_
  rintro e w1 ⟨rfl, rfl⟩
  go_wp2_with fail
  go_ret
  refine ⟨ret_b ?_, rfl⟩
  by_cases h : x = y <;> simp [h]
  try omega

def apW (a b : Nat) : Nat := if Flt.nan a = true ∨ Flt.nan b = true then 0 else max (keyF a) (keyF b) - min (keyF a) (keyF b)
def apB (a b : Nat) : Bool := !(Flt.nan a || Flt.nan b)
set_option maxHeartbeats 2000000 in
theorem apart_any (a b : Nat) (ha : a < 2 ^ 64) (hb : b < 2 ^ 64) (w : World) :
    Calls Tryz.prog 33 #[.float .f64 a, .float .f64 b] w fun e w' => e = .returned (.tuple #[.int .u64 (apW a b : Nat), .bool (apB a b)]) ∧ w = w' := by
  cases hn : Flt.nan a
  · have f1 : (FloatKind.f64.format.order a a != some .eq) = false := by rw [← hn, ← Flt.fnan_eq]; rfl
    cases hm : Flt.nan b
    · have f2 : (FloatKind.f64.format.order b b != some .eq) = false := by rw [← hm, ← Flt.fnan_eq]; rfl
      have hW : apW a b = max (keyF a) (keyF b) - min (keyF a) (keyF b) := by unfold apW; rw [hn, hm]; simp
      have hB : apB a b = true := by unfold apB; rw [hn, hm]; rfl
      rw [hW, hB]
      have HA := Lib.hid (key_any a ha)
      have HB := Lib.hid (key_any b hb)
      have hka := key_lt ha
      have hkb := key_lt hb
      clear ha hb hW hB hn hm
      generalize keyF a = x at *
      generalize keyF b = y at *
      by_cases hxy : x ≤ y
      · have m1 : max x y = y := Nat.max_eq_right hxy
        have m2 : min x y = x := Nat.min_eq_left hxy
        have m3 : max (x : Int) (y : Int) = (y : Int) := by omega
        have m4 : min (x : Int) (y : Int) = (x : Int) := by omega
        have m5 : IntKind.u64.wrap ((y : Int) - (x : Int)) = ((y - x : Nat) : Int) := by rw [IntKind.wrap_u64]; omega
        rw [m1, m2]
        clear hka hkb
        go_enter Tryz.func33, Tryz.ntmps33
        go_wp2_with fail
        refine (HA.out _).mono ?_
        rintro e w1 ⟨rfl, rfl⟩
        go_wp2_with fail
        refine (HB.out _).mono ?_
        rintro e w1 ⟨rfl, rfl⟩
        go_wp2_with fail
        go_ret2
        exact ⟨rfl, rfl⟩
      · have m1 : max x y = x := Nat.max_eq_left (Nat.le_of_not_le hxy)
        have m2 : min x y = y := Nat.min_eq_right (Nat.le_of_not_le hxy)
        have m3 : max (x : Int) (y : Int) = (x : Int) := by omega
        have m4 : min (x : Int) (y : Int) = (y : Int) := by omega
        have m5 : IntKind.u64.wrap ((x : Int) - (y : Int)) = ((x - y : Nat) : Int) := by rw [IntKind.wrap_u64]; omega
        rw [m1, m2]
        clear hka hkb
        go_enter Tryz.func33, Tryz.ntmps33
        go_wp2_with fail
        refine (HA.out _).mono ?_
        rintro e w1 ⟨rfl, rfl⟩
        go_wp2_with fail
        refine (HB.out _).mono ?_
        rintro e w1 ⟨rfl, rfl⟩
        go_wp2_with fail
        go_ret2
        exact ⟨rfl, rfl⟩
    · have f2 : (FloatKind.f64.format.order b b != some .eq) = true := by rw [← hm, ← Flt.fnan_eq]; rfl
      have hW : apW a b = 0 := by unfold apW; rw [hn, hm]; simp
      have hB : apB a b = false := by unfold apB; rw [hn, hm]; rfl
      rw [hW, hB]
      go_enter Tryz.func33, Tryz.ntmps33
      go_wp2_with fail
      go_ret2
      exact ⟨rfl, rfl⟩
  · have f1 : (FloatKind.f64.format.order a a != some .eq) = true := by rw [← hn, ← Flt.fnan_eq]; rfl
    have hW : apW a b = 0 := by unfold apW; rw [hn]; simp
    have hB : apB a b = false := by unfold apB; rw [hn]; rfl
    rw [hW, hB]
    go_enter Tryz.func33, Tryz.ntmps33
    go_wp2_with fail
    go_ret2
    exact ⟨rfl, rfl⟩
end Go.Proofs.YtipkiiblghnoiaaGreatDoor
