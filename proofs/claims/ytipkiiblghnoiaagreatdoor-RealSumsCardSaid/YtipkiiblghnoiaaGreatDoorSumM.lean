/- Small functions on floats, in this seat: bits, NaN, Key, Compare. By an AI agent. -/
import Derived.Test.YtipkiiblghnoiaaGreatDoorKit
import Derived.Test.YtipkiiblghnoiaaGreatDoorFlt
namespace Go.Proofs.YtipkiiblghnoiaaGreatDoor
open Go.ChangeShapes Go.WideShapes Go.ChangeAt Go.RowKit
set_option linter.unusedVariables false

theorem fbits_any (a b : Nat) (w : World) :
    Calls Tryz.prog 16 #[.float .f64 a, .float .f64 b] w fun e w' => e = .returned (.bool (decide (a = b))) ∧ w = w' := by
  have e1 := ext_bits
  go_enter Tryz.func16, Tryz.ntmps16
  go_wp2
  go_ret
  refine ⟨?_, rfl⟩
  congr 2
  by_cases h : a = b <;> simp [h]
  omega

theorem and_low (a : Nat) : bits BinOp.and IntKind.u64 (a : Int) 9223372036854775807 = (Flt.rung a : Int) := by
  have h1 : (BitVec.ofInt 64 (a : Int)).toNat = a % 2 ^ 64 := by rw [BitVec.ofInt_natCast, BitVec.toNat_ofNat]
  have h2 : (BitVec.ofInt 64 9223372036854775807).toNat = 2 ^ 63 - 1 := by decide
  show IntKind.u64.wrap ((BitVec.ofInt 64 (a : Int) &&& BitVec.ofInt 64 9223372036854775807).toNat : Int) = _
  rw [BitVec.toNat_and, h1, h2, Nat.and_two_pow_sub_one_eq_mod, IntKind.wrap_u64]
  unfold Flt.rung
  omega

theorem nan_dec (a : Nat) : decide (9218868437227405312 < bits BinOp.and IntKind.u64 (a : Int) 9223372036854775807) = Flt.nan a := by
  rw [and_low]
  unfold Flt.nan
  by_cases h : 2047 * 2 ^ 52 < Flt.rung a
  · have : (9218868437227405312 : Int) < (Flt.rung a : Int) := by omega
    simp [this, h]
  · have : ¬ (9218868437227405312 : Int) < (Flt.rung a : Int) := by omega
    simp [this, h]

theorem nan3_any (a : Nat) (w : World) :
    Calls Tryz.prog 51 #[.float .f64 a] w fun e w' => e = .returned (.bool (Flt.nan a)) ∧ w = w' := by
  have e1 := ext_bits
  go_enter Tryz.func51, Tryz.ntmps51
  go_wp2
  go_ret
  exact ⟨by rw [← nan_dec]; rfl, rfl⟩
/-! ### the order's key -/
/-- The key of a number by its bits. -/
def keyF (a : Nat) : Nat := if Flt.nan a then 18446744073709551615 else if 9223372036854775808 ≤ a then 18446744073709551615 - a else a + 9223372036854775808
/-- The order: below, above, alike. -/
def cmpF (a b : Nat) : Int := if keyF a < keyF b then -1 else if keyF b < keyF a then 1 else 0

theorem key_lt {a : Nat} (h : a < 2 ^ 64) : keyF a < 2 ^ 64 := by
  unfold keyF
  split
  · omega
  · split <;> omega

theorem or_top (a : Nat) (h : a < 9223372036854775808) : bits BinOp.or IntKind.u64 (a : Int) 9223372036854775808 = ((a + 9223372036854775808 : Nat) : Int) := by
  have h1 : (BitVec.ofInt 64 (a : Int)).toNat = a := by rw [BitVec.ofInt_natCast, BitVec.toNat_ofNat]; omega
  have h2 : (BitVec.ofInt 64 9223372036854775808).toNat = 2 ^ 63 := by decide
  show IntKind.u64.wrap ((BitVec.ofInt 64 (a : Int) ||| BitVec.ofInt 64 9223372036854775808).toNat : Int) = _
  have h3 : a ||| 2 ^ 63 = a + 2 ^ 63 := by
    rw [Nat.or_comm, Nat.add_comm]
    have := Nat.two_pow_add_eq_or_of_lt (i := 63) (b := a) (by omega) 1
    simpa using this.symm
  rw [BitVec.toNat_or, h1, h2, h3, IntKind.wrap_u64]
  omega

theorem xor_max (a : Nat) (h : a < 2 ^ 64) : bits BinOp.xor IntKind.u64 IntKind.u64.max (a : Int) = ((18446744073709551615 - a : Nat) : Int) := by
  have h1 : BitVec.ofInt 64 IntKind.u64.max = BitVec.allOnes 64 := by decide
  have h2 : (BitVec.ofInt 64 (a : Int)).toNat = a := by rw [BitVec.ofInt_natCast, BitVec.toNat_ofNat]; omega
  show IntKind.u64.wrap ((BitVec.ofInt 64 IntKind.u64.max ^^^ BitVec.ofInt 64 (a : Int)).toNat : Int) = _
  rw [h1, BitVec.allOnes_xor, BitVec.toNat_not, h2, IntKind.wrap_u64]
  omega

theorem key_any (a : Nat) (ha : a < 2 ^ 64) (w : World) :
    Calls Tryz.prog 23 #[.float .f64 a] w fun e w' => e = .returned (.int .u64 (keyF a : Nat)) ∧ w = w' := by
  have e1 := ext_bits
  cases hn : Flt.nan a
  · have hb : (FloatKind.f64.format.order a a != some .eq) = false := by rw [← hn, ← Flt.fnan_eq]; rfl
    by_cases ht : 9223372036854775808 ≤ a
    · have hk : keyF a = 18446744073709551615 - a := by unfold keyF; rw [hn, if_neg (by simp), if_pos ht]
      have ht' : decide ((9223372036854775808 : Int) ≤ (a : Int)) = true := by simp; omega
      go_enter Tryz.func23, Tryz.ntmps23
      go_wp2
      go_ret
      refine ⟨?_, rfl⟩
      show Ending.returned (Value.int IntKind.u64 (bits BinOp.xor IntKind.u64 IntKind.u64.max (a : Int))) = _
      rw [xor_max a ha]
    · have hk : keyF a = a + 9223372036854775808 := by unfold keyF; rw [hn, if_neg (by simp), if_neg ht]
      have ht' : decide ((9223372036854775808 : Int) ≤ (a : Int)) = false := by simp; omega
      have ho := or_top a (by omega)
      go_enter Tryz.func23, Tryz.ntmps23
      go_wp2
      go_ret
      exact ⟨by rw [hk]; rfl, rfl⟩
  · have hb : (FloatKind.f64.format.order a a != some .eq) = true := by rw [← hn, ← Flt.fnan_eq]; rfl
    have hk : keyF a = 18446744073709551615 := by unfold keyF; rw [hn, if_pos rfl]
    go_enter Tryz.func23, Tryz.ntmps23
    go_wp2
    go_ret
    exact ⟨by rw [hk]; rfl, rfl⟩

theorem isnan_u64 (a : Int) (w : World) :
    Calls Tryz.prog 67 #[.int .u64 a] w fun e w' => e = .returned (.bool false) ∧ w = w' := by
  go_enter Tryz.func67, Tryz.ntmps67
  go_wp2
  go_ret
  exact ⟨rfl, rfl⟩

set_option maxHeartbeats 1000000 in
theorem cmp_u64 (a b : Nat) (w : World) :
    Calls Tryz.prog 56 #[.int .u64 a, .int .u64 b] w fun e w' => e = .returned (.int .i64 (if a < b then -1 else if b < a then 1 else 0)) ∧ w = w' := by
  by_cases h1 : a < b
  · rw [if_pos h1]
    go_enter Tryz.func56, Tryz.ntmps56
    go_wp2_with (go_at_call 67; refine (isnan_u64 _ _).mono ?_; rintro e w' ⟨rfl, rfl⟩)
    go_ret
    exact ⟨rfl, rfl⟩
  · rw [if_neg h1]
    by_cases h2 : b < a
    · rw [if_pos h2]
      go_enter Tryz.func56, Tryz.ntmps56
      go_wp2_with (go_at_call 67; refine (isnan_u64 _ _).mono ?_; rintro e w' ⟨rfl, rfl⟩)
      go_ret
      exact ⟨rfl, rfl⟩
    · rw [if_neg h2]
      go_enter Tryz.func56, Tryz.ntmps56
      go_wp2_with (go_at_call 67; refine (isnan_u64 _ _).mono ?_; rintro e w' ⟨rfl, rfl⟩)
      go_ret
      exact ⟨rfl, rfl⟩

theorem compare_any (a b : Nat) (ha : a < 2 ^ 64) (hb : b < 2 ^ 64) (w : World) :
    Calls Tryz.prog 19 #[.float .f64 a, .float .f64 b] w fun e w' => e = .returned (.int .i64 (cmpF a b)) ∧ w = w' := by
  have HA := Lib.hid (key_any a ha)
  have HB := Lib.hid (key_any b hb)
  clear ha hb
  have HC : RowKit.Hid (∀ w, Calls Tryz.prog 56 #[.int .u64 (keyF a : Nat), .int .u64 (keyF b : Nat)] w fun e w' => e = .returned (.int .i64 (cmpF a b)) ∧ w = w') := Lib.hid (fun w => cmp_u64 (keyF a) (keyF b) w)
  generalize cmpF a b = c at *
  generalize keyF a = x at *
  generalize keyF b = y at *
  go_enter Tryz.func19, Tryz.ntmps19
  go_wp2_with fail
  refine (HA.out _).mono ?_
  rintro e w1 ⟨rfl, rfl⟩
  go_wp2_with fail
  refine (HB.out _).mono ?_
  rintro e w1 ⟨rfl, rfl⟩
  go_wp2_with fail
  refine (HC.out _).mono ?_
  rintro e w1 ⟨rfl, rfl⟩
  go_wp2_with fail
  go_ret
  exact ⟨rfl, rfl⟩

theorem cmp_range (a b : Nat) : -1 ≤ cmpF a b ∧ cmpF a b ≤ 1 := by
  unfold cmpF
  split
  · omega
  · split <;> omega
theorem key3_any (a : Nat) (ha : a < 2 ^ 64) (w : World) :
    Calls Tryz.prog 30 #[.float .f64 a] w fun e w' => e = .returned (.int .u64 (keyF a : Nat)) ∧ w = w' := by
  have e1 := ext_bits
  have HNA := Lib.hid (nan3_any a)
  cases hn : Flt.nan a
  · rw [hn] at HNA
    by_cases ht : 9223372036854775808 ≤ a
    · have hk : keyF a = 18446744073709551615 - a := by unfold keyF; rw [hn, if_neg (by simp), if_pos ht]
      have ht' : decide ((9223372036854775808 : Int) ≤ (a : Int)) = true := by simp; omega
      rw [hk]
      go_enter Tryz.func30, Tryz.ntmps30
      go_wp2_with fail
      refine (HNA.out _).mono ?_
      rintro e w1 ⟨rfl, rfl⟩
      go_wp2_with fail
      go_ret
      refine ⟨?_, rfl⟩
      show Ending.returned (Value.int IntKind.u64 (bits BinOp.xor IntKind.u64 IntKind.u64.max (a : Int))) = _
      rw [xor_max a ha]
    · have hk : keyF a = a + 9223372036854775808 := by unfold keyF; rw [hn, if_neg (by simp), if_neg ht]
      have ht' : decide ((9223372036854775808 : Int) ≤ (a : Int)) = false := by simp; omega
      rw [hk]
      go_enter Tryz.func30, Tryz.ntmps30
      go_wp2_with fail
      refine (HNA.out _).mono ?_
      rintro e w1 ⟨rfl, rfl⟩
      go_wp2_with fail
      go_ret
      exact ⟨rfl, rfl⟩
  · rw [hn] at HNA
    have hk : keyF a = 18446744073709551615 := by unfold keyF; rw [hn, if_pos rfl]
    rw [hk]
    go_enter Tryz.func30, Tryz.ntmps30
    go_wp2_with fail
    refine (HNA.out _).mono ?_
    rintro e w1 ⟨rfl, rfl⟩
    go_wp2_with fail
    go_ret
    exact ⟨rfl, rfl⟩

theorem cmp3_any (a b : Nat) (ha : a < 2 ^ 64) (hb : b < 2 ^ 64) (w : World) :
    Calls Tryz.prog 35 #[.float .f64 a, .float .f64 b] w fun e w' => e = .returned (.int .i64 (cmpF a b)) ∧ w = w' := by
  have HA := Lib.hid (key3_any a ha)
  have HB := Lib.hid (key3_any b hb)
  have hc : cmpF a b = if keyF a < keyF b then -1 else if keyF b < keyF a then 1 else 0 := rfl
  have HC := Lib.hid hc
  clear ha hb hc
  generalize cmpF a b = z at *
  generalize keyF a = x at *
  generalize keyF b = y at *
  go_enter Tryz.func35, Tryz.ntmps35
  go_wp2_with fail
  refine (HA.out _).mono ?_
  rintro e w1 ⟨rfl, rfl⟩
  go_wp2_with fail
  refine (HB.out _).mono ?_
  rintro e w1 ⟨rfl, rfl⟩
  by_cases h1 : x < y
  · go_wp2_with fail
    go_ret
    exact ⟨by rw [HC.out, if_pos h1]; rfl, rfl⟩
  · have d1 : decide (x < y) = false := by simpa using h1
    go_wp2_with fail
    refine (HA.out _).mono ?_
    rintro e w1 ⟨rfl, rfl⟩
    go_wp2_with fail
    refine (HB.out _).mono ?_
    rintro e w1 ⟨rfl, rfl⟩
    by_cases h2 : y < x
    · go_wp2_with fail
      go_ret
      exact ⟨by rw [HC.out, if_neg h1, if_pos h2]; rfl, rfl⟩
    · have d2 : decide (y < x) = false := by simpa using h2
      go_wp2_with fail
      go_ret
      exact ⟨by rw [HC.out, if_neg h1, if_neg h2]; rfl, rfl⟩
end Go.Proofs.YtipkiiblghnoiaaGreatDoor
