/- RealOrder's walk. By an AI agent. Printed by genReJ.py. -/
import Derived.Test.YtipkiiblghnoiaaGreatDoorReH
namespace Go.Proofs.YtipkiiblghnoiaaGreatDoor.realOrder
open Go.ChangeShapes Go.WideShapes Go.ChangeAt Go.RowKit
open Bt
set_option linter.unusedVariables false

set_option maxRecDepth 100000 in
set_option maxHeartbeats 4000000 in
theorem w_at_ly (a b c : Nat) (w : World) (ha : a < 18446744073709551616) (hb : b < 18446744073709551616) (hc : c < 18446744073709551616) (hopt : Opt w) (hT : Tb w.heap.size w)
    (hn : cmpF a b = -1) (hk : keyF a < keyF b) (hm : cmpF b c ≤ 0) (g1 : (FloatKind.f64.format.order a b == some .lt) = true) (g2 : (FloatKind.f64.format.order a b == some .gt) = false) (ny : Flt.nan b = false) :
    Calls Tryz.prog 6 #[.int .u64 (a : Int), .int .u64 (b : Int), .int .u64 (c : Int)] w fun e w' => e = .returned (.bool true) ∧ Below w.heap.size w w' := by
  have HO := Lib.hid (And.intro hopt hT)
  have f1 : ∀ w : World, (callFunc 20 #[.int .u64 (a : Int)]).run Tryz.prog w = .ok (.value (.float .f64 a)) w := fun w => ext_from a w
  have f2 : ∀ w : World, (callFunc 20 #[.int .u64 (b : Int)]).run Tryz.prog w = .ok (.value (.float .f64 b)) w := fun w => ext_from b w
  have f3 : ∀ w : World, (callFunc 20 #[.int .u64 (c : Int)]).run Tryz.prog w = .ok (.value (.float .f64 c)) w := fun w => ext_from c w
  have HXY := Lib.hid (compare_any a b ha hb)
  have HYX := Lib.hid (compare_any b a hb ha)
  have HYZ := Lib.hid (compare_any b c hb hc)
  have HKX := Lib.hid (key_any a ha)
  have HKY := Lib.hid (key_any b hb)
  have HS := Lib.hid (same_any a b ha hb)
  have HNX := Lib.hid (isnan_any a)
  have HNY := Lib.hid (isnan_any b)
  have HCX := Lib.hid (canon_any a)
  have HUK := Lib.hid (unkey_any (keyF a) (key_lt ha))
  have huk := Re.unkey_key ha
  rw [huk.1, huk.2] at HUK
  have hfl := Re.cmp_flip a b
  rw [hn] at HXY
  rw [hfl, hn] at HYX
  rw [show -(-1 : Int) = 1 from rfl] at HYX
  have HXZ := Lib.hid (compare_any a c ha hc)
  have hxz : cmpF a c ≤ 0 := Re.cmp_trans (by rw [hn]; decide) hm
  have z1 : decide (cmpF a c > 0) = false := by rw [decide_eq_false_iff_not]; omega
  have z2 : decide (0 < cmpF a c) = false := by rw [decide_eq_false_iff_not]; omega
  have m1 : decide (cmpF b c ≤ 0) = true := decide_eq_true hm
  have k1 : decide (keyF a < keyF b) = true := by rw [decide_eq_true_eq]; omega
  have k1' : decide ((keyF a : Int) < (keyF b : Int)) = true := by rw [decide_eq_true_eq]; omega
  have k2 : decide (keyF a = keyF b) = false := by rw [decide_eq_false_iff_not]; omega
  rw [k2] at HS
  rw [ny] at HNY
  clear hopt hT ha hb hc hn hk huk hfl k2 hm hxz ny
  generalize cmpF a c = xz at *
  generalize cmpF b c = m at *
  generalize keyF a = kx at *
  generalize keyF b = ky at *
  generalize canW a = ca at *
  generalize Flt.nan a = nx at *
  go_enter Tryz.func6, Tryz.ntmps6
  go_wp2_with fail
  refine (begun3 _ HO.out.1 HO.out.2).mono ?_
  rintro e w1 ⟨rfl, hb1⟩
  have H1 := Lib.hid hb1
  clear hb1
  go_wp2_with fail
  refine (HXY.out _).mono ?_
  rintro e w2 ⟨rfl, hw⟩
  obtain rfl : w1 = w2 := hw
  go_wp2_with fail
  refine (HYZ.out _).mono ?_
  rintro e w2 ⟨rfl, hw⟩
  obtain rfl : w1 = w2 := hw
  go_wp2_with fail
  refine (HYX.out _).mono ?_
  rintro e w2 ⟨rfl, hw⟩
  obtain rfl : w1 = w2 := hw
  go_wp2_with fail
  refine (HKX.out _).mono ?_
  rintro e w2 ⟨rfl, hw⟩
  obtain rfl : w1 = w2 := hw
  go_wp2_with fail
  refine (HKY.out _).mono ?_
  rintro e w2 ⟨rfl, hw⟩
  obtain rfl : w1 = w2 := hw
  go_wp2_with fail
  refine (HXZ.out _).mono ?_
  rintro e w2 ⟨rfl, hw⟩
  obtain rfl : w1 = w2 := hw
  go_wp2_with fail
  refine (HS.out _).mono ?_
  rintro e w2 ⟨rfl, hw⟩
  obtain rfl : w1 = w2 := hw
  go_wp2_with fail
  refine (HNY.out _).mono ?_
  rintro e w2 ⟨rfl, hw⟩
  obtain rfl : w1 = w2 := hw.symm
  go_wp2_with fail
  refine (HKX.out _).mono ?_
  rintro e w2 ⟨rfl, hw⟩
  obtain rfl : w1 = w2 := hw
  go_wp2_with fail
  refine (HUK.out _).mono ?_
  rintro e w2 ⟨rfl, hw⟩
  obtain rfl : w1 = w2 := hw
  go_wp2_with fail
  refine (HCX.out _).mono ?_
  rintro e w2 ⟨rfl, hw⟩
  obtain rfl : w1 = w2 := hw.symm
  go_wp2_with fail
  refine (fbits_any ca ca _).mono ?_
  rintro e w2 ⟨rfl, hw⟩
  obtain rfl : w1 = w2 := hw
  rw [decide_eq_true (rfl : ca = ca)]
  go_wp2_with fail
  go_ret
  exact ⟨rfl, H1.out⟩

set_option maxRecDepth 100000 in
set_option maxHeartbeats 4000000 in
theorem w_at_yn (a b c : Nat) (w : World) (ha : a < 18446744073709551616) (hb : b < 18446744073709551616) (hc : c < 18446744073709551616) (hopt : Opt w) (hT : Tb w.heap.size w)
    (hn : cmpF a b = -1) (hk : keyF a < keyF b) (hm : cmpF b c ≤ 0) (g1 : (FloatKind.f64.format.order a b == some .lt) = false) (g2 : (FloatKind.f64.format.order a b == some .gt) = false) (ny : Flt.nan b = true) (nx : Flt.nan a = false) :
    Calls Tryz.prog 6 #[.int .u64 (a : Int), .int .u64 (b : Int), .int .u64 (c : Int)] w fun e w' => e = .returned (.bool true) ∧ Below w.heap.size w w' := by
  have HO := Lib.hid (And.intro hopt hT)
  have f1 : ∀ w : World, (callFunc 20 #[.int .u64 (a : Int)]).run Tryz.prog w = .ok (.value (.float .f64 a)) w := fun w => ext_from a w
  have f2 : ∀ w : World, (callFunc 20 #[.int .u64 (b : Int)]).run Tryz.prog w = .ok (.value (.float .f64 b)) w := fun w => ext_from b w
  have f3 : ∀ w : World, (callFunc 20 #[.int .u64 (c : Int)]).run Tryz.prog w = .ok (.value (.float .f64 c)) w := fun w => ext_from c w
  have HXY := Lib.hid (compare_any a b ha hb)
  have HYX := Lib.hid (compare_any b a hb ha)
  have HYZ := Lib.hid (compare_any b c hb hc)
  have HKX := Lib.hid (key_any a ha)
  have HKY := Lib.hid (key_any b hb)
  have HS := Lib.hid (same_any a b ha hb)
  have HNX := Lib.hid (isnan_any a)
  have HNY := Lib.hid (isnan_any b)
  have HCX := Lib.hid (canon_any a)
  have HUK := Lib.hid (unkey_any (keyF a) (key_lt ha))
  have huk := Re.unkey_key ha
  rw [huk.1, huk.2] at HUK
  have hfl := Re.cmp_flip a b
  rw [hn] at HXY
  rw [hfl, hn] at HYX
  rw [show -(-1 : Int) = 1 from rfl] at HYX
  have HXZ := Lib.hid (compare_any a c ha hc)
  have hxz : cmpF a c ≤ 0 := Re.cmp_trans (by rw [hn]; decide) hm
  have z1 : decide (cmpF a c > 0) = false := by rw [decide_eq_false_iff_not]; omega
  have z2 : decide (0 < cmpF a c) = false := by rw [decide_eq_false_iff_not]; omega
  have m1 : decide (cmpF b c ≤ 0) = true := decide_eq_true hm
  have k1 : decide (keyF a < keyF b) = true := by rw [decide_eq_true_eq]; omega
  have k1' : decide ((keyF a : Int) < (keyF b : Int)) = true := by rw [decide_eq_true_eq]; omega
  have k2 : decide (keyF a = keyF b) = false := by rw [decide_eq_false_iff_not]; omega
  rw [k2] at HS
  rw [ny] at HNY
  rw [nx] at HNX
  clear hopt hT ha hb hc hn hk huk hfl k2 hm hxz ny nx
  generalize cmpF a c = xz at *
  generalize cmpF b c = m at *
  generalize keyF a = kx at *
  generalize keyF b = ky at *
  generalize canW a = ca at *
  go_enter Tryz.func6, Tryz.ntmps6
  go_wp2_with fail
  refine (begun3 _ HO.out.1 HO.out.2).mono ?_
  rintro e w1 ⟨rfl, hb1⟩
  have H1 := Lib.hid hb1
  clear hb1
  go_wp2_with fail
  refine (HXY.out _).mono ?_
  rintro e w2 ⟨rfl, hw⟩
  obtain rfl : w1 = w2 := hw
  go_wp2_with fail
  refine (HYZ.out _).mono ?_
  rintro e w2 ⟨rfl, hw⟩
  obtain rfl : w1 = w2 := hw
  go_wp2_with fail
  refine (HYX.out _).mono ?_
  rintro e w2 ⟨rfl, hw⟩
  obtain rfl : w1 = w2 := hw
  go_wp2_with fail
  refine (HKX.out _).mono ?_
  rintro e w2 ⟨rfl, hw⟩
  obtain rfl : w1 = w2 := hw
  go_wp2_with fail
  refine (HKY.out _).mono ?_
  rintro e w2 ⟨rfl, hw⟩
  obtain rfl : w1 = w2 := hw
  go_wp2_with fail
  refine (HXZ.out _).mono ?_
  rintro e w2 ⟨rfl, hw⟩
  obtain rfl : w1 = w2 := hw
  go_wp2_with fail
  refine (HS.out _).mono ?_
  rintro e w2 ⟨rfl, hw⟩
  obtain rfl : w1 = w2 := hw
  go_wp2_with fail
  refine (HNY.out _).mono ?_
  rintro e w2 ⟨rfl, hw⟩
  obtain rfl : w1 = w2 := hw.symm
  go_wp2_with fail
  refine (HNX.out _).mono ?_
  rintro e w2 ⟨rfl, hw⟩
  obtain rfl : w1 = w2 := hw.symm
  go_wp2_with fail
  refine (HKX.out _).mono ?_
  rintro e w2 ⟨rfl, hw⟩
  obtain rfl : w1 = w2 := hw
  go_wp2_with fail
  refine (HUK.out _).mono ?_
  rintro e w2 ⟨rfl, hw⟩
  obtain rfl : w1 = w2 := hw
  go_wp2_with fail
  refine (HCX.out _).mono ?_
  rintro e w2 ⟨rfl, hw⟩
  obtain rfl : w1 = w2 := hw.symm
  go_wp2_with fail
  refine (fbits_any ca ca _).mono ?_
  rintro e w2 ⟨rfl, hw⟩
  obtain rfl : w1 = w2 := hw
  rw [decide_eq_true (rfl : ca = ca)]
  go_wp2_with fail
  go_ret
  exact ⟨rfl, H1.out⟩

set_option maxRecDepth 100000 in
set_option maxHeartbeats 4000000 in
theorem w_at_nn (a b c : Nat) (w : World) (ha : a < 18446744073709551616) (hb : b < 18446744073709551616) (hc : c < 18446744073709551616) (hopt : Opt w) (hT : Tb w.heap.size w)
    (hn : cmpF a b = -1) (hk : keyF a < keyF b) (hm : cmpF b c ≤ 0) (g1 : (FloatKind.f64.format.order a b == some .lt) = false) (g2 : (FloatKind.f64.format.order a b == some .gt) = false) (ny : Flt.nan b = false) :
    Calls Tryz.prog 6 #[.int .u64 (a : Int), .int .u64 (b : Int), .int .u64 (c : Int)] w fun e w' => e = .returned (.bool true) ∧ Below w.heap.size w w' := by
  have HO := Lib.hid (And.intro hopt hT)
  have f1 : ∀ w : World, (callFunc 20 #[.int .u64 (a : Int)]).run Tryz.prog w = .ok (.value (.float .f64 a)) w := fun w => ext_from a w
  have f2 : ∀ w : World, (callFunc 20 #[.int .u64 (b : Int)]).run Tryz.prog w = .ok (.value (.float .f64 b)) w := fun w => ext_from b w
  have f3 : ∀ w : World, (callFunc 20 #[.int .u64 (c : Int)]).run Tryz.prog w = .ok (.value (.float .f64 c)) w := fun w => ext_from c w
  have HXY := Lib.hid (compare_any a b ha hb)
  have HYX := Lib.hid (compare_any b a hb ha)
  have HYZ := Lib.hid (compare_any b c hb hc)
  have HKX := Lib.hid (key_any a ha)
  have HKY := Lib.hid (key_any b hb)
  have HS := Lib.hid (same_any a b ha hb)
  have HNX := Lib.hid (isnan_any a)
  have HNY := Lib.hid (isnan_any b)
  have HCX := Lib.hid (canon_any a)
  have HUK := Lib.hid (unkey_any (keyF a) (key_lt ha))
  have huk := Re.unkey_key ha
  rw [huk.1, huk.2] at HUK
  have hfl := Re.cmp_flip a b
  rw [hn] at HXY
  rw [hfl, hn] at HYX
  rw [show -(-1 : Int) = 1 from rfl] at HYX
  have HXZ := Lib.hid (compare_any a c ha hc)
  have hxz : cmpF a c ≤ 0 := Re.cmp_trans (by rw [hn]; decide) hm
  have z1 : decide (cmpF a c > 0) = false := by rw [decide_eq_false_iff_not]; omega
  have z2 : decide (0 < cmpF a c) = false := by rw [decide_eq_false_iff_not]; omega
  have m1 : decide (cmpF b c ≤ 0) = true := decide_eq_true hm
  have k1 : decide (keyF a < keyF b) = true := by rw [decide_eq_true_eq]; omega
  have k1' : decide ((keyF a : Int) < (keyF b : Int)) = true := by rw [decide_eq_true_eq]; omega
  have k2 : decide (keyF a = keyF b) = false := by rw [decide_eq_false_iff_not]; omega
  rw [k2] at HS
  rw [ny] at HNY
  clear hopt hT ha hb hc hn hk huk hfl k2 hm hxz ny
  generalize cmpF a c = xz at *
  generalize cmpF b c = m at *
  generalize keyF a = kx at *
  generalize keyF b = ky at *
  generalize canW a = ca at *
  generalize Flt.nan a = nx at *
  go_enter Tryz.func6, Tryz.ntmps6
  go_wp2_with fail
  refine (begun3 _ HO.out.1 HO.out.2).mono ?_
  rintro e w1 ⟨rfl, hb1⟩
  have H1 := Lib.hid hb1
  clear hb1
  go_wp2_with fail
  refine (HXY.out _).mono ?_
  rintro e w2 ⟨rfl, hw⟩
  obtain rfl : w1 = w2 := hw
  go_wp2_with fail
  refine (HYZ.out _).mono ?_
  rintro e w2 ⟨rfl, hw⟩
  obtain rfl : w1 = w2 := hw
  go_wp2_with fail
  refine (HYX.out _).mono ?_
  rintro e w2 ⟨rfl, hw⟩
  obtain rfl : w1 = w2 := hw
  go_wp2_with fail
  refine (HKX.out _).mono ?_
  rintro e w2 ⟨rfl, hw⟩
  obtain rfl : w1 = w2 := hw
  go_wp2_with fail
  refine (HKY.out _).mono ?_
  rintro e w2 ⟨rfl, hw⟩
  obtain rfl : w1 = w2 := hw
  go_wp2_with fail
  refine (HXZ.out _).mono ?_
  rintro e w2 ⟨rfl, hw⟩
  obtain rfl : w1 = w2 := hw
  go_wp2_with fail
  refine (HS.out _).mono ?_
  rintro e w2 ⟨rfl, hw⟩
  obtain rfl : w1 = w2 := hw
  go_wp2_with fail
  refine (HNY.out _).mono ?_
  rintro e w2 ⟨rfl, hw⟩
  obtain rfl : w1 = w2 := hw.symm
  go_wp2_with fail
  refine (HKX.out _).mono ?_
  rintro e w2 ⟨rfl, hw⟩
  obtain rfl : w1 = w2 := hw
  go_wp2_with fail
  refine (HUK.out _).mono ?_
  rintro e w2 ⟨rfl, hw⟩
  obtain rfl : w1 = w2 := hw
  go_wp2_with fail
  refine (HCX.out _).mono ?_
  rintro e w2 ⟨rfl, hw⟩
  obtain rfl : w1 = w2 := hw.symm
  go_wp2_with fail
  refine (fbits_any ca ca _).mono ?_
  rintro e w2 ⟨rfl, hw⟩
  obtain rfl : w1 = w2 := hw
  rw [decide_eq_true (rfl : ca = ca)]
  go_wp2_with fail
  go_ret
  exact ⟨rfl, H1.out⟩

set_option maxRecDepth 100000 in
set_option maxHeartbeats 4000000 in
theorem w_af_ly (a b c : Nat) (w : World) (ha : a < 18446744073709551616) (hb : b < 18446744073709551616) (hc : c < 18446744073709551616) (hopt : Opt w) (hT : Tb w.heap.size w)
    (hn : cmpF a b = -1) (hk : keyF a < keyF b) (hm : ¬ cmpF b c ≤ 0) (g1 : (FloatKind.f64.format.order a b == some .lt) = true) (g2 : (FloatKind.f64.format.order a b == some .gt) = false) (ny : Flt.nan b = false) :
    Calls Tryz.prog 6 #[.int .u64 (a : Int), .int .u64 (b : Int), .int .u64 (c : Int)] w fun e w' => e = .returned (.bool true) ∧ Below w.heap.size w w' := by
  have HO := Lib.hid (And.intro hopt hT)
  have f1 : ∀ w : World, (callFunc 20 #[.int .u64 (a : Int)]).run Tryz.prog w = .ok (.value (.float .f64 a)) w := fun w => ext_from a w
  have f2 : ∀ w : World, (callFunc 20 #[.int .u64 (b : Int)]).run Tryz.prog w = .ok (.value (.float .f64 b)) w := fun w => ext_from b w
  have f3 : ∀ w : World, (callFunc 20 #[.int .u64 (c : Int)]).run Tryz.prog w = .ok (.value (.float .f64 c)) w := fun w => ext_from c w
  have HXY := Lib.hid (compare_any a b ha hb)
  have HYX := Lib.hid (compare_any b a hb ha)
  have HYZ := Lib.hid (compare_any b c hb hc)
  have HKX := Lib.hid (key_any a ha)
  have HKY := Lib.hid (key_any b hb)
  have HS := Lib.hid (same_any a b ha hb)
  have HNX := Lib.hid (isnan_any a)
  have HNY := Lib.hid (isnan_any b)
  have HCX := Lib.hid (canon_any a)
  have HUK := Lib.hid (unkey_any (keyF a) (key_lt ha))
  have huk := Re.unkey_key ha
  rw [huk.1, huk.2] at HUK
  have hfl := Re.cmp_flip a b
  rw [hn] at HXY
  rw [hfl, hn] at HYX
  rw [show -(-1 : Int) = 1 from rfl] at HYX
  have m1 : decide (cmpF b c ≤ 0) = false := decide_eq_false hm
  have k1 : decide (keyF a < keyF b) = true := by rw [decide_eq_true_eq]; omega
  have k1' : decide ((keyF a : Int) < (keyF b : Int)) = true := by rw [decide_eq_true_eq]; omega
  have k2 : decide (keyF a = keyF b) = false := by rw [decide_eq_false_iff_not]; omega
  rw [k2] at HS
  rw [ny] at HNY
  clear hopt hT ha hb hc hn hk huk hfl k2 hm ny
  generalize cmpF b c = m at *
  generalize keyF a = kx at *
  generalize keyF b = ky at *
  generalize canW a = ca at *
  generalize Flt.nan a = nx at *
  go_enter Tryz.func6, Tryz.ntmps6
  go_wp2_with fail
  refine (begun3 _ HO.out.1 HO.out.2).mono ?_
  rintro e w1 ⟨rfl, hb1⟩
  have H1 := Lib.hid hb1
  clear hb1
  go_wp2_with fail
  refine (HXY.out _).mono ?_
  rintro e w2 ⟨rfl, hw⟩
  obtain rfl : w1 = w2 := hw
  go_wp2_with fail
  refine (HYZ.out _).mono ?_
  rintro e w2 ⟨rfl, hw⟩
  obtain rfl : w1 = w2 := hw
  go_wp2_with fail
  refine (HYX.out _).mono ?_
  rintro e w2 ⟨rfl, hw⟩
  obtain rfl : w1 = w2 := hw
  go_wp2_with fail
  refine (HKX.out _).mono ?_
  rintro e w2 ⟨rfl, hw⟩
  obtain rfl : w1 = w2 := hw
  go_wp2_with fail
  refine (HKY.out _).mono ?_
  rintro e w2 ⟨rfl, hw⟩
  obtain rfl : w1 = w2 := hw
  go_wp2_with fail
  refine (HS.out _).mono ?_
  rintro e w2 ⟨rfl, hw⟩
  obtain rfl : w1 = w2 := hw
  go_wp2_with fail
  refine (HNY.out _).mono ?_
  rintro e w2 ⟨rfl, hw⟩
  obtain rfl : w1 = w2 := hw.symm
  go_wp2_with fail
  refine (HKX.out _).mono ?_
  rintro e w2 ⟨rfl, hw⟩
  obtain rfl : w1 = w2 := hw
  go_wp2_with fail
  refine (HUK.out _).mono ?_
  rintro e w2 ⟨rfl, hw⟩
  obtain rfl : w1 = w2 := hw
  go_wp2_with fail
  refine (HCX.out _).mono ?_
  rintro e w2 ⟨rfl, hw⟩
  obtain rfl : w1 = w2 := hw.symm
  go_wp2_with fail
  refine (fbits_any ca ca _).mono ?_
  rintro e w2 ⟨rfl, hw⟩
  obtain rfl : w1 = w2 := hw
  rw [decide_eq_true (rfl : ca = ca)]
  go_wp2_with fail
  go_ret
  exact ⟨rfl, H1.out⟩

set_option maxRecDepth 100000 in
set_option maxHeartbeats 4000000 in
theorem w_af_yn (a b c : Nat) (w : World) (ha : a < 18446744073709551616) (hb : b < 18446744073709551616) (hc : c < 18446744073709551616) (hopt : Opt w) (hT : Tb w.heap.size w)
    (hn : cmpF a b = -1) (hk : keyF a < keyF b) (hm : ¬ cmpF b c ≤ 0) (g1 : (FloatKind.f64.format.order a b == some .lt) = false) (g2 : (FloatKind.f64.format.order a b == some .gt) = false) (ny : Flt.nan b = true) (nx : Flt.nan a = false) :
    Calls Tryz.prog 6 #[.int .u64 (a : Int), .int .u64 (b : Int), .int .u64 (c : Int)] w fun e w' => e = .returned (.bool true) ∧ Below w.heap.size w w' := by
  have HO := Lib.hid (And.intro hopt hT)
  have f1 : ∀ w : World, (callFunc 20 #[.int .u64 (a : Int)]).run Tryz.prog w = .ok (.value (.float .f64 a)) w := fun w => ext_from a w
  have f2 : ∀ w : World, (callFunc 20 #[.int .u64 (b : Int)]).run Tryz.prog w = .ok (.value (.float .f64 b)) w := fun w => ext_from b w
  have f3 : ∀ w : World, (callFunc 20 #[.int .u64 (c : Int)]).run Tryz.prog w = .ok (.value (.float .f64 c)) w := fun w => ext_from c w
  have HXY := Lib.hid (compare_any a b ha hb)
  have HYX := Lib.hid (compare_any b a hb ha)
  have HYZ := Lib.hid (compare_any b c hb hc)
  have HKX := Lib.hid (key_any a ha)
  have HKY := Lib.hid (key_any b hb)
  have HS := Lib.hid (same_any a b ha hb)
  have HNX := Lib.hid (isnan_any a)
  have HNY := Lib.hid (isnan_any b)
  have HCX := Lib.hid (canon_any a)
  have HUK := Lib.hid (unkey_any (keyF a) (key_lt ha))
  have huk := Re.unkey_key ha
  rw [huk.1, huk.2] at HUK
  have hfl := Re.cmp_flip a b
  rw [hn] at HXY
  rw [hfl, hn] at HYX
  rw [show -(-1 : Int) = 1 from rfl] at HYX
  have m1 : decide (cmpF b c ≤ 0) = false := decide_eq_false hm
  have k1 : decide (keyF a < keyF b) = true := by rw [decide_eq_true_eq]; omega
  have k1' : decide ((keyF a : Int) < (keyF b : Int)) = true := by rw [decide_eq_true_eq]; omega
  have k2 : decide (keyF a = keyF b) = false := by rw [decide_eq_false_iff_not]; omega
  rw [k2] at HS
  rw [ny] at HNY
  rw [nx] at HNX
  clear hopt hT ha hb hc hn hk huk hfl k2 hm ny nx
  generalize cmpF b c = m at *
  generalize keyF a = kx at *
  generalize keyF b = ky at *
  generalize canW a = ca at *
  go_enter Tryz.func6, Tryz.ntmps6
  go_wp2_with fail
  refine (begun3 _ HO.out.1 HO.out.2).mono ?_
  rintro e w1 ⟨rfl, hb1⟩
  have H1 := Lib.hid hb1
  clear hb1
  go_wp2_with fail
  refine (HXY.out _).mono ?_
  rintro e w2 ⟨rfl, hw⟩
  obtain rfl : w1 = w2 := hw
  go_wp2_with fail
  refine (HYZ.out _).mono ?_
  rintro e w2 ⟨rfl, hw⟩
  obtain rfl : w1 = w2 := hw
  go_wp2_with fail
  refine (HYX.out _).mono ?_
  rintro e w2 ⟨rfl, hw⟩
  obtain rfl : w1 = w2 := hw
  go_wp2_with fail
  refine (HKX.out _).mono ?_
  rintro e w2 ⟨rfl, hw⟩
  obtain rfl : w1 = w2 := hw
  go_wp2_with fail
  refine (HKY.out _).mono ?_
  rintro e w2 ⟨rfl, hw⟩
  obtain rfl : w1 = w2 := hw
  go_wp2_with fail
  refine (HS.out _).mono ?_
  rintro e w2 ⟨rfl, hw⟩
  obtain rfl : w1 = w2 := hw
  go_wp2_with fail
  refine (HNY.out _).mono ?_
  rintro e w2 ⟨rfl, hw⟩
  obtain rfl : w1 = w2 := hw.symm
  go_wp2_with fail
  refine (HNX.out _).mono ?_
  rintro e w2 ⟨rfl, hw⟩
  obtain rfl : w1 = w2 := hw.symm
  go_wp2_with fail
  refine (HKX.out _).mono ?_
  rintro e w2 ⟨rfl, hw⟩
  obtain rfl : w1 = w2 := hw
  go_wp2_with fail
  refine (HUK.out _).mono ?_
  rintro e w2 ⟨rfl, hw⟩
  obtain rfl : w1 = w2 := hw
  go_wp2_with fail
  refine (HCX.out _).mono ?_
  rintro e w2 ⟨rfl, hw⟩
  obtain rfl : w1 = w2 := hw.symm
  go_wp2_with fail
  refine (fbits_any ca ca _).mono ?_
  rintro e w2 ⟨rfl, hw⟩
  obtain rfl : w1 = w2 := hw
  rw [decide_eq_true (rfl : ca = ca)]
  go_wp2_with fail
  go_ret
  exact ⟨rfl, H1.out⟩

set_option maxRecDepth 100000 in
set_option maxHeartbeats 4000000 in
theorem w_af_nn (a b c : Nat) (w : World) (ha : a < 18446744073709551616) (hb : b < 18446744073709551616) (hc : c < 18446744073709551616) (hopt : Opt w) (hT : Tb w.heap.size w)
    (hn : cmpF a b = -1) (hk : keyF a < keyF b) (hm : ¬ cmpF b c ≤ 0) (g1 : (FloatKind.f64.format.order a b == some .lt) = false) (g2 : (FloatKind.f64.format.order a b == some .gt) = false) (ny : Flt.nan b = false) :
    Calls Tryz.prog 6 #[.int .u64 (a : Int), .int .u64 (b : Int), .int .u64 (c : Int)] w fun e w' => e = .returned (.bool true) ∧ Below w.heap.size w w' := by
  have HO := Lib.hid (And.intro hopt hT)
  have f1 : ∀ w : World, (callFunc 20 #[.int .u64 (a : Int)]).run Tryz.prog w = .ok (.value (.float .f64 a)) w := fun w => ext_from a w
  have f2 : ∀ w : World, (callFunc 20 #[.int .u64 (b : Int)]).run Tryz.prog w = .ok (.value (.float .f64 b)) w := fun w => ext_from b w
  have f3 : ∀ w : World, (callFunc 20 #[.int .u64 (c : Int)]).run Tryz.prog w = .ok (.value (.float .f64 c)) w := fun w => ext_from c w
  have HXY := Lib.hid (compare_any a b ha hb)
  have HYX := Lib.hid (compare_any b a hb ha)
  have HYZ := Lib.hid (compare_any b c hb hc)
  have HKX := Lib.hid (key_any a ha)
  have HKY := Lib.hid (key_any b hb)
  have HS := Lib.hid (same_any a b ha hb)
  have HNX := Lib.hid (isnan_any a)
  have HNY := Lib.hid (isnan_any b)
  have HCX := Lib.hid (canon_any a)
  have HUK := Lib.hid (unkey_any (keyF a) (key_lt ha))
  have huk := Re.unkey_key ha
  rw [huk.1, huk.2] at HUK
  have hfl := Re.cmp_flip a b
  rw [hn] at HXY
  rw [hfl, hn] at HYX
  rw [show -(-1 : Int) = 1 from rfl] at HYX
  have m1 : decide (cmpF b c ≤ 0) = false := decide_eq_false hm
  have k1 : decide (keyF a < keyF b) = true := by rw [decide_eq_true_eq]; omega
  have k1' : decide ((keyF a : Int) < (keyF b : Int)) = true := by rw [decide_eq_true_eq]; omega
  have k2 : decide (keyF a = keyF b) = false := by rw [decide_eq_false_iff_not]; omega
  rw [k2] at HS
  rw [ny] at HNY
  clear hopt hT ha hb hc hn hk huk hfl k2 hm ny
  generalize cmpF b c = m at *
  generalize keyF a = kx at *
  generalize keyF b = ky at *
  generalize canW a = ca at *
  generalize Flt.nan a = nx at *
  go_enter Tryz.func6, Tryz.ntmps6
  go_wp2_with fail
  refine (begun3 _ HO.out.1 HO.out.2).mono ?_
  rintro e w1 ⟨rfl, hb1⟩
  have H1 := Lib.hid hb1
  clear hb1
  go_wp2_with fail
  refine (HXY.out _).mono ?_
  rintro e w2 ⟨rfl, hw⟩
  obtain rfl : w1 = w2 := hw
  go_wp2_with fail
  refine (HYZ.out _).mono ?_
  rintro e w2 ⟨rfl, hw⟩
  obtain rfl : w1 = w2 := hw
  go_wp2_with fail
  refine (HYX.out _).mono ?_
  rintro e w2 ⟨rfl, hw⟩
  obtain rfl : w1 = w2 := hw
  go_wp2_with fail
  refine (HKX.out _).mono ?_
  rintro e w2 ⟨rfl, hw⟩
  obtain rfl : w1 = w2 := hw
  go_wp2_with fail
  refine (HKY.out _).mono ?_
  rintro e w2 ⟨rfl, hw⟩
  obtain rfl : w1 = w2 := hw
  go_wp2_with fail
  refine (HS.out _).mono ?_
  rintro e w2 ⟨rfl, hw⟩
  obtain rfl : w1 = w2 := hw
  go_wp2_with fail
  refine (HNY.out _).mono ?_
  rintro e w2 ⟨rfl, hw⟩
  obtain rfl : w1 = w2 := hw.symm
  go_wp2_with fail
  refine (HKX.out _).mono ?_
  rintro e w2 ⟨rfl, hw⟩
  obtain rfl : w1 = w2 := hw
  go_wp2_with fail
  refine (HUK.out _).mono ?_
  rintro e w2 ⟨rfl, hw⟩
  obtain rfl : w1 = w2 := hw
  go_wp2_with fail
  refine (HCX.out _).mono ?_
  rintro e w2 ⟨rfl, hw⟩
  obtain rfl : w1 = w2 := hw.symm
  go_wp2_with fail
  refine (fbits_any ca ca _).mono ?_
  rintro e w2 ⟨rfl, hw⟩
  obtain rfl : w1 = w2 := hw
  rw [decide_eq_true (rfl : ca = ca)]
  go_wp2_with fail
  go_ret
  exact ⟨rfl, H1.out⟩

set_option maxRecDepth 100000 in
set_option maxHeartbeats 4000000 in
theorem w_bt_tt (a b c : Nat) (w : World) (ha : a < 18446744073709551616) (hb : b < 18446744073709551616) (hc : c < 18446744073709551616) (hopt : Opt w) (hT : Tb w.heap.size w)
    (hn : cmpF a b = 0) (hk : keyF a = keyF b) (hm : cmpF b c ≤ 0) (g1 : (FloatKind.f64.format.order a b == some .lt) = false) (g2 : (FloatKind.f64.format.order a b == some .gt) = false) (ny : Flt.nan b = true) (nx : Flt.nan a = true) :
    Calls Tryz.prog 6 #[.int .u64 (a : Int), .int .u64 (b : Int), .int .u64 (c : Int)] w fun e w' => e = .returned (.bool true) ∧ Below w.heap.size w w' := by
  have HO := Lib.hid (And.intro hopt hT)
  have f1 : ∀ w : World, (callFunc 20 #[.int .u64 (a : Int)]).run Tryz.prog w = .ok (.value (.float .f64 a)) w := fun w => ext_from a w
  have f2 : ∀ w : World, (callFunc 20 #[.int .u64 (b : Int)]).run Tryz.prog w = .ok (.value (.float .f64 b)) w := fun w => ext_from b w
  have f3 : ∀ w : World, (callFunc 20 #[.int .u64 (c : Int)]).run Tryz.prog w = .ok (.value (.float .f64 c)) w := fun w => ext_from c w
  have HXY := Lib.hid (compare_any a b ha hb)
  have HYX := Lib.hid (compare_any b a hb ha)
  have HYZ := Lib.hid (compare_any b c hb hc)
  have HKX := Lib.hid (key_any a ha)
  have HKY := Lib.hid (key_any b hb)
  have HS := Lib.hid (same_any a b ha hb)
  have HNX := Lib.hid (isnan_any a)
  have HNY := Lib.hid (isnan_any b)
  have HCX := Lib.hid (canon_any a)
  have HUK := Lib.hid (unkey_any (keyF a) (key_lt ha))
  have huk := Re.unkey_key ha
  rw [huk.1, huk.2] at HUK
  have hfl := Re.cmp_flip a b
  rw [hn] at HXY
  rw [hfl, hn] at HYX
  rw [show -(0 : Int) = 0 from rfl] at HYX
  have HXZ := Lib.hid (compare_any a c ha hc)
  have hxz : cmpF a c ≤ 0 := Re.cmp_trans (by rw [hn]; decide) hm
  have z1 : decide (cmpF a c > 0) = false := by rw [decide_eq_false_iff_not]; omega
  have z2 : decide (0 < cmpF a c) = false := by rw [decide_eq_false_iff_not]; omega
  have m1 : decide (cmpF b c ≤ 0) = true := decide_eq_true hm
  have k1 : decide (keyF a < keyF b) = false := by rw [decide_eq_false_iff_not]; omega
  have k1' : decide ((keyF a : Int) < (keyF b : Int)) = false := by rw [decide_eq_false_iff_not]; omega
  have k2 : decide (keyF a = keyF b) = true := by rw [decide_eq_true_eq]; omega
  rw [k2] at HS
  rw [ny] at HNY
  rw [nx] at HNX
  clear hopt hT ha hb hc hn hk huk hfl k2 hm hxz ny nx
  generalize cmpF a c = xz at *
  generalize cmpF b c = m at *
  generalize keyF a = kx at *
  generalize keyF b = ky at *
  generalize canW a = ca at *
  go_enter Tryz.func6, Tryz.ntmps6
  go_wp2_with fail
  refine (begun3 _ HO.out.1 HO.out.2).mono ?_
  rintro e w1 ⟨rfl, hb1⟩
  have H1 := Lib.hid hb1
  clear hb1
  go_wp2_with fail
  refine (HXY.out _).mono ?_
  rintro e w2 ⟨rfl, hw⟩
  obtain rfl : w1 = w2 := hw
  go_wp2_with fail
  refine (HYZ.out _).mono ?_
  rintro e w2 ⟨rfl, hw⟩
  obtain rfl : w1 = w2 := hw
  go_wp2_with fail
  refine (HYX.out _).mono ?_
  rintro e w2 ⟨rfl, hw⟩
  obtain rfl : w1 = w2 := hw
  go_wp2_with fail
  refine (HKX.out _).mono ?_
  rintro e w2 ⟨rfl, hw⟩
  obtain rfl : w1 = w2 := hw
  go_wp2_with fail
  refine (HKY.out _).mono ?_
  rintro e w2 ⟨rfl, hw⟩
  obtain rfl : w1 = w2 := hw
  go_wp2_with fail
  refine (HXZ.out _).mono ?_
  rintro e w2 ⟨rfl, hw⟩
  obtain rfl : w1 = w2 := hw
  go_wp2_with fail
  refine (HS.out _).mono ?_
  rintro e w2 ⟨rfl, hw⟩
  obtain rfl : w1 = w2 := hw
  go_wp2_with fail
  refine (HNY.out _).mono ?_
  rintro e w2 ⟨rfl, hw⟩
  obtain rfl : w1 = w2 := hw.symm
  go_wp2_with fail
  refine (HNX.out _).mono ?_
  rintro e w2 ⟨rfl, hw⟩
  obtain rfl : w1 = w2 := hw.symm
  go_wp2_with fail
  refine (HKX.out _).mono ?_
  rintro e w2 ⟨rfl, hw⟩
  obtain rfl : w1 = w2 := hw
  go_wp2_with fail
  refine (HUK.out _).mono ?_
  rintro e w2 ⟨rfl, hw⟩
  obtain rfl : w1 = w2 := hw
  go_wp2_with fail
  refine (HCX.out _).mono ?_
  rintro e w2 ⟨rfl, hw⟩
  obtain rfl : w1 = w2 := hw.symm
  go_wp2_with fail
  refine (fbits_any ca ca _).mono ?_
  rintro e w2 ⟨rfl, hw⟩
  obtain rfl : w1 = w2 := hw
  rw [decide_eq_true (rfl : ca = ca)]
  go_wp2_with fail
  go_ret
  exact ⟨rfl, H1.out⟩

set_option maxRecDepth 100000 in
set_option maxHeartbeats 4000000 in
theorem w_bt_ff (a b c : Nat) (w : World) (ha : a < 18446744073709551616) (hb : b < 18446744073709551616) (hc : c < 18446744073709551616) (hopt : Opt w) (hT : Tb w.heap.size w)
    (hn : cmpF a b = 0) (hk : keyF a = keyF b) (hm : cmpF b c ≤ 0) (g1 : (FloatKind.f64.format.order a b == some .lt) = false) (g2 : (FloatKind.f64.format.order a b == some .gt) = false) (ny : Flt.nan b = false) :
    Calls Tryz.prog 6 #[.int .u64 (a : Int), .int .u64 (b : Int), .int .u64 (c : Int)] w fun e w' => e = .returned (.bool true) ∧ Below w.heap.size w w' := by
  have HO := Lib.hid (And.intro hopt hT)
  have f1 : ∀ w : World, (callFunc 20 #[.int .u64 (a : Int)]).run Tryz.prog w = .ok (.value (.float .f64 a)) w := fun w => ext_from a w
  have f2 : ∀ w : World, (callFunc 20 #[.int .u64 (b : Int)]).run Tryz.prog w = .ok (.value (.float .f64 b)) w := fun w => ext_from b w
  have f3 : ∀ w : World, (callFunc 20 #[.int .u64 (c : Int)]).run Tryz.prog w = .ok (.value (.float .f64 c)) w := fun w => ext_from c w
  have HXY := Lib.hid (compare_any a b ha hb)
  have HYX := Lib.hid (compare_any b a hb ha)
  have HYZ := Lib.hid (compare_any b c hb hc)
  have HKX := Lib.hid (key_any a ha)
  have HKY := Lib.hid (key_any b hb)
  have HS := Lib.hid (same_any a b ha hb)
  have HNX := Lib.hid (isnan_any a)
  have HNY := Lib.hid (isnan_any b)
  have HCX := Lib.hid (canon_any a)
  have HUK := Lib.hid (unkey_any (keyF a) (key_lt ha))
  have huk := Re.unkey_key ha
  rw [huk.1, huk.2] at HUK
  have hfl := Re.cmp_flip a b
  rw [hn] at HXY
  rw [hfl, hn] at HYX
  rw [show -(0 : Int) = 0 from rfl] at HYX
  have HXZ := Lib.hid (compare_any a c ha hc)
  have hxz : cmpF a c ≤ 0 := Re.cmp_trans (by rw [hn]; decide) hm
  have z1 : decide (cmpF a c > 0) = false := by rw [decide_eq_false_iff_not]; omega
  have z2 : decide (0 < cmpF a c) = false := by rw [decide_eq_false_iff_not]; omega
  have m1 : decide (cmpF b c ≤ 0) = true := decide_eq_true hm
  have k1 : decide (keyF a < keyF b) = false := by rw [decide_eq_false_iff_not]; omega
  have k1' : decide ((keyF a : Int) < (keyF b : Int)) = false := by rw [decide_eq_false_iff_not]; omega
  have k2 : decide (keyF a = keyF b) = true := by rw [decide_eq_true_eq]; omega
  rw [k2] at HS
  rw [ny] at HNY
  clear hopt hT ha hb hc hn hk huk hfl k2 hm hxz ny
  generalize cmpF a c = xz at *
  generalize cmpF b c = m at *
  generalize keyF a = kx at *
  generalize keyF b = ky at *
  generalize canW a = ca at *
  generalize Flt.nan a = nx at *
  go_enter Tryz.func6, Tryz.ntmps6
  go_wp2_with fail
  refine (begun3 _ HO.out.1 HO.out.2).mono ?_
  rintro e w1 ⟨rfl, hb1⟩
  have H1 := Lib.hid hb1
  clear hb1
  go_wp2_with fail
  refine (HXY.out _).mono ?_
  rintro e w2 ⟨rfl, hw⟩
  obtain rfl : w1 = w2 := hw
  go_wp2_with fail
  refine (HYZ.out _).mono ?_
  rintro e w2 ⟨rfl, hw⟩
  obtain rfl : w1 = w2 := hw
  go_wp2_with fail
  refine (HYX.out _).mono ?_
  rintro e w2 ⟨rfl, hw⟩
  obtain rfl : w1 = w2 := hw
  go_wp2_with fail
  refine (HKX.out _).mono ?_
  rintro e w2 ⟨rfl, hw⟩
  obtain rfl : w1 = w2 := hw
  go_wp2_with fail
  refine (HKY.out _).mono ?_
  rintro e w2 ⟨rfl, hw⟩
  obtain rfl : w1 = w2 := hw
  go_wp2_with fail
  refine (HXZ.out _).mono ?_
  rintro e w2 ⟨rfl, hw⟩
  obtain rfl : w1 = w2 := hw
  go_wp2_with fail
  refine (HS.out _).mono ?_
  rintro e w2 ⟨rfl, hw⟩
  obtain rfl : w1 = w2 := hw
  go_wp2_with fail
  refine (HNY.out _).mono ?_
  rintro e w2 ⟨rfl, hw⟩
  obtain rfl : w1 = w2 := hw.symm
  go_wp2_with fail
  refine (HKX.out _).mono ?_
  rintro e w2 ⟨rfl, hw⟩
  obtain rfl : w1 = w2 := hw
  go_wp2_with fail
  refine (HUK.out _).mono ?_
  rintro e w2 ⟨rfl, hw⟩
  obtain rfl : w1 = w2 := hw
  go_wp2_with fail
  refine (HCX.out _).mono ?_
  rintro e w2 ⟨rfl, hw⟩
  obtain rfl : w1 = w2 := hw.symm
  go_wp2_with fail
  refine (fbits_any ca ca _).mono ?_
  rintro e w2 ⟨rfl, hw⟩
  obtain rfl : w1 = w2 := hw
  rw [decide_eq_true (rfl : ca = ca)]
  go_wp2_with fail
  go_ret
  exact ⟨rfl, H1.out⟩

set_option maxRecDepth 100000 in
set_option maxHeartbeats 4000000 in
theorem w_bf_tt (a b c : Nat) (w : World) (ha : a < 18446744073709551616) (hb : b < 18446744073709551616) (hc : c < 18446744073709551616) (hopt : Opt w) (hT : Tb w.heap.size w)
    (hn : cmpF a b = 0) (hk : keyF a = keyF b) (hm : ¬ cmpF b c ≤ 0) (g1 : (FloatKind.f64.format.order a b == some .lt) = false) (g2 : (FloatKind.f64.format.order a b == some .gt) = false) (ny : Flt.nan b = true) (nx : Flt.nan a = true) :
    Calls Tryz.prog 6 #[.int .u64 (a : Int), .int .u64 (b : Int), .int .u64 (c : Int)] w fun e w' => e = .returned (.bool true) ∧ Below w.heap.size w w' := by
  have HO := Lib.hid (And.intro hopt hT)
  have f1 : ∀ w : World, (callFunc 20 #[.int .u64 (a : Int)]).run Tryz.prog w = .ok (.value (.float .f64 a)) w := fun w => ext_from a w
  have f2 : ∀ w : World, (callFunc 20 #[.int .u64 (b : Int)]).run Tryz.prog w = .ok (.value (.float .f64 b)) w := fun w => ext_from b w
  have f3 : ∀ w : World, (callFunc 20 #[.int .u64 (c : Int)]).run Tryz.prog w = .ok (.value (.float .f64 c)) w := fun w => ext_from c w
  have HXY := Lib.hid (compare_any a b ha hb)
  have HYX := Lib.hid (compare_any b a hb ha)
  have HYZ := Lib.hid (compare_any b c hb hc)
  have HKX := Lib.hid (key_any a ha)
  have HKY := Lib.hid (key_any b hb)
  have HS := Lib.hid (same_any a b ha hb)
  have HNX := Lib.hid (isnan_any a)
  have HNY := Lib.hid (isnan_any b)
  have HCX := Lib.hid (canon_any a)
  have HUK := Lib.hid (unkey_any (keyF a) (key_lt ha))
  have huk := Re.unkey_key ha
  rw [huk.1, huk.2] at HUK
  have hfl := Re.cmp_flip a b
  rw [hn] at HXY
  rw [hfl, hn] at HYX
  rw [show -(0 : Int) = 0 from rfl] at HYX
  have m1 : decide (cmpF b c ≤ 0) = false := decide_eq_false hm
  have k1 : decide (keyF a < keyF b) = false := by rw [decide_eq_false_iff_not]; omega
  have k1' : decide ((keyF a : Int) < (keyF b : Int)) = false := by rw [decide_eq_false_iff_not]; omega
  have k2 : decide (keyF a = keyF b) = true := by rw [decide_eq_true_eq]; omega
  rw [k2] at HS
  rw [ny] at HNY
  rw [nx] at HNX
  clear hopt hT ha hb hc hn hk huk hfl k2 hm ny nx
  generalize cmpF b c = m at *
  generalize keyF a = kx at *
  generalize keyF b = ky at *
  generalize canW a = ca at *
  go_enter Tryz.func6, Tryz.ntmps6
  go_wp2_with fail
  refine (begun3 _ HO.out.1 HO.out.2).mono ?_
  rintro e w1 ⟨rfl, hb1⟩
  have H1 := Lib.hid hb1
  clear hb1
  go_wp2_with fail
  refine (HXY.out _).mono ?_
  rintro e w2 ⟨rfl, hw⟩
  obtain rfl : w1 = w2 := hw
  go_wp2_with fail
  refine (HYZ.out _).mono ?_
  rintro e w2 ⟨rfl, hw⟩
  obtain rfl : w1 = w2 := hw
  go_wp2_with fail
  refine (HYX.out _).mono ?_
  rintro e w2 ⟨rfl, hw⟩
  obtain rfl : w1 = w2 := hw
  go_wp2_with fail
  refine (HKX.out _).mono ?_
  rintro e w2 ⟨rfl, hw⟩
  obtain rfl : w1 = w2 := hw
  go_wp2_with fail
  refine (HKY.out _).mono ?_
  rintro e w2 ⟨rfl, hw⟩
  obtain rfl : w1 = w2 := hw
  go_wp2_with fail
  refine (HS.out _).mono ?_
  rintro e w2 ⟨rfl, hw⟩
  obtain rfl : w1 = w2 := hw
  go_wp2_with fail
  refine (HNY.out _).mono ?_
  rintro e w2 ⟨rfl, hw⟩
  obtain rfl : w1 = w2 := hw.symm
  go_wp2_with fail
  refine (HNX.out _).mono ?_
  rintro e w2 ⟨rfl, hw⟩
  obtain rfl : w1 = w2 := hw.symm
  go_wp2_with fail
  refine (HKX.out _).mono ?_
  rintro e w2 ⟨rfl, hw⟩
  obtain rfl : w1 = w2 := hw
  go_wp2_with fail
  refine (HUK.out _).mono ?_
  rintro e w2 ⟨rfl, hw⟩
  obtain rfl : w1 = w2 := hw
  go_wp2_with fail
  refine (HCX.out _).mono ?_
  rintro e w2 ⟨rfl, hw⟩
  obtain rfl : w1 = w2 := hw.symm
  go_wp2_with fail
  refine (fbits_any ca ca _).mono ?_
  rintro e w2 ⟨rfl, hw⟩
  obtain rfl : w1 = w2 := hw
  rw [decide_eq_true (rfl : ca = ca)]
  go_wp2_with fail
  go_ret
  exact ⟨rfl, H1.out⟩

set_option maxRecDepth 100000 in
set_option maxHeartbeats 4000000 in
theorem w_bf_ff (a b c : Nat) (w : World) (ha : a < 18446744073709551616) (hb : b < 18446744073709551616) (hc : c < 18446744073709551616) (hopt : Opt w) (hT : Tb w.heap.size w)
    (hn : cmpF a b = 0) (hk : keyF a = keyF b) (hm : ¬ cmpF b c ≤ 0) (g1 : (FloatKind.f64.format.order a b == some .lt) = false) (g2 : (FloatKind.f64.format.order a b == some .gt) = false) (ny : Flt.nan b = false) :
    Calls Tryz.prog 6 #[.int .u64 (a : Int), .int .u64 (b : Int), .int .u64 (c : Int)] w fun e w' => e = .returned (.bool true) ∧ Below w.heap.size w w' := by
  have HO := Lib.hid (And.intro hopt hT)
  have f1 : ∀ w : World, (callFunc 20 #[.int .u64 (a : Int)]).run Tryz.prog w = .ok (.value (.float .f64 a)) w := fun w => ext_from a w
  have f2 : ∀ w : World, (callFunc 20 #[.int .u64 (b : Int)]).run Tryz.prog w = .ok (.value (.float .f64 b)) w := fun w => ext_from b w
  have f3 : ∀ w : World, (callFunc 20 #[.int .u64 (c : Int)]).run Tryz.prog w = .ok (.value (.float .f64 c)) w := fun w => ext_from c w
  have HXY := Lib.hid (compare_any a b ha hb)
  have HYX := Lib.hid (compare_any b a hb ha)
  have HYZ := Lib.hid (compare_any b c hb hc)
  have HKX := Lib.hid (key_any a ha)
  have HKY := Lib.hid (key_any b hb)
  have HS := Lib.hid (same_any a b ha hb)
  have HNX := Lib.hid (isnan_any a)
  have HNY := Lib.hid (isnan_any b)
  have HCX := Lib.hid (canon_any a)
  have HUK := Lib.hid (unkey_any (keyF a) (key_lt ha))
  have huk := Re.unkey_key ha
  rw [huk.1, huk.2] at HUK
  have hfl := Re.cmp_flip a b
  rw [hn] at HXY
  rw [hfl, hn] at HYX
  rw [show -(0 : Int) = 0 from rfl] at HYX
  have m1 : decide (cmpF b c ≤ 0) = false := decide_eq_false hm
  have k1 : decide (keyF a < keyF b) = false := by rw [decide_eq_false_iff_not]; omega
  have k1' : decide ((keyF a : Int) < (keyF b : Int)) = false := by rw [decide_eq_false_iff_not]; omega
  have k2 : decide (keyF a = keyF b) = true := by rw [decide_eq_true_eq]; omega
  rw [k2] at HS
  rw [ny] at HNY
  clear hopt hT ha hb hc hn hk huk hfl k2 hm ny
  generalize cmpF b c = m at *
  generalize keyF a = kx at *
  generalize keyF b = ky at *
  generalize canW a = ca at *
  generalize Flt.nan a = nx at *
  go_enter Tryz.func6, Tryz.ntmps6
  go_wp2_with fail
  refine (begun3 _ HO.out.1 HO.out.2).mono ?_
  rintro e w1 ⟨rfl, hb1⟩
  have H1 := Lib.hid hb1
  clear hb1
  go_wp2_with fail
  refine (HXY.out _).mono ?_
  rintro e w2 ⟨rfl, hw⟩
  obtain rfl : w1 = w2 := hw
  go_wp2_with fail
  refine (HYZ.out _).mono ?_
  rintro e w2 ⟨rfl, hw⟩
  obtain rfl : w1 = w2 := hw
  go_wp2_with fail
  refine (HYX.out _).mono ?_
  rintro e w2 ⟨rfl, hw⟩
  obtain rfl : w1 = w2 := hw
  go_wp2_with fail
  refine (HKX.out _).mono ?_
  rintro e w2 ⟨rfl, hw⟩
  obtain rfl : w1 = w2 := hw
  go_wp2_with fail
  refine (HKY.out _).mono ?_
  rintro e w2 ⟨rfl, hw⟩
  obtain rfl : w1 = w2 := hw
  go_wp2_with fail
  refine (HS.out _).mono ?_
  rintro e w2 ⟨rfl, hw⟩
  obtain rfl : w1 = w2 := hw
  go_wp2_with fail
  refine (HNY.out _).mono ?_
  rintro e w2 ⟨rfl, hw⟩
  obtain rfl : w1 = w2 := hw.symm
  go_wp2_with fail
  refine (HKX.out _).mono ?_
  rintro e w2 ⟨rfl, hw⟩
  obtain rfl : w1 = w2 := hw
  go_wp2_with fail
  refine (HUK.out _).mono ?_
  rintro e w2 ⟨rfl, hw⟩
  obtain rfl : w1 = w2 := hw
  go_wp2_with fail
  refine (HCX.out _).mono ?_
  rintro e w2 ⟨rfl, hw⟩
  obtain rfl : w1 = w2 := hw.symm
  go_wp2_with fail
  refine (fbits_any ca ca _).mono ?_
  rintro e w2 ⟨rfl, hw⟩
  obtain rfl : w1 = w2 := hw
  rw [decide_eq_true (rfl : ca = ca)]
  go_wp2_with fail
  go_ret
  exact ⟨rfl, H1.out⟩

set_option maxRecDepth 100000 in
set_option maxHeartbeats 4000000 in
theorem w_cn_gt (a b c : Nat) (w : World) (ha : a < 18446744073709551616) (hb : b < 18446744073709551616) (hc : c < 18446744073709551616) (hopt : Opt w) (hT : Tb w.heap.size w)
    (hn : cmpF a b = 1) (hk : keyF b < keyF a) (g1 : (FloatKind.f64.format.order a b == some .lt) = false) (g2 : (FloatKind.f64.format.order a b == some .gt) = true) (ny : Flt.nan b = false) :
    Calls Tryz.prog 6 #[.int .u64 (a : Int), .int .u64 (b : Int), .int .u64 (c : Int)] w fun e w' => e = .returned (.bool true) ∧ Below w.heap.size w w' := by
  have HO := Lib.hid (And.intro hopt hT)
  have f1 : ∀ w : World, (callFunc 20 #[.int .u64 (a : Int)]).run Tryz.prog w = .ok (.value (.float .f64 a)) w := fun w => ext_from a w
  have f2 : ∀ w : World, (callFunc 20 #[.int .u64 (b : Int)]).run Tryz.prog w = .ok (.value (.float .f64 b)) w := fun w => ext_from b w
  have f3 : ∀ w : World, (callFunc 20 #[.int .u64 (c : Int)]).run Tryz.prog w = .ok (.value (.float .f64 c)) w := fun w => ext_from c w
  have HXY := Lib.hid (compare_any a b ha hb)
  have HYX := Lib.hid (compare_any b a hb ha)
  have HYZ := Lib.hid (compare_any b c hb hc)
  have HKX := Lib.hid (key_any a ha)
  have HKY := Lib.hid (key_any b hb)
  have HS := Lib.hid (same_any a b ha hb)
  have HNX := Lib.hid (isnan_any a)
  have HNY := Lib.hid (isnan_any b)
  have HCX := Lib.hid (canon_any a)
  have HUK := Lib.hid (unkey_any (keyF a) (key_lt ha))
  have huk := Re.unkey_key ha
  rw [huk.1, huk.2] at HUK
  have hfl := Re.cmp_flip a b
  rw [hn] at HXY
  rw [hfl, hn] at HYX
  rw [show -(1 : Int) = -1 from rfl] at HYX
  have k1 : decide (keyF a < keyF b) = false := by rw [decide_eq_false_iff_not]; omega
  have k1' : decide ((keyF a : Int) < (keyF b : Int)) = false := by rw [decide_eq_false_iff_not]; omega
  have k2 : decide (keyF a = keyF b) = false := by rw [decide_eq_false_iff_not]; omega
  rw [k2] at HS
  rw [ny] at HNY
  clear hopt hT ha hb hc hn hk huk hfl k2 ny
  generalize cmpF b c = m at *
  generalize keyF a = kx at *
  generalize keyF b = ky at *
  generalize canW a = ca at *
  generalize Flt.nan a = nx at *
  go_enter Tryz.func6, Tryz.ntmps6
  go_wp2_with fail
  refine (begun3 _ HO.out.1 HO.out.2).mono ?_
  rintro e w1 ⟨rfl, hb1⟩
  have H1 := Lib.hid hb1
  clear hb1
  go_wp2_with fail
  refine (HXY.out _).mono ?_
  rintro e w2 ⟨rfl, hw⟩
  obtain rfl : w1 = w2 := hw
  go_wp2_with fail
  refine (HYZ.out _).mono ?_
  rintro e w2 ⟨rfl, hw⟩
  obtain rfl : w1 = w2 := hw
  go_wp2_with fail
  refine (HYX.out _).mono ?_
  rintro e w2 ⟨rfl, hw⟩
  obtain rfl : w1 = w2 := hw
  go_wp2_with fail
  refine (HKX.out _).mono ?_
  rintro e w2 ⟨rfl, hw⟩
  obtain rfl : w1 = w2 := hw
  go_wp2_with fail
  refine (HKY.out _).mono ?_
  rintro e w2 ⟨rfl, hw⟩
  obtain rfl : w1 = w2 := hw
  go_wp2_with fail
  refine (HS.out _).mono ?_
  rintro e w2 ⟨rfl, hw⟩
  obtain rfl : w1 = w2 := hw
  go_wp2_with fail
  refine (HNY.out _).mono ?_
  rintro e w2 ⟨rfl, hw⟩
  obtain rfl : w1 = w2 := hw.symm
  go_wp2_with fail
  refine (HKX.out _).mono ?_
  rintro e w2 ⟨rfl, hw⟩
  obtain rfl : w1 = w2 := hw
  go_wp2_with fail
  refine (HUK.out _).mono ?_
  rintro e w2 ⟨rfl, hw⟩
  obtain rfl : w1 = w2 := hw
  go_wp2_with fail
  refine (HCX.out _).mono ?_
  rintro e w2 ⟨rfl, hw⟩
  obtain rfl : w1 = w2 := hw.symm
  go_wp2_with fail
  refine (fbits_any ca ca _).mono ?_
  rintro e w2 ⟨rfl, hw⟩
  obtain rfl : w1 = w2 := hw
  rw [decide_eq_true (rfl : ca = ca)]
  go_wp2_with fail
  go_ret
  exact ⟨rfl, H1.out⟩

set_option maxRecDepth 100000 in
set_option maxHeartbeats 4000000 in
theorem w_cn_ff (a b c : Nat) (w : World) (ha : a < 18446744073709551616) (hb : b < 18446744073709551616) (hc : c < 18446744073709551616) (hopt : Opt w) (hT : Tb w.heap.size w)
    (hn : cmpF a b = 1) (hk : keyF b < keyF a) (g1 : (FloatKind.f64.format.order a b == some .lt) = false) (g2 : (FloatKind.f64.format.order a b == some .gt) = false) (ny : Flt.nan b = false) :
    Calls Tryz.prog 6 #[.int .u64 (a : Int), .int .u64 (b : Int), .int .u64 (c : Int)] w fun e w' => e = .returned (.bool true) ∧ Below w.heap.size w w' := by
  have HO := Lib.hid (And.intro hopt hT)
  have f1 : ∀ w : World, (callFunc 20 #[.int .u64 (a : Int)]).run Tryz.prog w = .ok (.value (.float .f64 a)) w := fun w => ext_from a w
  have f2 : ∀ w : World, (callFunc 20 #[.int .u64 (b : Int)]).run Tryz.prog w = .ok (.value (.float .f64 b)) w := fun w => ext_from b w
  have f3 : ∀ w : World, (callFunc 20 #[.int .u64 (c : Int)]).run Tryz.prog w = .ok (.value (.float .f64 c)) w := fun w => ext_from c w
  have HXY := Lib.hid (compare_any a b ha hb)
  have HYX := Lib.hid (compare_any b a hb ha)
  have HYZ := Lib.hid (compare_any b c hb hc)
  have HKX := Lib.hid (key_any a ha)
  have HKY := Lib.hid (key_any b hb)
  have HS := Lib.hid (same_any a b ha hb)
  have HNX := Lib.hid (isnan_any a)
  have HNY := Lib.hid (isnan_any b)
  have HCX := Lib.hid (canon_any a)
  have HUK := Lib.hid (unkey_any (keyF a) (key_lt ha))
  have huk := Re.unkey_key ha
  rw [huk.1, huk.2] at HUK
  have hfl := Re.cmp_flip a b
  rw [hn] at HXY
  rw [hfl, hn] at HYX
  rw [show -(1 : Int) = -1 from rfl] at HYX
  have k1 : decide (keyF a < keyF b) = false := by rw [decide_eq_false_iff_not]; omega
  have k1' : decide ((keyF a : Int) < (keyF b : Int)) = false := by rw [decide_eq_false_iff_not]; omega
  have k2 : decide (keyF a = keyF b) = false := by rw [decide_eq_false_iff_not]; omega
  rw [k2] at HS
  rw [ny] at HNY
  clear hopt hT ha hb hc hn hk huk hfl k2 ny
  generalize cmpF b c = m at *
  generalize keyF a = kx at *
  generalize keyF b = ky at *
  generalize canW a = ca at *
  generalize Flt.nan a = nx at *
  go_enter Tryz.func6, Tryz.ntmps6
  go_wp2_with fail
  refine (begun3 _ HO.out.1 HO.out.2).mono ?_
  rintro e w1 ⟨rfl, hb1⟩
  have H1 := Lib.hid hb1
  clear hb1
  go_wp2_with fail
  refine (HXY.out _).mono ?_
  rintro e w2 ⟨rfl, hw⟩
  obtain rfl : w1 = w2 := hw
  go_wp2_with fail
  refine (HYZ.out _).mono ?_
  rintro e w2 ⟨rfl, hw⟩
  obtain rfl : w1 = w2 := hw
  go_wp2_with fail
  refine (HYX.out _).mono ?_
  rintro e w2 ⟨rfl, hw⟩
  obtain rfl : w1 = w2 := hw
  go_wp2_with fail
  refine (HKX.out _).mono ?_
  rintro e w2 ⟨rfl, hw⟩
  obtain rfl : w1 = w2 := hw
  go_wp2_with fail
  refine (HKY.out _).mono ?_
  rintro e w2 ⟨rfl, hw⟩
  obtain rfl : w1 = w2 := hw
  go_wp2_with fail
  refine (HS.out _).mono ?_
  rintro e w2 ⟨rfl, hw⟩
  obtain rfl : w1 = w2 := hw
  go_wp2_with fail
  refine (HNY.out _).mono ?_
  rintro e w2 ⟨rfl, hw⟩
  obtain rfl : w1 = w2 := hw.symm
  go_wp2_with fail
  refine (HKX.out _).mono ?_
  rintro e w2 ⟨rfl, hw⟩
  obtain rfl : w1 = w2 := hw
  go_wp2_with fail
  refine (HUK.out _).mono ?_
  rintro e w2 ⟨rfl, hw⟩
  obtain rfl : w1 = w2 := hw
  go_wp2_with fail
  refine (HCX.out _).mono ?_
  rintro e w2 ⟨rfl, hw⟩
  obtain rfl : w1 = w2 := hw.symm
  go_wp2_with fail
  refine (fbits_any ca ca _).mono ?_
  rintro e w2 ⟨rfl, hw⟩
  obtain rfl : w1 = w2 := hw
  rw [decide_eq_true (rfl : ca = ca)]
  go_wp2_with fail
  go_ret
  exact ⟨rfl, H1.out⟩

theorem walk (a b c : Nat) (w : World) (ha : a < 18446744073709551616) (hb : b < 18446744073709551616) (hc : c < 18446744073709551616) (hopt : Opt w) (hT : Tb w.heap.size w) :
    Calls Tryz.prog 6 #[.int .u64 (a : Int), .int .u64 (b : Int), .int .u64 (c : Int)] w fun e w' => e = .returned (.bool true) ∧ Below w.heap.size w w' := by
  obtain ⟨o1, o2, o3⟩ := Re.order_cases ha hb
  rcases Re.cmp_cases a b with ⟨hn, hk⟩ | ⟨hn, hk⟩ | ⟨hn, hk⟩
  · obtain ⟨g2, nx⟩ := o1 hn
    by_cases hm : cmpF b c ≤ 0
    · cases ny : Flt.nan b
      · cases g1 : (FloatKind.f64.format.order a b == some .lt)
        · exact w_at_nn a b c w ha hb hc hopt hT hn hk hm g1 g2 ny
        · exact w_at_ly a b c w ha hb hc hopt hT hn hk hm g1 g2 ny
      · exact w_at_yn a b c w ha hb hc hopt hT hn hk hm (by rw [Flt.order_nan (.inr ny)]; rfl) g2 ny nx
    · cases ny : Flt.nan b
      · cases g1 : (FloatKind.f64.format.order a b == some .lt)
        · exact w_af_nn a b c w ha hb hc hopt hT hn hk hm g1 g2 ny
        · exact w_af_ly a b c w ha hb hc hopt hT hn hk hm g1 g2 ny
      · exact w_af_yn a b c w ha hb hc hopt hT hn hk hm (by rw [Flt.order_nan (.inr ny)]; rfl) g2 ny nx
  · obtain ⟨g1, g2, hnn⟩ := o2 hn
    by_cases hm : cmpF b c ≤ 0
    · cases ny : Flt.nan b
      · exact w_bt_ff a b c w ha hb hc hopt hT hn hk hm g1 g2 ny
      · exact w_bt_tt a b c w ha hb hc hopt hT hn hk hm g1 g2 ny (hnn.trans ny)
    · cases ny : Flt.nan b
      · exact w_bf_ff a b c w ha hb hc hopt hT hn hk hm g1 g2 ny
      · exact w_bf_tt a b c w ha hb hc hopt hT hn hk hm g1 g2 ny (hnn.trans ny)
  · obtain ⟨g1, ny⟩ := o3 hn
    cases g2 : (FloatKind.f64.format.order a b == some .gt)
    · exact w_cn_ff a b c w ha hb hc hopt hT hn hk g1 g2 ny
    · exact w_cn_gt a b c w ha hb hc hopt hT hn hk g1 g2 ny
end Go.Proofs.YtipkiiblghnoiaaGreatDoor.realOrder
