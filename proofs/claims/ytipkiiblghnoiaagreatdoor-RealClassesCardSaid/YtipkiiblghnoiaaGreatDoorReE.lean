/- RealClasses' walk. By an AI agent. -/
import Derived.Test.YtipkiiblghnoiaaGreatDoorReH
import Derived.Test.YtipkiiblghnoiaaGreatDoorSumL
namespace Go.Proofs.YtipkiiblghnoiaaGreatDoor.realClasses
open Go.ChangeShapes Go.WideShapes Go.ChangeAt Go.RowKit
open Bt
set_option linter.unusedVariables false

theorem neg_flip {x : Nat} (h : x < 18446744073709551616) : Op.negFloat .f64 x = Re.flip x := by
  by_cases h1 : x < 9223372036854775808
  · rw [Sm.neg_bits h1]; unfold Re.flip; rw [if_pos h1]
  · have h0 : Op.negFloat .f64 x = x ^^^ 2 ^ 63 := rfl
    have h2 := Sm.neg_bits (x := x - 9223372036854775808) (by omega)
    have h3 : Op.negFloat .f64 (x - 9223372036854775808) = (x - 9223372036854775808) ^^^ 2 ^ 63 := rfl
    rw [h3] at h2
    have h4 : x = (x - 9223372036854775808) ^^^ 2 ^ 63 := by rw [h2]; omega
    rw [h0, h4, Nat.xor_assoc, Nat.xor_self, Nat.xor_zero, ← h4]
    unfold Re.flip
    rw [if_neg h1]
theorem flip_lt {x : Nat} (h : x < 18446744073709551616) : Re.flip x < 18446744073709551616 := by unfold Re.flip; split <;> omega

set_option maxRecDepth 100000 in
set_option maxHeartbeats 2000000 in
theorem walk_nan (a b : Nat) (w : World) (ha : a < 18446744073709551616) (hb : b < 18446744073709551616) (hopt : Opt w) (hT : Tb w.heap.size w) (hn : Flt.nan a = true) :
    Calls Tryz.prog 5 #[.int .u64 (a : Int), .int .u64 (b : Int)] w fun e w' => e = .returned (.bool true) ∧ Below w.heap.size w w' := by
  have HO := Lib.hid (And.intro hopt hT)
  have f1 : ∀ w : World, (callFunc 20 #[.int .u64 (a : Int)]).run Tryz.prog w = .ok (.value (.float .f64 a)) w := fun w => ext_from a w
  have f2 : ∀ w : World, (callFunc 20 #[.int .u64 (b : Int)]).run Tryz.prog w = .ok (.value (.float .f64 b)) w := fun w => ext_from b w
  have f3 : ∀ w : World, (callFunc 20 #[.int .u64 9221120237041090561]).run Tryz.prog w = .ok (.value (.float .f64 9221120237041090561)) w := fun w => ext_from 9221120237041090561 w
  have HCa := Lib.hid (Sm.class_any a ha)
  have HCb := Lib.hid (Sm.class_any b hb)
  have HN := Lib.hid (isnan_any a)
  have HK := Lib.hid (canon_any a)
  have hk : canW a = 9221120237041090561 := by unfold canW; rw [if_pos hn]
  rw [Re.class_nan hn] at HCa
  rw [hn] at HN
  rw [hk] at HK
  clear hopt hT ha hb hn hk
  generalize Sm.classF b = cb at *
  go_enter Tryz.func5, Tryz.ntmps5
  go_wp2_with fail
  refine (begun3 _ HO.out.1 HO.out.2).mono ?_
  rintro e w1 ⟨rfl, hb1⟩
  have H1 := Lib.hid hb1
  clear hb1
  go_wp2_with fail
  refine (HCa.out _).mono ?_
  rintro e w2 ⟨rfl, hw⟩
  obtain rfl : w1 = w2 := hw.symm
  go_wp2_with fail
  refine (HCb.out _).mono ?_
  rintro e w2 ⟨rfl, hw⟩
  obtain rfl : w1 = w2 := hw.symm
  go_wp2_with fail
  refine (HN.out _).mono ?_
  rintro e w2 ⟨rfl, hw⟩
  obtain rfl : w1 = w2 := hw.symm
  go_wp2_with fail
  refine (HK.out _).mono ?_
  rintro e w2 ⟨rfl, hw⟩
  obtain rfl : w1 = w2 := hw.symm
  go_wp2_with fail
  refine (fbits_any 9221120237041090561 9221120237041090561 _).mono ?_
  rintro e w2 ⟨rfl, hw⟩
  obtain rfl : w1 = w2 := hw
  go_wp2_with fail
  go_ret
  exact ⟨ret_b (by decide +kernel), H1.out⟩

set_option maxRecDepth 100000 in
set_option maxHeartbeats 4000000 in
theorem walk_num (a b : Nat) (w : World) (ha : a < 18446744073709551616) (hb : b < 18446744073709551616) (hopt : Opt w) (hT : Tb w.heap.size w) (hn : Flt.nan a = false) :
    Calls Tryz.prog 5 #[.int .u64 (a : Int), .int .u64 (b : Int)] w fun e w' => e = .returned (.bool true) ∧ Below w.heap.size w w' := by
  have HO := Lib.hid (And.intro hopt hT)
  have f1 : ∀ w : World, (callFunc 20 #[.int .u64 (a : Int)]).run Tryz.prog w = .ok (.value (.float .f64 a)) w := fun w => ext_from a w
  have f2 : ∀ w : World, (callFunc 20 #[.int .u64 (b : Int)]).run Tryz.prog w = .ok (.value (.float .f64 b)) w := fun w => ext_from b w
  have hng : ∀ w : World, (Op.unary UnOp.neg (.float .f64 a)).run Tryz.prog w = .ok (.float .f64 (Re.flip a)) w := fun w => by rw [Sm.run_neg, neg_flip ha]
  have HCa := Lib.hid (Sm.class_any a ha)
  have HCb := Lib.hid (Sm.class_any b hb)
  have HCf := Lib.hid (Sm.class_any (Re.flip a) (flip_lt ha))
  have HN := Lib.hid (isnan_any a)
  have HNb := Lib.hid (isnan_any b)
  have HK := Lib.hid (canon_any a)
  have HCC := Lib.hid (compare_any a b ha hb)
  have hk : canW a = a := by unfold canW; rw [hn]; rfl
  have hr := Re.class_range hn
  have hle := fun hnb => Re.class_le ha hb hn hnb
  rw [Re.class_flip ha hn] at HCf
  rw [hn] at HN
  rw [hk] at HK
  have r1 : decide (Sm.classF a < 2) = false := by rw [decide_eq_false_iff_not]; omega
  have r2 : decide (Sm.classF a > 9) = false := by rw [decide_eq_false_iff_not]; omega
  have r2' : decide (9 < Sm.classF a) = false := by rw [decide_eq_false_iff_not]; omega
  obtain ⟨cc, hcc⟩ : ∃ cc, cc = 11 - Sm.classF a := ⟨_, rfl⟩
  have r4 : wrap64 (11 - Sm.classF a) = cc := by rw [hcc]; unfold wrap64; omega
  rw [← hcc] at HCf
  clear hcc
  have hcr := cmp_range a b
  clear hopt hT ha hn hk hr
  have HLE := Lib.hid hle
  clear hle
  have HB := Lib.hid hb
  clear hb
  generalize Sm.classF b = cb at *
  generalize Sm.classF a = ca at *
  generalize Re.flip a = fa at *
  generalize cmpF a b = cm at *
  go_enter Tryz.func5, Tryz.ntmps5
  go_wp2_with fail
  refine (begun3 _ HO.out.1 HO.out.2).mono ?_
  rintro e w1 ⟨rfl, hb1⟩
  have H1 := Lib.hid hb1
  clear hb1
  go_wp2_with fail
  refine (HCa.out _).mono ?_
  rintro e w2 ⟨rfl, hw⟩
  obtain rfl : w1 = w2 := hw.symm
  go_wp2_with fail
  refine (HCb.out _).mono ?_
  rintro e w2 ⟨rfl, hw⟩
  obtain rfl : w1 = w2 := hw.symm
  go_wp2_with fail
  refine (HN.out _).mono ?_
  rintro e w2 ⟨rfl, hw⟩
  obtain rfl : w1 = w2 := hw.symm
  go_wp2_with fail
  refine (HCf.out _).mono ?_
  rintro e w2 ⟨rfl, hw⟩
  obtain rfl : w1 = w2 := hw.symm
  go_wp2_with fail
  refine (HK.out _).mono ?_
  rintro e w2 ⟨rfl, hw⟩
  obtain rfl : w1 = w2 := hw.symm
  go_wp2_with fail
  refine (fbits_any a a _).mono ?_
  rintro e w2 ⟨rfl, hw⟩
  obtain rfl : w1 = w2 := hw
  rw [decide_eq_true (rfl : a = a)]
  go_wp2_with fail
  refine (HNb.out _).mono ?_
  rintro e w2 ⟨rfl, hw⟩
  obtain rfl : w1 = w2 := hw.symm
  cases hnb : Flt.nan b
  · have hle := fun h => HLE.out hnb h
    go_wp2_with fail
    refine (HCC.out _).mono ?_
    rintro e w2 ⟨rfl, hw⟩
    obtain rfl : w1 = w2 := hw
    by_cases hc : 0 < cm
    · have g1 : decide (cm > 0) = true := decide_eq_true hc
      have g2 : decide (0 < cm) = true := decide_eq_true hc
      clear hle
      go_wp2_with fail
      go_ret
      exact ⟨rfl, H1.out⟩
    · have g1 : decide (cm > 0) = false := decide_eq_false hc
      have g2 : decide (0 < cm) = false := decide_eq_false hc
      have g3 : decide (ca ≤ cb) = true := decide_eq_true (hle (by omega))
      clear hle
      go_wp2_with fail
      go_ret
      exact ⟨ret_b rfl, H1.out⟩
  · go_wp2_with fail
    go_ret
    exact ⟨rfl, H1.out⟩

theorem walk (a b : Nat) (w : World) (ha : a < 18446744073709551616) (hb : b < 18446744073709551616) (hopt : Opt w) (hT : Tb w.heap.size w) :
    Calls Tryz.prog 5 #[.int .u64 (a : Int), .int .u64 (b : Int)] w fun e w' => e = .returned (.bool true) ∧ Below w.heap.size w w' := by
  cases hn : Flt.nan a
  · exact walk_num a b w ha hb hopt hT hn
  · exact walk_nan a b w ha hb hopt hT hn
end Go.Proofs.YtipkiiblghnoiaaGreatDoor.realClasses
