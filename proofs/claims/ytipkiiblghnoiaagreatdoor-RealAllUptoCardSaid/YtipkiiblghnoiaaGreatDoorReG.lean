/- The reference's small functions on floats. By an AI agent. -/
import Derived.Test.YtipkiiblghnoiaaGreatDoorReF
namespace Go.Proofs.YtipkiiblghnoiaaGreatDoor
open Go.ChangeShapes Go.WideShapes Go.ChangeAt Go.RowKit
open Bt
set_option linter.unusedVariables false

theorem canon3_any (a : Nat) (w : World) : Calls Tryz.prog 29 #[.float .f64 a] w fun e w' => e = .returned (.float .f64 (canW a)) ∧ w = w' := by
  have HN := Lib.hid (nan3_any a)
  have f1 : ∀ w : World, (callFunc 20 #[.int .u64 9221120237041090561]).run Tryz.prog w = .ok (.value (.float .f64 9221120237041090561)) w := fun w => ext_from 9221120237041090561 w
  unfold canW
  cases hn : Flt.nan a
  · rw [hn] at HN
    go_enter Tryz.func29, Tryz.ntmps29
    go_wp2_with fail
    refine (HN.out _).mono ?_
    rintro e w1 ⟨rfl, rfl⟩
    go_wp2_with fail
    go_ret
    exact ⟨rfl, rfl⟩
  · rw [hn] at HN
    go_enter Tryz.func29, Tryz.ntmps29
    go_wp2_with fail
    refine (HN.out _).mono ?_
    rintro e w1 ⟨rfl, rfl⟩
    go_wp2_with fail
    go_ret
    exact ⟨rfl, rfl⟩

theorem same3_any (a b : Nat) (ha : a < 2 ^ 64) (hb : b < 2 ^ 64) (w : World) :
    Calls Tryz.prog 36 #[.float .f64 a, .float .f64 b] w fun e w' => e = .returned (.bool (decide (keyF a = keyF b))) ∧ w = w' := by
  have HA := Lib.hid (key3_any a ha)
  have HB := Lib.hid (key3_any b hb)
  clear ha hb
  generalize keyF a = x at *
  generalize keyF b = y at *
  go_enter Tryz.func36, Tryz.ntmps36
  go_wp2_with fail
  refine (HA.out _).mono ?_
  rintro e w1 ⟨rfl, rfl⟩
  go_wp2_with fail
  refine (HB.out _).mono ?_
  rintro e w1 ⟨rfl, rfl⟩
  go_wp2_with fail
  go_ret
  refine ⟨ret_b ?_, rfl⟩
  by_cases h : x = y <;> simp [h]
  try omega

set_option maxHeartbeats 2000000 in
theorem unkey3_any (k : Nat) (hk : k < 18446744073709551616) (w : World) :
    Calls Tryz.prog 27 #[.int .u64 (k : Int)] w fun e w' => e = .returned (.tuple #[.float .f64 (unkW k), .bool (unkB k)]) ∧ w = w' := by
  by_cases h1 : k = 18446744073709551615
  · have HU := Lib.hid (show unkW k = 9221120237041090561 ∧ unkB k = true by rw [h1]; exact unk_last)
    have d1 : ((k : Int) == 18446744073709551615) = true := by rw [beq_iff_eq]; omega
    have d1' : (k == 18446744073709551615) = true := by rw [beq_iff_eq]; omega
    have f1 : ∀ w : World, (callFunc 20 #[.int .u64 9221120237041090561]).run Tryz.prog w = .ok (.value (.float .f64 9221120237041090561)) w := fun w => ext_from 9221120237041090561 w
    clear h1 hk
    go_enter Tryz.func27, Tryz.ntmps27
    go_wp2_with fail
    go_ret2
    exact ⟨ret_fb HU.out.1.symm HU.out.2.symm, rfl⟩
  have d1 : ((k : Int) == 18446744073709551615) = false := by rw [beq_eq_false_iff_ne]; omega
  have d1' : (k == 18446744073709551615) = false := by rw [beq_eq_false_iff_ne]; omega
  by_cases h2 : 18442240474082181120 < k
  · have d2 : decide ((k : Int) > 18442240474082181120) = true := by rw [decide_eq_true_eq]; omega
    have d2' : decide (18442240474082181120 < k) = true := by rw [decide_eq_true_eq]; omega
    have HU := Lib.hid (unk_high h2 (by omega))
    clear h1 h2 hk
    go_enter Tryz.func27, Tryz.ntmps27
    go_wp2_with fail
    go_ret2
    exact ⟨ret_fb HU.out.1.symm HU.out.2.symm, rfl⟩
  have d2 : decide ((k : Int) > 18442240474082181120) = false := by rw [decide_eq_false_iff_not]; omega
  have d2' : decide (18442240474082181120 < k) = false := by rw [decide_eq_false_iff_not]; omega
  by_cases h3 : k < 4503599627370495
  · have d3 : decide ((k : Int) < 4503599627370495) = true := by rw [decide_eq_true_eq]; omega
    have d3' : decide (k < 4503599627370495) = true := by rw [decide_eq_true_eq]; omega
    have HU := Lib.hid (unk_low h3)
    clear h1 h2 h3 hk
    go_enter Tryz.func27, Tryz.ntmps27
    go_wp2_with fail
    go_ret2
    exact ⟨ret_fb HU.out.1.symm HU.out.2.symm, rfl⟩
  have d3 : decide ((k : Int) < 4503599627370495) = false := by rw [decide_eq_false_iff_not]; omega
  have d3' : decide (k < 4503599627370495) = false := by rw [decide_eq_false_iff_not]; omega
  by_cases h4 : 9223372036854775808 ≤ k
  · have d4 : decide ((k : Int) ≥ 9223372036854775808) = true := by rw [decide_eq_true_eq]; omega
    have d4' : decide (9223372036854775808 ≤ k) = true := by rw [decide_eq_true_eq]; omega
    obtain ⟨m, -, -, hmk, -, hlo, -⟩ := unk_up h4 hk
    have HU := Lib.hid (hlo (Nat.le_of_not_lt h2)).2
    have hs : IntKind.u64.wrap ((k : Int) - 9223372036854775808) = (m : Int) := by rw [IntKind.wrap_u64]; omega
    clear h1 h2 h3 hk h4 hlo hmk
    have f1 : ∀ w : World, (callFunc 20 #[.int .u64 (m : Int)]).run Tryz.prog w = .ok (.value (.float .f64 m)) w := fun w => ext_from m w
    go_enter Tryz.func27, Tryz.ntmps27
    go_wp2_with fail
    go_ret2
    exact ⟨ret_fb HU.out.1.symm HU.out.2.symm, rfl⟩
  · have d4 : decide ((k : Int) ≥ 9223372036854775808) = false := by rw [decide_eq_false_iff_not]; omega
    have d4' : decide (9223372036854775808 ≤ k) = false := by rw [decide_eq_false_iff_not]; omega
    have HU := Lib.hid (unk_neg (Nat.le_of_not_lt h3) (Nat.lt_of_not_le h4))
    have hs : bits BinOp.xor IntKind.u64 (if IntKind.u64.signed = true then -1 else IntKind.u64.max) (k : Int) = ((18446744073709551615 - k : Nat) : Int) := xor_max k hk
    clear h1 h2 h3 hk h4
    generalize 18446744073709551615 - k = m at *
    have f1 : ∀ w : World, (callFunc 20 #[.int .u64 (m : Int)]).run Tryz.prog w = .ok (.value (.float .f64 m)) w := fun w => ext_from m w
    go_enter Tryz.func27, Tryz.ntmps27
    go_wp2_with fail
    go_ret2
    exact ⟨ret_fb HU.out.1.symm HU.out.2.symm, rfl⟩

set_option maxRecDepth 100000 in
theorem unk_not_nan {k : Nat} (h : k < 18446744073709551615) (hB : unkB k = true) : Flt.nan (unkW k) = false := by
  have h2 : 4503599627370495 ≤ k ∧ k ≤ 18442240474082181120 := by
    unfold unkB at hB
    rw [decide_eq_true_eq] at hB
    omega
  cases hc : Flt.nan (unkW k)
  · rfl
  · rw [Re.nan_iff] at hc
    by_cases h4 : 9223372036854775808 ≤ k
    · rw [(unk_pos h4 h2.2).1] at hc
      omega
    · rw [(unk_neg h2.1 (Nat.lt_of_not_le h4)).1] at hc
      omega

set_option maxHeartbeats 2000000 in
theorem next3_any (u : Nat) (hu : u < 18446744073709551616) (w : World) :
    Calls Tryz.prog 32 #[.float .f64 u] w fun e w' => e = .returned (.float .f64 (nextF u)) ∧ w = w' := by
  have f1 : ∀ w : World, (callFunc 20 #[.int .u64 9221120237041090561]).run Tryz.prog w = .ok (.value (.float .f64 9221120237041090561)) w := fun w => ext_from 9221120237041090561 w
  unfold nextF
  have HN := Lib.hid (nan3_any u)
  have HK := Lib.hid (key3_any u hu)
  cases hn : Flt.nan u
  · have hr := key_room hu hn
    have HU := Lib.hid (unkey3_any (keyF u + 1) (by omega))
    have HNN := Lib.hid (unk_not_nan (k := keyF u + 1) (by omega))
    have hadd : IntKind.u64.wrap ((keyF u : Int) + 1) = ((keyF u + 1 : Nat) : Int) := by rw [IntKind.wrap_u64]; omega
    rw [hn] at HN
    clear hn hu hr
    simp only [Bool.false_eq_true, if_false]
    generalize hk1 : keyF u + 1 = k1 at *
    clear hk1
    generalize keyF u = k at *
    cases hB : unkB k1
    · rw [hB] at HU
      clear hB HNN
      generalize unkW k1 = uw at *
      simp only [Bool.false_eq_true, if_false]
      go_enter Tryz.func32, Tryz.ntmps32
      go_wp2_with fail
      refine (HK.out _).mono ?_
      rintro e w1 ⟨rfl, rfl⟩
      go_wp2_with fail
      refine (HU.out _).mono ?_
      rintro e w1 ⟨rfl, rfl⟩
      go_wp2_with fail
      refine (HN.out _).mono ?_
      rintro e w1 ⟨rfl, rfl⟩
      go_wp2_with fail
      go_ret
      exact ⟨rfl, rfl⟩
    · have hnn := HNN.out hB
      rw [hB] at HU
      clear hB HNN
      generalize unkW k1 = uw at *
      have HM := Lib.hid (nan3_any uw)
      rw [hnn] at HM
      clear hnn
      simp only [if_true]
      go_enter Tryz.func32, Tryz.ntmps32
      go_wp2_with fail
      refine (HK.out _).mono ?_
      rintro e w1 ⟨rfl, rfl⟩
      go_wp2_with fail
      refine (HU.out _).mono ?_
      rintro e w1 ⟨rfl, rfl⟩
      go_wp2_with fail
      refine (HN.out _).mono ?_
      rintro e w1 ⟨rfl, rfl⟩
      go_wp2_with fail
      refine (HM.out _).mono ?_
      rintro e w1 ⟨rfl, rfl⟩
      go_wp2_with fail
      go_ret
      exact ⟨rfl, rfl⟩
  · have hk : keyF u = 18446744073709551615 := by unfold keyF; rw [hn, if_pos rfl]
    have HU := Lib.hid (unkey3_any 0 (by omega))
    rw [hn] at HN
    rw [hk] at HK
    simp only [if_true]
    clear hk hn hu
    generalize unkW 0 = uw at *
    generalize unkB 0 = ub at *
    go_enter Tryz.func32, Tryz.ntmps32
    go_wp2_with fail
    refine (HK.out _).mono ?_
    rintro e w1 ⟨rfl, rfl⟩
    go_wp2_with fail
    refine (HU.out _).mono ?_
    rintro e w1 ⟨rfl, rfl⟩
    go_wp2_with fail
    refine (HN.out _).mono ?_
    rintro e w1 ⟨rfl, rfl⟩
    go_wp2_with fail
    go_ret
    exact ⟨rfl, rfl⟩

set_option maxHeartbeats 2000000 in
theorem apart3_any (a b : Nat) (ha : a < 2 ^ 64) (hb : b < 2 ^ 64) (w : World) :
    Calls Tryz.prog 34 #[.float .f64 a, .float .f64 b] w fun e w' => e = .returned (.tuple #[.int .u64 (apW a b : Nat), .bool (apB a b)]) ∧ w = w' := by
  have HNA := Lib.hid (nan3_any a)
  have HNB := Lib.hid (nan3_any b)
  cases hn : Flt.nan a
  · rw [hn] at HNA
    cases hm : Flt.nan b
    · rw [hm] at HNB
      have hW : apW a b = max (keyF a) (keyF b) - min (keyF a) (keyF b) := by unfold apW; rw [hn, hm]; simp
      have hB : apB a b = true := by unfold apB; rw [hn, hm]; rfl
      rw [hW, hB]
      have HA := Lib.hid (key3_any a ha)
      have HB := Lib.hid (key3_any b hb)
      have hka := key_lt ha
      have hkb := key_lt hb
      clear ha hb hW hB hn hm
      generalize keyF a = x at *
      generalize keyF b = y at *
      by_cases hxy : x ≤ y
      · have m1 : max x y = y := Nat.max_eq_right hxy
        have m2 : min x y = x := Nat.min_eq_left hxy
        have m3 : decide ((x : Int) > (y : Int)) = false := by rw [decide_eq_false_iff_not]; omega
        have m4 : decide (y < x) = false := by rw [decide_eq_false_iff_not]; omega
        have m5 : IntKind.u64.wrap ((y : Int) - (x : Int)) = ((y - x : Nat) : Int) := by rw [IntKind.wrap_u64]; omega
        rw [m1, m2]
        clear hka hkb hxy
        go_enter Tryz.func34, Tryz.ntmps34
        go_wp2_with fail
        refine (HNA.out _).mono ?_
        rintro e w1 ⟨rfl, rfl⟩
        go_wp2_with fail
        refine (HNB.out _).mono ?_
        rintro e w1 ⟨rfl, rfl⟩
        go_wp2_with fail
        refine (HA.out _).mono ?_
        rintro e w1 ⟨rfl, rfl⟩
        go_wp2_with fail
        refine (HB.out _).mono ?_
        rintro e w1 ⟨rfl, rfl⟩
        go_wp2_with fail
        refine (HB.out _).mono ?_
        rintro e w1 ⟨rfl, rfl⟩
        go_wp2_with fail
        refine (HA.out _).mono ?_
        rintro e w1 ⟨rfl, rfl⟩
        go_wp2_with fail
        go_ret2
        exact ⟨rfl, rfl⟩
      · have m1 : max x y = x := Nat.max_eq_left (Nat.le_of_not_le hxy)
        have m2 : min x y = y := Nat.min_eq_right (Nat.le_of_not_le hxy)
        have m3 : decide ((x : Int) > (y : Int)) = true := by rw [decide_eq_true_eq]; omega
        have m4 : decide (y < x) = true := by rw [decide_eq_true_eq]; omega
        have m5 : IntKind.u64.wrap ((x : Int) - (y : Int)) = ((x - y : Nat) : Int) := by rw [IntKind.wrap_u64]; omega
        rw [m1, m2]
        clear hka hkb hxy
        go_enter Tryz.func34, Tryz.ntmps34
        go_wp2_with fail
        refine (HNA.out _).mono ?_
        rintro e w1 ⟨rfl, rfl⟩
        go_wp2_with fail
        refine (HNB.out _).mono ?_
        rintro e w1 ⟨rfl, rfl⟩
        go_wp2_with fail
        refine (HA.out _).mono ?_
        rintro e w1 ⟨rfl, rfl⟩
        go_wp2_with fail
        refine (HB.out _).mono ?_
        rintro e w1 ⟨rfl, rfl⟩
        go_wp2_with fail
        refine (HA.out _).mono ?_
        rintro e w1 ⟨rfl, rfl⟩
        go_wp2_with fail
        refine (HB.out _).mono ?_
        rintro e w1 ⟨rfl, rfl⟩
        go_wp2_with fail
        go_ret2
        exact ⟨rfl, rfl⟩
    · rw [hm] at HNB
      have hW : apW a b = 0 := by unfold apW; rw [hn, hm]; simp
      have hB : apB a b = false := by unfold apB; rw [hn, hm]; rfl
      rw [hW, hB]
      go_enter Tryz.func34, Tryz.ntmps34
      go_wp2_with fail
      refine (HNA.out _).mono ?_
      rintro e w1 ⟨rfl, rfl⟩
      go_wp2_with fail
      refine (HNB.out _).mono ?_
      rintro e w1 ⟨rfl, rfl⟩
      go_wp2_with fail
      go_ret2
      exact ⟨rfl, rfl⟩
  · rw [hn] at HNA
    have hW : apW a b = 0 := by unfold apW; rw [hn]; simp
    have hB : apB a b = false := by unfold apB; rw [hn]; rfl
    rw [hW, hB]
    go_enter Tryz.func34, Tryz.ntmps34
    go_wp2_with fail
    refine (HNA.out _).mono ?_
    rintro e w1 ⟨rfl, rfl⟩
    go_wp2_with fail
    go_ret2
    exact ⟨rfl, rfl⟩

/-- What the mask of the reference leaves. -/
theorem class3_cases (u : Nat) (hu : u < 18446744073709551616) (hn : Flt.nan u = false) :
    ∃ s : Nat, Flt.rung u = s ∧ s ≤ 9218868437227405312 ∧ Sm.classF u = (if u < 9223372036854775808 then (if s = 0 then 6 else if s < 4503599627370496 then 7 else if s < 9218868437227405312 then 8 else 9) else 11 - (if s = 0 then 6 else if s < 4503599627370496 then 7 else if s < 9218868437227405312 then 8 else 9) : Int) := by
  have h1 : ¬ 9218868437227405312 < u % 9223372036854775808 := fun x => by rw [(Re.nan_iff u).2 x] at hn; cases hn
  refine ⟨u % 9223372036854775808, by unfold Flt.rung; rfl, by omega, ?_⟩
  unfold Sm.classF
  rw [if_neg h1]
  generalize u % 9223372036854775808 = s at *
  have hx : (if s = 9218868437227405312 then (9 : Int) else if 4503599627370496 ≤ s then 8 else if 0 < s then 7 else 6) = (if s = 0 then 6 else if s < 4503599627370496 then 7 else if s < 9218868437227405312 then 8 else 9) := by
    (repeat' split) <;> first | rfl | omega
  simp only
  rw [hx]

set_option maxHeartbeats 2000000 in
theorem class3_any (u : Nat) (hu : u < 18446744073709551616) (w : World) :
    Calls Tryz.prog 28 #[.float .f64 u] w fun e w' => e = .returned (.int .i64 (Sm.classF u)) ∧ w = w' := by
  have e1 := ext_bits
  have HN := Lib.hid (nan3_any u)
  cases hn : Flt.nan u
  · rw [hn] at HN
    obtain ⟨s, hs, hle, hc⟩ := class3_cases u hu hn
    have el := and_low u
    rw [hs] at el
    generalize Sm.classF u = c at *
    clear hs hn hu
    have HC := Lib.hid hc
    clear hc
    by_cases ht : u < 9223372036854775808
    · have k1 : decide ((u : Int) < 9223372036854775808) = true := by rw [decide_eq_true_eq]; omega
      have k1' : decide (u < 9223372036854775808) = true := by rw [decide_eq_true_eq]; exact ht
      by_cases h0 : s = 0
      · subst h0
        obtain rfl : c = 6 := by rw [HC.out, if_pos ht]; rfl
        clear ht hle
        go_enter Tryz.func28, Tryz.ntmps28
        go_wp2_with fail
        refine (HN.out _).mono ?_
        rintro e w1 ⟨rfl, rfl⟩
        go_wp2_with fail
        go_ret
        exact ⟨rfl, rfl⟩
      have g0 : ((s : Int) == 0) = false := by rw [beq_eq_false_iff_ne]; omega
      have g0' : (s == 0) = false := by rw [beq_eq_false_iff_ne]; omega
      by_cases h1 : s < 4503599627370496
      · have g1 : decide ((s : Int) < 4503599627370496) = true := by rw [decide_eq_true_eq]; omega
        have g1' : decide (s < 4503599627370496) = true := by rw [decide_eq_true_eq]; exact h1
        obtain rfl : c = 7 := by rw [HC.out, if_pos ht, if_neg h0, if_pos h1]
        clear ht hle h0 h1
        go_enter Tryz.func28, Tryz.ntmps28
        go_wp2_with fail
        refine (HN.out _).mono ?_
        rintro e w1 ⟨rfl, rfl⟩
        go_wp2_with fail
        go_ret
        exact ⟨rfl, rfl⟩
      have g1 : decide ((s : Int) < 4503599627370496) = false := by rw [decide_eq_false_iff_not]; omega
      have g1' : decide (s < 4503599627370496) = false := by rw [decide_eq_false_iff_not]; exact h1
      by_cases h2 : s < 9218868437227405312
      · have g2 : decide ((s : Int) < 9218868437227405312) = true := by rw [decide_eq_true_eq]; omega
        have g2' : decide (s < 9218868437227405312) = true := by rw [decide_eq_true_eq]; exact h2
        obtain rfl : c = 8 := by rw [HC.out, if_pos ht, if_neg h0, if_neg h1, if_pos h2]
        clear ht hle h0 h1 h2
        go_enter Tryz.func28, Tryz.ntmps28
        go_wp2_with fail
        refine (HN.out _).mono ?_
        rintro e w1 ⟨rfl, rfl⟩
        go_wp2_with fail
        go_ret
        exact ⟨rfl, rfl⟩
      · have g2 : decide ((s : Int) < 9218868437227405312) = false := by rw [decide_eq_false_iff_not]; omega
        have g2' : decide (s < 9218868437227405312) = false := by rw [decide_eq_false_iff_not]; exact h2
        obtain rfl : c = 9 := by rw [HC.out, if_pos ht, if_neg h0, if_neg h1, if_neg h2]
        clear ht hle h0 h1 h2
        go_enter Tryz.func28, Tryz.ntmps28
        go_wp2_with fail
        refine (HN.out _).mono ?_
        rintro e w1 ⟨rfl, rfl⟩
        go_wp2_with fail
        go_ret
        exact ⟨rfl, rfl⟩
    · have k1 : decide ((u : Int) < 9223372036854775808) = false := by rw [decide_eq_false_iff_not]; omega
      have k1' : decide (u < 9223372036854775808) = false := by rw [decide_eq_false_iff_not]; exact ht
      by_cases h0 : s = 0
      · subst h0
        obtain rfl : c = 5 := by rw [HC.out, if_neg ht]; rfl
        clear ht hle
        go_enter Tryz.func28, Tryz.ntmps28
        go_wp2_with fail
        refine (HN.out _).mono ?_
        rintro e w1 ⟨rfl, rfl⟩
        go_wp2_with fail
        go_ret
        exact ⟨rfl, rfl⟩
      have g0 : ((s : Int) == 0) = false := by rw [beq_eq_false_iff_ne]; omega
      have g0' : (s == 0) = false := by rw [beq_eq_false_iff_ne]; omega
      by_cases h1 : s < 4503599627370496
      · have g1 : decide ((s : Int) < 4503599627370496) = true := by rw [decide_eq_true_eq]; omega
        have g1' : decide (s < 4503599627370496) = true := by rw [decide_eq_true_eq]; exact h1
        obtain rfl : c = 4 := by rw [HC.out, if_neg ht, if_neg h0, if_pos h1]; rfl
        clear ht hle h0 h1
        go_enter Tryz.func28, Tryz.ntmps28
        go_wp2_with fail
        refine (HN.out _).mono ?_
        rintro e w1 ⟨rfl, rfl⟩
        go_wp2_with fail
        go_ret
        exact ⟨rfl, rfl⟩
      have g1 : decide ((s : Int) < 4503599627370496) = false := by rw [decide_eq_false_iff_not]; omega
      have g1' : decide (s < 4503599627370496) = false := by rw [decide_eq_false_iff_not]; exact h1
      by_cases h2 : s < 9218868437227405312
      · have g2 : decide ((s : Int) < 9218868437227405312) = true := by rw [decide_eq_true_eq]; omega
        have g2' : decide (s < 9218868437227405312) = true := by rw [decide_eq_true_eq]; exact h2
        obtain rfl : c = 3 := by rw [HC.out, if_neg ht, if_neg h0, if_neg h1, if_pos h2]; rfl
        clear ht hle h0 h1 h2
        go_enter Tryz.func28, Tryz.ntmps28
        go_wp2_with fail
        refine (HN.out _).mono ?_
        rintro e w1 ⟨rfl, rfl⟩
        go_wp2_with fail
        go_ret
        exact ⟨rfl, rfl⟩
      · have g2 : decide ((s : Int) < 9218868437227405312) = false := by rw [decide_eq_false_iff_not]; omega
        have g2' : decide (s < 9218868437227405312) = false := by rw [decide_eq_false_iff_not]; exact h2
        obtain rfl : c = 2 := by rw [HC.out, if_neg ht, if_neg h0, if_neg h1, if_neg h2]; rfl
        clear ht hle h0 h1 h2
        go_enter Tryz.func28, Tryz.ntmps28
        go_wp2_with fail
        refine (HN.out _).mono ?_
        rintro e w1 ⟨rfl, rfl⟩
        go_wp2_with fail
        go_ret
        exact ⟨rfl, rfl⟩
  · rw [hn] at HN
    have hc := Re.class_nan hn
    rw [hc]
    go_enter Tryz.func28, Tryz.ntmps28
    go_wp2_with fail
    refine (HN.out _).mono ?_
    rintro e w1 ⟨rfl, rfl⟩
    go_wp2_with fail
    go_ret
    exact ⟨rfl, rfl⟩
end Go.Proofs.YtipkiiblghnoiaaGreatDoor
