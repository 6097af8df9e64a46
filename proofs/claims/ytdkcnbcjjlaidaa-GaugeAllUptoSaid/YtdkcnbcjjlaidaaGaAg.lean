/- The reference's Quantile. By an AI agent. -/
import Derived.Test.YtdkcnbcjjlaidaaGaAe
import Derived.Test.YtdkcnbcjjlaidaaGauW
namespace Go.Proofs.Ytdkcnbcjjlaidaa
open Go.ChangeShapes Go.WideShapes Go.ChangeAt Go.RowKit
open Flt (U fv ceilW sv mag rung)
set_option linter.unusedVariables false

/-- The whole part, and one more where there is a rest, is the rank's ceiling. -/
theorem trunc_ceil {m n : Nat} (hf : Flt.Fin m) (h0 : 0 ≤ fv m) (hle : fv m ≤ (n : Int) * U) (hn : n ≤ 1099511627776) (hpos : 0 < n) :
    ∃ T : Nat, T ≤ n ∧ floatToIntVal .f64 m .i64 = some (T : Int) ∧ ∃ b, (FloatKind.f64.format.order (floatOfInt .f64 (T : Int)) m == some .lt) = b ∧ rankV m n = max 1 (min (if b = true then (T : Int) + 1 else T) n) := by
  have hU := Flt.U_pos
  obtain ⟨hc, N, hN, hle', hlt'⟩ := Flt.ceil_fin hf
  have hdiv : fv (ceilW m) / U = N := by rw [hN]; exact Int.mul_ediv_cancel _ (by omega)
  obtain ⟨T, hT⟩ : ∃ T : Nat, fv m / U = (T : Int) := Int.eq_ofNat_of_zero_le (Int.ediv_nonneg h0 (by omega))
  have e1 : (T : Int) * U ≤ fv m := by rw [← hT]; exact Int.ediv_mul_le _ (by omega)
  have e2 : fv m < (T : Int) * U + U := by
    have := Int.lt_ediv_add_one_mul_self (fv m) (show (0 : Int) < U by omega)
    rw [hT, Int.add_mul] at this
    omega
  have hTn : T ≤ n := by
    have h := Int.le_of_mul_le_mul_right (Int.le_trans e1 hle) (by omega)
    omega
  have hti : (FloatKind.f64.decode m).toInt .zero = some (T : Int) := by
    rw [Flt.trunc_fin hf]
    congr 1
    have hv : fv m = sv (Flt.neg m) (mag (rung m)) := rfl
    cases hs : Flt.neg m
    · rw [hv, hs] at hT
      simpa [sv] using hT
    · rw [hv, hs] at hT h0
      simp only [sv, if_true] at hT h0
      have hz : mag (rung m) = 0 := by omega
      rw [hz] at hT ⊢
      simp [sv] at hT ⊢
      omega
  have hof := Flt.ofInt_fin (n := T) (by omega)
  refine ⟨T, hTn, ?_, _, Flt.t_lt hof.1.not_nan hf.not_nan, ?_⟩
  · unfold floatToIntVal
    rw [hti]
    have a1 : IntKind.i64.min = -9223372036854775808 := by decide
    have a2 : IntKind.i64.max = 9223372036854775807 := by decide
    simp only [a1, a2]
    rw [if_pos (by omega)]
  · rw [hof.2.1]
    unfold rankV
    rw [hdiv]
    clear hof hdiv hN hc
    generalize (U : Nat) = u at *
    generalize fv m = f at *
    by_cases hx : (T : Int) * u < f
    · have hNT : N = T + 1 := by
        have a1 : (T : Int) < N := Int.lt_of_mul_lt_mul_right (Int.lt_of_lt_of_le hx hle') (by omega)
        have a2 : N * u < ((T : Int) + 2) * u := by rw [Int.add_mul]; omega
        have a3 := Int.lt_of_mul_lt_mul_right a2 (by omega)
        omega
      have hd : decide ((T : Int) * u < f) = true := decide_eq_true hx
      simp only [hd, hNT, if_true]
      split <;> omega
    · have hNT : N = T := by
        have a0 : f = T * u := by omega
        have a1 : (T : Int) ≤ N := Int.le_of_mul_le_mul_right (by rw [← a0]; exact hle') (by omega)
        have a2 : N * u < ((T : Int) + 1) * u := by rw [Int.add_mul]; omega
        have a3 := Int.lt_of_mul_lt_mul_right a2 (by omega)
        omega
      have hd : decide ((T : Int) * u < f) = false := decide_eq_false hx
      simp only [hd, hNT, Bool.false_eq_true, if_false]
      split <;> omega

set_option maxRecDepth 100000 in
set_option maxHeartbeats 4000000 in
theorem rquant_ok {w : World} {g base : Nat} {ob : Option Addr} {cb c : Nat} {x : G} (h : RAt w g base ob cb c x) (hx : Calm x) (q n m : Nat) (hn : x.n = n) (hpos : 0 < n) (r : Int)
    (g1 : (FloatKind.f64.format.order q 0 == some .gt || FloatKind.f64.format.order q 0 == some .eq) = true) (g2 : (FloatKind.f64.format.order q 4607182418800017408 == some .lt || FloatKind.f64.format.order q 4607182418800017408 == some .eq) = true)
    (hm : floatBits .mul .f64 q (floatOfInt .f64 n) = some m) (hf : Flt.Fin m) (h0 : 0 ≤ fv m) (hle : fv m ≤ (n : Int) * U) (hr : rankV m n = r) (hr1 : 1 ≤ r) (hrn : r ≤ n) :
    Calls Try.prog 40 #[.pointer (some ⟨g, 0, none⟩), .float .f64 q] w fun e w' => e = .returned (.tuple #[.float .f64 (qf x.bs x.cs r x.gr), .int .i64 0]) ∧ w = w' := by
  obtain ⟨q0, q1, q2, q3, q4, q5, q6⟩ := rcell_facts h
  obtain ⟨n0, n1, -, -, hcc, hbl⟩ := hx
  have hnn : n ≤ 1099511627776 := by omega
  have o1 : ∀ t w, (binOp .mul t (.float .f64 q) (.float .f64 (floatOfInt .f64 n))).run Try.prog w = .ok (.float .f64 m) w := fun t w => run_float_arith w .mul t .f64 q _ m hm
  obtain ⟨T, hT, hi, b, hb, hrk⟩ := trunc_ceil hf h0 hle hnn hpos
  have hcv : ∀ w, (convert 24 2 (.float .f64 m)).run Try.prog w = .ok (.int .i64 (T : Int)) w := fun w => run_convert_float_int w 24 2 .f64 .i64 m T (by rw [Try.underlying24]; rfl) Try.underlying2 hi
  rw [hr] at hrk
  rw [hn] at q2
  have HG := Lib.hid (And.intro h hcc)
  have hlen := h.len
  have hne : ((n : Int) == 0) = false := by simp; omega
  generalize hres : qf x.bs x.cs r x.gr = res
  have HR := Lib.hid hres
  clear hres h hcc hm hf h0 hr hle hi
  generalize hbn : x.bs.length = nb at *
  generalize hcn : x.cs.length = nc at *
  have HBN := Lib.hid (And.intro hbn hcn)
  clear hbn hcn
  cases b
  all_goals simp only [if_true, Bool.false_eq_true, if_false] at hrk
  case false =>
    obtain ⟨R, hR⟩ : ∃ R : Int, (T : Int) = R := ⟨_, rfl⟩
    rw [hR] at hrk hb hcv
    have hR0 : 0 ≤ R ∧ R ≤ 1099511627776 := by omega
    obtain ⟨hR1, hR2⟩ := hR0
    by_cases hA : (n : Int) < R
    · by_cases hB : (1 : Int) < n
      · obtain rfl : r = n := by omega
        clear hrk hrn hR
        go_enter Try.func40, Try.ntmps40
        go_wp2_with fail
        go_loopg [9, 8] nb (fun gq a b wr => ∃ k : Nat, ∃ z : Int, gq + k = nb ∧ a = .int .i64 (k : Int) ∧ b = .int .i64 z ∧ 0 ≤ z ∧ z < (n : Int) ∧ wr = w ∧ Hid (qf (x.bs.drop k) (x.cs.drop k) ((n : Int) - z) x.gr = res))
        case atStart => exact ⟨0, 0, by omega, rfl, rfl, by omega, by omega, rfl, by have := HR.out; rw [Int.sub_zero]; exact this⟩
        case round =>
          obtain ⟨k, z, hgk, rfl, rfl, hz1, hz2, rfl, HK⟩ := hrel
          by_cases hk : k < nb
          · obtain ⟨ad, rfl, hcell⟩ := HG.out.1.fls k (by rw [HBN.out.1]; exact hk)
            have hck := HG.out.2 k
            have hci := (blk_cell HG.out.1.cls k).trans (i64s_get x.cs k (by rw [HBN.out.2]; omega))
            have hs := HK.out
            rw [drop_getD x.bs 0 k (by rw [HBN.out.1]; exact hk), drop_getD x.cs 0 k (by rw [HBN.out.2]; omega)] at hs
            unfold qf at hs
            generalize x.bs.getD k 0 = y at *
            generalize x.cs.getD k 0 = cc at *
            by_cases hle : (n : Int) - z - cc ≤ 0
            · rw [if_pos hle] at hs
              subst hs
              have hd : decide ((n : Int) ≤ z + cc) = true := by simp; omega
              go_wp2_with fail
              go_ret2
              exact ⟨rfl, rfl⟩
            · rw [if_neg hle] at hs
              have HS := Lib.hid hs
              clear hs
              have hd : decide ((n : Int) ≤ z + cc) = false := by simp; omega
              go_wp2_with fail
              go_roundg (gk - 1)
              case measure => omega
              case rel => exact ⟨k + 1, z + cc, by omega, rfl, rfl, by omega, by omega, rfl, by have := HS.out; rw [show (n : Int) - (z + cc) = (n : Int) - z - cc by omega]; exact this⟩
          · have hs := HK.out
            have hkn : k = nb := by omega
            rw [hkn, List.drop_eq_nil_of_le (by rw [HBN.out.1]; exact Nat.le_refl _)] at hs
            unfold qf at hs
            subst hs
            go_wp2_with fail
            go_ret2
            exact ⟨rfl, rfl⟩
      · obtain rfl : r = 1 := by omega
        clear hrk hrn hR
        go_enter Try.func40, Try.ntmps40
        go_wp2_with fail
        go_loopg [9, 8] nb (fun gq a b wr => ∃ k : Nat, ∃ z : Int, gq + k = nb ∧ a = .int .i64 (k : Int) ∧ b = .int .i64 z ∧ 0 ≤ z ∧ z < 1 ∧ wr = w ∧ Hid (qf (x.bs.drop k) (x.cs.drop k) (1 - z) x.gr = res))
        case atStart => exact ⟨0, 0, by omega, rfl, rfl, by omega, by omega, rfl, by have := HR.out; rw [Int.sub_zero]; exact this⟩
        case round =>
          obtain ⟨k, z, hgk, rfl, rfl, hz1, hz2, rfl, HK⟩ := hrel
          by_cases hk : k < nb
          · obtain ⟨ad, rfl, hcell⟩ := HG.out.1.fls k (by rw [HBN.out.1]; exact hk)
            have hck := HG.out.2 k
            have hci := (blk_cell HG.out.1.cls k).trans (i64s_get x.cs k (by rw [HBN.out.2]; omega))
            have hs := HK.out
            rw [drop_getD x.bs 0 k (by rw [HBN.out.1]; exact hk), drop_getD x.cs 0 k (by rw [HBN.out.2]; omega)] at hs
            unfold qf at hs
            generalize x.bs.getD k 0 = y at *
            generalize x.cs.getD k 0 = cc at *
            by_cases hle : 1 - z - cc ≤ 0
            · rw [if_pos hle] at hs
              subst hs
              have hd : decide (1 ≤ z + cc) = true := by simp; omega
              go_wp2_with fail
              go_ret2
              exact ⟨rfl, rfl⟩
            · rw [if_neg hle] at hs
              have HS := Lib.hid hs
              clear hs
              have hd : decide (1 ≤ z + cc) = false := by simp; omega
              go_wp2_with fail
              go_roundg (gk - 1)
              case measure => omega
              case rel => exact ⟨k + 1, z + cc, by omega, rfl, rfl, by omega, by omega, rfl, by have := HS.out; rw [show 1 - (z + cc) = 1 - z - cc by omega]; exact this⟩
          · have hs := HK.out
            have hkn : k = nb := by omega
            rw [hkn, List.drop_eq_nil_of_le (by rw [HBN.out.1]; exact Nat.le_refl _)] at hs
            unfold qf at hs
            subst hs
            go_wp2_with fail
            go_ret2
            exact ⟨rfl, rfl⟩
    · by_cases hB : (1 : Int) < R
      · obtain rfl : r = R := by omega
        clear hrk hrn hR
        go_enter Try.func40, Try.ntmps40
        go_wp2_with fail
        go_loopg [9, 8] nb (fun gq a b wr => ∃ k : Nat, ∃ z : Int, gq + k = nb ∧ a = .int .i64 (k : Int) ∧ b = .int .i64 z ∧ 0 ≤ z ∧ z < r ∧ wr = w ∧ Hid (qf (x.bs.drop k) (x.cs.drop k) (r - z) x.gr = res))
        case atStart => exact ⟨0, 0, by omega, rfl, rfl, by omega, by omega, rfl, by have := HR.out; rw [Int.sub_zero]; exact this⟩
        case round =>
          obtain ⟨k, z, hgk, rfl, rfl, hz1, hz2, rfl, HK⟩ := hrel
          by_cases hk : k < nb
          · obtain ⟨ad, rfl, hcell⟩ := HG.out.1.fls k (by rw [HBN.out.1]; exact hk)
            have hck := HG.out.2 k
            have hci := (blk_cell HG.out.1.cls k).trans (i64s_get x.cs k (by rw [HBN.out.2]; omega))
            have hs := HK.out
            rw [drop_getD x.bs 0 k (by rw [HBN.out.1]; exact hk), drop_getD x.cs 0 k (by rw [HBN.out.2]; omega)] at hs
            unfold qf at hs
            generalize x.bs.getD k 0 = y at *
            generalize x.cs.getD k 0 = cc at *
            by_cases hle : r - z - cc ≤ 0
            · rw [if_pos hle] at hs
              subst hs
              have hd : decide (r ≤ z + cc) = true := by simp; omega
              go_wp2_with fail
              go_ret2
              exact ⟨rfl, rfl⟩
            · rw [if_neg hle] at hs
              have HS := Lib.hid hs
              clear hs
              have hd : decide (r ≤ z + cc) = false := by simp; omega
              go_wp2_with fail
              go_roundg (gk - 1)
              case measure => omega
              case rel => exact ⟨k + 1, z + cc, by omega, rfl, rfl, by omega, by omega, rfl, by have := HS.out; rw [show r - (z + cc) = r - z - cc by omega]; exact this⟩
          · have hs := HK.out
            have hkn : k = nb := by omega
            rw [hkn, List.drop_eq_nil_of_le (by rw [HBN.out.1]; exact Nat.le_refl _)] at hs
            unfold qf at hs
            subst hs
            go_wp2_with fail
            go_ret2
            exact ⟨rfl, rfl⟩
      · obtain rfl : r = 1 := by omega
        clear hrk hrn hR
        go_enter Try.func40, Try.ntmps40
        go_wp2_with fail
        go_loopg [9, 8] nb (fun gq a b wr => ∃ k : Nat, ∃ z : Int, gq + k = nb ∧ a = .int .i64 (k : Int) ∧ b = .int .i64 z ∧ 0 ≤ z ∧ z < 1 ∧ wr = w ∧ Hid (qf (x.bs.drop k) (x.cs.drop k) (1 - z) x.gr = res))
        case atStart => exact ⟨0, 0, by omega, rfl, rfl, by omega, by omega, rfl, by have := HR.out; rw [Int.sub_zero]; exact this⟩
        case round =>
          obtain ⟨k, z, hgk, rfl, rfl, hz1, hz2, rfl, HK⟩ := hrel
          by_cases hk : k < nb
          · obtain ⟨ad, rfl, hcell⟩ := HG.out.1.fls k (by rw [HBN.out.1]; exact hk)
            have hck := HG.out.2 k
            have hci := (blk_cell HG.out.1.cls k).trans (i64s_get x.cs k (by rw [HBN.out.2]; omega))
            have hs := HK.out
            rw [drop_getD x.bs 0 k (by rw [HBN.out.1]; exact hk), drop_getD x.cs 0 k (by rw [HBN.out.2]; omega)] at hs
            unfold qf at hs
            generalize x.bs.getD k 0 = y at *
            generalize x.cs.getD k 0 = cc at *
            by_cases hle : 1 - z - cc ≤ 0
            · rw [if_pos hle] at hs
              subst hs
              have hd : decide (1 ≤ z + cc) = true := by simp; omega
              go_wp2_with fail
              go_ret2
              exact ⟨rfl, rfl⟩
            · rw [if_neg hle] at hs
              have HS := Lib.hid hs
              clear hs
              have hd : decide (1 ≤ z + cc) = false := by simp; omega
              go_wp2_with fail
              go_roundg (gk - 1)
              case measure => omega
              case rel => exact ⟨k + 1, z + cc, by omega, rfl, rfl, by omega, by omega, rfl, by have := HS.out; rw [show 1 - (z + cc) = 1 - z - cc by omega]; exact this⟩
          · have hs := HK.out
            have hkn : k = nb := by omega
            rw [hkn, List.drop_eq_nil_of_le (by rw [HBN.out.1]; exact Nat.le_refl _)] at hs
            unfold qf at hs
            subst hs
            go_wp2_with fail
            go_ret2
            exact ⟨rfl, rfl⟩
  case true =>
    obtain ⟨R, hR⟩ : ∃ R : Int, (T : Int) = R := ⟨_, rfl⟩
    rw [hR] at hrk hb hcv
    have hR0 : 0 ≤ R ∧ R ≤ 1099511627776 := by omega
    obtain ⟨hR1, hR2⟩ := hR0
    by_cases hA : (n : Int) < R + 1
    · by_cases hB : (1 : Int) < n
      · obtain rfl : r = n := by omega
        clear hrk hrn hR
        go_enter Try.func40, Try.ntmps40
        go_wp2_with fail
        go_loopg [9, 8] nb (fun gq a b wr => ∃ k : Nat, ∃ z : Int, gq + k = nb ∧ a = .int .i64 (k : Int) ∧ b = .int .i64 z ∧ 0 ≤ z ∧ z < (n : Int) ∧ wr = w ∧ Hid (qf (x.bs.drop k) (x.cs.drop k) ((n : Int) - z) x.gr = res))
        case atStart => exact ⟨0, 0, by omega, rfl, rfl, by omega, by omega, rfl, by have := HR.out; rw [Int.sub_zero]; exact this⟩
        case round =>
          obtain ⟨k, z, hgk, rfl, rfl, hz1, hz2, rfl, HK⟩ := hrel
          by_cases hk : k < nb
          · obtain ⟨ad, rfl, hcell⟩ := HG.out.1.fls k (by rw [HBN.out.1]; exact hk)
            have hck := HG.out.2 k
            have hci := (blk_cell HG.out.1.cls k).trans (i64s_get x.cs k (by rw [HBN.out.2]; omega))
            have hs := HK.out
            rw [drop_getD x.bs 0 k (by rw [HBN.out.1]; exact hk), drop_getD x.cs 0 k (by rw [HBN.out.2]; omega)] at hs
            unfold qf at hs
            generalize x.bs.getD k 0 = y at *
            generalize x.cs.getD k 0 = cc at *
            by_cases hle : (n : Int) - z - cc ≤ 0
            · rw [if_pos hle] at hs
              subst hs
              have hd : decide ((n : Int) ≤ z + cc) = true := by simp; omega
              go_wp2_with fail
              go_ret2
              exact ⟨rfl, rfl⟩
            · rw [if_neg hle] at hs
              have HS := Lib.hid hs
              clear hs
              have hd : decide ((n : Int) ≤ z + cc) = false := by simp; omega
              go_wp2_with fail
              go_roundg (gk - 1)
              case measure => omega
              case rel => exact ⟨k + 1, z + cc, by omega, rfl, rfl, by omega, by omega, rfl, by have := HS.out; rw [show (n : Int) - (z + cc) = (n : Int) - z - cc by omega]; exact this⟩
          · have hs := HK.out
            have hkn : k = nb := by omega
            rw [hkn, List.drop_eq_nil_of_le (by rw [HBN.out.1]; exact Nat.le_refl _)] at hs
            unfold qf at hs
            subst hs
            go_wp2_with fail
            go_ret2
            exact ⟨rfl, rfl⟩
      · obtain rfl : r = 1 := by omega
        clear hrk hrn hR
        go_enter Try.func40, Try.ntmps40
        go_wp2_with fail
        go_loopg [9, 8] nb (fun gq a b wr => ∃ k : Nat, ∃ z : Int, gq + k = nb ∧ a = .int .i64 (k : Int) ∧ b = .int .i64 z ∧ 0 ≤ z ∧ z < 1 ∧ wr = w ∧ Hid (qf (x.bs.drop k) (x.cs.drop k) (1 - z) x.gr = res))
        case atStart => exact ⟨0, 0, by omega, rfl, rfl, by omega, by omega, rfl, by have := HR.out; rw [Int.sub_zero]; exact this⟩
        case round =>
          obtain ⟨k, z, hgk, rfl, rfl, hz1, hz2, rfl, HK⟩ := hrel
          by_cases hk : k < nb
          · obtain ⟨ad, rfl, hcell⟩ := HG.out.1.fls k (by rw [HBN.out.1]; exact hk)
            have hck := HG.out.2 k
            have hci := (blk_cell HG.out.1.cls k).trans (i64s_get x.cs k (by rw [HBN.out.2]; omega))
            have hs := HK.out
            rw [drop_getD x.bs 0 k (by rw [HBN.out.1]; exact hk), drop_getD x.cs 0 k (by rw [HBN.out.2]; omega)] at hs
            unfold qf at hs
            generalize x.bs.getD k 0 = y at *
            generalize x.cs.getD k 0 = cc at *
            by_cases hle : 1 - z - cc ≤ 0
            · rw [if_pos hle] at hs
              subst hs
              have hd : decide (1 ≤ z + cc) = true := by simp; omega
              go_wp2_with fail
              go_ret2
              exact ⟨rfl, rfl⟩
            · rw [if_neg hle] at hs
              have HS := Lib.hid hs
              clear hs
              have hd : decide (1 ≤ z + cc) = false := by simp; omega
              go_wp2_with fail
              go_roundg (gk - 1)
              case measure => omega
              case rel => exact ⟨k + 1, z + cc, by omega, rfl, rfl, by omega, by omega, rfl, by have := HS.out; rw [show 1 - (z + cc) = 1 - z - cc by omega]; exact this⟩
          · have hs := HK.out
            have hkn : k = nb := by omega
            rw [hkn, List.drop_eq_nil_of_le (by rw [HBN.out.1]; exact Nat.le_refl _)] at hs
            unfold qf at hs
            subst hs
            go_wp2_with fail
            go_ret2
            exact ⟨rfl, rfl⟩
    · by_cases hB : (1 : Int) < R + 1
      · obtain rfl : r = R + 1 := by omega
        clear hrk hrn hR
        go_enter Try.func40, Try.ntmps40
        go_wp2_with fail
        go_loopg [9, 8] nb (fun gq a b wr => ∃ k : Nat, ∃ z : Int, gq + k = nb ∧ a = .int .i64 (k : Int) ∧ b = .int .i64 z ∧ 0 ≤ z ∧ z < (R + 1) ∧ wr = w ∧ Hid (qf (x.bs.drop k) (x.cs.drop k) ((R + 1) - z) x.gr = res))
        case atStart => exact ⟨0, 0, by omega, rfl, rfl, by omega, by omega, rfl, by have := HR.out; rw [Int.sub_zero]; exact this⟩
        case round =>
          obtain ⟨k, z, hgk, rfl, rfl, hz1, hz2, rfl, HK⟩ := hrel
          by_cases hk : k < nb
          · obtain ⟨ad, rfl, hcell⟩ := HG.out.1.fls k (by rw [HBN.out.1]; exact hk)
            have hck := HG.out.2 k
            have hci := (blk_cell HG.out.1.cls k).trans (i64s_get x.cs k (by rw [HBN.out.2]; omega))
            have hs := HK.out
            rw [drop_getD x.bs 0 k (by rw [HBN.out.1]; exact hk), drop_getD x.cs 0 k (by rw [HBN.out.2]; omega)] at hs
            unfold qf at hs
            generalize x.bs.getD k 0 = y at *
            generalize x.cs.getD k 0 = cc at *
            by_cases hle : (R + 1) - z - cc ≤ 0
            · rw [if_pos hle] at hs
              subst hs
              have hd : decide ((R + 1) ≤ z + cc) = true := by simp; omega
              go_wp2_with fail
              go_ret2
              exact ⟨rfl, rfl⟩
            · rw [if_neg hle] at hs
              have HS := Lib.hid hs
              clear hs
              have hd : decide ((R + 1) ≤ z + cc) = false := by simp; omega
              go_wp2_with fail
              go_roundg (gk - 1)
              case measure => omega
              case rel => exact ⟨k + 1, z + cc, by omega, rfl, rfl, by omega, by omega, rfl, by have := HS.out; rw [show (R + 1) - (z + cc) = (R + 1) - z - cc by omega]; exact this⟩
          · have hs := HK.out
            have hkn : k = nb := by omega
            rw [hkn, List.drop_eq_nil_of_le (by rw [HBN.out.1]; exact Nat.le_refl _)] at hs
            unfold qf at hs
            subst hs
            go_wp2_with fail
            go_ret2
            exact ⟨rfl, rfl⟩
      · obtain rfl : r = 1 := by omega
        clear hrk hrn hR
        go_enter Try.func40, Try.ntmps40
        go_wp2_with fail
        go_loopg [9, 8] nb (fun gq a b wr => ∃ k : Nat, ∃ z : Int, gq + k = nb ∧ a = .int .i64 (k : Int) ∧ b = .int .i64 z ∧ 0 ≤ z ∧ z < 1 ∧ wr = w ∧ Hid (qf (x.bs.drop k) (x.cs.drop k) (1 - z) x.gr = res))
        case atStart => exact ⟨0, 0, by omega, rfl, rfl, by omega, by omega, rfl, by have := HR.out; rw [Int.sub_zero]; exact this⟩
        case round =>
          obtain ⟨k, z, hgk, rfl, rfl, hz1, hz2, rfl, HK⟩ := hrel
          by_cases hk : k < nb
          · obtain ⟨ad, rfl, hcell⟩ := HG.out.1.fls k (by rw [HBN.out.1]; exact hk)
            have hck := HG.out.2 k
            have hci := (blk_cell HG.out.1.cls k).trans (i64s_get x.cs k (by rw [HBN.out.2]; omega))
            have hs := HK.out
            rw [drop_getD x.bs 0 k (by rw [HBN.out.1]; exact hk), drop_getD x.cs 0 k (by rw [HBN.out.2]; omega)] at hs
            unfold qf at hs
            generalize x.bs.getD k 0 = y at *
            generalize x.cs.getD k 0 = cc at *
            by_cases hle : 1 - z - cc ≤ 0
            · rw [if_pos hle] at hs
              subst hs
              have hd : decide (1 ≤ z + cc) = true := by simp; omega
              go_wp2_with fail
              go_ret2
              exact ⟨rfl, rfl⟩
            · rw [if_neg hle] at hs
              have HS := Lib.hid hs
              clear hs
              have hd : decide (1 ≤ z + cc) = false := by simp; omega
              go_wp2_with fail
              go_roundg (gk - 1)
              case measure => omega
              case rel => exact ⟨k + 1, z + cc, by omega, rfl, rfl, by omega, by omega, rfl, by have := HS.out; rw [show 1 - (z + cc) = 1 - z - cc by omega]; exact this⟩
          · have hs := HK.out
            have hkn : k = nb := by omega
            rw [hkn, List.drop_eq_nil_of_le (by rw [HBN.out.1]; exact Nat.le_refl _)] at hs
            unfold qf at hs
            subst hs
            go_wp2_with fail
            go_ret2
            exact ⟨rfl, rfl⟩
end Go.Proofs.Ytdkcnbcjjlaidaa
