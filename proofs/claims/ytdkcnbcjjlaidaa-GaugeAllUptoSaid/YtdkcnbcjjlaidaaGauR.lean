/- The mean of what two gauges were told. By an AI agent. -/
import Derived.Test.YtdkcnbcjjlaidaaGauQ
import Derived.Test.YtdkcnbcjjlaidaaGauL
namespace Go.Proofs.Ytdkcnbcjjlaidaa
open Go.ChangeShapes Go.WideShapes Go.ChangeAt Go.RowKit
set_option linter.unusedVariables false

def meanG (x y : G) : Nat := if y.n = 0 then x.me else if x.n = 0 then y.me else canonF (opF .add x.me (opF .mul (opF .sub y.me x.me) (opF .quo (floatOfInt .f64 y.n) (floatOfInt .f64 (x.n + y.n)))))
theorem can_nan2 (a b : Nat) (w : World) : canonF (nanW a b w) = 9221120237041090561 := canon_nan (nanW_nan a b w)

set_option maxHeartbeats 4000000 in
theorem mean_any (x y : G) (hx0 : 0 ≤ x.n) (hx1 : x.n ≤ 1099511627776) (hy0 : 0 ≤ y.n) (hy1 : y.n ≤ 1099511627776) (w : World) :
    Calls Try.prog 42 #[.agg (lcells x), .agg (lcells y)] w fun e w' => e = .returned (.float .f64 (meanG x y)) ∧ Below w.heap.size w w' := by
  obtain ⟨wq, hwq⟩ : ∃ wq, floatBits .quo .f64 (floatOfInt .f64 y.n) (floatOfInt .f64 (x.n + y.n)) = some wq ∨ y.n = 0 := by
    by_cases h : y.n = 0
    · exact ⟨0, Or.inr h⟩
    · obtain ⟨a, ha⟩ := Int.eq_ofNat_of_zero_le hy0
      obtain ⟨b, hb⟩ := Int.eq_ofNat_of_zero_le (show 0 ≤ x.n + y.n by omega)
      obtain ⟨r, hr, -⟩ := Flt.div_int (a := floatOfInt .f64 (a : Int)) (n := b) (Flt.ofInt_fin (by omega)).1 (by omega) (by omega)
      refine ⟨r, Or.inl ?_⟩
      rw [hb, ha]
      exact hr
  obtain ⟨xb, xc, xn, xnn, xl, xg, xm⟩ := x
  obtain ⟨yb, yc, yn, ynn, yl, yg, ym⟩ := y
  simp only [lcells] at *
  by_cases hy : yn = 0
  · skip
    have HV : RowKit.Hid (meanG ⟨xb, xc, xn, xnn, xl, xg, xm⟩ ⟨yb, yc, yn, ynn, yl, yg, ym⟩ = xm) := Lib.hid (by simp [meanG, hy])
    clear hwq
    subst hy
    go_enter Try.func42, Try.ntmps42
    go_wp2_with (go_at_call 29; refine (canon_any _ _).mono ?_; rintro e w' ⟨rfl, rfl⟩)
    go_ret
    refine ⟨by rw [HV.out]; rfl, ?_⟩
    have kk := ((Below.refl w.heap.size w).alloc (Nat.le_refl _) (.cells #[.int .i64 xn, .int .i64 xnn, .float .f64 xl, .float .f64 xg, .float .f64 xm] 55)).alloc (by simp) (.cells #[.int .i64 0, .int .i64 ynn, .float .f64 yl, .float .f64 yg, .float .f64 ym] 55)
    exact ⟨kk.os, kk.tape, kk.output, kk.size, kk.block⟩
  · have hq := hwq.resolve_right hy
    clear hwq
    have e1 : (yn == 0) = false := by simpa using hy
    by_cases hx : xn = 0
    · skip
      have HV : RowKit.Hid (meanG ⟨xb, xc, xn, xnn, xl, xg, xm⟩ ⟨yb, yc, yn, ynn, yl, yg, ym⟩ = ym) := Lib.hid (by simp [meanG, hy, hx])
      clear hq
      subst hx
      go_enter Try.func42, Try.ntmps42
      go_wp2_with (go_at_call 29; refine (canon_any _ _).mono ?_; rintro e w' ⟨rfl, rfl⟩)
      go_ret
      refine ⟨by rw [HV.out]; rfl, ?_⟩
      have kk := ((Below.refl w.heap.size w).alloc (Nat.le_refl _) (.cells #[.int .i64 0, .int .i64 xnn, .float .f64 xl, .float .f64 xg, .float .f64 xm] 55)).alloc (by simp) (.cells #[.int .i64 yn, .int .i64 ynn, .float .f64 yl, .float .f64 yg, .float .f64 ym] 55)
      exact ⟨kk.os, kk.tape, kk.output, kk.size, kk.block⟩
    · have e2 : (xn == 0) = false := by simpa using hx
      cases hd : floatBits .sub .f64 ym xm with
      | none =>
        have HV : RowKit.Hid (meanG ⟨xb, xc, xn, xnn, xl, xg, xm⟩ ⟨yb, yc, yn, ynn, yl, yg, ym⟩ = 9221120237041090561) := Lib.hid (by simp [meanG, hy, hx, opF_some hq, opF_none hd, opF_none (arith_nan (op := .mul) (Or.inl nanC)), opF_nan, canon_nan nanC])
        have oq : ∀ t w, (binOp .quo t (.float .f64 (floatOfInt .f64 yn)) (.float .f64 (floatOfInt .f64 (xn + yn)))).run Try.prog w = .ok (.float .f64 wq) w := fun t w => run_float_arith w .quo t .f64 _ _ wq hq
        have o1 : ∀ t w, (binOp .sub t (.float .f64 ym) (.float .f64 xm)).run Try.prog w = .ok (.float .f64 (nanW ym xm w)) w.drew := fun t w => run_arith_nan (Or.inr (Or.inl rfl)) _ t _ _ hd w
        have o2 : ∀ t w a b w', (binOp .mul t (.float .f64 (nanW a b w')) (.float .f64 wq)).run Try.prog w = .ok (.float .f64 (nanW (nanW a b w') wq w)) w.drew := fun t w a b w' => run_arith_nan (Or.inr (Or.inr (Or.inl rfl))) _ t _ _ (arith_nan (Or.inl (nanW_nan _ _ _))) w
        have o3 : ∀ t w a b w', (binOp .add t (.float .f64 xm) (.float .f64 (nanW a b w'))).run Try.prog w = .ok (.float .f64 (nanW xm (nanW a b w') w)) w.drew := fun t w a b w' => run_arith_nan (Or.inl rfl) _ t _ _ (arith_nan (Or.inr (nanW_nan _ _ _))) w
        have o4 := can_nan2
        clear hd hq
        go_enter Try.func42, Try.ntmps42
        go_wp2_with (go_at_call 29; refine (canon_any _ _).mono ?_; rintro e w' ⟨rfl, rfl⟩)
        go_ret
        refine ⟨by rw [HV.out]; first | rfl | (rw [o4]; rfl), ?_⟩
        have kk := ((Below.refl w.heap.size w).alloc (Nat.le_refl _) (.cells #[.int .i64 xn, .int .i64 xnn, .float .f64 xl, .float .f64 xg, .float .f64 xm] 55)).alloc (by simp) (.cells #[.int .i64 yn, .int .i64 ynn, .float .f64 yl, .float .f64 yg, .float .f64 ym] 55)
        exact ⟨kk.os, kk.tape, kk.output, kk.size, kk.block⟩
      | some d =>
        cases hp : floatBits .mul .f64 d wq with
        | none =>
          have HV : RowKit.Hid (meanG ⟨xb, xc, xn, xnn, xl, xg, xm⟩ ⟨yb, yc, yn, ynn, yl, yg, ym⟩ = 9221120237041090561) := Lib.hid (by simp [meanG, hy, hx, opF_some hq, opF_some hd, opF_none hp, opF_nan, canon_nan nanC])
          have oq : ∀ t w, (binOp .quo t (.float .f64 (floatOfInt .f64 yn)) (.float .f64 (floatOfInt .f64 (xn + yn)))).run Try.prog w = .ok (.float .f64 wq) w := fun t w => run_float_arith w .quo t .f64 _ _ wq hq
          have o1 : ∀ t w, (binOp .sub t (.float .f64 ym) (.float .f64 xm)).run Try.prog w = .ok (.float .f64 d) w := fun t w => run_float_arith w .sub t .f64 _ _ d hd
          have o2 : ∀ t w, (binOp .mul t (.float .f64 d) (.float .f64 wq)).run Try.prog w = .ok (.float .f64 (nanW d wq w)) w.drew := fun t w => run_arith_nan (Or.inr (Or.inr (Or.inl rfl))) _ t _ _ hp w
          have o3 : ∀ t w a b w', (binOp .add t (.float .f64 xm) (.float .f64 (nanW a b w'))).run Try.prog w = .ok (.float .f64 (nanW xm (nanW a b w') w)) w.drew := fun t w a b w' => run_arith_nan (Or.inl rfl) _ t _ _ (arith_nan (Or.inr (nanW_nan _ _ _))) w
          have o4 := can_nan2
          clear hd hq hp
          go_enter Try.func42, Try.ntmps42
          go_wp2_with (go_at_call 29; refine (canon_any _ _).mono ?_; rintro e w' ⟨rfl, rfl⟩)
          go_ret
          refine ⟨by rw [HV.out]; first | rfl | (rw [o4]; rfl), ?_⟩
          have kk := ((Below.refl w.heap.size w).alloc (Nat.le_refl _) (.cells #[.int .i64 xn, .int .i64 xnn, .float .f64 xl, .float .f64 xg, .float .f64 xm] 55)).alloc (by simp) (.cells #[.int .i64 yn, .int .i64 ynn, .float .f64 yl, .float .f64 yg, .float .f64 ym] 55)
          exact ⟨kk.os, kk.tape, kk.output, kk.size, kk.block⟩
        | some p =>
          cases hs : floatBits .add .f64 xm p with
          | none =>
            have HV : RowKit.Hid (meanG ⟨xb, xc, xn, xnn, xl, xg, xm⟩ ⟨yb, yc, yn, ynn, yl, yg, ym⟩ = 9221120237041090561) := Lib.hid (by simp [meanG, hy, hx, opF_some hq, opF_some hd, opF_some hp, opF_none hs, canon_nan nanC])
            have oq : ∀ t w, (binOp .quo t (.float .f64 (floatOfInt .f64 yn)) (.float .f64 (floatOfInt .f64 (xn + yn)))).run Try.prog w = .ok (.float .f64 wq) w := fun t w => run_float_arith w .quo t .f64 _ _ wq hq
            have o1 : ∀ t w, (binOp .sub t (.float .f64 ym) (.float .f64 xm)).run Try.prog w = .ok (.float .f64 d) w := fun t w => run_float_arith w .sub t .f64 _ _ d hd
            have o2 : ∀ t w, (binOp .mul t (.float .f64 d) (.float .f64 wq)).run Try.prog w = .ok (.float .f64 p) w := fun t w => run_float_arith w .mul t .f64 _ _ p hp
            have o3 : ∀ t w, (binOp .add t (.float .f64 xm) (.float .f64 p)).run Try.prog w = .ok (.float .f64 (nanW xm p w)) w.drew := fun t w => run_arith_nan (Or.inl rfl) _ t _ _ hs w
            have o4 := can_nan2
            clear hd hq hp hs
            go_enter Try.func42, Try.ntmps42
            go_wp2_with (go_at_call 29; refine (canon_any _ _).mono ?_; rintro e w' ⟨rfl, rfl⟩)
            go_ret
            refine ⟨by rw [HV.out]; first | rfl | (rw [o4]; rfl), ?_⟩
            have kk := ((Below.refl w.heap.size w).alloc (Nat.le_refl _) (.cells #[.int .i64 xn, .int .i64 xnn, .float .f64 xl, .float .f64 xg, .float .f64 xm] 55)).alloc (by simp) (.cells #[.int .i64 yn, .int .i64 ynn, .float .f64 yl, .float .f64 yg, .float .f64 ym] 55)
            exact ⟨kk.os, kk.tape, kk.output, kk.size, kk.block⟩
          | some s =>
            have HV : RowKit.Hid (meanG ⟨xb, xc, xn, xnn, xl, xg, xm⟩ ⟨yb, yc, yn, ynn, yl, yg, ym⟩ = canonF s) := Lib.hid (by simp [meanG, hy, hx, opF_some hq, opF_some hd, opF_some hp, opF_some hs])
            have oq : ∀ t w, (binOp .quo t (.float .f64 (floatOfInt .f64 yn)) (.float .f64 (floatOfInt .f64 (xn + yn)))).run Try.prog w = .ok (.float .f64 wq) w := fun t w => run_float_arith w .quo t .f64 _ _ wq hq
            have o1 : ∀ t w, (binOp .sub t (.float .f64 ym) (.float .f64 xm)).run Try.prog w = .ok (.float .f64 d) w := fun t w => run_float_arith w .sub t .f64 _ _ d hd
            have o2 : ∀ t w, (binOp .mul t (.float .f64 d) (.float .f64 wq)).run Try.prog w = .ok (.float .f64 p) w := fun t w => run_float_arith w .mul t .f64 _ _ p hp
            have o3 : ∀ t w, (binOp .add t (.float .f64 xm) (.float .f64 p)).run Try.prog w = .ok (.float .f64 s) w := fun t w => run_float_arith w .add t .f64 _ _ s hs
            clear hd hq hp hs
            go_enter Try.func42, Try.ntmps42
            go_wp2_with (go_at_call 29; refine (canon_any _ _).mono ?_; rintro e w' ⟨rfl, rfl⟩)
            go_ret
            refine ⟨by rw [HV.out]; rfl, ?_⟩
            have kk := ((Below.refl w.heap.size w).alloc (Nat.le_refl _) (.cells #[.int .i64 xn, .int .i64 xnn, .float .f64 xl, .float .f64 xg, .float .f64 xm] 55)).alloc (by simp) (.cells #[.int .i64 yn, .int .i64 ynn, .float .f64 yl, .float .f64 yg, .float .f64 ym] 55)
            exact ⟨kk.os, kk.tape, kk.output, kk.size, kk.block⟩
end Go.Proofs.Ytdkcnbcjjlaidaa
