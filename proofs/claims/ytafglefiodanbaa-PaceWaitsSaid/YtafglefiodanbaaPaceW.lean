/- PaceWaits: proved: for every input the law returns true. No condition. By an AI agent. -/
import Derived.Test.YtafglefiodanbaaPaceD
import Derived.Test.YtafglefiodanbaaPaceQ
import Derived.Test.YtafglefiodanbaaLaw
namespace Go.Proofs.Ytafglefiodanbaa.paceWaits
open Go.ChangeShapes Go.WideShapes Go.ChangeAt Go.RowKit
open Flt (U V fv ceilW qt)
set_option linter.unusedVariables false

theorem smo_eight : Smo 4607182418800017408 (floatOfInt .f64 8) 4607182418800017408 4619567317775286272 4619567317775286272 4620693217682128896 := by
  refine ⟨?_, ?_, ?_, ?_, ?_, ?_, ?_⟩ <;> decide +kernel
theorem canon_eight : canonF 4620693217682128896 = 4620693217682128896 := by decide +kernel
theorem want_eight : wantV 8 4620693217682128896 = 8 := by decide +kernel
theorem big_fin : Flt.Fin 4697254411347427328 ∧ fv 4697254411347427328 = 4194304 * (V : Int) := by
  refine ⟨fin_lit (by omega), ?_⟩
  decide +kernel

theorem okp_quarters {L : Nat} (h : L ≤ 65535) : OkP 8 1000 (qt L) 4607182418800017408 := by
  obtain ⟨-, q1, q2, q3, q4⟩ := Flt.qt_val (l := L) (by omega)
  have hV := Flt.V_pos
  refine ⟨by omega, by omega, by omega, by omega, ?_, ?_, by decide +kernel, by decide +kernel⟩
  · rw [Flt.t_ge q1.not_nan Flt.zero_fin.1.not_nan, q3, Flt.zero_fin.2]
    exact decide_eq_true (Int.mul_nonneg (by omega) (by omega))
  · rw [Flt.t_le q1.not_nan big_fin.1.not_nan, q3, big_fin.2]
    exact decide_eq_true (Int.mul_le_mul_of_nonneg_right (by omega) (by omega))

theorem rung_qt {L : Nat} (h : L ≤ 65535) : Flt.rung (qt L) = qt L := by
  obtain ⟨-, q1, q2, q3, q4⟩ := Flt.qt_val (l := L) (by omega)
  unfold Flt.rung
  exact Nat.mod_eq_of_lt q4

theorem age_qt {A : Nat} (h : A ≤ 65535) : ageV (qt A) = qt A := by
  obtain ⟨-, q1, q2, q3, q4⟩ := Flt.qt_val (l := A) (by omega)
  unfold ageV
  by_cases h0 : A = 0
  · subst h0
    rw [Flt.qt_zero]
    simp
  · have : (FloatKind.f64.format.order (qt A) 0 == some .gt) = true := by
      rw [Flt.t_gt q1.not_nan Flt.zero_fin.1.not_nan, q3, Flt.zero_fin.2]
      exact decide_eq_true (Int.mul_pos (by omega) (by have := Flt.V_pos; omega))
    rw [this]; rfl

theorem ge_qt {A L : Nat} (hA : A ≤ 65535) (hL : L ≤ 65535) : (FloatKind.f64.format.order (qt A) (qt L) == some .gt || FloatKind.f64.format.order (qt A) (qt L) == some .eq) = decide (L ≤ A) := by
  have q := Flt.qt_val (l := A) (by omega)
  have r := Flt.qt_val (l := L) (by omega)
  rw [Flt.t_ge q.2.1.not_nan r.2.1.not_nan]
  exact decide_eq_decide.2 (Flt.qt_le (by omega) (by omega))

theorem wait_qt {A : Nat} (h : A ≤ 65535) (h0 : 0 < A) : waitV (qt A) = qt A := by
  obtain ⟨-, q1, q2, q3, q4⟩ := Flt.qt_val (l := A) (by omega)
  unfold waitV
  have : (FloatKind.f64.format.order (qt A) 0 == some .gt) = true := by
    rw [Flt.t_gt q1.not_nan Flt.zero_fin.1.not_nan, q3, Flt.zero_fin.2]
    exact decide_eq_true (Int.mul_pos (by omega) (by have := Flt.V_pos; omega))
  rw [this]; rfl

theorem fld (x y : Value) (w : World) : (Instr.field 39 (.agg #[x, y]) 0).run Try.prog w = .ok x w := by kernel_rfl

set_option maxHeartbeats 2000000 in
theorem walk (L A : Nat) (n : Int) (hL : L ≤ 65535) (hA : A ≤ 65535) (w : World) :
    Calls Try.prog 5 #[.int .u16 L, .int .u16 A, .int .i64 n] w fun e w' => e = .returned (.bool true) ∧ Keep (fun _ => False) w w' := by
  have o1 : ∀ t w, (binOp .quo t (.float .f64 (floatOfInt .f64 (L : Int))) (.float .f64 4616189618054758400)).run Try.prog w = .ok (.float .f64 (qt L)) w := fun t w => run_float_arith w .quo t .f64 _ _ _ (Flt.qt_val (by omega)).1
  have o2 : ∀ t w, (binOp .quo t (.float .f64 (floatOfInt .f64 (A : Int))) (.float .f64 4616189618054758400)).run Try.prog w = .ok (.float .f64 (qt A)) w := fun t w => run_float_arith w .quo t .f64 _ _ _ (Flt.qt_val (by omega)).1
  go_enter Try.func5, Try.ntmps5
  go_wp2_with fail
  refine (begun_any _).mono ?_
  rintro e w1 ⟨rfl, hk1⟩
  have HK1 := Lib.hid hk1
  clear hk1
  go_wp2_with fail
  refine (new_ok (okp_quarters hL) _).mono ?_
  rintro e w2 ⟨b, rfl, hb1, hb2, hk2⟩
  rw [rung_qt hL] at hb2
  have hz1 : w.heap.size ≤ b := by have := HK1.out.size; omega
  have HB := Lib.hid hb2
  have HK2 := Lib.hid (HK1.out.trans hk2)
  have hz2 := lt_of_block hb2
  clear hb2 hk2 HK1 hb1
  go_wp2_with fail
  refine (seen_ok HB.out (by omega) (by omega) smo_eight).mono ?_
  rintro e w3 ⟨rfl, hk3, hb3⟩
  rw [canon_eight] at hb3
  have HB3 := Lib.hid hb3
  have HK3 := Lib.hid (HK2.out.own hk3 (fun k hk => Or.inr (by omega)))
  have hz3 := lt_of_block hb3
  clear hb3 hk3 HK2 HB o1 o2 hz2
  by_cases n1 : n < 0
  · go_wp2_with fail
    go_ret
    exact ⟨rfl, HK3.out⟩
  by_cases n2 : 7 < n
  · go_wp2_with fail
    go_ret
    exact ⟨rfl, HK3.out⟩
  by_cases hAL : L ≤ A
  · have t1 := ge_qt hA hL
    rw [decide_eq_true hAL] at t1
    have t2 : (FloatKind.f64.format.order 0 0 == some .eq) = true := by decide +kernel
    go_wp2_with fail
    refine (plan_go HB3.out (fin_lit (by omega)) (by omega) (by omega) (Or.inr (Or.inr (Or.inl (by rw [age_qt hA]; exact t1))))).mono ?_
    rintro e w4 ⟨rfl, hk4⟩
    have HK4 := Lib.hid (HK3.out.trans hk4)
    clear hk4 HK3
    go_wp2_with fail
    go_ret
    exact ⟨rfl, HK4.out.alloc _⟩
  · have t1 := ge_qt hA hL
    rw [decide_eq_false hAL] at t1
    have D := Flt.qt_val (l := L - A) (by omega)
    have t2 : (FloatKind.f64.format.order (qt (L - A)) (qt (L - A)) == some .eq) = true := by rw [Flt.t_eq D.2.1.not_nan D.2.1.not_nan]; simp
    have t4 := ge_qt (A := L - 1) (L := L) (by omega) hL
    rw [decide_eq_false (by omega)] at t4
    have s1 : floatBits .sub .f64 (qt L) (qt A) = some (qt (L - A)) := Flt.qt_sub (by omega) (by omega)
    have s2 : floatBits .add .f64 (qt A) (qt (L - A)) = some (qt L) := by
      have := Flt.qt_add (a := A) (b := L - A) (by omega) (by omega)
      rwa [show A + (L - A) = L by omega] at this
    have s3 : floatBits .sub .f64 (qt L) 4598175219545276416 = some (qt (L - 1)) := by
      have := Flt.qt_sub (l := L) (a := 1) (by omega) (by omega)
      rwa [Flt.qt_one] at this
    have s4 : floatBits .sub .f64 (qt L) (qt (L - 1)) = some (qt 1) := by
      have := Flt.qt_sub (l := L) (a := L - 1) (by omega) (by omega)
      rwa [show L - (L - 1) = 1 by omega] at this
    have t5 := ge_qt (A := L) (L := L) hL hL
    rw [decide_eq_true (by omega)] at t5
    have o1 : ∀ t w, (binOp .sub t (.float .f64 (qt L)) (.float .f64 (qt A))).run Try.prog w = .ok (.float .f64 (qt (L - A))) w := fun t w => run_float_arith w .sub t .f64 _ _ _ s1
    have o2 : ∀ t w, (binOp .add t (.float .f64 (qt A)) (.float .f64 (qt (L - A)))).run Try.prog w = .ok (.float .f64 (qt L)) w := fun t w => run_float_arith w .add t .f64 _ _ _ s2
    have o3 : ∀ t w, (binOp .sub t (.float .f64 (qt L)) (.float .f64 4598175219545276416)).run Try.prog w = .ok (.float .f64 (qt (L - 1))) w := fun t w => run_float_arith w .sub t .f64 _ _ _ s3
    have S1 := Lib.hid s1
    have S4 := Lib.hid s4
    have T1 := Lib.hid t1
    have T4 := Lib.hid t4
    have T5 := Lib.hid t5
    have K4 : Hid (n ≤ 0 ∨ n < wantV 8 4620693217682128896) := by rw [want_eight]; exact Or.inr (by omega)
    have fl := fld
    clear D s1 s2 s3 s4 t4 t5
    go_wp2_with fail
    refine (plan_wait HB3.out (fin_lit (by omega)) (by omega) (by omega) (by omega) (by omega) (by rw [age_qt hA]; exact T1.out) K4.out (by rw [age_qt hA]; exact S1.out)).mono ?_
    rintro e w4 ⟨rfl, hk4⟩
    rw [wait_qt (by omega) (by omega)]
    have HK4 := Lib.hid (HK3.out.trans hk4)
    have HB4 := Lib.hid (keep_keep hk4 HB3.out)
    clear hk4 HK3
    go_wp2_with fail
    have hx4 := blk_new w4 (.cells #[.bool false, .float .f64 (qt (L - A))] 39)
    refine (plan_go (blk_alloc HB4.out _) (fin_lit (by omega)) (by omega) (by omega) (Or.inr (Or.inr (Or.inl (by rw [age_qt hL]; exact T5.out))))).mono ?_
    rintro e w5 ⟨rfl, hk5⟩
    have hx5 := keep_keep hk5 hx4
    have HK5 := Lib.hid ((HK4.out.alloc _).trans hk5)
    have HB5 := Lib.hid (keep_keep hk5 (blk_alloc HB4.out _))
    have d0 := blk_cell hx5 0
    have d1 := blk_cell hx5 1
    simp at d0 d1
    have HX5 := Lib.hid hx5
    clear hk5 HK4 HB4 hx4 hx5
    go_wp2_with fail
    refine (plan_wait HB5.out (fin_lit (by omega)) (by omega) (by omega) (by omega) (by omega) (by rw [age_qt (by omega)]; exact T4.out) K4.out (by rw [age_qt (by omega)]; exact S4.out)).mono ?_
    rintro e w6 ⟨rfl, hk6⟩
    have HK6 := Lib.hid (HK5.out.trans hk6)
    have HB6 := Lib.hid (keep_keep hk6 HB5.out)
    clear hk6 HK5 HB5 HX5
    go_wp2_with fail
    refine (plan_go HB6.out (fin_lit (by omega)) (by omega) (by omega) (Or.inl (by omega))).mono ?_
    rintro e w7 ⟨rfl, hk7⟩
    have HK7 := Lib.hid (HK6.out.trans hk7)
    have HB7 := Lib.hid (keep_keep hk7 HB6.out)
    clear hk7 HK6 HB6
    go_wp2_with fail
    refine (plan_go HB7.out (fin_lit (by omega)) (by omega) (by omega) (Or.inr (Or.inl (by omega)))).mono ?_
    rintro e w8 ⟨rfl, hk8⟩
    have HK8 := Lib.hid (HK7.out.trans hk8)
    clear hk8 HK7 HB7
    go_wp2_with fail
    go_ret
    exact ⟨rfl, HK8.out⟩

theorem own : ownKnob Try.prog.godebug = none := by kernel_rfl
set_option maxRecDepth 100000 in
theorem lifted (os : Os) (started : os.Started) (H : Type) (enc : TypeId × Value → H) :
    ReturnsInHanded {} Try.checked os 5 .any (Rows.paceWaitsSpec.pre6 enc Try.prog Try.f5 Rows.paceWaitsRow.domain false) (Rows.paceWaitsSpec.post enc Try.prog Try.f5 false true false false) := by
  refine returnsInHanded_of_change (C := Try.checked) own started (by kernel_rfl) Try.func5
    (ChangeSpec.witness6 (enc := enc) (C := Try.checked) false ⟨#[], #[.int .u16 0, .int .u16 0, .int .i64 0], []⟩ 8 (by kernel_rfl) (by kernel_rfl) (by kernel_rfl) (by kernel_rfl)) ?_
  intro W base args ds gs before hval0 hW hcnd _
  have hval : ∀ (j : Nat) t v, Try.f5.params[j]? = some t → args[j]? = some v → Value.okWide Try.prog W .any base t v := hval0
  have hW' := hW
  obtain ⟨p, q, hA0, hV, rfl, hfz, hnd⟩ := hW
  have hA : DataW.TrodAll enc Try.prog W 0 (fun _ => true) true Try.f5.params.toList args.toList ds p := hA0
  rw [Try.params5] at hA hval
  obtain ⟨v0, v1, v2, d0, d1, d2, p0, p1, p2, rfl, rfl, rfl, h0, h1, h2⟩ := trodAll_three hA
  obtain ⟨a0, rfl, rfl, rfl, w0⟩ := open_int Try.underlying49 (hval 0 49 v0 rfl rfl) h0
  obtain ⟨a1, rfl, rfl, rfl, w1⟩ := open_int Try.underlying49 (hval 1 49 v1 rfl rfl) h1
  obtain ⟨a2, rfl, rfl, rfl, w2⟩ := open_int Try.underlying3 (hval 2 3 v2 rfl rfl) h2
  have b0 : 0 ≤ a0 ∧ a0 ≤ 65535 := by simpa [Lit.wf, IntKind.min, IntKind.max, IntKind.signed, IntKind.bits] using w0
  have b1 : 0 ≤ a1 ∧ a1 ≤ 65535 := by simpa [Lit.wf, IntKind.min, IntKind.max, IntKind.signed, IntKind.bits] using w1
  obtain ⟨L, rfl⟩ := Int.eq_ofNat_of_zero_le b0.1
  obtain ⟨A, rfl⟩ := Int.eq_ofNat_of_zero_le b1.1
  refine (walk L A a2 (by omega) (by omega) W).mono fun e W' ⟨he, hk⟩ => ?_
  subst he
  exact ⟨_, rfl, law_post (by kernel_rfl) (T := 4) (by rw [Try.params5]; intro t ht; simp at ht; rcases ht with rfl | rfl <;> exact ⟨by kernel_rfl, by decide +kernel⟩) hW' rfl rfl rfl Try.underlying4 hk.none⟩

theorem over : Rows.paceWaitsRow.holds Try.pinned (OpenSpec.ofChange Rows.paceWaitsSpec) :=
  OpenClaim.holds_of_wide 5 Try.f5 rfl rfl rfl rfl rfl rfl rfl ⟨rfl, rfl, rfl, rfl, rfl⟩ rfl rfl rfl rfl rfl (by kernel_rfl) Try.func5 (by kernel_rfl)
    (of_decide_eq_true (by kernel_rfl)) (by unfold Func.isWrapper; first | (rw [if_pos (by decide +kernel)]; kernel_rfl) | (rw [if_neg (by decide +kernel)]; exact ⟨rfl, rfl⟩))
    (fun os started H enc _ => lifted os started H enc)

theorem proved : Rows.PaceWaitsSaid :=
  over
end Go.Proofs.Ytafglefiodanbaa.paceWaits
