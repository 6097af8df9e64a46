/- GaugeSmooth: proved. By an AI agent. -/
import Derived.Test.YtdkcnbcjjlaidaaGauI
namespace Go.Proofs.Ytdkcnbcjjlaidaa.gaugeSmooth
open Go.ChangeShapes Go.WideShapes Go.ChangeAt Go.RowKit
set_option linter.unusedVariables false
theorem own : ownKnob Try.prog.godebug = none := by kernel_rfl

theorem andNot_top (a : Nat) : bits BinOp.andNot IntKind.u64 (a : Int) 9223372036854775808 = (Flt.rung a : Int) := by
  have h1 : (BitVec.ofInt 64 (a : Int)).toNat = a % 2 ^ 64 := by rw [BitVec.ofInt_natCast, BitVec.toNat_ofNat]
  have h2 : (~~~ (BitVec.ofInt 64 9223372036854775808)).toNat = 2 ^ 63 - 1 := by decide
  show IntKind.u64.wrap ((BitVec.ofInt 64 (a : Int) &&& ~~~ (BitVec.ofInt 64 9223372036854775808)).toNat : Int) = _
  rw [BitVec.toNat_and, h1, h2, Nat.and_two_pow_sub_one_eq_mod, IntKind.wrap_u64]
  unfold Flt.rung
  omega

theorem abs_any (a : Nat) (w : World) :
    Calls Try.prog 33 #[.float .f64 a] w fun e w' => e = .returned (.float .f64 (Flt.rung a)) ∧ w = w' := by
  have e1 := ext_bits
  have e2 := ext_from
  have e3 := andNot_top
  go_enter Try.func33, Try.ntmps33
  go_wp2
  go_ret
  exact ⟨rfl, rfl⟩


theorem isinf_any (a : Nat) (w : World) :
    Calls Try.prog 14 #[.float .f64 a, .int .i64 0] w fun e w' => e = .returned (.bool (FloatKind.f64.format.order (Flt.rung a) 9218868437227405311 == some .gt)) ∧ w = w' := by
  go_enter Try.func14, Try.ntmps14
  go_wp2_with fail
  refine (abs_any _ _).mono ?_
  rintro e w' ⟨rfl, rfl⟩
  go_wp2_with fail
  go_ret
  exact ⟨rfl, rfl⟩

theorem zz {M A B K : Nat} (h : A = 0) (hB : B = 0) : M * A = B * K := by rw [h, hB, Nat.mul_zero, Nat.zero_mul]

open Flt in
theorem smooth_self {a : Nat} (h : Flt.Fin a) : (FloatKind.f64.format.order (smV a a 4607182418800017408) a == some .eq) = true := by
  have ha := h.not_nan
  obtain ⟨d, hd, nd⟩ := sub_near h h
  rw [Int.sub_self, if_pos rfl] at nd
  have d0 : d = 0 := by
    have := nd.exact (R := 0) (by omega) (by rw [mag_zero]; rfl)
    rw [this]
    cases neg a <;> decide
  subst d0
  obtain ⟨y, hy, ny⟩ := mul_near one_fin.1 zero_fin.1
  have y0 : y = 0 := by
    have := ny.exact (R := 0) (by omega) (zz (by rw [show rung 0 = 0 by decide]; exact mag_zero) mag_zero)
    rw [this, one_fin.2.2]
    decide
  subst y0
  obtain ⟨s, hs, ns⟩ := add_near h zero_fin.1
  rw [zero_fin.2, Int.add_zero] at ns
  have hr : rung a ≤ 2047 * 2 ^ 52 := Nat.le_of_lt h
  have hm : (fv a).natAbs = mag (rung a) := by unfold fv; rw [sv_abs]
  rw [hm] at ns
  have hsw := ns.exact (R := rung a) hr (by simp)
  have hfs : fv s = fv a := by
    rw [hsw, word_fv _ (by omega)]
    by_cases h0 : fv a = 0
    · rw [h0] at hm
      have : mag (rung a) = 0 := by rw [← hm]; rfl
      rw [this, h0]
      unfold sv
      split <;> simp
    · rw [if_neg h0]
      unfold fv at h0 ⊢
      unfold sv at h0 ⊢
      cases hn : neg a <;> simp [hn] at h0 ⊢ <;> omega
  have e1 : opF .sub a a = 0 := opF_some hd
  have e2 : opF .mul 4607182418800017408 0 = 0 := opF_some hy
  have e3 : opF .add a 0 = s := opF_some hs
  have k1 : okA1 4607182418800017408 = true := by decide +kernel
  have k2 : okA2 4607182418800017408 = true := by decide +kernel
  have hns : nan s = false := ns.not_nan
  have hv : smV a a 4607182418800017408 = s := by
    unfold smV canonF
    simp [k1, k2, ha, e1, e2, e3, hns]
  rw [hv, t_eq hns ha, hfs]
  simp

open Flt in
theorem inf_gt {a : Nat} (hn : nan a = false) (h : ¬ Flt.Fin a) : (FloatKind.f64.format.order (rung a) 9218868437227405311 == some .gt) = true := by
  have hr : rung a = 2047 * 2 ^ 52 := by
    unfold nan at hn
    unfold Flt.Fin at h
    simp at hn
    omega
  rw [hr]
  decide +kernel

set_option maxRecDepth 100000 in
set_option maxHeartbeats 4000000 in
theorem walk (u v t : Nat) (w : World) : Calls Try.prog 3 #[.int .u64 (u : Int), .int .u64 (v : Int), .int .u64 (t : Int)] w fun e w' => e = .returned (.bool true) ∧ Below w.heap.size w w' := by
  have e1 := ext_from
  have HS := Lib.hid (And.intro (smooth_any u v t) (And.intro (smooth3_any u v t) (smooth_any u u 4607182418800017408)))
  have HB := Lib.hid (bits_any (smV u v t))
  have HI := Lib.hid (And.intro (isnan_any u) (isinf_any u))
  have hfin : Flt.nan u = true ∨ (FloatKind.f64.format.order (Flt.rung u) 9218868437227405311 == some .gt) = true ∨ (FloatKind.f64.format.order (smV u u 4607182418800017408) u == some .eq) = true := by
    cases hn : Flt.nan u
    · by_cases hf : Flt.Fin u
      · exact Or.inr (Or.inr (smooth_self hf))
      · exact Or.inr (Or.inl (inf_gt hn hf))
    · exact Or.inl rfl
  generalize smV u v t = y at *
  generalize smE t = ey at *
  generalize hone : smV u u 4607182418800017408 = one at *
  generalize Flt.nan u = bn at *
  generalize hbi : (FloatKind.f64.format.order (Flt.rung u) 9218868437227405311 == some .gt) = bi at *
  clear hone hbi
  generalize smE 4607182418800017408 = ez at *
  go_enter Try.func3, Try.ntmps3
  go_wp2_with fail
  refine (begun_any w).mono ?_
  rintro e w1 ⟨rfl, hb1⟩
  have H1 := Lib.hid hb1
  clear hb1
  go_wp2_with fail
  refine (HS.out.1 _).mono ?_
  rintro e w2 ⟨rfl, hb2⟩
  have H2 := Lib.hid (H1.out.trans (hb2.mono H1.out.size))
  clear hb2
  go_wp2_with fail
  refine (HS.out.2.1 _).mono ?_
  rintro e w3 ⟨rfl, hb3⟩
  have H3 := Lib.hid (H2.out.trans (hb3.mono H2.out.size))
  clear hb3
  go_wp2_with fail
  refine (HB.out _ _).mono ?_
  rintro e w' ⟨rfl, rfl⟩
  have k1 : decide (y = y) = true := by simp
  rw [k1]
  go_wp2_with fail
  refine (HS.out.2.2 _).mono ?_
  rintro e w4 ⟨rfl, hb4⟩
  have H4 := Lib.hid (H3.out.trans (hb4.mono H3.out.size))
  clear hb4
  go_wp2_with fail
  refine (HI.out.1 _).mono ?_
  rintro e w' ⟨rfl, rfl⟩
  cases bn
  · go_wp2_with fail
    refine (HI.out.2 _).mono ?_
    rintro e w' ⟨rfl, rfl⟩
    cases bi
    · have k2 : (FloatKind.f64.format.order one u == some .eq) = true := by
        rcases hfin with h | h | h
        · cases h
        · cases h
        · exact h
      go_wp2_with fail
      go_ret
      exact ⟨rfl, H4.out⟩
    · clear hfin
      go_wp2_with fail
      go_ret
      exact ⟨rfl, H4.out⟩
  · clear hfin
    go_wp2_with fail
    go_ret
    exact ⟨rfl, H4.out⟩

set_option maxRecDepth 100000 in
theorem lifted (os : Os) (started : os.Started) (H : Type) (enc : TypeId × Value → H) :
    ReturnsInHanded {} Try.checked os 3 .any (Rows.gaugeSmoothSpec.pre6 enc Try.prog Try.f3 Rows.gaugeSmoothRow.domain false) (Rows.gaugeSmoothSpec.post enc Try.prog Try.f3 false true false false) := by
  refine returnsInHanded_of_change (C := Try.checked) own started (by kernel_rfl) Try.func3
    (ChangeSpec.witness6 (enc := enc) (C := Try.checked) false ⟨#[], #[.int .u64 0, .int .u64 0, .int .u64 0], []⟩ 8 (by kernel_rfl) (by kernel_rfl) (by kernel_rfl) (by kernel_rfl)) ?_
  intro W base args ds gs before hval0 hW hcnd _
  have hval : ∀ (j : Nat) t v, Try.f3.params[j]? = some t → args[j]? = some v → Value.okWide Try.prog W .any base t v := hval0
  have hW' := hW
  obtain ⟨p, q, hA0, hV, rfl, hfz, hnd⟩ := hW
  have hA : DataW.TrodAll enc Try.prog W 0 (fun _ => true) true Try.f3.params.toList args.toList ds p := hA0
  rw [Try.params3] at hA hval
  obtain ⟨v0, v1, v2, d0, d1, d2, p0, p1, p2, rfl, rfl, rfl, h0, h1, h2⟩ := trodAll_three hA
  obtain ⟨a0, rfl, rfl, rfl, w0⟩ := open_int Try.underlying22 (hval 0 22 v0 rfl rfl) h0
  obtain ⟨a1, rfl, rfl, rfl, w1⟩ := open_int Try.underlying22 (hval 1 22 v1 rfl rfl) h1
  obtain ⟨a2, rfl, rfl, rfl, w2⟩ := open_int Try.underlying22 (hval 2 22 v2 rfl rfl) h2
  have b0 : 0 ≤ a0 ∧ a0 ≤ 18446744073709551615 := by simpa [Lit.wf, IntKind.min, IntKind.max, IntKind.signed, IntKind.bits] using w0
  have b1 : 0 ≤ a1 ∧ a1 ≤ 18446744073709551615 := by simpa [Lit.wf, IntKind.min, IntKind.max, IntKind.signed, IntKind.bits] using w1
  have b2 : 0 ≤ a2 ∧ a2 ≤ 18446744073709551615 := by simpa [Lit.wf, IntKind.min, IntKind.max, IntKind.signed, IntKind.bits] using w2
  obtain ⟨u, rfl⟩ := Int.eq_ofNat_of_zero_le b0.1
  obtain ⟨v, rfl⟩ := Int.eq_ofNat_of_zero_le b1.1
  obtain ⟨t, rfl⟩ := Int.eq_ofNat_of_zero_le b2.1
  refine (walk u v t W).mono fun e W' ⟨he, hk⟩ => ?_
  subst he
  exact ⟨_, rfl, law_post (by kernel_rfl) (T := 4) (hts_of (by kernel_rfl)) hW' rfl rfl rfl Try.underlying4 hk⟩

theorem proved : Rows.GaugeSmoothSaid :=
  OpenClaim.holds_of_wide 3 Try.f3 rfl rfl rfl rfl rfl rfl rfl ⟨rfl, rfl, rfl, rfl, rfl⟩ rfl rfl rfl rfl rfl (by kernel_rfl) Try.func3 (by kernel_rfl)
    (of_decide_eq_true (by kernel_rfl)) (by unfold Func.isWrapper; first | (rw [if_pos (by decide +kernel)]; kernel_rfl) | (rw [if_neg (by decide +kernel)]; exact ⟨rfl, rfl⟩))
    (fun os started H enc _ => lifted os started H enc)
end Go.Proofs.Ytdkcnbcjjlaidaa.gaugeSmooth
