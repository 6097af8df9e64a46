/- One contract of Plan for every plan; the steps of smoothing stay finite. By an AI agent. -/
import Derived.Test.YtafglefiodanbaaPaceD
namespace Go.Proofs.Ytafglefiodanbaa
open Go.ChangeShapes Go.WideShapes Go.ChangeAt Go.RowKit
open Flt (U fv ceilW mag rung)
set_option linter.unusedVariables false

def planG (most bytes : Int) (linger s : Nat) (n m : Int) (a : Nat) : Bool :=
  decide (most ≤ n) || decide (bytes ≤ m) || (FloatKind.f64.format.order (ageV a) linger == some .gt || FloatKind.f64.format.order (ageV a) linger == some .eq) || (decide (0 < n) && decide (wantV most s ≤ n))
def planW (most bytes : Int) (linger s : Nat) (n m : Int) (a : Nat) : Nat :=
  if planG most bytes linger s n m a then 0 else waitV ((floatBits .sub .f64 linger (ageV a)).getD 0)

theorem age_not_nan (a : Nat) : Flt.nan (ageV a) = false ∧ 0 ≤ fv (ageV a) := by
  unfold ageV
  cases h : (FloatKind.f64.format.order a 0 == some .gt)
  · exact ⟨Flt.zero_fin.1.not_nan, by simp [Flt.zero_fin.2]⟩
  · have := Flt.gt_yes h
    rw [Flt.zero_fin.2] at this
    exact ⟨this.1, by simp; omega⟩

/-- Where the age is below a finite linger, the difference is a number. -/
theorem sub_ok {linger a : Nat} (hl : Flt.Fin linger) (h : (FloatKind.f64.format.order (ageV a) linger == some .gt || FloatKind.f64.format.order (ageV a) linger == some .eq) = false) :
    fv (ageV a) < fv linger ∧ Flt.Fin (ageV a) ∧ ∃ d, floatBits .sub .f64 linger (ageV a) = some d := by
  have ha := age_not_nan a
  rw [Flt.t_ge ha.1 hl.not_nan] at h
  have h1 : fv (ageV a) < fv linger := by have := of_decide_eq_false h; omega
  have hf : Flt.Fin (ageV a) := by
    have h5 : (fv (ageV a)).natAbs = mag (rung (ageV a)) := Flt.sv_abs _ _
    have h6 : (fv linger).natAbs = mag (rung linger) := Flt.sv_abs _ _
    have h7 : mag (rung (ageV a)) ≤ mag (rung linger) := by have := ha.2; omega
    have := Flt.le_of_mag h7
    unfold Flt.Fin at *
    omega
  obtain ⟨w, hw, -⟩ := Flt.sub_near hl hf
  exact ⟨h1, hf, w, hw⟩

theorem plan_any {b : Nat} {most bytes n m : Int} {linger al a s : Nat} {w : World} (hb : w.heap[b]? = some (.cells (pcells most bytes linger al s) 53 (0, 0)))
    (hs : Flt.Fin s) (hl : Flt.Fin linger) (h1 : 1 ≤ most) (h2 : most ≤ 256) :
    Calls Try.prog 12 #[.pointer (some ⟨b, 0, none⟩), .int .i64 n, .int .i64 m, .float .f64 a] w fun e w' => e = .returned (.agg #[.bool (planG most bytes linger s n m a), .float .f64 (planW most bytes linger s n m a)]) ∧ Keep (fun _ => False) w w' := by
  cases hg : planG most bytes linger s n m a
  · have hg' := hg
    unfold planG at hg'
    simp only [Bool.or_eq_false_iff, decide_eq_false_iff_not, Bool.and_eq_false_iff] at hg'
    obtain ⟨⟨⟨g1, g2⟩, g3⟩, g4⟩ := hg'
    have g3' := Bool.or_eq_false_iff.2 g3
    obtain ⟨-, -, d, hd⟩ := sub_ok hl g3'
    refine (plan_wait hb hs h1 h2 (by omega) (by omega) g3' (by omega) hd).mono fun e w' h => ?_
    have : planW most bytes linger s n m a = waitV d := by unfold planW; rw [hg, hd]; rfl
    rw [this]
    exact h
  · have hg' := hg
    unfold planG at hg'
    simp only [Bool.or_eq_true, decide_eq_true_eq, Bool.and_eq_true] at hg'
    refine (plan_go (a := a) (n := n) (m := m) hb hs h1 h2 ?_).mono fun e w' h => ?_
    · rcases hg' with ((h | h) | h) | h
      · exact Or.inl h
      · exact Or.inr (Or.inl h)
      · exact Or.inr (Or.inr (Or.inl (by rw [Bool.or_eq_true]; exact h)))
      · exact Or.inr (Or.inr (Or.inr h))
    · have : planW most bytes linger s n m a = 0 := by unfold planW; rw [hg]; rfl
      rw [this]
      exact h

theorem plan3_any {b : Nat} {most bytes n m : Int} {linger al a s : Nat} {w : World} (hb : w.heap[b]? = some (.cells (rcells most bytes linger al s) 56 (0, 0)))
    (hs : Flt.Fin s) (hl : Flt.Fin linger) (h1 : 1 ≤ most) (h2 : most ≤ 256) :
    Calls Try.prog 15 #[.pointer (some ⟨b, 0, none⟩), .int .i64 n, .int .i64 m, .float .f64 a] w fun e w' => e = .returned (.agg #[.bool (planG most bytes linger s n m a), .float .f64 (planW most bytes linger s n m a)]) ∧ Keep (fun _ => False) w w' := by
  cases hg : planG most bytes linger s n m a
  · have hg' := hg
    unfold planG at hg'
    simp only [Bool.or_eq_false_iff, decide_eq_false_iff_not, Bool.and_eq_false_iff] at hg'
    obtain ⟨⟨⟨g1, g2⟩, g3⟩, g4⟩ := hg'
    have g3' := Bool.or_eq_false_iff.2 g3
    obtain ⟨-, -, d, hd⟩ := sub_ok hl g3'
    refine (plan3_wait hb hs h1 h2 (by omega) (by omega) g3' (by omega) hd).mono fun e w' h => ?_
    have : planW most bytes linger s n m a = waitV d := by unfold planW; rw [hg, hd]; rfl
    rw [this]
    exact h
  · have hg' := hg
    unfold planG at hg'
    simp only [Bool.or_eq_true, decide_eq_true_eq, Bool.and_eq_true] at hg'
    refine (plan3_go (a := a) (n := n) (m := m) hb hs h1 h2 ?_).mono fun e w' h => ?_
    · rcases hg' with ((h | h) | h) | h
      · exact Or.inl h
      · exact Or.inr (Or.inl h)
      · exact Or.inr (Or.inr (Or.inl (by rw [Bool.or_eq_true]; exact h)))
      · exact Or.inr (Or.inr (Or.inr h))
    · have : planW most bytes linger s n m a = 0 := by unfold planW; rw [hg]; rfl
      rw [this]
      exact h

/-! ### what params that are let are -/
theorem big_U : Flt.Fin 4697254411347427328 ∧ fv 4697254411347427328 = 1048576 * (U : Int) := by
  refine ⟨fin_lit (by omega), ?_⟩
  decide +kernel

theorem fin_le {w : Nat} (hn : Flt.nan w = false) (h0 : 0 ≤ fv w) {x : Nat} (hx : Flt.Fin x) (h1 : fv w ≤ fv x) : Flt.Fin w := by
  have h5 : (fv w).natAbs = mag (rung w) := Flt.sv_abs _ _
  have h6 : (fv x).natAbs = mag (rung x) := Flt.sv_abs _ _
  have := Flt.le_of_mag (a := rung w) (b := rung x) (by omega)
  unfold Flt.Fin at *
  omega

theorem okp_linger {most bytes : Int} {linger al : Nat} (h : OkP most bytes linger al) : Flt.Fin linger ∧ 0 ≤ fv linger ∧ Flt.Fin al ∧ 0 < fv al ∧ fv al ≤ U := by
  have a := Flt.ge_yes h.l1
  have b := Flt.le_yes h.l2
  have c := Flt.gt_yes h.a1
  have d := Flt.le_yes h.a2
  rw [Flt.zero_fin.2] at a c
  have e := fin_le a.1 a.2.2 big_U.1 b.2.2
  have f := fin_le c.1 (by omega) Flt.one_fin.1 d.2.2
  rw [Flt.one_fin.2.1] at d
  exact ⟨e, a.2.2, f, c.2.2, d.2.2⟩

theorem rung_fin {w : Nat} (h : Flt.Fin w) (h0 : 0 ≤ fv w) : Flt.Fin (rung w) ∧ fv (rung w) = fv w := by
  have hr : rung (rung w) = rung w := by unfold Flt.rung; omega
  have hn : Flt.neg (rung w) = false := by
    unfold Flt.neg Flt.rung
    rw [beq_eq_false_iff_ne]
    omega
  refine ⟨by unfold Flt.Fin; rw [hr]; exact h, ?_⟩
  have h5 : (fv w).natAbs = mag (rung w) := Flt.sv_abs _ _
  have : fv (rung w) = mag (rung w) := by unfold Flt.fv; rw [hn, hr]; rfl
  omega

/-- A plan with the linger's sign struck is the same plan. -/
theorem plan_rung {linger : Nat} (hl : Flt.Fin linger) (h0 : 0 ≤ fv linger) (h64 : linger < 2 ^ 64) (most bytes : Int) (s : Nat) (n m : Int) (a : Nat) :
    planG most bytes (rung linger) s n m a = planG most bytes linger s n m a ∧ planW most bytes (rung linger) s n m a = planW most bytes linger s n m a := by
  have hr := rung_fin hl h0
  have ha := age_not_nan a
  have hg : (FloatKind.f64.format.order (ageV a) (rung linger) == some .gt || FloatKind.f64.format.order (ageV a) (rung linger) == some .eq) = (FloatKind.f64.format.order (ageV a) linger == some .gt || FloatKind.f64.format.order (ageV a) linger == some .eq) := by
    rw [Flt.t_ge ha.1 hr.1.not_nan, Flt.t_ge ha.1 hl.not_nan, hr.2]
  have hG : planG most bytes (rung linger) s n m a = planG most bytes linger s n m a := by unfold planG; rw [hg]
  refine ⟨hG, ?_⟩
  unfold planW
  rw [hG]
  cases hx : planG most bytes linger s n m a
  · have hx' := hx
    unfold planG at hx'
    simp only [Bool.or_eq_false_iff] at hx'
    have := sub_ok hl (Bool.or_eq_false_iff.2 hx'.1.2)
    have hn : Flt.neg linger = false := by
      cases hn : Flt.neg linger
      · rfl
      · exfalso
        have h1 : fv linger = -(mag (rung linger) : Int) := by unfold Flt.fv; rw [hn]; rfl
        have := ha.2
        omega
    have he : rung linger = linger := by
      unfold Flt.neg at hn
      rw [beq_eq_false_iff_ne] at hn
      unfold Flt.rung
      omega
    rw [he]
  · rfl

/-! ### smoothing stays finite -/
theorem pow_rep (k : Nat) (h : k ≤ 1000) : ∃ R, R < 2047 * 2 ^ 52 ∧ mag R = 2 ^ k * U := Flt.pow_repU k (by omega)

theorem smo_step {al S k : Nat} {n : Int} (a1 : (FloatKind.f64.format.order al 0 == some .gt) = true)
    (a2 : (FloatKind.f64.format.order al 4607182418800017408 == some .lt || FloatKind.f64.format.order al 4607182418800017408 == some .eq) = true)
    (hf : Flt.Fin al) (h0 : 0 < fv al) (h1 : fv al ≤ U) (hS : Flt.Fin S) (hk : mag (rung S) ≤ 2 ^ k * U) (hk1 : 8 ≤ k) (hk2 : k ≤ 900) (n1 : 1 ≤ n) (n2 : n ≤ 256) :
    ∃ d y s, Smo S (floatOfInt .f64 n) al d y s ∧ canonF s = s ∧ Flt.Fin s ∧ mag (rung s) ≤ 2 ^ (k + 2) * U := by
  obtain ⟨N, rfl⟩ := Int.eq_ofNat_of_zero_le (show 0 ≤ n by omega)
  obtain ⟨x1, x2, x3, x4⟩ := Flt.ofInt_fin (n := N) (by omega)
  have hU := Flt.U_pos
  have p8 : 2 ^ 8 ≤ 2 ^ k := Nat.pow_le_pow_right (by omega) hk1
  have q1 : 2 ^ (k + 1) = 2 ^ k * 2 := Nat.pow_succ ..
  have q2 : 2 ^ (k + 2) = 2 ^ (k + 1) * 2 := Nat.pow_succ ..
  have mS : (fv S).natAbs = mag (rung S) := Flt.sv_abs _ _
  have mal : (fv al).natAbs = mag (rung al) := Flt.sv_abs _ _
  have hN : N * U ≤ 2 ^ k * U := Nat.mul_le_mul_right U (by omega)
  have hNi : ((N : Nat) : Int) * (U : Int) = ((N * U : Nat) : Int) := (Int.natCast_mul ..).symm
  -- d
  obtain ⟨d, hd, nd⟩ := Flt.sub_near x1 hS
  obtain ⟨R1, r1, r2⟩ := pow_rep (k + 1) (by omega)
  have dR : rung d ≤ R1 := by
    refine nd.le ?_
    rw [r2, q1, Nat.sub_self, Nat.pow_zero, Nat.mul_one, Nat.mul_right_comm]
    rw [x2, hNi]
    omega
  have dF : Flt.Fin d := by unfold Flt.Fin; omega
  have dm : mag (rung d) ≤ 2 ^ (k + 1) * U := by rw [← r2]; exact Flt.mag_le dR
  -- y
  obtain ⟨y, hy, ny⟩ := Flt.mul_near hf dF
  have yR : rung y ≤ R1 := by
    refine ny.le ?_
    rw [r2, Nat.mul_comm]
    exact Nat.mul_le_mul dm (Flt.le_U (P := 2148) (by omega) rfl)
  have yF : Flt.Fin y := by unfold Flt.Fin; omega
  have ym : mag (rung y) ≤ 2 ^ (k + 1) * U := by rw [← r2]; exact Flt.mag_le yR
  have my : (fv y).natAbs = mag (rung y) := Flt.sv_abs _ _
  -- s
  obtain ⟨s, hs, ns⟩ := Flt.add_near hS yF
  obtain ⟨R2, r3, r4⟩ := pow_rep (k + 2) (by omega)
  have sR : rung s ≤ R2 := by
    refine ns.le ?_
    rw [r4, q2, Nat.sub_self, Nat.pow_zero, Nat.mul_one, Nat.mul_right_comm]
    have : 2 ^ k * U ≤ 2 ^ (k + 1) * U := Nat.mul_le_mul_right U (by omega)
    omega
  have sF : Flt.Fin s := by unfold Flt.Fin; omega
  refine ⟨d, y, s, ⟨a1, a2, hS.not_nan, x1.not_nan, hd, hy, hs⟩, ?_, sF, by rw [← r4]; exact Flt.mag_le sR⟩
  unfold canonF
  rw [sF.not_nan]
  rfl

/-- Both Seens, of whatever number: the same number is wanted behind them. -/
theorem seen_both {most bytes : Int} {linger al S k : Nat} (h : OkP most bytes linger al) (hS : Flt.Fin S) (hk : mag (rung S) ≤ 2 ^ k * U) (hk1 : 8 ≤ k) (hk2 : k ≤ 900) (n : Int) :
    ∃ S', Flt.Fin S' ∧ mag (rung S') ≤ 2 ^ (k + 2) * U ∧
      (∀ (bytes : Int) (linger b : Nat) (w : World), w.heap[b]? = some (.cells (pcells most bytes linger al S) 53 (0, 0)) →
        Calls Try.prog 10 #[.pointer (some ⟨b, 0, none⟩), .int .i64 n] w fun e w' => e = .returned (.tuple #[]) ∧ Keep (· = b) w w' ∧ w'.heap[b]? = some (.cells (pcells most bytes linger al S') 53 (0, 0))) ∧
      (∀ (bytes : Int) (linger b : Nat) (w : World), w.heap[b]? = some (.cells (rcells most bytes linger al S) 56 (0, 0)) →
        Calls Try.prog 13 #[.pointer (some ⟨b, 0, none⟩), .int .i64 n] w fun e w' => e = .returned (.tuple #[]) ∧ Keep (· = b) w w' ∧ w'.heap[b]? = some (.cells (rcells most bytes linger al S') 56 (0, 0))) := by
  by_cases hn : 1 ≤ n ∧ n ≤ most
  · have l := okp_linger h
    obtain ⟨d, y, s, h1, h2, h3, h4⟩ := smo_step h.a1 h.a2 l.2.2.1 l.2.2.2.1 l.2.2.2.2 hS hk hk1 hk2 hn.1 (by have := h.m2; omega)
    refine ⟨s, h3, h4, fun bytes linger b w hb => ?_, fun bytes linger b w hb => ?_⟩
    · have := seen_ok hb hn.1 hn.2 h1
      rw [h2] at this
      exact this
    · have := seen3_ok hb hn.1 hn.2 h1
      rw [h2] at this
      exact this
  · refine ⟨S, hS, Nat.le_trans hk (Nat.mul_le_mul_right U (Nat.pow_le_pow_right (by omega) (by omega))), fun bytes linger b w hb => ?_, fun bytes linger b w hb => ?_⟩
    · exact (seen_out (by have := blk_cell hb 0; simpa using this) (by have := blk_cell hb 1; simpa using this) (by omega)).mono fun e w' ⟨he, hw⟩ => ⟨he, by subst hw; exact Keep.refl _ _, by subst hw; exact hb⟩
    · exact (seen3_out (by have := blk_cell hb 0; simpa using this) (by omega)).mono fun e w' ⟨he, hw⟩ => ⟨he, by subst hw; exact Keep.refl _ _, by subst hw; exact hb⟩
end Go.Proofs.Ytafglefiodanbaa
