/- A float divided by a whole number: between what lies between. No program in sight. By an AI agent. -/
import Derived.Test.YtdkcnbcjjlaidaaFlt
namespace Go.Proofs.Ytdkcnbcjjlaidaa.Flt
open Ieee

theorem core_le {X k j T q0 st m' r dv : Nat} (hX : X = k * 2 ^ j) (hk : k < 2 ^ 53) (hm : 0 < m') (hdv : dv = m' * q0 + r) (hst : st = if r = 0 then 0 else 1) (hq : dv = 0 ∨ 2 ^ 53 ≤ q0)
    (h : dv * 2 ^ (T + 1) ≤ X * m') : (2 * q0 + st) * 2 ^ T ≤ X := by
  have h2 : 0 < 2 ^ T := Nat.two_pow_pos T
  rw [Nat.pow_succ] at h
  rcases hq with h0 | hq
  · have hq0 : q0 = 0 := by
      rcases Nat.eq_zero_or_pos q0 with h | h
      · exact h
      · have := Nat.mul_pos hm h; omega
    have hr0 : r = 0 := by omega
    rw [hst, if_pos hr0, hq0]
    simp
  · -- q0 * 2^(T+1) ≤ X
    have h3 : q0 * (2 ^ T * 2) ≤ X := by
      refine Nat.le_of_mul_le_mul_right (Nat.le_trans ?_ h) hm
      rw [hdv, Nat.add_mul]
      have : q0 * (2 ^ T * 2) * m' = m' * q0 * (2 ^ T * 2) := by rw [Nat.mul_comm, Nat.mul_assoc]
      omega
    by_cases hr : r = 0
    · rw [hst, if_pos hr]
      calc (2 * q0 + 0) * 2 ^ T = q0 * (2 ^ T * 2) := by rw [Nat.add_zero, Nat.mul_comm 2 q0, Nat.mul_assoc, Nat.mul_comm 2]
        _ ≤ X := h3
    · rw [hst, if_neg hr]
      have h4 : q0 * (2 ^ T * 2) < X := by
        refine Nat.lt_of_mul_lt_mul_right (a := m') (Nat.lt_of_lt_of_le ?_ h)
        rw [hdv, Nat.add_mul]
        have e : q0 * (2 ^ T * 2) * m' = m' * q0 * (2 ^ T * 2) := by rw [Nat.mul_comm, Nat.mul_assoc]
        have : 0 < r * (2 ^ T * 2) := Nat.mul_pos (by omega) (by omega)
        omega
      by_cases hj : T + 1 ≤ j
      · obtain ⟨d, rfl⟩ := Nat.exists_eq_add_of_le hj
        have e : X = (k * 2 ^ d) * (2 ^ T * 2) := by
          rw [hX, Nat.pow_add, Nat.pow_succ, Nat.mul_comm (2 ^ T * 2), Nat.mul_assoc]
        rw [e] at h4 ⊢
        have h5 : q0 < k * 2 ^ d := Nat.lt_of_mul_lt_mul_right h4
        calc (2 * q0 + 1) * 2 ^ T ≤ (q0 + 1) * (2 ^ T * 2) := by
              rw [Nat.mul_comm (2 ^ T) 2, ← Nat.mul_assoc]
              exact Nat.mul_le_mul_right _ (by omega)
          _ ≤ _ := Nat.mul_le_mul_right _ h5
      · exfalso
        have h5 : X < 2 ^ 53 * 2 ^ T := by
          rw [hX]
          calc k * 2 ^ j ≤ k * 2 ^ T := Nat.mul_le_mul_left _ (Nat.pow_le_pow_right (by omega) (by omega))
            _ < 2 ^ 53 * 2 ^ T := Nat.mul_lt_mul_of_pos_right hk h2
        have h6 : 2 ^ 53 * 2 ^ T ≤ q0 * (2 ^ T * 2) := by
          refine Nat.le_trans (Nat.mul_le_mul_right _ hq) ?_
          exact Nat.mul_le_mul_left _ (by omega)
        omega

theorem core_ge {X k j T q0 st m' r dv : Nat} (hX : X = k * 2 ^ j) (hk : k < 2 ^ 53) (hm : 0 < m') (hdv : dv = m' * q0 + r) (hr : r < m') (hst : st = if r = 0 then 0 else 1) (hq : dv = 0 ∨ 2 ^ 53 ≤ q0)
    (h : X * m' ≤ dv * 2 ^ (T + 1)) : X ≤ (2 * q0 + st) * 2 ^ T := by
  have h2 : 0 < 2 ^ T := Nat.two_pow_pos T
  rw [Nat.pow_succ] at h
  rcases hq with h0 | hq
  · rw [h0, Nat.zero_mul] at h
    have : X = 0 := by
      rcases Nat.eq_zero_or_pos X with h' | h'
      · exact h'
      · have := Nat.mul_pos h' hm; omega
    omega
  · by_cases hj : T + 1 ≤ j
    · obtain ⟨d, rfl⟩ := Nat.exists_eq_add_of_le hj
      have e : X = (k * 2 ^ d) * (2 ^ T * 2) := by
        rw [hX, Nat.pow_add, Nat.pow_succ, Nat.mul_comm (2 ^ T * 2), Nat.mul_assoc]
      have h5 : k * 2 ^ d < q0 + 1 := by
        refine Nat.lt_of_mul_lt_mul_right (a := 2 ^ T * 2 * m') ?_
        calc k * 2 ^ d * (2 ^ T * 2 * m') = X * m' := by rw [e]; ac_rfl
          _ ≤ dv * (2 ^ T * 2) := h
          _ < m' * (q0 + 1) * (2 ^ T * 2) := Nat.mul_lt_mul_of_pos_right (by rw [hdv, Nat.mul_add]; omega) (by omega)
          _ = (q0 + 1) * (2 ^ T * 2 * m') := by rw [Nat.mul_comm m', Nat.mul_assoc, Nat.mul_comm m']
      rw [e]
      calc k * 2 ^ d * (2 ^ T * 2) ≤ q0 * (2 ^ T * 2) := Nat.mul_le_mul_right _ (by omega)
        _ = 2 * q0 * 2 ^ T := by rw [Nat.mul_comm 2 q0, Nat.mul_assoc, Nat.mul_comm 2]
        _ ≤ (2 * q0 + st) * 2 ^ T := Nat.mul_le_mul_right _ (by omega)
    · have h5 : X < 2 ^ 53 * 2 ^ T := by
        rw [hX]
        calc k * 2 ^ j ≤ k * 2 ^ T := Nat.mul_le_mul_left _ (Nat.pow_le_pow_right (by omega) (by omega))
          _ < 2 ^ 53 * 2 ^ T := Nat.mul_lt_mul_of_pos_right hk h2
      have h6 : 2 ^ 53 * 2 ^ T ≤ (2 * q0 + st) * 2 ^ T := Nat.mul_le_mul_right _ (by omega)
      omega

theorem mag_form (R : Nat) : ∃ k j, mag R = k * 2 ^ j ∧ k < 2 ^ 53 := by
  rcases mag_split R with h | ⟨L, k, rfl, h1, h2⟩
  · exact ⟨R, 0, by rw [mag_small h]; simp, by omega⟩
  · exact ⟨k, L, mag_at L k h1 (by omega), h2⟩

/-- A quotient by a whole number: its sign; between what the exact one lies between. -/
theorem div_int {a n : Nat} (ha : Fin a) (h1 : 1 ≤ n) (h2 : n ≤ 2 ^ 53) : ∃ w, double.div a (floatOfInt .f64 (n : Int)) = some w ∧ neg w = neg a ∧ nan w = false ∧ w < 2 ^ 64 ∧
    (∀ R, mag (rung a) ≤ n * mag R → rung w ≤ R) ∧ (∀ R, R ≤ 2047 * 2 ^ 52 → n * mag R ≤ mag (rung a) → R ≤ rung w) := by
  obtain ⟨m, e, r1, r2, r3, r4⟩ := read_num' ha
  obtain ⟨b1, b2, b3, -⟩ := ofInt_fin h2
  obtain ⟨m', e', s1, s2, s3, s4⟩ := read_num' b1
  have hbm : mag (rung (floatOfInt .f64 (n : Int))) = n * U := by
    unfold fv at b2
    rw [b3] at b2
    have : ((mag (rung (floatOfInt .f64 (n : Int))) : Nat) : Int) = ((n * U : Nat) : Int) := by
      rw [Int.natCast_mul]; exact b2
    exact Int.ofNat_inj.1 this
  rw [hbm] at s3
  rw [b3] at s1
  have hU := U_pos
  have hm' : 0 < m' := by
    rcases Nat.eq_zero_or_pos m' with h | h
    · rw [h, Nat.zero_mul] at s3
      have := Nat.mul_pos (show 0 < n by omega) hU
      omega
    · exact h
  generalize hc : (e' + ((1074 : Nat) : Int)).toNat = c at *
  generalize hca : (e + ((1074 : Nat) : Int)).toNat = ca at *
  have hcl : c ≤ 1127 := by
    refine Nat.not_lt.1 fun hx => ?_
    have h3 := U_small (c := c) (by omega) hm' h2
    omega
  have hlog : m.log2 ≤ 52 := by
    by_cases hm : m = 0
    · subst hm; decide
    · have := (Nat.log2_lt hm).2 r4; omega
  have hlog' : m'.log2 ≤ 52 := by
    have := (Nat.log2_lt (by omega)).2 s4; omega
  generalize hmore : 54 + m'.log2 - m.log2 = more
  have hml : more ≤ 106 := by omega
  obtain ⟨T, hT⟩ : ∃ T : Nat, T + more + 1 + c = ca + 1300 := ⟨ca + 1300 - more - 1 - c, by omega⟩
  have hq : (double.read a).quotient 54 (double.read (floatOfInt .f64 (n : Int))) = some (.number (neg a) (2 * (m <<< more / m') + (m <<< more % m' != 0).toNat) (e - e' - more - 1)) := by
    rw [r1, s1]
    unfold Datum.quotient
    simp only [hmore]
    rw [if_neg (by omega)]
    simp
  have hN : Num 1300 (.number (neg a) (2 * (m <<< more / m') + (m <<< more % m' != 0).toNat) (e - e' - more - 1)) (neg a) ((2 * (m <<< more / m') + (m <<< more % m' != 0).toNat) * 2 ^ T) := by
    refine ⟨_, _, rfl, by omega, ?_⟩
    congr 2
    omega
  have hw := write_near hN (by omega)
  refine ⟨_, by show ((double.read _).quotient 54 (double.read _)).map double.write = _; rw [hq]; rfl, hw.neg, hw.not_nan, hw.lt, ?_, ?_⟩
  all_goals
    generalize hdv : m <<< more = dv at *
    have hd := Nat.div_add_mod dv m'
    have hst : (dv % m' != 0).toNat = if dv % m' = 0 then 0 else 1 := by
      by_cases h : dv % m' = 0 <;> simp [h]
    have hmod := Nat.mod_lt dv hm'
    have hqq : dv = 0 ∨ 2 ^ 53 ≤ dv / m' := by
      rw [← hdv, Nat.shiftLeft_eq]
      by_cases hm : m = 0
      · left; rw [hm, Nat.zero_mul]
      · right
        rw [Nat.le_div_iff_mul_le hm']
        have g1 : 2 ^ m.log2 ≤ m := Nat.log2_self_le hm
        have g2 : m' < 2 ^ (m'.log2 + 1) := Nat.lt_log2_self
        calc 2 ^ 53 * m' ≤ 2 ^ 53 * 2 ^ (m'.log2 + 1) := Nat.mul_le_mul_left _ (Nat.le_of_lt g2)
          _ = 2 ^ m.log2 * 2 ^ more := by rw [← Nat.pow_add, ← Nat.pow_add]; congr 1; omega
          _ ≤ m * 2 ^ more := Nat.mul_le_mul_right _ g1
    have key : ∀ e1, e1 = 1074 → dv * 2 ^ (T + 1) * n * 2 ^ e1 = mag (rung a) * 2 ^ 226 * m' * 2 ^ e1 := by
      intro e1 he1
      have q1 : dv * 2 ^ (T + 1) * n * 2 ^ e1 = m * 2 ^ more * 2 ^ (T + 1) * (m' * 2 ^ c) := by
        rw [s3, ← hdv, Nat.shiftLeft_eq, Nat.mul_assoc (m * 2 ^ more * 2 ^ (T + 1)) n, U_at he1]
      have q2 : m * 2 ^ more * 2 ^ (T + 1) * (m' * 2 ^ c) = m * m' * 2 ^ (more + (T + 1) + c) := by
        have e1 : 2 ^ (more + (T + 1) + c) = 2 ^ more * 2 ^ (T + 1) * 2 ^ c := by rw [Nat.pow_add, Nat.pow_add]
        rw [e1]
        generalize 2 ^ (T + 1) = z
        ac_rfl
      have q3 : mag (rung a) * 2 ^ 226 * m' * 2 ^ e1 = m * m' * 2 ^ (ca + 226 + e1) := by
        rw [← r3, Nat.pow_add, Nat.pow_add]
        ac_rfl
      rw [q1, q2, q3]
      congr 2
      omega
    have key2 : dv * 2 ^ (T + 1) * n = mag (rung a) * 2 ^ 226 * m' := Nat.eq_of_mul_eq_mul_right (Nat.two_pow_pos 1074) (key 1074 rfl)
  · intro R hR
    refine hw.le ?_
    obtain ⟨k, j, hf, hk⟩ := mag_form R
    have hX : mag R * 2 ^ (1300 - 1074) = k * 2 ^ (j + 226) := by rw [hf, Nat.pow_add, Nat.mul_assoc]
    refine core_le hX hk hm' hd.symm hst hqq ?_
    refine Nat.le_of_mul_le_mul_right (c := n) ?_ (by omega)
    rw [key2]
    calc mag (rung a) * 2 ^ 226 * m' ≤ n * mag R * 2 ^ 226 * m' := Nat.mul_le_mul_right _ (Nat.mul_le_mul_right _ hR)
      _ = mag R * 2 ^ (1300 - 1074) * m' * n := by
        show n * mag R * 2 ^ 226 * m' = mag R * 2 ^ 226 * m' * n
        ac_rfl
  · intro R hi hR
    refine hw.ge hi ?_
    obtain ⟨k, j, hf, hk⟩ := mag_form R
    have hX : mag R * 2 ^ (1300 - 1074) = k * 2 ^ (j + 226) := by rw [hf, Nat.pow_add, Nat.mul_assoc]
    refine core_ge hX hk hm' hd.symm hmod hst hqq ?_
    refine Nat.le_of_mul_le_mul_right (c := n) ?_ (by omega)
    rw [key2]
    calc mag R * 2 ^ (1300 - 1074) * m' * n = n * mag R * 2 ^ 226 * m' := by
          show mag R * 2 ^ 226 * m' * n = n * mag R * 2 ^ 226 * m'
          ac_rfl
      _ ≤ mag (rung a) * 2 ^ 226 * m' := Nat.mul_le_mul_right _ (Nat.mul_le_mul_right _ hR)
end Go.Proofs.Ytdkcnbcjjlaidaa.Flt
