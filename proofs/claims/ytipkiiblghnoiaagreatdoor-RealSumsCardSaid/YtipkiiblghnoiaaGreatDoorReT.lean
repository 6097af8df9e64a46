/- PLAIN: the sum's rounding is the floats' own. By an AI agent. -/
import Derived.Test.YtipkiiblghnoiaaGreatDoorSumG
import Derived.Test.YtipkiiblghnoiaaGreatDoorFlt
namespace Go.Proofs.YtipkiiblghnoiaaGreatDoor.Rn
open Go Go.Proofs.YtipkiiblghnoiaaGreatDoor Ieee

set_option linter.unusedVariables false

theorem even_cut (s : Bool) (V L : Nat) : Toward.even.cut s V (L + 1) = Sm.digR V (L + 1) := by
  rw [Flt.cut_eq]
  unfold Sm.digR Flt.more
  simp only
  rw [Nat.shiftRight_eq_div_pow, Nat.add_sub_cancel]
  have hb : V.testBit L = decide (V / 2 ^ L % 2 = 1) := Nat.testBit_eq_decide_div_mod_eq
  rw [hb]
  have hp := Nat.two_pow_pos L
  have e1 : 2 ^ (L + 1) = 2 ^ L * 2 := Nat.pow_succ ..
  rw [e1]
  have e2 : V % (2 ^ L * 2) = V % 2 ^ L + 2 ^ L * (V / 2 ^ L % 2) := Nat.mod_mul
  have e3 : V / (2 ^ L * 2) = V / 2 ^ L / 2 := (Nat.div_div_eq_div_mul ..).symm
  have e4 := Nat.mod_lt V hp
  rw [e2, e3]
  generalize V / 2 ^ L = q at *
  generalize V % 2 ^ L = r at *
  generalize 2 ^ L = g at *
  rcases Nat.mod_two_eq_zero_or_one q with h | h
  · rw [h]
    have t1 : decide (g * 2 < 2 * (r + g * 0)) = false := by rw [decide_eq_false_iff_not]; omega
    have t2 : (g * 2 == 2 * (r + g * 0)) = false := by rw [beq_eq_false_iff_ne]; omega
    rw [t1, t2]
    simp
  · rw [h]
    simp only [decide_true, true_and]
    by_cases hr : r = 0
    · subst hr
      have t1 : decide (g * 2 < 2 * (0 + g * 1)) = false := by rw [decide_eq_false_iff_not]; omega
      have t2 : (g * 2 == 2 * (0 + g * 1)) = true := by rw [beq_iff_eq]; omega
      rw [t1, t2]
      rcases Nat.mod_two_eq_zero_or_one (q / 2) with h2 | h2 <;> simp [h2]
    · have t1 : decide (g * 2 < 2 * (r + g * 1)) = true := by rw [decide_eq_true_eq]; omega
      rw [t1]
      simp [hr]

theorem round_cut (s : Bool) (V : Nat) (h : V ≠ 0) : Sm.roundB V = min ((Nat.log2 V - 52) * 2 ^ 52 + (if Nat.log2 V ≤ 52 then V else Toward.even.cut s V (Nat.log2 V - 52))) (2047 * 2 ^ 52) := by
  have hl : Sm.lenN V = Nat.log2 V + 1 := by unfold Sm.lenN; rw [if_neg h]
  have hlen := Sm.lenN_len V
  unfold Sm.roundB
  rw [hl] at hlen ⊢
  simp only
  by_cases hs : Nat.log2 V ≤ 52
  · rw [if_pos (show Nat.log2 V + 1 ≤ 53 by omega), if_pos hs, show Nat.log2 V - 52 = 0 by omega]
    have h1 : V < 2 ^ 53 := Nat.lt_of_lt_of_le hlen.1 (Nat.pow_le_pow_right (by decide) (by omega))
    omega
  · rw [if_neg (show ¬ Nat.log2 V + 1 ≤ 53 by omega), if_neg hs]
    obtain ⟨L, hL⟩ : ∃ L, Nat.log2 V = L + 53 := ⟨Nat.log2 V - 53, by omega⟩
    have hr := Sm.digR_range hlen (by omega)
    rw [hL] at hr ⊢
    rw [show L + 53 + 1 - 53 = L + 1 by omega] at hr ⊢
    rw [show L + 53 - 52 = L + 1 by omega, even_cut]
    generalize Sm.digR V (L + 1) = d at *
    by_cases hd : d = 2 ^ 53
    · rw [if_pos hd, if_pos hd, hd]
      split <;> omega
    · rw [if_neg hd, if_neg hd]
      split <;> omega

theorem nearest_round (s : Bool) (V : Nat) : double.nearest s V (-1074) = double.word s (Sm.roundB V) := by
  by_cases h : V = 0
  · subst h
    unfold Format.nearest
    rw [if_pos rfl]
    rfl
  · rw [round_cut s V h]
    unfold Format.nearest
    rw [if_neg h, Flt.fb, Flt.lp, Flt.bi, Flt.ir]
    simp only
    generalize hlg : Nat.log2 V = g
    by_cases hs : g ≤ 52
    · have e : max (-1074 + (g : Int) - ((52 : Nat) : Int)) (-1074) = -1074 := by omega
      rw [e, if_pos hs]
      rw [show ((-1074 : Int) - -1074).toNat = 0 by decide, Flt.cut_eq]
      have : Flt.more Toward.even s (V <<< 0) (2 ^ 0) = false := by
        unfold Flt.more
        simp only [Nat.pow_zero, Nat.mod_one]
        rfl
      rw [this, show g - 52 = 0 by omega]
      simp
    · have e : max (-1074 + (g : Int) - ((52 : Nat) : Int)) (-1074) = -1074 + ((g - 52 : Nat) : Int) := by omega
      rw [e, if_neg hs]
      rw [show (-1074 + ((g - 52 : Nat) : Int) - -1074).toNat = g - 52 by omega, show (-1074 - (-1074 + ((g - 52 : Nat) : Int))).toNat = 0 by omega]
      simp

theorem log2_scale (m k : Nat) (h : m ≠ 0) : Nat.log2 (m * 2 ^ k) = Nat.log2 m + k := by
  have h1 := Nat.log2_self_le h
  have h2 : m < 2 ^ (m.log2 + 1) := Nat.lt_log2_self
  have hp := Nat.two_pow_pos k
  have hn : m * 2 ^ k ≠ 0 := Nat.mul_ne_zero h (by omega)
  have hL : Sm.Len (m * 2 ^ k) (m.log2 + k + 1) := by
    refine ⟨?_, fun _ => ?_⟩
    · rw [show m.log2 + k + 1 = m.log2 + 1 + k by omega, Nat.pow_add]
      exact Nat.mul_lt_mul_of_pos_right h2 hp
    · rw [Nat.add_sub_cancel, Nat.pow_add]
      exact Nat.mul_le_mul_right _ h1
  have := Sm.len_lenN hL
  unfold Sm.lenN at this
  rw [if_neg hn] at this
  omega

theorem more_scale (s : Bool) (n g k : Nat) : Flt.more Toward.even s (n * 2 ^ k) (g * 2 ^ k) = Flt.more Toward.even s n g := by
  unfold Flt.more
  simp only
  have hp := Nat.two_pow_pos k
  rw [Nat.mul_mod_mul_right, Nat.mul_div_mul_right _ _ hp]
  have e1 : 2 * (n % g * 2 ^ k) = 2 * (n % g) * 2 ^ k := (Nat.mul_assoc ..).symm
  rw [e1]
  have t1 : decide (g * 2 ^ k < 2 * (n % g) * 2 ^ k) = decide (g < 2 * (n % g)) := by
    rw [decide_eq_decide]; exact Nat.mul_lt_mul_right hp
  have t2 : (g * 2 ^ k == 2 * (n % g) * 2 ^ k) = (g == 2 * (n % g)) := by
    rw [Bool.eq_iff_iff, beq_iff_eq, beq_iff_eq]; exact Nat.mul_left_inj (by omega)
  rw [t1, t2]

theorem nearest_scale (s : Bool) (m : Nat) (e : Int) (h : -1074 ≤ e) : double.nearest s m e = double.nearest s (m * 2 ^ (e + 1074).toNat) (-1074) := by
  by_cases hm : m = 0
  · subst hm
    unfold Format.nearest
    rw [Nat.zero_mul, if_pos rfl, if_pos rfl]
  · generalize hk : (e + 1074).toNat = k
    have hp := Nat.two_pow_pos k
    have hn : m * 2 ^ k ≠ 0 := Nat.mul_ne_zero hm (by omega)
    unfold Format.nearest
    rw [if_neg hm, if_neg hn, log2_scale m k hm]
    simp only
    rw [Flt.fb, Flt.lp, Flt.bi, Flt.ir]
    have e0 : -1074 + ((Nat.log2 m + k : Nat) : Int) - ((52 : Nat) : Int) = e + (Nat.log2 m : Int) - ((52 : Nat) : Int) := by omega
    rw [e0]
    generalize hl : max (e + (Nat.log2 m : Int) - ((52 : Nat) : Int)) (-1074) = last
    have hge : -1074 ≤ last := by omega
    congr 2
    congr 1
    rw [Flt.cut_eq, Flt.cut_eq, Nat.shiftLeft_eq, Nat.shiftLeft_eq, show (-1074 - last).toNat = 0 by omega, Nat.pow_zero, Nat.mul_one]
    by_cases hel : e ≤ last
    · rw [show (e - last).toNat = 0 by omega, Nat.pow_zero, Nat.mul_one]
      have e1 : (last - -1074).toNat = (last - e).toNat + k := by omega
      rw [e1, Nat.pow_add, more_scale, Nat.mul_div_mul_right _ _ hp]
    · have e1 : k = (e - last).toNat + (last - -1074).toNat := by omega
      rw [show (last - e).toNat = 0 by omega, e1, Nat.pow_add, ← Nat.mul_assoc]
      have hq := Nat.two_pow_pos (last - -1074).toNat
      generalize 2 ^ (last - -1074).toNat = Q at *
      generalize m * 2 ^ (e - last).toNat = M at *
      have t1 : Flt.more Toward.even s M (2 ^ 0) = false := by
        unfold Flt.more
        simp only [Nat.pow_zero, Nat.mod_one]
        rfl
      have t2 : Flt.more Toward.even s (M * Q) Q = false := by
        unfold Flt.more
        simp only [Nat.mul_mod_left]
        rw [show decide (Q < 2 * 0) = false by rw [decide_eq_false_iff_not]; omega, show (Q == 2 * 0) = false by rw [beq_eq_false_iff_ne]; omega]
        rfl
      rw [t1, t2, Nat.mul_div_cancel _ hq]
      simp

theorem write_round {d : Datum} {s : Bool} {M : Nat} (h : Flt.Num 1074 d s M) : double.write d = double.word s (Sm.roundB M) := by
  obtain ⟨m, e, rfl, h1, rfl⟩ := h
  show double.nearest s m e = _
  rw [nearest_scale s m e (by omega), nearest_round]
  rfl

theorem add_round {a b : Nat} (ha : Flt.Fin a) (hb : Flt.Fin b) : double.add a b = some (double.word (if Flt.fv a + Flt.fv b = 0 then Flt.neg a && Flt.neg b else decide (Flt.fv a + Flt.fv b < 0)) (Sm.roundB (Flt.fv a + Flt.fv b).natAbs)) := by
  obtain ⟨D, h1, h2⟩ := Flt.sum_num (Flt.read_num ha) (Flt.read_num hb)
  unfold Format.add
  rw [h1]
  exact congrArg some (write_round h2)

theorem word_inj {s : Bool} {a b : Nat} (ha : a < 2 ^ 63) (hb : b < 2 ^ 63) (h : double.word s a = double.word s b) : a = b := by
  have := congrArg Flt.rung h
  rwa [Flt.word_rung s ha, Flt.word_rung s hb] at this

theorem round_mag {R : Nat} (h : R ≤ 2047 * 2 ^ 52) : Sm.roundB (Flt.mag R) = R := by
  have h1 : Flt.Near 1074 false (Flt.mag R) (double.nearest false (Flt.mag R) (-1074)) := by
    have := Flt.nearest_spec false (Flt.mag R) (-1074) 1074 (Nat.le_refl _) (by decide)
    have e : ((-1074 : Int) + ((1074 : Nat) : Int)).toNat = 0 := by decide
    rw [e, Nat.pow_zero, Nat.mul_one] at this
    exact this
  have h2 := h1.exact h (by rw [Nat.sub_self, Nat.pow_zero, Nat.mul_one])
  rw [nearest_round] at h2
  exact word_inj (Sm.roundB_lt _) (by omega) h2

/-- The sums' reading of a float is the floats' own. -/
theorem fin_fv {u : Nat} (hu : u < 18446744073709551616) : Sm.fin u = Flt.fv u := by
  have e1 : Sm.mant u * 2 ^ Sm.shft u = Flt.mag (Flt.rung u) := by
    unfold Sm.mant Sm.shft Flt.mag Flt.rung
    have h1 : u % 2 ^ 63 / 2 ^ 52 = u / 2 ^ 52 % 2048 := by omega
    have h2 : u % 2 ^ 63 % 2 ^ 52 = u % 2 ^ 52 := by omega
    rw [h1, h2]
    by_cases h : u / 2 ^ 52 % 2048 = 0
    · rw [if_pos h, if_pos (by omega), h]
      simp
      omega
    · rw [if_neg h, if_neg (by omega), Nat.add_comm]
  unfold Sm.fin Flt.fv Flt.sv Sm.isNeg Flt.neg
  rw [e1]
  by_cases h : 2 ^ 63 ≤ u
  · rw [if_pos (decide_eq_true h), if_pos (by rw [beq_iff_eq]; omega)]
  · rw [if_neg (by rw [decide_eq_true_eq]; exact h), if_neg (by rw [beq_iff_eq]; omega)]
theorem word_of (s : Bool) (r : Nat) : double.word s r = if s = true then r + 9223372036854775808 else r := by
  unfold Format.word
  rw [Flt.sw]
  cases s
  · simp
  · simp; omega
/-- The signed rounding by a word. -/
theorem sgn_word (S : Int) : Sm.sgnR S = double.word (decide (S < 0)) (Sm.roundB S.natAbs) := by
  unfold Sm.sgnR
  rw [word_of]
  by_cases h : S < 0 <;> simp [h]
end Go.Proofs.YtipkiiblghnoiaaGreatDoor.Rn
