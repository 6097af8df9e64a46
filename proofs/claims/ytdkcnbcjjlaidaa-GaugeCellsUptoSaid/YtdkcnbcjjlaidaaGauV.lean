/- Rounding to the nearest keeps the order. No program in sight. By an AI agent. -/
import Derived.Test.YtdkcnbcjjlaidaaFlt
namespace Go.Proofs.Ytdkcnbcjjlaidaa.Flt
open Ieee

/-- Half to even keeps the order. -/
theorem cut_mono {s s' : Bool} {N N' b b' : Nat} (h : N * 2 ^ b' ≤ N' * 2 ^ b) : Toward.even.cut s N b ≤ Toward.even.cut s' N' b' := by
  rw [cut_eq, cut_eq]
  have hb := Nat.two_pow_pos b
  have hb' := Nat.two_pow_pos b'
  generalize 2 ^ b = g at *
  generalize 2 ^ b' = g' at *
  have e := Nat.div_add_mod N g
  have e' := Nat.div_add_mod N' g'
  have m := Nat.mod_lt N hb
  have m' := Nat.mod_lt N' hb'
  have hq : N / g ≤ N' / g' := by
    rw [Nat.le_div_iff_mul_le hb']
    refine Nat.le_of_mul_le_mul_right (c := g) ?_ hb
    calc N / g * g' * g = (N / g * g) * g' := by ac_rfl
      _ ≤ N * g' := Nat.mul_le_mul_right _ (Nat.div_mul_le_self N g)
      _ ≤ N' * g := h
  by_cases hlt : N / g < N' / g'
  · have := bool_le (more .even s N g)
    omega
  · have heq : N / g = N' / g' := by omega
    have hr : N % g * g' ≤ N' % g' * g := by
      rw [heq] at e
      have a1 : N * g' = g * (N' / g') * g' + N % g * g' := by rw [← Nat.add_mul, e]
      have a2 : N' * g = g' * (N' / g') * g + N' % g' * g := by rw [← Nat.add_mul, e']
      have h1 : g * (N' / g') * g' = g' * (N' / g') * g := by ac_rfl
      omega
    have key : more .even s N g = true → more .even s' N' g' = true := by
      intro hm
      simp only [more, Bool.or_eq_true, Bool.and_eq_true, decide_eq_true_eq, beq_iff_eq] at hm ⊢
      rw [heq] at hm
      generalize N % g = r at *
      generalize N' % g' = r' at *
      rcases hm with h1 | ⟨h1, h2⟩
      · left
        refine Nat.lt_of_mul_lt_mul_right (a := g) ?_
        calc g' * g < 2 * r * g' := by rw [Nat.mul_comm]; exact Nat.mul_lt_mul_of_pos_right h1 hb'
          _ = 2 * (r * g') := Nat.mul_assoc ..
          _ ≤ 2 * (r' * g) := Nat.mul_le_mul_left _ hr
          _ = 2 * r' * g := (Nat.mul_assoc ..).symm
      · have h3 : g' ≤ 2 * r' := by
          refine Nat.le_of_mul_le_mul_right (c := g) ?_ hb
          calc g' * g = 2 * r * g' := by rw [Nat.mul_comm]; rw [← h1]
            _ = 2 * (r * g') := Nat.mul_assoc ..
            _ ≤ 2 * (r' * g) := Nat.mul_le_mul_left _ hr
            _ = 2 * r' * g := (Nat.mul_assoc ..).symm
        rcases Nat.lt_or_eq_of_le h3 with h4 | h4
        · exact Or.inl h4
        · exact Or.inr ⟨h4, h2⟩
    rw [heq]
    cases hc : more .even s N g with
    | false => simp
    | true => rw [key hc]; exact Nat.le_refl _

/-- The rung that a number is rounded to, plain. -/
theorem nearest_rung (neg : Bool) (n : Nat) (place : Int) (hn : n ≠ 0) : ∃ L kept last, last = max (place + (n.log2 : Int) - 52) (-1074) ∧ L = (last - (-1074)).toNat ∧ kept = Toward.even.cut neg (n <<< (place - last).toNat) (last - place).toNat ∧
    double.nearest neg n place = double.word neg (min (L * 2 ^ 52 + kept) (2047 * 2 ^ 52)) := by
  refine ⟨_, _, _, rfl, rfl, rfl, ?_⟩
  unfold Format.nearest
  rw [if_neg hn, fb, lp, bi, ir]
  rfl

/-- Rounding to the nearest keeps the order of what is rounded. -/
theorem nearest_mono {s s' : Bool} {n n' : Nat} {place place' : Int} {P : Nat} (hP : 1074 ≤ P) (hp : 0 ≤ place + P) (hp' : 0 ≤ place' + P) (h : n * 2 ^ (place + P).toNat ≤ n' * 2 ^ (place' + P).toNat) :
    rung (double.nearest s n place) ≤ rung (double.nearest s' n' place') := by
  have hmin : ∀ r : Nat, min r (2047 * 2 ^ 52) < 2 ^ 63 := fun r => by omega
  by_cases hn : n = 0
  · subst hn
    have e : double.nearest s 0 place = double.word s 0 := by simp [Format.nearest]
    rw [e, word_rung _ (by omega)]
    exact Nat.zero_le _
  · have hn' : n' ≠ 0 := by
      intro e
      rw [e, Nat.zero_mul] at h
      have := Nat.mul_pos (show 0 < n by omega) (Nat.two_pow_pos (place + P).toNat)
      omega
    obtain ⟨L, kept, last, e1, e2, e3, e4⟩ := nearest_rung s n place hn
    obtain ⟨L', kept', last', f1, f2, f3, f4⟩ := nearest_rung s' n' place' hn'
    obtain ⟨r, g1, g2, g3⟩ := nearest_spec s n place P hP hp
    obtain ⟨r', k1, k2, k3⟩ := nearest_spec s' n' place' P hP hp'
    have hlog1 : 2 ^ n.log2 ≤ n := Nat.log2_self_le hn
    have hlog2 : n < 2 ^ (n.log2 + 1) := Nat.lt_log2_self
    have hlog1' : 2 ^ n'.log2 ≤ n' := Nat.log2_self_le hn'
    have hlog2' : n' < 2 ^ (n'.log2 + 1) := Nat.lt_log2_self
    have hhi : n * 2 ^ (place + P).toNat < 2 ^ 53 * 2 ^ (last + P).toNat := by
      have a : n * 2 ^ (place + P).toNat < 2 ^ (n.log2 + 1) * 2 ^ (place + P).toNat := Nat.mul_lt_mul_of_pos_right hlog2 (Nat.two_pow_pos _)
      have b : 2 ^ (n.log2 + 1) * 2 ^ (place + P).toNat ≤ 2 ^ 53 * 2 ^ (last + P).toNat := by
        rw [← Nat.pow_add, ← Nat.pow_add]
        exact Nat.pow_le_pow_right (by omega) (by omega)
      exact Nat.lt_of_lt_of_le a b
    have hhi' : n' * 2 ^ (place' + P).toNat < 2 ^ 53 * 2 ^ (last' + P).toNat := by
      have a : n' * 2 ^ (place' + P).toNat < 2 ^ (n'.log2 + 1) * 2 ^ (place' + P).toNat := Nat.mul_lt_mul_of_pos_right hlog2' (Nat.two_pow_pos _)
      have b : 2 ^ (n'.log2 + 1) * 2 ^ (place' + P).toNat ≤ 2 ^ 53 * 2 ^ (last' + P).toNat := by
        rw [← Nat.pow_add, ← Nat.pow_add]
        exact Nat.pow_le_pow_right (by omega) (by omega)
      exact Nat.lt_of_lt_of_le a b
    have hlo : -1074 < last → 2 ^ 52 * 2 ^ (last + P).toNat ≤ n * 2 ^ (place + P).toNat := by
      intro h
      refine Nat.le_trans ?_ (Nat.mul_le_mul_right _ hlog1)
      rw [← Nat.pow_add, ← Nat.pow_add]
      exact Nat.pow_le_pow_right (by omega) (by omega)
    have hlo' : -1074 < last' → 2 ^ 52 * 2 ^ (last' + P).toNat ≤ n' * 2 ^ (place' + P).toNat := by
      intro h
      refine Nat.le_trans ?_ (Nat.mul_le_mul_right _ hlog1')
      rw [← Nat.pow_add, ← Nat.pow_add]
      exact Nat.pow_le_pow_right (by omega) (by omega)
    rcases Int.lt_trichotomy last last' with hl | hl | hl
    · -- a lower binade
      have hL : L' = (last' + 1074).toNat := by omega
      have hLP : (last' + P).toNat = L' + (P - 1074) := by omega
      have h5 := hlo' (by omega)
      have hmag : mag (L' * 2 ^ 52 + 2 ^ 52) * 2 ^ (P - 1074) = 2 ^ 52 * 2 ^ (last' + P).toNat := by
        rw [mag_at L' _ (by omega) (by omega), hLP, Nat.pow_add, Nat.mul_assoc]
      have h6 : n * 2 ^ (place + P).toNat ≤ 2 ^ 52 * 2 ^ (last' + P).toNat := by
        refine Nat.le_trans (Nat.le_of_lt hhi) ?_
        rw [← Nat.pow_add, ← Nat.pow_add]
        exact Nat.pow_le_pow_right (by omega) (by omega)
      have a := g2 (L' * 2 ^ 52 + 2 ^ 52) (by rw [hmag]; exact h6)
      have b := k3 (L' * 2 ^ 52 + 2 ^ 52) (by rw [hmag]; exact h5)
      rw [g1, k1, word_rung _ (hmin r), word_rung _ (hmin r')]
      omega
    · -- the same one
      subst hl
      have hk : kept ≤ kept' := by
        rw [e3, f3]
        refine cut_mono ?_
        rw [Nat.shiftLeft_eq, Nat.shiftLeft_eq]
        have hz := Nat.two_pow_pos (min place (min place' last) + P).toNat
        refine Nat.le_of_mul_le_mul_right ?_ (Nat.two_pow_pos (last + P).toNat)
        have q1 : n * 2 ^ (place - last).toNat * 2 ^ (last - place').toNat * 2 ^ (last + P).toNat = n * 2 ^ (place + P).toNat * 2 ^ ((last - place).toNat + (last - place').toNat) := by
          rw [Nat.mul_assoc, Nat.mul_assoc, Nat.mul_assoc, ← Nat.pow_add, ← Nat.pow_add, ← Nat.pow_add]
          congr 2
          omega
        have q2 : n' * 2 ^ (place' - last).toNat * 2 ^ (last - place).toNat * 2 ^ (last + P).toNat = n' * 2 ^ (place' + P).toNat * 2 ^ ((last - place).toNat + (last - place').toNat) := by
          rw [Nat.mul_assoc, Nat.mul_assoc, Nat.mul_assoc, ← Nat.pow_add, ← Nat.pow_add, ← Nat.pow_add]
          congr 2
          omega
        rw [q1, q2]
        exact Nat.mul_le_mul_right _ h
      have hL : L = L' := by omega
      rw [e4, f4, word_rung _ (hmin _), word_rung _ (hmin _), hL]
      exact Nat.le_min.2 ⟨Nat.le_trans (Nat.min_le_left _ _) (Nat.add_le_add_left hk _), Nat.min_le_right _ _⟩
    · exfalso
      have h5 := hlo (by omega)
      have h6 : 2 ^ 53 * 2 ^ (last' + P).toNat ≤ 2 ^ 52 * 2 ^ (last + P).toNat := by
        rw [← Nat.pow_add, ← Nat.pow_add]
        exact Nat.pow_le_pow_right (by omega) (by omega)
      exact absurd (Nat.le_trans h6 (Nat.le_trans h5 h)) (Nat.not_le.2 hhi')
end Go.Proofs.Ytdkcnbcjjlaidaa.Flt
