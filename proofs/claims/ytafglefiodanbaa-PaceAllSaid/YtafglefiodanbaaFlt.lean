/-
  PLAIN MATHEMATICS OF THE FLOAT64 WORDS AS THE MODEL HAS THEM: the finite words as whole multiples of the least one; what rounding to nearest keeps. No program in sight. By an AI agent.
-/
import Ieee.Arith
import GoSem.Core.Float
import Derived.Laws.FloatBits
import Derived.Laws.Cover2
import Derived.Laws.FloatArith
namespace Go.Proofs.Ytafglefiodanbaa.Flt
open Ieee

/-- The magnitude of a rung, in units of the least number. -/
def mag (r : Nat) : Nat := if r < 2 ^ 52 then r else (2 ^ 52 + r % 2 ^ 52) * 2 ^ (r / 2 ^ 52 - 1)

theorem mag_small {k : Nat} (h : k < 2 ^ 52) : mag k = k := by simp [mag, h]

theorem mag_at (L k : Nat) (h1 : 2 ^ 52 ≤ k) (h2 : k ≤ 2 ^ 53) : mag (L * 2 ^ 52 + k) = k * 2 ^ L := by
  unfold mag
  rw [if_neg (by omega)]
  by_cases h : k = 2 ^ 53
  · have a : (L * 2 ^ 52 + k) % 2 ^ 52 = 0 := by omega
    have b : (L * 2 ^ 52 + k) / 2 ^ 52 - 1 = L + 1 := by omega
    have e : 2 ^ (L + 1) = 2 ^ L * 2 := Nat.pow_succ ..
    have h3 : 2 ^ 52 + 0 = 2 ^ 52 := rfl
    rw [a, b, e, h3, h]
    generalize 2 ^ L = z
    omega
  · have a : (L * 2 ^ 52 + k) % 2 ^ 52 = k - 2 ^ 52 := by omega
    have b : (L * 2 ^ 52 + k) / 2 ^ 52 - 1 = L := by omega
    have c : 2 ^ 52 + (k - 2 ^ 52) = k := by omega
    rw [a, b, c]

theorem mag_split (r : Nat) : r < 2 ^ 52 ∨ ∃ L k, r = L * 2 ^ 52 + k ∧ 2 ^ 52 ≤ k ∧ k < 2 ^ 53 := by
  by_cases h : r < 2 ^ 52
  · exact Or.inl h
  · exact Or.inr ⟨r / 2 ^ 52 - 1, 2 ^ 52 + r % 2 ^ 52, by omega, by omega, by omega⟩

theorem mag_lt_succ (r : Nat) : mag r < mag (r + 1) := by
  rcases mag_split r with h | ⟨L, k, rfl, h1, h2⟩
  · by_cases h' : r + 1 < 2 ^ 52
    · rw [mag_small h, mag_small h']; omega
    · have e : r + 1 = 0 * 2 ^ 52 + 2 ^ 52 := by omega
      rw [mag_small h, e, mag_at 0 _ (by omega) (by omega)]; omega
  · rw [mag_at L k h1 (by omega), Nat.add_assoc, mag_at L (k + 1) (by omega) (by omega)]
    exact Nat.mul_lt_mul_of_pos_right (by omega) (Nat.two_pow_pos L)

theorem mag_lt {a b : Nat} (h : a < b) : mag a < mag b := by
  induction b with
  | zero => omega
  | succ b ih =>
    have := mag_lt_succ b
    by_cases e : a = b
    · subst e; exact this
    · have := ih (by omega); omega

theorem mag_le {a b : Nat} (h : a ≤ b) : mag a ≤ mag b := by
  by_cases e : a = b
  · subst e; exact Nat.le_refl _
  · exact Nat.le_of_lt (mag_lt (by omega))

theorem le_of_mag {a b : Nat} (h : mag a ≤ mag b) : a ≤ b := by
  by_cases e : a ≤ b
  · exact e
  · have := mag_lt (a := b) (b := a) (by omega); omega

theorem mag_inj {a b : Nat} (h : mag a = mag b) : a = b := by
  have := le_of_mag (Nat.le_of_eq h); have := le_of_mag (Nat.le_of_eq h.symm); omega

theorem mag_zero : mag 0 = 0 := mag_small (by omega)

/-! ### cutting to a whole number -/

def more (way : Toward) (neg : Bool) (n gap : Nat) : Bool := match way with
  | .even => gap < 2 * (n % gap) || (gap == 2 * (n % gap) && (n / gap) % 2 == 1)
  | .down => neg && n % gap != 0
  | .up => !neg && n % gap != 0
  | .zero => false

theorem cut_eq (way : Toward) (neg : Bool) (n drop : Nat) : way.cut neg n drop = n / 2 ^ drop + (more way neg n (2 ^ drop)).toNat := by
  have h0 : way.cut neg n drop = n / 2 ^ min drop (n.log2 + 2) + (more way neg n (2 ^ min drop (n.log2 + 2))).toNat := by
    unfold Toward.cut more; simp only [Nat.one_shiftLeft]; cases way <;> rfl
  rw [h0]
  by_cases h : drop ≤ n.log2 + 2
  · rw [Nat.min_eq_left h]
  · rw [Nat.min_eq_right (by omega)]
    have hn : n < 2 ^ (n.log2 + 1) := Nat.lt_log2_self
    have h2 : 2 ^ (n.log2 + 2) = 2 ^ (n.log2 + 1) * 2 := Nat.pow_succ ..
    have h3 : 2 ^ (n.log2 + 2) ≤ 2 ^ drop := Nat.pow_le_pow_right (by omega) (by omega)
    generalize 2 ^ (n.log2 + 2) = A at *
    generalize 2 ^ drop = B at *
    have a1 : n / A = 0 := Nat.div_eq_of_lt (by omega)
    have a2 : n / B = 0 := Nat.div_eq_of_lt (by omega)
    have a3 : n % A = n := Nat.mod_eq_of_lt (by omega)
    have a4 : n % B = n := Nat.mod_eq_of_lt (by omega)
    rw [a1, a2]
    congr 1
    have b1 : ¬ A < 2 * n := by omega
    have b2 : (A == 2 * n) = false := by rw [beq_eq_false_iff_ne]; omega
    have b3 : ¬ B < 2 * n := by omega
    have b4 : (B == 2 * n) = false := by rw [beq_eq_false_iff_ne]; omega
    cases way <;> simp [more, a3, a4, b1, b2, b3, b4]

theorem bool_le (b : Bool) : b.toNat ≤ 1 := by cases b <;> simp

theorem even_le {neg : Bool} {n drop K : Nat} (h : n ≤ K * 2 ^ drop) : Toward.even.cut neg n drop ≤ K := by
  rw [cut_eq]
  have hp := Nat.two_pow_pos drop
  generalize 2 ^ drop = g at *
  have e := Nat.div_add_mod n g
  by_cases h1 : n / g < K
  · have := bool_le (more .even neg n g); omega
  · have h2 : n / g ≤ K := by
      have := Nat.div_le_div_right (c := g) h
      rwa [Nat.mul_div_cancel _ hp] at this
    have h3 : n / g = K := by omega
    rw [h3, Nat.mul_comm] at e
    have h4 : n % g = 0 := by omega
    have h5 : (g == 0) = false := by rw [beq_eq_false_iff_ne]; omega
    simp [more, h4, h3, h5]

theorem even_ge {neg : Bool} {n drop K : Nat} (h : K * 2 ^ drop ≤ n) : K ≤ Toward.even.cut neg n drop := by
  rw [cut_eq]
  have := (Nat.le_div_iff_mul_le (Nat.two_pow_pos drop)).2 h
  omega

/-! ### rounding -/

theorem lp : double.leastPlace = -1074 := by decide
theorem bi : double.binade = 2 ^ 52 := by decide
theorem ir : double.infRung = 2047 * 2 ^ 52 := by decide
theorem sw : double.signWeight = 2 ^ 63 := by decide
theorem fb : double.fractionBits = 52 := rfl

/-- 'nearest': the rung is the one that every bound by rungs is kept by. 'P': a scale in which the number is whole. -/
theorem nearest_spec (neg : Bool) (n : Nat) (place : Int) (P : Nat) (hP : 1074 ≤ P) (hp : 0 ≤ place + P) :
    ∃ r, double.nearest neg n place = double.word neg (min r (2047 * 2 ^ 52)) ∧
      (∀ R, n * 2 ^ (place + P).toNat ≤ mag R * 2 ^ (P - 1074) → r ≤ R) ∧
      (∀ R, mag R * 2 ^ (P - 1074) ≤ n * 2 ^ (place + P).toNat → R ≤ r) := by
  by_cases hn : n = 0
  · subst hn
    refine ⟨0, by simp [Format.nearest], fun R _ => Nat.zero_le _, fun R h => ?_⟩
    have hD := Nat.two_pow_pos (P - 1074)
    generalize 2 ^ (P - 1074) = D at *
    have : mag R = 0 := by
      rw [Nat.zero_mul] at h
      rcases Nat.mul_eq_zero.1 (Nat.le_zero.1 h) with h | h
      · exact h
      · omega
    exact Nat.le_of_eq (mag_inj (this.trans mag_zero.symm))
  · have hlog1 : 2 ^ n.log2 ≤ n := Nat.log2_self_le hn
    have hlog2 : n < 2 ^ (n.log2 + 1) := Nat.lt_log2_self
    generalize hl : max (place + (n.log2 : Int) - 52) (-1074) = last
    have hlast : (-1074 : Int) ≤ last := by omega
    generalize hk : Toward.even.cut neg (n <<< (place - last).toNat) (last - place).toNat = kept
    generalize hL : (last - (-1074)).toNat = L
    have hLP : (last + P).toNat = L + (P - 1074) := by omega
    have key1 : ∀ K, n * 2 ^ (place + P).toNat ≤ K * 2 ^ (last + P).toNat → kept ≤ K := by
      intro K h
      rw [← hk]
      refine even_le ?_
      rw [Nat.shiftLeft_eq]
      have hm := Nat.two_pow_pos (min place last + P).toNat
      refine Nat.le_of_mul_le_mul_right ?_ hm
      rw [Nat.mul_assoc, Nat.mul_assoc, ← Nat.pow_add, ← Nat.pow_add]
      rw [show (place - last).toNat + (min place last + P).toNat = (place + P).toNat by omega, show (last - place).toNat + (min place last + P).toNat = (last + P).toNat by omega]
      exact h
    have key2 : ∀ K, K * 2 ^ (last + P).toNat ≤ n * 2 ^ (place + P).toNat → K ≤ kept := by
      intro K h
      rw [← hk]
      refine even_ge ?_
      rw [Nat.shiftLeft_eq]
      have hm := Nat.two_pow_pos (min place last + P).toNat
      refine Nat.le_of_mul_le_mul_right ?_ hm
      rw [Nat.mul_assoc, Nat.mul_assoc, ← Nat.pow_add, ← Nat.pow_add]
      rw [show (place - last).toNat + (min place last + P).toNat = (place + P).toNat by omega, show (last - place).toNat + (min place last + P).toNat = (last + P).toNat by omega]
      exact h
    have hhi : n * 2 ^ (place + P).toNat < 2 ^ 53 * 2 ^ (last + P).toNat := by
      have a : n * 2 ^ (place + P).toNat < 2 ^ (n.log2 + 1) * 2 ^ (place + P).toNat := Nat.mul_lt_mul_of_pos_right hlog2 (Nat.two_pow_pos _)
      have b : 2 ^ (n.log2 + 1) * 2 ^ (place + P).toNat ≤ 2 ^ 53 * 2 ^ (last + P).toNat := by
        rw [← Nat.pow_add, ← Nat.pow_add]
        exact Nat.pow_le_pow_right (by omega) (by omega)
      exact Nat.lt_of_lt_of_le a b
    have hlo : 0 < L → 2 ^ 52 * 2 ^ (last + P).toNat ≤ n * 2 ^ (place + P).toNat := by
      intro h
      refine Nat.le_trans ?_ (Nat.mul_le_mul_right _ hlog1)
      rw [← Nat.pow_add, ← Nat.pow_add]
      exact Nat.pow_le_pow_right (by omega) (by omega)
    have hkhi : kept ≤ 2 ^ 53 := key1 _ (Nat.le_of_lt hhi)
    have hklo : 0 < L → 2 ^ 52 ≤ kept := fun h => key2 _ (hlo h)
    rw [hLP, Nat.pow_add] at key1 key2 hhi hlo
    have hD := Nat.two_pow_pos (P - 1074)
    have hE := Nat.two_pow_pos L
    refine ⟨L * 2 ^ 52 + kept, ?_, ?_, ?_⟩
    · unfold Format.nearest
      rw [if_neg hn, fb, lp, bi, ir]
      show double.word neg (min ((max (place + (n.log2 : Int) - 52) (-1074) - -1074).toNat * 2 ^ 52 + Toward.even.cut neg (n <<< (place - max (place + (n.log2 : Int) - 52) (-1074)).toNat) (max (place + (n.log2 : Int) - 52) (-1074) - place).toNat) (2047 * 2 ^ 52)) = _
      rw [hl, hk, hL]
    · intro R h
      generalize n * 2 ^ (place + P).toNat = v at *
      generalize 2 ^ (P - 1074) = D at *
      refine Nat.le_of_not_lt fun hR => ?_
      by_cases hk1 : L = 0 ∨ 2 ^ 52 < kept
      · have hk0 : 1 ≤ kept := by
          rcases hk1 with h0 | h0
          · subst h0; omega
          · omega
        have hm : mag R ≤ (kept - 1) * 2 ^ L := by
          refine Nat.le_trans (mag_le (b := L * 2 ^ 52 + (kept - 1)) (by omega)) (Nat.le_of_eq ?_)
          by_cases h5 : kept - 1 < 2 ^ 52
          · have : L = 0 := by omega
            subst this
            rw [Nat.zero_mul, Nat.zero_add, mag_small h5]; omega
          · exact mag_at L _ (by omega) (by omega)
        have h6 := key1 (kept - 1) (Nat.le_trans h (by rw [← Nat.mul_assoc]; exact Nat.mul_le_mul_right D hm))
        omega
      · have h7 : kept = 2 ^ 52 := by have := hklo (by omega); omega
        have h8 := hlo (by omega)
        obtain ⟨M, rfl⟩ : ∃ M, L = M + 1 := ⟨L - 1, by omega⟩
        have hm : mag R ≤ (2 ^ 53 - 1) * 2 ^ M := by
          refine Nat.le_trans (mag_le (b := M * 2 ^ 52 + (2 ^ 53 - 1)) (by omega)) (Nat.le_of_eq ?_)
          exact mag_at M _ (by omega) (by omega)
        have h9 : 2 ^ 52 * (2 ^ (M + 1) * D) ≤ (2 ^ 53 - 1) * 2 ^ M * D := Nat.le_trans h8 (Nat.le_trans h (Nat.mul_le_mul_right D hm))
        have e0 : 2 ^ (M + 1) = 2 ^ M * 2 := Nat.pow_succ ..
        rw [e0, Nat.mul_right_comm (2 ^ M) 2 D, Nat.mul_assoc (2 ^ 53 - 1)] at h9
        have hM := Nat.mul_pos (Nat.two_pow_pos M) hD
        generalize 2 ^ M * D = z at *
        omega
    · intro R h
      generalize n * 2 ^ (place + P).toNat = v at *
      generalize 2 ^ (P - 1074) = D at *
      refine Nat.le_of_not_lt fun hR => ?_
      by_cases hk1 : kept + 1 ≤ 2 ^ 53
      · have hm : (kept + 1) * 2 ^ L ≤ mag R := by
          refine Nat.le_trans (Nat.le_of_eq ?_) (mag_le (a := L * 2 ^ 52 + (kept + 1)) (by omega))
          by_cases h5 : kept + 1 < 2 ^ 52
          · have : L = 0 := by
              by_cases h0 : L = 0
              · exact h0
              · have := hklo (by omega); omega
            subst this
            rw [Nat.zero_mul, Nat.zero_add, mag_small h5]; omega
          · exact (mag_at L _ (by omega) (by omega)).symm
        have h6 := key2 (kept + 1) (Nat.le_trans (by rw [← Nat.mul_assoc]; exact Nat.mul_le_mul_right D hm) h)
        omega
      · have h7 : kept = 2 ^ 53 := by omega
        have hm : 2 ^ 53 * 2 ^ L ≤ mag R := by
          refine Nat.le_trans (Nat.le_of_eq ?_) (mag_le (a := L * 2 ^ 52 + 2 ^ 53) (by omega))
          exact (mag_at L _ (by omega) (by omega)).symm
        have h8 := Nat.le_trans (Nat.mul_le_mul_right D hm) h
        rw [Nat.mul_assoc] at h8
        omega

/-! ### words -/

def rung (w : Nat) : Nat := w % 2 ^ 63
def neg (w : Nat) : Bool := w / 2 ^ 63 % 2 == 1
def nan (w : Nat) : Bool := decide (2047 * 2 ^ 52 < rung w)
def Fin (w : Nat) : Prop := rung w < 2047 * 2 ^ 52
def sv (s : Bool) (M : Nat) : Int := if s then -(M : Int) else M
def fv (w : Nat) : Int := sv (neg w) (mag (rung w))

theorem word_rung (s : Bool) {r : Nat} (h : r < 2 ^ 63) : rung (double.word s r) = r := by
  unfold Format.word rung; rw [sw]; cases s <;> simp <;> omega
theorem word_neg (s : Bool) {r : Nat} (h : r < 2 ^ 63) : neg (double.word s r) = s := by
  unfold Format.word neg
  rw [sw]
  cases s
  · simp; omega
  · simp; omega
theorem word_fv (s : Bool) {r : Nat} (h : r < 2 ^ 63) : fv (double.word s r) = sv s (mag r) := by
  unfold fv; rw [word_rung s h, word_neg s h]
theorem word_lt (s : Bool) {r : Nat} (h : r < 2 ^ 63) : double.word s r < 2 ^ 64 := by
  unfold Format.word; rw [sw]; cases s <;> simp <;> omega
theorem word_self {w : Nat} (h : w < 2 ^ 64) : double.word (neg w) (rung w) = w := by
  unfold Format.word neg rung
  rw [sw]
  by_cases e : w / 2 ^ 63 % 2 = 1
  · simp [e]; omega
  · have : (w / 2 ^ 63 % 2 == 1) = false := by rw [beq_eq_false_iff_ne]; exact e
    simp [this]; omega
theorem Fin.not_nan {w : Nat} (h : Fin w) : nan w = false := by unfold nan; unfold Fin at h; simp; omega

/-- A number's sign and magnitude, whole in the scale P. -/
def Num (P : Nat) (d : Datum) (s : Bool) (M : Nat) : Prop := ∃ m e, d = .number s m e ∧ 0 ≤ e + (P : Int) ∧ m * 2 ^ (e + (P : Int)).toNat = M

theorem read_num {w : Nat} (h : Fin w) : Num 1074 (double.read w) (neg w) (mag (rung w)) := by
  unfold Fin at h
  unfold Format.read
  rw [sw, bi, ir, lp]
  show Num 1074 (if rung w < 2 ^ 52 then _ else if rung w < 2047 * 2 ^ 52 then _ else _) _ _
  by_cases h1 : rung w < 2 ^ 52
  · rw [if_pos h1, mag_small h1]
    exact ⟨rung w, -1074, rfl, by omega, by simp⟩
  · rw [if_neg h1, if_pos h]
    refine ⟨2 ^ 52 + rung w % 2 ^ 52, -1074 + ((rung w / 2 ^ 52 - 1 : Nat) : Int), rfl, by omega, ?_⟩
    have e : (-1074 + ((rung w / 2 ^ 52 - 1 : Nat) : Int) + ((1074 : Nat) : Int)).toNat = rung w / 2 ^ 52 - 1 := by omega
    rw [e]
    unfold mag
    rw [if_neg h1]

theorem read_inf {w : Nat} (h : rung w = 2047 * 2 ^ 52) : double.read w = .infinity (neg w) := by
  unfold Format.read
  rw [sw, bi, ir]
  show (if rung w < 2 ^ 52 then _ else if rung w < 2047 * 2 ^ 52 then _ else if rung w = 2047 * 2 ^ 52 then _ else _) = _
  rw [if_neg (by omega), if_neg (by omega), if_pos h]
  rfl

theorem read_nan {w : Nat} (h : 2047 * 2 ^ 52 < rung w) : double.read w = .nan (neg w) (rung w - 2047 * 2 ^ 52) := by
  unfold Format.read
  rw [sw, bi, ir]
  show (if rung w < 2 ^ 52 then _ else if rung w < 2047 * 2 ^ 52 then _ else if rung w = 2047 * 2 ^ 52 then _ else _) = _
  rw [if_neg (by omega), if_neg (by omega), if_neg (by omega)]
  rfl

theorem signed_sv (s : Bool) (m u : Nat) : signed s m u = sv s (m * 2 ^ u) := by
  unfold signed sv; rw [Nat.shiftLeft_eq]
theorem sv_mul (s : Bool) (m k : Nat) : sv s (m * k) = sv s m * k := by
  unfold sv; cases s <;> simp [Int.neg_mul]
theorem sv_abs (s : Bool) (m : Nat) : (sv s m).natAbs = m := by
  unfold sv; cases s <;> simp

theorem opp_num {P : Nat} {d : Datum} {s : Bool} {M : Nat} (h : Num P d s M) : Num P d.opposite (!s) M := by
  obtain ⟨m, e, rfl, h1, h2⟩ := h
  exact ⟨m, e, rfl, h1, h2⟩

theorem sum_num {P : Nat} {d d' : Datum} {s s' : Bool} {M M' : Nat} (h : Num P d s M) (h' : Num P d' s' M') :
    ∃ D, d.sum d' = some D ∧ Num P D (if sv s M + sv s' M' = 0 then s && s' else decide (sv s M + sv s' M' < 0)) (sv s M + sv s' M').natAbs := by
  obtain ⟨m, e, rfl, h1, rfl⟩ := h
  obtain ⟨m', e', rfl, h1', rfl⟩ := h'
  refine ⟨_, rfl, ?_⟩
  rw [signed_sv, signed_sv]
  have hk := Nat.two_pow_pos (min e e' + (P : Int)).toNat
  have a : m * 2 ^ (e + (P : Int)).toNat = m * 2 ^ (e - min e e').toNat * 2 ^ (min e e' + (P : Int)).toNat := by
    rw [Nat.mul_assoc, ← Nat.pow_add]; congr 2; omega
  have b : m' * 2 ^ (e' + (P : Int)).toNat = m' * 2 ^ (e' - min e e').toNat * 2 ^ (min e e' + (P : Int)).toNat := by
    rw [Nat.mul_assoc, ← Nat.pow_add]; congr 2; omega
  rw [a, b, sv_mul s (m * 2 ^ (e - min e e').toNat) (2 ^ (min e e' + (P : Int)).toNat), sv_mul s' (m' * 2 ^ (e' - min e e').toNat) (2 ^ (min e e' + (P : Int)).toNat), ← Int.add_mul]
  generalize sv s (m * 2 ^ (e - min e e').toNat) + sv s' (m' * 2 ^ (e' - min e e').toNat) = t
  have hk' : (0 : Int) < ((2 ^ (min e e' + (P : Int)).toNat : Nat) : Int) := by exact_mod_cast hk
  refine ⟨t.natAbs, min e e', ?_, by omega, by rw [Int.natAbs_mul, Int.natAbs_natCast]⟩
  generalize ((2 ^ (min e e' + (P : Int)).toNat : Nat) : Int) = k at *
  congr 1
  by_cases ht : t = 0
  · subst ht; simp
  · have : t * k ≠ 0 := Int.mul_ne_zero ht (by omega)
    rw [if_neg ht, if_neg this]
    congr 1
    apply propext
    constructor
    · intro h; exact Int.mul_neg_of_neg_of_pos h hk'
    · intro h
      refine Int.not_le.1 fun h0 => ?_
      have := Int.mul_nonneg h0 (Int.le_of_lt hk')
      omega

theorem prod_num {P : Nat} {d d' : Datum} {s s' : Bool} {M M' : Nat} (h : Num P d s M) (h' : Num P d' s' M') :
    ∃ D, d.product d' = some D ∧ Num (P + P) D (s ^^ s') (M * M') := by
  obtain ⟨m, e, rfl, h1, rfl⟩ := h
  obtain ⟨m', e', rfl, h1', rfl⟩ := h'
  refine ⟨_, rfl, m * m', e + e', rfl, by omega, ?_⟩
  have : (e + e' + ((P + P : Nat) : Int)).toNat = (e + (P : Int)).toNat + (e' + (P : Int)).toNat := by omega
  rw [this, Nat.pow_add, Nat.mul_mul_mul_comm]

/-- The word w is what s, M (in the scale P) is rounded to. -/
def Near (P : Nat) (s : Bool) (M w : Nat) : Prop := ∃ r, w = double.word s (min r (2047 * 2 ^ 52)) ∧
  (∀ R, M ≤ mag R * 2 ^ (P - 1074) → r ≤ R) ∧ (∀ R, mag R * 2 ^ (P - 1074) ≤ M → R ≤ r)

theorem write_near {P : Nat} {d : Datum} {s : Bool} {M : Nat} (h : Num P d s M) (hP : 1074 ≤ P) : Near P s M (double.write d) := by
  obtain ⟨m, e, rfl, h1, rfl⟩ := h
  exact nearest_spec s m e P hP h1

theorem Near.lt {P : Nat} {s : Bool} {M w : Nat} (h : Near P s M w) : w < 2 ^ 64 := by
  obtain ⟨r, rfl, -, -⟩ := h; exact word_lt s (by omega)
theorem Near.neg {P : Nat} {s : Bool} {M w : Nat} (h : Near P s M w) : neg w = s := by
  obtain ⟨r, rfl, -, -⟩ := h; exact word_neg s (by omega)
theorem Near.not_nan {P : Nat} {s : Bool} {M w : Nat} (h : Near P s M w) : nan w = false := by
  obtain ⟨r, rfl, -, -⟩ := h; unfold nan; rw [word_rung s (by omega)]; simp; omega
theorem Near.le {P : Nat} {s : Bool} {M w R : Nat} (h : Near P s M w) (hR : M ≤ mag R * 2 ^ (P - 1074)) : rung w ≤ R := by
  obtain ⟨r, rfl, h1, -⟩ := h; rw [word_rung s (by omega)]; have := h1 R hR; omega
theorem Near.ge {P : Nat} {s : Bool} {M w R : Nat} (h : Near P s M w) (hi : R ≤ 2047 * 2 ^ 52) (hR : mag R * 2 ^ (P - 1074) ≤ M) : R ≤ rung w := by
  obtain ⟨r, rfl, -, h1⟩ := h; rw [word_rung s (by omega)]; have := h1 R hR; omega
theorem Near.exact {P : Nat} {s : Bool} {M w R : Nat} (h : Near P s M w) (hi : R ≤ 2047 * 2 ^ 52) (hR : M = mag R * 2 ^ (P - 1074)) : w = double.word s R := by
  have a := h.le (Nat.le_of_eq hR)
  have b := h.ge hi (Nat.le_of_eq hR.symm)
  have c := word_self h.lt
  rw [h.neg, show rung w = R by omega] at c
  exact c.symm

theorem add_near {a b : Nat} (ha : Fin a) (hb : Fin b) : ∃ w, double.add a b = some w ∧
    Near 1074 (if fv a + fv b = 0 then neg a && neg b else decide (fv a + fv b < 0)) (fv a + fv b).natAbs w := by
  obtain ⟨D, h1, h2⟩ := sum_num (read_num ha) (read_num hb)
  exact ⟨_, by unfold Format.add; rw [h1]; rfl, write_near h2 (Nat.le_refl _)⟩

theorem sub_near {a b : Nat} (ha : Fin a) (hb : Fin b) : ∃ w, double.sub a b = some w ∧
    Near 1074 (if fv a - fv b = 0 then neg a && !neg b else decide (fv a - fv b < 0)) (fv a - fv b).natAbs w := by
  obtain ⟨D, h1, h2⟩ := sum_num (read_num ha) (opp_num (read_num hb))
  have e : sv (neg a) (mag (rung a)) + sv (!neg b) (mag (rung b)) = fv a - fv b := by
    unfold fv sv; cases neg a <;> cases neg b <;> simp <;> omega
  rw [e] at h2
  exact ⟨_, by unfold Format.sub; rw [h1]; rfl, write_near h2 (Nat.le_refl _)⟩

theorem mul_near {a b : Nat} (ha : Fin a) (hb : Fin b) : ∃ w, double.mul a b = some w ∧
    Near 2148 (neg a ^^ neg b) (mag (rung a) * mag (rung b)) w := by
  obtain ⟨D, h1, h2⟩ := prod_num (read_num ha) (read_num hb)
  exact ⟨_, by unfold Format.mul; rw [h1]; rfl, write_near h2 (by omega)⟩

/-! ### the order -/

theorem compare_int (a b : Int) : compare a b = if a < b then Ordering.lt else if a = b then .eq else .gt := rfl
theorem compare_scale (a b k : Int) (hk : 0 < k) : compare (a * k) (b * k) = compare a b := by
  rw [compare_int, compare_int]
  have h1 : (a * k < b * k) ↔ a < b := ⟨fun h => Int.lt_of_mul_lt_mul_right h (Int.le_of_lt hk), fun h => Int.mul_lt_mul_of_pos_right h hk⟩
  have h2 : (a * k = b * k) ↔ a = b := ⟨fun h => Int.eq_of_mul_eq_mul_right (by omega) h, fun h => by rw [h]⟩
  simp only [h1, h2]

theorem order_num {P : Nat} {d d' : Datum} {s s' : Bool} {M M' : Nat} (h : Num P d s M) (h' : Num P d' s' M') : d.order d' = some (compare (sv s M) (sv s' M')) := by
  obtain ⟨m, e, rfl, h1, rfl⟩ := h
  obtain ⟨m', e', rfl, h1', rfl⟩ := h'
  show some (compare (signed s m (e - min e e').toNat) (signed s' m' (e' - min e e').toNat)) = _
  rw [signed_sv, signed_sv]
  have hk := Nat.two_pow_pos (min e e' + (P : Int)).toNat
  have a : m * 2 ^ (e + (P : Int)).toNat = m * 2 ^ (e - min e e').toNat * 2 ^ (min e e' + (P : Int)).toNat := by
    rw [Nat.mul_assoc, ← Nat.pow_add]; congr 2; omega
  have b : m' * 2 ^ (e' + (P : Int)).toNat = m' * 2 ^ (e' - min e e').toNat * 2 ^ (min e e' + (P : Int)).toNat := by
    rw [Nat.mul_assoc, ← Nat.pow_add]; congr 2; omega
  rw [a, b, sv_mul s (m * 2 ^ (e - min e e').toNat) (2 ^ (min e e' + (P : Int)).toNat), sv_mul s' (m' * 2 ^ (e' - min e e').toNat) (2 ^ (min e e' + (P : Int)).toNat), compare_scale _ _ _ (by exact_mod_cast hk)]

theorem inf_mag {w : Nat} (h : Fin w) : mag (rung w) < mag (2047 * 2 ^ 52) := mag_lt h

theorem order_eq (a b : Nat) : double.order a b = if nan a || nan b then none else some (compare (fv a) (fv b)) := by
  unfold Format.order
  by_cases na : 2047 * 2 ^ 52 < rung a
  · have : nan a = true := by simp [nan, na]
    rw [read_nan na, this]; rfl
  · have ha : nan a = false := by simp [nan]; omega
    by_cases nb : 2047 * 2 ^ 52 < rung b
    · have : nan b = true := by simp [nan, nb]
      rw [read_nan nb, this, ha]
      cases double.read a <;> rfl
    · have hb : nan b = false := by simp [nan]; omega
      rw [ha, hb]
      show _ = some _
      by_cases ia : rung a = 2047 * 2 ^ 52
      · by_cases ib : rung b = 2047 * 2 ^ 52
        · rw [read_inf ia, read_inf ib]
          unfold fv
          rw [ia, ib]
          have : 0 < mag (2047 * 2 ^ 52) := by have := mag_lt (a := 0) (b := 2047 * 2 ^ 52) (by omega); omega
          generalize mag (2047 * 2 ^ 52) = Z at *
          have z1 : (-(Z : Int)) < Z := by omega
          have z2 : ¬ ((Z : Int) < -(Z : Int)) := by omega
          have z3 : ¬ ((Z : Int) = -(Z : Int)) := by omega
          cases neg a <;> cases neg b <;> simp [Datum.order, sv, compare_int, z1, z2, z3] <;> rfl
        · have fb : Fin b := by unfold Fin; omega
          have hm := inf_mag fb
          obtain ⟨m, e, h1, h2, h3⟩ := read_num fb
          rw [read_inf ia, h1]
          unfold fv
          rw [ia]
          generalize mag (2047 * 2 ^ 52) = Z at *
          generalize mag (rung b) = y at *
          cases neg a
          · have z1 : ∀ x : Int, x = y ∨ x = -(y : Int) → ¬ (Z : Int) < x := by intro x hx; omega
            have z2 : ∀ x : Int, x = y ∨ x = -(y : Int) → ¬ (Z : Int) = x := by intro x hx; omega
            have z3 : sv (neg b) y = y ∨ sv (neg b) y = -(y : Int) := by unfold sv; cases neg b <;> simp
            show some Ordering.gt = some (compare (Z : Int) (sv (neg b) y))
            rw [compare_int, if_neg (z1 _ z3), if_neg (z2 _ z3)]
          · have z1 : ∀ x : Int, x = y ∨ x = -(y : Int) → -(Z : Int) < x := by intro x hx; omega
            have z3 : sv (neg b) y = y ∨ sv (neg b) y = -(y : Int) := by unfold sv; cases neg b <;> simp
            show some Ordering.lt = some (compare (-(Z : Int)) (sv (neg b) y))
            rw [compare_int, if_pos (z1 _ z3)]
      · have fa : Fin a := by unfold Fin; omega
        by_cases ib : rung b = 2047 * 2 ^ 52
        · have hm := inf_mag fa
          obtain ⟨m, e, h1, h2, h3⟩ := read_num fa
          rw [read_inf ib, h1]
          unfold fv
          rw [ib]
          generalize mag (2047 * 2 ^ 52) = Z at *
          generalize mag (rung a) = y at *
          cases neg b
          · have z1 : ∀ x : Int, x = y ∨ x = -(y : Int) → x < (Z : Int) := by intro x hx; omega
            have z3 : sv (neg a) y = y ∨ sv (neg a) y = -(y : Int) := by unfold sv; cases neg a <;> simp
            show some Ordering.lt = some (compare (sv (neg a) y) (Z : Int))
            rw [compare_int, if_pos (z1 _ z3)]
          · have z1 : ∀ x : Int, x = y ∨ x = -(y : Int) → ¬ x < -(Z : Int) := by intro x hx; omega
            have z2 : ∀ x : Int, x = y ∨ x = -(y : Int) → ¬ x = -(Z : Int) := by intro x hx; omega
            have z3 : sv (neg a) y = y ∨ sv (neg a) y = -(y : Int) := by unfold sv; cases neg a <;> simp
            show some Ordering.gt = some (compare (sv (neg a) y) (-(Z : Int)))
            rw [compare_int, if_neg (z1 _ z3), if_neg (z2 _ z3)]
        · exact order_num (read_num fa) (read_num (by unfold Fin; omega))

/-! ### the walk's tests -/
def fnan (a : Nat) : Bool := FloatKind.f64.format.order a a != some .eq
theorem fnan_eq (a : Nat) : fnan a = nan a := by
  unfold fnan
  show (double.order a a != some .eq) = _
  rw [order_eq]
  cases h : nan a
  · simp
  · rfl
theorem t_lt {a b : Nat} (ha : nan a = false) (hb : nan b = false) : (FloatKind.f64.format.order a b == some .lt) = decide (fv a < fv b) := by
  show (double.order a b == some .lt) = _
  rw [order_eq, ha, hb, compare_int]
  show (some _ == some _) = _
  by_cases h : fv a < fv b
  · simp [h]
  · by_cases h2 : fv a = fv b <;> simp [h, h2]
theorem t_gt {a b : Nat} (ha : nan a = false) (hb : nan b = false) : (FloatKind.f64.format.order a b == some .gt) = decide (fv b < fv a) := by
  show (double.order a b == some .gt) = _
  rw [order_eq, ha, hb, compare_int]
  show (some _ == some _) = _
  by_cases h : fv a < fv b
  · have : ¬ fv b < fv a := by omega
    simp [h, this]
  · by_cases h2 : fv a = fv b
    · simp [h2]
    · have : fv b < fv a := by omega
      simp [h, h2, this]
theorem t_eq {a b : Nat} (ha : nan a = false) (hb : nan b = false) : (FloatKind.f64.format.order a b == some .eq) = decide (fv a = fv b) := by
  show (double.order a b == some .eq) = _
  rw [order_eq, ha, hb, compare_int]
  show (some _ == some _) = _
  by_cases h : fv a < fv b
  · have : ¬ fv a = fv b := by omega
    simp [h, this]
  · by_cases h2 : fv a = fv b <;> simp [h, h2]
theorem order_nan {a b : Nat} (h : nan a = true ∨ nan b = true) : FloatKind.f64.format.order a b = none := by
  show double.order a b = none
  rw [order_eq]
  rcases h with h | h <;> simp [h]

/-! ### whole numbers -/

def pw2 (k : Nat) : Nat := 2 ^ k
/-- One, in units of the least number. -/
def U : Nat := pw2 1074
theorem U_at {e : Nat} (h : e = 1074) : U = 2 ^ e := congrArg pw2 h.symm
theorem U_of {a b : Nat} (h : a + b = 1074) : U = 2 ^ a * 2 ^ b := by rw [U_at h, Nat.pow_add]
theorem U_ofp {a b : Nat} (h : a + b = 1074) : U = 2 ^ a * pw2 b := U_of h
theorem U_pow (e : Nat) (h : e = 1074) : 2 ^ e = U := (U_at h).symm
theorem le_U {x P : Nat} (h : x ≤ U) (hP : P = 2148) : x ≤ 2 ^ (P - 1074) := by rw [U_pow (P - 1074) (by omega)]; exact h
theorem pw2_pos (k : Nat) : 0 < pw2 k := Nat.two_pow_pos k
theorem U_pos : 0 < U := pw2_pos 1074
theorem pow_up {e : Int} (h : 0 ≤ e) : 2 ^ (e + ((1074 : Nat) : Int)).toNat = 2 ^ e.toNat * U := by
  have key : ∀ P, P = 1074 → 2 ^ (e + ((1074 : Nat) : Int)).toNat = 2 ^ e.toNat * U := by
    intro P hP
    rw [U_at hP, ← Nat.pow_add, show (e + ((1074 : Nat) : Int)).toNat = e.toNat + P by omega]
  exact key 1074 rfl
/-- The exponents are variables here: no power is reckoned. -/
theorem pw3 {a b c d e : Nat} (h : a + b = c + (d + e)) : 2 ^ a * 2 ^ b = 2 ^ c * (2 ^ d * 2 ^ e) := by rw [← Nat.pow_add, ← Nat.pow_add, ← Nat.pow_add, h]

theorem rep (L : Nat) : ∀ k, k ≤ 2 ^ 53 → ∃ R, mag R = k * 2 ^ L := by
  induction L with
  | zero =>
    intro k h
    by_cases h1 : k < 2 ^ 52
    · exact ⟨k, by rw [mag_small h1]; omega⟩
    · exact ⟨0 * 2 ^ 52 + k, mag_at 0 k (by omega) h⟩
  | succ L ih =>
    intro k h
    by_cases h1 : k < 2 ^ 52
    · obtain ⟨R, hR⟩ := ih (k * 2) (by omega)
      refine ⟨R, ?_⟩
      have e : 2 ^ (L + 1) = 2 ^ L * 2 := Nat.pow_succ ..
      rw [hR, e, Nat.mul_assoc, Nat.mul_comm 2]
    · exact ⟨(L + 1) * 2 ^ 52 + k, mag_at (L + 1) k (by omega) h⟩

theorem mag_infV {L e a : Nat} (h1 : L = 2046) (h2 : e = 1074) (h3 : a = 972) : mag (2047 * 2 ^ 52) = 2 ^ a * (2 ^ 52 * U) := by
  have h : 2047 * 2 ^ 52 = L * 2 ^ 52 + 2 ^ 52 := by omega
  rw [h, mag_at L _ (by omega) (by omega), U_at h2]
  exact pw3 (by omega)
theorem mag_inf : mag (2047 * 2 ^ 52) = 2 ^ 972 * (2 ^ 52 * U) := mag_infV (L := 2046) (e := 1074) (a := 972) rfl rfl rfl

theorem rep_U {k : Nat} (h : k ≤ 2 ^ 53) : ∃ R, R < 2047 * 2 ^ 52 ∧ mag R = k * U := by
  have hR0 : ∃ R, mag R = k * U := by
    have key : ∀ e, e = 1074 → ∃ R, mag R = k * U := by
      intro e he
      rw [U_at he]
      exact rep e k h
    exact key 1074 rfl
  obtain ⟨R, hR⟩ := hR0
  refine ⟨R, ?_, hR⟩
  refine Nat.lt_of_not_le fun h1 => ?_
  have h2 := mag_le h1
  rw [mag_inf, hR] at h2
  have key : ∀ a b, a = b + 2 → 2 ^ a * (2 ^ 52 * U) ≤ k * U → False := by
    intro a b e h2
    have e1 : 2 ^ a = 2 ^ b * 4 := by rw [e, Nat.pow_add]
    rw [e1, ← Nat.mul_assoc] at h2
    have h3 : 2 ^ b * 4 * 2 ^ 52 ≤ k := Nat.le_of_mul_le_mul_right h2 U_pos
    have h4 := Nat.two_pow_pos b
    generalize 2 ^ b = z at *
    omega
  exact key 972 970 rfl h2

theorem rep_pw2 (L k : Nat) (h : k ≤ 2 ^ 53) : ∃ R, mag R = k * pw2 L := rep L k h
theorem mag_infA {a : Nat} (h : a = 972) : mag (2047 * 2 ^ 52) = pw2 a * (2 ^ 52 * U) := mag_infV (L := 2046) (e := 1074) (a := a) rfl rfl h
theorem mag_infp : mag (2047 * 2 ^ 52) = pw2 972 * (2 ^ 52 * U) := mag_infA rfl
/-- A power of two, up to 2 ^ 1020, is a float. -/
theorem pow_repU (t : Nat) (ht : t ≤ 1020) : ∃ R, R < 2047 * 2 ^ 52 ∧ mag R = 2 ^ t * U := by
  have key : ∀ e a, e = 1074 → a = 972 → mag (2047 * 2 ^ 52) = 2 ^ a * (2 ^ 52 * U) → ∃ R, R < 2047 * 2 ^ 52 ∧ mag R = 2 ^ t * U := by
    intro e a he ha hi
    obtain ⟨R, hR⟩ := rep (e + t) 1 (by omega)
    have e1 : mag R = 2 ^ t * U := by rw [hR, Nat.one_mul, Nat.pow_add, U_at he, Nat.mul_comm]
    refine ⟨R, Nat.not_le.1 fun h => ?_, e1⟩
    have h1 := mag_le h
    rw [hi, e1, ← Nat.mul_assoc] at h1
    have h2 : 2 ^ a * 2 ^ 52 ≤ 2 ^ t := Nat.le_of_mul_le_mul_right h1 U_pos
    rw [← Nat.pow_add] at h2
    have h3 := Nat.pow_lt_pow_right (show 1 < 2 by omega) (show t < a + 52 by omega)
    omega
  exact key 1074 972 rfl rfl mag_inf
theorem U_small {c n m : Nat} (hc : 1128 ≤ c) (hm : 0 < m) (hn : n ≤ 2 ^ 53) : n * U < m * 2 ^ c := by
  have key : ∀ e, e = 1074 → n * U < m * 2 ^ c := by
    intro e he
    rw [U_at he]
    calc n * 2 ^ e ≤ 2 ^ 53 * 2 ^ e := Nat.mul_le_mul_right _ hn
      _ = 2 ^ (53 + e) := (Nat.pow_add ..).symm
      _ < 2 ^ c := Nat.pow_lt_pow_right (by omega) (by omega)
      _ = 1 * 2 ^ c := (Nat.one_mul _).symm
      _ ≤ m * 2 ^ c := Nat.mul_le_mul_right _ hm
  exact key 1074 rfl
theorem Near.leU {P : Nat} {s : Bool} {M w R : Nat} (h : Near P s M w) (hP : P = 2148) (hR : M ≤ mag R * U) : rung w ≤ R := h.le (by rw [U_pow (P - 1074) (by omega)]; exact hR)
theorem Near.geU {P : Nat} {s : Bool} {M w R : Nat} (h : Near P s M w) (hP : P = 2148) (hi : R ≤ 2047 * 2 ^ 52) (hR : mag R * U ≤ M) : R ≤ rung w := h.ge hi (by rw [U_pow (P - 1074) (by omega)]; exact hR)
theorem num_at {P : Nat} (hP : P = 1074) (s : Bool) (n : Nat) : Num P (.number s n 0) s (n * U) :=
  ⟨n, 0, rfl, by omega, by rw [U_at hP, show ((0 : Int) + (P : Int)).toNat = P by omega]⟩
theorem ofInt_val {n : Nat} (h : n ≤ 2 ^ 53) : ∃ R, R < 2047 * 2 ^ 52 ∧ mag R = n * U ∧ floatOfInt .f64 n = double.word false R := by
  obtain ⟨R, h1, h2⟩ := rep_U h
  refine ⟨R, h1, h2, ?_⟩
  have hn : Num 1074 (.number false n 0) false (n * U) := num_at rfl _ _
  have hw := write_near hn (Nat.le_refl _)
  have hb : floatOfInt .f64 n = double.write (.number false n 0) := by
    show double.write (.number (decide ((n : Int) < 0)) (n : Int).natAbs 0) = _
    have h3 : decide ((n : Int) < 0) = false := by simp
    rw [h3]; rfl
  rw [hb]
  exact hw.exact (Nat.le_of_lt h1) (by rw [h2]; simp)

theorem ofInt_fin {n : Nat} (h : n ≤ 2 ^ 53) : Fin (floatOfInt .f64 n) ∧ fv (floatOfInt .f64 n) = (n : Int) * U ∧ neg (floatOfInt .f64 n) = false ∧ floatOfInt .f64 n < 2 ^ 63 := by
  obtain ⟨R, h1, h2, h3⟩ := ofInt_val h
  rw [h3]
  refine ⟨?_, ?_, word_neg _ (by omega), ?_⟩
  · unfold Fin; rw [word_rung _ (by omega)]; exact h1
  · rw [word_fv _ (by omega), h2]; simp [sv]
  · unfold Format.word; simp; omega

theorem read_num' {w : Nat} (h : Fin w) : ∃ m e, double.read w = .number (neg w) m e ∧ 0 ≤ e + ((1074 : Nat) : Int) ∧ m * 2 ^ (e + ((1074 : Nat) : Int)).toNat = mag (rung w) ∧ m < 2 ^ 53 := by
  unfold Fin at h
  unfold Format.read
  rw [sw, bi, ir, lp]
  show ∃ m e, (if rung w < 2 ^ 52 then Datum.number (neg w) (rung w) _ else if rung w < 2047 * 2 ^ 52 then Datum.number (neg w) _ _ else _) = _ ∧ _
  by_cases h1 : rung w < 2 ^ 52
  · rw [if_pos h1, mag_small h1]
    exact ⟨rung w, -1074, rfl, by omega, by simp, by omega⟩
  · rw [if_neg h1, if_pos h]
    refine ⟨2 ^ 52 + rung w % 2 ^ 52, -1074 + ((rung w / 2 ^ 52 - 1 : Nat) : Int), rfl, by omega, ?_, by omega⟩
    have e : (-1074 + ((rung w / 2 ^ 52 - 1 : Nat) : Int) + ((1074 : Nat) : Int)).toNat = rung w / 2 ^ 52 - 1 := by omega
    rw [e]
    unfold mag
    rw [if_neg h1]

/-- The least whole number that is not below. -/
def ceilW (w : Nat) : Nat := double.write ((double.read w).integral .up)

theorem ceil_fin {w : Nat} (h : Fin w) : Fin (ceilW w) ∧ ∃ N : Int, fv (ceilW w) = N * U ∧ fv w ≤ N * U ∧ N * U < fv w + U := by
  obtain ⟨m, e, h1, h2, h3, h4⟩ := read_num' h
  unfold ceilW
  rw [h1]
  show Fin (double.write (.number (neg w) (Toward.up.cut (neg w) (m <<< e.toNat) (-e).toNat) 0)) ∧ ∃ N' : Int, fv (double.write (.number (neg w) (Toward.up.cut (neg w) (m <<< e.toNat) (-e).toNat) 0)) = N' * U ∧ fv w ≤ N' * U ∧ N' * U < fv w + U
  generalize hN : Toward.up.cut (neg w) (m <<< e.toNat) (-e).toNat = N
  have hn : Num 1074 (.number (neg w) N 0) (neg w) (N * U) := num_at rfl _ _
  have hw := write_near hn (Nat.le_refl _)
  rw [cut_eq, Nat.shiftLeft_eq] at hN
  have fin : ∀ R, R < 2047 * 2 ^ 52 → mag R = N * U → (fv w ≤ sv (neg w) N * U ∧ sv (neg w) N * U < fv w + U) → Fin (double.write (.number (neg w) N 0)) ∧ ∃ N' : Int, fv (double.write (.number (neg w) N 0)) = N' * U ∧ fv w ≤ N' * U ∧ N' * U < fv w + U := by
    intro R hR hm hb
    have hx : double.write (.number (neg w) N 0) = double.word (neg w) R := hw.exact (Nat.le_of_lt hR) (by rw [hm]; simp)
    rw [hx]
    refine ⟨?_, sv (neg w) N, ?_, hb⟩
    · unfold Fin; rw [word_rung _ (by omega)]; exact hR
    · rw [word_fv _ (by omega), hm, sv_mul]
  by_cases he : 0 ≤ e
  · have e1 : (-e).toNat = 0 := by omega
    rw [e1] at hN
    have e2 : N = m * 2 ^ e.toNat := by
      rw [← hN]
      simp [more, Nat.mod_one]
    have e3 : mag (rung w) = N * U := by
      rw [← h3, e2, Nat.mul_assoc, pow_up he]
    refine fin (rung w) h e3 ?_
    have : fv w = sv (neg w) N * U := by unfold fv; rw [e3, sv_mul]
    rw [this]
    have := U_pos
    omega
  · have e1 : e.toNat = 0 := by omega
    rw [e1] at hN
    have hg := Nat.two_pow_pos (-e).toNat
    have hU : 2 ^ (-e).toNat * 2 ^ (e + ((1074 : Nat) : Int)).toNat = U := by
      exact (U_of (by omega)).symm
    have hg2 : 2 ≤ 2 ^ (-e).toNat := by
      have : 2 ^ 1 ≤ 2 ^ (-e).toNat := Nat.pow_le_pow_right (by omega) (by omega)
      omega
    have hS := Nat.two_pow_pos (e + ((1074 : Nat) : Int)).toNat
    unfold fv at fin ⊢
    rw [← h3, ← hU] at fin ⊢
    rw [← hU] at hw
    generalize 2 ^ (-e).toNat = g at *
    generalize 2 ^ (e + ((1074 : Nat) : Int)).toNat = S at *
    have hN' : N = m / g + (more .up (neg w) m g).toNat := by rw [← hN]; simp
    have hdm := Nat.div_add_mod m g
    have hml := Nat.mod_lt m hg
    have hle : m / g ≤ m / 2 := Nat.div_le_div_left hg2 (by omega)
    have hb := bool_le (more .up (neg w) m g)
    obtain ⟨R, hR1, hR2⟩ := rep_U (k := N) (by omega)
    refine fin R hR1 (by rw [hR2, ← hU]) ?_
    have hSi : (0 : Int) < S := by omega
    have key : sv (neg w) m ≤ sv (neg w) N * g ∧ sv (neg w) N * g < sv (neg w) m + g := by
      generalize hq : m / g = q at *
      generalize hr : m % g = r at *
      cases hs : neg w
      · have hx : (more .up (neg w) m g).toNat = if r = 0 then 0 else 1 := by
          rw [hs]; unfold more; rw [hr]; by_cases h0 : r = 0 <;> simp [h0]
        rw [hx] at hN'
        show (m : Int) ≤ (N : Int) * g ∧ (N : Int) * g < (m : Int) + g
        rw [hN']
        by_cases h0 : r = 0
        · rw [if_pos h0]
          have : ((q + 0 : Nat) : Int) * g = ((g * q : Nat) : Int) := by rw [Nat.add_zero, Nat.mul_comm]; exact (Int.natCast_mul ..).symm
          rw [this]; omega
        · rw [if_neg h0]
          have : ((q + 1 : Nat) : Int) * g = ((g * q : Nat) : Int) + g := by
            rw [Nat.mul_comm g q, Int.natCast_add, Int.add_mul, Int.natCast_mul]; simp
          rw [this]; omega
      · have hx : (more .up (neg w) m g).toNat = 0 := by rw [hs]; simp [more]
        rw [hx, Nat.add_zero] at hN'
        show -(m : Int) ≤ -(N : Int) * g ∧ -(N : Int) * g < -(m : Int) + g
        rw [hN']
        have : -(q : Int) * g = -((g * q : Nat) : Int) := by rw [Nat.mul_comm g q, Int.natCast_mul, Int.neg_mul]
        rw [this]; omega
    rw [sv_mul]
    have hc : ((g * S : Nat) : Int) = (g : Int) * S := Int.natCast_mul ..
    rw [hc]
    constructor
    · have := Int.mul_le_mul_of_nonneg_right key.1 (Int.le_of_lt hSi)
      rw [Int.mul_assoc] at this; exact this
    · have := Int.mul_lt_mul_of_pos_right key.2 hSi
      rw [Int.mul_assoc, Int.add_mul] at this; exact this

/-- Cut towards zero. -/
theorem trunc_fin {w : Nat} (h : Fin w) : (FloatKind.f64.decode w).toInt .zero = some (sv (neg w) (mag (rung w) / U)) := by
  obtain ⟨m, e, h1, h2, h3, h4⟩ := read_num' h
  show (double.read w).toInt .zero = _
  rw [h1]
  show some (signed (neg w) (Toward.zero.cut (neg w) (m <<< e.toNat) (-e).toNat) 0) = _
  rw [signed_sv, cut_eq, Nat.shiftLeft_eq, ← h3]
  congr 2
  show (m * 2 ^ e.toNat / 2 ^ (-e).toNat + 0) * 2 ^ 0 = _
  rw [Nat.add_zero, Nat.pow_zero, Nat.mul_one]
  by_cases he : 0 ≤ e
  · have hs := pow_up he
    rw [show (-e).toNat = 0 by omega, hs, ← Nat.mul_assoc, Nat.mul_div_cancel _ U_pos]
    simp
  · have hs : U = 2 ^ (-e).toNat * 2 ^ (e + ((1074 : Nat) : Int)).toNat := U_of (by omega)
    rw [show e.toNat = 0 by omega, hs, Nat.mul_div_mul_right _ _ (Nat.two_pow_pos _)]
    simp

theorem t_ge {a b : Nat} (ha : nan a = false) (hb : nan b = false) : (FloatKind.f64.format.order a b == some .gt || FloatKind.f64.format.order a b == some .eq) = decide (fv b ≤ fv a) := by
  rw [t_gt ha hb, t_eq ha hb]
  by_cases h : fv b < fv a
  · have : fv b ≤ fv a := by omega
    simp [h, this]
  · by_cases h2 : fv a = fv b
    · simp [h2]
    · have : ¬ fv b ≤ fv a := by omega
      simp [h, h2, this]
theorem t_le {a b : Nat} (ha : nan a = false) (hb : nan b = false) : (FloatKind.f64.format.order a b == some .lt || FloatKind.f64.format.order a b == some .eq) = decide (fv a ≤ fv b) := by
  rw [t_lt ha hb, t_eq ha hb]
  by_cases h : fv a < fv b
  · have : fv a ≤ fv b := by omega
    simp [h, this]
  · by_cases h2 : fv a = fv b
    · simp [h2]
    · have : ¬ fv a ≤ fv b := by omega
      simp [h, h2, this]
/-- A test that says yes: no NaN. -/
theorem ge_yes {a b : Nat} (h : (FloatKind.f64.format.order a b == some .gt || FloatKind.f64.format.order a b == some .eq) = true) : nan a = false ∧ nan b = false ∧ fv b ≤ fv a := by
  have hn : ¬ (nan a = true ∨ nan b = true) := fun h' => by rw [order_nan h'] at h; simp at h
  have ha : nan a = false := by cases e : nan a <;> simp_all
  have hb : nan b = false := by cases e : nan b <;> simp_all
  rw [t_ge ha hb] at h
  exact ⟨ha, hb, of_decide_eq_true h⟩
theorem le_yes {a b : Nat} (h : (FloatKind.f64.format.order a b == some .lt || FloatKind.f64.format.order a b == some .eq) = true) : nan a = false ∧ nan b = false ∧ fv a ≤ fv b := by
  have hn : ¬ (nan a = true ∨ nan b = true) := fun h' => by rw [order_nan h'] at h; simp at h
  have ha : nan a = false := by cases e : nan a <;> simp_all
  have hb : nan b = false := by cases e : nan b <;> simp_all
  rw [t_le ha hb] at h
  exact ⟨ha, hb, of_decide_eq_true h⟩
theorem gt_yes {a b : Nat} (h : (FloatKind.f64.format.order a b == some .gt) = true) : nan a = false ∧ nan b = false ∧ fv b < fv a := by
  have hn : ¬ (nan a = true ∨ nan b = true) := fun h' => by rw [order_nan h'] at h; simp at h
  have ha : nan a = false := by cases e : nan a <;> simp_all
  have hb : nan b = false := by cases e : nan b <;> simp_all
  rw [t_gt ha hb] at h
  exact ⟨ha, hb, of_decide_eq_true h⟩
/-- Between two finite ones: finite. -/
theorem fin_of {a : Nat} (_hn : nan a = false) {B : Nat} (h1 : -(mag B : Int) ≤ fv a) (h2 : fv a ≤ mag B) (hB : B < 2047 * 2 ^ 52) : Fin a := by
  unfold Fin
  refine Nat.lt_of_not_le fun h => ?_
  have h3 := mag_lt hB
  have h4 := mag_le h
  have h5 : (fv a).natAbs = mag (rung a) := sv_abs _ _
  omega

theorem one_eq : floatOfInt .f64 ((1 : Nat) : Int) = 4607182418800017408 := by decide +kernel
theorem one_fin : Fin 4607182418800017408 ∧ fv 4607182418800017408 = (U : Int) ∧ neg 4607182418800017408 = false := by
  have h := ofInt_fin (n := 1) (by omega)
  rw [one_eq] at h
  exact ⟨h.1, by rw [h.2.1]; simp, h.2.2.1⟩
theorem zero_fin : Fin 0 ∧ fv 0 = 0 := by
  refine ⟨by unfold Fin rung; omega, ?_⟩
  have : rung 0 = 0 := rfl
  unfold fv; rw [this, mag_zero]; rfl

/-- 'int(x)' of a whole number. -/
theorem toInt_of {w : Nat} (h : Fin w) {N : Int} (hN : fv w = N * U) (h1 : -9223372036854775808 ≤ N) (h2 : N ≤ 9223372036854775807) : floatToIntVal .f64 w .i64 = some N := by
  have ht := trunc_fin h
  have e : sv (neg w) (mag (rung w) / U) = N := by
    have hU := U_pos
    unfold fv sv at *
    cases hs : neg w
    · rw [hs] at hN
      simp at hN ⊢
      rw [hN]
      exact Int.mul_ediv_cancel _ (by omega)
    · rw [hs] at hN
      simp at hN ⊢
      have : (mag (rung w) : Int) = (-N) * U := by rw [Int.neg_mul]; omega
      rw [this, Int.mul_ediv_cancel _ (by omega)]
      omega
  unfold floatToIntVal
  rw [ht, e]
  have a1 : IntKind.i64.min = -9223372036854775808 := by decide
  have a2 : IntKind.i64.max = 9223372036854775807 := by decide
  simp only [a1, a2]
  rw [if_pos ⟨h1, h2⟩]
end Go.Proofs.Ytafglefiodanbaa.Flt
