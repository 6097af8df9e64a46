/- PLAIN: unrounded scaling is exact where strconv uses it. By an AI agent. -/
import Derived.Test.YtemjlkmlodmmfaaGreatDoorMg11
import Derived.Test.YtemjlkmlodmmfaaGreatDoorMg03
import Derived.Test.YtemjlkmlodmmfaaGreatDoorMg04
namespace Go.Proofs.YtemjlkmlodmmfaaGreatDoor.Us
set_option linter.unusedVariables false

/-! ### the mantissas of the powers of ten -/
def pmtOk (i : Nat) : Bool := let q := pm ((i : Int) - 348); decide (q ≤ 340282366920938463444927863358058659840) && decide (170141183460469231731687303715884105728 ≤ q)
theorem pmt_all : ∀ i : Fin 696, pmtOk i.val = true := by decide +kernel
theorem pmt_range {p : Int} (h1 : -348 ≤ p) (h2 : p ≤ 347) : pm p ≤ 340282366920938463444927863358058659840 ∧ 170141183460469231731687303715884105728 ≤ pm p := by
  have h := pmt_all ⟨(p + 348).toNat, by omega⟩
  unfold pmtOk at h
  simp only [Bool.and_eq_true, decide_eq_true_eq] at h
  rw [show (((p + 348).toNat : Nat) : Int) - 348 = p by omega] at h
  exact h
theorem pmt_parts {p : Int} (h1 : -348 ≤ p) (h2 : p ≤ 347) : pmHi p < 18446744073709551616 ∧ pmLo p < 18446744073709551616 ∧ pmLo p ≤ pmHi p * 18446744073709551616 ∧ pmHi p * 18446744073709551616 - pmLo p = pm p ∧ 9223372036854775808 ≤ pmHi p := by
  obtain ⟨a, b⟩ := pmt_range h1 h2
  unfold pmLo pmHi
  generalize pm p = q at *
  have e := Nat.div_add_mod (q + 18446744073709551615) 18446744073709551616
  have l := Nat.mod_lt (q + 18446744073709551615) (y := 18446744073709551616) (by omega)
  generalize (q + 18446744073709551615) / 18446744073709551616 = h at *
  generalize (q + 18446744073709551615) % 18446744073709551616 = r at *
  omega
theorem ceilN (A B : Nat) (hB : 0 < B) : A ≤ (A + B - 1) / B * B ∧ (A + B - 1) / B * B < A + B := by
  have e := Nat.div_add_mod (A + B - 1) B
  have l := Nat.mod_lt (A + B - 1) hB
  rw [Nat.mul_comm] at e
  generalize (A + B - 1) / B * B = z at *
  omega

/-! ### what a ratio's unrounded number hangs on -/
theorem unr_ratio {n d n' d' : Nat} (hd : 0 < d) (hd' : 0 < d') (h : n * d' = n' * d) : unr n d = unr n' d' := by
  have e := Nat.div_add_mod n d
  have l := Nat.mod_lt n hd
  have e' := Nat.div_add_mod n' d'
  have l' := Nat.mod_lt n' hd'
  have hq : n / d = n' / d' := by
    refine Nat.le_antisymm ?_ ?_
    · rw [Nat.le_div_iff_mul_le hd']
      refine Nat.le_of_mul_le_mul_right ?_ hd
      have : n / d * d ≤ n := Nat.div_mul_le_self n d
      calc n / d * d' * d = n / d * d * d' := Nat.mul_right_comm ..
        _ ≤ n * d' := Nat.mul_le_mul_right d' this
        _ = n' * d := h
    · rw [Nat.le_div_iff_mul_le hd]
      refine Nat.le_of_mul_le_mul_right ?_ hd'
      have : n' / d' * d' ≤ n' := Nat.div_mul_le_self n' d'
      calc n' / d' * d * d' = n' / d' * d' * d := Nat.mul_right_comm ..
        _ ≤ n' * d := Nat.mul_le_mul_right d this
        _ = n * d' := h.symm
  have hr : n % d * d' = n' % d' * d := by
    rw [hq] at e
    have a1 : n * d' = d * (n' / d') * d' + n % d * d' := by rw [← Nat.add_mul, e]
    have a2 : n' * d = d' * (n' / d') * d + n' % d' * d := by rw [← Nat.add_mul, e']
    have a3 : d * (n' / d') * d' = d' * (n' / d') * d := by rw [Nat.mul_comm d, Nat.mul_assoc, Nat.mul_comm d d', ← Nat.mul_assoc, Nat.mul_comm (n' / d') d']
    omega
  unfold unr
  rw [hq]
  have : decide (n % d ≠ 0) = decide (n' % d' ≠ 0) := by
    rw [decide_eq_decide]
    constructor
    · intro h1 h2
      rw [h2, Nat.zero_mul] at hr
      rcases Nat.mul_eq_zero.1 hr with h3 | h3 <;> omega
    · intro h1 h2
      rw [h2, Nat.zero_mul] at hr
      rcases Nat.mul_eq_zero.1 hr.symm with h3 | h3 <;> omega
  rw [this]

/-- One and the same ratio at two scales. -/
theorem scale_eq (p : Int) (j r : Nat) (k l : Int) (h : (j : Int) + l = k + (r : Int)) : 2 ^ j * num p l * den p k = num p k * (den p l * 2 ^ r) := by
  unfold num den
  have e : 2 ^ j * 2 ^ l.toNat * 2 ^ (-k).toNat = 2 ^ k.toNat * 2 ^ (-l).toNat * 2 ^ r := by
    rw [← Nat.pow_add, ← Nat.pow_add, ← Nat.pow_add, ← Nat.pow_add]
    congr 1
    omega
  generalize 10 ^ p.toNat = P
  generalize 10 ^ (-p).toNat = Q
  generalize 2 ^ j = a at *
  generalize 2 ^ l.toNat = b at *
  generalize 2 ^ (-k).toNat = c at *
  generalize 2 ^ k.toNat = d at *
  generalize 2 ^ (-l).toNat = f at *
  generalize 2 ^ r = g at *
  calc a * (P * b) * (Q * c) = P * Q * (a * b * c) := by ac_rfl
    _ = P * Q * (d * f * g) := by rw [e]
    _ = P * d * (Q * f * g) := by ac_rfl

/-- Unrounded scaling is exact where the multiples keep their distance. -/
theorem usc_exact {p k : Int} {x X j s t M : Nat} (hp1 : -348 ≤ p) (hp2 : p ≤ 347) (hx : x = X * 2 ^ j) (hx2 : x < 18446744073709551616) (hx1 : 4 ≤ x) (hs : s < 64) (hk : (j : Int) = k + 1 + lgp p + s)
    (G : Gap (num p k) (den p k) t M) (hX : X < M) (ht : t ≤ 63 + s) : usc x s (pmHi p) (pmLo p) = unr (X * num p k) (den p k) := by
  obtain ⟨a1, a2, a3, a4, a5⟩ := pmt_parts hp1 hp2
  have hB := den_pos p (127 - lgp p)
  have hD := den_pos p k
  have hc := ceilN (num p (127 - lgp p)) (den p (127 - lgp p)) hB
  have hpm : pm p = (num p (127 - lgp p) + den p (127 - lgp p) - 1) / den p (127 - lgp p) := rfl
  rw [← hpm] at hc
  have hsc := scale_eq p j (128 + s) k (127 - lgp p) (by omega)
  have hX0 : 0 < X := by
    refine Nat.pos_of_ne_zero fun h0 => ?_
    rw [h0, Nat.zero_mul] at hx; omega
  have h2 := Nat.two_pow_pos (128 + s)
  have hratio : x * num p (127 - lgp p) * den p k = X * num p k * (den p (127 - lgp p) * 2 ^ (128 + s)) := by
    rw [hx, Nat.mul_assoc X, Nat.mul_assoc X, hsc, Nat.mul_assoc X]
  rw [usc_ok (A := num p (127 - lgp p)) (B := den p (127 - lgp p)) hx2 (by omega) a1 a2 a3 hB hs (by rw [a4]; exact hc.1) (by rw [a4]; exact hc.2) ?_ ?_]
  · exact unr_ratio (Nat.mul_pos hB h2) hD hratio
  · have : 4 * 9223372036854775808 ≤ x * pmHi p := Nat.mul_le_mul hx1 a5
    exact Nat.div_pos (by omega) (by omega)
  · intro n
    have g := G X n hX0 hX
    have hpow : 2 ^ t * 36893488147419103232 ≤ 2 ^ (128 + s) := by
      have e65 : (36893488147419103232 : Nat) = 2 ^ 65 := by decide
      rw [e65, ← Nat.pow_add]
      exact Nat.pow_le_pow_right (by decide) (by omega)
    have hT := Nat.two_pow_pos t
    generalize num p (127 - lgp p) = A at *
    generalize den p (127 - lgp p) = B at *
    generalize num p k = N at *
    generalize den p k = D at *
    generalize 2 ^ (128 + s) = W at *
    generalize 2 ^ t = T at *
    have hNX : X * N = N * X := Nat.mul_comm _ _
    rw [hNX] at hratio
    rcases g with g | ⟨g1, g2⟩ | ⟨g1, g2⟩
    · left
      refine Nat.eq_of_mul_eq_mul_right hD ?_
      rw [hratio, g]
      ac_rfl
    · right; left
      obtain ⟨y, hy⟩ : ∃ y, n * D = N * X + y := ⟨n * D - N * X, by omega⟩
      rw [hy, Nat.add_sub_cancel_left] at g2
      refine Nat.le_of_mul_le_mul_right ?_ hD
      have e1 : n * (B * W) * D = N * X * (B * W) + y * (B * W) := by rw [← Nat.add_mul, ← hy]; ac_rfl
      rw [Nat.add_mul, hratio, e1]
      refine Nat.add_le_add_left ?_ _
      calc B * 36893488147419103232 * D ≤ B * 36893488147419103232 * (y * T) := Nat.mul_le_mul_left _ g2
        _ = y * B * (T * 36893488147419103232) := by ac_rfl
        _ ≤ y * B * W := Nat.mul_le_mul_left _ hpow
        _ = y * (B * W) := Nat.mul_assoc ..
    · right; right
      obtain ⟨y, hy⟩ : ∃ y, N * X = n * D + y := ⟨N * X - n * D, by omega⟩
      rw [hy, Nat.add_sub_cancel_left] at g2
      refine Nat.le_of_mul_le_mul_right ?_ hD
      have e1 : N * X * (B * W) = n * (B * W) * D + y * (B * W) := by rw [hy, Nat.add_mul]; congr 1; ac_rfl
      rw [Nat.add_mul, hratio, e1]
      refine Nat.add_le_add_left ?_ _
      calc B * 36893488147419103232 * D ≤ B * 36893488147419103232 * (y * T) := Nat.mul_le_mul_left _ g2
        _ = y * B * (T * 36893488147419103232) := by ac_rfl
        _ ≤ y * B * W := Nat.mul_le_mul_left _ hpow
        _ = y * (B * W) := Nat.mul_assoc ..
end Go.Proofs.YtemjlkmlodmmfaaGreatDoor.Us

/- PLAIN: the digits that strconv finds lie where only their float is nearest. By an AI agent. -/
namespace Go.Proofs.YtemjlkmlodmmfaaGreatDoor.Us
set_option linter.unusedVariables false

/-! ### what an unrounded number tells -/
theorem unr_says {n d : Nat} (hd : 0 < d) : (∃ q, unr n d = q ∧ n = q * d) ∨ (∃ q, unr n d = q / 2 * 2 + 1 ∧ q * d < n ∧ n < (q + 1) * d) := by
  have e := Nat.div_add_mod n d
  have l := Nat.mod_lt n hd
  rw [Nat.mul_comm] at e
  unfold unr stk
  by_cases h : n % d = 0
  · left
    rw [if_neg (by simp [h])]
    exact ⟨n / d, rfl, by omega⟩
  · right
    rw [if_pos (by simp [h])]
    refine ⟨n / d, rfl, by omega, ?_⟩
    rw [Nat.add_mul, Nat.one_mul]
    omega
theorem mul_lt_iff {a b d : Nat} (hd : 0 < d) : a * d < b * d ↔ a < b := Nat.mul_lt_mul_right hd
theorem mul_le_iff {a b d : Nat} (hd : 0 < d) : a * d ≤ b * d ↔ a ≤ b := Nat.mul_le_mul_right_iff hd
theorem unr_le {n d z : Nat} (hd : 0 < d) : unr n d ≤ 4 * z ↔ n ≤ 4 * z * d := by
  rcases unr_says (n := n) hd with ⟨q, h1, h2⟩ | ⟨q, h1, h2, h3⟩
  · rw [h1, h2, mul_le_iff hd]
  · rw [h1]
    constructor
    · intro h
      have : q + 1 ≤ 4 * z := by omega
      exact Nat.le_of_lt (Nat.lt_of_lt_of_le h3 (Nat.mul_le_mul_right d this))
    · intro h
      have : q < 4 * z := (mul_lt_iff hd).1 (Nat.lt_of_lt_of_le h2 h)
      omega
theorem unr_lt {n d z : Nat} (hd : 0 < d) : unr n d < 4 * z ↔ n < 4 * z * d := by
  rcases unr_says (n := n) hd with ⟨q, h1, h2⟩ | ⟨q, h1, h2, h3⟩
  · rw [h1, h2, mul_lt_iff hd]
  · rw [h1]
    constructor
    · intro h
      have : q + 1 ≤ 4 * z := by omega
      exact Nat.lt_of_lt_of_le h3 (Nat.mul_le_mul_right d this)
    · intro h
      have : q < 4 * z := (mul_lt_iff hd).1 (Nat.lt_trans h2 h)
      omega
/-- Rounded: at most half a unit away. -/
theorem rnd_near {n d : Nat} (hd : 0 < d) : 4 * rnd (unr n d) * d ≤ n + 2 * d ∧ n ≤ 4 * rnd (unr n d) * d + 2 * d := by
  unfold rnd
  rcases unr_says (n := n) hd with ⟨q, h1, h2⟩ | ⟨q, h1, h2, h3⟩
  · rw [h1, h2]
    have a : 4 * ((q + 1 + q / 4 % 2) / 4) ≤ q + 2 := by omega
    have b : q ≤ 4 * ((q + 1 + q / 4 % 2) / 4) + 2 := by omega
    have a' := Nat.mul_le_mul_right d a
    have b' := Nat.mul_le_mul_right d b
    rw [Nat.add_mul] at a' b'
    exact ⟨a', b'⟩
  · rw [h1]
    generalize hu : q / 2 * 2 + 1 = u
    have a : 4 * ((u + 1 + u / 4 % 2) / 4) ≤ q + 2 := by omega
    have b : q + 1 ≤ 4 * ((u + 1 + u / 4 % 2) / 4) + 2 := by omega
    have a' : 4 * ((u + 1 + u / 4 % 2) / 4) * d ≤ q * d + 2 * d := by rw [← Nat.add_mul]; exact Nat.mul_le_mul_right d a
    have b' : (q + 1) * d ≤ 4 * ((u + 1 + u / 4 % 2) / 4) * d + 2 * d := by rw [← Nat.add_mul]; exact Nat.mul_le_mul_right d b
    omega

/-- Between L and U (both in the interval if o = 0, none if o = 1). -/
def Betw (o L U W z : Nat) : Prop := (o = 0 → L ≤ z * W ∧ z * W ≤ U) ∧ (o = 1 → L < z * W ∧ z * W < U)

/-- The heart: of the unrounded ends and middle, in whole numbers. -/
theorem pick {L M U D o d1 d2 : Nat} (hD : 0 < D) (ho : o ≤ 1) (h6 : 4 ≤ unr U D) (e1 : d1 = (unr L D + o + 3) / 4) (e2 : d2 = (unr U D - o) / 4) :
    (∀ z, d1 ≤ z → z ≤ d2 → Betw o L U (4 * D) z) ∧ (∀ z, Betw o L U (4 * D) z → d1 ≤ z ∧ z ≤ d2) := by
  have f1 : ∀ z, 4 * z * D = z * (4 * D) := fun z => by rw [Nat.mul_comm 4 z, Nat.mul_assoc]
  have lo : ∀ z, d1 ≤ z ↔ unr L D + o ≤ 4 * z := fun z => by rw [e1]; omega
  have hi : ∀ z, z ≤ d2 ↔ 4 * z + o ≤ unr U D := fun z => by rw [e2]; omega
  have r1 : o = 0 → ∀ z, (d1 ≤ z ↔ L ≤ z * (4 * D)) := fun h z => by rw [lo, h, Nat.add_zero, unr_le hD, f1]
  have r2 : o = 1 → ∀ z, (d1 ≤ z ↔ L < z * (4 * D)) := fun h z => by rw [lo, h, Nat.add_one_le_iff, unr_lt hD, f1]
  have r3 : o = 0 → ∀ z, (z ≤ d2 ↔ z * (4 * D) ≤ U) := fun h z => by
    rw [hi, h, Nat.add_zero, ← Nat.not_lt, unr_lt hD, f1, Nat.not_lt]
  have r4 : o = 1 → ∀ z, (z ≤ d2 ↔ z * (4 * D) < U) := fun h z => by
    rw [hi, h, Nat.add_one_le_iff, ← Nat.not_le, unr_le hD, f1, Nat.not_le]
  refine ⟨fun z h1 h2 => ⟨fun h => ⟨(r1 h z).1 h1, (r3 h z).1 h2⟩, fun h => ⟨(r2 h z).1 h1, (r4 h z).1 h2⟩⟩, fun z h => ?_⟩
  by_cases h0 : o = 0
  · exact ⟨(r1 h0 z).2 (h.1 h0).1, (r3 h0 z).2 (h.1 h0).2⟩
  · have h1 : o = 1 := by omega
    exact ⟨(r2 h1 z).2 (h.2 h1).1, (r4 h1 z).2 (h.2 h1).2⟩

/-- What strconv picks lies between; lo, up: how far the ends lie from the middle. -/
theorem picked {L M U D o d1 d2 lo up : Nat} (hD : 0 < D) (ho : o ≤ 1) (h6 : 4 ≤ unr U D) (e1 : d1 = (unr L D + o + 3) / 4) (e2 : d2 = (unr U D - o) / 4)
    (hl : L + lo = M) (hu : M + up = U) (hlu : lo ≤ up) (hul : up ≤ 2 * lo) (hw : 4 * D < lo + up ∨ ∃ z, Betw o L U (4 * D) z) :
    (d1 ≤ d2 / 10 * 10 → Betw o L U (4 * D) (10 * (d2 / 10))) ∧ (¬ d1 ≤ d2 / 10 * 10 → d1 < d2 → Betw o L U (4 * D) (rnd (unr M D))) ∧ (¬ d1 < d2 → Betw o L U (4 * D) d1) := by
  obtain ⟨p1, p2⟩ := pick (M := M) hD ho h6 e1 e2
  refine ⟨fun h => p1 _ (by omega) (by omega), fun _ h => ?_, fun h => ?_⟩
  · -- at least two whole numbers between: the middle's nearest is one
    have a := p1 d1 (Nat.le_refl _) (Nat.le_of_lt h)
    have b := p1 d2 (Nat.le_of_lt h) (Nat.le_refl _)
    have c := rnd_near (n := M) hD
    have f1 : ∀ z, 4 * z * D = z * (4 * D) := fun z => by rw [Nat.mul_comm 4 z, Nat.mul_assoc]
    rw [f1] at c
    generalize rnd (unr M D) = r at *
    have hlr : d1 ≤ r := by
      refine Nat.le_of_not_lt fun hlt => ?_
      have x1 := Nat.mul_le_mul_right (4 * D) (show r + 1 ≤ d1 by omega)
      have x2 := Nat.mul_le_mul_right (4 * D) (show d1 + 1 ≤ d2 by omega)
      rw [Nat.add_mul, Nat.one_mul] at x1 x2
      have y := fun h3 => (Nat.lt_irrefl d1 (Nat.lt_of_le_of_lt (p2 (d1 - 1) h3).1 (by omega)))
      have x3 : (d1 - 1) * (4 * D) + 4 * D = d1 * (4 * D) := by
        have := Nat.add_mul (d1 - 1) 1 (4 * D)
        rw [Nat.one_mul, show d1 - 1 + 1 = d1 by omega] at this
        exact this.symm
      by_cases h0 : o = 0
      · have a0 := a.1 h0
        have b0 := b.1 h0
        have nl : ¬ L ≤ (d1 - 1) * (4 * D) := fun h4 => y ⟨fun _ => ⟨h4, by omega⟩, fun h5 => by omega⟩
        omega
      · have h1 : o = 1 := by omega
        have a0 := a.2 h1
        have b0 := b.2 h1
        have nl : ¬ L < (d1 - 1) * (4 * D) := fun h4 => y ⟨fun h5 => by omega, fun _ => ⟨h4, by omega⟩⟩
        omega
    have hrh : r ≤ d2 := by
      refine Nat.le_of_not_lt fun hlt => ?_
      have x1 := Nat.mul_le_mul_right (4 * D) (show d2 + 1 ≤ r by omega)
      have x2 := Nat.mul_le_mul_right (4 * D) (show d1 + 1 ≤ d2 by omega)
      have y := fun h3 => (Nat.lt_irrefl d2 (Nat.lt_of_lt_of_le (Nat.lt_succ_self d2) (p2 (d2 + 1) h3).2))
      rw [Nat.add_mul, Nat.one_mul] at x1 x2
      by_cases h0 : o = 0
      · have a0 := a.1 h0
        have b0 := b.1 h0
        have nl : ¬ (d2 + 1) * (4 * D) ≤ U := fun h4 => y ⟨fun _ => ⟨by rw [Nat.add_mul, Nat.one_mul]; omega, h4⟩, fun h5 => by omega⟩
        rw [Nat.add_mul, Nat.one_mul] at nl
        omega
      · have h1 : o = 1 := by omega
        have a0 := a.2 h1
        have b0 := b.2 h1
        have nl : ¬ (d2 + 1) * (4 * D) < U := fun h4 => y ⟨fun h5 => by omega, fun _ => ⟨by rw [Nat.add_mul, Nat.one_mul]; omega, h4⟩⟩
        rw [Nat.add_mul, Nat.one_mul] at nl
        omega
    exact p1 r hlr hrh
  · -- one at least lies between
    have hex : ∃ z, Betw o L U (4 * D) z := by
      rcases hw with hw | hw
      · have e := Nat.div_add_mod L (4 * D)
        have l := Nat.mod_lt L (y := 4 * D) (by omega)
        rw [Nat.mul_comm] at e
        have x1 : (L / (4 * D) + 1) * (4 * D) = L / (4 * D) * (4 * D) + 4 * D := by rw [Nat.add_mul, Nat.one_mul]
        exact ⟨L / (4 * D) + 1, fun _ => by omega, fun _ => by omega⟩
      · exact hw
    obtain ⟨z, hz⟩ := hex
    obtain ⟨z1, z2⟩ := p2 z hz
    exact p1 d1 (Nat.le_refl _) (by omega)
end Go.Proofs.YtemjlkmlodmmfaaGreatDoor.Us

/- PLAIN: the multiples keep their distance, for each power of ten that strconv scales by: reckoned by the kernel. By an AI agent. -/
namespace Go.Proofs.YtemjlkmlodmmfaaGreatDoor.Us
set_option linter.unusedVariables false

def parseOk (i : Nat) : Bool := okAll (num ((i : Int) - 343) (-2 - lgp ((i : Int) - 343))) (den ((i : Int) - 343) (-2 - lgp ((i : Int) - 343))) 71 144115188075855872
def denOk (i : Nat) : Bool := okAll (num ((i : Int) - 345) 1076) (den ((i : Int) - 345) 1076) 72 144115188075855872
def skewOk (i : Nat) : Bool := okAll (num (-skw ((i : Int) - 1084 + 11)) (11 + ((i : Int) - 1084))) (den (-skw ((i : Int) - 1084 + 11)) (11 + ((i : Int) - 1084))) (63 + (-((i : Int) - 1084 + lgp (-skw ((i : Int) - 1084 + 11)) + 3)).toNat) 72057594037927936
theorem sub_one : okAll (num 324 (-1073)) (den 324 (-1073)) 70 36028797018963968 = true := by decide +kernel
theorem parse_all : ∀ i : Fin 653, parseOk i.val = true := by decide +kernel
theorem den_all : ∀ i : Fin 69, denOk i.val = true := by decide +kernel
theorem skew_all : ∀ i : Fin 2045, skewOk i.val = true := by decide +kernel
/-- The parser's multiples: of normal numbers, and of the least. -/
theorem parse_gap {p : Int} (h1 : -343 ≤ p) (h2 : p ≤ 309) : Gap (num p (-2 - lgp p)) (den p (-2 - lgp p)) 71 144115188075855872 := by
  have h := parse_all ⟨(p + 343).toNat, by omega⟩
  unfold parseOk at h
  simp only at h
  rw [show (((p + 343).toNat : Nat) : Int) - 343 = p by omega] at h
  exact all_gap h
theorem den_gap {p : Int} (h1 : -345 ≤ p) (h2 : p ≤ -277) : Gap (num p 1076) (den p 1076) 72 144115188075855872 := by
  have h := den_all ⟨(p + 345).toNat, by omega⟩
  unfold denOk at h
  simp only at h
  rw [show (((p + 345).toNat : Nat) : Int) - 345 = p by omega] at h
  exact all_gap h
theorem skew_gap {e : Int} (h1 : -1084 ≤ e) (h2 : e ≤ 960) : Gap (num (-skw (e + 11)) (11 + e)) (den (-skw (e + 11)) (11 + e)) (63 + (-(e + lgp (-skw (e + 11)) + 3)).toNat) 72057594037927936 := by
  have h := skew_all ⟨(e + 1084).toNat, by omega⟩
  unfold skewOk at h
  simp only at h
  rw [show (((e + 1084).toNat : Nat) : Int) - 1084 = e by omega] at h
  exact all_gap h
theorem sub_gap : Gap (num 324 (-1073)) (den 324 (-1073)) 70 36028797018963968 := all_gap sub_one
end Go.Proofs.YtemjlkmlodmmfaaGreatDoor.Us

/- PLAIN: the same of the printer's powers of ten. By an AI agent. -/
namespace Go.Proofs.YtemjlkmlodmmfaaGreatDoor.Us
set_option linter.unusedVariables false

def showOk (i : Nat) : Bool := okAll (num (-lg2 ((i : Int) - 1085 + 11)) (12 + ((i : Int) - 1085))) (den (-lg2 ((i : Int) - 1085 + 11)) (12 + ((i : Int) - 1085))) (63 + (-((i : Int) - 1085 + lgp (-lg2 ((i : Int) - 1085 + 11)) + 3)).toNat) 36028797018963968
theorem show_all : ∀ i : Fin 2046, showOk i.val = true := by decide +kernel
theorem show_gap {e : Int} (h1 : -1085 ≤ e) (h2 : e ≤ 960) : Gap (num (-lg2 (e + 11)) (12 + e)) (den (-lg2 (e + 11)) (12 + e)) (63 + (-(e + lgp (-lg2 (e + 11)) + 3)).toNat) 36028797018963968 := by
  have h := show_all ⟨(e + 1085).toNat, by omega⟩
  unfold showOk at h
  simp only at h
  rw [show (((e + 1085).toNat : Nat) : Int) - 1085 = e by omega] at h
  exact all_gap h
end Go.Proofs.YtemjlkmlodmmfaaGreatDoor.Us

/- PLAIN: the shortest digits lie within their float's reach. By an AI agent. -/
namespace Go.Proofs.YtemjlkmlodmmfaaGreatDoor.Us
set_option linter.unusedVariables false

/-- The widths: an interval holds a whole number. -/
def wideOk (i : Nat) : Bool := decide (4 * den (-lg2 ((i : Int) - 1085 + 11)) (12 + ((i : Int) - 1085)) < 2 * num (-lg2 ((i : Int) - 1085 + 11)) (12 + ((i : Int) - 1085))) || decide (i = 1074)
theorem wide_all : ∀ i : Fin 2046, wideOk i.val = true := by decide +kernel
theorem wide {e : Int} (h1 : -1085 ≤ e) (h2 : e ≤ 960) : 4 * den (-lg2 (e + 11)) (12 + e) < 2 * num (-lg2 (e + 11)) (12 + e) ∨ e = -11 := by
  have h := wide_all ⟨(e + 1085).toNat, by omega⟩
  unfold wideOk at h
  simp only at h
  rw [show (((e + 1085).toNat : Nat) : Int) - 1085 = e by omega] at h
  simp only [Bool.or_eq_true, decide_eq_true_eq] at h
  rcases h with h | h
  · exact .inl h
  · right; omega
def wideS (i : Nat) : Bool := decide (4 * den (-skw ((i : Int) - 1084 + 11)) (11 + ((i : Int) - 1084)) < 3 * num (-skw ((i : Int) - 1084 + 11)) (11 + ((i : Int) - 1084)))
theorem wideS_all : ∀ i : Fin 2045, wideS i.val = true := by decide +kernel
theorem wide_skew {e : Int} (h1 : -1084 ≤ e) (h2 : e ≤ 960) : 4 * den (-skw (e + 11)) (11 + e) < 3 * num (-skw (e + 11)) (11 + e) := by
  have h := wideS_all ⟨(e + 1084).toNat, by omega⟩
  unfold wideS at h
  simp only at h
  rw [show (((e + 1084).toNat : Nat) : Int) - 1084 = e by omega] at h
  exact of_decide_eq_true h
theorem wide_sub : decide (4 * den 324 (-1073) < 2 * num 324 (-1073)) = true := by decide +kernel

/-- Within the reach of the float m0 2^E: l is 2, below a power of two 1. -/
def Within (m0 : Nat) (E : Int) (l d : Nat) (q : Int) : Prop :=
  (m0 % 2 = 0 → (4 * m0 - l) * den q (2 - E) ≤ d * num q (2 - E) ∧ d * num q (2 - E) ≤ (4 * m0 + 2) * den q (2 - E)) ∧
  (m0 % 2 = 1 → (4 * m0 - l) * den q (2 - E) < d * num q (2 - E) ∧ d * num q (2 - E) < (4 * m0 + 2) * den q (2 - E))

theorem den_num (p k : Int) : den p k = num (-p) (-k) := rfl
theorem num_den (p k : Int) : num p k = den (-p) (-k) := by unfold num den; rw [Int.neg_neg, Int.neg_neg]
/-- The unit turned round. -/
theorem turn (P k : Int) (r : Nat) (E : Int) (h : 2 - E = (r : Int) - k) : num (-P) (2 - E) * num P k = 2 ^ r * (den (-P) (2 - E) * den P k) := by
  unfold num den
  rw [Int.neg_neg]
  have e : 2 ^ (2 - E).toNat * 2 ^ k.toNat = 2 ^ r * 2 ^ (-(2 - E)).toNat * 2 ^ (-k).toNat := by
    rw [← Nat.pow_add, ← Nat.pow_add, ← Nat.pow_add]
    congr 1
    omega
  generalize 10 ^ P.toNat = a
  generalize 10 ^ (-P).toNat = b
  generalize 2 ^ (2 - E).toNat = c at *
  generalize 2 ^ k.toNat = d at *
  generalize 2 ^ (-(2 - E)).toNat = f at *
  generalize 2 ^ (-k).toNat = g at *
  generalize 2 ^ r = t at *
  calc b * c * (a * d) = a * b * (c * d) := by ac_rfl
    _ = a * b * (t * f * g) := by rw [e]
    _ = t * (a * f * (b * g)) := by ac_rfl
theorem ten_more (P k : Int) (d : Nat) : 10 * d * num (-P) k * den (1 - P) k = d * num (1 - P) k * den (-P) k := by
  unfold num den
  rw [Int.neg_neg]
  have e : 10 * 10 ^ (-P).toNat * 10 ^ (-(1 - P)).toNat = 10 ^ (1 - P).toNat * 10 ^ P.toNat := by
    rw [← Nat.pow_succ', ← Nat.pow_add, ← Nat.pow_add]
    congr 1
    omega
  generalize 10 ^ (-P).toNat = a at *
  generalize 10 ^ (-(1 - P)).toNat = b at *
  generalize 10 ^ (1 - P).toNat = c at *
  generalize 10 ^ P.toNat = f at *
  generalize 2 ^ k.toNat = x
  generalize 2 ^ (-k).toNat = y
  calc 10 * d * (a * x) * (b * y) = d * x * y * (10 * a * b) := by ac_rfl
    _ = d * x * y * (c * f) := by rw [e]
    _ = d * (c * x) * (f * y) := by ac_rfl
/-- A bound by one fraction is a bound by another of the same worth. -/
theorem le_turn {x y A B A' B' : Nat} (hB : 0 < B) (hB' : 0 < B') (h : x * A * B' = y * A' * B) (t : Nat) : (t * B ≤ x * A ↔ t * B' ≤ y * A') ∧ (x * A ≤ t * B ↔ y * A' ≤ t * B') ∧ (t * B < x * A ↔ t * B' < y * A') ∧ (x * A < t * B ↔ y * A' < t * B') := by
  have s : t * B * B' = t * B' * B := Nat.mul_right_comm ..
  have a1 : t * B ≤ x * A ↔ t * B' ≤ y * A' := by
    rw [← Nat.mul_le_mul_right_iff hB', s, h, Nat.mul_le_mul_right_iff hB]
  have a2 : x * A ≤ t * B ↔ y * A' ≤ t * B' := by
    rw [← Nat.mul_le_mul_right_iff hB', s, h, Nat.mul_le_mul_right_iff hB]
  refine ⟨a1, a2, ?_, ?_⟩
  · rw [← Nat.not_le, ← Nat.not_le, a2]
  · rw [← Nat.not_le, ← Nat.not_le, a1]

theorem within_ten {m0 : Nat} {E P : Int} {l d : Nat} (h : Within m0 E l (10 * d) (-P)) : Within m0 E l d (1 - P) := by
  have k := fun t => le_turn (den_pos (-P) (2 - E)) (den_pos (1 - P) (2 - E)) (ten_more P (2 - E) d) t
  unfold Within at h ⊢
  refine ⟨fun h0 => ?_, fun h1 => ?_⟩
  · have a := h.1 h0
    exact ⟨(k _).1.1 a.1, (k _).2.1.1 a.2⟩
  · have a := h.2 h1
    exact ⟨(k _).2.2.1.1 a.1, (k _).2.2.2.1 a.2⟩

/-- From the printer's ends to the float's reach. -/
theorem within_of {m0 z l r : Nat} {E P k : Int} {X1 X2 c : Nat} (hr : 2 - E = (r : Int) - k) (hc : 2 ^ r = 4 * c) (h1 : X1 * c = 4 * m0 - l) (h2 : X2 * c = 4 * m0 + 2) (hb : Betw (m0 % 2) (X1 * num P k) (X2 * num P k) (4 * den P k) z) : Within m0 E l z (-P) := by
  have hN := num_pos P k
  have hB := den_pos (-P) (2 - E)
  have t := turn P k r E hr
  have hc0 : 0 < c := by
    have := Nat.two_pow_pos r
    omega
  unfold Betw at hb
  unfold Within
  rw [← h1, ← h2]
  generalize num (-P) (2 - E) = A at *
  generalize den (-P) (2 - E) = B at *
  generalize num P k = N at *
  generalize den P k = D at *
  rw [hc] at t
  have key : ∀ X, (X * N ≤ z * (4 * D) ↔ X * c * B ≤ z * A) ∧ (z * (4 * D) ≤ X * N ↔ z * A ≤ X * c * B) := by
    intro X
    have s1 : z * A * N = z * (4 * D) * (c * B) := by
      calc z * A * N = z * (A * N) := Nat.mul_assoc ..
        _ = z * (4 * c * (B * D)) := by rw [t]
        _ = z * (4 * D) * (c * B) := by ac_rfl
    have s2 : X * c * B * N = X * N * (c * B) := by ac_rfl
    have hcB : 0 < c * B := Nat.mul_pos hc0 hB
    constructor
    · exact (Nat.mul_le_mul_right_iff hcB).symm.trans ((by rw [s1, s2] : X * N * (c * B) ≤ z * (4 * D) * (c * B) ↔ X * c * B * N ≤ z * A * N).trans (Nat.mul_le_mul_right_iff hN))
    · exact (Nat.mul_le_mul_right_iff hcB).symm.trans ((by rw [s1, s2] : z * (4 * D) * (c * B) ≤ X * N * (c * B) ↔ z * A * N ≤ X * c * B * N).trans (Nat.mul_le_mul_right_iff hN))
  refine ⟨fun h0 => ?_, fun h0 => ?_⟩
  · have a := hb.1 h0
    exact ⟨(key X1).1.1 a.1, (key X2).2.1 a.2⟩
  · have a := hb.2 h0
    refine ⟨?_, ?_⟩
    · rw [← Nat.not_le]
      intro hle
      have := (key X1).2.2 hle
      omega
    · rw [← Nat.not_le]
      intro hle
      have := (key X2).1.2 hle
      omega

theorem usc_parts {m : Nat} {e : Int} (h : Ok m e) {p : Int} (hp : p = pp m e) : -348 ≤ p ∧ p ≤ 347 ∧ (sft m e : Int) = -(e + lgp p + 3) ∧ sft m e < 64 := by
  have := pp_range (m := m) h.e0 h.e1
  rw [← hp] at this
  unfold sft
  rw [← hp]
  omega

/-- THE DIGITS' THEOREM: what strconv prints of m 2^e = m0 2^E lies within the float's reach. -/
theorem short_within {m m0 : Nat} {e E : Int} (h : Ok m e) (hm : m = m0 * 2 ^ zz e) (hE : E = e + zz e) : Within m0 E (if skewd m e then 1 else 2) (shD m e) (shP m e) := by
  have hz := zz_range h.e0 h.e1
  obtain ⟨p1, p2, p3, p4⟩ := usc_parts h rfl
  have hlo := h.lo
  have hhi := h.hi
  have hzp : 2 ^ zz e = 2 * 2 ^ (zz e - 1) := by
    have hz1 : zz e = (zz e - 1) + 1 := by omega
    rw [hz1, Nat.pow_succ, Nat.mul_comm, Nat.add_sub_cancel]
  have hq := Nat.two_pow_pos (zz e - 1)
  have p62 : 2 ^ (zz e - 1) ≤ 2 ^ 62 := Nat.pow_le_pow_right (by omega) (by omega)
  have hodd : odd m e = m0 % 2 := by
    unfold odd
    rw [hm, Nat.mul_div_cancel _ (Nat.two_pow_pos _)]
  have ho : odd m e ≤ 1 := by rw [hodd]; omega
  have e9 : (2 : Nat) ^ 9 = 512 := by decide
  -- the three unrounded numbers
  have main : ∃ (k : Int) (r X c w1 w2 : Nat), 2 - E = (r : Int) - k ∧ 2 ^ r = 4 * c ∧ (X - w1) * c = 4 * m0 - (if skewd m e then 1 else 2) ∧ (X + w2) * c = 4 * m0 + 2 ∧ w1 ≤ w2 ∧ w2 ≤ 2 * w1 ∧ w1 ≤ X ∧
      uu m e (mnv m e) = unr ((X - w1) * num (pp m e) k) (den (pp m e) k) ∧ uu m e (mxv m e) = unr ((X + w2) * num (pp m e) k) (den (pp m e) k) ∧ uu m e m = unr (X * num (pp m e) k) (den (pp m e) k) ∧
      4 * den (pp m e) k ≤ (X + w2) * num (pp m e) k ∧ (4 * den (pp m e) k < w1 * num (pp m e) k + w2 * num (pp m e) k ∨ ∃ z, Betw (odd m e) ((X - w1) * num (pp m e) k) ((X + w2) * num (pp m e) k) (4 * den (pp m e) k) z) := by
    by_cases hs : skewd m e = true
    · have hs' := hs
      unfold skewd at hs'
      simp only [Bool.and_eq_true, decide_eq_true_eq] at hs'
      obtain ⟨hm63, he⟩ := hs'
      have hpp : pp m e = -skw (e + 11) := by unfold pp; rw [if_pos hs]
      have hz11 : zz e = 11 := by unfold zz; rw [if_pos (by omega)]
      rw [hz11] at hm hE
      have hm0 : m0 = 4503599627370496 := by
        have e11 : (2 : Nat) ^ 11 = 2048 := by decide
        omega
      have G := skew_gap (e := e) (by omega) h.e1
      have hw := wide_skew (e := e) (by omega) h.e1
      rw [← hpp] at G hw
      have ht : 63 + (-(e + lgp (pp m e) + 3)).toNat ≤ 63 + sft m e := by omega
      have U : ∀ X x, x = X * 2 ^ 9 → x < 18446744073709551616 → 4 ≤ x → X < 72057594037927936 → uu m e x = unr (X * num (pp m e) (11 + e)) (den (pp m e) (11 + e)) := fun X x hx hx2 hx4 hX =>
        usc_exact p1 p2 hx hx2 hx4 p4 (by omega) G hX ht
      refine ⟨11 + e, 2, 18014398509481984, 1, 1, 2, by omega, by decide, by rw [if_pos hs, hm0], by rw [hm0], by omega, by omega, by omega, ?_, ?_, ?_, ?_, ?_⟩
      · refine U 18014398509481983 _ ?_ ?_ ?_ (by omega) <;> (unfold mnv; rw [if_pos hs, hm63]; try decide)
      · refine U 18014398509481986 _ ?_ ?_ ?_ (by omega) <;> (unfold mxv; rw [hz11, hm63]; try decide)
      · refine U 18014398509481984 _ ?_ ?_ ?_ (by omega) <;> (rw [hm63]; try decide)
      · omega
      · left; omega
    · have hsk : skewd m e = false := by cases hh : skewd m e with | false => rfl | true => exact absurd hh hs
      have hpp : pp m e = -lg2 (e + zz e) := by unfold pp; rw [if_neg hs]
      have hX : m = 2 * m0 * 2 ^ (zz e - 1) := by rw [hm, hzp, ← Nat.mul_assoc, Nat.mul_comm m0 2]
      have hm1 : 1 ≤ m0 := by
        refine Nat.succ_le_of_lt (Nat.pos_of_ne_zero fun h0 => ?_)
        rw [h0, Nat.zero_mul] at hm; omega
      have hmn : mnv m e = (2 * m0 - 1) * 2 ^ (zz e - 1) := by
        unfold mnv
        rw [if_neg hs, Nat.sub_mul, Nat.one_mul, ← hX]
      have hmx : mxv m e = (2 * m0 + 1) * 2 ^ (zz e - 1) := by
        unfold mxv
        rw [Nat.add_mul, Nat.one_mul, ← hX]
      have hm54 : 2 * m0 < 18014398509481984 := by
        refine Nat.lt_of_not_le fun hle => ?_
        have e10 : 2 ^ 10 ≤ 2 ^ (zz e - 1) := Nat.pow_le_pow_right (by omega) (by omega)
        have := Nat.mul_le_mul hle e10
        rw [← hX] at this
        have e10' : (18014398509481984 : Nat) * 2 ^ 10 = 18446744073709551616 := by decide
        omega
      have G : Gap (num (pp m e) (E + 1)) (den (pp m e) (E + 1)) (63 + sft m e) 36028797018963968 := by
        by_cases h11 : -1085 ≤ e
        · have hz11 : zz e = 11 := by unfold zz; rw [if_pos h11]
          have G := show_gap (e := e) h11 h.e1
          rw [hz11] at hpp hE
          rw [show -lg2 (e + 11) = pp m e from hpp.symm, show 12 + e = E + 1 by omega, show (-(e + lgp (pp m e) + 3)).toNat = sft m e by omega] at G
          exact G
        · have hE2 : E = -1074 := by rw [hE]; unfold zz; rw [if_neg h11]; omega
          have hpp2 : pp m e = 324 := by rw [hpp, ← hE, hE2]; decide
          rw [hE2, hpp2]
          intro Y n hY0 hY
          have g := sub_gap Y n hY0 hY
          have hsf : 7 ≤ sft m e := by rw [hpp2] at p3; have : lgp 324 = 1076 := by decide
                                       omega
          have hpw : 2 ^ 70 ≤ 2 ^ (63 + sft m e) := Nat.pow_le_pow_right (by decide) (by omega)
          rcases g with g | ⟨g1, g2⟩ | ⟨g1, g2⟩
          · exact .inl g
          · exact .inr (.inl ⟨g1, Nat.le_trans g2 (Nat.mul_le_mul_left _ hpw)⟩)
          · exact .inr (.inr ⟨g1, Nat.le_trans g2 (Nat.mul_le_mul_left _ hpw)⟩)
      have U : ∀ X x, x = X * 2 ^ (zz e - 1) → x < 18446744073709551616 → 4 ≤ x → X < 36028797018963968 → uu m e x = unr (X * num (pp m e) (E + 1)) (den (pp m e) (E + 1)) := fun X x hx hx2 hx4 hX2 =>
        usc_exact p1 p2 hx hx2 hx4 p4 (by omega) G hX2 (Nat.le_refl _)
      refine ⟨E + 1, 3, 2 * m0, 2, 1, 1, by omega, by decide, ?_, by omega, by omega, by omega, by omega, ?_, ?_, ?_, ?_, ?_⟩
      · rw [if_neg hs, Nat.sub_mul]; omega
      · refine U (2 * m0 - 1) _ hmn ?_ ?_ (by omega)
        · unfold mnv; rw [if_neg hs]; omega
        · unfold mnv; rw [if_neg hs]
          have e62 : (2 : Nat) ^ 62 = 4611686018427387904 := by decide
          omega
      · refine U (2 * m0 + 1) _ hmx ?_ ?_ (by omega)
        · have hTop : 2 ^ (64 - zz e) * 2 ^ zz e = 18446744073709551616 := by rw [← Nat.pow_add, show 64 - zz e + zz e = 64 by omega]
          have hlt : m0 < 2 ^ (64 - zz e) := by
            refine (Nat.mul_lt_mul_right (Nat.two_pow_pos (zz e))).1 ?_
            rw [← hm, hTop]; exact hhi
          have := Nat.mul_le_mul_right (2 ^ zz e) (show m0 + 1 ≤ 2 ^ (64 - zz e) from hlt)
          rw [hTop, Nat.add_mul, Nat.one_mul, ← hm] at this
          unfold mxv
          omega
        · unfold mxv; omega
      · exact U (2 * m0) _ hX hhi (by omega) (by omega)
      · have hge : num (pp m e) (E + 1) + num (pp m e) (E + 1) ≤ (2 * m0 + 1) * num (pp m e) (E + 1) := by
          have := Nat.mul_le_mul_right (num (pp m e) (E + 1)) (show 2 ≤ 2 * m0 + 1 by omega)
          omega
        by_cases h11 : -1085 ≤ e
        · have hz11 : zz e = 11 := by unfold zz; rw [if_pos h11]
          rw [hz11] at hpp hE
          have hw := wide (e := e) h11 h.e1
          rw [show -lg2 (e + 11) = pp m e from hpp.symm, show 12 + e = E + 1 by omega] at hw
          rcases hw with hw | hw
          · omega
          · have hE2 : E = 0 := by omega
            have hpp2 : pp m e = 0 := by rw [hpp, hw]; decide
            rw [hE2, hpp2]
            have hn : num 0 (0 + 1) = 2 := by decide
            have hd : den 0 (0 + 1) = 1 := by decide
            rw [hn, hd]; omega
        · have hE2 : E = -1074 := by rw [hE]; unfold zz; rw [if_neg h11]; omega
          have hpp2 : pp m e = 324 := by rw [hpp, ← hE, hE2]; decide
          have hw := of_decide_eq_true wide_sub
          rw [hE2, hpp2] at hge ⊢
          rw [show (-1074 : Int) + 1 = -1073 by decide] at hge ⊢
          generalize num 324 (-1073) = N at *
          generalize den 324 (-1073) = D at *
          omega
      · by_cases h11 : -1085 ≤ e
        · have hz11 : zz e = 11 := by unfold zz; rw [if_pos h11]
          rw [hz11] at hpp hE
          have hw := wide (e := e) h11 h.e1
          rw [show -lg2 (e + 11) = pp m e from hpp.symm, show 12 + e = E + 1 by omega] at hw
          rcases hw with hw | hw
          · left; omega
          · right
            have hE2 : E = 0 := by omega
            have hpp2 : pp m e = 0 := by rw [hpp, hw]; decide
            rw [hE2, hpp2]
            have hn : num 0 (0 + 1) = 2 := by decide
            have hd : den 0 (0 + 1) = 1 := by decide
            rw [hn, hd]
            exact ⟨m0, fun _ => by omega, fun _ => by omega⟩
        · left
          have hE2 : E = -1074 := by rw [hE]; unfold zz; rw [if_neg h11]; omega
          have hpp2 : pp m e = 324 := by rw [hpp, ← hE, hE2]; decide
          have hw := of_decide_eq_true wide_sub
          rw [hE2, hpp2]
          rw [show (-1074 : Int) + 1 = -1073 by decide]
          generalize num 324 (-1073) = N at *
          generalize den 324 (-1073) = D at *
          omega
  obtain ⟨k, r, X, c, w1, w2, hr, hc, h1, h2, hw12, hw21, hwX, u1, u2, u3, h4, hw⟩ := main
  have hD := den_pos (pp m e) k
  have e1 : dmn m e = (unr ((X - w1) * num (pp m e) k) (den (pp m e) k) + odd m e + 3) / 4 := by unfold dmn; rw [u1]
  have e2 : dmx m e = (unr ((X + w2) * num (pp m e) k) (den (pp m e) k) - odd m e) / 4 := by unfold dmx; rw [u2]
  have h6 : 4 ≤ unr ((X + w2) * num (pp m e) k) (den (pp m e) k) := by
    have := (unr_lt (n := (X + w2) * num (pp m e) k) (z := 1) hD)
    omega
  have P := picked (M := X * num (pp m e) k) (lo := w1 * num (pp m e) k) (up := w2 * num (pp m e) k) hD ho h6 e1 e2
    (by rw [← Nat.add_mul, show X - w1 + w1 = X by omega]) (by rw [← Nat.add_mul]) (Nat.mul_le_mul_right _ hw12) (by rw [← Nat.mul_assoc]; exact Nat.mul_le_mul_right _ hw21) hw
  rw [hodd] at P
  have W : ∀ z, Betw (m0 % 2) ((X - w1) * num (pp m e) k) ((X + w2) * num (pp m e) k) (4 * den (pp m e) k) z → Within m0 E (if skewd m e then 1 else 2) z (-(pp m e)) := fun z hb => within_of hr hc h1 h2 hb
  unfold shD shP
  by_cases c1 : dmn m e ≤ dmx m e / 10 * 10
  · rw [if_pos c1, if_pos c1]
    exact within_ten (W _ (P.1 c1))
  · rw [if_neg c1, if_neg c1]
    by_cases c2 : dmn m e < dmx m e
    · rw [if_pos c2, u3]
      exact W _ (P.2.1 c1 c2)
    · rw [if_neg c2]
      exact W _ (P.2.2 c2)
end Go.Proofs.YtemjlkmlodmmfaaGreatDoor.Us

/- PLAIN: digits within a float's reach are parsed as that float. By an AI agent. -/
namespace Go.Proofs.YtemjlkmlodmmfaaGreatDoor.Us
set_option linter.unusedVariables false

/-! ### the powers' logarithms -/
def logOk (i : Nat) : Bool := decide (den ((i : Int) - 343) (-lgp ((i : Int) - 343)) ≤ num ((i : Int) - 343) (-lgp ((i : Int) - 343))) && decide (2048 * num ((i : Int) - 343) (-lgp ((i : Int) - 343) - 1) ≤ 2047 * den ((i : Int) - 343) (-lgp ((i : Int) - 343) - 1))
theorem log_all : ∀ i : Fin 653, logOk i.val = true := by decide +kernel
theorem log_says {p : Int} (h1 : -343 ≤ p) (h2 : p ≤ 309) : den p (-lgp p) ≤ num p (-lgp p) ∧ 2048 * num p (-lgp p - 1) ≤ 2047 * den p (-lgp p - 1) := by
  have h := log_all ⟨(p + 343).toNat, by omega⟩
  unfold logOk at h
  simp only at h
  rw [show (((p + 343).toNat : Nat) : Int) - 343 = p by omega] at h
  simp only [Bool.and_eq_true, decide_eq_true_eq] at h
  exact h
theorem log_lo {p : Int} (h1 : -343 ≤ p) (h2 : p ≤ 309) (k : Int) {j r : Nat} (h : (j : Int) - r = k + lgp p) : 2 ^ j * den p k ≤ num p k * 2 ^ r := by
  have a := (log_says h1 h2).1
  have s := scale_eq p j r k (-lgp p) (by omega)
  have hd := den_pos p (-lgp p)
  refine Nat.le_of_mul_le_mul_right ?_ hd
  calc 2 ^ j * den p k * den p (-lgp p) = 2 ^ j * den p (-lgp p) * den p k := Nat.mul_right_comm ..
    _ ≤ 2 ^ j * num p (-lgp p) * den p k := Nat.mul_le_mul_right _ (Nat.mul_le_mul_left _ a)
    _ = num p k * (den p (-lgp p) * 2 ^ r) := s
    _ = num p k * 2 ^ r * den p (-lgp p) := by ac_rfl
theorem log_hi {p : Int} (h1 : -343 ≤ p) (h2 : p ≤ 309) (k : Int) {j r : Nat} (h : (j : Int) - r = k + lgp p + 1) : 2048 * (num p k * 2 ^ r) ≤ 2047 * (2 ^ j * den p k) := by
  have a := (log_says h1 h2).2
  have s := scale_eq p j r k (-lgp p - 1) (by omega)
  have hd := den_pos p (-lgp p - 1)
  refine Nat.le_of_mul_le_mul_right ?_ hd
  generalize num p (-lgp p - 1) = N at *
  generalize den p (-lgp p - 1) = D at *
  generalize num p k = A at *
  generalize den p k = B at *
  generalize 2 ^ j = J at *
  generalize 2 ^ r = R at *
  calc 2048 * (A * R) * D = 2048 * (A * (D * R)) := by ac_rfl
    _ = 2048 * (J * N * B) := by rw [s]
    _ = 2048 * N * (J * B) := by ac_rfl
    _ ≤ 2047 * D * (J * B) := Nat.mul_le_mul_right _ a
    _ = 2047 * (J * B) * D := by ac_rfl

/-! ### the parser's steps -/
def bl (d : Nat) : Nat := Lib.bitLen d
def pe (d : Nat) (p : Int) : Int := min 1074 (53 - (bl d : Int) - lgp p)
def ps (d : Nat) (p : Int) : Int := -(pe d p - (64 - (bl d : Int)) + lgp p + 3)
def pu (d : Nat) (p : Int) : Nat := usc (d * 2 ^ (64 - bl d)) (ps d p).toNat (pmHi p) (pmLo p)
def psh (d : Nat) (p : Int) : Nat := if 36028797018963966 ≤ pu d p then 1 else 0
def pu2 (d : Nat) (p : Int) : Nat := if 36028797018963966 ≤ pu d p then stk (pu d p / 2) (decide (pu d p % 2 = 1)) else pu d p

theorem unr_le2 {n d z : Nat} (hd : 0 < d) : unr n d ≤ 2 * z ↔ n ≤ 2 * z * d := by
  rcases unr_says (n := n) hd with ⟨q, h1, h2⟩ | ⟨q, h1, h2, h3⟩
  · rw [h1, h2, mul_le_iff hd]
  · rw [h1]
    constructor
    · intro h
      exact Nat.le_of_lt (Nat.lt_of_lt_of_le h3 (Nat.mul_le_mul_right d (show q + 1 ≤ 2 * z by omega)))
    · intro h
      have : q < 2 * z := (mul_lt_iff hd).1 (Nat.lt_of_lt_of_le h2 h)
      omega
theorem unr_lt2 {n d z : Nat} (hd : 0 < d) : unr n d < 2 * z ↔ n < 2 * z * d := by
  rcases unr_says (n := n) hd with ⟨q, h1, h2⟩ | ⟨q, h1, h2, h3⟩
  · rw [h1, h2, mul_lt_iff hd]
  · rw [h1]
    constructor
    · intro h
      exact Nat.lt_of_lt_of_le h3 (Nat.mul_le_mul_right d (show q + 1 ≤ 2 * z by omega))
    · intro h
      have : q < 2 * z := (mul_lt_iff hd).1 (Nat.lt_trans h2 h)
      omega
theorem unr_half {n d : Nat} (hd : 0 < d) : unr n (2 * d) = stk (unr n d / 2) (decide (unr n d % 2 = 1)) := by
  have hd2 : 0 < 2 * d := by omega
  have f : ∀ z, z * (2 * d) = 2 * z * d := fun z => by rw [Nat.mul_comm 2 d, ← Nat.mul_assoc, Nat.mul_right_comm, Nat.mul_comm z 2]
  rcases unr_says (n := n) hd with ⟨q, h1, h2⟩ | ⟨q, h1, h2, h3⟩
  · rw [h1]
    rcases unr_says (n := n) hd2 with ⟨q', h1', h2'⟩ | ⟨q', h1', h2', h3'⟩
    · rw [f, h2] at h2'
      have : q = 2 * q' := Nat.eq_of_mul_eq_mul_right hd h2'
      rw [h1']
      unfold stk
      rw [if_neg (by simp <;> omega)]
      omega
    · rw [f, h2] at h2'
      rw [f, h2] at h3'
      have a := (mul_lt_iff hd).1 h2'
      have b := (mul_lt_iff hd).1 h3'
      rw [h1']
      unfold stk
      rw [if_pos (by simp <;> omega)]
      omega
  · rw [h1]
    rcases unr_says (n := n) hd2 with ⟨q', h1', h2'⟩ | ⟨q', h1', h2', h3'⟩
    · rw [f] at h2'
      rw [h2'] at h2 h3
      have a := (mul_lt_iff hd).1 h2
      have b := (mul_lt_iff hd).1 h3
      omega
    · rw [f] at h2' h3'
      have a := (mul_lt_iff hd).1 (Nat.lt_trans h2' h3)
      have b := (mul_lt_iff hd).1 (Nat.lt_trans h2 h3')
      rw [h1']
      unfold stk
      rw [if_pos (by simp <;> omega)]
      omega

/-- Rounded to the middle. -/
theorem rnd_is {n d m : Nat} (hd : 0 < d) (hm : 1 ≤ m) (h0 : m % 2 = 0 → (4 * m - 2) * d ≤ n ∧ n ≤ (4 * m + 2) * d) (h1 : m % 2 = 1 → (4 * m - 2) * d < n ∧ n < (4 * m + 2) * d) : rnd (unr n d) = m := by
  have e1 : 4 * m - 2 = 2 * (2 * m - 1) := by omega
  have e2 : 4 * m + 2 = 2 * (2 * m + 1) := by omega
  rw [e1, e2] at h0 h1
  have a := unr_le2 (n := n) (z := 2 * m - 1) hd
  have b := unr_lt2 (n := n) (z := 2 * m - 1) hd
  have c := unr_le2 (n := n) (z := 2 * m + 1) hd
  have e := unr_lt2 (n := n) (z := 2 * m + 1) hd
  unfold rnd
  generalize unr n d = u at *
  by_cases hp : m % 2 = 0
  · have x := h0 hp
    have y : 2 * (2 * m - 1) ≤ u := by
      refine Nat.le_of_not_lt fun hlt => ?_
      have := b.1 hlt
      omega
    have z : u ≤ 2 * (2 * m + 1) := c.2 x.2
    omega
  · have x := h1 (by omega)
    have y : 2 * (2 * m - 1) < u := by
      refine Nat.lt_of_not_le fun hle => ?_
      have := a.1 hle
      omega
    have z : u < 2 * (2 * m + 1) := e.2 x.2
    omega

/-- A finite float that is none 0, by its digits and its place. -/
structure Flo (m0 : Nat) (E : Int) (l : Nat) : Prop where
  e0 : -1074 ≤ E
  e1 : E ≤ 971
  m1 : 1 ≤ m0
  m2 : m0 ≤ 9007199254740991
  nor : 4503599627370496 ≤ m0 ∨ E = -1074
  l2 : l = 2 ∨ (l = 1 ∧ m0 = 4503599627370496 ∧ -1074 < E)
  lp : -1074 < E → m0 = 4503599627370496 → l = 1

/-- The number of bits of digits within reach tells the float's place. -/
theorem place {m0 d b : Nat} {E p : Int} {l : Nat} (F : Flo m0 E l) (hp1 : -343 ≤ p) (hp2 : p ≤ 309) (W : Within m0 E l d p) (hb1 : 2 ^ (b - 1) ≤ d) (hb2 : d < 2 ^ b) (hb : 1 ≤ b) :
    (b : Int) + lgp p ≤ 53 + E ∧ (4503599627370496 ≤ m0 → 52 + E ≤ (b : Int) + lgp p) ∧ (m0 < 4503599627370496 → (b : Int) + lgp p ≤ 52 + E) ∧ E - 2 < (b : Int) + lgp p := by
  have hl : l ≤ 2 ∧ 1 ≤ l := by rcases F.l2 with h | ⟨h, -⟩ <;> omega
  have hm1 := F.m1
  have hm2 := F.m2
  have W' : (4 * m0 - l) * den p (2 - E) ≤ d * num p (2 - E) ∧ d * num p (2 - E) ≤ (4 * m0 + 2) * den p (2 - E) := by
    rcases Nat.mod_two_eq_zero_or_one m0 with h | h
    · exact W.1 h
    · exact ⟨Nat.le_of_lt (W.2 h).1, Nat.le_of_lt (W.2 h).2⟩
  have hB := den_pos p (2 - E)
  -- the upper sides
  have up : ∀ T : Nat, (4 * m0 + 2 ≤ 2 ^ T) → (m0 % 2 = 0 → 4 * m0 + 2 < 2 ^ T) → (b : Int) - 1 + (2 - E + lgp p) < T := by
    intro T hT hT2
    obtain ⟨j, r, hjr⟩ : ∃ j r : Nat, (j : Int) - r = 2 - E + lgp p := ⟨(2 - E + lgp p).toNat, (-(2 - E + lgp p)).toNat, by omega⟩
    have a := log_lo hp1 hp2 (2 - E) hjr
    have s1 : 2 ^ (b - 1 + j) * den p (2 - E) ≤ (4 * m0 + 2) * den p (2 - E) * 2 ^ r := by
      calc 2 ^ (b - 1 + j) * den p (2 - E) = 2 ^ (b - 1) * (2 ^ j * den p (2 - E)) := by rw [Nat.pow_add, Nat.mul_assoc]
        _ ≤ d * (num p (2 - E) * 2 ^ r) := Nat.mul_le_mul hb1 a
        _ = d * num p (2 - E) * 2 ^ r := (Nat.mul_assoc ..).symm
        _ ≤ (4 * m0 + 2) * den p (2 - E) * 2 ^ r := Nat.mul_le_mul_right _ W'.2
    have s2 : 2 ^ (b - 1 + j) ≤ (4 * m0 + 2) * 2 ^ r := by
      refine Nat.le_of_mul_le_mul_right ?_ hB
      rw [Nat.mul_right_comm]; exact s1
    have s3 : 2 ^ (b - 1 + j) < 2 ^ (T + r) := by
      rcases Nat.lt_or_ge (4 * m0 + 2) (2 ^ T) with h | h
      · refine Nat.lt_of_le_of_lt s2 ?_
        rw [Nat.pow_add]
        exact Nat.mul_lt_mul_of_pos_right h (Nat.two_pow_pos r)
      · -- then m0 is odd and the reach is open
        have hodd : m0 % 2 = 1 := by
          rcases Nat.mod_two_eq_zero_or_one m0 with h0 | h0
          · have := hT2 h0; omega
          · exact h0
        have w := (W.2 hodd).2
        have s1' : 2 ^ (b - 1 + j) * den p (2 - E) < (4 * m0 + 2) * den p (2 - E) * 2 ^ r := by
          calc 2 ^ (b - 1 + j) * den p (2 - E) = 2 ^ (b - 1) * (2 ^ j * den p (2 - E)) := by rw [Nat.pow_add, Nat.mul_assoc]
            _ ≤ d * (num p (2 - E) * 2 ^ r) := Nat.mul_le_mul hb1 a
            _ = d * num p (2 - E) * 2 ^ r := (Nat.mul_assoc ..).symm
            _ < (4 * m0 + 2) * den p (2 - E) * 2 ^ r := Nat.mul_lt_mul_of_pos_right w (Nat.two_pow_pos r)
        have s2' : 2 ^ (b - 1 + j) < (4 * m0 + 2) * 2 ^ r := by
          refine Nat.lt_of_mul_lt_mul_right (a := den p (2 - E)) ?_
          rw [Nat.mul_right_comm (4 * m0 + 2)]; exact s1'
        refine Nat.lt_of_lt_of_le s2' ?_
        rw [Nat.pow_add]
        exact Nat.mul_le_mul_right _ hT
    have s4 : b - 1 + j < T + r := (Nat.pow_lt_pow_iff_right (by decide)).1 s3
    omega
  -- the lower sides
  have dn : ∀ T : Nat, 2047 * 2 ^ T < 2048 * (4 * m0 - l) → (T : Int) < (b : Int) + (2 - E + lgp p + 1) := by
    intro T hT
    refine Int.lt_of_not_ge fun hge => ?_
    obtain ⟨j, r, hjr⟩ : ∃ j r : Nat, (j : Int) - r = 2 - E + lgp p + 1 := ⟨(2 - E + lgp p + 1).toNat, (-(2 - E + lgp p + 1)).toNat, by omega⟩
    have a := log_hi hp1 hp2 (2 - E) hjr
    have s1 : 2048 * ((4 * m0 - l) * 2 ^ r) * den p (2 - E) ≤ 2047 * (2 ^ (b + j)) * den p (2 - E) := by
      calc 2048 * ((4 * m0 - l) * 2 ^ r) * den p (2 - E) = 2048 * ((4 * m0 - l) * den p (2 - E)) * 2 ^ r := by ac_rfl
        _ ≤ 2048 * (d * num p (2 - E)) * 2 ^ r := Nat.mul_le_mul_right _ (Nat.mul_le_mul_left _ W'.1)
        _ = d * (2048 * (num p (2 - E) * 2 ^ r)) := by ac_rfl
        _ ≤ d * (2047 * (2 ^ j * den p (2 - E))) := Nat.mul_le_mul_left _ a
        _ ≤ 2 ^ b * (2047 * (2 ^ j * den p (2 - E))) := Nat.mul_le_mul_right _ (Nat.le_of_lt hb2)
        _ = 2047 * (2 ^ (b + j)) * den p (2 - E) := by rw [Nat.pow_add]; ac_rfl
    have s2 := Nat.le_of_mul_le_mul_right s1 hB
    have s3 : 2 ^ (b + j) ≤ 2 ^ (T + r) := Nat.pow_le_pow_right (by decide) (by omega)
    have s4 : 2048 * ((4 * m0 - l) * 2 ^ r) ≤ 2047 * 2 ^ T * 2 ^ r := by
      refine Nat.le_trans s2 ?_
      rw [Nat.mul_assoc, ← Nat.pow_add]
      exact Nat.mul_le_mul_left _ s3
    rw [← Nat.mul_assoc] at s4
    have s5 := Nat.le_of_mul_le_mul_right s4 (Nat.two_pow_pos r)
    omega
  refine ⟨?_, fun h => ?_, fun h => ?_, ?_⟩
  · have := up 55 (by omega) (fun _ => by omega)
    omega
  · have := dn 54 (by omega)
    omega
  · have := up 54 (by omega) (fun _ => by omega)
    omega
  · have := dn 1 (by omega)
    omega
end Go.Proofs.YtemjlkmlodmmfaaGreatDoor.Us

/- PLAIN: THE PARSER'S THEOREM: digits within a float's reach are parsed as that float. By an AI agent. -/
namespace Go.Proofs.YtemjlkmlodmmfaaGreatDoor.Us
set_option linter.unusedVariables false

theorem pu_is {d : Nat} {p : Int} (hp1 : -343 ≤ p) (hp2 : p ≤ 309) (h0 : 1 ≤ d) (h57 : d < 144115188075855872) (hlow : -1076 < (bl d : Int) + lgp p) :
    pu d p = unr (d * num p (pe d p + 2)) (den p (pe d p + 2)) ∧ 8 ≤ ps d p ∧ ps d p ≤ 63 ∧ 1 ≤ bl d ∧ bl d ≤ 57 ∧ 2 ^ (bl d - 1) ≤ d ∧ d < 2 ^ bl d ∧ 9223372036854775808 ≤ d * 2 ^ (64 - bl d) ∧ d * 2 ^ (64 - bl d) < 18446744073709551616 := by
  obtain ⟨b1, b2, b3⟩ := bitLen_pos (x := d) (by omega) (by omega)
  have hb : bl d = Lib.bitLen d := rfl
  rw [← hb] at b1 b2 b3
  have hb57 : bl d ≤ 57 := by
    refine Nat.le_of_not_lt fun h => ?_
    have : 2 ^ 57 ≤ 2 ^ (bl d - 1) := Nat.pow_le_pow_right (by decide) (by omega)
    have e57 : (2 : Nat) ^ 57 = 144115188075855872 := by decide
    omega
  have hx2 : d * 2 ^ (64 - bl d) < 18446744073709551616 := by
    have : d * 2 ^ (64 - bl d) < 2 ^ bl d * 2 ^ (64 - bl d) := Nat.mul_lt_mul_of_pos_right b2 (Nat.two_pow_pos _)
    rw [← Nat.pow_add, show bl d + (64 - bl d) = 64 by omega] at this
    exact this
  have hx1 : 9223372036854775808 ≤ d * 2 ^ (64 - bl d) := by
    have : 2 ^ (bl d - 1) * 2 ^ (64 - bl d) ≤ d * 2 ^ (64 - bl d) := Nat.mul_le_mul_right _ b1
    rw [← Nat.pow_add, show bl d - 1 + (64 - bl d) = 63 by omega] at this
    exact this
  clear hb
  have hpe : pe d p = min 1074 (53 - (bl d : Int) - lgp p) := rfl
  have hps : ps d p = -(pe d p - (64 - (bl d : Int)) + lgp p + 3) := rfl
  have hpu : pu d p = usc (d * 2 ^ (64 - bl d)) (ps d p).toNat (pmHi p) (pmLo p) := rfl
  generalize bl d = b at *
  generalize pe d p = e at *
  generalize ps d p = s at *
  refine ⟨?_, by omega, by omega, b3, hb57, b1, b2, hx1, hx2⟩
  rw [hpu]
  by_cases hc : 53 - (b : Int) - lgp p ≤ 1074
  · have he : e = 53 - (b : Int) - lgp p := by omega
    have hs : s.toNat = 8 := by omega
    rw [hs]
    have hX : d * 2 ^ (64 - b) = d * 2 ^ (57 - b) * 2 ^ 7 := by rw [Nat.mul_assoc, ← Nat.pow_add, show 57 - b + 7 = 64 - b by omega]
    have hX57 : d * 2 ^ (57 - b) < 144115188075855872 := by
      have : d * 2 ^ (57 - b) < 2 ^ b * 2 ^ (57 - b) := Nat.mul_lt_mul_of_pos_right b2 (Nat.two_pow_pos _)
      rw [← Nat.pow_add, show b + (57 - b) = 57 by omega] at this
      exact this
    rw [usc_exact (p := p) (k := -2 - lgp p) (X := d * 2 ^ (57 - b)) (j := 7) (s := 8) (t := 71) (by omega) (by omega) hX hx2 (by omega) (by omega) (by omega) (parse_gap hp1 hp2) hX57 (by omega)]
    refine unr_ratio (den_pos _ _) (den_pos _ _) ?_
    have sc := scale_eq p (57 - b) 0 (e + 2) (-2 - lgp p) (by omega)
    rw [Nat.pow_zero, Nat.mul_one] at sc
    calc d * 2 ^ (57 - b) * num p (-2 - lgp p) * den p (e + 2) = d * (2 ^ (57 - b) * num p (-2 - lgp p) * den p (e + 2)) := by ac_rfl
      _ = d * (num p (e + 2) * den p (-2 - lgp p)) := by rw [sc]
      _ = d * num p (e + 2) * den p (-2 - lgp p) := (Nat.mul_assoc ..).symm
  · have he : e = 1074 := by omega
    have hp307 : p ≤ -277 := by unfold lgp at hc; omega
    rw [usc_exact (p := p) (k := 1076) (X := d) (j := 64 - b) (s := s.toNat) (t := 72) (by omega) (by omega) rfl hx2 (by omega) (by omega) (by omega) (den_gap (by omega) hp307) h57 (by omega)]
    rw [he]
    rfl

theorem parse_is {m0 d : Nat} {E p : Int} {l : Nat} (F : Flo m0 E l) (hp1 : -343 ≤ p) (hp2 : p ≤ 309) (W : Within m0 E l d p) (h0 : 1 ≤ d) (h57 : d < 144115188075855872) :
    rnd (pu2 d p) = m0 ∧ pe d p - psh d p = -E ∧ 8 ≤ ps d p ∧ ps d p ≤ 63 ∧ 1 ≤ bl d ∧ bl d ≤ 57 ∧ 9223372036854775808 ≤ d * 2 ^ (64 - bl d) ∧ d * 2 ^ (64 - bl d) < 18446744073709551616 := by
  obtain ⟨b1, b2, b3⟩ := bitLen_pos (x := d) (by omega) (by omega)
  have hbl : bl d = Lib.bitLen d := rfl
  rw [← hbl] at b1 b2 b3
  obtain ⟨g1, g2, g3, g4⟩ := place F hp1 hp2 W b1 b2 b3
  have hE0 := F.e0
  obtain ⟨hpu, s1, s2, q1, q2, -, -, x1, x2⟩ := pu_is hp1 hp2 h0 h57 (by omega)
  refine ⟨?_, ?_, s1, s2, q1, q2, x1, x2⟩ <;> skip
  all_goals
    have hm1 := F.m1
    have hm2 := F.m2
    have hl : l ≤ 2 ∧ 1 ≤ l := by rcases F.l2 with h | ⟨h, -⟩ <;> omega
    have hB := den_pos p (2 - E)
    have hpe : pe d p = min 1074 (53 - (bl d : Int) - lgp p) := rfl
    have hsub : m0 < 4503599627370496 → E = -1074 := fun h => by rcases F.nor with h1 | h1 <;> omega
    have hW : (m0 % 2 = 0 → (4 * m0 - 2) * den p (2 - E) ≤ d * num p (2 - E) ∧ d * num p (2 - E) ≤ (4 * m0 + 2) * den p (2 - E)) ∧ (m0 % 2 = 1 → (4 * m0 - 2) * den p (2 - E) < d * num p (2 - E) ∧ d * num p (2 - E) < (4 * m0 + 2) * den p (2 - E)) := by
      have hle : (4 * m0 - 2) * den p (2 - E) ≤ (4 * m0 - l) * den p (2 - E) := Nat.mul_le_mul_right _ (by omega)
      exact ⟨fun h => ⟨Nat.le_trans hle (W.1 h).1, (W.1 h).2⟩, fun h => ⟨Nat.lt_of_le_of_lt hle (W.2 h).1, (W.2 h).2⟩⟩
    have hcase : (pe d p = -E ∧ pu2 d p = pu d p ∧ psh d p = 0 ∧ pu d p = unr (d * num p (2 - E)) (den p (2 - E))) ∨ (pe d p = 1 - E ∧ psh d p = 1 ∧ pu2 d p = unr (d * num p (2 - E)) (den p (2 - E))) := by
      by_cases hd : pe d p = -E
      · left
        rw [show pe d p + 2 = 2 - E by omega] at hpu
        have hlt : pu d p < 36028797018963966 := by
          rw [hpu]
          refine (unr_lt2 (z := 18014398509481983) hB).2 ?_
          by_cases hmm : m0 = 9007199254740991
          · have := (hW.2 (by omega)).2
            rw [hmm] at this
            exact this
          · have h4 : d * num p (2 - E) ≤ (4 * m0 + 2) * den p (2 - E) := by
              rcases Nat.mod_two_eq_zero_or_one m0 with h | h
              · exact (hW.1 h).2
              · exact Nat.le_of_lt (hW.2 h).2
            exact Nat.lt_of_le_of_lt h4 ((Nat.mul_lt_mul_right hB).2 (by omega))
        refine ⟨hd, ?_, ?_, hpu⟩
        · unfold pu2; rw [if_neg (by omega)]
        · unfold psh; rw [if_neg (by omega)]
      · right
        have hm52 : 4503599627370496 ≤ m0 := by
          refine Nat.le_of_not_lt fun h => ?_
          have := hsub h
          have := g3 h
          omega
        have g2' := g2 hm52
        have hd1 : pe d p = 1 - E := by omega
        have hE1 : -1074 < E := by omega
        have hr : pu d p = unr (2 * (d * num p (2 - E))) (den p (2 - E)) := by
          rw [hpu, show pe d p + 2 = 3 - E by omega]
          refine unr_ratio (den_pos _ _) hB ?_
          have sc := scale_eq p 1 0 (3 - E) (2 - E) (by omega)
          rw [Nat.pow_zero, Nat.mul_one, Nat.pow_one] at sc
          calc d * num p (3 - E) * den p (2 - E) = d * (num p (3 - E) * den p (2 - E)) := Nat.mul_assoc ..
            _ = d * (2 * num p (2 - E) * den p (3 - E)) := by rw [sc]
            _ = 2 * (d * num p (2 - E)) * den p (3 - E) := by ac_rfl
        have hge : 36028797018963966 ≤ pu d p := by
          rw [hr]
          refine Nat.le_of_not_lt fun hlt => ?_
          have h5 := (unr_lt2 (z := 18014398509481983) hB).1 hlt
          have h6 : 18014398509481983 * den p (2 - E) ≤ d * num p (2 - E) := by
            by_cases hmm : m0 = 4503599627370496
            · have hl1 := F.lp hE1 hmm
              have := (W.1 (by omega)).1
              rw [hmm, hl1] at this
              exact this
            · have h4 : (4 * m0 - 2) * den p (2 - E) ≤ d * num p (2 - E) := by
                rcases Nat.mod_two_eq_zero_or_one m0 with h | h
                · exact (hW.1 h).1
                · exact Nat.le_of_lt (hW.2 h).1
              exact Nat.le_trans (Nat.mul_le_mul_right _ (by omega)) h4
          rw [Nat.mul_assoc] at h5
          omega
        refine ⟨hd1, ?_, ?_⟩
        · unfold psh; rw [if_pos hge]
        · unfold pu2
          rw [if_pos hge, hr, ← unr_half hB]
          refine unr_ratio (by omega) hB ?_
          ac_rfl
  · rcases hcase with ⟨-, c1, -, c2⟩ | ⟨-, -, c1⟩
    · rw [c1, c2]; exact rnd_is hB hm1 hW.1 hW.2
    · rw [c1]; exact rnd_is hB hm1 hW.1 hW.2
  · rcases hcase with ⟨c1, -, c2, -⟩ | ⟨c1, c2, -⟩ <;> omega
end Go.Proofs.YtemjlkmlodmmfaaGreatDoor.Us
