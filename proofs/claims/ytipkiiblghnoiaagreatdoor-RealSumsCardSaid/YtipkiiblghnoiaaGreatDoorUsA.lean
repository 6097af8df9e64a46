/- PLAIN: unrounded scaling, as strconv does it: what it computes, and that it is right where no product comes near a whole number without being one. No program in sight. By an AI agent. -/
import Derived.Test.YtipkiiblghnoiaaGreatDoorLaw
namespace Go.Proofs.YtipkiiblghnoiaaGreatDoor.Us
set_option linter.unusedVariables false

/-- The floor of the logarithms, as the text takes them. -/
def lgp (p : Int) : Int := p * 108853 / 32768
def lg2 (x : Int) : Int := x * 78913 / 262144
def skw (e : Int) : Int := (e * 631305 - 261663) / 2097152

/-- 10 to the power p times 2 to the power k, as a fraction. -/
def num (p k : Int) : Nat := 10 ^ p.toNat * 2 ^ k.toNat
def den (p k : Int) : Nat := 10 ^ (-p).toNat * 2 ^ (-k).toNat
theorem den_pos (p k : Int) : 0 < den p k := Nat.mul_pos (Nat.pow_pos (by omega)) (Nat.pow_pos (by omega))
theorem num_pos (p k : Int) : 0 < num p k := Nat.mul_pos (Nat.pow_pos (by omega)) (Nat.pow_pos (by omega))

/-- The mantissa of 10 to the power p, rounded up. -/
def pm (p : Int) : Nat := (num p (127 - lgp p) + den p (127 - lgp p) - 1) / den p (127 - lgp p)
def pmHi (p : Int) : Nat := (pm p + 18446744073709551615) / 18446744073709551616
def pmLo (p : Int) : Nat := pmHi p * 18446744073709551616 - pm p

/-- With the last bit set where there is a rest. -/
def stk (q : Nat) (b : Bool) : Nat := if b then q / 2 * 2 + 1 else q

def usc (x s hi lo : Nat) : Nat :=
  let h := x * hi / 18446744073709551616
  let m := x * hi % 18446744073709551616
  if h % 2 ^ s ≠ 0 then stk (h / 2 ^ s) true
  else
    let m2 := x * lo / 18446744073709551616
    let h2 := if m < m2 then (h + 18446744073709551615) % 18446744073709551616 else h
    stk (h2 / 2 ^ s) (decide (1 < (m + 18446744073709551616 - m2) % 18446744073709551616))

/-- What it means to be: four times the number, its whole part, with the last bit set where there is a rest. -/
def unr (n d : Nat) : Nat := stk (n / d) (decide (n % d ≠ 0))

/-- x A / B, B > 0, where A / B lies within the last place of pm: the unrounded number of x A / (B 2^(128+s)). -/
theorem usc_ok {x s hi lo A B : Nat} (hx : x < 18446744073709551616) (hx1 : 0 < x) (hhi : hi < 18446744073709551616) (hlo : lo < 18446744073709551616) (hle : lo ≤ hi * 18446744073709551616)
    (hB : 0 < B) (hs : s < 64) (hA : A ≤ (hi * 18446744073709551616 - lo) * B) (hA2 : (hi * 18446744073709551616 - lo) * B < A + B) (hh : 0 < x * hi / 18446744073709551616)
    (gap : ∀ n, x * A = n * (B * 2 ^ (128 + s)) ∨ x * A + B * 36893488147419103232 ≤ n * (B * 2 ^ (128 + s)) ∨ n * (B * 2 ^ (128 + s)) + B * 36893488147419103232 ≤ x * A) :
    usc x s hi lo = unr (x * A) (B * 2 ^ (128 + s)) := by
  have e1 := Nat.div_add_mod (x * hi) 18446744073709551616
  have e2 := Nat.div_add_mod (x * lo) 18446744073709551616
  have l1 := Nat.mod_lt (x * hi) (y := 18446744073709551616) (by omega)
  have l2 := Nat.mod_lt (x * lo) (y := 18446744073709551616) (by omega)
  have u2 : x * lo ≤ 18446744073709551615 * 18446744073709551615 := Nat.mul_le_mul (by omega) (by omega)
  have u1 : x * hi ≤ 18446744073709551615 * 18446744073709551615 := Nat.mul_le_mul (by omega) (by omega)
  unfold usc
  generalize hH : x * hi / 18446744073709551616 = h at *
  generalize hM : x * hi % 18446744073709551616 = m at *
  generalize hM2 : x * lo / 18446744073709551616 = m2 at *
  generalize hL2 : x * lo % 18446744073709551616 = r2 at *
  have hT : x * ((hi * 18446744073709551616 - lo)) + (m2 * 18446744073709551616 + r2) = h * 340282366920938463463374607431768211456 + m * 18446744073709551616 := by
    have a : x * (hi * 18446744073709551616 - lo) + x * lo = x * hi * 18446744073709551616 := by
      rw [← Nat.mul_add, Nat.sub_add_cancel hle, Nat.mul_assoc]
    omega
  have t1 : x * A ≤ x * (hi * 18446744073709551616 - lo) * B := by rw [Nat.mul_assoc]; exact Nat.mul_le_mul_left x hA
  have t2 : x * (hi * 18446744073709551616 - lo) * B < x * A + x * B := by
    rw [Nat.mul_assoc, ← Nat.mul_add]; exact Nat.mul_lt_mul_of_pos_left hA2 hx1
  generalize hTT : x * (hi * 18446744073709551616 - lo) = T at *
  generalize hX : x * A = X at *
  -- in whole numbers: X lies above (T - x) B and at most at T B
  have key : ∀ c : Nat, T ≤ c → X ≤ c * B := fun c hc => Nat.le_trans t1 (Nat.mul_le_mul_right B hc)
  have key2 : ∀ c : Nat, c + x ≤ T → c * B < X := fun c hc => by
    have := Nat.mul_le_mul_right B hc
    rw [Nat.add_mul] at this
    omega
  have hP : 2 ^ (128 + s) = 2 ^ s * 340282366920938463463374607431768211456 := by rw [Nat.pow_add, Nat.mul_comm]
  have hS := Nat.two_pow_pos s
  rw [hP] at gap ⊢
  have e3 := Nat.div_add_mod h (2 ^ s)
  have l3 := Nat.mod_lt h hS
  have floor : ∀ q, q * (2 ^ s * 340282366920938463463374607431768211456) * B < X → X < (q + 1) * (2 ^ s * 340282366920938463463374607431768211456) * B →
      unr X (B * (2 ^ s * 340282366920938463463374607431768211456)) = stk q true := by
    intro q h1 h2
    have d0 : B * (2 ^ s * 340282366920938463463374607431768211456) = 2 ^ s * 340282366920938463463374607431768211456 * B := Nat.mul_comm _ _
    have hpos : 0 < 2 ^ s * 340282366920938463463374607431768211456 * B := Nat.mul_pos (Nat.mul_pos hS (by omega)) hB
    unfold unr
    rw [d0]
    rw [Nat.mul_assoc] at h1 h2
    generalize 2 ^ s * 340282366920938463463374607431768211456 * B = D at *
    have hq : X / D = q := Nat.div_eq_of_lt_le (Nat.le_of_lt h1) h2
    have hr := Nat.div_add_mod X D
    rw [hq] at hr
    have : X % D ≠ 0 := by
      intro h0; rw [h0, Nat.mul_comm] at hr; omega
    rw [hq, decide_eq_true this]
  by_cases hr : h % 2 ^ s ≠ 0
  · simp only [if_pos hr]
    generalize hq : h / 2 ^ s = q at *
    generalize hrr : h % 2 ^ s = r at *
    refine (floor q ?_ ?_).symm
    · have a1 : q * (2 ^ s * 340282366920938463463374607431768211456) ≤ (h - 1) * 340282366920938463463374607431768211456 := by
        rw [← Nat.mul_assoc, Nat.mul_comm q]; exact Nat.mul_le_mul_right _ (by omega)
      refine Nat.lt_of_le_of_lt (Nat.mul_le_mul_right B a1) (key2 _ ?_)
      have : 1 ≤ h := by omega
      omega
    · have a1 : (h + 1) * 340282366920938463463374607431768211456 ≤ (q + 1) * (2 ^ s * 340282366920938463463374607431768211456) := by
        rw [← Nat.mul_assoc]; refine Nat.mul_le_mul_right _ ?_
        rw [Nat.add_mul, Nat.one_mul, Nat.mul_comm q]; omega
      refine Nat.lt_of_lt_of_le ?_ (Nat.mul_le_mul_right B a1)
      refine Nat.lt_of_le_of_lt (key ((h + 1) * 340282366920938463463374607431768211456 - 1) (by omega)) (Nat.mul_lt_mul_of_pos_right (by omega) hB)
  · simp only [if_neg hr]
    have hr0 : h % 2 ^ s = 0 := by omega
    rw [hr0] at e3
    generalize hq : h / 2 ^ s = q at *
    have hh2 : h = q * 2 ^ s := by rw [Nat.mul_comm]; omega
    have hn : q * (B * (2 ^ s * 340282366920938463463374607431768211456)) = h * 340282366920938463463374607431768211456 * B := by
      rw [hh2, Nat.mul_comm B, ← Nat.mul_assoc, ← Nat.mul_assoc]
    have hn2 : ∀ q, q * (2 ^ s * 340282366920938463463374607431768211456) = q * 2 ^ s * 340282366920938463463374607431768211456 := fun q => by rw [Nat.mul_assoc]
    by_cases hm : m < m2
    · simp only [if_pos hm]
      have hq1 : 1 ≤ q := by
        refine Nat.succ_le_of_lt (Nat.pos_of_ne_zero fun h0 => ?_)
        rw [h0, Nat.zero_mul] at hh2; omega
      have hqs : (q - 1) * 2 ^ s + 2 ^ s = q * 2 ^ s := by
        have := Nat.add_mul (q - 1) 1 (2 ^ s)
        rw [Nat.sub_add_cancel hq1, Nat.one_mul] at this; exact this.symm
      have hhm : (h + 18446744073709551615) % 18446744073709551616 = h - 1 := by omega
      have hd1 : (h - 1) / 2 ^ s = q - 1 := Nat.div_eq_of_lt_le (by omega) (by rw [Nat.sub_add_cancel hq1]; omega)
      have hr1 : 1 < (m + 18446744073709551616 - m2) % 18446744073709551616 := by
        have : m2 ≤ 18446744073709551614 := by omega
        omega
      rw [hhm, hd1, decide_eq_true hr1]
      refine (floor (q - 1) ?_ ?_).symm
      · have a1 : (q - 1) * (2 ^ s * 340282366920938463463374607431768211456) ≤ (h - 1) * 340282366920938463463374607431768211456 := by
          rw [hn2]; exact Nat.mul_le_mul_right _ (by omega)
        refine Nat.lt_of_le_of_lt (Nat.mul_le_mul_right B a1) (key2 _ ?_)
        omega
      · rw [Nat.sub_add_cancel hq1, hn2, ← hh2]
        refine Nat.lt_of_le_of_lt (key (h * 340282366920938463463374607431768211456 - 1) (by omega)) (Nat.mul_lt_mul_of_pos_right (by omega) hB)
    · simp only [if_neg hm]
      rw [hq]
      by_cases hr1 : 1 < (m + 18446744073709551616 - m2) % 18446744073709551616
      · rw [decide_eq_true hr1]
        refine (floor q ?_ ?_).symm
        · rw [hn2, ← hh2]
          refine key2 _ ?_
          omega
        · have a1 : (h + 1) * 340282366920938463463374607431768211456 ≤ (q + 1) * (2 ^ s * 340282366920938463463374607431768211456) := by
            rw [hn2]; refine Nat.mul_le_mul_right _ ?_
            rw [Nat.add_mul, Nat.one_mul]; omega
          refine Nat.lt_of_lt_of_le ?_ (Nat.mul_le_mul_right B a1)
          refine Nat.lt_of_le_of_lt (key ((h + 1) * 340282366920938463463374607431768211456 - 1) (by omega)) (Nat.mul_lt_mul_of_pos_right (by omega) hB)
      · rw [decide_eq_false hr1]
        have g := gap q
        rw [hn] at g
        have hXe : X = h * 340282366920938463463374607431768211456 * B := by
          rcases g with g | g | g
          · exact g
          · exfalso
            have := key2 (h * 340282366920938463463374607431768211456 - 36893488147419103232) (by omega)
            rw [Nat.sub_mul] at this
            have e : B * 36893488147419103232 = 36893488147419103232 * B := Nat.mul_comm _ _
            omega
          · exfalso
            have := key (h * 340282366920938463463374607431768211456 + 18446744073709551616) (by omega)
            rw [Nat.add_mul] at this
            omega
        have hD : 0 < B * (2 ^ s * 340282366920938463463374607431768211456) := Nat.mul_pos hB (Nat.mul_pos hS (by omega))
        unfold unr
        rw [← hn] at hXe
        rw [hXe, Nat.mul_div_cancel _ hD, Nat.mul_mod_left]
        rfl

/-! ### the shortest form -/
def zz (e : Int) : Nat := if -1085 ≤ e then 11 else (-1074 - e).toNat
def skewd (m : Nat) (e : Int) : Bool := decide (m = 9223372036854775808) && decide (-1085 < e)
def pp (m : Nat) (e : Int) : Int := if skewd m e then -skw (e + 11) else -lg2 (e + zz e)
def mnv (m : Nat) (e : Int) : Nat := if skewd m e then m - 2 ^ 9 else m - 2 ^ (zz e - 1)
def mxv (m : Nat) (e : Int) : Nat := m + 2 ^ (zz e - 1)
def odd (m : Nat) (e : Int) : Nat := m / 2 ^ zz e % 2
def sft (m : Nat) (e : Int) : Nat := (-(e + lgp (pp m e) + 3)).toNat
def uu (m : Nat) (e : Int) (x : Nat) : Nat := usc x (sft m e) (pmHi (pp m e)) (pmLo (pp m e))
def dmn (m : Nat) (e : Int) : Nat := (uu m e (mnv m e) + odd m e + 3) / 4
def dmx (m : Nat) (e : Int) : Nat := (uu m e (mxv m e) - odd m e) / 4
def rnd (u : Nat) : Nat := (u + 1 + u / 4 % 2) / 4
/-- The digits and the power of ten that strconv finds for m 2^e. -/
def shD (m : Nat) (e : Int) : Nat := if dmn m e ≤ dmx m e / 10 * 10 then dmx m e / 10 else if dmn m e < dmx m e then rnd (uu m e m) else dmn m e
def shP (m : Nat) (e : Int) : Int := if dmn m e ≤ dmx m e / 10 * 10 then 1 - pp m e else -pp m e
def shortF (m : Nat) (e : Int) : Nat × Int := (shD m e, shP m e)
end Go.Proofs.YtipkiiblghnoiaaGreatDoor.Us
