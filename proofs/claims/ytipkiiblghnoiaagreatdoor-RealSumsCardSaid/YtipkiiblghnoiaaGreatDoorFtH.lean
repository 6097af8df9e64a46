/- The text of a float, plainly: its mantissa and exponent, its digits. By an AI agent. -/
import Derived.Test.YtipkiiblghnoiaaGreatDoorFtG
import Derived.Lib.ItoaLen
import Derived.Lib.AppendIntMem
namespace Go.Proofs.YtipkiiblghnoiaaGreatDoor.Us
set_option linter.unusedVariables false

def exb (u : Nat) : Nat := u / 2 ^ 52 % 2048
/-- The mantissa shifted to the top, and the exponent that belongs to it. -/
def sh (u : Nat) : Nat := 64 - Lib.bitLen (Sm.mant u)
def mm (u : Nat) : Nat := Sm.mant u * 2 ^ sh u
def ee (u : Nat) : Int := (if exb u = 0 then -1022 else (exb u : Int) - 1023) - sh u - 52
def dd (u : Nat) : Nat := shD (mm u) (ee u)
def pq (u : Nat) : Int := shP (mm u) (ee u)
def nz (u : Nat) : Nat := trimN (dd u) (Lib.nDigits (dd u))
def digs (u : Nat) : List Nat := (List.range (nz u)).map (digit (dd u) (Lib.nDigits (dd u)))
/-- The text of a finite float, by its bits. -/
def textF (u : Nat) : List Nat := if Sm.mant u = 0 then fmtG (Sm.isNeg u) [] 0 else fmtG (Sm.isNeg u) (digs u) (Lib.nDigits (dd u) + pq u)

theorem bitLen_pos {x : Nat} (h0 : x ≠ 0) (hx : x < 18446744073709551616) : 2 ^ (Lib.bitLen x - 1) ≤ x ∧ x < 2 ^ Lib.bitLen x ∧ 1 ≤ Lib.bitLen x := by
  have h := Sm.bitLen_len x hx
  have h1 : 1 ≤ Lib.bitLen x := by
    refine Nat.succ_le_of_lt (Nat.pos_of_ne_zero fun e => ?_)
    have := h.1
    rw [e] at this
    simp at this
    exact h0 this
  exact ⟨h.2 h1, h.1, h1⟩

theorem ok_of (u : Nat) (hk : exb u < 2047) (hm : Sm.mant u ≠ 0) : Ok (mm u) (ee u) ∧ 11 ≤ sh u ∧ sh u ≤ 63 := by
  have hlt := Sm.mant_lt u
  obtain ⟨b1, b2, b3⟩ := bitLen_pos hm (by omega)
  have hl53 : Lib.bitLen (Sm.mant u) ≤ 53 := by
    refine Nat.le_of_not_lt fun h => ?_
    have : 2 ^ 53 ≤ 2 ^ (Lib.bitLen (Sm.mant u) - 1) := Nat.pow_le_pow_right (by omega) (by omega)
    omega
  have hsh : sh u + Lib.bitLen (Sm.mant u) = 64 := by unfold sh; omega
  have e63 : 2 ^ (Lib.bitLen (Sm.mant u) - 1) * 2 ^ sh u = 9223372036854775808 := by
    rw [← Nat.pow_add, show Lib.bitLen (Sm.mant u) - 1 + sh u = 63 by omega]
  have e64 : 2 ^ Lib.bitLen (Sm.mant u) * 2 ^ sh u = 18446744073709551616 := by
    rw [← Nat.pow_add, show Lib.bitLen (Sm.mant u) + sh u = 64 by omega]
  have hp := Nat.two_pow_pos (sh u)
  have hm1 : 9223372036854775808 ≤ mm u := by rw [← e63]; exact Nat.mul_le_mul_right _ b1
  have hm2 : mm u < 18446744073709551616 := by rw [← e64]; exact Nat.mul_lt_mul_of_pos_right b2 hp
  refine ⟨⟨hm1, hm2, ?_, ?_, ?_⟩, by omega, by omega⟩
  · unfold ee; split <;> omega
  · unfold ee; split <;> omega
  · have hz : zz (ee u) = sh u := by
      unfold zz ee
      by_cases h0 : exb u = 0
      · rw [if_pos h0]
        have hsub : Sm.mant u < 2 ^ 52 := by unfold Sm.mant; unfold exb at h0; rw [if_pos h0]; exact Nat.mod_lt _ (by decide)
        have hl52 : Lib.bitLen (Sm.mant u) ≤ 52 := by
          refine Nat.le_of_not_lt fun h => ?_
          have : 2 ^ 52 ≤ 2 ^ (Lib.bitLen (Sm.mant u) - 1) := Nat.pow_le_pow_right (by omega) (by omega)
          omega
        split <;> omega
      · rw [if_neg h0]
        have hnor : 2 ^ 52 ≤ Sm.mant u := by unfold Sm.mant; unfold exb at h0; rw [if_neg h0]; omega
        have hl : Lib.bitLen (Sm.mant u) = 53 := by
          refine Nat.le_antisymm hl53 (Nat.le_of_not_lt fun h => ?_)
          have : 2 ^ Lib.bitLen (Sm.mant u) ≤ 2 ^ 52 := Nat.pow_le_pow_right (by omega) (by omega)
          omega
        rw [if_pos (by omega)]
        omega
    rw [hz]
    unfold mm
    exact Nat.mul_mod_left _ _

theorem usc_six {x s hi lo : Nat} (hx : x < 18446744073709551616) (hx0 : 4611686018427387904 ≤ x) (hhi : hi < 18446744073709551616) (hhi0 : 9223372036854775808 ≤ hi) (h1 : s ≤ 58) : 6 ≤ usc x s hi lo := by
  have u1 : x * hi < 18446744073709551616 * 18446744073709551616 := Nat.mul_lt_mul'' hx hhi
  have u0 : 4611686018427387904 * 9223372036854775808 ≤ x * hi := Nat.mul_le_mul hx0 hhi0
  unfold usc
  have h1' : x * hi / 18446744073709551616 < 18446744073709551616 := by omega
  have h0' : 2305843009213693952 ≤ x * hi / 18446744073709551616 := by omega
  generalize x * hi / 18446744073709551616 = h at *
  generalize x * hi % 18446744073709551616 = m at *
  clear u1 u0
  have p58 : 2 ^ s ≤ 2 ^ 58 := Nat.pow_le_pow_right (by omega) h1
  have key : ∀ a, 2305843009213693951 ≤ a → ∀ b, 6 ≤ stk (a / 2 ^ s) b := by
    intro a a0 b
    have := stk_le (a / 2 ^ s) b
    have l2 : a / 2 ^ 58 ≤ a / 2 ^ s := Nat.div_le_div_left p58 (Nat.two_pow_pos s)
    have e2 : (2 : Nat) ^ 58 = 288230376151711744 := by decide
    rw [e2] at l2
    generalize a / 2 ^ s = q at *
    omega
  by_cases hr : h % 2 ^ s ≠ 0
  · simp only [if_pos hr]
    exact key h (by omega) _
  · simp only [if_neg hr]
    refine key _ ?_ _
    split <;> omega

theorem sh_pos {m : Nat} {e : Int} (h : Ok m e) : 1 ≤ shD m e ∧ shD m e < 18446744073709551616 ∧ -350 ≤ shP m e ∧ shP m e ≤ 350 := by
  have hp := pp_range (m := m) h.e0 h.e1
  have hz := zz_range h.e0 h.e1
  have hpm := pm_range (p := pp m e) (by omega) (by omega)
  have hs : sft m e ≤ 58 ∧ 5 ≤ sft m e := by unfold sft; omega
  have h1 := h.lo
  have h2 := h.hi
  have p62 : 2 ^ (zz e - 1) ≤ 2 ^ 62 := Nat.pow_le_pow_right (by omega) (by omega)
  have e62 : (2 : Nat) ^ 62 = 4611686018427387904 := by decide
  have hmn : 4611686018427387904 ≤ mnv m e ∧ mnv m e < 18446744073709551616 := by
    unfold mnv
    have := Nat.two_pow_pos (zz e - 1)
    have e9 : (2 : Nat) ^ 9 = 512 := by decide
    split <;> omega
  have u1 : 6 ≤ uu m e (mnv m e) := usc_six hmn.2 hmn.1 hpm.1 hpm.2.1 hs.1
  have u3 : 6 ≤ uu m e m := usc_six h2 (by omega) hpm.1 hpm.2.1 hs.1
  have b1 : uu m e (mnv m e) < 9223372036854775800 := (usc_range (lo := pmLo (pp m e)) hmn.2 hmn.1 hpm.1 hpm.2.1 hs.2 hs.1).2
  have b3 : uu m e m < 9223372036854775800 := (usc_range (lo := pmLo (pp m e)) h2 (by omega) hpm.1 hpm.2.1 hs.2 hs.1).2
  have hdm : 2 ≤ dmn m e := by unfold dmn; omega
  have hdm2 : dmn m e < 4611686018427387904 := by unfold dmn odd; omega
  have hr3 : 1 ≤ rnd (uu m e m) ∧ rnd (uu m e m) < 4611686018427387904 := by unfold rnd; omega
  have hmx : mxv m e < 18446744073709551616 * 2 := by unfold mxv; omega
  have hpr := hp
  unfold shD shP
  by_cases c1 : dmn m e ≤ dmx m e / 10 * 10
  · rw [if_pos c1, if_pos c1]
    refine ⟨?_, ?_, ?_, ?_⟩
    · omega
    · have b2 : uu m e (mxv m e) < 18446744073709551616 * 2 := by
        unfold uu usc
        have u1 : mxv m e * pmHi (pp m e) < 18446744073709551616 * 2 * 18446744073709551616 := Nat.mul_lt_mul'' hmx hpm.1
        have hq : mxv m e * pmHi (pp m e) / 18446744073709551616 < 18446744073709551616 * 2 := by omega
        generalize mxv m e * pmHi (pp m e) / 18446744073709551616 = hh at *
        have p5 : 2 ^ 1 ≤ 2 ^ sft m e := Nat.pow_le_pow_right (by omega) (by omega)
        have key : ∀ a, a < 18446744073709551616 * 2 → ∀ b, stk (a / 2 ^ sft m e) b < 18446744073709551616 * 2 := by
          intro a ha b
          have := stk_le (a / 2 ^ sft m e) b
          have l1 : a / 2 ^ sft m e ≤ a / 2 ^ 1 := Nat.div_le_div_left p5 (by decide)
          omega
        by_cases hr : hh % 2 ^ sft m e ≠ 0
        · simp only [if_pos hr]
          exact key _ hq _
        · simp only [if_neg hr]
          refine key _ ?_ _
          split <;> omega
      unfold dmx; omega
    · show -350 ≤ 1 - pp m e; omega
    · show 1 - pp m e ≤ 350; omega
  · rw [if_neg c1, if_neg c1]
    split
    · exact ⟨hr3.1, by omega, by omega, by omega⟩
    · exact ⟨by omega, by omega, by omega, by omega⟩

theorem trim_pos : ∀ (n u : Nat), u ≠ 0 → u < 10 ^ n → 1 ≤ trimN u n := by
  intro n
  induction n with
  | zero => intro u h0 h; simp at h; exact absurd h h0
  | succ n ih =>
    intro u h0 h
    rw [trimN_succ]
    split
    · refine ih _ ?_ ?_
      · omega
      · rw [Nat.pow_succ] at h; omega
    · omega
theorem dd_pos {u : Nat} (h : Ok (mm u) (ee u)) : 1 ≤ dd u ∧ dd u < 18446744073709551616 ∧ -350 ≤ pq u ∧ pq u ≤ 350 := by
  have h1 := sh_pos h
  have e1 : dd u = shD (mm u) (ee u) := rfl
  have e2 : pq u = shP (mm u) (ee u) := rfl
  rw [← e1, ← e2] at h1
  exact h1
theorem text_some {u : Nat} (hm : Sm.mant u ≠ 0) : textF u = fmtG (Sm.isNeg u) (digs u) (Lib.nDigits (dd u) + pq u) := by unfold textF; rw [if_neg hm]
theorem pq_sum {u : Nat} (h : Ok (mm u) (ee u)) (hn : Lib.nDigits (dd u) ≤ 20) : -1000 ≤ pq u ∧ pq u ≤ 1000 ∧ -400 ≤ (Lib.nDigits (dd u) : Int) + pq u ∧ (Lib.nDigits (dd u) : Int) + pq u ≤ 400 := by
  have h1 := dd_pos h
  generalize pq u = p at *
  generalize Lib.nDigits (dd u) = n at *
  omega
end Go.Proofs.YtipkiiblghnoiaaGreatDoor.Us
