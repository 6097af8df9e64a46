/- Quarters: float64 words of l / 4, exact. No program in sight. By an AI agent. -/
import Derived.Test.YtafglefiodanbaaFlt
namespace Go.Proofs.Ytafglefiodanbaa.Flt
open Ieee

/-- A quarter, in units of the least number. -/
def V : Nat := pw2 1072
theorem V_at {e : Nat} (h : e = 1072) : V = 2 ^ e := congrArg pw2 h.symm
theorem U_V : U = 4 * V := by
  have key : ∀ e, e = 1072 → U = 4 * V := by
    intro e he
    rw [U_at (e := e + 2) (by omega), V_at he, Nat.pow_add]
    omega
  exact key 1072 rfl
theorem V_pos : 0 < V := pw2_pos 1072
theorem rep_V (l : Nat) (h : l ≤ 2 ^ 53) : ∃ R, mag R = l * V := rep_pw2 1072 l h

theorem four_read : double.read 4616189618054758400 = .number false (2 ^ 52) (-50) := by decide +kernel

/-- A quotient by 4 is exact. -/
theorem quo4 {w : Nat} (h : Fin w) : ∃ D, (double.read w).quotient 54 (double.read 4616189618054758400) = some D ∧ Num 1176 D (neg w) (mag (rung w) * 2 ^ 100) := by
  obtain ⟨m, e, h1, h2, h3, h4⟩ := read_num' h
  rw [h1, four_read]
  unfold Datum.quotient
  have hl : (2 ^ 52 : Nat).log2 = 52 := by decide
  simp only [hl]
  rw [if_neg (by omega)]
  refine ⟨_, rfl, ?_⟩
  have hlog : m.log2 ≤ 52 := by
    by_cases hm : m = 0
    · subst hm; decide
    · have := (Nat.log2_lt hm).2 h4; omega
  generalize hmore : 54 + 52 - m.log2 = more
  have hk : 54 ≤ more ∧ more ≤ 106 := by omega
  have hdiv : m <<< more = m * 2 ^ (more - 52) * 2 ^ 52 := by
    rw [Nat.shiftLeft_eq, Nat.mul_assoc, ← Nat.pow_add]; congr 2; omega
  have hd : m <<< more / 2 ^ 52 = m * 2 ^ (more - 52) := by rw [hdiv]; exact Nat.mul_div_cancel _ (by omega)
  have hr : (m <<< more % 2 ^ 52 != 0) = false := by rw [hdiv, Nat.mul_mod_left]; rfl
  rw [hd, hr]
  refine ⟨2 * (m * 2 ^ (more - 52)) + 0, e - -50 - more - 1, by simp, by omega, ?_⟩
  rw [← h3, Nat.add_zero, Nat.mul_comm 2, Nat.mul_assoc, Nat.mul_assoc, Nat.mul_assoc, ← Nat.pow_succ', ← Nat.pow_add, ← Nat.pow_add]
  congr 2
  omega

def qt (l : Nat) : Nat := (floatBits .quo .f64 (floatOfInt .f64 (l : Int)) 4616189618054758400).getD 0

theorem word_of {w R : Nat} (h : w < 2 ^ 64) (hn : neg w = false) (hr : rung w = R) : w = double.word false R := by
  have := word_self h
  rw [hn, hr] at this
  exact this.symm

theorem qt_val {l : Nat} (h : l ≤ 2 ^ 53) : floatBits .quo .f64 (floatOfInt .f64 (l : Int)) 4616189618054758400 = some (qt l) ∧ Fin (qt l) ∧ neg (qt l) = false ∧ fv (qt l) = (l : Int) * V ∧ qt l < 2 ^ 63 := by
  obtain ⟨R0, a1, a2, a3⟩ := ofInt_val h
  have hf : Fin (floatOfInt .f64 (l : Int)) := (ofInt_fin h).1
  obtain ⟨D, h1, h2⟩ := quo4 hf
  have hq : floatBits .quo .f64 (floatOfInt .f64 (l : Int)) 4616189618054758400 = some (double.write D) := by
    show ((double.read _).quotient 54 (double.read _)).map double.write = _
    rw [h1]; rfl
  have e : qt l = double.write D := by unfold qt; rw [hq]; rfl
  rw [e]
  refine ⟨hq, ?_⟩
  have hw := write_near h2 (by omega)
  obtain ⟨R, hR⟩ := rep_V l h
  have hlt : R < 2047 * 2 ^ 52 := by
    obtain ⟨R1, b1, b2⟩ := rep_U h
    refine Nat.lt_of_le_of_lt (le_of_mag ?_) b1
    rw [hR, b2, U_V]
    exact Nat.mul_le_mul_left _ (by omega)
  have hm : mag (rung (floatOfInt .f64 (l : Int))) = l * U := by rw [a3, word_rung _ (by omega), a2]
  have hs : neg (floatOfInt .f64 (l : Int)) = false := (ofInt_fin h).2.2.1
  rw [hs] at hw
  have hx := hw.exact (Nat.le_of_lt hlt) (by
    rw [hm, hR, U_V]
    show l * (4 * V) * 2 ^ 100 = l * V * 2 ^ 102
    rw [show (2 : Nat) ^ 102 = 4 * 2 ^ 100 from rfl, ← Nat.mul_assoc, ← Nat.mul_assoc, Nat.mul_right_comm l 4 V])
  rw [hx]
  refine ⟨by unfold Fin; rw [word_rung _ (by omega)]; exact hlt, word_neg _ (by omega), ?_, by unfold Format.word; simp; omega⟩
  rw [word_fv _ (by omega), hR]
  change ((l * V : Nat) : Int) = _
  simp

/-- A plain word that is l quarters is 'qt l'. -/
theorem qt_unique {w l : Nat} (h : l ≤ 2 ^ 53) (hw : w < 2 ^ 64) (hn : neg w = false) (hv : fv w = (l : Int) * V) : w = qt l := by
  obtain ⟨-, -, q2, q3, q4⟩ := qt_val h
  have a := word_self hw
  have b := word_self (w := qt l) (by omega)
  rw [hn] at a
  rw [q2] at b
  unfold fv at hv q3
  rw [hn] at hv
  rw [q2] at q3
  have : mag (rung w) = mag (rung (qt l)) := by
    have : (mag (rung w) : Int) = (mag (rung (qt l)) : Int) := hv.trans q3.symm
    omega
  rw [mag_inj this] at a
  exact a.symm.trans b

theorem near_qt {s : Bool} {w l : Nat} (h : l ≤ 2 ^ 53) (hs : s = false) (hw : Near 1074 s (l * V) w) : w = qt l := by
  subst hs
  obtain ⟨R, hR⟩ := rep_V l h
  obtain ⟨-, q1, q2, q3, q4⟩ := qt_val h
  have hr : rung (qt l) = R := by
    refine mag_inj ?_
    rw [hR]
    unfold fv at q3
    rw [q2] at q3
    have : (mag (rung (qt l)) : Int) = ((l * V : Nat) : Int) := by rw [Int.natCast_mul]; exact q3
    exact Int.ofNat_inj.1 this
  have hx := hw.exact (R := R) (by rw [← hr]; exact Nat.le_of_lt q1) (by rw [hR]; simp)
  rw [hx]
  exact (word_of (by omega) q2 hr).symm

theorem qt_sub {l a : Nat} (h : l ≤ 2 ^ 53) (ha : a ≤ l) : floatBits .sub .f64 (qt l) (qt a) = some (qt (l - a)) := by
  obtain ⟨-, q1, q2, q3, q4⟩ := qt_val h
  obtain ⟨-, r1, r2, r3, r4⟩ := qt_val (l := a) (by omega)
  obtain ⟨w, h1, h2⟩ := sub_near q1 r1
  have hV := V_pos
  have e : fv (qt l) - fv (qt a) = ((l - a : Nat) : Int) * V := by
    rw [q3, r3, ← Int.sub_mul]
    congr 1
    omega
  have hp : 0 ≤ ((l - a : Nat) : Int) * V := Int.mul_nonneg (by omega) (by omega)
  rw [e, q2, Int.natAbs_mul, Int.natAbs_natCast, Int.natAbs_natCast] at h2
  have hx := near_qt (l := l - a) (by omega) (by split; rfl; exact decide_eq_false (by omega)) h2
  rw [← hx]
  exact h1

theorem qt_add {a b : Nat} (h : a + b ≤ 2 ^ 53) (hb : 0 < b) : floatBits .add .f64 (qt a) (qt b) = some (qt (a + b)) := by
  obtain ⟨-, q1, q2, q3, q4⟩ := qt_val (l := a) (by omega)
  obtain ⟨-, r1, r2, r3, r4⟩ := qt_val (l := b) (by omega)
  obtain ⟨w, h1, h2⟩ := add_near q1 r1
  have hV := V_pos
  have e : fv (qt a) + fv (qt b) = ((a + b : Nat) : Int) * V := by
    rw [q3, r3, ← Int.add_mul]
    congr 1
  have hp : 0 < ((a + b : Nat) : Int) * V := Int.mul_pos (by omega) (by omega)
  rw [e, if_neg (by omega), Int.natAbs_mul, Int.natAbs_natCast, Int.natAbs_natCast] at h2
  have hx := near_qt (l := a + b) h (decide_eq_false (by omega)) h2
  rw [← hx]
  exact h1

theorem qt_one : qt 1 = 4598175219545276416 := by decide +kernel
theorem qt_zero : qt 0 = 0 := by decide +kernel

theorem qt_lt {a b : Nat} (ha : a ≤ 2 ^ 53) (hb : b ≤ 2 ^ 53) : (fv (qt a) < fv (qt b)) ↔ a < b := by
  rw [(qt_val ha).2.2.2.1, (qt_val hb).2.2.2.1]
  have hV := V_pos
  constructor
  · intro h
    have := Int.lt_of_mul_lt_mul_right h (by omega)
    omega
  · intro h
    exact Int.mul_lt_mul_of_pos_right (by omega) (by omega)
theorem qt_le {a b : Nat} (ha : a ≤ 2 ^ 53) (hb : b ≤ 2 ^ 53) : (fv (qt a) ≤ fv (qt b)) ↔ a ≤ b := by
  have := qt_lt hb ha
  omega
end Go.Proofs.Ytafglefiodanbaa.Flt
