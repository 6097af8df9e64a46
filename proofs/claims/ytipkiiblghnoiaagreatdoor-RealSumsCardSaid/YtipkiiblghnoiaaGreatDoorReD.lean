/- PLAIN: classes, keys and the order. By an AI agent. -/
import Derived.Test.YtipkiiblghnoiaaGreatDoorReC
namespace Go.Proofs.YtipkiiblghnoiaaGreatDoor.Re
open Go.Proofs.YtipkiiblghnoiaaGreatDoor
set_option linter.unusedVariables false

theorem nan_iff (u : Nat) : Flt.nan u = true ↔ 9218868437227405312 < u % 9223372036854775808 := by
  unfold Flt.nan Flt.rung
  rw [decide_eq_true_eq]
theorem class_le {a b : Nat} (ha : a < 18446744073709551616) (hb : b < 18446744073709551616) (hna : Flt.nan a = false) (hnb : Flt.nan b = false) (h : cmpF a b ≤ 0) : Sm.classF a ≤ Sm.classF b := by
  have h1 : ¬ 9218868437227405312 < a % 9223372036854775808 := fun x => by rw [(nan_iff a).2 x] at hna; cases hna
  have h2 : ¬ 9218868437227405312 < b % 9223372036854775808 := fun x => by rw [(nan_iff b).2 x] at hnb; cases hnb
  have hk : keyF a ≤ keyF b := by
    refine Nat.le_of_not_lt fun hlt => ?_
    unfold cmpF at h
    rw [if_neg (by omega), if_pos hlt] at h
    omega
  unfold keyF at hk
  rw [hna, hnb] at hk
  simp only [Bool.false_eq_true, if_false] at hk
  unfold Sm.classF
  rw [if_neg h1, if_neg h2]
  by_cases a0 : a < 9223372036854775808
  · have a1 : a % 9223372036854775808 = a := Nat.mod_eq_of_lt a0
    rw [if_neg (show ¬ 9223372036854775808 ≤ a by omega)] at hk
    by_cases b0 : b < 9223372036854775808
    · have b1 : b % 9223372036854775808 = b := Nat.mod_eq_of_lt b0
      rw [if_neg (show ¬ 9223372036854775808 ≤ b by omega)] at hk
      rw [a1, b1, if_pos a0, if_pos b0]
      (repeat' split) <;> omega
    · rw [if_pos (show 9223372036854775808 ≤ b by omega)] at hk
      omega
  · have a1 : a % 9223372036854775808 = a - 9223372036854775808 := by omega
    rw [if_pos (show 9223372036854775808 ≤ a by omega)] at hk
    by_cases b0 : b < 9223372036854775808
    · have b1 : b % 9223372036854775808 = b := Nat.mod_eq_of_lt b0
      rw [a1, b1, if_neg a0, if_pos b0]
      (repeat' split) <;> omega
    · have b1 : b % 9223372036854775808 = b - 9223372036854775808 := by omega
      rw [if_pos (show 9223372036854775808 ≤ b by omega)] at hk
      rw [a1, b1, if_neg a0, if_neg b0]
      (repeat' split) <;> omega
/-- The word with the other sign. -/
def flip (u : Nat) : Nat := if u < 9223372036854775808 then u + 9223372036854775808 else u - 9223372036854775808
theorem class_range {a : Nat} (hn : Flt.nan a = false) : 2 ≤ Sm.classF a ∧ Sm.classF a ≤ 9 := by
  have h1 : ¬ 9218868437227405312 < a % 9223372036854775808 := fun x => by rw [(nan_iff a).2 x] at hn; cases hn
  unfold Sm.classF
  rw [if_neg h1]
  simp only
  (repeat' split) <;> omega
theorem class_flip {a : Nat} (ha : a < 18446744073709551616) (hn : Flt.nan a = false) : Sm.classF (flip a) = 11 - Sm.classF a := by
  have h1 : ¬ 9218868437227405312 < a % 9223372036854775808 := fun x => by rw [(nan_iff a).2 x] at hn; cases hn
  have hm : flip a % 9223372036854775808 = a % 9223372036854775808 := by unfold flip; split <;> omega
  unfold Sm.classF
  rw [hm, if_neg h1, if_neg h1]
  simp only
  unfold flip
  by_cases a0 : a < 9223372036854775808
  · rw [if_pos a0, if_neg (by omega), if_pos a0]
  · rw [if_neg a0, if_pos (by omega), if_neg a0]
    (repeat' split) <;> omega
theorem class_nan {a : Nat} (hn : Flt.nan a = true) : Sm.classF a = 1 := by
  unfold Sm.classF
  rw [if_pos ((nan_iff a).1 hn)]
end Go.Proofs.YtipkiiblghnoiaaGreatDoor.Re
