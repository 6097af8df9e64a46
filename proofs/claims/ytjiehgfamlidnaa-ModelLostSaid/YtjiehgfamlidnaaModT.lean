/- ModelLost: the plain law: a record is lost with its number. By an AI agent. -/
import Derived.Test.YtjiehgfamlidnaaModO
namespace Go.Proofs.Ytjiehgfamlidnaa
open Go.ChangeShapes Go.WideShapes Go.ChangeAt Go.RowKit
set_option linter.unusedVariables false
namespace Md

/-- The state behind the first k. -/
def lostS (b : Int) (lost k : Nat) : S := ⟨b, b, b, b + k, if lost < k then b + lost else 9223372036854775807, false, false⟩

theorem lost_zero (b : Int) (lost : Nat) : lostS b lost 0 = newS b := by simp [lostS, newS]

theorem rep_snoc (k : Nat) (D : List Nat) : List.replicate k D ++ [D] = List.replicate (k + 1) D := by
  rw [List.replicate_succ']

theorem lost_inv {b : Int} {lost k : Nat} (h1 : 1 ≤ b) (h2 : b ≤ 1152921504606846976) (hk : k ≤ 30) (hl : lost ≤ 30) : Inv (lostS b lost k) k := by
  constructor <;> simp only [lostS] <;> (try split) <;> omega

theorem lost_step {b : Int} {lost k : Nat} {D : List Nat} (h1 : 1 ≤ b) (h2 : b ≤ 1152921504606846976) (hk : k < 30) (hD : D.length ≤ 100) :
    applyF (lostS b lost k) (List.replicate k D) 2 0 D (if k = lost then 40 else 0) (b + k) [] = some (lostS b lost (k + 1), List.replicate (k + 1) D) := by
  have hu : usedC 2 0 D.length = true := by simp [usedC]
  have ha : addS (lostS b lost k) (b + k) D.length = some { lostS b lost k with next := b + k + 1 } := by
    simp only [addS, lostS]
    rw [if_pos (by simp), if_pos ⟨by omega, trivial, by omega⟩]
  simp only [applyF, hu, if_true, applyS, ansS, recsOf, appS, ha]
  by_cases hl : k = lost
  · subst hl
    have e : min (9223372036854775807 : Int) (b + k) = b + k := by omega
    simp [lostS, rep_snoc, e, show ¬ (b + (k : Int) = 0) by omega]
    omega
  · have e : (if lost < k + 1 then b + (lost : Int) else 9223372036854775807) = (if lost < k then b + (lost : Int) else 9223372036854775807) := by
      by_cases h : lost < k
      · rw [if_pos h, if_pos (by omega)]
      · rw [if_neg h, if_neg (by omega)]
    simp [lostS, rep_snoc, hl, e]
    omega

section
variable {b : Int} {lost n : Nat} {D : List Nat} (hl : lost < n)
include hl

theorem lost_app : applyF (lostS b lost n) (List.replicate n D) 1 0 D 0 (b + n) [] = none := by
  have hu : usedC 1 0 D.length = true := by simp [usedC]
  simp only [applyF, hu, if_true, applyS, ansS, recsOf, appS, lostS, if_pos hl]
  simp
  omega

theorem lost_sync : applyF (lostS b lost n) (List.replicate n D) 3 0 [] 0 0 [] = none := by
  have hu : usedC 3 0 0 = true := by simp [usedC]
  simp only [applyF, List.length_nil, hu, if_true, applyS, ansS, syncS, lostS, if_pos hl]
  simp
  omega

theorem lost_close : applyF (lostS b lost n) (List.replicate n D) 7 0 [] 0 0 [] = none := by
  have hu : usedC 7 0 0 = true := by simp [usedC]
  simp only [applyF, List.length_nil, hu, if_true, applyS, ansS, closeS, syncS, lostS, if_pos hl]
  simp
  omega

theorem lost_read {i : Nat} (hi : i < n) : (applyF (lostS b lost n) (List.replicate n D) 4 (b + i) [] 0 (b + i) D).isSome = decide (i < lost) := by
  have hu : usedC 4 (b + i) 0 = true := by simp [usedC]
  have hg : (List.replicate n D).getD (b + i - b).toNat [] = D := by
    have : (b + (i : Int) - b).toNat = i := by omega
    rw [this, List.getD_eq_getElem?_getD]
    simp [hi]
  simp only [applyF, List.length_nil, hu, if_true, applyS, ansS, readS, lostS, if_pos hl, raiseS, hg]
  rw [if_neg (by omega), if_neg (by simp), if_pos (by simp), if_pos (by simp), if_pos ⟨trivial, by omega, by omega, trivial⟩]
  by_cases h : i < lost
  · rw [if_pos (by omega)]; simp [h]
  · rw [if_neg (by omega)]; simp [h]

theorem lost_not {i : Nat} (hi : i < n) : (applyF (lostS b lost n) (List.replicate n D) 4 (b + i) [] 42 0 []).isSome = true := by
  have hu : usedC 4 (b + i) 0 = true := by simp [usedC]
  simp only [applyF, List.length_nil, hu, if_true, applyS, ansS, readS, lostS, if_pos hl]
  simp
  omega

theorem lost_front {i : Nat} (hi : i < n) : (applyF (lostS b lost n) (List.replicate n D) 6 (b + i) [] 0 0 []).isSome = decide (i ≤ lost) := by
  have hu : usedC 6 (b + i) 0 = true := by simp [usedC]
  simp only [applyF, List.length_nil, hu, if_true, applyS, ansS, truncS, frontS, raiseS, lostS, if_pos hl]
  by_cases h0 : i = 0
  · subst h0; simp
  · by_cases h : i ≤ lost
    · simp [h, show b < b + (i : Int) by omega, show i ≤ n by omega]
    · simp [h, show b < b + (i : Int) by omega, show i ≤ n by omega]
end
end Md
end Go.Proofs.Ytjiehgfamlidnaa
