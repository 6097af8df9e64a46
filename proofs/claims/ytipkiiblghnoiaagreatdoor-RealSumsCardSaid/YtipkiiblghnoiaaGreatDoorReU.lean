/- PLAIN: what sums keep: turned round, of one, of two, of whole numbers. By an AI agent. -/
import Derived.Test.YtipkiiblghnoiaaGreatDoorReT
import Derived.Test.YtipkiiblghnoiaaGreatDoorReH
namespace Go.Proofs.YtipkiiblghnoiaaGreatDoor.Rn
open Go Go.Proofs.YtipkiiblghnoiaaGreatDoor Ieee
open Go.ChangeShapes Go.WideShapes Go.ChangeAt Go.RowKit
open Go.Proofs.YtipkiiblghnoiaaGreatDoor.Sm
set_option linter.unusedVariables false
set_option linter.unusedSimpArgs false

theorem foldl_perm {α β : Type} {f : α → β → α} (hc : ∀ a x y, f (f a x) y = f (f a y) x) {l l' : List β} (h : l.Perm l') : ∀ a, l.foldl f a = l'.foldl f a := by
  induction h with
  | nil => intro a; rfl
  | cons x _ ih => intro a; exact ih _
  | swap x y l => intro a; simp only [List.foldl_cons, hc]
  | trans _ _ i1 i2 => intro a; exact (i1 a).trans (i2 a)
theorem bump_comm (s : Sm.Sn) (x y : Nat) : bump (bump s x) y = bump (bump s y) x := by
  unfold bump
  (repeat' split) <;> first | rfl | omega
theorem step_comm (a : Int) (x y : Nat) : sumStep (sumStep a x) y = sumStep (sumStep a y) x := by
  unfold sumStep
  (repeat' split) <;> first | rfl | omega
/-- The sum by two folds over the whole list. -/
def cnt (us : List Nat) : Sm.Sn := us.foldl bump ⟨0, 0, 0, 0, 0⟩
def sm (us : List Nat) : Int := us.foldl sumStep 0
theorem sumW_eq (us : List Nat) : sumW us = if 0 < (cnt us).n ∨ (0 < (cnt us).l ∧ 0 < (cnt us).g) then 9221120237041090561 else if 0 < (cnt us).l then 18442240474082181120 else if 0 < (cnt us).g then 9218868437227405312 else if (cnt us).o = 0 ∧ 0 < (cnt us).m then 9223372036854775808 else sgnR (sm us) := by
  unfold sumW cntK sumK cnt sm
  rw [List.take_length]
theorem sum_perm {us vs : List Nat} (h : us.Perm vs) : sumW us = sumW vs := by
  have h1 : cnt us = cnt vs := foldl_perm bump_comm h _
  have h2 : sm us = sm vs := foldl_perm step_comm h _
  rw [sumW_eq, sumW_eq, h1, h2]
theorem sum_reverse (us : List Nat) : sumW us.reverse = sumW us := sum_perm (List.reverse_perm us)

theorem kind_finite {u : Nat} (h : u % 9223372036854775808 < 9218868437227405312) (hz : u ≠ 9223372036854775808) : kind u = 4 := by
  unfold kind
  rw [if_neg (by omega), if_neg (by omega), if_neg hz]
theorem kind_nan {u : Nat} (h : Flt.nan u = true) : kind u = 0 := by
  have := (Re.nan_iff u).1 h
  unfold kind
  rw [if_pos this]
theorem fin_small {u : Nat} (h : u % 9223372036854775808 < 9218868437227405312) : Flt.Fin u := by
  unfold Flt.Fin Flt.rung; omega

/-- Of one. -/
theorem sum_one {u : Nat} (hu : u < 18446744073709551616) : sumW [u] = canW u := by
  rw [sumW_eq]
  have hc : cnt [u] = bump ⟨0, 0, 0, 0, 0⟩ u := rfl
  have hs : sm [u] = sumStep 0 u := rfl
  rw [hc, hs]
  unfold canW
  cases hn : Flt.nan u
  · have h1 := Re.not_nan hn
    simp only [Bool.false_eq_true, if_false]
    by_cases hi : u % 9223372036854775808 = 9218868437227405312
    · by_cases hneg : u < 9223372036854775808
      · have hk : kind u = 2 := by unfold kind; rw [if_neg h1, if_pos hi, if_pos hneg]
        unfold bump
        rw [hk]
        simp
        omega
      · have hk : kind u = 1 := by unfold kind; rw [if_neg h1, if_pos hi, if_neg hneg]
        unfold bump
        rw [hk]
        simp
        omega
    · by_cases hz : u = 9223372036854775808
      · subst hz
        decide +kernel
      · have hk : kind u = 4 := kind_finite (by omega) hz
        have hS : sumStep 0 u = Flt.fv u := by unfold sumStep; rw [if_pos hk, Int.zero_add, fin_fv hu]
        unfold bump
        rw [hk, hS]
        simp
        rw [sgn_word]
        have hF : Flt.Fin u := fin_small (by omega)
        have hab : (Flt.fv u).natAbs = Flt.mag (Flt.rung u) := Flt.sv_abs _ _
        have hr : Flt.rung u ≤ 2047 * 2 ^ 52 := Nat.le_of_lt hF
        rw [hab, round_mag hr]
        have hd : decide (Flt.fv u < 0) = Flt.neg u := by
          by_cases h2 : u < 9223372036854775808
          · rw [Re.fv_pos h2]
            have : Flt.neg u = false := by unfold Flt.neg; rw [beq_eq_false_iff_ne]; omega
            rw [this, decide_eq_false_iff_not]
            omega
          · obtain ⟨m, hm⟩ := Re.split_top h2
            rw [Re.fv_neg hm hu]
            have : Flt.neg u = true := by unfold Flt.neg; rw [beq_iff_eq]; omega
            rw [this, decide_eq_true_eq]
            have h3 : Flt.mag 0 < Flt.mag m := Flt.mag_lt (by omega)
            rw [Flt.mag_zero] at h3
            omega
        rw [hd, Flt.word_self hu]
  · rw [kind_nan hn |> fun hk => (show bump ⟨0, 0, 0, 0, 0⟩ u = ⟨1, 0, 0, 0, 0⟩ by unfold bump; rw [if_pos hk])]
    simp

/-- A number and its opposite beside. -/
theorem bump_o (s : Sm.Sn) {u : Nat} (h : kind u = 4) : bump s u = { s with o := s.o + 1 } := by
  unfold bump
  rw [h]
  rfl
theorem cnt_from (us : List Nat) : ∀ (s : Sm.Sn) (k : Nat), us.foldl bump { s with o := s.o + k } = { us.foldl bump s with o := (us.foldl bump s).o + k } := by
  induction us with
  | nil => intro s k; rfl
  | cons x r ih =>
    intro s k
    simp only [List.foldl_cons]
    have : bump { s with o := s.o + k } x = { bump s x with o := (bump s x).o + k } := by
      unfold bump
      (repeat' split) <;> first | rfl | omega | (simp; omega)
    rw [this, ih]
theorem sm_from (us : List Nat) : ∀ a : Int, us.foldl sumStep a = us.foldl sumStep 0 + a := by
  induction us with
  | nil => intro a; simp
  | cons x r ih =>
    intro a
    simp only [List.foldl_cons]
    rw [ih (sumStep a x), ih (sumStep 0 x)]
    unfold sumStep
    split <;> omega
theorem cnt_mem {us : List Nat} {x : Nat} (hx : x ∈ us) (h3 : kind x ≠ 3) : 0 < (cnt us).n ∨ 0 < (cnt us).l ∨ 0 < (cnt us).g ∨ (cnt us).o ≠ 0 := by
  have mono : ∀ (l : List Nat) (s : Sm.Sn), s.n ≤ (l.foldl bump s).n ∧ s.l ≤ (l.foldl bump s).l ∧ s.g ≤ (l.foldl bump s).g ∧ s.o ≤ (l.foldl bump s).o := by
    intro l
    induction l with
    | nil => intro s; exact ⟨Nat.le_refl _, Nat.le_refl _, Nat.le_refl _, Nat.le_refl _⟩
    | cons y r ih =>
      intro s
      have h1 := ih (bump s y)
      have h2 : s.n ≤ (bump s y).n ∧ s.l ≤ (bump s y).l ∧ s.g ≤ (bump s y).g ∧ s.o ≤ (bump s y).o := by
        unfold bump
        (repeat' split) <;> simp
      simp only [List.foldl_cons]
      omega
  obtain ⟨a, b, rfl⟩ := List.append_of_mem hx
  have e : cnt (a ++ x :: b) = b.foldl bump (bump (a.foldl bump ⟨0, 0, 0, 0, 0⟩) x) := by unfold cnt; rw [List.foldl_append]; rfl
  rw [e]
  have h1 := mono b (bump (a.foldl bump ⟨0, 0, 0, 0, 0⟩) x)
  generalize a.foldl bump ⟨0, 0, 0, 0, 0⟩ = s at *
  have h2 : 0 < (bump s x).n ∨ 0 < (bump s x).l ∨ 0 < (bump s x).g ∨ (bump s x).o ≠ 0 := by
    unfold bump
    split
    · left; simp
    · split
      · right; left; simp
      · split
        · right; right; left; simp
        · right; right; right; simp [h3]
  omega
theorem sum_more {y z : Nat} {us : List Nat} {x : Nat} (hy : kind y = 4) (hz : kind z = 4) (hyz : fin z = - fin y) (hx : x ∈ us) (h3 : kind x ≠ 3) : sumW ((y :: us) ++ [z]) = sumW us := by
  have hp : ((y :: us) ++ [z]).Perm (y :: z :: us) := by
    simp only [List.cons_append]
    refine List.Perm.cons _ ?_
    exact List.perm_append_comm
  rw [sum_perm hp, sumW_eq, sumW_eq us]
  have hc : cnt (y :: z :: us) = { cnt us with o := (cnt us).o + 2 } := by
    unfold cnt
    simp only [List.foldl_cons]
    rw [bump_o _ hy, bump_o _ hz]
    exact cnt_from us ⟨0, 0, 0, 0, 0⟩ 2
  have hs : sm (y :: z :: us) = sm us := by
    unfold sm
    simp only [List.foldl_cons]
    rw [sm_from]
    unfold sumStep
    rw [if_pos hy, if_pos hz, hyz]
    omega
  have hm := cnt_mem hx h3
  rw [hc, hs]
  generalize cnt us = s at *
  obtain ⟨n, l, g, o, m⟩ := s
  simp only at *
  (repeat' split) <;> first | rfl | omega
end Go.Proofs.YtipkiiblghnoiaaGreatDoor.Rn
