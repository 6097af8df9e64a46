/- PLAIN: the least and the greatest of a list. By an AI agent. -/
import Derived.Test.YtipkiiblghnoiaaGreatDoorReH
namespace Go.Proofs.YtipkiiblghnoiaaGreatDoor.Re
open Go.Proofs.YtipkiiblghnoiaaGreatDoor
set_option linter.unusedVariables false

/-- What has been seen of the first k: is there a number, is the end among them? -/
def someK (us : List Nat) (k : Nat) : Bool := (us.take k).any fun u => !Flt.nan u
def hitK (a : Nat) (us : List Nat) (k : Nat) : Bool := (us.take k).any fun u => !Flt.nan u && decide (u = a)
theorem someK_zero (us : List Nat) : someK us 0 = false := by simp [someK]
theorem hitK_zero (a : Nat) (us : List Nat) : hitK a us 0 = false := by simp [hitK]
theorem someK_succ {us : List Nat} {k : Nat} (h : k < us.length) : someK us (k + 1) = (someK us k || !Flt.nan (us.getD k 0)) := by
  unfold someK
  rw [Sm.take_next h, List.any_append]
  simp
theorem hitK_succ {a : Nat} {us : List Nat} {k : Nat} (h : k < us.length) : hitK a us (k + 1) = (hitK a us k || (!Flt.nan (us.getD k 0) && decide (us.getD k 0 = a))) := by
  unfold hitK
  rw [Sm.take_next h, List.any_append]
  simp

/-- The end of a list: nothing, or one of it beyond which none stands. -/
def EndOf (side : Int) (us : List Nat) (k : Nat) (st : Nat × Bool) : Prop :=
  (st.2 = false → st.1 = 9221120237041090561 ∧ someK us k = false) ∧
  (st.2 = true → Flt.nan st.1 = false ∧ someK us k = true ∧ hitK st.1 us k = true ∧ ∀ i, i < k → Flt.nan (us.getD i 0) = false → cmpF (us.getD i 0) st.1 ≠ side)

theorem cmp_self (a : Nat) : cmpF a a = 0 := cmp_eq rfl
theorem end_of {side : Int} (hs : side = -1 ∨ side = 1) {us : List Nat} : ∀ k, k ≤ us.length → EndOf side us k (Sm.outK side us k)
  | 0, _ => by
    have h0 : Sm.outK side us 0 = (9221120237041090561, false) := rfl
    rw [h0]
    exact ⟨fun _ => ⟨rfl, someK_zero us⟩, fun h => by cases h⟩
  | k + 1, h => by
    have ih := end_of hs (us := us) k (show k ≤ us.length by omega)
    rw [Sm.outK_succ (side := side) (us := us) (show k < us.length by omega)]
    generalize Sm.outK side us k = st at *
    obtain ⟨b, th⟩ := st
    have h1 := someK_succ (us := us) (k := k) (by omega)
    cases hn : Flt.nan (us.getD k 0)
    · rw [hn] at h1
      cases th
      · rw [Sm.out_first hn]
        refine ⟨fun x => (by cases x), fun _ => ⟨hn, by rw [h1]; simp, ?_, ?_⟩⟩
        · rw [hitK_succ (us := us) (k := k) (show k < us.length by omega), hn]; simp
        · intro i hi hni
          have hnone := (ih.1 rfl).2
          rcases Nat.lt_or_ge i k with hik | hik
          · exfalso
            unfold someK at hnone
            rw [List.any_eq_false] at hnone
            have hm : us.getD i 0 ∈ us.take k := by
              rw [List.mem_take_iff_getElem]
              refine ⟨i, by omega, ?_⟩
              rw [List.getD_eq_getElem?_getD, List.getElem?_eq_getElem (by omega)]
              rfl
            have := hnone _ hm
            rw [hni] at this
            simp at this
          · obtain rfl : i = k := by omega
            rw [cmp_self]
            omega
      · obtain ⟨i1, i2, i3, i4⟩ := ih.2 rfl
        rw [Sm.out_cmp hn]
        by_cases hc : cmpF (us.getD k 0) b = side
        · rw [if_pos hc]
          refine ⟨fun x => (by cases x), fun _ => ⟨hn, by rw [h1]; simp, by rw [hitK_succ (us := us) (k := k) (show k < us.length by omega), hn]; simp, ?_⟩⟩
          intro i hi hni
          rcases Nat.lt_or_ge i k with hik | hik
          · intro hci
            have h5 := i4 i hik hni
            simp only at h5
            generalize us.getD i 0 = x at *
            generalize us.getD k 0 = u at *
            rcases hs with rfl | rfl
            · rcases cmp_cases u b with ⟨_, k1⟩ | ⟨_, k1⟩ | ⟨_, k1⟩ <;> rcases cmp_cases x u with ⟨_, k2⟩ | ⟨_, k2⟩ | ⟨_, k2⟩ <;> rcases cmp_cases x b with ⟨_, k3⟩ | ⟨_, k3⟩ | ⟨_, k3⟩ <;> simp only at * <;> omega
            · rcases cmp_cases u b with ⟨_, k1⟩ | ⟨_, k1⟩ | ⟨_, k1⟩ <;> rcases cmp_cases x u with ⟨_, k2⟩ | ⟨_, k2⟩ | ⟨_, k2⟩ <;> rcases cmp_cases x b with ⟨_, k3⟩ | ⟨_, k3⟩ | ⟨_, k3⟩ <;> simp only at * <;> omega
          · obtain rfl : i = k := by omega
            rw [cmp_self]
            omega
        · rw [if_neg hc]
          refine ⟨fun x => (by cases x), fun _ => ⟨i1, by rw [h1, i2]; rfl, by rw [hitK_succ (us := us) (k := k) (show k < us.length by omega)]; simp only at i3; rw [i3]; rfl, ?_⟩⟩
          intro i hi hni
          rcases Nat.lt_or_ge i k with hik | hik
          · exact i4 i hik hni
          · obtain rfl : i = k := by omega
            exact hc
    · rw [hn] at h1
      rw [Sm.out_nan hn]
      refine ⟨fun x => ⟨(ih.1 x).1, (by rw [h1]; simp [(ih.1 x).2])⟩, fun x => ?_⟩
      obtain ⟨i1, i2, i3, i4⟩ := ih.2 x
      refine ⟨i1, by rw [h1, i2]; rfl, by rw [hitK_succ (us := us) (k := k) (show k < us.length by omega), i3]; rfl, ?_⟩
      intro i hi hni
      rcases Nat.lt_or_ge i k with hik | hik
      · exact i4 i hik hni
      · obtain rfl : i = k := by omega
        rw [hn] at hni
        cases hni

/-- What the ends of a list are, all told. -/
theorem ends {us : List Nat} (h0 : us.length ≠ 0) :
    (∀ i, i < us.length → Flt.nan (us.getD i 0) = false → decide (cmpF (us.getD i 0) (Sm.outW (-1) us) < 0) = false ∧ decide (cmpF (us.getD i 0) (Sm.outW 1 us) > 0) = false) ∧
    ((someK us us.length = true ∧ hitK (Sm.outW (-1) us) us us.length = true ∧ hitK (Sm.outW 1 us) us us.length = true) ∨ (someK us us.length = false ∧ Flt.nan (Sm.outW (-1) us) = true ∧ Flt.nan (Sm.outW 1 us) = true)) := by
  have e1 := end_of (side := -1) (.inl rfl) (us := us) us.length (Nat.le_refl _)
  have e2 := end_of (side := 1) (.inr rfl) (us := us) us.length (Nat.le_refl _)
  have w1 : Sm.outW (-1) us = (Sm.outK (-1) us us.length).1 := by unfold Sm.outW; rw [if_neg h0]
  have w2 : Sm.outW 1 us = (Sm.outK 1 us us.length).1 := by unfold Sm.outW; rw [if_neg h0]
  rw [w1, w2]
  generalize Sm.outK (-1) us us.length = s at *
  generalize Sm.outK 1 us us.length = t at *
  obtain ⟨a, p⟩ := s
  obtain ⟨b, q⟩ := t
  have hcr := fun x y => cmp_range x y
  cases p
  · have f1 := e1.1 rfl
    cases q
    · have f2 := e2.1 rfl
      refine ⟨?_, .inr ⟨f1.2, ?_, ?_⟩⟩
      · intro i hi hni
        exfalso
        have hnone := f1.2
        unfold someK at hnone
        rw [List.any_eq_false] at hnone
        have hm : us.getD i 0 ∈ us.take us.length := by
          rw [List.mem_take_iff_getElem]
          refine ⟨i, by omega, ?_⟩
          rw [List.getD_eq_getElem?_getD, List.getElem?_eq_getElem (by omega)]
          rfl
        have := hnone _ hm
        rw [hni] at this
        simp at this
      · rw [f1.1]; decide +kernel
      · rw [f2.1]; decide +kernel
    · have f2 := e2.2 rfl
      rw [f1.2] at f2
      exact absurd f2.2.1 (by simp)
  · have f1 := e1.2 rfl
    cases q
    · have f2 := e2.1 rfl
      rw [f2.2] at f1
      exact absurd f1.2.1 (by simp)
    · have f2 := e2.2 rfl
      refine ⟨?_, .inl ⟨f1.2.1, f1.2.2.1, f2.2.2.1⟩⟩
      intro i hi hni
      have g1 := f1.2.2.2 i hi hni
      have g2 := f2.2.2.2 i hi hni
      have r1 := hcr (us.getD i 0) a
      have r2 := hcr (us.getD i 0) b
      simp only at *
      rw [decide_eq_false_iff_not, decide_eq_false_iff_not]
      omega
end Go.Proofs.YtipkiiblghnoiaaGreatDoor.Re
