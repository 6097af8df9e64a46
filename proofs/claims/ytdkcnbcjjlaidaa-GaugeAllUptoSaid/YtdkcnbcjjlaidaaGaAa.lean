/- GaugeAll, plain: a number's cell is the first bound at or above it. By an AI agent. -/
import Derived.Test.YtdkcnbcjjlaidaaGauU
namespace Go.Proofs.Ytdkcnbcjjlaidaa
open Go.ChangeShapes Go.WideShapes Go.ChangeAt Go.RowKit
set_option linter.unusedVariables false

theorem srch_first {bs : List Nat} (h : Rises bs) (v : Nat) : ∀ n a b, b ≤ bs.length → a ≤ b → b - a ≤ n → (∀ k, k < a → leF bs v k = false) → (b < bs.length → leF bs v b = true) →
    (∀ k, k < srch (leF bs v) n a b → leF bs v k = false) ∧ (srch (leF bs v) n a b < bs.length → leF bs v (srch (leF bs v) n a b) = true) := by
  intro n
  induction n with
  | zero =>
    intro a b hb hab hn hlo hhi
    have : a = b := by omega
    subst this
    exact ⟨hlo, hhi⟩
  | succ n ih =>
    intro a b hb hab hn hlo hhi
    unfold srch
    by_cases hlt : a < b
    · rw [if_pos hlt]
      by_cases hf : leF bs v ((a + b) / 2) = true
      · rw [if_pos hf]
        exact ih a ((a + b) / 2) (by omega) (by omega) (by omega) hlo (fun _ => hf)
      · rw [if_neg hf]
        refine ih ((a + b) / 2 + 1) b hb (by omega) (by omega) (fun k' hk' => ?_) hhi
        cases hfk : leF bs v k' with
        | false => rfl
        | true =>
          exfalso
          apply hf
          unfold leF at hfk ⊢
          rw [decide_eq_true_eq, cmp_le] at hfk ⊢
          rcases Nat.lt_or_ge k' ((a + b) / 2) with h1 | h1
          · have := h k' ((a + b) / 2) h1 (by omega)
            omega
          · have : k' = (a + b) / 2 := by omega
            rw [← this]; exact hfk
    · rw [if_neg hlt]
      have : a = b := by omega
      subst this
      exact ⟨hlo, hhi⟩

/-- The cell of a number: the first bound at or above it, or the last cell. -/
theorem cell_first {bs : List Nat} (h : Rises bs) (v : Nat) : (∀ k, k < cellIx bs v → keyF (bs.getD k 0) < keyF v) ∧ (cellIx bs v < bs.length → keyF v ≤ keyF (bs.getD (cellIx bs v) 0)) := by
  obtain ⟨a, b⟩ := srch_first h v bs.length 0 bs.length (Nat.le_refl _) (Nat.zero_le _) (by omega) (fun k hk => absurd hk (by omega)) (fun hk => absurd hk (by omega))
  refine ⟨fun k hk => ?_, fun hk => ?_⟩
  · have := of_decide_eq_false (a k hk)
    rw [cmp_le] at this
    omega
  · have := of_decide_eq_true (b hk)
    rw [cmp_le] at this
    exact this

/-- The place where a search from the front stands still is the cell. -/
theorem cell_is {bs : List Nat} (h : Rises bs) (v i : Nat) (hi : i ≤ bs.length) (h1 : ∀ k, k < i → keyF (bs.getD k 0) < keyF v) (h2 : i < bs.length → keyF v ≤ keyF (bs.getD i 0)) : i = cellIx bs v := by
  obtain ⟨a, b⟩ := cell_first h v
  have hc := cell_lt bs v
  rcases Nat.lt_trichotomy i (cellIx bs v) with e | e | e
  · have c := a i e
    have d := h2 (by omega)
    omega
  · exact e
  · have c := h1 _ e
    have d := b (by omega)
    omega
end Go.Proofs.Ytdkcnbcjjlaidaa
