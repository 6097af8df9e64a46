/- Opening a slice of int32s. By an AI agent. -/
import Derived.Test.YtipkiiblghnoiaaGreatDoorOpen
namespace Go.Proofs.YtipkiiblghnoiaaGreatDoor
open Go.ChangeShapes Go.WideShapes Go.ChangeAt Go.RowKit
set_option linter.unusedVariables false
section
variable {H : Type} {enc : TypeId × Value → H} {P : Program}

/-- A slice of numbers with a sign: its numbers. -/
theorem open_ints {w : World} {base : Nat} {spare : Nat → Bool} {held : Bool} {t e : TypeId} {k : IntKind} {lo hi : Int} {v : Value} {d : DataW H} {p : List MemPlace}
    (ht : P.underlying t = some (.slice e)) (he : P.underlying e = some (.int k)) (hC : P.cellsOf e = 1) (hk : ∀ z, (Lit.int k z).wf = true → lo ≤ z ∧ z ≤ hi) (h0 : lo ≤ 0 ∧ 0 ≤ hi) (hv : v.cells.toList = [v])
    (h : DataW.Trod enc P w base spare held t v d p) :
    ∃ (o : Option Addr) (cap : Nat) (Z : List Int), v = .slice o Z.length cap ∧ (∀ i, i < Z.length → ∃ ad, o = some ad ∧ w.cell? (ad.add i) = some (.int k (Z.getD i 0))) ∧ (∀ i, lo ≤ Z.getD i 0 ∧ Z.getD i 0 ≤ hi) := by
  obtain ⟨fuel, hf⟩ := h
  rcases Go.Deep.open_slice1 ht hC hf with ⟨h1, h2⟩ | ⟨a, len, cap, m, n, V, D, Pl, hcs, hb, hl1, hm, hmm, hx, hi'⟩
  · rw [hv] at h1
    obtain rfl : v = .slice none 0 0 := by simpa using h1
    exact ⟨none, 0, [], rfl, fun i hi => absurd hi (by simp), fun i => by simpa using h0⟩
  · rw [hv] at hcs
    obtain rfl : v = .slice (some a) len cap := by simpa using hcs
    have hlm : len ≤ m := by subst hmm; split <;> omega
    have key : ∀ i, i < len → ∃ z : Int, V i = .int k z ∧ lo ≤ z ∧ z ≤ hi := by
      intro i hil
      obtain ⟨-, h2⟩ := hi' i (by omega)
      obtain ⟨z, h3, -, h4⟩ := DataW.trod_int he h2
      exact ⟨z, by simpa using h3, hk z h4⟩
    have hf2 : ∃ f : Nat → Int, ∀ i, i < len → V i = .int k (f i) ∧ lo ≤ f i ∧ f i ≤ hi := by
      classical
      refine ⟨fun i => if h : i < len then (key i h).choose else 0, fun i hil => ?_⟩
      simp only [hil, dite_true]
      exact (key i hil).choose_spec
    obtain ⟨f, hff⟩ := hf2
    have hg : ∀ i, i < len → ((List.range len).map f).getD i 0 = f i := fun i hil => by
      rw [List.getD_eq_getElem?_getD]; simp [hil]
    have hlen : ((List.range len).map f).length = len := by simp
    refine ⟨some a, cap, (List.range len).map f, by rw [hlen], fun i hil => ?_, fun i => ?_⟩
    · rw [hlen] at hil
      refine ⟨a, rfl, ?_⟩
      rw [hg i hil, ← (hff i hil).1]
      exact (hi' i (by omega)).1
    · rcases Nat.lt_or_ge i len with hil | hil
      · rw [hg i hil]; exact (hff i hil).2
      · rw [List.getD_eq_getElem?_getD, List.getElem?_eq_none (by omega)]; exact h0
end
end Go.Proofs.YtipkiiblghnoiaaGreatDoor
