/- The model package: Apply, Half, New. By an AI agent. -/
import Derived.Test.YtjiehgfamlidnaaModK
namespace Go.Proofs.Ytjiehgfamlidnaa
open Go.ChangeShapes Go.WideShapes Go.ChangeAt Go.RowKit
set_option linter.unusedVariables false
namespace Md

theorem add_len {s s' : S} {lsn : Int} {n : Nat} (h : addS s lsn n = some s') : n ≤ 4096 ∧ s' = { s with next := s.next + 1 } ∧ s.next < 9223372036854775807 ∧ lsn = s.next ∧ s.failed = false ∧ s.closed = false := by
  unfold addS at h
  split at h
  · split at h
    · rename_i h1 h2
      obtain ⟨h3, h4, h5⟩ := h2
      subst h4
      simp at h1 h
      exact ⟨h3, h.symm, h5, rfl, h1.1, h1.2⟩
    · cases h
  · cases h

theorem app_len {s s' : S} {kind err lsn : Int} {n : Nat} (h : appS s kind err lsn n = some (s', true)) : n ≤ 4096 := by
  unfold appS at h
  split at h
  · split at h
    · rcases hq : addS s lsn n with _ | t
      · rw [hq] at h; cases h
      · exact (add_len hq).1
    · cases h
  split at h
  · split at h
    · cases h
    · rcases hq : addS s lsn n with _ | t
      · rw [hq] at h; cases h
      · exact (add_len hq).1
  split at h
  · split at h
    · split at h <;> cases h
    · cases h
  · cases h

/-- The records are as they were, or one more. -/
def Grown (bs : List (List Nat)) (D : List Nat) (bs' : List (List Nat)) : Prop := bs' = bs ∨ (bs' = bs ++ [D] ∧ D.length ≤ 4096)

theorem recsOf_grown {s' : S} {bs bs' : List (List Nat)} {D : List Nat} {s : S} {kind err lsn : Int} (h : recsOf bs D (appS s kind err lsn D.length) = some (s', bs')) : Grown bs D bs' := by
  unfold recsOf at h
  rcases hq : appS s kind err lsn D.length with _ | ⟨t, b⟩
  · rw [hq] at h; cases h
  · rw [hq] at h
    simp only [Option.map_some, Option.some.injEq, Prod.mk.injEq] at h
    cases b with
    | false => exact Or.inl (by rw [← h.2]; rfl)
    | true => exact Or.inr ⟨by rw [← h.2]; rfl, app_len hq⟩
theorem map_grown {o : Option S} {s' : S} {bs bs' : List (List Nat)} {D : List Nat} (h : (o.map fun s' => (s', bs)) = some (s', bs')) : Grown bs D bs' := by
  cases o with
  | none => cases h
  | some t =>
    simp only [Option.map_some, Option.some.injEq, Prod.mk.injEq] at h
    exact Or.inl h.2.symm

theorem ans_grown {s s' : S} {bs bs' : List (List Nat)} {kind cl err lsn : Int} {D R : List Nat} (h : ansS s bs kind cl D err lsn R = some (s', bs')) : Grown bs D bs' := by
  unfold ansS at h
  split at h
  · split at h
    · exact map_grown h
    split at h
    · exact recsOf_grown h
    split at h
    · exact map_grown h
    split at h
    · exact map_grown h
    · exact map_grown h
  · cases h

theorem apply_grown {s s' : S} {bs bs' : List (List Nat)} {kind cl err lsn : Int} {D R : List Nat} (h : applyS s bs kind cl D err lsn R = some (s', bs')) : Grown bs D bs' := by
  unfold applyS at h
  split at h
  · split at h
    · cases h; exact Or.inl rfl
    · cases h
  split at h
  · cases h
  · exact ans_grown h

theorem half_grown {s s' : S} {bs bs' : List (List Nat)} {kind cl : Int} {D : List Nat} (h : halfS s bs kind cl D = some (s', bs')) : Grown bs D bs' := by
  unfold halfS at h
  split at h
  · rcases hq : addS s s.next D.length with _ | t
    · rw [hq] at h; cases h
    · rw [hq] at h
      simp only [Option.map_some, Option.some.injEq, Prod.mk.injEq] at h
      exact Or.inr ⟨h.2.symm, (add_len hq).1⟩
  split at h
  · split at h
    · cases h
    · exact map_grown h
  split at h
  · split at h
    · cases h
    · cases h; exact Or.inl rfl
  · cases h

theorem short_grown {bs bs' : List (List Nat)} {D : List Nat} (h : Grown bs D bs') (hs : ∀ i, (bs.getD i []).length ≤ 4096) : ∀ i, (bs'.getD i []).length ≤ 4096 := by
  intro i
  rcases h with rfl | ⟨rfl, hD⟩
  · exact hs i
  · rcases Nat.lt_or_ge i bs.length with h | h
    · rw [List.getD_eq_getElem?_getD, List.getElem?_append_left h, ← List.getD_eq_getElem?_getD]; exact hs i
    · rw [List.getD_eq_getElem?_getD, List.getElem?_append_right h]
      cases hi : i - bs.length with
      | zero => simpa using hD
      | succ j => simp

theorem enter_apply1 (args : Array Value) (w : World) : (callFunc 23 args).run Try.prog w = .ok (.enter 23 args) w := by kernel_rfl
theorem enter_half1 (args : Array Value) (w : World) : (callFunc 19 args).run Try.prog w = .ok (.enter 19 args) w := by kernel_rfl

end Md
end Go.Proofs.Ytjiehgfamlidnaa
