/- Rows of floats carried to a later world. By an AI agent. -/
import Derived.Test.YtipkiiblghnoiaaGreatDoorReI
import Derived.Test.YtipkiiblghnoiaaGreatDoorApp
namespace Go.Proofs.YtipkiiblghnoiaaGreatDoor
open Go.ChangeShapes Go.WideShapes Go.ChangeAt Go.RowKit
open Bt
set_option linter.unusedVariables false

theorem fls_keep0 {w w' : World} {o : Option Addr} {us : List Nat} (h : Fls w o us) (k : Below w.heap.size w w') : Fls w' o us := by
  intro i hi
  obtain ⟨ad, ho, hc⟩ := h i hi
  exact ⟨ad, ho, (k.cell (cell_in hc)).trans hc⟩
theorem u64s_keep {w w' : World} {o : Option Addr} {us : List Nat} (h : U64s w o us) (k : Below w.heap.size w w') : U64s w' o us := by
  intro i hi
  obtain ⟨ad, ho, hc⟩ := h i hi
  exact ⟨ad, ho, (k.cell (cell_in hc)).trans hc⟩
theorem f64_cells {us : List Nat} {o : Option Addr} {w : World} (h : Fls w o us) : ∀ j u, (f64s us)[j]? = some u → ∃ ad, o = some ad ∧ w.cell? (ad.add j) = some u := by
  intro j u hj
  have hl : j < us.length := by
    have := (List.getElem?_eq_some_iff.1 hj).1
    rwa [f64s_length] at this
  rw [f64s_get us j hl] at hj
  cases hj
  exact h j hl
theorem f64_one {us : List Nat} : ∀ u ∈ f64s us, u.oneCell' = true := by
  intro u hu
  obtain ⟨n, -, rfl⟩ := List.mem_map.1 hu
  rfl
theorem add_at (g n : Nat) : (⟨g, 0, none⟩ : Addr).add n = ⟨g, n, none⟩ := by
  by_cases h : n = 0
  · subst h; simp [Addr.add]
  · simp [Addr.add, h]
/-- The row that Of returns, opened. -/
theorem of_open (o : Option Addr) (us : List Nat) (cap : Nat) (w : World) (hF : U64s w o us) (hn : us.length ≤ 2000000) :
    Calls Tryz.prog 10 #[.slice o us.length cap] w fun e w' => ∃ o2 cap2, e = .returned (.slice o2 us.length cap2) ∧ Fls w' o2 us ∧ (o2 = none → cap2 = 0) ∧ w'.ownsRow w.heap.size 26 1 (.slice o2 us.length cap2) us.length (f64s us) ∧ Below w.heap.size w w' := by
  refine (of_any o us cap w hF hn).mono ?_
  rintro e w' ⟨v, rfl, hown, hb⟩
  obtain ⟨o2, cap2, rfl, hfl⟩ := fls_of hown
  refine ⟨o2, cap2, rfl, hfl, fun h => ?_, hown, hb⟩
  rcases hown.2 with ⟨hv, -⟩ | ⟨g, cap, cells, hv, -⟩
  · injection hv with _ _ h3
  · injection hv with h1
    rw [h] at h1; cases h1
theorem lt_take {us : List Nat} {M : Nat} (hu : ∀ i, us.getD i 0 < M) : ∀ i, us.getD i 0 < M := hu
end Go.Proofs.YtipkiiblghnoiaaGreatDoor
