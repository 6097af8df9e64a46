/- The model package, in plain Lean: the order of each state that comes. By an AI agent. -/
import Derived.Test.YtjiehgfamlidnaaModN
namespace Go.Proofs.Ytjiehgfamlidnaa
open Go.ChangeShapes Go.WideShapes Go.ChangeAt Go.RowKit
set_option linter.unusedVariables false
namespace Md

/-- What may come behind a state. -/
structure Ord (s s' : S) (n n' : Nat) : Prop where
  inv : Inv s' n'
  base : s'.base = s.base
  first : s.first ≤ s'.first
  dur : s.durable ≤ s'.durable
  next : s.next ≤ s'.next
  limit : s'.limit ≤ s.limit
  failed : s.failed = true → s'.failed = true
  closed : s.closed = true → s'.closed = true

theorem Ord.refl {s : S} {n : Nat} (h : Inv s n) : Ord s s n n := ⟨h, rfl, Int.le_refl _, Int.le_refl _, Int.le_refl _, Int.le_refl _, id, id⟩

theorem sync_ord {s s' : S} {err lsn : Int} {n : Nat} (hI : Inv s n) (h : syncS s err lsn = some s') : Ord s s' n n := by
  unfold syncS at h
  split at h
  · split at h
    · split at h
      · cases h; exact Ord.refl hI
      · cases h
    split at h
    · cases h
      exact ⟨⟨hI.base, hI.first, hI.dur, hI.next, hI.limit, hI.recs, hI.top, hI.ltop⟩, rfl, Int.le_refl _, Int.le_refl _, Int.le_refl _, Int.le_refl _, fun _ => rfl, id⟩
    · cases h
  · cases h

theorem close_ord {s s' : S} {err lsn : Int} {n : Nat} (hI : Inv s n) (h : closeS s err lsn = some s') : Ord s s' n n := by
  unfold closeS at h
  rcases hq : syncS s err lsn with _ | t
  · rw [hq] at h; cases h
  · rw [hq] at h
    cases h
    obtain ⟨i, b, f, d, x, l, fa, cl⟩ := sync_ord hI hq
    exact ⟨⟨i.base, i.first, i.dur, i.next, i.limit, i.recs, i.top, i.ltop⟩, b, f, d, x, l, fa, fun _ => rfl⟩

theorem raise_ord {s s' : S} {m : Int} {n : Nat} (hI : Inv s n) (hm : m ≤ s.next) (h : raiseS s m = some s') : Ord s s' n n ∧ m ≤ s'.durable ∧ s'.first = s.first := by
  unfold raiseS at h
  split at h
  · rename_i hl
    cases h
    obtain ⟨h1, h2, h3, h4, h5, h6, h7, h8⟩ := hI
    refine ⟨⟨⟨h1, h2, ?_, ?_, ?_, h6, h7, h8⟩, rfl, Int.le_refl _, ?_, Int.le_refl _, Int.le_refl _, id, id⟩, ?_, rfl⟩
    all_goals simp only
    all_goals omega
  · cases h

theorem front_ord {s s' : S} {m : Int} {n : Nat} (hI : Inv s n) (hf : s.first < m) (h : frontS s m = some s') : Ord s s' n n := by
  unfold frontS at h
  split at h
  · rename_i hm
    rcases hq : raiseS s m with _ | t
    · rw [hq] at h; cases h
    · rw [hq] at h
      cases h
      obtain ⟨⟨i, b, f, d, x, l, fa, cl⟩, hd, hfe⟩ := raise_ord hI hm hq
      obtain ⟨h1, h2, h3, h4, h5, h6, h7, h8⟩ := i
      have := hI.first
      refine ⟨⟨h1, ?_, ?_, h4, h5, h6, h7, h8⟩, b, ?_, d, x, l, fa, cl⟩
      all_goals simp only
      all_goals omega
  · cases h

theorem Ord.fail {s s' : S} {n n' : Nat} (h : Ord s s' n n') : Ord s { s' with failed := true } n n' := by
  obtain ⟨i, b, f, d, x, l, fa, cl⟩ := h
  exact ⟨⟨i.base, i.first, i.dur, i.next, i.limit, i.recs, i.top, i.ltop⟩, b, f, d, x, l, fun _ => rfl, cl⟩

theorem trunc_ord {s s' : S} {cl err lsn : Int} {n : Nat} (hI : Inv s n) (h : truncS s cl err lsn = some s') : Ord s s' n n := by
  unfold truncS at h
  split at h
  · split at h
    · cases h; exact (Ord.refl hI).fail
    split at h
    · rename_i h1
      rcases hq : frontS s cl with _ | t
      · rw [hq] at h; cases h
      · rw [hq] at h
        cases h
        exact (front_ord hI h1.2 hq).fail
    · cases h
  split at h
  · split at h
    · split at h
      · split at h
        · rename_i h1
          exact front_ord hI h1 h
        · cases h; exact Ord.refl hI
      split at h
      · split at h
        · cases h; exact Ord.refl hI
        · cases h
      split at h
      · cases h; exact Ord.refl hI
      · cases h
    · cases h
  · cases h

theorem read_ord {s s' : S} {bs : List (List Nat)} {kind cl err lsn : Int} {R : List Nat} (hI : Inv s bs.length) (h : readS s bs kind cl err lsn R = some s') : Ord s s' bs.length bs.length := by
  unfold readS at h
  split at h
  · split at h
    · rename_i h1
      exact (raise_ord hI (by omega) h).1
    · cases h
  split at h
  · split at h
    · split at h
      · cases h; exact Ord.refl hI
      · cases h
    split at h
    · split at h
      · cases h; exact Ord.refl hI
      · cases h
    split at h
    · split at h
      · cases h; exact Ord.refl hI
      · cases h
    split at h
    · split at h
      · cases h; exact (Ord.refl hI).fail
      · cases h
    · cases h
  · cases h

theorem add_ord {s s' : S} {lsn : Int} {m n : Nat} (hI : Inv s n) (h : addS s lsn m = some s') : Ord s s' n (n + 1) := by
  obtain ⟨-, rfl, h2, -⟩ := add_len h
  obtain ⟨h1, h2', h3, h4, h5, h6, h7, h8⟩ := hI
  refine ⟨⟨h1, h2', h3, ?_, h5, ?_, ?_, h8⟩, rfl, Int.le_refl _, Int.le_refl _, ?_, Int.le_refl _, id, id⟩
  all_goals simp only
  all_goals omega

theorem app_ord {s s' : S} {kind err lsn : Int} {m n : Nat} {b : Bool} (hI : Inv s n) (h : appS s kind err lsn m = some (s', b)) : Ord s s' n (if b then n + 1 else n) := by
  unfold appS at h
  split at h
  · split at h
    · rcases hq : addS s lsn m with _ | t
      · rw [hq] at h; cases h
      · rw [hq] at h
        cases h
        exact add_ord hI hq
    · cases h
  split at h
  · split at h
    · cases h; exact (Ord.refl hI).fail
    · rcases hq : addS s lsn m with _ | t
      · rw [hq] at h; cases h
      · rw [hq] at h
        simp only at h
        split at h
        · rename_i h1
          cases h
          obtain ⟨i, b, f, d, x, l, fa, cl⟩ := add_ord hI hq
          obtain ⟨h1', h2', h3, h4, h5, h6, h7, h8⟩ := i
          refine ⟨⟨h1', h2', h3, h4, ?_, h6, h7, ?_⟩, b, f, d, x, ?_, fa, cl⟩
          all_goals simp only
          all_goals omega
        · cases h
  split at h
  · split at h
    · split at h
      · cases h; exact Ord.refl hI
      · cases h
    · cases h
  · cases h

theorem recsOf_ord {s s' : S} {bs bs' : List (List Nat)} {D : List Nat} {kind err lsn : Int} (hI : Inv s bs.length) (h : recsOf bs D (appS s kind err lsn D.length) = some (s', bs')) : Ord s s' bs.length bs'.length := by
  unfold recsOf at h
  rcases hq : appS s kind err lsn D.length with _ | ⟨t, b⟩
  · rw [hq] at h; cases h
  · rw [hq] at h
    simp only [Option.map_some, Option.some.injEq, Prod.mk.injEq] at h
    obtain ⟨rfl, rfl⟩ := h
    have := app_ord hI hq
    cases b with
    | false => exact this
    | true => simpa using this
theorem map_ord {o : Option S} {s s' : S} {bs bs' : List (List Nat)} (hI : ∀ t, o = some t → Ord s t bs.length bs.length) (h : (o.map fun s' => (s', bs)) = some (s', bs')) : Ord s s' bs.length bs'.length := by
  cases o with
  | none => cases h
  | some t =>
    simp only [Option.map_some, Option.some.injEq, Prod.mk.injEq] at h
    obtain ⟨rfl, rfl⟩ := h
    exact hI _ rfl

theorem ans_ord {s s' : S} {bs bs' : List (List Nat)} {kind cl err lsn : Int} {D R : List Nat} (hI : Inv s bs.length) (h : ansS s bs kind cl D err lsn R = some (s', bs')) : Ord s s' bs.length bs'.length := by
  unfold ansS at h
  split at h
  · split at h
    · exact map_ord (fun t ht => read_ord hI ht) h
    split at h
    · exact recsOf_ord hI h
    split at h
    · exact map_ord (fun t ht => trunc_ord hI ht) h
    split at h
    · exact map_ord (fun t ht => sync_ord hI ht) h
    · exact map_ord (fun t ht => close_ord hI ht) h
  · cases h

/-- THE ORDER, behind Apply. -/
theorem apply_ord {s s' : S} {bs bs' : List (List Nat)} {kind cl err lsn : Int} {D R : List Nat} (hI : Inv s bs.length) (h : applyF s bs kind cl D err lsn R = some (s', bs')) : Ord s s' bs.length bs'.length ∧ Grown bs D bs' := by
  unfold applyF at h
  split at h
  · refine ⟨?_, apply_grown h⟩
    unfold applyS at h
    split at h
    · split at h
      · cases h; exact Ord.refl hI
      · cases h
    split at h
    · cases h
    · exact ans_ord hI h
  · cases h

/-- THE ORDER, behind Half. -/
theorem half_ord {s s' : S} {bs bs' : List (List Nat)} {kind cl : Int} {D : List Nat} (hI : Inv s bs.length) (h : halfF s bs kind cl D = some (s', bs')) : Ord s s' bs.length bs'.length ∧ Grown bs D bs' := by
  unfold halfF at h
  split at h
  · refine ⟨?_, half_grown h⟩
    unfold halfS at h
    split at h
    · rcases hq : addS s s.next D.length with _ | t
      · rw [hq] at h; cases h
      · rw [hq] at h
        simp only [Option.map_some, Option.some.injEq, Prod.mk.injEq] at h
        obtain ⟨rfl, rfl⟩ := h
        simpa using add_ord hI hq
    split at h
    · split at h
      · cases h
      · exact map_ord (fun t ht => trunc_ord hI ht) h
    split at h
    · split at h
      · cases h
      · cases h
        exact ⟨⟨hI.base, hI.first, hI.dur, hI.next, hI.limit, hI.recs, hI.top, hI.ltop⟩, rfl, Int.le_refl _, Int.le_refl _, Int.le_refl _, Int.le_refl _, id, fun _ => rfl⟩
    · cases h
  · cases h

theorem new_inv {b : Int} (h : ¬ b < 1) (h2 : b ≤ 9223372036854775807) : Inv (newS b) 0 := by
  refine ⟨?_, Int.le_refl _, Int.le_refl _, Int.le_refl _, ?_, ?_, ?_, Int.le_refl _⟩ <;> simp only [newS] <;> omega
end Md
end Go.Proofs.Ytjiehgfamlidnaa
