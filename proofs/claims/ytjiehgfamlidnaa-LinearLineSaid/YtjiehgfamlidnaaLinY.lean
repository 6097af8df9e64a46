/- Package linear: what the statements ask of data; the plain law of the first order. By an AI agent. -/
import Derived.Test.YtjiehgfamlidnaaLinE
namespace Go.Proofs.Ytjiehgfamlidnaa.Lin
open Go.ChangeShapes Go.WideShapes Go.ChangeAt Go.RowKit
open Md
set_option linter.unusedVariables false
set_option linter.unusedSimpArgs false

set_option maxRecDepth 100000 in
set_option maxHeartbeats 8000000 in
theorem small_any (o : Option Addr) (ps : List Past) (cap : Nat) (w : World) (hP : Ps w o ps) (hn : ps.length ≤ 9223372036854775807) :
    Calls Try.prog 13 #[.slice o ps.length cap] w fun e w' => ∃ b, e = .returned (.bool b) ∧ (b = true → ps.length ≤ 30) ∧ w' = w := by
  have HP := Lib.hid hP
  clear hP
  refine (show ∀ Q : Ending → World → Prop, (∀ e w', (∃ b, e = .returned (.bool b) ∧ (b = true → ps.length ≤ 30) ∧ w' = w) → Q e w') → Calls Try.prog 13 #[.slice o ps.length cap] w Q from ?_) _ (fun _ _ h => h)
  intro Q hQ
  have HQ := Lib.hid hQ
  clear hQ
  generalize hl : ps.length = n at *
  have HL := Lib.hid hl
  clear hl
  go_enter Try.func13, Try.ntmps13
  go_wp2_with fail
  go_loopg [3] n (fun gq i wr => ∃ k : Nat, gq + k = n ∧ i = .int .i64 (k : Int) ∧ wr = w)
  case atStart => exact ⟨0, by omega, rfl, rfl⟩
  case round =>
    obtain ⟨k, hgk, rfl, rfl⟩ := hrel
    by_cases hk : k < n
    · obtain ⟨ab, ao, rfl, od, cd, ord, crd, hps, q0, q1, q2, q3, q4, q5, q6, q7⟩ := HP.out.at k (by rw [HL.out]; exact hk)
      generalize (ps.getD k zP).D.length = nd at *
      generalize (ps.getD k zP).R.length = nr at *
      clear hps q0 q1 q3 q4 q6 q7
      by_cases h1 : (5000 : Int) < (nd : Int)
      · have d1 : decide ((nd : Int) > 5000) = true := by simpa using h1
        go_wp2_with fail
        exact HQ.out _ _ ⟨false, rfl, (fun h => by cases h), rfl⟩
      · have d1 : decide ((nd : Int) > 5000) = false := by simpa using h1
        by_cases h2 : (5000 : Int) < (nr : Int)
        · have d2 : decide ((nr : Int) > 5000) = true := by simpa using h2
          go_wp2_with fail
          exact HQ.out _ _ ⟨false, rfl, (fun h => by cases h), rfl⟩
        · have d2 : decide ((nr : Int) > 5000) = false := by simpa using h2
          go_wp2_with fail
          go_roundg (gk - 1)
          all_goals first | omega | exact ⟨k + 1, by omega, rfl, rfl⟩
    · obtain rfl : k = n := by omega
      go_wp2_with fail
      exact HQ.out _ _ ⟨decide ((k : Int) ≤ 30), rfl, (fun h => by have := of_decide_eq_true h; omega), rfl⟩

/-! ### the plain law -/
theorem lex_at : ∀ {l lo : List Nat} {k : Nat}, lexle l lo → (∀ j, j < k → l[j]? = lo[j]?) → k < l.length → k < lo.length ∧ l.getD k 0 ≤ lo.getD k 0
  | a :: l, [], 0, h, _, _ => h.elim
  | a :: l, b :: lo, 0, h, _, _ => by
    refine ⟨by simp, ?_⟩
    rcases h with h | ⟨rfl, -⟩
    · simpa using Nat.le_of_lt h
    · exact Nat.le_refl _
  | a :: l, [], k + 1, h, hp, _ => h.elim
  | a :: l, b :: lo, k + 1, h, hp, hk => by
    have e : a = b := by simpa using hp 0 (by omega)
    subst e
    have h' : lexle l lo := by
      rcases h with h | ⟨-, h⟩
      · exact absurd h (Nat.lt_irrefl _)
      · exact h
    have := lex_at h' (k := k) (fun j hj => by simpa using hp (j + 1) (by omega)) (by simpa using hk)
    simpa using this

/-- How many of the first k were done. -/
def doneN (ps : List Past) (k : Nat) : Nat := ((List.range k).filter fun i => decide ((ps.getD i zP).en ≠ 0)).length
theorem doneN_succ (ps : List Past) (k : Nat) : doneN ps (k + 1) = doneN ps k + if (ps.getD k zP).en = 0 then 0 else 1 := by
  unfold doneN
  rw [List.range_succ, List.filter_append, List.length_append]
  congr 1
  by_cases h : (ps.getD k zP).en = 0
  · rw [if_pos h]
    simp only [List.filter_cons, List.filter_nil, h, ne_eq, not_true_eq_false, decide_false, Bool.false_eq_true, if_false, List.length_nil]
  · rw [if_neg h]
    simp only [List.filter_cons, List.filter_nil, h, ne_eq, not_false_eq_true, decide_true, if_true, List.length_cons, List.length_nil]
theorem doneN_le (ps : List Past) (k : Nat) : doneN ps k ≤ k := by
  unfold doneN
  have := List.length_filter_le (fun i => decide ((ps.getD i zP).en ≠ 0)) (List.range k)
  simpa using this
theorem done_len {ps : List Past} {base : Int} {l : List Nat} {d : Nd} (hc : Chain ps (nd0 base) l d) (hd : Done ps d) : doneN ps ps.length ≤ l.length := by
  obtain ⟨b1, b2, b3⟩ := hc.bits
  have hp : ((List.range ps.length).filter fun i => decide ((ps.getD i zP).en ≠ 0)).Perm (l.filter fun i => decide (i < ps.length) && decide ((ps.getD i zP).en ≠ 0)) := by
    refine (List.perm_ext_iff_of_nodup (List.nodup_range.filter _) (b2.filter _)).2 fun j => ?_
    simp only [List.mem_filter, List.mem_range, Bool.and_eq_true, decide_eq_true_eq]
    constructor
    · rintro ⟨h1, h2⟩
      have := hd j (by unfold allOf; rw [mask_bit, Bool.and_eq_true, decide_eq_true_eq, decide_eq_true_eq]; exact ⟨h1, h2⟩)
      rw [b1] at this
      simp [nd0] at this
      exact ⟨this, h1, h2⟩
    · rintro ⟨-, h1, h2⟩
      exact ⟨h1, h2⟩
  unfold doneN
  rw [hp.length_eq]
  exact List.length_filter_le _ _
end Go.Proofs.Ytjiehgfamlidnaa.Lin
