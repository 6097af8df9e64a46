/- Quantiles that are refused, the program's and the reference's. By an AI agent. -/
import Derived.Test.YtdkcnbcjjlaidaaGaAg
namespace Go.Proofs.Ytdkcnbcjjlaidaa
open Go.ChangeShapes Go.WideShapes Go.ChangeAt Go.RowKit
open Flt (U fv mag rung)
set_option linter.unusedVariables false

/-- Not a part. -/
def NotPart (q : Nat) : Prop := (FloatKind.f64.format.order q 0 == some .gt || FloatKind.f64.format.order q 0 == some .eq) = false ∨ ((FloatKind.f64.format.order q 0 == some .gt || FloatKind.f64.format.order q 0 == some .eq) = true ∧ (FloatKind.f64.format.order q 4607182418800017408 == some .lt || FloatKind.f64.format.order q 4607182418800017408 == some .eq) = false)

theorem quant_out {w : World} {g base : Nat} {ob : Option Addr} {cb c : Nat} {x : G} (h : GAt w g base ob cb c x) (q : Nat) (hq : NotPart q) :
    Calls Try.prog 17 #[.pointer (some ⟨g, 0, none⟩), .float .f64 q] w fun e w' => e = .returned (.tuple #[.float .f64 0, .int .i64 1]) ∧ w = w' := by
  obtain ⟨q0, -, -, -, -, -, -, -⟩ := gcell_facts h
  clear h
  rcases hq with g1 | ⟨g1, g2⟩
  all_goals go_enter Try.func17, Try.ntmps17
  all_goals go_wp2_with fail
  all_goals refine (there_any _ _ q0).mono ?_
  all_goals rintro e w' ⟨rfl, rfl⟩
  all_goals go_wp2_with fail
  all_goals go_ret2
  all_goals exact ⟨rfl, rfl⟩

theorem quant_zero {w : World} {g base : Nat} {ob : Option Addr} {cb c : Nat} {x : G} (h : GAt w g base ob cb c x) (hn : x.n = 0) (q : Nat)
    (g1 : (FloatKind.f64.format.order q 0 == some .gt || FloatKind.f64.format.order q 0 == some .eq) = true) (g2 : (FloatKind.f64.format.order q 4607182418800017408 == some .lt || FloatKind.f64.format.order q 4607182418800017408 == some .eq) = true) :
    Calls Try.prog 17 #[.pointer (some ⟨g, 0, none⟩), .float .f64 q] w fun e w' => e = .returned (.tuple #[.float .f64 0, .int .i64 6]) ∧ w = w' := by
  obtain ⟨q0, q1, q2, q3, q4, q5, q6, q7⟩ := gcell_facts h
  rw [hn] at q3
  clear h
  go_enter Try.func17, Try.ntmps17
  go_wp2_with fail
  refine (there_any _ _ q0).mono ?_
  rintro e w' ⟨rfl, rfl⟩
  go_wp2_with fail
  go_ret2
  exact ⟨rfl, rfl⟩

theorem rquant_out (a : Option Addr) (q : Nat) (hq : NotPart q) (w : World) :
    Calls Try.prog 40 #[.pointer a, .float .f64 q] w fun e w' => e = .returned (.tuple #[.float .f64 0, .int .i64 1]) ∧ w = w' := by
  rcases hq with g1 | ⟨g1, g2⟩
  all_goals go_enter Try.func40, Try.ntmps40
  all_goals go_wp2_with fail
  all_goals go_ret2
  all_goals exact ⟨rfl, rfl⟩

theorem rquant_zero {w : World} {g base : Nat} {ob : Option Addr} {cb c : Nat} {x : G} (h : RAt w g base ob cb c x) (hn : x.n = 0) (q : Nat)
    (g1 : (FloatKind.f64.format.order q 0 == some .gt || FloatKind.f64.format.order q 0 == some .eq) = true) (g2 : (FloatKind.f64.format.order q 4607182418800017408 == some .lt || FloatKind.f64.format.order q 4607182418800017408 == some .eq) = true) :
    Calls Try.prog 40 #[.pointer (some ⟨g, 0, none⟩), .float .f64 q] w fun e w' => e = .returned (.tuple #[.float .f64 0, .int .i64 6]) ∧ w = w' := by
  obtain ⟨q0, q1, q2, q3, q4, q5, q6⟩ := rcell_facts h
  rw [hn] at q2
  clear h
  go_enter Try.func40, Try.ntmps40
  go_wp2_with fail
  go_ret2
  exact ⟨rfl, rfl⟩

/-- Both quantiles, of any number: the same. -/
theorem both_quant {x : G} (hx : Calm x) (hn : x.n ≤ 2 ^ 20) (q : Nat) : ∃ v : Nat, ∃ e : Int,
    (∀ {w : World} {g base : Nat} {ob : Option Addr} {cb c : Nat}, GAt w g base ob cb c x → Calls Try.prog 17 #[.pointer (some ⟨g, 0, none⟩), .float .f64 q] w fun r w' => r = .returned (.tuple #[.float .f64 v, .int .i64 e]) ∧ w = w') ∧
    (∀ {w : World} {g base : Nat} {ob : Option Addr} {cb c : Nat}, RAt w g base ob cb c x → Calls Try.prog 40 #[.pointer (some ⟨g, 0, none⟩), .float .f64 q] w fun r w' => r = .returned (.tuple #[.float .f64 v, .int .i64 e]) ∧ w = w') := by
  by_cases hp : NotPart q
  · exact ⟨0, 1, fun h => quant_out h q hp, fun h => rquant_out _ q hp _⟩
  have hp' : Part q := by
    unfold NotPart at hp
    rw [not_or] at hp
    have a : (FloatKind.f64.format.order q 0 == some .gt || FloatKind.f64.format.order q 0 == some .eq) = true := by
      have := hp.1
      rwa [Bool.not_eq_false] at this
    refine ⟨a, ?_⟩
    exact Bool.of_not_eq_false fun k => hp.2 ⟨a, k⟩
  by_cases h0 : x.n = 0
  · exact ⟨0, 6, fun h => quant_zero h h0 q hp'.ge hp'.le, fun h => rquant_zero h h0 q hp'.ge hp'.le⟩
  obtain ⟨n, hnn⟩ : ∃ n : Nat, x.n = n := Int.eq_ofNat_of_zero_le hx.n0
  have hU := Flt.U_pos
  obtain ⟨m, D, s, a1, a2, a3, a4, a5, a6⟩ := part_mul hp' (n := n) (by omega)
  have b0 : 0 ≤ fv m := by rw [a5]; omega
  have b1 : fv m ≤ (n : Int) * U := by rw [a5, ← Int.natCast_mul]; exact Int.ofNat_le.2 a6
  obtain ⟨T, hT, hi, b, hb, hrk⟩ := trunc_ceil a4 b0 b1 (by omega) (by omega)
  have r1 : 1 ≤ rankV m n := by rw [hrk]; omega
  have r2 : rankV m n ≤ n := by rw [hrk]; omega
  exact ⟨_, 0, fun h => quant_ok h hx q n m hnn (by omega) _ hp'.ge hp'.le a1 a4 b0 rfl r1 r2, fun h => rquant_ok h hx q n m hnn (by omega) _ hp'.ge hp'.le a1 a4 b0 b1 rfl r1 r2⟩
end Go.Proofs.Ytdkcnbcjjlaidaa
