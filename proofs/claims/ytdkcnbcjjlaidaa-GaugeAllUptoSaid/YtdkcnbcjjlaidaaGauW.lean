/- GaugeCells: a greater part has no lower rank. By an AI agent. -/
import Derived.Test.YtdkcnbcjjlaidaaGauF
import Derived.Test.YtdkcnbcjjlaidaaGauV
namespace Go.Proofs.Ytdkcnbcjjlaidaa
open Go.ChangeShapes Go.WideShapes Go.ChangeAt Go.RowKit
open Flt (U fv mag rung neg nan Near ceilW Num)
set_option linter.unusedVariables false

theorem write_mono {P : Nat} {d d' : Ieee.Datum} {s s' : Bool} {M M' : Nat} (h : Num P d s M) (h' : Num P d' s' M') (hP : 1074 ≤ P) (hM : M ≤ M') : rung (Ieee.double.write d) ≤ rung (Ieee.double.write d') := by
  obtain ⟨m, e, rfl, h1, rfl⟩ := h
  obtain ⟨m', e', rfl, h1', rfl⟩ := h'
  exact Flt.nearest_mono hP h1 h1' hM

/-- A part of n, as it may be. -/
structure Part (p : Nat) : Prop where
  ge : (FloatKind.f64.format.order p 0 == some .gt || FloatKind.f64.format.order p 0 == some .eq) = true
  le : (FloatKind.f64.format.order p 4607182418800017408 == some .lt || FloatKind.f64.format.order p 4607182418800017408 == some .eq) = true

theorem Part.val {p : Nat} (h : Part p) : Flt.Fin p ∧ fv p = (mag (rung p) : Int) ∧ mag (rung p) ≤ U := by
  obtain ⟨n1, -, a⟩ := Flt.ge_yes h.ge
  obtain ⟨-, -, b⟩ := Flt.le_yes h.le
  rw [Flt.zero_fin.2] at a
  rw [Flt.one_fin.2.1] at b
  obtain ⟨R, r1, r2⟩ := Flt.rep_U (k := 1) (by omega)
  rw [Nat.one_mul] at r2
  have hU := Flt.U_pos
  have hf : Flt.Fin p := Flt.fin_of n1 (B := R) (by rw [r2]; omega) (by rw [r2]; exact b) r1
  have e : fv p = (mag (rung p) : Int) := by
    unfold fv Flt.sv at a ⊢
    split at a
    · rename_i hs
      rw [if_pos hs]
      omega
    · rename_i hs
      rw [if_neg hs]
  exact ⟨hf, e, by rw [e] at b; omega⟩

theorem part_mul {p n : Nat} (h : Part p) (hn : n ≤ 2 ^ 20) : ∃ m D s, floatBits .mul .f64 p (floatOfInt .f64 (n : Int)) = some m ∧ m = Ieee.double.write D ∧ Num 2148 D s (mag (rung p) * (n * U)) ∧ Flt.Fin m ∧ fv m = (mag (rung m) : Int) ∧ mag (rung m) ≤ n * U := by
  obtain ⟨f1, f2, f3⟩ := h.val
  have g := Flt.ofInt_fin (n := n) (by omega)
  have hm : mag (rung (floatOfInt .f64 (n : Int))) = n * U := by
    have a := g.2.1
    unfold fv at a
    rw [g.2.2.1] at a
    have : ((mag (rung (floatOfInt .f64 (n : Int))) : Nat) : Int) = ((n * U : Nat) : Int) := by
      rw [Int.natCast_mul]; exact a
    exact Int.ofNat_inj.1 this
  obtain ⟨D, h1, h2⟩ := Flt.prod_num (Flt.read_num f1) (Flt.read_num g.1)
  rw [hm] at h2
  have hq : floatBits .mul .f64 p (floatOfInt .f64 (n : Int)) = some (Ieee.double.write D) := by
    show ((Ieee.double.read _).product (Ieee.double.read _)).map Ieee.double.write = _
    rw [h1]; rfl
  have nw := Flt.write_near h2 (by omega)
  obtain ⟨R, r1, r2⟩ := Flt.rep_U (k := n) (by omega)
  have hle : rung (Ieee.double.write D) ≤ R := nw.leU rfl (by
    rw [r2, Nat.mul_comm]
    exact Nat.mul_le_mul_left _ f3)
  refine ⟨_, D, _, hq, rfl, h2, Nat.lt_of_le_of_lt hle r1, ?_, by rw [← r2]; exact Flt.mag_le hle⟩
  have hs := nw.neg
  by_cases hz : mag (rung p) = 0
  · rw [hz, Nat.zero_mul] at nw
    have h0 : rung (Ieee.double.write D) ≤ 0 := nw.le (by rw [Flt.mag_zero]; omega)
    have h0' : rung (Ieee.double.write D) = 0 := by omega
    unfold fv Flt.sv
    rw [h0', Flt.mag_zero]
    split <;> simp
  · have hneg : neg p = false := by
      cases hn : neg p with
      | false => rfl
      | true =>
        exfalso
        unfold fv Flt.sv at f2
        rw [hn, if_pos rfl] at f2
        omega
    rw [hneg, g.2.2.1] at hs
    unfold fv
    rw [hs]
    rfl

theorem rank_rise {p q n : Nat} (hp : Part p) (hq : Part q) (h : fv p ≤ fv q) (h1 : 1 ≤ n) (hn : n ≤ 2 ^ 20) :
    ∃ m m', floatBits .mul .f64 p (floatOfInt .f64 (n : Int)) = some m ∧ floatBits .mul .f64 q (floatOfInt .f64 (n : Int)) = some m' ∧ Flt.Fin m ∧ Flt.Fin m' ∧ 0 ≤ fv m ∧ 0 ≤ fv m' ∧
      1 ≤ rankV m n ∧ rankV m n ≤ rankV m' n ∧ rankV m' n ≤ n := by
  obtain ⟨m, D, s, a1, a2, a3, a4, a5, a6⟩ := part_mul hp hn
  obtain ⟨m', D', s', b1, b2, b3, b4, b5, b6⟩ := part_mul hq hn
  have hpq : mag (rung p) ≤ mag (rung q) := by
    rw [hp.val.2.1, hq.val.2.1] at h
    omega
  have hr : rung m ≤ rung m' := by
    rw [a2, b2]
    exact write_mono a3 b3 (by omega) (Nat.mul_le_mul_right _ hpq)
  have hmm : fv m ≤ fv m' := by
    rw [a5, b5]
    have := Flt.mag_le hr
    omega
  have hU := Flt.U_pos
  obtain ⟨-, N, c1, c2, c3⟩ := Flt.ceil_fin a4
  obtain ⟨-, N', d1, d2, d3⟩ := Flt.ceil_fin b4
  have e1 : fv (ceilW m) / U = N := by rw [c1]; exact Int.mul_ediv_cancel _ (by omega)
  have e2 : fv (ceilW m') / U = N' := by rw [d1]; exact Int.mul_ediv_cancel _ (by omega)
  have hN : N ≤ N' := by
    refine Int.not_lt.1 fun hx => ?_
    have k : (N' + 1) * U ≤ N * U := Int.mul_le_mul_of_nonneg_right (by omega) (by omega)
    rw [Int.add_mul, Int.one_mul] at k
    omega
  refine ⟨m, m', a1, b1, a4, b4, by rw [a5]; omega, by rw [b5]; omega, ?_⟩
  unfold rankV
  rw [e1, e2]
  refine ⟨?_, ?_, ?_⟩
  · split <;> omega
  · split <;> split <;> omega
  · split <;> omega
end Go.Proofs.Ytdkcnbcjjlaidaa
