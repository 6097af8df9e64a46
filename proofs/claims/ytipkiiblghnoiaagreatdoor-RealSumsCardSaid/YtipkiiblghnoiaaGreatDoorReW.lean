/- RealSums: rows, and the loops' laws. By an AI agent. -/
import Derived.Test.YtipkiiblghnoiaaGreatDoorReV
import Derived.Test.YtipkiiblghnoiaaGreatDoorNxA
import Derived.Test.YtipkiiblghnoiaaGreatDoorReK
import Derived.Test.YtipkiiblghnoiaaGreatDoorSumL
namespace Go.Proofs.YtipkiiblghnoiaaGreatDoor.realSums
open Go.ChangeShapes Go.WideShapes Go.ChangeAt Go.RowKit
open Bt Sm
set_option linter.unusedVariables false

/-- A row of int32s in memory. -/
def I32s (w : World) (o : Option Addr) (zs : List Int) : Prop := ∀ i, i < zs.length → ∃ ad, o = some ad ∧ w.cell? (ad.add i) = some (.int .i32 (zs.getD i 0))
theorem i32s_keep {w w' : World} {o : Option Addr} {zs : List Int} (h : I32s w o zs) (k : Below w.heap.size w w') : I32s w' o zs := by
  intro i hi
  obtain ⟨ad, ho, hc⟩ := h i hi
  exact ⟨ad, ho, (k.cell (cell_in hc)).trans hc⟩
theorem rev_take {us : List Nat} {k j : Nat} (h : j + k + 1 = us.length) : us.reverse.take (k + 1) = us.reverse.take k ++ [us.getD j 0] := by
  have hk : k < us.reverse.length := by rw [List.length_reverse]; omega
  rw [Sm.take_next hk]
  congr 2
  rw [List.getD_eq_getElem?_getD, List.getD_eq_getElem?_getD, List.getElem?_reverse (by omega)]
  congr 2
  omega
theorem int_take {zs : List Int} {k : Nat} (h : k < zs.length) : zs.take (k + 1) = zs.take k ++ [zs.getD k 0] := by
  rw [List.take_succ_eq_append_getElem h, List.getD_eq_getElem?_getD, List.getElem?_eq_getElem h]; rfl
theorem tot_take {zs : List Int} {k : Nat} (h : k < zs.length) : Rn.tot (zs.take (k + 1)) = Rn.tot (zs.take k) + zs.getD k 0 := by
  rw [int_take h]
  unfold Rn.tot
  rw [List.foldl_append]
  rfl
theorem tot_bound {zs : List Int} (hz : ∀ i, -2147483648 ≤ zs.getD i 0 ∧ zs.getD i 0 ≤ 2147483647) : ∀ k, k ≤ zs.length → -2147483648 * (k : Int) ≤ Rn.tot (zs.take k) ∧ Rn.tot (zs.take k) ≤ 2147483647 * (k : Int)
  | 0, _ => by simp [Rn.tot]
  | k + 1, h => by
    have ih := tot_bound hz k (by omega)
    have h1 := hz k
    rw [tot_take (by omega)]
    omega
theorem mem_bound {zs : List Int} (hz : ∀ i, -2147483648 ≤ zs.getD i 0 ∧ zs.getD i 0 ≤ 2147483647) : ∀ z ∈ zs, z.natAbs ≤ 2 ^ 53 := by
  intro z hm
  obtain ⟨i, hi, he⟩ := List.mem_iff_getElem.1 hm
  have := hz i
  rw [List.getD_eq_getElem?_getD, List.getElem?_eq_getElem hi] at this
  simp only [Option.getD_some] at this
  rw [he] at this
  omega
/-- A new block of one float, as a row that may grow. -/
theorem own_new (w : World) (base : Nat) (hb : base ≤ w.heap.size) (x : Nat) : (w.alloc (.cells #[.float .f64 x] 26)).ownsRow base 26 1 (.slice (some ⟨w.heap.size, 0, none⟩) 1 1) 1 (f64s [x]) :=
  ⟨rfl, Or.inr ⟨w.heap.size, 1, #[.float .f64 x], rfl, hb, blk_new _ _, Nat.le_refl _, by unfold maxLen; omega, rfl, rfl⟩⟩
theorem fls_one (w : World) (x : Nat) : Fls (w.alloc (.cells #[.float .f64 x] 26)) (some ⟨w.heap.size, 0, none⟩) [x] := by
  intro i hi
  obtain rfl : i = 0 := by simp at hi; omega
  refine ⟨_, rfl, ?_⟩
  rw [addr_add, Nat.zero_add, blk_cell (blk_new w _) 0]
  rfl
theorem fls_two (w : World) (x y : Nat) : Fls (w.alloc (.cells #[.float .f64 x, .float .f64 y] 26)) (some ⟨w.heap.size, 0, none⟩) [x, y] := by
  intro i hi
  refine ⟨_, rfl, ?_⟩
  rw [addr_add, Nat.zero_add, blk_cell (blk_new w _) i]
  match i, hi with
  | 0, _ => rfl
  | 1, _ => rfl
theorem lt_one {x : Nat} (h : x < 18446744073709551616) : ∀ i, [x].getD i 0 < 18446744073709551616 := by
  intro i
  match i with
  | 0 => exact h
  | n + 1 => show 0 < _; omega
theorem lt_two {x y : Nat} (h : x < 18446744073709551616) (h2 : y < 18446744073709551616) : ∀ i, [x, y].getD i 0 < 18446744073709551616 := by
  intro i
  match i with
  | 0 => exact h
  | 1 => exact h2
  | n + 2 => show 0 < _; omega
theorem lt_rev {us : List Nat} (h : ∀ i, us.getD i 0 < 18446744073709551616) : ∀ i, us.reverse.getD i 0 < 18446744073709551616 := by
  intro i
  rw [List.getD_eq_getElem?_getD]
  by_cases hi : i < us.length
  · rw [List.getElem?_reverse hi, ← List.getD_eq_getElem?_getD]; exact h _
  · rw [List.getElem?_eq_none (by rw [List.length_reverse]; omega)]; show 0 < _; omega
theorem lt_append {a b : List Nat} (ha : ∀ i, a.getD i 0 < 18446744073709551616) (hb : ∀ i, b.getD i 0 < 18446744073709551616) : ∀ i, (a ++ b).getD i 0 < 18446744073709551616 := by
  intro i
  rw [List.getD_eq_getElem?_getD]
  by_cases hi : i < a.length
  · rw [List.getElem?_append_left hi, ← List.getD_eq_getElem?_getD]; exact ha i
  · rw [List.getElem?_append_right (by omega), ← List.getD_eq_getElem?_getD]; exact hb _
theorem f64s_append (a b : List Nat) : f64s (a ++ b) = f64s a ++ f64s b := by unfold f64s; rw [List.map_append]

/-- When the sum with a number and its opposite beside is asked for. -/
theorem more_says {y : Nat} {us : List Nat} (hy : y < 18446744073709551616) (hu : ∀ i, us.getD i 0 < 18446744073709551616) (h0 : 0 < us.length) (n1 : Flt.nan y = false) (n2 : decide (y % 9223372036854775808 = 9218868437227405312) = false)
    (n3 : (FloatKind.f64.format.order y 0 != some .eq) = true) (n4 : (FloatKind.f64.format.order (us.getD 0 0) 0 != some .eq) = true) : sumW ((y :: us) ++ [Op.negFloat .f64 y]) = sumW us ∧ Op.negFloat .f64 y < 18446744073709551616 := by
  have z0 : Flt.nan 0 = false := by decide +kernel
  have f0 : Flt.fv 0 = 0 := by decide +kernel
  have h1 := Re.not_nan n1
  have h2 := of_decide_eq_false n2
  have hzz : ∀ u, u = 0 ∨ u = 9223372036854775808 → (FloatKind.f64.format.order u 0 != some .eq) = false := fun u h => by
    rcases h with rfl | rfl <;> decide +kernel
  have hy0 : y ≠ 0 := fun h => by rw [hzz y (.inl h)] at n3; cases n3
  have hy1 : y ≠ 9223372036854775808 := fun h => by rw [hzz y (.inr h)] at n3; cases n3
  have hx1 : us.getD 0 0 ≠ 9223372036854775808 := fun h => by rw [hzz _ (.inr h)] at n4; cases n4
  have hflip : Op.negFloat .f64 y < 18446744073709551616 ∧ Op.negFloat .f64 y % 9223372036854775808 = y % 9223372036854775808 ∧ (y < 9223372036854775808 → Op.negFloat .f64 y = y + 9223372036854775808) ∧ (9223372036854775808 ≤ y → Op.negFloat .f64 y + 9223372036854775808 = y) := by
    by_cases h3 : y < 9223372036854775808
    · rw [Sm.neg_bits h3]; exact ⟨by omega, by omega, fun _ => rfl, fun h => by omega⟩
    · obtain ⟨m, hm⟩ := Re.split_top h3
      have h4 := Sm.neg_bits (x := m) (by omega)
      have h5 : Op.negFloat .f64 m = m ^^^ 2 ^ 63 := rfl
      have h6 : Op.negFloat .f64 y = y ^^^ 2 ^ 63 := rfl
      rw [h5, hm] at h4
      have h7 : Op.negFloat .f64 y = m := by
        rw [h6, ← h4, Nat.xor_assoc, Nat.xor_self, Nat.xor_zero]
      rw [h7]
      exact ⟨by omega, by omega, fun h => by omega, fun _ => hm⟩
  generalize Op.negFloat .f64 y = z at *
  obtain ⟨hz, hzm, hz1, hz2⟩ := hflip
  have ky : kind y = 4 := Rn.kind_finite (by omega) hy1
  have kz : kind z = 4 := Rn.kind_finite (by omega) (by omega)
  have hf : fin z = - fin y := by
    rw [Rn.fin_fv hz, Rn.fin_fv hy]
    by_cases h3 : y < 9223372036854775808
    · rw [Re.fv_pos h3, Re.fv_neg (m := y) (by omega) hz]
    · obtain ⟨m, hm⟩ := Re.split_top h3
      rw [Re.fv_neg hm hy, Re.fv_pos (a := z) (by omega), show z = m by omega]
      omega
  refine ⟨Rn.sum_more ky kz hf (x := us.getD 0 0) ?_ ?_, hz⟩
  · rw [List.getD_eq_getElem?_getD, List.getElem?_eq_getElem h0]
    exact List.getElem_mem _
  · intro h
    rcases Rn.kinds (hu 0) with ⟨-, k⟩ | ⟨-, k⟩ | ⟨-, k⟩ | ⟨e, k, -⟩ | ⟨-, k, -⟩
    · omega
    · omega
    · omega
    · exact hx1 e
    · omega
end Go.Proofs.YtipkiiblghnoiaaGreatDoor.realSums
