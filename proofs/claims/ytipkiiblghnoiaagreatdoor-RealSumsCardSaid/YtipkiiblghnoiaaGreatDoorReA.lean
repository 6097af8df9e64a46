/- flumelaw3.begun is true. By an AI agent. -/
import Derived.Test.YtipkiiblghnoiaaGreatDoorFtL
import Derived.Test.YtipkiiblghnoiaaGreatDoorSumN
import Derived.Test.YtipkiiblghnoiaaGreatDoorSumH
namespace Go.Proofs.YtipkiiblghnoiaaGreatDoor
open Go.ChangeShapes Go.WideShapes Go.ChangeAt Go.RowKit
open Bt
set_option linter.unusedVariables false

theorem mnan_any (w : World) : Calls Tryz.prog 38 #[] w fun e w' => e = .returned (.float .f64 9221120237041090561) ∧ w' = w := by
  have e1 := ext_from 9221120237041090561
  go_enter Tryz.func38, Tryz.ntmps38
  go_wp2
  go_ret
  exact ⟨rfl, rfl⟩

theorem Tb.size0 {B C : Nat} {w : World} (h : Tb B w) (hB : B ≤ C) (hC : C ≤ w.heap.size := by exact Nat.le_refl _) : Tb C w :=
  ⟨fun w' hb => h.pows w' (hb.mono hB), fun w' hb => h.tens w' (hb.mono hB), Nat.lt_of_lt_of_le h.lt hB, hC⟩
theorem fls_three (w : World) (a b c : Nat) (t : TypeId) : Fls (w.alloc (.cells #[.float .f64 a, .float .f64 b, .float .f64 c] t)) (some ⟨w.heap.size, 0, none⟩) [a, b, c] := by
  intro i hi
  refine ⟨_, rfl, ?_⟩
  rw [addr_add, Nat.zero_add, blk_cell (blk_new w _) i]
  match i, hi with
  | 0, _ => rfl
  | 1, _ => rfl
  | 2, _ => rfl
theorem fls_four (w : World) (a b c d : Nat) (t : TypeId) : Fls (w.alloc (.cells #[.float .f64 a, .float .f64 b, .float .f64 c, .float .f64 d] t)) (some ⟨w.heap.size, 0, none⟩) [a, b, c, d] := by
  intro i hi
  refine ⟨_, rfl, ?_⟩
  rw [addr_add, Nat.zero_add, blk_cell (blk_new w _) i]
  match i, hi with
  | 0, _ => rfl
  | 1, _ => rfl
  | 2, _ => rfl
  | 3, _ => rfl
theorem lt_three {a b c M : Nat} (h1 : a < M) (h2 : b < M) (h3 : c < M) : ∀ i, [a, b, c].getD i 0 < M := by
  intro i
  match i with
  | 0 => exact h1
  | 1 => exact h2
  | 2 => exact h3
  | n + 3 => show 0 < M; omega
theorem lt_four {a b c d M : Nat} (h1 : a < M) (h2 : b < M) (h3 : c < M) (h4 : d < M) : ∀ i, [a, b, c, d].getD i 0 < M := by
  intro i
  match i with
  | 0 => exact h1
  | 1 => exact h2
  | 2 => exact h3
  | 3 => exact h4
  | n + 4 => show 0 < M; omega

set_option maxRecDepth 100000 in
set_option maxHeartbeats 2000000 in
theorem begun3 (w : World) (hopt : Opt w) (hT : Tb w.heap.size w) : Calls Tryz.prog 9 #[] w fun e w' => e = .returned (.bool true) ∧ Below w.heap.size w w' := by
  have HO := Lib.hid (And.intro hopt hT)
  clear hopt hT
  go_enter Tryz.func9, Tryz.ntmps9
  go_wp2_with fail
  refine (read_zero _ HO.out.1 HO.out.2).mono ?_
  rintro e w1 ⟨rfl, hb⟩
  have H1 := Lib.hid hb
  clear hb
  go_wp2_with fail
  refine (mnan_any _).mono ?_
  rintro e w2 ⟨rfl, hw⟩
  obtain rfl : w1 = w2 := hw.symm
  go_wp2_with fail
  have hM := Sm.min_any (some ⟨w1.heap.size, 0, none⟩) [4607182418800017408, 9221120237041090561, 13830554455654793216] 3 (w1.alloc (.cells #[.float .f64 4607182418800017408, .float .f64 9221120237041090561, .float .f64 13830554455654793216] 26)) (fls_three _ _ _ _ _) (lt_three (by decide) (by decide) (by decide)) (by simp)
  rw [show Sm.outW (-1) [4607182418800017408, 9221120237041090561, 13830554455654793216] = 13830554455654793216 from by decide +kernel, show Sm.outB [4607182418800017408, 9221120237041090561, 13830554455654793216] = true from by decide +kernel] at hM
  refine hM.mono ?_
  rintro e w2 ⟨rfl, hw⟩
  have hb2 : Below w.heap.size w w2 := by rw [hw]; exact H1.out.alloc H1.out.size _
  have H2 := Lib.hid hb2
  clear hb2 hw hM
  go_wp2_with fail
  refine (mnan_any _).mono ?_
  rintro e w3 ⟨rfl, hw⟩
  obtain rfl : w2 = w3 := hw.symm
  go_wp2_with fail
  refine (Sm.class_any 9221120237041090561 (by decide) _).mono ?_
  rintro e w3 ⟨rfl, hw⟩
  obtain rfl : w2 = w3 := hw.symm
  rw [show Sm.classF 9221120237041090561 = 1 from by decide +kernel]
  go_wp2_with fail
  refine (Sm.sign_zero _).mono ?_
  rintro e w3 ⟨rfl, hw⟩
  obtain rfl : w2 = w3 := hw.symm
  go_wp2_with fail
  refine (compare_any 9223372036854775808 0 (by decide) (by decide) _).mono ?_
  rintro e w3 ⟨rfl, hw⟩
  obtain rfl : w2 = w3 := hw
  rw [show cmpF 9223372036854775808 0 = -1 from by decide +kernel]
  go_wp2_with fail
  refine (Sm.sign_zero _).mono ?_
  rintro e w3 ⟨rfl, hw⟩
  obtain rfl : w2 = w3 := hw.symm
  go_wp2_with fail
  refine (fbits_any 9223372036854775808 9223372036854775808 _).mono ?_
  rintro e w3 ⟨rfl, hw⟩
  obtain rfl : w2 = w3 := hw
  rw [show decide (9223372036854775808 = 9223372036854775808) = true from by decide +kernel]
  have f1 : (FloatKind.f64.format.order 13830554455654793216 13830554455654793216 == some .eq) = true := by
    rw [Flt.t_eq (by decide +kernel) (by decide +kernel)]; simp
  go_wp2_with fail
  have hb3 : Below w2.heap.size w2 (w2.alloc (.cells #[.float .f64 4607182418800017408, .float .f64 6103021453049119613, .float .f64 4607182418800017408, .float .f64 15326393489903895421] 26)) := (Below.refl _ _).alloc (Nat.le_refl _) _
  have hS := Sm.sum_any (some ⟨w2.heap.size, 0, none⟩) [4607182418800017408, 6103021453049119613, 4607182418800017408, 15326393489903895421] 4 (w2.alloc (.cells #[.float .f64 4607182418800017408, .float .f64 6103021453049119613, .float .f64 4607182418800017408, .float .f64 15326393489903895421] 26)) (fls_four _ _ _ _ _ _) (lt_four (by decide) (by decide) (by decide) (by decide)) (by simp)
  rw [show Sm.sumW [4607182418800017408, 6103021453049119613, 4607182418800017408, 15326393489903895421] = 4611686018427387904 from by decide +kernel] at hS
  have HB3 := Lib.hid (H2.out.trans (hb3.mono H2.out.size))
  clear hb3
  refine hS.mono ?_
  rintro e w3 ⟨rfl, hb⟩
  have H3 := Lib.hid (HB3.out.trans (hb.mono HB3.out.size))
  clear hb hS HB3
  have f2 : (FloatKind.f64.format.order 4611686018427387904 4611686018427387904 == some .eq) = true := by
    rw [Flt.t_eq (by decide +kernel) (by decide +kernel)]; simp
  go_wp2_with fail
  refine (text_any 4602678819172646912 _ (by decide) ((HO.out.2.on H3.out).size0 H3.out.size)).mono ?_
  rintro e w4 ⟨rfl, hb⟩
  have H4 := Lib.hid (H3.out.trans (hb.mono H3.out.size))
  clear hb
  rw [txt_half]
  go_wp2_with fail
  refine (key_any 0 (by decide) _).mono ?_
  rintro e w5 ⟨rfl, hw⟩
  obtain rfl : w4 = w5 := hw
  rw [show keyF 0 = 9223372036854775808 from by decide +kernel]
  go_wp2_with fail
  go_ret
  exact ⟨rfl, H4.out⟩
end Go.Proofs.YtipkiiblghnoiaaGreatDoor
