/- The statements' common beginning. By an AI agent. -/
import Derived.Test.YtafglefiodanbaaPaceC
namespace Go.Proofs.Ytafglefiodanbaa
open Go.ChangeShapes Go.WideShapes Go.ChangeAt Go.RowKit
open Flt (U fv ceilW)
set_option linter.unusedVariables false

/-- What turned was the call's own. -/
theorem Keep.own {bs cs : Nat → Prop} {a b c : World} (h : Keep cs a b) (k : Keep bs b c) (hb : ∀ i, bs i → cs i ∨ a.heap.size ≤ i) : Keep cs a c :=
  ⟨k.os.trans h.os, k.tape.trans h.tape, k.output.trans h.output, Nat.le_trans h.size k.size, fun i hi hn => (k.block i (Nat.lt_of_lt_of_le hi h.size) (fun hx => by rcases hb i hx with h1 | h1; (exact hn h1); omega)).trans (h.block i hi hn)⟩

theorem okp_begun : OkP 8 1000 4602678819172646912 4602678819172646912 := by
  refine ⟨by omega, by omega, by omega, by omega, ?_, ?_, ?_, ?_⟩ <;> decide +kernel
theorem fin_lit {w : Nat} (h : w < 9218868437227405312) : Flt.Fin w := by unfold Flt.Fin Flt.rung; omega

theorem smo_begun : Smo 4607182418800017408 (floatOfInt .f64 8) 4602678819172646912 4619567317775286272 4615063718147915776 4616752568008179712 := by
  refine ⟨?_, ?_, ?_, ?_, ?_, ?_, ?_⟩ <;> decide +kernel

theorem want_begun : wantV 8 4616752568008179712 = 5 := by decide +kernel
theorem want_one : wantV 8 4607182418800017408 = 1 := by decide +kernel
theorem rung_begun : Flt.rung 4602678819172646912 = 4602678819172646912 := by decide +kernel
theorem canon_begun : canonF 4616752568008179712 = 4616752568008179712 := by decide +kernel
theorem age0 : ageV 0 = 0 := by decide +kernel
theorem sub_begun : floatBits .sub .f64 4602678819172646912 (ageV 0) = some 4602678819172646912 := by decide +kernel
theorem wait_begun : waitV 4602678819172646912 = 4602678819172646912 := by decide +kernel
theorem ge_begun : (FloatKind.f64.format.order (ageV 0) 4602678819172646912 == some .gt || FloatKind.f64.format.order (ageV 0) 4602678819172646912 == some .eq) = false := by decide +kernel

theorem begun_any (w : World) :
    Calls Try.prog 6 #[] w fun e w' => e = .returned (.bool true) ∧ Keep (fun _ => False) w w' := by
  have q1 : (FloatKind.f64.format.order 4602678819172646912 4602678819172646912 == some .eq) = true := by decide +kernel
  have q2 : (FloatKind.f64.format.order 0 0 == some .eq) = true := by decide +kernel
  go_enter Try.func6, Try.ntmps6
  go_wp2_with fail
  refine (new_ok okp_begun _).mono ?_
  rintro e w1 ⟨b, rfl, hb1, hb2, hk⟩
  rw [rung_begun] at hb2
  have HB := Lib.hid hb2
  have HK := Lib.hid hk
  have hz := lt_of_block hb2
  clear hb2 hk
  go_wp2_with fail
  refine (plan_wait HB.out (fin_lit (by omega)) (by omega) (by omega) (by omega) (by omega) ge_begun (Or.inl (by omega)) sub_begun).mono ?_
  rintro e w2 ⟨rfl, hk2⟩
  rw [wait_begun]
  have HB2 := Lib.hid (keep_keep hk2 HB.out)
  have HK2 := Lib.hid (HK.out.trans hk2)
  clear hk2 HB HK
  go_wp2_with fail
  refine (plan_go HB2.out (fin_lit (by omega)) (by omega) (by omega) (Or.inr (Or.inr (Or.inr ⟨by omega, by rw [want_one]; omega⟩)))).mono ?_
  rintro e w3 ⟨rfl, hk3⟩
  have HB3 := Lib.hid (keep_keep hk3 HB2.out)
  have HK3 := Lib.hid (HK2.out.trans hk3)
  clear hk3 HB2 HK2
  go_wp2_with fail
  have hb4 := blk_alloc (blk_alloc HB3.out (.cells #[.bool false, .float .f64 4602678819172646912] 39)) (.cells #[.bool true, .float .f64 0] 39)
  refine (seen_ok hb4 (by omega) (by omega) smo_begun).mono ?_
  rintro e w4 ⟨rfl, hk4, hb5⟩
  rw [canon_begun] at hb5
  have hz3 := lt_of_block HB3.out
  have p0 := hk4.same (blk_alloc (blk_new w3 (.cells #[.bool false, .float .f64 4602678819172646912] 39)) _) (by omega)
  have p1 := hk4.same (blk_new_at (w3.alloc (.cells #[.bool false, .float .f64 4602678819172646912] 39)) (.cells #[.bool true, .float .f64 0] 39) (n := w3.heap.size + 1) (by simp)) (by omega)
  have c0 := blk_cell p0 0
  have c1 := blk_cell p0 1
  have d0 := blk_cell p1 0
  have d1 := blk_cell p1 1
  have e0 := blk_cell hb5 0
  have e1 := blk_cell hb5 1
  have e5 := blk_cell hb5 5
  simp at c0 c1 d0 d1 e0 e1 e5
  have HK5 : Hid (Keep (fun _ => False) w w4) := by
    exact (((HK3.out.alloc _).alloc _).own hk4 (fun k hk => by omega))
  clear hk4 hb5 hb4 HB3 HK3 p0 p1
  go_wp2_with (go_at_call 11; refine (want_ok e0 e1 e5 (fin_lit (by omega)) (by omega) (by omega)).mono ?_; rw [want_begun]; rintro e w' ⟨rfl, rfl⟩)
  go_ret
  exact ⟨rfl, HK5.out⟩
end Go.Proofs.Ytafglefiodanbaa
