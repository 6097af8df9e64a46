/- Contract of real.Read at the text of minus nought. By an AI agent. -/
import Derived.Test.YtipkiiblghnoiaaGreatDoorFtK
import Derived.WalkMore
import Derived.Scope
import Derived.LoopN
namespace Go.Proofs.YtipkiiblghnoiaaGreatDoor
open Go.ChangeShapes Go.WideShapes Go.ChangeAt Go.RowKit
open Bt
set_option linter.unusedVariables false

/-- strconv's switch is on. -/
def Opt (w : World) : Prop := w.cell? ⟨3, 0, none⟩ = some (.bool true)

set_option maxRecDepth 100000 in
set_option maxHeartbeats 2000000 in
theorem prefix_zero (w : World) : Calls Tryz.prog 133 #[.string ⟨#[48]⟩, .string ⟨#[105, 110, 102, 105, 110, 105, 116, 121]⟩] w fun e w' => e = .returned (.int .i64 0) ∧ ∃ n, w' = w.drewN n := by
  go_enter Tryz.func133, Tryz.ntmps133
  go_wp2_with fail
  refine wp_loop_rounds 1 ?_
  rw [rounds_succ]
  go_wp2_with fail
  go_ret
  exact ⟨rfl, 0, rfl⟩

set_option maxRecDepth 100000 in
set_option maxHeartbeats 2000000 in
theorem readFloat_zero (w : World) : Calls Tryz.prog 99 #[.string ⟨#[45, 48]⟩] w fun e w' => e = .returned (.tuple #[.int .u64 0, .int .i64 0, .bool true, .bool false, .bool false, .int .i64 2, .bool true]) ∧ ∃ n, w' = w.drewN n := by
  go_enter Tryz.func99, Tryz.ntmps99
  go_wp2_with fail
  go_step3
  go_wp2_with fail
  go_step3
  go_wp2_with fail
  refine wp_loop_rounds 2 ?_
  rw [rounds_succ]
  go_wp2_with fail
  rw [rounds_succ]
  go_wp2_with fail
  rw [Exit.noGoto_ret]
  exact bodyPost_ret (v := .tuple #[.int .u64 0, .int .i64 0, .bool true, .bool false, .bool false, .int .i64 2, .bool true]) (by simp [results, Tryz.results99, go_sem]) rfl ⟨rfl, 0, rfl⟩

set_option maxRecDepth 100000 in
set_option maxHeartbeats 2000000 in
theorem special_zero (w : World) : Calls Tryz.prog 98 #[.string ⟨#[45, 48]⟩] w fun e w' => e = .returned (.tuple #[.float .f64 0, .int .i64 0, .bool false]) ∧ ∃ n, w' = w.drewN n := by
  go_enter Tryz.func98, Tryz.ntmps98
  go_wp2_with fail
  rw [show (⟨#[45, 48]⟩ : ByteArray).extract 1 2 = ⟨#[48]⟩ from by decide +kernel]
  refine (prefix_zero _).mono ?_
  rintro e w1 ⟨rfl, n, rfl⟩
  go_wp2_with fail
  exact bodyPost_ret (v := .tuple #[.float .f64 0, .int .i64 0, .bool false]) (by simp [results, Tryz.results98, go_sem]) rfl ⟨rfl, n, rfl⟩

set_option maxRecDepth 100000 in
set_option maxHeartbeats 2000000 in
theorem atof_zero (w : World) (hopt : Opt w) : Calls Tryz.prog 80 #[.string ⟨#[45, 48]⟩] w fun e w' => e = .returned (.tuple #[.float .f64 9223372036854775808, .int .i64 2, .nilIface]) ∧ ∃ n, w' = w.drewN n := by
  unfold Opt at hopt
  go_enter Tryz.func80, Tryz.ntmps80
  go_wp2_with fail
  refine (special_zero _).mono ?_
  rintro e w1 ⟨rfl, n, rfl⟩
  go_wp2_with fail
  refine (readFloat_zero _).mono ?_
  rintro e w1 ⟨rfl, m, rfl⟩
  go_wp2_with fail
  refine (bool_u64 true _).mono ?_
  rintro e w1 ⟨rfl, hw⟩
  subst hw
  have hf := ext_sfrom
  go_wp2_with fail
  exact bodyPost_ret (v := .tuple #[.float .f64 (bits BinOp.or IntKind.u64 9223372036854775808 0).toNat, .int .i64 2, .nilIface]) (by simp [results, Tryz.results80, go_sem]) rfl ⟨by rw [show (bits BinOp.or IntKind.u64 9223372036854775808 0).toNat = 9223372036854775808 from by decide +kernel], n + m, rfl⟩

set_option maxRecDepth 100000 in
set_option maxHeartbeats 2000000 in
theorem prefix_any (w : World) (hopt : Opt w) : Calls Tryz.prog 72 #[.string ⟨#[45, 48]⟩, .int .i64 64] w fun e w' => e = .returned (.tuple #[.float .f64 9223372036854775808, .int .i64 2, .nilIface]) ∧ ∃ n, w' = w.drewN n := by
  have HO := Lib.hid hopt
  clear hopt
  go_enter Tryz.func72, Tryz.ntmps72
  go_wp2_with fail
  refine (atof_zero _ HO.out).mono ?_
  rintro e w1 ⟨rfl, n, rfl⟩
  go_wp2_with fail
  exact bodyPost_ret (v := .tuple #[.float .f64 9223372036854775808, .int .i64 2, .nilIface]) (by simp [results, Tryz.results72, go_sem]) rfl ⟨rfl, n, rfl⟩

set_option maxRecDepth 100000 in
set_option maxHeartbeats 2000000 in
theorem iparse_zero (w : World) (hopt : Opt w) : Calls Tryz.prog 68 #[.string ⟨#[45, 48]⟩, .int .i64 64] w fun e w' => e = .returned (.tuple #[.float .f64 9223372036854775808, .nilIface]) ∧ ∃ n, w' = w.drewN n := by
  have HO := Lib.hid hopt
  clear hopt
  go_enter Tryz.func68, Tryz.ntmps68
  go_wp2_with fail
  refine (prefix_any _ HO.out).mono ?_
  rintro e w1 ⟨rfl, n, rfl⟩
  go_wp2_with fail
  go_ret2
  exact ⟨rfl, n, rfl⟩

set_option maxRecDepth 100000 in
set_option maxHeartbeats 2000000 in
theorem parse_zero (w : World) (hopt : Opt w) : Calls Tryz.prog 58 #[.string ⟨#[45, 48]⟩, .int .i64 64] w fun e w' => e = .returned (.tuple #[.float .f64 9223372036854775808, .nilIface]) ∧ ∃ n, w' = w.drewN n := by
  have HO := Lib.hid hopt
  clear hopt
  go_enter Tryz.func58, Tryz.ntmps58
  go_wp2_with fail
  refine (iparse_zero _ HO.out).mono ?_
  rintro e w1 ⟨rfl, n, rfl⟩
  go_wp2_with fail
  go_ret2
  exact ⟨rfl, n, rfl⟩

theorem txt_minus : txt 9223372036854775808 = ⟨#[45, 48]⟩ := by decide +kernel

set_option maxRecDepth 100000 in
set_option maxHeartbeats 2000000 in
theorem read_zero (w : World) (hopt : Opt w) (hT : Tb w.heap.size w) : Calls Tryz.prog 37 #[.string ⟨#[45, 48]⟩] w fun e w' => e = .returned (.tuple #[.float .f64 9223372036854775808, .int .i64 0]) ∧ Below w.heap.size w w' := by
  have hX := fun n => text_any 9223372036854775808 (w.drewN n) (by omega) (hT.on (below_drewN (Below.refl _ w) n))
  rw [txt_minus] at hX
  have HX := Lib.hid hX
  clear hX
  have HO := Lib.hid hopt
  clear hopt
  go_enter Tryz.func37, Tryz.ntmps37
  go_wp2_with fail
  refine (parse_zero _ HO.out).mono ?_
  rintro e w1 ⟨rfl, n, rfl⟩
  go_wp2_with fail
  refine (HX.out n).mono ?_
  rintro e w1 ⟨rfl, hb⟩
  have HB := Lib.hid ((below_drewN (Below.refl w.heap.size w) n).trans hb)
  clear hb
  go_wp2_with fail
  go_ret2
  exact ⟨rfl, HB.out⟩
end Go.Proofs.YtipkiiblghnoiaaGreatDoor
