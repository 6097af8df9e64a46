/- Look; Smooth of any numbers; the nil gauge. By an AI agent. -/
import Derived.Test.YtdkcnbcjjlaidaaGauF
namespace Go.Proofs.Ytdkcnbcjjlaidaa
open Go.ChangeShapes Go.WideShapes Go.ChangeAt Go.RowKit
open Flt (U fv ceilW)
set_option linter.unusedVariables false

def lcells (x : G) : Array Value := #[.int .i64 x.n, .int .i64 x.nn, .float .f64 x.le, .float .f64 x.gr, .float .f64 x.me]
theorem look_size : (Try.prog.info? 55).map (·.size) = some 5 := by kernel_rfl
theorem results_look (tmps : Array Value) (w : World) (bo : Nat) (cs : Array Value) (hcs : cs.size = 5) (h2 : tmps.getD 2 undef = .pointer (some ⟨bo, 0, none⟩)) (ho : w.heap[bo]? = some (.cells cs 55 (0, 0))) :
    (results Try.f26 tmps).run Try.prog w = .ok (.agg cs) w := by
  have h1 := run_loadVar_row (P := Try.prog) w bo 55 55 cs (0, 0) _ ho Try.underlying55 rfl (by rw [hcs]; exact look_size)
  have e2 : tmps[2]?.getD undef = .pointer (some ⟨bo, 0, none⟩) := by simpa using h2
  simp [results, Try.results26, e2, asAddr, h1]

set_option maxHeartbeats 2000000 in
theorem look_any {w : World} {g base : Nat} {ob : Option Addr} {cb c : Nat} {x : G} (h : GAt w g base ob cb c x) :
    Calls Try.prog 26 #[.pointer (some ⟨g, 0, none⟩)] w fun e w' => e = .returned (.agg (lcells x)) ∧ Below w.heap.size w w' := by
  have kB : Below w.heap.size w (w.alloc (.cells #[.int .i64 0, .int .i64 0, .float .f64 0, .float .f64 0, .float .f64 0] 55)) := (Below.refl _ w).alloc (Nat.le_refl _) _
  obtain ⟨q0, q1, q2, q3, q4, q5, q6, q7⟩ := gcell_facts (h.keep kB)
  clear h kB
  go_enter Try.func26, Try.ntmps26
  go_wp2_with fail
  refine (there_any _ _ q0).mono ?_
  rintro e w' ⟨rfl, rfl⟩
  go_wp2_with fail
  refine bodyPost_ret (results_look _ _ w.heap.size (lcells x) rfl rfl (blk_new_at w _ rfl)) rfl ?_
  exact ⟨rfl, (Below.refl _ w).alloc (Nat.le_refl _) _⟩

theorem look_nil (w : World) :
    Calls Try.prog 26 #[.pointer none] w fun e w' => e = .returned (.agg #[.int .i64 0, .int .i64 0, .float .f64 0, .float .f64 0, .float .f64 0]) ∧ Below w.heap.size w w' := by
  go_enter Try.func26, Try.ntmps26
  go_wp2_with fail
  refine (there_nil _).mono ?_
  rintro e w' ⟨rfl, rfl⟩
  go_wp2_with fail
  refine bodyPost_ret (results_look _ _ w.heap.size #[.int .i64 0, .int .i64 0, .float .f64 0, .float .f64 0, .float .f64 0] rfl rfl (blk_new_at w _ rfl)) rfl ?_
  exact ⟨rfl, (Below.refl _ w).alloc (Nat.le_refl _) _⟩

theorem put_nil (v : Nat) (w : World) :
    Calls Try.prog 16 #[.pointer none, .float .f64 v] w fun e w' => e = .returned (.tuple #[]) ∧ w = w' := by
  go_enter Try.func16, Try.ntmps16
  go_wp2_with fail
  refine (there_nil _).mono ?_
  rintro e w' ⟨rfl, rfl⟩
  go_wp2_with fail
  (try simp only [Exit.inBlock, Exit.then])
  refine bodyPost_ret (results_none rfl _ _ _) rfl ?_
  exact ⟨rfl, rfl⟩
theorem quant_nil (v : Nat) (w : World) :
    Calls Try.prog 17 #[.pointer none, .float .f64 v] w fun e w' => e = .returned (.tuple #[.float .f64 0, .int .i64 1]) ∧ w = w' := by
  go_enter Try.func17, Try.ntmps17
  go_wp2_with fail
  refine (there_nil _).mono ?_
  rintro e w' ⟨rfl, rfl⟩
  go_wp2_with fail
  go_ret2
  exact ⟨rfl, rfl⟩
theorem cells_nil (w : World) :
    Calls Try.prog 25 #[.pointer none] w fun e w' => e = .returned (.slice none 0 0) ∧ w = w' := by
  go_enter Try.func25, Try.ntmps25
  go_wp2_with fail
  refine (there_nil _).mono ?_
  rintro e w' ⟨rfl, rfl⟩
  go_wp2_with fail
  go_ret
  exact ⟨rfl, rfl⟩
theorem merge_nil (w : World) :
    Calls Try.prog 22 #[.pointer none, .pointer none] w fun e w' => e = .returned (.int .i64 1) ∧ w = w' := by
  go_enter Try.func22, Try.ntmps22
  go_wp2_with fail
  refine (there_nil _).mono ?_
  rintro e w' ⟨rfl, rfl⟩
  go_wp2_with fail
  go_ret
  exact ⟨rfl, rfl⟩

/-! ### arithmetic that ends in a NaN -/
def nanW (a b : Nat) (w : World) : Nat := (Question.nanBits .f64 a b).cut (w.tape w.drawn (.nanBits .f64 a b))
theorem nan_arith (v u : Nat) (hv : v < 2) (hu : u < 2 ^ 52 - 1) : Flt.nan (v * 2 ^ 63 + 0x7ff0000000000000 + 1 + u) = true := by
  unfold Flt.nan Flt.rung
  rw [decide_eq_true_eq]
  omega
theorem nanW_nan (a b : Nat) (w : World) : Flt.nan (nanW a b w) = true :=
  nan_arith _ _ (Nat.mod_lt _ (by decide)) (Nat.mod_lt _ (by decide))
theorem run_arith_nan {op : BinOp} (hop : op = .add ∨ op = .sub ∨ op = .mul ∨ op = .quo) (P : Program) (t : TypeId) (a b : Nat) (h : floatBits op .f64 a b = none) (w : World) :
    (binOp op t (.float .f64 a) (.float .f64 b)).run P w = .ok (.float .f64 (nanW a b w)) w.drew := by
  unfold floatBits at h
  have hf : (Question.nanBits .f64 a b).forced = false := rfl
  rcases hop with rfl | rfl | rfl | rfl <;> simp only at h <;> simp [binOp, Op.floatArith, h, hf, nanW]
theorem arith_nan {op : BinOp} {a b : Nat} (h : Flt.nan a = true ∨ Flt.nan b = true) : floatBits op .f64 a b = none := by
  have key : ∀ x, Flt.nan x = true → ∃ s p, Ieee.double.read x = .nan s p := fun x hx => ⟨_, _, Flt.read_nan (by simpa [Flt.nan] using hx)⟩
  unfold floatBits
  rcases h with h | h
  · obtain ⟨s, p, e⟩ := key a h
    cases op <;> simp only [] <;> (try rfl)
    · show Option.map _ ((Ieee.double.read a).sum (Ieee.double.read b)) = none
      rw [e]; rfl
    · show Option.map _ ((Ieee.double.read a).sum (Ieee.double.read b).opposite) = none
      rw [e]; rfl
    · show Option.map _ ((Ieee.double.read a).product (Ieee.double.read b)) = none
      rw [e]; rfl
    · show Option.map _ ((Ieee.double.read a).quotient _ (Ieee.double.read b)) = none
      rw [e]; rfl
  · obtain ⟨s, p, e⟩ := key b h
    cases op <;> simp only [] <;> (try rfl)
    · show Option.map _ ((Ieee.double.read a).sum (Ieee.double.read b)) = none
      rw [e]; cases Ieee.double.read a <;> rfl
    · show Option.map _ ((Ieee.double.read a).sum (Ieee.double.read b).opposite) = none
      rw [e]; cases Ieee.double.read a <;> rfl
    · show Option.map _ ((Ieee.double.read a).product (Ieee.double.read b)) = none
      rw [e]; cases Ieee.double.read a <;> rfl
    · show Option.map _ ((Ieee.double.read a).quotient _ (Ieee.double.read b)) = none
      rw [e]; cases Ieee.double.read a <;> rfl
end Go.Proofs.Ytdkcnbcjjlaidaa
