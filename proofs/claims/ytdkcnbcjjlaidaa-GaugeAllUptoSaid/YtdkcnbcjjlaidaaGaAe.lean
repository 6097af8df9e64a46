/- The reference's Put. By an AI agent. -/
import Derived.Test.YtdkcnbcjjlaidaaGaAd
import Derived.Test.YtdkcnbcjjlaidaaGaAa
namespace Go.Proofs.Ytdkcnbcjjlaidaa
open Go.ChangeShapes Go.WideShapes Go.ChangeAt Go.RowKit
set_option linter.unusedVariables false

theorem rcell_facts {w : World} {g base : Nat} {ob : Option Addr} {cb c : Nat} {x : G} (h : RAt w g base ob cb c x) :
    w.cell? ⟨g, 0, none⟩ = some (.slice ob x.bs.length cb) ∧ w.cell? ⟨g, 1, none⟩ = some (.slice (some ⟨c, 0, none⟩) x.cs.length x.cs.length) ∧ w.cell? ⟨g, 2, none⟩ = some (.int .i64 x.n) ∧ w.cell? ⟨g, 3, none⟩ = some (.int .i64 x.nn) ∧
    w.cell? ⟨g, 4, none⟩ = some (.float .f64 x.le) ∧ w.cell? ⟨g, 5, none⟩ = some (.float .f64 x.gr) ∧ w.cell? ⟨g, 6, none⟩ = some (.float .f64 x.me) :=
  ⟨blk_cell h.row 0, blk_cell h.row 1, blk_cell h.row 2, blk_cell h.row 3, blk_cell h.row 4, blk_cell h.row 5, blk_cell h.row 6⟩

set_option maxHeartbeats 4000000 in
theorem rput_nan {w : World} {g base : Nat} {ob : Option Addr} {cb c : Nat} {x : G} (h : RAt w g base ob cb c x) (hx : Calm x) (v : Nat) (hv : Flt.nan v = true) :
    Calls Try.prog 20 #[.pointer (some ⟨g, 0, none⟩), .float .f64 v] w fun e w' => e = .returned (.tuple #[]) ∧ RAt w' g base ob cb c { x with nn := x.nn + 1 } ∧ Keep (· = g) w w' := by
  obtain ⟨q0, q1, q2, q3, q4, q5, q6⟩ := rcell_facts h
  have f3 := blk_free h.row 3
  have h0 := hx.m0
  have h1 := hx.m1
  have HNA := Lib.hid (nan3_any v)
  rw [hv] at HNA
  have hw4 : (w.setCell ⟨g, 3, none⟩ (.int .i64 (x.nn + 1))).heap[g]? = some (.cells (rcells ob cb c { x with nn := x.nn + 1 }) 69 (0, 0)) := blk_set h.row 3 _
  have HG := Lib.hid (And.intro h hw4)
  clear h hx hv hw4
  go_enter Try.func20, Try.ntmps20
  go_wp2_with fail
  refine (HNA.out _).mono ?_
  rintro e w' ⟨rfl, rfl⟩
  go_wp2_with fail
  (try simp only [Exit.inBlock, Exit.then])
  refine bodyPost_ret (results_none rfl _ _ _) rfl ?_
  have kk := Keep.setCell (bs := (· = g)) (Keep.refl _ w) (p := ⟨g, 3, none⟩) (Or.inl rfl) (.int .i64 (x.nn + 1))
  exact ⟨rfl, HG.out.1.turn kk HG.out.2 rfl rfl HG.out.1.le64 HG.out.1.gr64, kk⟩
end Go.Proofs.Ytdkcnbcjjlaidaa
