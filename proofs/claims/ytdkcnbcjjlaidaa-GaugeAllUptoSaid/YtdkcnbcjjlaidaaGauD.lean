/- A gauge is told a number: widen, Put. By an AI agent. -/
import Derived.Test.YtdkcnbcjjlaidaaGauC
namespace Go.Proofs.Ytdkcnbcjjlaidaa
open Go.ChangeShapes Go.WideShapes Go.ChangeAt Go.RowKit
set_option linter.unusedVariables false

theorem GAt.turn {w w' : World} {g base : Nat} {ob : Option Addr} {cb c : Nat} {x x' : G} (h : GAt w g base ob cb c x) (k : Keep (· = g) w w') (hr : w'.heap[g]? = some (.cells (gcells ob cb c x') 64 (0, 0))) (hbs : x'.bs = x.bs) (hcs : x'.cs = x.cs) (h1 : x'.le < 2 ^ 64) (h2 : x'.gr < 2 ^ 64) : GAt w' g base ob cb c x' where
  row := hr
  fls := by rw [hbs]; exact fls_keep' h.fls k (fun ad e => (h.apart ad e).2.1)
  cls := by rw [hcs]; exact k.same h.cls (fun e => h.ne e.symm)
  gb := h.gb
  cbase := h.cbase
  ne := h.ne
  apart := h.apart
  len := by rw [hbs, hcs]; exact h.len
  lt := by rw [hbs]; exact h.lt
  le64 := h1
  gr64 := h2

theorem there_any (b : Nat) (w : World) (hc : w.cell? ⟨b, 0, none⟩ = some (.bool true)) :
    Calls Try.prog 35 #[.pointer (some ⟨b, 0, none⟩)] w fun e w' => e = .returned (.bool true) ∧ w = w' := by
  go_enter Try.func35, Try.ntmps35
  go_wp2_with fail
  go_ret
  exact ⟨rfl, rfl⟩
theorem there_nil (w : World) :
    Calls Try.prog 35 #[.pointer none] w fun e w' => e = .returned (.bool false) ∧ w = w' := by
  go_enter Try.func35, Try.ntmps35
  go_wp2_with fail
  go_ret
  exact ⟨rfl, rfl⟩

def widenS (x : G) (a b : Nat) : G := { x with le := if x.n = 0 ∨ cmpF a x.le < 0 then a else x.le, gr := if x.n = 0 ∨ 0 < cmpF b x.gr then b else x.gr }

set_option maxHeartbeats 4000000 in
theorem widen_any {w : World} {g base : Nat} {ob : Option Addr} {cb c : Nat} {x : G} (h : GAt w g base ob cb c x) (a b : Nat) (ha : a < 2 ^ 64) (hb : b < 2 ^ 64) :
    Calls Try.prog 37 #[.pointer (some ⟨g, 0, none⟩), .float .f64 a, .float .f64 b] w fun e w' => e = .returned (.tuple #[]) ∧ GAt w' g base ob cb c (widenS x a b) ∧ Keep (· = g) w w' := by
  obtain ⟨q0, q1, q2, q3, q4, q5, q6, q7⟩ := gcell_facts h
  have f5 := blk_free h.row 5
  have f6 := blk_free h.row 6
  have hz := lt_of_block h.row
  have HC1 := Lib.hid (compare_any a x.le ha h.le64)
  have HC2 := Lib.hid (compare_any b x.gr hb h.gr64)
  have HG := Lib.hid (And.intro h (And.intro ha hb))
  have hw5 : (w.setCell ⟨g, 5, none⟩ (.float .f64 a)).heap[g]? = some (.cells (gcells ob cb c { x with le := a }) 64 (0, 0)) := blk_set h.row 5 _
  have hw6 : (w.setCell ⟨g, 6, none⟩ (.float .f64 b)).heap[g]? = some (.cells (gcells ob cb c { x with gr := b }) 64 (0, 0)) := blk_set h.row 6 _
  have hw56 : ((w.setCell ⟨g, 5, none⟩ (.float .f64 a)).setCell ⟨g, 6, none⟩ (.float .f64 b)).heap[g]? = some (.cells (gcells ob cb c { x with le := a, gr := b }) 64 (0, 0)) := blk_set hw5 6 _
  have r3 : (w.setCell ⟨g, 5, none⟩ (.float .f64 a)).cell? ⟨g, 3, none⟩ = some (.int .i64 x.n) := blk_cell hw5 3
  have r6 : (w.setCell ⟨g, 5, none⟩ (.float .f64 a)).cell? ⟨g, 6, none⟩ = some (.float .f64 x.gr) := blk_cell hw5 6
  have rf6 := blk_free hw5 6
  have HW := Lib.hid (And.intro hw5 (And.intro hw6 hw56))
  clear h ha hb hw5 hw6 hw56
  by_cases hn : x.n = 0
  · have e0 : (x.n == 0) = true := by simpa using hn
    have e : widenS x a b = { x with le := a, gr := b } := by simp [widenS, hn]
    rw [e]
    clear e
    go_enter Try.func37, Try.ntmps37
    go_wp2_with fail
    go_end0
    have kk := Keep.setCell (bs := (· = g)) (Keep.setCell (bs := (· = g)) (Keep.refl _ w) (p := ⟨g, 5, none⟩) (Or.inl rfl) (.float .f64 a)) (p := ⟨g, 6, none⟩) (Or.inl rfl) (.float .f64 b)
    exact ⟨rfl, HG.out.1.turn kk HW.out.2.2 rfl rfl HG.out.2.1 HG.out.2.2, kk⟩
  · by_cases hl : cmpF a x.le < 0
    · by_cases hr : 0 < cmpF b x.gr
      · have e : widenS x a b = { x with le := a, gr := b } := by simp [widenS, hl, hr]
        rw [e]
        clear e
        generalize cmpF a x.le = z1 at *
        generalize cmpF b x.gr = z2 at *
        have e0 : (x.n == 0) = false := by simpa using hn
        have d1 : decide (z1 < 0) = true := by simpa using hl
        have d2 : decide (0 < z2) = true := by simpa using hr
        go_enter Try.func37, Try.ntmps37
        go_wp2_with fail
        refine (HC1.out _).mono ?_
        rintro e w' ⟨rfl, rfl⟩
        go_wp2_with fail
        refine (HC2.out _).mono ?_
        rintro e w' ⟨rfl, rfl⟩
        go_wp2_with fail
        go_end0
        have kk := Keep.setCell (bs := (· = g)) (Keep.setCell (bs := (· = g)) (Keep.refl _ w) (p := ⟨g, 5, none⟩) (Or.inl rfl) (.float .f64 a)) (p := ⟨g, 6, none⟩) (Or.inl rfl) (.float .f64 b)
        exact ⟨rfl, HG.out.1.turn kk HW.out.2.2 rfl rfl HG.out.2.1 HG.out.2.2, kk⟩
      · have e : widenS x a b = { x with le := a } := by simp [widenS, hl, hr, hn]
        rw [e]
        clear e
        generalize cmpF a x.le = z1 at *
        generalize cmpF b x.gr = z2 at *
        have e0 : (x.n == 0) = false := by simpa using hn
        have d1 : decide (z1 < 0) = true := by simpa using hl
        have d2 : decide (0 < z2) = false := by simpa using hr
        go_enter Try.func37, Try.ntmps37
        go_wp2_with fail
        refine (HC1.out _).mono ?_
        rintro e w' ⟨rfl, rfl⟩
        go_wp2_with fail
        refine (HC2.out _).mono ?_
        rintro e w' ⟨rfl, rfl⟩
        go_wp2_with fail
        go_end0
        have kk := Keep.setCell (bs := (· = g)) (Keep.refl _ w) (p := ⟨g, 5, none⟩) (Or.inl rfl) (.float .f64 a)
        exact ⟨rfl, HG.out.1.turn kk HW.out.1 rfl rfl HG.out.2.1 HG.out.1.gr64, kk⟩
    · by_cases hr : 0 < cmpF b x.gr
      · have e : widenS x a b = { x with gr := b } := by simp [widenS, hl, hr, hn]
        rw [e]
        clear e
        generalize cmpF a x.le = z1 at *
        generalize cmpF b x.gr = z2 at *
        have e0 : (x.n == 0) = false := by simpa using hn
        have d1 : decide (z1 < 0) = false := by simpa using hl
        have d2 : decide (0 < z2) = true := by simpa using hr
        go_enter Try.func37, Try.ntmps37
        go_wp2_with fail
        refine (HC1.out _).mono ?_
        rintro e w' ⟨rfl, rfl⟩
        go_wp2_with fail
        refine (HC2.out _).mono ?_
        rintro e w' ⟨rfl, rfl⟩
        go_wp2_with fail
        go_end0
        have kk := Keep.setCell (bs := (· = g)) (Keep.refl _ w) (p := ⟨g, 6, none⟩) (Or.inl rfl) (.float .f64 b)
        exact ⟨rfl, HG.out.1.turn kk HW.out.2.1 rfl rfl HG.out.1.le64 HG.out.2.2, kk⟩
      · have e : widenS x a b = x := by simp [widenS, hl, hr, hn]
        rw [e]
        clear e
        generalize cmpF a x.le = z1 at *
        generalize cmpF b x.gr = z2 at *
        have e0 : (x.n == 0) = false := by simpa using hn
        have d1 : decide (z1 < 0) = false := by simpa using hl
        have d2 : decide (0 < z2) = false := by simpa using hr
        go_enter Try.func37, Try.ntmps37
        go_wp2_with fail
        refine (HC1.out _).mono ?_
        rintro e w' ⟨rfl, rfl⟩
        go_wp2_with fail
        refine (HC2.out _).mono ?_
        rintro e w' ⟨rfl, rfl⟩
        go_wp2_with fail
        go_end0
        exact ⟨rfl, HG.out.1, Keep.refl _ w⟩
end Go.Proofs.Ytdkcnbcjjlaidaa
