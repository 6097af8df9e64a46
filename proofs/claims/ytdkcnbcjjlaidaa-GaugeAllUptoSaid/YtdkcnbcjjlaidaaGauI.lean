/- begun, of the layer gauge. By an AI agent. -/
import Derived.Test.YtdkcnbcjjlaidaaGauH
namespace Go.Proofs.Ytdkcnbcjjlaidaa
open Go.ChangeShapes Go.WideShapes Go.ChangeAt Go.RowKit
set_option linter.unusedVariables false

theorem nan_any (w : World) : Calls Try.prog 28 #[] w fun e w' => e = .returned (.float .f64 9221120237041090561) ∧ w = w' := by
  have e1 := ext_from
  go_enter Try.func28, Try.ntmps28
  go_wp2_with fail
  go_ret
  exact ⟨rfl, rfl⟩

def x0 : G := ⟨[0, 4607182418800017408], [0, 0, 0], 0, 0, 0, 0, 0⟩
def x1 : G := ⟨[0, 4607182418800017408], [1, 0, 0], 1, 0, 13830554455654793216, 13830554455654793216, 13830554455654793216⟩
def x2 : G := ⟨[0, 4607182418800017408], [1, 0, 1], 2, 0, 13830554455654793216, 4617315517961601024, 4611686018427387904⟩
def x3 : G := ⟨[0, 4607182418800017408], [1, 0, 1], 2, 1, 13830554455654793216, 4617315517961601024, 4611686018427387904⟩

deriving instance DecidableEq for G

theorem step0 : newG [0, 4607182418800017408] = x0 := rfl
theorem step1 : putS x0 13830554455654793216 13830554455654793216 = x1 := by decide +kernel
theorem step2 : putS x1 4617315517961601024 4611686018427387904 = x2 := by decide +kernel
theorem f1a : floatBits .sub .f64 13830554455654793216 0 = some 13830554455654793216 := by decide +kernel
theorem f1b : floatBits .quo .f64 13830554455654793216 (floatOfInt .f64 (0 + 1)) = some 13830554455654793216 := by decide +kernel
theorem f1c : floatBits .add .f64 0 13830554455654793216 = some 13830554455654793216 := by decide +kernel
theorem f2a : floatBits .sub .f64 4617315517961601024 13830554455654793216 = some 4618441417868443648 := by decide +kernel
theorem f2b : floatBits .quo .f64 4618441417868443648 (floatOfInt .f64 (1 + 1)) = some 4613937818241073152 := by decide +kernel
theorem f2c : floatBits .add .f64 13830554455654793216 4613937818241073152 = some 4611686018427387904 := by decide +kernel
theorem fm : floatBits .mul .f64 4602678819172646912 (floatOfInt .f64 ((2 : Nat) : Int)) = some 4607182418800017408 := by decide +kernel
theorem fr : rankV 4607182418800017408 2 = 1 := by decide +kernel
theorem fq : qf x3.bs x3.cs 1 x3.gr = 0 := by decide +kernel
theorem fs : smV 4607182418800017408 4613937818241073152 4602678819172646912 = 4611686018427387904 := by decide +kernel
theorem fe : smE 4602678819172646912 = 0 := by decide +kernel

theorem calm_of (x : G) (h : decide (0 ≤ x.n ∧ x.n ≤ 1099511627776 ∧ 0 ≤ x.nn ∧ x.nn ≤ 1099511627776 ∧ x.bs.length ≤ 1000000 ∧ (∀ c ∈ x.cs, 0 ≤ c ∧ c ≤ 1099511627776)) = true) : Calm x := by
  simp only [decide_eq_true_eq] at h
  obtain ⟨a, b, c, d, e, f⟩ := h
  refine ⟨a, b, c, d, fun i => ?_, e⟩
  rw [List.getD_eq_getElem?_getD]
  rcases hi : x.cs[i]? with _ | v
  · simp
  · exact f v (List.mem_of_getElem? hi)

theorem calm0 : Calm x0 := calm_of _ (by decide +kernel)
theorem calm1 : Calm x1 := calm_of _ (by decide +kernel)
theorem calm2 : Calm x2 := calm_of _ (by decide +kernel)
theorem calm3 : Calm x3 := calm_of _ (by decide +kernel)
theorem small2 : ∀ i, ([0, 4607182418800017408] : List Nat).getD i 0 < 2 ^ 64 := by
  intro i
  match i with
  | 0 => decide
  | 1 => decide
  | i + 2 => simp
theorem ok2 : okB [0, 4607182418800017408] := by
  intro i hi
  match i, hi with
  | 0, _ => exact ⟨by decide +kernel, fun h => absurd h (by omega)⟩
  | 1, _ => exact ⟨by decide +kernel, fun _ => by decide +kernel⟩
theorem ge_half : (FloatKind.f64.format.order 4602678819172646912 0 == some .gt || FloatKind.f64.format.order 4602678819172646912 0 == some .eq) = true := by decide +kernel
theorem le_half : (FloatKind.f64.format.order 4602678819172646912 4607182418800017408 == some .lt || FloatKind.f64.format.order 4602678819172646912 4607182418800017408 == some .eq) = true := by decide +kernel
theorem fls_lit (w : World) : Fls (w.alloc (.cells #[.float .f64 0, .float .f64 4607182418800017408] 24)) (some ⟨w.heap.size, 0, none⟩) [0, 4607182418800017408] := by
  intro i hi
  refine ⟨_, rfl, ?_⟩
  rw [addr_add, Nat.zero_add, blk_cell (blk_new w _) i]
  match i, hi with
  | 0, _ => rfl
  | 1, _ => rfl

theorem ints_of {w : World} {base n : Nat} {v : Value} {L : List Value} (h : w.ownsRow base 2 1 v n L) (hn : 0 < n) : ∃ b cap, v = .slice (some ⟨b, 0, none⟩) n cap ∧ ∀ i u, L[i]? = some u → w.cell? ⟨b, i, none⟩ = some u := by
  rcases h.2 with ⟨h1, h2⟩ | ⟨g, cap, cells, rfl, -⟩
  · omega
  · refine ⟨g, cap, rfl, fun i u hu => ?_⟩
    have := h.cells rfl i _ hu
    simp only [addr_add, Nat.zero_add] at this
    exact this
theorem look3 : lcells x3 = #[.int .i64 2, .int .i64 1, .float .f64 13830554455654793216, .float .f64 4617315517961601024, .float .f64 4611686018427387904] := rfl
theorem row3 : (i64s x3.cs).toList = [.int .i64 1, .int .i64 0, .int .i64 1] := by simp [i64s, x3]
theorem m_fin : Flt.Fin 4607182418800017408 := Flt.one_fin.1
theorem m_pos : 0 ≤ Flt.fv 4607182418800017408 := by rw [Flt.one_fin.2.1]; omega

set_option maxRecDepth 100000 in
set_option maxHeartbeats 8000000 in
theorem begun_any (w : World) : Calls Try.prog 8 #[] w fun e w' => e = .returned (.bool true) ∧ Below w.heap.size w w' := by
  go_enter Try.func8, Try.ntmps8
  go_wp2_with fail
  refine (gnew_ok (some ⟨w.heap.size, 0, none⟩) [0, 4607182418800017408] 2 _ (fls_lit w) (fun h => nomatch h) (by decide) small2 ok2).mono ?_
  rintro e w1 ⟨g, ob, cb, c, rfl, hg, hb⟩
  rw [step0] at hg
  have hb0 : Below w.heap.size w (w.alloc (.cells #[.float .f64 0, .float .f64 4607182418800017408] 24)) := (Below.refl _ w).alloc (Nat.le_refl _) _
  have hge : w.heap.size < g := by have := hg.gb; simp at this; omega
  have hce : w.heap.size < c := by have := hg.cbase; simp at this; omega
  have H1 := Lib.hid (And.intro hg (hb0.trans (hb.mono (by simp))))
  clear hg hb hb0
  go_wp2_with fail
  refine (put_ok H1.out.1 calm0 13830554455654793216 _ _ _ (by decide +kernel) (by decide) f1a f1b f1c).mono ?_
  rintro e w2 ⟨rfl, hg2, k2⟩
  rw [step1] at hg2
  have H2 := Lib.hid (And.intro hg2 (H1.out.2.trans (k2.below H1.out.2.size (fun i hi => by omega))))
  clear hg2 k2 H1
  go_wp2_with fail
  refine (put_ok H2.out.1 calm1 4617315517961601024 _ _ _ (by decide +kernel) (by decide) f2a f2b f2c).mono ?_
  rintro e w3 ⟨rfl, hg3, k3⟩
  rw [step2] at hg3
  have H3 := Lib.hid (And.intro hg3 (H2.out.2.trans (k3.below H2.out.2.size (fun i hi => by omega))))
  clear hg3 k3 H2
  go_wp2_with fail
  refine (nan_any _).mono ?_
  rintro e w3' ⟨rfl, rfl⟩
  go_wp2_with fail
  refine (put_nan H3.out.1 calm2 _ nanC).mono ?_
  rintro e w4 ⟨rfl, hg4, k4⟩
  have hg4' : GAt w4 g _ ob cb c x3 := hg4
  have H4 := Lib.hid (And.intro hg4' (H3.out.2.trans (k4.below H3.out.2.size (fun i hi => by omega))))
  clear hg4 hg4' k4 H3
  go_wp2_with fail
  refine (quant_ok H4.out.1 calm3 4602678819172646912 2 4607182418800017408 rfl (by decide) 1 ge_half le_half fm m_fin m_pos fr (by decide) (by decide)).mono ?_
  rw [fq]
  rintro e w4' ⟨rfl, rfl⟩
  go_wp2_with fail
  refine (cells_any H4.out.1 (by decide)).mono ?_
  rintro e w5 ⟨v, rfl, hown, hb5⟩
  rw [row3] at hown
  obtain ⟨b5, cap, rfl, hrow⟩ := ints_of hown (by decide)
  have r0 := hrow 0 _ rfl
  have r0' : w5.cell? ⟨b5, 0, none⟩ = some (.int .i64 1) := r0
  have r2 : w5.cell? ⟨b5, 2, none⟩ = some (.int .i64 1) := hrow 2 _ rfl
  have H5 := Lib.hid (And.intro (H4.out.1.keep hb5) (H4.out.2.trans (hb5.mono H4.out.2.size)))
  have hl3 : x3.cs.length = 3 := rfl
  rw [hl3]
  clear hrow hown hb5 H4 r0
  go_wp2_with fail
  refine (look_any H5.out.1).mono ?_
  rw [look3]
  rintro e w6 ⟨rfl, hb6⟩
  have s0 := (hb6.cell (cell_in r0')).trans r0'
  have s2 := (hb6.cell (cell_in r2)).trans r2
  have H6 := Lib.hid (H5.out.2.trans (hb6.mono H5.out.2.size))
  clear hb6 r0' r2 H5
  go_wp2_with fail
  refine (smooth_any _ _ _ _).mono ?_
  rw [fs, fe]
  rintro e w7 ⟨rfl, hb7⟩
  have z0 : (w6.alloc (.cells #[.int .i64 2, .int .i64 1, .float .f64 13830554455654793216, .float .f64 4617315517961601024, .float .f64 4611686018427387904] 55)).heap[w6.heap.size]? = some (.cells #[.int .i64 2, .int .i64 1, .float .f64 13830554455654793216, .float .f64 4617315517961601024, .float .f64 4611686018427387904] 55 (0, 0)) := blk_new w6 _
  have z7 := (hb7.block _ (by simp)).trans z0
  have t0 : w7.cell? ⟨b5, 0, none⟩ = some (.int .i64 1) := (hb7.cell (Nat.lt_of_lt_of_le (cell_in s0) (by simp))).trans ((((Below.refl w6.heap.size w6).alloc (Nat.le_refl _) _).cell (cell_in s0)).trans s0)
  have t2 : w7.cell? ⟨b5, 2, none⟩ = some (.int .i64 1) := (hb7.cell (Nat.lt_of_lt_of_le (cell_in s2) (by simp))).trans ((((Below.refl w6.heap.size w6).alloc (Nat.le_refl _) _).cell (cell_in s2)).trans s2)
  have y0 : w7.cell? ⟨w6.heap.size, 0, none⟩ = some (.int .i64 2) := blk_cell z7 0
  have y1 : w7.cell? ⟨w6.heap.size, 1, none⟩ = some (.int .i64 1) := blk_cell z7 1
  have y4 : w7.cell? ⟨w6.heap.size, 4, none⟩ = some (.float .f64 4611686018427387904) := blk_cell z7 4
  have H7 := Lib.hid ((H6.out.alloc H6.out.size _).trans (hb7.mono (by have := H6.out.size; simp; omega)))
  have c1 : (FloatKind.f64.format.order 0 0 == some .eq) = true := by decide +kernel
  have c2 : (FloatKind.f64.format.order 4611686018427387904 4611686018427387904 == some .eq) = true := by decide +kernel
  clear hb7 z0 z7 s0 s2 H6
  go_wp2_with fail
  go_ret
  exact ⟨rfl, H7.out⟩
end Go.Proofs.Ytdkcnbcjjlaidaa
