/- PLAIN: the sum of two is the floats' own; the sum of whole numbers. By an AI agent. -/
import Derived.Test.YtemjlkmlodmmfaaGreatDoorMg16
import Derived.Laws.FloatArith
namespace Go.Proofs.YtemjlkmlodmmfaaGreatDoor.Rn
open Go Go.Proofs.YtemjlkmlodmmfaaGreatDoor Ieee
open Go.ChangeShapes Go.WideShapes Go.ChangeAt Go.RowKit
open Go.Proofs.YtemjlkmlodmmfaaGreatDoor.Sm
set_option linter.unusedVariables false
set_option linter.unusedSimpArgs false

theorem round_le (V : Nat) : roundB V ≤ 2047 * 2 ^ 52 := by
  by_cases h : V = 0
  · subst h; decide +kernel
  · rw [round_cut false V h]; exact Nat.min_le_right _ _
theorem word_not_nan (s : Bool) (V : Nat) : Flt.nan (double.word s (roundB V)) = false := by
  have h := round_le V
  unfold Flt.nan
  rw [Flt.word_rung s (by omega), decide_eq_false_iff_not]
  omega
theorem kinds {u : Nat} (hu : u < 18446744073709551616) : (Flt.nan u = true ∧ kind u = 0) ∨ (u = 9218868437227405312 ∧ kind u = 2) ∨ (u = 18442240474082181120 ∧ kind u = 1) ∨ (u = 9223372036854775808 ∧ kind u = 3 ∧ Flt.Fin u) ∨ (u ≠ 9223372036854775808 ∧ kind u = 4 ∧ Flt.Fin u) := by
  cases hn : Flt.nan u
  · have h1 := Re.not_nan hn
    by_cases hi : u % 9223372036854775808 = 9218868437227405312
    · by_cases hneg : u < 9223372036854775808
      · right; left
        exact ⟨by omega, by unfold kind; rw [if_neg h1, if_pos hi, if_pos hneg]⟩
      · right; right; left
        exact ⟨by omega, by unfold kind; rw [if_neg h1, if_pos hi, if_neg hneg]⟩
    · right; right; right
      by_cases hz : u = 9223372036854775808
      · left
        exact ⟨hz, by unfold kind; rw [if_neg h1, if_neg hi, if_pos hz], fin_small (by omega)⟩
      · right
        exact ⟨hz, kind_finite (by omega) hz, fin_small (by omega)⟩
  · left
    exact ⟨rfl, kind_nan hn⟩

theorem cnt_two (a b : Nat) : cnt [a, b] = bump (bump ⟨0, 0, 0, 0, 0⟩ a) b := rfl
theorem sm_two (a b : Nat) : sm [a, b] = sumStep (sumStep 0 a) b := rfl
theorem fadd (a b : Nat) : floatBits .add .f64 a b = ((double.read a).sum (double.read b)).map double.write := rfl
theorem fadd_nan {a b : Nat} (h : Flt.nan a = true ∨ Flt.nan b = true) : floatBits .add .f64 a b = none := by
  have key : ∀ x, Flt.nan x = true → ∃ s p, double.read x = .nan s p := fun x hx => ⟨_, _, Flt.read_nan (by simpa [Flt.nan] using hx)⟩
  rw [fadd]
  rcases h with h | h
  · obtain ⟨s, p, e⟩ := key a h
    rw [e]; rfl
  · obtain ⟨s, p, e⟩ := key b h
    rw [e]
    cases double.read a <;> rfl
theorem zero_neg {u : Nat} (hu : u < 18446744073709551616) (hn : Flt.neg u = true) (hz : Flt.fv u = 0) : u = 9223372036854775808 := by
  unfold Flt.fv Flt.sv at hz
  rw [hn, if_pos rfl] at hz
  have h1 : Flt.mag (Flt.rung u) = 0 := by omega
  have h2 : Flt.rung u = 0 := Flt.mag_inj (h1.trans Flt.mag_zero.symm)
  unfold Flt.rung at h2
  unfold Flt.neg at hn
  rw [beq_iff_eq] at hn
  omega
theorem neg_le {u : Nat} (hn : Flt.neg u = true) : Flt.fv u ≤ 0 := by
  unfold Flt.fv Flt.sv
  rw [hn, if_pos rfl]
  omega
theorem fin_two {a b : Nat} (ha : a < 18446744073709551616) (hb : b < 18446744073709551616) (fa : Flt.Fin a) (fb : Flt.Fin b) (hk : ¬ (a = 9223372036854775808 ∧ b = 9223372036854775808)) :
    double.word (if Flt.fv a + Flt.fv b = 0 then Flt.neg a && Flt.neg b else decide (Flt.fv a + Flt.fv b < 0)) (roundB (Flt.fv a + Flt.fv b).natAbs) = sgnR (Flt.fv a + Flt.fv b) := by
  rw [sgn_word]
  congr 1
  by_cases hS : Flt.fv a + Flt.fv b = 0
  · rw [if_pos hS, hS]
    cases na : Flt.neg a
    · rfl
    · cases nb : Flt.neg b
      · rfl
      · have h1 := neg_le na
        have h2 := neg_le nb
        exact absurd ⟨zero_neg ha na (by omega), zero_neg hb nb (by omega)⟩ hk
  · rw [if_neg hS]
theorem fv_zero_neg : Flt.fv 9223372036854775808 = 0 := by decide +kernel

/-- Of two: the floats' own sum, or none where that is no number. -/
theorem sum_two {a b : Nat} (ha : a < 18446744073709551616) (hb : b < 18446744073709551616) :
    (∃ r, floatBits .add .f64 a b = some r ∧ r < 18446744073709551616 ∧ canW r = sumW [a, b]) ∨ (floatBits .add .f64 a b = none ∧ sumW [a, b] = 9221120237041090561) := by
  have hcan : ∀ r, Flt.nan r = false → canW r = r := fun r h => by unfold canW; rw [h]; rfl
  have rinf : ∀ s : Bool, double.write (.infinity s) = if s = true then 18442240474082181120 else 9218868437227405312 := fun s => by
    cases s <;> decide +kernel
  rw [sumW_eq, cnt_two, sm_two]
  rcases kinds ha with ⟨na, ka⟩ | ⟨ea, ka⟩ | ⟨ea, ka⟩ | ⟨ea, ka, fa⟩ | ⟨ea, ka, fa⟩
  · right
    refine ⟨fadd_nan (.inl na), ?_⟩
    have : bump ⟨0, 0, 0, 0, 0⟩ a = ⟨1, 0, 0, 0, 0⟩ := by unfold bump; rw [if_pos ka]
    rw [this]
    rcases kinds hb with ⟨-, kb⟩ | ⟨-, kb⟩ | ⟨-, kb⟩ | ⟨-, kb, -⟩ | ⟨-, kb, -⟩ <;> (unfold bump; rw [kb]; rfl)
  · have ra : double.read a = .infinity false := by rw [ea]; decide +kernel
    have hba : bump ⟨0, 0, 0, 0, 0⟩ a = ⟨0, 0, 1, 0, 0⟩ := by unfold bump; rw [ka]; rfl
    rw [hba]
    rcases kinds hb with ⟨nb, kb⟩ | ⟨eb, kb⟩ | ⟨eb, kb⟩ | ⟨eb, kb, fb⟩ | ⟨eb, kb, fb⟩
    · right
      exact ⟨fadd_nan (.inr nb), by unfold bump; rw [kb]; rfl⟩
    · left
      refine ⟨9218868437227405312, ?_, by decide, ?_⟩
      · rw [fadd, ra, eb, show double.read 9218868437227405312 = .infinity false by decide +kernel]; decide +kernel
      · rw [hcan _ (by decide +kernel)]; unfold bump; rw [kb]; simp
    · right
      refine ⟨?_, ?_⟩
      · rw [fadd, ra, eb, show double.read 18442240474082181120 = .infinity true by decide +kernel]; rfl
      · unfold bump; rw [kb]; rfl
    · left
      obtain ⟨m, e, hr, -⟩ := Flt.read_num fb
      refine ⟨9218868437227405312, ?_, by decide, ?_⟩
      · rw [fadd, ra, hr]; show some (double.write (.infinity false)) = _; rw [rinf]; rfl
      · rw [hcan _ (by decide +kernel)]; unfold bump; rw [kb]; simp
    · left
      obtain ⟨m, e, hr, -⟩ := Flt.read_num fb
      refine ⟨9218868437227405312, ?_, by decide, ?_⟩
      · rw [fadd, ra, hr]; show some (double.write (.infinity false)) = _; rw [rinf]; rfl
      · rw [hcan _ (by decide +kernel)]; unfold bump; rw [kb]; simp
  · have ra : double.read a = .infinity true := by rw [ea]; decide +kernel
    have hba : bump ⟨0, 0, 0, 0, 0⟩ a = ⟨0, 1, 0, 0, 0⟩ := by unfold bump; rw [ka]; rfl
    rw [hba]
    rcases kinds hb with ⟨nb, kb⟩ | ⟨eb, kb⟩ | ⟨eb, kb⟩ | ⟨eb, kb, fb⟩ | ⟨eb, kb, fb⟩
    · right
      exact ⟨fadd_nan (.inr nb), by unfold bump; rw [kb]; rfl⟩
    · right
      refine ⟨?_, ?_⟩
      · rw [fadd, ra, eb, show double.read 9218868437227405312 = .infinity false by decide +kernel]; rfl
      · unfold bump; rw [kb]; rfl
    · left
      refine ⟨18442240474082181120, ?_, by decide, ?_⟩
      · rw [fadd, ra, eb, show double.read 18442240474082181120 = .infinity true by decide +kernel]; decide +kernel
      · rw [hcan _ (by decide +kernel)]; unfold bump; rw [kb]; simp
    · left
      obtain ⟨m, e, hr, -⟩ := Flt.read_num fb
      refine ⟨18442240474082181120, ?_, by decide, ?_⟩
      · rw [fadd, ra, hr]; show some (double.write (.infinity true)) = _; rw [rinf]; rfl
      · rw [hcan _ (by decide +kernel)]; unfold bump; rw [kb]; simp
    · left
      obtain ⟨m, e, hr, -⟩ := Flt.read_num fb
      refine ⟨18442240474082181120, ?_, by decide, ?_⟩
      · rw [fadd, ra, hr]; show some (double.write (.infinity true)) = _; rw [rinf]; rfl
      · rw [hcan _ (by decide +kernel)]; unfold bump; rw [kb]; simp
  · have hba : bump ⟨0, 0, 0, 0, 0⟩ a = ⟨0, 0, 0, 0, 1⟩ := by unfold bump; rw [ka]; rfl
    rw [hba]
    obtain ⟨m, e, hra, -⟩ := Flt.read_num fa
    rcases kinds hb with ⟨nb, kb⟩ | ⟨eb, kb⟩ | ⟨eb, kb⟩ | ⟨eb, kb, fb⟩ | ⟨eb, kb, fb⟩
    · right
      exact ⟨fadd_nan (.inr nb), by unfold bump; rw [kb]; rfl⟩
    · left
      refine ⟨9218868437227405312, ?_, by decide, ?_⟩
      · rw [fadd, hra, eb, show double.read 9218868437227405312 = .infinity false by decide +kernel]; show some (double.write (.infinity false)) = _; rw [rinf]; rfl
      · rw [hcan _ (by decide +kernel)]; unfold bump; rw [kb]; simp
    · left
      refine ⟨18442240474082181120, ?_, by decide, ?_⟩
      · rw [fadd, hra, eb, show double.read 18442240474082181120 = .infinity true by decide +kernel]; show some (double.write (.infinity true)) = _; rw [rinf]; rfl
      · rw [hcan _ (by decide +kernel)]; unfold bump; rw [kb]; simp
    · left
      refine ⟨9223372036854775808, ?_, by decide, ?_⟩
      · rw [ea, eb]; decide +kernel
      · rw [hcan _ (by decide +kernel)]; unfold bump; rw [kb]; simp
    · left
      refine ⟨_, add_round fa fb, ?_, ?_⟩
      · exact Flt.word_lt _ (Nat.lt_of_le_of_lt (round_le _) (by decide))
      · rw [hcan _ (word_not_nan _ _), fin_two ha hb fa fb (fun h => eb h.2)]
        have hs : sumStep (sumStep 0 a) b = Flt.fv a + Flt.fv b := by
          unfold sumStep
          rw [ka, kb, if_pos rfl, if_neg (by decide), fin_fv hb, ea, fv_zero_neg]
        rw [hs]
        unfold bump; rw [kb]; simp
  · have hba : bump ⟨0, 0, 0, 0, 0⟩ a = ⟨0, 0, 0, 1, 0⟩ := by unfold bump; rw [ka]; rfl
    rw [hba]
    obtain ⟨m, e, hra, -⟩ := Flt.read_num fa
    rcases kinds hb with ⟨nb, kb⟩ | ⟨eb, kb⟩ | ⟨eb, kb⟩ | ⟨eb, kb, fb⟩ | ⟨eb, kb, fb⟩
    · right
      exact ⟨fadd_nan (.inr nb), by unfold bump; rw [kb]; rfl⟩
    · left
      refine ⟨9218868437227405312, ?_, by decide, ?_⟩
      · rw [fadd, hra, eb, show double.read 9218868437227405312 = .infinity false by decide +kernel]; show some (double.write (.infinity false)) = _; rw [rinf]; rfl
      · rw [hcan _ (by decide +kernel)]; unfold bump; rw [kb]; simp
    · left
      refine ⟨18442240474082181120, ?_, by decide, ?_⟩
      · rw [fadd, hra, eb, show double.read 18442240474082181120 = .infinity true by decide +kernel]; show some (double.write (.infinity true)) = _; rw [rinf]; rfl
      · rw [hcan _ (by decide +kernel)]; unfold bump; rw [kb]; simp
    · left
      refine ⟨_, add_round fa fb, ?_, ?_⟩
      · exact Flt.word_lt _ (Nat.lt_of_le_of_lt (round_le _) (by decide))
      · rw [hcan _ (word_not_nan _ _), fin_two ha hb fa fb (fun h => ea h.1)]
        have hs : sumStep (sumStep 0 a) b = Flt.fv a + Flt.fv b := by
          unfold sumStep
          rw [ka, kb, if_neg (by decide), if_pos rfl, fin_fv ha, eb, fv_zero_neg]; omega
        rw [hs]
        unfold bump; rw [kb]; simp
    · left
      refine ⟨_, add_round fa fb, ?_, ?_⟩
      · exact Flt.word_lt _ (Nat.lt_of_le_of_lt (round_le _) (by decide))
      · rw [hcan _ (word_not_nan _ _), fin_two ha hb fa fb (fun h => ea h.1)]
        have hs : sumStep (sumStep 0 a) b = Flt.fv a + Flt.fv b := by
          unfold sumStep
          rw [ka, kb, if_pos rfl, if_pos rfl, fin_fv ha, fin_fv hb]; omega
        rw [hs]
        unfold bump; rw [kb]; simp

/-! ### whole numbers -/
theorem int_num (z : Int) (P : Nat) : Flt.Num P (.number (decide (z < 0)) z.natAbs 0) (decide (z < 0)) (z.natAbs * 2 ^ P) := ⟨z.natAbs, 0, rfl, by omega, by rw [Int.zero_add, Int.toNat_natCast]⟩
theorem int_round (z : Int) : floatOfInt .f64 z = double.word (decide (z < 0)) (roundB (z.natAbs * Flt.U)) := by
  have h : Flt.Num 1074 (.number (decide (z < 0)) z.natAbs 0) (decide (z < 0)) (z.natAbs * Flt.U) := Flt.num_at rfl _ _
  exact write_round h
theorem int_fin {z : Int} (h : z.natAbs ≤ 2 ^ 53) : kind (floatOfInt .f64 z) = 4 ∧ fin (floatOfInt .f64 z) = z * (Flt.U : Int) ∧ floatOfInt .f64 z < 18446744073709551616 := by
  obtain ⟨R, hR, hm⟩ := Flt.rep_U h
  have e : floatOfInt .f64 z = double.word (decide (z < 0)) R := by
    rw [int_round]
    have : z.natAbs * Flt.U = Flt.mag R := hm.symm
    rw [this, round_mag (Nat.le_of_lt hR)]
  have hlt : floatOfInt .f64 z < 18446744073709551616 := by rw [e]; exact Flt.word_lt _ (by omega)
  have hfv : Flt.fv (floatOfInt .f64 z) = z * (Flt.U : Int) := by
    rw [e, Flt.word_fv _ (by omega), hm, Flt.sv_mul]
    congr 1
    unfold Flt.sv
    by_cases hz : z < 0
    · rw [if_pos (decide_eq_true hz)]; omega
    · rw [if_neg (by rw [decide_eq_true_eq]; exact hz)]; omega
  refine ⟨?_, by rw [fin_fv hlt, hfv], hlt⟩
  have hr : Flt.rung (floatOfInt .f64 z) = R := by rw [e]; exact Flt.word_rung _ (by omega)
  have hneg : Flt.neg (floatOfInt .f64 z) = decide (z < 0) := by rw [e]; exact Flt.word_neg _ (by omega)
  refine kind_finite (by unfold Flt.rung at hr; omega) fun h0 => ?_
  rw [h0] at hr hneg
  have h1 : R = 0 := by rw [← hr]; decide
  rw [h1, Flt.mag_zero] at hm
  have hU := Flt.U_pos
  have h2 : z.natAbs = 0 := by
    rcases Nat.mul_eq_zero.1 hm.symm with h | h
    · exact h
    · omega
  have h3 : z = 0 := by omega
  rw [h3] at hneg
  exact absurd hneg (by decide)
def tot (zs : List Int) : Int := zs.foldl (· + ·) 0
theorem foldl_add (zs : List Int) : ∀ a : Int, zs.foldl (· + ·) a = zs.foldl (· + ·) 0 + a := by
  induction zs with
  | nil => intro a; simp
  | cons x r ih =>
    intro a
    simp only [List.foldl_cons]
    rw [ih (a + x), ih (0 + x)]
    omega
theorem sum_ints {zs : List Int} (h : ∀ z ∈ zs, z.natAbs ≤ 2 ^ 53) : sumW (zs.map (floatOfInt .f64)) = floatOfInt .f64 (tot zs) ∧ Flt.nan (floatOfInt .f64 (tot zs)) = false := by
  have hc : ∀ (l : List Int), (∀ z ∈ l, z.natAbs ≤ 2 ^ 53) → ∀ s : Sm.Sn, (l.map (floatOfInt .f64)).foldl bump s = { s with o := s.o + l.length } := by
    intro l
    induction l with
    | nil => intro _ s; rfl
    | cons x r ih =>
      intro hl s
      simp only [List.map_cons, List.foldl_cons, List.length_cons]
      rw [bump_o _ (int_fin (hl x (by simp))).1, ih (fun z hz => hl z (by simp [hz]))]
      simp only
      congr 1
      omega
  have hs : ∀ (l : List Int), (∀ z ∈ l, z.natAbs ≤ 2 ^ 53) → sm (l.map (floatOfInt .f64)) = tot l * (Flt.U : Int) := by
    intro l
    induction l with
    | nil => intro _; simp [sm, tot]
    | cons x r ih =>
      intro hl
      have hx := int_fin (hl x (by simp))
      have ihr := ih (fun z hz => hl z (by simp [hz]))
      unfold sm tot at *
      simp only [List.map_cons, List.foldl_cons]
      rw [sm_from, ihr, foldl_add r (0 + x)]
      unfold sumStep
      rw [if_pos hx.1, hx.2.1, Int.zero_add, Int.zero_add, Int.add_mul]
  have h1 := hc zs h ⟨0, 0, 0, 0, 0⟩
  have h2 := hs zs h
  refine ⟨?_, by rw [int_round]; exact word_not_nan _ _⟩
  have hab : (tot zs * (Flt.U : Int)).natAbs = (tot zs).natAbs * Flt.U := by
    rw [Int.natAbs_mul, Int.natAbs_natCast]
  have hU : (0 : Int) < (Flt.U : Int) := by have := Flt.U_pos; omega
  have hneg : decide (tot zs * (Flt.U : Int) < 0) = decide (tot zs < 0) := by
    rw [decide_eq_decide]
    constructor
    · intro h3
      refine Int.lt_of_not_ge fun h4 => ?_
      have := Int.mul_nonneg h4 (Int.le_of_lt hU)
      omega
    · intro h3
      exact Int.mul_neg_of_neg_of_pos h3 hU
  rw [sumW_eq]
  unfold cnt
  rw [h1, h2]
  rw [sgn_word, hneg, hab, ← int_round]
  simp

/-- A sum of two by the machine: its number, the world behind it. -/
def nanW (a b : Nat) (w : World) : Nat := (Question.nanBits .f64 a b).cut (w.tape w.drawn (.nanBits .f64 a b))
theorem nanW_nan (a b : Nat) (w : World) : Flt.nan (nanW a b w) = true := by
  have key : ∀ v u : Nat, v < 2 → u < 2 ^ 52 - 1 → Flt.nan (v * 2 ^ 63 + 0x7ff0000000000000 + 1 + u) = true := fun v u hv hu => by
    unfold Flt.nan Flt.rung
    rw [decide_eq_true_eq]
    omega
  exact key _ _ (Nat.mod_lt _ (by decide)) (Nat.mod_lt _ (by decide))
theorem run_add_nan (P : Program) (t : TypeId) (a b : Nat) (h : floatBits .add .f64 a b = none) (w : World) :
    (binOp .add t (.float .f64 a) (.float .f64 b)).run P w = .ok (.float .f64 (nanW a b w)) w.drew := by
  unfold floatBits at h
  have hf : (Question.nanBits .f64 a b).forced = false := rfl
  simp only at h
  simp [binOp, Op.floatArith, h, hf, nanW]
theorem run_add (P : Program) (t : TypeId) {a b : Nat} (ha : a < 18446744073709551616) (hb : b < 18446744073709551616) (w : World) :
    ∃ r w', (binOp .add t (.float .f64 a) (.float .f64 b)).run P w = .ok (.float .f64 r) w' ∧ canW r = sumW [a, b] ∧ (w' = w ∨ w' = w.drew) := by
  rcases sum_two ha hb with ⟨r, h1, -, h2⟩ | ⟨h1, h2⟩
  · exact ⟨r, w, run_float_arith w .add t .f64 a b r h1, h2, .inl rfl⟩
  · refine ⟨nanW a b w, w.drew, run_add_nan P t a b h1 w, ?_, .inr rfl⟩
    rw [h2]
    unfold canW
    rw [nanW_nan, if_pos rfl]
end Go.Proofs.YtemjlkmlodmmfaaGreatDoor.Rn

/- PLAIN: a product of two whole floats. By an AI agent. -/
namespace Go.Proofs.YtemjlkmlodmmfaaGreatDoor.Us
open Go Go.Proofs.YtemjlkmlodmmfaaGreatDoor Ieee
set_option linter.unusedVariables false

theorem unit_pow : ∃ P : Nat, P = 1074 ∧ Flt.U = 2 ^ P := by
  have key : ∀ e : Nat, e = 1074 → ∃ P : Nat, P = 1074 ∧ Flt.U = 2 ^ P := fun e h => ⟨e, h, Flt.U_at h⟩
  exact key 1074 rfl
/-- How a float that is a whole number reads. -/
theorem read_whole {a x : Nat} (fa : Flt.Fin a) (ha : Flt.mag (Flt.rung a) = x * Flt.U) (hx : 1 ≤ x) : ∃ (m : Nat) (e : Int), double.read a = .number (Flt.neg a) m e ∧ -53 ≤ e ∧ m * 2 ^ (e + 1074).toNat = x * Flt.U ∧ m < 2 ^ 53 := by
  obtain ⟨m, e, h1, h2, h3, h4⟩ := Flt.read_num' fa
  obtain ⟨P, hP, hU⟩ := unit_pow
  rw [show ((1074 : Nat) : Int) = 1074 from rfl] at h2 h3
  rw [ha] at h3
  refine ⟨m, e, h1, ?_, h3, h4⟩
  refine Int.le_of_not_gt fun hlt => ?_
  rw [hU] at h3
  have c1 : m * 2 ^ (e + 1074).toNat < 2 ^ 53 * 2 ^ (e + 1074).toNat := Nat.mul_lt_mul_of_pos_right h4 (Nat.two_pow_pos _)
  rw [← Nat.pow_add] at c1
  have c2 : 2 ^ (53 + (e + 1074).toNat) ≤ 2 ^ P := Nat.pow_le_pow_right (by decide) (by omega)
  have c3 : 1 * 2 ^ P ≤ x * 2 ^ P := Nat.mul_le_mul_right _ hx
  omega
theorem mul_word {a b x y : Nat} (fa : Flt.Fin a) (fb : Flt.Fin b) (ha : Flt.mag (Flt.rung a) = x * Flt.U) (hb : Flt.mag (Flt.rung b) = y * Flt.U) (hx : 1 ≤ x) (hy : 1 ≤ y) :
    double.mul a b = some (double.word (Flt.neg a ^^ Flt.neg b) (Sm.roundB (x * y * Flt.U))) := by
  obtain ⟨m, i, r1, i1, v1, -⟩ := read_whole fa ha hx
  obtain ⟨n, j, r2, j1, v2, -⟩ := read_whole fb hb hy
  have hU := Flt.U_pos
  obtain ⟨P, hP, hUP⟩ := unit_pow
  unfold Format.mul
  rw [r1, r2]
  refine congrArg some (Rn.write_round ⟨m * n, i + j, rfl, by omega, ?_⟩)
  refine Nat.eq_of_mul_eq_mul_right hU ?_
  generalize Flt.U = UU at *
  have e1 : (i + j + ((1074 : Nat) : Int)).toNat + P = (i + 1074).toNat + (j + 1074).toNat := by omega
  calc m * n * 2 ^ (i + j + ((1074 : Nat) : Int)).toNat * UU = m * n * (2 ^ (i + j + ((1074 : Nat) : Int)).toNat * 2 ^ P) := by rw [hUP, Nat.mul_assoc]
    _ = m * n * (2 ^ (i + 1074).toNat * 2 ^ (j + 1074).toNat) := by rw [← Nat.pow_add, e1, Nat.pow_add]
    _ = (m * 2 ^ (i + 1074).toNat) * (n * 2 ^ (j + 1074).toNat) := by ac_rfl
    _ = x * UU * (y * UU) := by rw [v1, v2]
    _ = x * y * UU * UU := by ac_rfl

/-- Digits times a power of ten that is whole, in a float's reach: rounded to it. -/
theorem whole_within {u d k : Nat} (hk : exb u < 2047) (hm : Sm.mant u ≠ 0) (W : Within (Sm.mant u) (E0 u) (lw u) d k) : Sm.roundB (d * 10 ^ k * Flt.U) = u % 9223372036854775808 := by
  have F := flo_of hk hm
  obtain ⟨P, hP, hU⟩ := unit_pow
  have hE0 := F.e0
  generalize Flt.U = UU at *
  obtain ⟨w, hw⟩ : ∃ w : Nat, (w : Int) = E0 u + 1074 := ⟨(E0 u + 1074).toNat, by omega⟩
  have hnum : num (k : Int) (2 - E0 u) * 2 ^ w * 1 = 4 * (10 ^ k * UU) * den (k : Int) (2 - E0 u) := by
    unfold num den
    rw [Int.toNat_natCast, show (-(k : Int)).toNat = 0 by omega, Nat.pow_zero, Nat.one_mul, Nat.mul_one, hU]
    have e : 2 ^ (2 - E0 u).toNat * 2 ^ w = 2 ^ 2 * 2 ^ P * 2 ^ (-(2 - E0 u)).toNat := by
      rw [← Nat.pow_add, ← Nat.pow_add, ← Nat.pow_add]
      congr 1
      omega
    have e4 : (2 : Nat) ^ 2 = 4 := by decide
    rw [e4] at e
    generalize 10 ^ k = T
    calc T * 2 ^ (2 - E0 u).toNat * 2 ^ w = T * (2 ^ (2 - E0 u).toNat * 2 ^ w) := Nat.mul_assoc ..
      _ = T * (4 * 2 ^ P * 2 ^ (-(2 - E0 u)).toNat) := by rw [e]
      _ = 4 * (T * 2 ^ P) * 2 ^ (-(2 - E0 u)).toNat := by ac_rfl
  rw [Nat.mul_one] at hnum
  have hB := den_pos (k : Int) (2 - E0 u)
  have h2w := Nat.two_pow_pos w
  have hV : d * num (k : Int) (2 - E0 u) * 2 ^ w = 4 * (d * 10 ^ k * UU) * den (k : Int) (2 - E0 u) := by
    rw [Nat.mul_assoc, hnum]
    ac_rfl
  have key : ∀ c, (c * den (k : Int) (2 - E0 u) ≤ d * num (k : Int) (2 - E0 u) ↔ c * 2 ^ w ≤ 4 * (d * 10 ^ k * UU)) ∧ (d * num (k : Int) (2 - E0 u) ≤ c * den (k : Int) (2 - E0 u) ↔ 4 * (d * 10 ^ k * UU) ≤ c * 2 ^ w) := by
    intro c
    have s : c * den (k : Int) (2 - E0 u) * 2 ^ w = c * 2 ^ w * den (k : Int) (2 - E0 u) := Nat.mul_right_comm ..
    constructor
    · exact (Nat.mul_le_mul_right_iff h2w).symm.trans ((by rw [s, hV] : c * den (k : Int) (2 - E0 u) * 2 ^ w ≤ d * num (k : Int) (2 - E0 u) * 2 ^ w ↔ c * 2 ^ w * den (k : Int) (2 - E0 u) ≤ 4 * (d * 10 ^ k * UU) * den (k : Int) (2 - E0 u)).trans (Nat.mul_le_mul_right_iff hB))
    · exact (Nat.mul_le_mul_right_iff h2w).symm.trans ((by rw [s, hV] : d * num (k : Int) (2 - E0 u) * 2 ^ w ≤ c * den (k : Int) (2 - E0 u) * 2 ^ w ↔ 4 * (d * 10 ^ k * UU) * den (k : Int) (2 - E0 u) ≤ c * 2 ^ w * den (k : Int) (2 - E0 u)).trans (Nat.mul_le_mul_right_iff hB))
  have R := round_within (V := d * 10 ^ k * UU) F hw (fun h => ⟨(key _).1.1 (W.1 h).1, (key _).2.1 (W.1 h).2⟩) (fun h => by
    have a := W.2 h
    refine ⟨Nat.lt_of_not_le fun h3 => ?_, Nat.lt_of_not_le fun h3 => ?_⟩
    · have := (key _).2.2 h3; omega
    · have := (key _).1.2 h3; omega)
  rw [R]
  unfold E0 at hw
  unfold Sm.mant exb at *
  by_cases h0 : u / 2 ^ 52 % 2048 = 0
  · rw [if_pos h0] at hw ⊢
    omega
  · rw [if_neg h0] at hw ⊢
    omega
end Go.Proofs.YtemjlkmlodmmfaaGreatDoor.Us

/- PLAIN: a quotient of two whole floats, in a float's reach. By an AI agent. -/
namespace Go.Proofs.YtemjlkmlodmmfaaGreatDoor.Us
open Go Go.Proofs.YtemjlkmlodmmfaaGreatDoor Ieee
set_option linter.unusedVariables false

/-- A quotient with its rest's mark, twice. -/
def two (D n : Nat) : Nat := 2 * (D / n) + (D % n != 0).toNat
theorem two_says {D n : Nat} (hn : 0 < n) (Z : Nat) : (Z * n ≤ D → 2 * Z ≤ two D n) ∧ (Z * n < D → 2 * Z < two D n) ∧ (D ≤ Z * n → two D n ≤ 2 * Z) ∧ (D < Z * n → two D n < 2 * Z) := by
  have e := Nat.div_add_mod D n
  have l := Nat.mod_lt D hn
  rw [Nat.mul_comm] at e
  unfold two
  have hb : (D % n != 0).toNat ≤ 1 := by cases (D % n != 0) <;> simp
  have hb1 : D % n ≠ 0 → (D % n != 0).toNat = 1 := fun h => by
    have : (D % n != 0) = true := by rw [bne_iff_ne]; exact h
    rw [this]; rfl
  have hb0 : D % n = 0 → (D % n != 0).toNat = 0 := fun h => by rw [h]; rfl
  generalize (D % n != 0).toNat = s at *
  generalize D % n = r at *
  generalize D / n = q at *
  refine ⟨fun h => ?_, fun h => ?_, fun h => ?_, fun h => ?_⟩
  · have : Z ≤ q := by
      refine Nat.le_of_not_lt fun h2 => ?_
      have := Nat.mul_le_mul_right n (show q + 1 ≤ Z from h2)
      rw [Nat.add_mul, Nat.one_mul] at this; omega
    omega
  · have h1 : Z ≤ q := by
      refine Nat.le_of_not_lt fun h2 => ?_
      have := Nat.mul_le_mul_right n (show q + 1 ≤ Z from h2)
      rw [Nat.add_mul, Nat.one_mul] at this; omega
    by_cases h2 : Z = q
    · subst h2
      have := hb1 (by omega)
      omega
    · omega
  · have h1 : q ≤ Z := by
      refine Nat.le_of_not_lt fun h2 => ?_
      have := Nat.mul_le_mul_right n (show Z + 1 ≤ q from h2)
      rw [Nat.add_mul, Nat.one_mul] at this; omega
    by_cases h2 : q = Z
    · subst h2
      have := hb0 (by omega)
      omega
    · omega
  · have h1 : q < Z := by
      refine Nat.lt_of_not_le fun h2 => ?_
      have := Nat.mul_le_mul_right n h2
      omega
    omega

set_option maxRecDepth 4000 in
theorem div_word {a b u d k : Nat} (fa : Flt.Fin a) (fb : Flt.Fin b) (ha : Flt.mag (Flt.rung a) = d * Flt.U) (hb : Flt.mag (Flt.rung b) = 10 ^ k * Flt.U) (hd : 1 ≤ d)
    (hk : exb u < 2047) (hm : Sm.mant u ≠ 0) (W : Within (Sm.mant u) (E0 u) (lw u) d (-(k : Int))) (hk22 : 10 ^ k < 2 ^ 80) : double.div a b = some (double.word (Flt.neg a ^^ Flt.neg b) (u % 9223372036854775808)) := by
  have F := flo_of hk hm
  have hT : 1 ≤ 10 ^ k := Nat.one_le_iff_ne_zero.2 (by have := Nat.pow_pos (a := 10) (n := k) (by decide); omega)
  obtain ⟨m, i, r1, i1, v1, m1⟩ := read_whole fa ha hd
  obtain ⟨n, j, r2, j1, v2, n1⟩ := read_whole fb hb hT
  obtain ⟨P, hP, hUP⟩ := unit_pow
  have hE0 := F.e0
  have hm2 := F.m2
  obtain ⟨w, hw⟩ : ∃ w : Nat, (w : Int) = E0 u + 1074 := ⟨(E0 u + 1074).toNat, by omega⟩
  have hU := Flt.U_pos
  have hmp : m ≠ 0 := fun h => by rw [h, Nat.zero_mul] at v1; rcases Nat.mul_eq_zero.1 v1.symm with h2 | h2 <;> omega
  have hnp : n ≠ 0 := fun h => by rw [h, Nat.zero_mul] at v2; rcases Nat.mul_eq_zero.1 v2.symm with h2 | h2 <;> omega
  -- the divisor's place is small
  have hj : j ≤ 80 := by
    refine Int.le_of_not_gt fun hlt => ?_
    have c1 : 1 * 2 ^ (j + 1074).toNat ≤ n * 2 ^ (j + 1074).toNat := Nat.mul_le_mul_right _ (by omega)
    rw [v2, Nat.one_mul, hUP] at c1
    have c2 : 10 ^ k * 2 ^ P < 2 ^ 80 * 2 ^ P := Nat.mul_lt_mul_of_pos_right hk22 (Nat.two_pow_pos P)
    rw [← Nat.pow_add] at c2
    have c3 : 2 ^ (80 + P) ≤ 2 ^ (j + 1074).toNat := Nat.pow_le_pow_right (by decide) (by omega)
    omega
  have lm1 : 2 ^ Nat.log2 m ≤ m := Nat.log2_self_le hmp
  have lm2 : m < 2 ^ (Nat.log2 m + 1) := Nat.lt_log2_self
  have ln1 : 2 ^ Nat.log2 n ≤ n := Nat.log2_self_le hnp
  have ln2 : n < 2 ^ (Nat.log2 n + 1) := Nat.lt_log2_self
  have hlm : Nat.log2 m ≤ 52 := by
    refine Nat.le_of_not_lt fun h => ?_
    have : 2 ^ 53 ≤ 2 ^ Nat.log2 m := Nat.pow_le_pow_right (by decide) (by omega)
    omega
  have hln : Nat.log2 n ≤ 52 := by
    refine Nat.le_of_not_lt fun h => ?_
    have : 2 ^ 53 ≤ 2 ^ Nat.log2 n := Nat.pow_le_pow_right (by decide) (by omega)
    omega
  have hdiv : double.div a b = some (double.write (.number (Flt.neg a ^^ Flt.neg b) (two (m * 2 ^ (54 + Nat.log2 n - Nat.log2 m)) n) (i - j - ((54 + Nat.log2 n - Nat.log2 m : Nat) : Int) - 1))) := by
    unfold Format.div
    rw [r1, r2, Flt.fb]
    unfold Datum.quotient
    simp only
    rw [if_neg hnp, Nat.shiftLeft_eq]
    rfl
  rw [hdiv]
  have hD1 : 2 ^ (54 + Nat.log2 n) ≤ m * 2 ^ (54 + Nat.log2 n - Nat.log2 m) := by
    have := Nat.mul_le_mul_right (2 ^ (54 + Nat.log2 n - Nat.log2 m)) lm1
    rw [← Nat.pow_add, show Nat.log2 m + (54 + Nat.log2 n - Nat.log2 m) = 54 + Nat.log2 n by omega] at this
    exact this
  generalize hmo : 54 + Nat.log2 n - Nat.log2 m = more at *
  have hmo2 : more ≤ 106 := by omega
  obtain ⟨t, ht⟩ : ∃ t : Nat, (t : Int) = i - j - (more : Int) - 1 + 1074 := ⟨(i - j - (more : Int) - 1 + 1074).toNat, by omega⟩
  rw [Rn.write_round (s := Flt.neg a ^^ Flt.neg b) (M := two (m * 2 ^ more) n * 2 ^ t) ⟨_, _, rfl, by omega, by rw [show (i - j - (more : Int) - 1 + ((1074 : Nat) : Int)).toNat = t by omega]⟩]
  congr 2
  have hDn : 2 ^ 53 * n < m * 2 ^ more := by
    have : 2 ^ 53 * n < 2 ^ 53 * 2 ^ (Nat.log2 n + 1) := Nat.mul_lt_mul_of_pos_left ln2 (by decide)
    rw [← Nat.pow_add, show 53 + (Nat.log2 n + 1) = 54 + Nat.log2 n by omega] at this
    omega
  -- the value, twice
  have hval : m * 2 ^ more * 2 ^ (t + 1) * 10 ^ k = n * (d * Flt.U) := by
    refine Nat.eq_of_mul_eq_mul_right (Nat.two_pow_pos (j + 1074).toNat) ?_
    have e1 : 2 ^ more * 2 ^ (t + 1) * 2 ^ (j + 1074).toNat = 2 ^ P * 2 ^ (i + 1074).toNat := by
      rw [← Nat.pow_add, ← Nat.pow_add, ← Nat.pow_add]
      congr 1
      omega
    rw [← v1]
    have v2' : n * 2 ^ (j + 1074).toNat = 10 ^ k * 2 ^ P := by rw [v2, hUP]
    generalize 2 ^ (j + 1074).toNat = J at *
    generalize 2 ^ (i + 1074).toNat = I at *
    generalize 2 ^ more = M at *
    generalize 2 ^ (t + 1) = T at *
    generalize 2 ^ P = PP at *
    generalize 10 ^ k = K at *
    calc m * M * T * K * J = m * K * (M * T * J) := by ac_rfl
      _ = m * K * (PP * I) := by rw [e1]
      _ = K * PP * (m * I) := by ac_rfl
      _ = n * J * (m * I) := by rw [v2']
      _ = n * (m * I) * J := by ac_rfl
  -- the reach, in these units
  have hkey : ∀ c, (c * den (-(k : Int)) (2 - E0 u) ≤ d * num (-(k : Int)) (2 - E0 u) ↔ c * (10 ^ k * 2 ^ w) ≤ d * (4 * Flt.U)) ∧ (d * num (-(k : Int)) (2 - E0 u) ≤ c * den (-(k : Int)) (2 - E0 u) ↔ d * (4 * Flt.U) ≤ c * (10 ^ k * 2 ^ w)) := by
    have hx : d * num (-(k : Int)) (2 - E0 u) * (10 ^ k * 2 ^ w) = d * (4 * Flt.U) * den (-(k : Int)) (2 - E0 u) := by
      unfold num den
      rw [Int.neg_neg, Int.toNat_natCast, show (-(k : Int)).toNat = 0 by omega, Nat.pow_zero, Nat.one_mul, hUP]
      have e : 2 ^ (2 - E0 u).toNat * 2 ^ w = 2 ^ 2 * 2 ^ P * 2 ^ (-(2 - E0 u)).toNat := by
        rw [← Nat.pow_add, ← Nat.pow_add, ← Nat.pow_add]
        congr 1
        omega
      have e4 : (2 : Nat) ^ 2 = 4 := by decide
      rw [e4] at e
      generalize 2 ^ (2 - E0 u).toNat = A at *
      generalize 2 ^ (-(2 - E0 u)).toNat = B at *
      generalize 2 ^ w = C at *
      generalize 2 ^ P = PP at *
      generalize 10 ^ k = K at *
      calc d * A * (K * C) = d * K * (A * C) := by ac_rfl
        _ = d * K * (4 * PP * B) := by rw [e]
        _ = d * (4 * PP) * (K * B) := by ac_rfl
    intro c
    have q := le_turn (x := d) (y := d) (den_pos (-(k : Int)) (2 - E0 u)) (Nat.mul_pos hT (Nat.two_pow_pos w)) hx c
    exact ⟨q.1, q.2.1⟩
  generalize m * 2 ^ more = Dv at *
  have hn0 : 0 < n := by omega
  have h2t := Nat.two_pow_pos t
  have hval2 : ∀ c, (c * (10 ^ k * 2 ^ w) ≤ d * (4 * Flt.U) ↔ c * 2 ^ w * n ≤ 8 * Dv * 2 ^ t) ∧ (d * (4 * Flt.U) ≤ c * (10 ^ k * 2 ^ w) ↔ 8 * Dv * 2 ^ t ≤ c * 2 ^ w * n) := by
    intro c
    have e1 : c * (10 ^ k * 2 ^ w) * n = c * 2 ^ w * n * 10 ^ k := by ac_rfl
    have e2 : d * (4 * Flt.U) * n = 8 * Dv * 2 ^ t * 10 ^ k := by
      have e3 : 2 ^ (t + 1) = 2 ^ t * 2 := Nat.pow_succ ..
      rw [e3] at hval
      generalize Flt.U = UU at *
      generalize 2 ^ t = T at *
      generalize 10 ^ k = K at *
      calc d * (4 * UU) * n = 4 * (n * (d * UU)) := by ac_rfl
        _ = 4 * (Dv * (T * 2) * K) := by rw [← hval]
        _ = 4 * 2 * Dv * T * K := by ac_rfl
        _ = 8 * Dv * T * K := rfl
    have hK : 0 < 10 ^ k := hT
    constructor
    · exact (Nat.mul_le_mul_right_iff hn0).symm.trans ((by rw [e1, e2] : c * (10 ^ k * 2 ^ w) * n ≤ d * (4 * Flt.U) * n ↔ c * 2 ^ w * n * 10 ^ k ≤ 8 * Dv * 2 ^ t * 10 ^ k).trans (Nat.mul_le_mul_right_iff hK))
    · exact (Nat.mul_le_mul_right_iff hn0).symm.trans ((by rw [e1, e2] : d * (4 * Flt.U) * n ≤ c * (10 ^ k * 2 ^ w) * n ↔ 8 * Dv * 2 ^ t * 10 ^ k ≤ c * 2 ^ w * n * 10 ^ k).trans (Nat.mul_le_mul_right_iff hK))
  have lo : ∀ c, c * den (-(k : Int)) (2 - E0 u) ≤ d * num (-(k : Int)) (2 - E0 u) ↔ c * 2 ^ w * n ≤ 8 * Dv * 2 ^ t := fun c => (hkey c).1.trans (hval2 c).1
  have up : ∀ c, d * num (-(k : Int)) (2 - E0 u) ≤ c * den (-(k : Int)) (2 - E0 u) ↔ 8 * Dv * 2 ^ t ≤ c * 2 ^ w * n := fun c => (hkey c).2.trans (hval2 c).2
  have hupper : d * num (-(k : Int)) (2 - E0 u) ≤ (4 * Sm.mant u + 2) * den (-(k : Int)) (2 - E0 u) := by
    rcases Nat.mod_two_eq_zero_or_one (Sm.mant u) with h | h
    · exact (W.1 h).2
    · exact Nat.le_of_lt (W.2 h).2
  obtain ⟨g, hg⟩ : ∃ g, w = t + 2 + g := by
    refine ⟨w - t - 2, ?_⟩
    suffices t + 2 ≤ w by omega
    refine Nat.le_of_not_lt fun hlt => ?_
    have q1 := (up _).1 hupper
    have q2 : 2 ^ w ≤ 2 ^ (t + 1) := Nat.pow_le_pow_right (by decide) (by omega)
    have e3 : 2 ^ (t + 1) = 2 ^ t * 2 := Nat.pow_succ ..
    have q3 : (4 * Sm.mant u + 2) * 2 ^ w * n ≤ 36028797018963968 * (2 ^ t * 2) * n := Nat.mul_le_mul_right _ (Nat.mul_le_mul (by omega) (by omega))
    have q4 : 8 * (2 ^ 53 * n) * 2 ^ t < 8 * Dv * 2 ^ t := Nat.mul_lt_mul_of_pos_right (by omega) h2t
    have q5 : 36028797018963968 * (2 ^ t * 2) * n = 8 * (2 ^ 53 * n) * 2 ^ t := by
      have e53 : (2 : Nat) ^ 53 = 9007199254740992 := by decide
      rw [e53]
      calc 36028797018963968 * (2 ^ t * 2) * n = 36028797018963968 * 2 * n * 2 ^ t := by ac_rfl
        _ = 8 * 9007199254740992 * n * 2 ^ t := rfl
        _ = 8 * (9007199254740992 * n) * 2 ^ t := by rw [Nat.mul_assoc 8]
    omega
  have ew : 2 ^ w = 4 * 2 ^ t * 2 ^ g := by rw [hg, Nat.pow_add, Nat.pow_add, Nat.mul_comm (2 ^ t)]
  -- at even bounds
  have ev : ∀ c', (2 * c' * 2 ^ w * n ≤ 8 * Dv * 2 ^ t ↔ c' * 2 ^ g * n ≤ Dv) ∧ (8 * Dv * 2 ^ t ≤ 2 * c' * 2 ^ w * n ↔ Dv ≤ c' * 2 ^ g * n) ∧ (2 * c' * 2 ^ w = 4 * (2 * (c' * 2 ^ g) * 2 ^ t)) := by
    intro c'
    have e1 : 2 * c' * 2 ^ w * n = 8 * 2 ^ t * (c' * 2 ^ g * n) := by
      rw [ew]
      calc 2 * c' * (4 * 2 ^ t * 2 ^ g) * n = 2 * 4 * 2 ^ t * (c' * 2 ^ g * n) := by ac_rfl
        _ = 8 * 2 ^ t * (c' * 2 ^ g * n) := rfl
    have e2 : 8 * Dv * 2 ^ t = 8 * 2 ^ t * Dv := Nat.mul_right_comm ..
    have h8 : 0 < 8 * 2 ^ t := by omega
    refine ⟨?_, ?_, ?_⟩
    · rw [e1, e2]; exact Nat.mul_le_mul_left_iff h8
    · rw [e1, e2]; exact Nat.mul_le_mul_left_iff h8
    · rw [ew]
      ac_rfl
  have S := fun Z => two_says (D := Dv) hn0 Z
  have sc : ∀ x y : Nat, (4 * (x * 2 ^ t) ≤ 4 * (y * 2 ^ t) ↔ x ≤ y) := fun x y => by
    rw [Nat.mul_le_mul_left_iff (by decide : 0 < 4), Nat.mul_le_mul_right_iff h2t]
  have hm1 := F.m1
  have c2 : 4 * Sm.mant u - 2 = 2 * (2 * Sm.mant u - 1) := by omega
  have c3 : 4 * Sm.mant u + 2 = 2 * (2 * Sm.mant u + 1) := by omega
  have hR := round_within (V := two Dv n * 2 ^ t) F hw (fun h => ?_) (fun h => ?_)
  · rw [hR]
    unfold E0 at hw
    unfold Sm.mant exb at *
    by_cases h0 : u / 2 ^ 52 % 2048 = 0
    · rw [if_pos h0] at hw ⊢
      omega
    · rw [if_neg h0] at hw ⊢
      omega
  · have a := W.1 h
    refine ⟨?_, ?_⟩
    · have al := (lo _).1 a.1
      rcases F.l2 with hl | ⟨hl, hmm, -⟩
      · rw [hl, c2] at al ⊢
        rw [(ev _).2.2, sc]
        exact (S _).1 ((ev _).1.1 al)
      · rcases g with _ | g'
        · have q := (S (2 ^ 53)).2.1 hDn
          rw [hl, hmm, ew, Nat.pow_zero, Nat.mul_one]
          have e53 : (2 : Nat) ^ 53 = 9007199254740992 := by decide
          rw [e53] at q
          have := Nat.mul_le_mul_right (2 ^ t) (Nat.le_of_lt q)
          omega
        · have e5 : 2 ^ (g' + 1) = 2 ^ g' * 2 := Nat.pow_succ ..
          have e6 : (4 * Sm.mant u - lw u) * 2 ^ w = 4 * (2 * ((4 * Sm.mant u - lw u) * 2 ^ g') * 2 ^ t) := by
            rw [ew, e5]
            generalize 4 * Sm.mant u - lw u = cc
            ac_rfl
          rw [e6, sc]
          refine (S _).1 ?_
          rw [e6] at al
          have e7 : 4 * (2 * ((4 * Sm.mant u - lw u) * 2 ^ g') * 2 ^ t) * n = 8 * 2 ^ t * ((4 * Sm.mant u - lw u) * 2 ^ g' * n) := by
            generalize 4 * Sm.mant u - lw u = cc
            calc 4 * (2 * (cc * 2 ^ g') * 2 ^ t) * n = 4 * 2 * 2 ^ t * (cc * 2 ^ g' * n) := by ac_rfl
              _ = 8 * 2 ^ t * (cc * 2 ^ g' * n) := rfl
          rw [e7, show 8 * Dv * 2 ^ t = 8 * 2 ^ t * Dv from Nat.mul_right_comm ..] at al
          exact (Nat.mul_le_mul_left_iff (by omega)).1 al
    · have au := (up _).1 a.2
      rw [c3] at au ⊢
      rw [(ev _).2.2, sc]
      exact (S _).2.2.1 ((ev _).2.1.1 au)
  · have a := W.2 h
    have hl : lw u = 2 := by
      rcases F.l2 with hl | ⟨-, hmm, -⟩
      · exact hl
      · omega
    rw [hl] at a ⊢
    refine ⟨Nat.lt_of_not_le fun hle => ?_, Nat.lt_of_not_le fun hle => ?_⟩
    · rw [c2, (ev _).2.2, sc] at hle
      have : ¬ (2 * Sm.mant u - 1) * 2 ^ g * n < Dv := fun h3 => by have := (S _).2.1 h3; omega
      have h4 := (ev (2 * Sm.mant u - 1)).2.1.2 (Nat.le_of_not_lt this)
      rw [← c2] at h4
      have := (up _).2 h4
      omega
    · rw [c3, (ev _).2.2, sc] at hle
      have : ¬ Dv < (2 * Sm.mant u + 1) * 2 ^ g * n := fun h3 => by have := (S _).2.2.2 h3; omega
      have h4 := (ev (2 * Sm.mant u + 1)).1.2 (Nat.le_of_not_lt this)
      rw [← c3] at h4
      have := (lo _).2 h4
      omega
end Go.Proofs.YtemjlkmlodmmfaaGreatDoor.Us

/- PLAIN: the exact road: digits below 2^53, a power of ten up to 22 either way. By an AI agent. -/
namespace Go.Proofs.YtemjlkmlodmmfaaGreatDoor.Sm
theorem run_neg (x : Nat) (w : World) : (Op.unary UnOp.neg (.float .f64 x)).run Tryz.prog w = .ok (.float .f64 (Op.negFloat .f64 x)) w := rfl
theorem neg_bits {x : Nat} (h : x < 9223372036854775808) : Op.negFloat .f64 x = x + 9223372036854775808 := by
  have h1 : Op.negFloat .f64 x = x ^^^ 2 ^ 63 := rfl
  have h3 : x ||| 2 ^ 63 = x + 2 ^ 63 := by
    rw [Nat.or_comm, Nat.add_comm]
    have := Nat.two_pow_add_eq_or_of_lt (i := 63) (b := x) (by omega) 1
    simpa using this.symm
  have h4 : x ^^^ 2 ^ 63 = x ||| 2 ^ 63 := by
    apply Nat.eq_of_testBit_eq
    intro j
    rw [Nat.testBit_xor, Nat.testBit_or, Nat.testBit_two_pow]
    by_cases hj : 63 = j
    · subst hj
      have : x.testBit 63 = false := Nat.testBit_lt_two_pow (by omega)
      simp [this]
    · simp [hj]
  rw [h1, h4, h3]
end Go.Proofs.YtemjlkmlodmmfaaGreatDoor.Sm
namespace Go.Proofs.YtemjlkmlodmmfaaGreatDoor.Us
open Go Go.Proofs.YtemjlkmlodmmfaaGreatDoor Ieee
set_option linter.unusedVariables false

/-- The words of the powers of ten that are floats. -/
def w10 (k : Nat) : Nat := [4607182418800017408, 4621819117588971520, 4636737291354636288, 4652007308841189376, 4666723172467343360, 4681608360884174848, 4696837146684686336, 4711630319722168320, 4726483295884279808, 4741671816366391296, 4756540486875873280, 4771362005757984768, 4786511204640096256, 4801453603149578240, 4816244402031689728, 4831355200913801216, 4846369599423283200, 4861130398305394688, 4876203697187506176, 4891288408196988160, 4906019910204099648, 4921056587992461136, 4936209963552724370].getD k 0
theorem w10_all : ∀ k : Fin 23, (decide (Flt.mag (Flt.rung (w10 k.val)) = 10 ^ k.val * Flt.U) && decide (Flt.rung (w10 k.val) < 2047 * 2 ^ 52) && (Flt.neg (w10 k.val) == false) && decide (10 ^ k.val < 2 ^ 80)) = true := by decide +kernel
theorem w10_says {k : Nat} (h : k ≤ 22) : Flt.mag (Flt.rung (w10 k)) = 10 ^ k * Flt.U ∧ Flt.Fin (w10 k) ∧ Flt.neg (w10 k) = false ∧ 10 ^ k < 2 ^ 80 := by
  have := w10_all ⟨k, by omega⟩
  simp only [Bool.and_eq_true, decide_eq_true_eq, beq_iff_eq] at this
  exact ⟨this.1.1.1, this.1.1.2, this.1.2, this.2⟩
/-- A whole number as a float, with its sign. -/
def fw (s : Bool) (d : Nat) : Nat := if s then Op.negFloat .f64 (floatOfInt .f64 (d : Int)) else floatOfInt .f64 (d : Int)
theorem fw_says {d : Nat} (s : Bool) (h : d ≤ 2 ^ 53) : Flt.mag (Flt.rung (fw s d)) = d * Flt.U ∧ Flt.Fin (fw s d) ∧ Flt.neg (fw s d) = s ∧ fw s d = double.word s (Sm.roundB (d * Flt.U)) := by
  obtain ⟨R, h1, h2, h3⟩ := Flt.ofInt_val h
  have hR : Sm.roundB (d * Flt.U) = R := by rw [← h2, Rn.round_mag (Nat.le_of_lt h1)]
  have hw : double.word false R = R := by rw [Rn.word_of]; rfl
  have hlt : R < 9223372036854775808 := by omega
  have hfw : fw s d = double.word s R := by
    unfold fw
    rw [h3, hw]
    cases s
    · rw [hw]; rfl
    · rw [if_pos rfl, Sm.neg_bits hlt, Rn.word_of, if_pos rfl]
  rw [hfw, Flt.word_rung s (by omega), h2, hR]
  refine ⟨rfl, ?_, Flt.word_neg s (by omega), rfl⟩
  unfold Flt.Fin
  rw [Flt.word_rung s (by omega)]
  exact h1
theorem word_u {u : Nat} (hu : u < 18446744073709551616) : double.word (Sm.isNeg u) (u % 9223372036854775808) = u := by
  rw [Rn.word_of]
  unfold Sm.isNeg
  have e63 : (2 : Nat) ^ 63 = 9223372036854775808 := by decide
  rw [e63]
  by_cases h : 9223372036854775808 ≤ u
  · rw [if_pos (decide_eq_true h)]; omega
  · rw [if_neg (by rw [decide_eq_true_eq]; exact h)]; omega

theorem exact_zero {u d : Nat} (hu : u < 18446744073709551616) (hk : exb u < 2047) (hm : Sm.mant u ≠ 0) (W : Within (Sm.mant u) (E0 u) (lw u) d 0) (h : d ≤ 2 ^ 53) : fw (Sm.isNeg u) d = u := by
  rw [(fw_says (Sm.isNeg u) h).2.2.2]
  have := whole_within (k := 0) hk hm W
  rw [Nat.pow_zero, Nat.mul_one] at this
  rw [this, word_u hu]
theorem exact_mul {u d k : Nat} (hu : u < 18446744073709551616) (hk : exb u < 2047) (hm : Sm.mant u ≠ 0) (W : Within (Sm.mant u) (E0 u) (lw u) d (k : Int)) (h : d ≤ 2 ^ 53) (h1 : 1 ≤ d) (hk22 : k ≤ 22) :
    double.mul (fw (Sm.isNeg u) d) (w10 k) = some u := by
  obtain ⟨a1, a2, a3, -⟩ := fw_says (Sm.isNeg u) h
  obtain ⟨b1, b2, b3, -⟩ := w10_says hk22
  have hT : 1 ≤ 10 ^ k := Nat.one_le_iff_ne_zero.2 (by have := Nat.pow_pos (a := 10) (n := k) (by decide); omega)
  rw [mul_word a2 b2 a1 b1 h1 hT, a3, b3, Bool.xor_false, whole_within hk hm W, word_u hu]
theorem exact_div {u d k : Nat} (hu : u < 18446744073709551616) (hk : exb u < 2047) (hm : Sm.mant u ≠ 0) (W : Within (Sm.mant u) (E0 u) (lw u) d (-(k : Int))) (h : d ≤ 2 ^ 53) (h1 : 1 ≤ d) (hk22 : k ≤ 22) :
    double.div (fw (Sm.isNeg u) d) (w10 k) = some u := by
  obtain ⟨a1, a2, a3, -⟩ := fw_says (Sm.isNeg u) h
  obtain ⟨b1, b2, b3, b4⟩ := w10_says hk22
  rw [div_word a2 b2 a1 b1 h1 hk hm W b4, a3, b3, Bool.xor_false, word_u hu]
/-- The first product of the long road: whole, if it is not too great. -/
theorem first_mul {d j : Nat} (s : Bool) (h : d ≤ 2 ^ 53) (h1 : 1 ≤ d) (hj : j ≤ 22) : double.mul (fw s d) (w10 j) = some (double.word s (Sm.roundB (d * 10 ^ j * Flt.U))) := by
  obtain ⟨a1, a2, a3, -⟩ := fw_says s h
  obtain ⟨b1, b2, b3, -⟩ := w10_says hj
  have hT : 1 ≤ 10 ^ j := Nat.one_le_iff_ne_zero.2 (by have := Nat.pow_pos (a := 10) (n := j) (by decide); omega)
  rw [mul_word a2 b2 a1 b1 h1 hT, a3, b3, Bool.xor_false]
end Go.Proofs.YtemjlkmlodmmfaaGreatDoor.Us

/- strconv's atof64exact: total; and right where it says so. By an AI agent. -/
namespace Go.Proofs.YtemjlkmlodmmfaaGreatDoor
open Go.ChangeShapes Go.WideShapes Go.ChangeAt Go.RowKit
open Bt
set_option linter.unusedVariables false

/-- The tables of the exact road. -/
structure P10 (w : World) : Prop where
  bits : w.cell? ⟨6, 0, none⟩ = some (.int .u64 52)
  row : ∃ ad cap, w.cell? ⟨11, 0, none⟩ = some (.slice (some ad) 23 cap) ∧ ∀ i, i < 23 → w.cell? (ad.add i) = some (.float .f64 (Us.w10 i))

/-- What the exact road's answer is worth. -/
def Exa (d : Nat) (p : Int) (s : Bool) (r : Nat) : Prop := ∀ u, u < 18446744073709551616 → Us.exb u < 2047 → Sm.mant u ≠ 0 → Sm.isNeg u = s → Us.Within (Sm.mant u) (Us.E0 u) (Us.lw u) d p → r = u

theorem big_any (d : Nat) (p : Int) (s : Bool) (w : World) (h0 : 4503599627370496 ≤ d) (h1 : d < 18446744073709551616) (hP : P10 w) :
    Calls Tryz.prog 103 #[.int .u64 (d : Int), .int .i64 p, .bool s] w fun e w' => e = .returned (.tuple #[.float .f64 0, .bool false]) ∧ w = w' := by
  have c0 := hP.bits
  have hq : ((d : Int) / 4503599627370496 == 0) = false := by rw [beq_eq_false_iff_ne]; omega
  have hq2 : (((d / 4503599627370496 : Nat) : Int) == 0) = false := by rw [beq_eq_false_iff_ne]; omega
  clear hP
  go_enter Tryz.func103, Tryz.ntmps103
  go_wp2_with fail
  go_ret2
  exact ⟨rfl, rfl⟩

theorem fw_false (d : Nat) : Us.fw false d = floatOfInt .f64 (d : Int) := by unfold Us.fw; simp only [Bool.false_eq_true, if_false]
theorem fw_true (d : Nat) : Us.fw true d = Op.negFloat .f64 (Us.fw false d) := by rw [fw_false]; unfold Us.fw; simp only [if_true]
/-- How the float of the digits comes to be. -/
theorem run_fw (s : Bool) (d : Nat) : (∀ w : World, (convert 42 28 (.int .u64 (d : Int))).run Tryz.prog w = .ok (.float .f64 (Us.fw false d)) w) ∧ (∀ w : World, (Op.unary UnOp.neg (.float .f64 (Us.fw false d))).run Tryz.prog w = .ok (.float .f64 (Us.fw true d)) w) :=
  ⟨fun w => by rw [fw_false]; exact run_convert_int_float w _ _ _ _ _ (by kernel_rfl) Tryz.underlying28, fun w => by rw [fw_true, Sm.run_neg]⟩

set_option maxRecDepth 100000 in
set_option maxHeartbeats 4000000 in
theorem exa_zero (d : Nat) (s : Bool) (w : World) (h1 : d < 4503599627370496) (hP : P10 w) :
    Calls Tryz.prog 103 #[.int .u64 (d : Int), .int .i64 0, .bool s] w fun e w' => e = .returned (.tuple #[.float .f64 (Us.fw s d), .bool true]) ∧ w = w' := by
  have c0 := hP.bits
  have hq : (d : Int) / 4503599627370496 = 0 := by omega
  obtain ⟨f1, f2⟩ := run_fw s d
  clear hP h1
  cases s
  · generalize Us.fw false d = fa at *
    go_enter Tryz.func103, Tryz.ntmps103
    go_wp2_with fail
    go_ret2
    exact ⟨rfl, rfl⟩
  · generalize Us.fw true d = fb at *
    generalize Us.fw false d = fa at *
    go_enter Tryz.func103, Tryz.ntmps103
    go_wp2_with fail
    go_ret2
    exact ⟨rfl, rfl⟩

set_option maxRecDepth 100000 in
set_option maxHeartbeats 4000000 in
/-- Beyond the tables. -/
theorem exa_out (d : Nat) (p : Int) (s : Bool) (w : World) (h1 : d < 4503599627370496) (hp : p < -22 ∨ 37 < p) (hP : P10 w) :
    Calls Tryz.prog 103 #[.int .u64 (d : Int), .int .i64 p, .bool s] w fun e w' => e = .returned (.tuple #[.float .f64 (Us.fw s d), .bool false]) ∧ w = w' := by
  have c0 := hP.bits
  have hq : (d : Int) / 4503599627370496 = 0 := by omega
  obtain ⟨f1, f2⟩ := run_fw s d
  have p0 : (p == 0) = false := by rw [beq_eq_false_iff_ne]; omega
  rcases hp with hp | hp
  · have p1 : decide (0 < p) = false := by rw [decide_eq_false_iff_not]; omega
    have p2 : decide (p < 0) = true := by rw [decide_eq_true_eq]; omega
    have p3 : decide (-22 ≤ p) = false := by rw [decide_eq_false_iff_not]; omega
    clear hP h1
    cases s
    · generalize Us.fw false d = fa at *
      go_enter Tryz.func103, Tryz.ntmps103
      go_wp2_with fail
      go_ret2
      exact ⟨rfl, rfl⟩
    · generalize Us.fw true d = fb at *
      generalize Us.fw false d = fa at *
      go_enter Tryz.func103, Tryz.ntmps103
      go_wp2_with fail
      go_ret2
      exact ⟨rfl, rfl⟩
  · have p1 : decide (0 < p) = true := by rw [decide_eq_true_eq]; omega
    have p2 : decide (p ≤ 37) = false := by rw [decide_eq_false_iff_not]; omega
    have p3 : decide (p < 0) = false := by rw [decide_eq_false_iff_not]; omega
    clear hP h1
    cases s
    · generalize Us.fw false d = fa at *
      go_enter Tryz.func103, Tryz.ntmps103
      go_wp2_with fail
      go_ret2
      exact ⟨rfl, rfl⟩
    · generalize Us.fw true d = fb at *
      generalize Us.fw false d = fa at *
      go_enter Tryz.func103, Tryz.ntmps103
      go_wp2_with fail
      go_ret2
      exact ⟨rfl, rfl⟩

set_option maxRecDepth 100000 in
set_option maxHeartbeats 4000000 in
/-- A quotient by a power of ten of the table. -/
theorem exa_div (d k : Nat) (s : Bool) (r : Nat) (w : World) (h1 : d < 4503599627370496) (hk1 : 1 ≤ k) (hk2 : k ≤ 22) (hP : P10 w) (hr : Ieee.double.div (Us.fw s d) (Us.w10 k) = some r) :
    Calls Tryz.prog 103 #[.int .u64 (d : Int), .int .i64 (-(k : Int)), .bool s] w fun e w' => e = .returned (.tuple #[.float .f64 r, .bool true]) ∧ ∃ n, w' = w.drewN n := by
  have c0 := hP.bits
  obtain ⟨ad, cap, c1, c2⟩ := hP.row
  have ck := c2 k (by omega)
  have hq : (d : Int) / 4503599627370496 = 0 := by omega
  obtain ⟨f1, f2⟩ := run_fw s d
  have p0 : (-(k : Int) == 0) = false := by rw [beq_eq_false_iff_ne]; omega
  have p1 : decide (0 < -(k : Int)) = false := by rw [decide_eq_false_iff_not]; omega
  have p2 : decide (-(k : Int) < 0) = true := by rw [decide_eq_true_eq]; omega
  have p3 : decide (-22 ≤ -(k : Int)) = true := by rw [decide_eq_true_eq]; omega
  have hrun : ∀ w : World, (binOp .quo 28 (.float .f64 (Us.fw s d)) (.float .f64 (Us.w10 k))).run Tryz.prog w = .ok (.float .f64 r) w := fun w => run_float_arith w .quo 28 .f64 _ _ r hr
  have hk23 : k < 23 := by omega
  clear hP h1 c2 hr
  generalize Us.w10 k = wk at *
  cases s
  · generalize Us.fw false d = fa at *
    go_enter Tryz.func103, Tryz.ntmps103
    go_wp2_with fail
    go_ret2
    exact ⟨rfl, 0, rfl⟩
  · generalize Us.fw true d = fb at *
    generalize Us.fw false d = fa at *
    go_enter Tryz.func103, Tryz.ntmps103
    go_wp2_with fail
    go_ret2
    exact ⟨rfl, 0, rfl⟩
end Go.Proofs.YtemjlkmlodmmfaaGreatDoor

/- atof64exact: products. By an AI agent. -/
namespace Go.Proofs.YtemjlkmlodmmfaaGreatDoor
open Go.ChangeShapes Go.WideShapes Go.ChangeAt Go.RowKit
open Bt
set_option linter.unusedVariables false

/-- Too great for the exact road? -/
def far (f : Nat) : Bool := (FloatKind.f64.format.order f 4831355200913801216 == some .gt) || (FloatKind.f64.format.order f 14054727237768577024 == some .lt)

set_option maxRecDepth 100000 in
set_option maxHeartbeats 8000000 in
/-- A product by a power of ten of the table. -/
theorem exa_mul (d k : Nat) (s : Bool) (r : Nat) (w : World) (h1 : d < 4503599627370496) (hk1 : 1 ≤ k) (hk2 : k ≤ 22) (hP : P10 w) (hr : Ieee.double.mul (Us.fw s d) (Us.w10 k) = some r) :
    Calls Tryz.prog 103 #[.int .u64 (d : Int), .int .i64 (k : Int), .bool s] w fun e w' => e = .returned (.tuple #[.float .f64 (if far (Us.fw s d) = true then Us.fw s d else r), .bool (!far (Us.fw s d))]) ∧ ∃ n, w' = w.drewN n := by
  have c0 := hP.bits
  obtain ⟨ad, cap, c1, c2⟩ := hP.row
  have ck := c2 k (by omega)
  have hq : (d : Int) / 4503599627370496 = 0 := by omega
  obtain ⟨f1, f2⟩ := run_fw s d
  have p0 : ((k : Int) == 0) = false := by rw [beq_eq_false_iff_ne]; omega
  have p0' : (k == 0) = false := by rw [beq_eq_false_iff_ne]; omega
  have p1 : decide (0 < (k : Int)) = true := by rw [decide_eq_true_eq]; omega
  have p1' : decide (0 < k) = true := by rw [decide_eq_true_eq]; omega
  have p2 : decide ((k : Int) ≤ 37) = true := by rw [decide_eq_true_eq]; omega
  have p2' : decide (k ≤ 37) = true := by rw [decide_eq_true_eq]; omega
  have p3 : decide (22 < (k : Int)) = false := by rw [decide_eq_false_iff_not]; omega
  have p3' : decide (22 < k) = false := by rw [decide_eq_false_iff_not]; omega
  have hrun : ∀ w : World, (binOp .mul 28 (.float .f64 (Us.fw s d)) (.float .f64 (Us.w10 k))).run Tryz.prog w = .ok (.float .f64 r) w := fun w => run_float_arith w .mul 28 .f64 _ _ r hr
  have hk23 : k < 23 := by omega
  unfold far
  clear hP h1 c2 hr
  generalize Us.w10 k = wk at *
  cases s
  · generalize Us.fw false d = fa at *
    cases g1 : (FloatKind.f64.format.order fa 4831355200913801216 == some .gt)
    · cases g2 : (FloatKind.f64.format.order fa 14054727237768577024 == some .lt)
      · go_enter Tryz.func103, Tryz.ntmps103
        go_wp2_with fail
        go_ret2
        exact ⟨rfl, 0, rfl⟩
      · go_enter Tryz.func103, Tryz.ntmps103
        go_wp2_with fail
        go_ret2
        exact ⟨rfl, 0, rfl⟩
    · go_enter Tryz.func103, Tryz.ntmps103
      go_wp2_with fail
      go_ret2
      exact ⟨rfl, 0, rfl⟩
  · generalize Us.fw true d = fb at *
    generalize Us.fw false d = fa at *
    cases g1 : (FloatKind.f64.format.order fb 4831355200913801216 == some .gt)
    · cases g2 : (FloatKind.f64.format.order fb 14054727237768577024 == some .lt)
      · go_enter Tryz.func103, Tryz.ntmps103
        go_wp2_with fail
        go_ret2
        exact ⟨rfl, 0, rfl⟩
      · go_enter Tryz.func103, Tryz.ntmps103
        go_wp2_with fail
        go_ret2
        exact ⟨rfl, 0, rfl⟩
    · go_enter Tryz.func103, Tryz.ntmps103
      go_wp2_with fail
      go_ret2
      exact ⟨rfl, 0, rfl⟩

set_option maxRecDepth 100000 in
set_option maxHeartbeats 8000000 in
/-- A product by two of them: the first is f. -/
theorem exa_long (d j : Nat) (s : Bool) (f r : Nat) (w : World) (h1 : d < 4503599627370496) (hj1 : 1 ≤ j) (hj2 : j ≤ 15) (hP : P10 w) (hf : Ieee.double.mul (Us.fw s d) (Us.w10 j) = some f) (hr : far f = false → Ieee.double.mul f (Us.w10 22) = some r) :
    Calls Tryz.prog 103 #[.int .u64 (d : Int), .int .i64 ((22 + j : Nat) : Int), .bool s] w fun e w' => e = .returned (.tuple #[.float .f64 (if far f = true then f else r), .bool (!far f)]) ∧ ∃ n, w' = w.drewN n := by
  have c0 := hP.bits
  obtain ⟨ad, cap, c1, c2⟩ := hP.row
  have ck := c2 j (by omega)
  have c22 := c2 22 (by omega)
  have hq : (d : Int) / 4503599627370496 = 0 := by omega
  obtain ⟨f1, f2⟩ := run_fw s d
  have hsub : wrap64 (((22 + j : Nat) : Int) - 22) = (j : Int) := by unfold wrap64; omega
  obtain ⟨k, hk⟩ : ∃ k : Nat, k = 22 + j := ⟨_, rfl⟩
  rw [← hk] at hsub ⊢
  have p0 : ((k : Int) == 0) = false := by rw [beq_eq_false_iff_ne]; omega
  have p0' : (k == 0) = false := by rw [beq_eq_false_iff_ne]; omega
  have p1 : decide (0 < (k : Int)) = true := by rw [decide_eq_true_eq]; omega
  have p1' : decide (0 < k) = true := by rw [decide_eq_true_eq]; omega
  have p2 : decide ((k : Int) ≤ 37) = true := by rw [decide_eq_true_eq]; omega
  have p2' : decide (k ≤ 37) = true := by rw [decide_eq_true_eq]; omega
  have p3 : decide (22 < (k : Int)) = true := by rw [decide_eq_true_eq]; omega
  have p3' : decide (22 < k) = true := by rw [decide_eq_true_eq]; omega
  have hsub2 : (k : Int) - 22 = (j : Int) := by omega
  have hrun : ∀ w : World, (binOp .mul 28 (.float .f64 (Us.fw s d)) (.float .f64 (Us.w10 j))).run Tryz.prog w = .ok (.float .f64 f) w := fun w => run_float_arith w .mul 28 .f64 _ _ f hf
  have hrun2 : far f = false → ∀ w : World, (binOp .mul 28 (.float .f64 f) (.float .f64 (Us.w10 22))).run Tryz.prog w = .ok (.float .f64 r) w := fun h w => run_float_arith w .mul 28 .f64 _ _ r (hr h)
  have hj23 : j < 23 := by omega
  have HR2 := Lib.hid hrun2
  unfold far at HR2 ⊢
  clear hP h1 c2 hr hf hk hsub hrun2
  generalize Us.w10 j = wj at *
  generalize Us.w10 22 = wk at *
  have c22' : w.cell? ⟨ad.block, ad.off + 22, none⟩ = some (.float .f64 wk) := by simpa [Addr.add] using c22
  cases g1 : (FloatKind.f64.format.order f 4831355200913801216 == some .gt)
  · cases g2 : (FloatKind.f64.format.order f 14054727237768577024 == some .lt)
    · have hrun3 := HR2.out (by rw [g1, g2]; rfl)
      clear HR2
      cases s
      · generalize Us.fw false d = fa at *
        go_enter Tryz.func103, Tryz.ntmps103
        go_wp2_with fail
        go_ret2
        exact ⟨rfl, 0, rfl⟩
      · generalize Us.fw true d = fb at *
        generalize Us.fw false d = fa at *
        go_enter Tryz.func103, Tryz.ntmps103
        go_wp2_with fail
        go_ret2
        exact ⟨rfl, 0, rfl⟩
    · clear HR2
      cases s
      · generalize Us.fw false d = fa at *
        go_enter Tryz.func103, Tryz.ntmps103
        go_wp2_with fail
        go_ret2
        exact ⟨rfl, 0, rfl⟩
      · generalize Us.fw true d = fb at *
        generalize Us.fw false d = fa at *
        go_enter Tryz.func103, Tryz.ntmps103
        go_wp2_with fail
        go_ret2
        exact ⟨rfl, 0, rfl⟩
  · clear HR2
    cases s
    · generalize Us.fw false d = fa at *
      go_enter Tryz.func103, Tryz.ntmps103
      go_wp2_with fail
      go_ret2
      exact ⟨rfl, 0, rfl⟩
    · generalize Us.fw true d = fb at *
      generalize Us.fw false d = fa at *
      go_enter Tryz.func103, Tryz.ntmps103
      go_wp2_with fail
      go_ret2
      exact ⟨rfl, 0, rfl⟩
end Go.Proofs.YtemjlkmlodmmfaaGreatDoor
