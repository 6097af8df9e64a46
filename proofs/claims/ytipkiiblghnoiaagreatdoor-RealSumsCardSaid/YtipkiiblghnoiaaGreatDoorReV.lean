/- PLAIN: the sum of two is the floats' own; the sum of whole numbers. By an AI agent. -/
import Derived.Test.YtipkiiblghnoiaaGreatDoorReU
import Derived.Laws.FloatArith
namespace Go.Proofs.YtipkiiblghnoiaaGreatDoor.Rn
open Go Go.Proofs.YtipkiiblghnoiaaGreatDoor Ieee
open Go.ChangeShapes Go.WideShapes Go.ChangeAt Go.RowKit
open Go.Proofs.YtipkiiblghnoiaaGreatDoor.Sm
set_option linter.unusedVariables false
set_option linter.unusedSimpArgs false

theorem round_le (V : Nat) : roundB V ≤ 2047 * 2 ^ 52 := by
  by_cases h : V = 0
  · subst h; decide +kernel
  · rw [round_cut false V h]; exact Nat.min_le_right _ _
theorem word_not_nan (s : Bool) (V : Nat) : Flt.nan (double.word s (roundB V)) = false := by
  have h := round_le V
  unfold Flt.nan
  rw [Flt.word_rung s (by omega), decide_eq_false_iff_not]
  omega
theorem kinds {u : Nat} (hu : u < 18446744073709551616) : (Flt.nan u = true ∧ kind u = 0) ∨ (u = 9218868437227405312 ∧ kind u = 2) ∨ (u = 18442240474082181120 ∧ kind u = 1) ∨ (u = 9223372036854775808 ∧ kind u = 3 ∧ Flt.Fin u) ∨ (u ≠ 9223372036854775808 ∧ kind u = 4 ∧ Flt.Fin u) := by
  cases hn : Flt.nan u
  · have h1 := Re.not_nan hn
    by_cases hi : u % 9223372036854775808 = 9218868437227405312
    · by_cases hneg : u < 9223372036854775808
      · right; left
        exact ⟨by omega, by unfold kind; rw [if_neg h1, if_pos hi, if_pos hneg]⟩
      · right; right; left
        exact ⟨by omega, by unfold kind; rw [if_neg h1, if_pos hi, if_neg hneg]⟩
    · right; right; right
      by_cases hz : u = 9223372036854775808
      · left
        exact ⟨hz, by unfold kind; rw [if_neg h1, if_neg hi, if_pos hz], fin_small (by omega)⟩
      · right
        exact ⟨hz, kind_finite (by omega) hz, fin_small (by omega)⟩
  · left
    exact ⟨rfl, kind_nan hn⟩

theorem cnt_two (a b : Nat) : cnt [a, b] = bump (bump ⟨0, 0, 0, 0, 0⟩ a) b := rfl
theorem sm_two (a b : Nat) : sm [a, b] = sumStep (sumStep 0 a) b := rfl
theorem fadd (a b : Nat) : floatBits .add .f64 a b = ((double.read a).sum (double.read b)).map double.write := rfl
theorem fadd_nan {a b : Nat} (h : Flt.nan a = true ∨ Flt.nan b = true) : floatBits .add .f64 a b = none := by
  have key : ∀ x, Flt.nan x = true → ∃ s p, double.read x = .nan s p := fun x hx => ⟨_, _, Flt.read_nan (by simpa [Flt.nan] using hx)⟩
  rw [fadd]
  rcases h with h | h
  · obtain ⟨s, p, e⟩ := key a h
    rw [e]; rfl
  · obtain ⟨s, p, e⟩ := key b h
    rw [e]
    cases double.read a <;> rfl
theorem zero_neg {u : Nat} (hu : u < 18446744073709551616) (hn : Flt.neg u = true) (hz : Flt.fv u = 0) : u = 9223372036854775808 := by
  unfold Flt.fv Flt.sv at hz
  rw [hn, if_pos rfl] at hz
  have h1 : Flt.mag (Flt.rung u) = 0 := by omega
  have h2 : Flt.rung u = 0 := Flt.mag_inj (h1.trans Flt.mag_zero.symm)
  unfold Flt.rung at h2
  unfold Flt.neg at hn
  rw [beq_iff_eq] at hn
  omega
theorem neg_le {u : Nat} (hn : Flt.neg u = true) : Flt.fv u ≤ 0 := by
  unfold Flt.fv Flt.sv
  rw [hn, if_pos rfl]
  omega
theorem fin_two {a b : Nat} (ha : a < 18446744073709551616) (hb : b < 18446744073709551616) (fa : Flt.Fin a) (fb : Flt.Fin b) (hk : ¬ (a = 9223372036854775808 ∧ b = 9223372036854775808)) :
    double.word (if Flt.fv a + Flt.fv b = 0 then Flt.neg a && Flt.neg b else decide (Flt.fv a + Flt.fv b < 0)) (roundB (Flt.fv a + Flt.fv b).natAbs) = sgnR (Flt.fv a + Flt.fv b) := by
  rw [sgn_word]
  congr 1
  by_cases hS : Flt.fv a + Flt.fv b = 0
  · rw [if_pos hS, hS]
    cases na : Flt.neg a
    · rfl
    · cases nb : Flt.neg b
      · rfl
      · have h1 := neg_le na
        have h2 := neg_le nb
        exact absurd ⟨zero_neg ha na (by omega), zero_neg hb nb (by omega)⟩ hk
  · rw [if_neg hS]
theorem fv_zero_neg : Flt.fv 9223372036854775808 = 0 := by decide +kernel

/-- Of two: the floats' own sum, or none where that is no number. -/
theorem sum_two {a b : Nat} (ha : a < 18446744073709551616) (hb : b < 18446744073709551616) :
    (∃ r, floatBits .add .f64 a b = some r ∧ r < 18446744073709551616 ∧ canW r = sumW [a, b]) ∨ (floatBits .add .f64 a b = none ∧ sumW [a, b] = 9221120237041090561) := by
  have hcan : ∀ r, Flt.nan r = false → canW r = r := fun r h => by unfold canW; rw [h]; rfl
  have rinf : ∀ s : Bool, double.write (.infinity s) = if s = true then 18442240474082181120 else 9218868437227405312 := fun s => by
    cases s <;> decide +kernel
  rw [sumW_eq, cnt_two, sm_two]
  rcases kinds ha with ⟨na, ka⟩ | ⟨ea, ka⟩ | ⟨ea, ka⟩ | ⟨ea, ka, fa⟩ | ⟨ea, ka, fa⟩
  · right
    refine ⟨fadd_nan (.inl na), ?_⟩
    have : bump ⟨0, 0, 0, 0, 0⟩ a = ⟨1, 0, 0, 0, 0⟩ := by unfold bump; rw [if_pos ka]
    rw [this]
    rcases kinds hb with ⟨-, kb⟩ | ⟨-, kb⟩ | ⟨-, kb⟩ | ⟨-, kb, -⟩ | ⟨-, kb, -⟩ <;> (unfold bump; rw [kb]; rfl)
  · have ra : double.read a = .infinity false := by rw [ea]; decide +kernel
    have hba : bump ⟨0, 0, 0, 0, 0⟩ a = ⟨0, 0, 1, 0, 0⟩ := by unfold bump; rw [ka]; rfl
    rw [hba]
    rcases kinds hb with ⟨nb, kb⟩ | ⟨eb, kb⟩ | ⟨eb, kb⟩ | ⟨eb, kb, fb⟩ | ⟨eb, kb, fb⟩
    · right
      exact ⟨fadd_nan (.inr nb), by unfold bump; rw [kb]; rfl⟩
    · left
      refine ⟨9218868437227405312, ?_, by decide, ?_⟩
      · rw [fadd, ra, eb, show double.read 9218868437227405312 = .infinity false by decide +kernel]; decide +kernel
      · rw [hcan _ (by decide +kernel)]; unfold bump; rw [kb]; simp
    · right
      refine ⟨?_, ?_⟩
      · rw [fadd, ra, eb, show double.read 18442240474082181120 = .infinity true by decide +kernel]; rfl
      · unfold bump; rw [kb]; rfl
    · left
      obtain ⟨m, e, hr, -⟩ := Flt.read_num fb
      refine ⟨9218868437227405312, ?_, by decide, ?_⟩
      · rw [fadd, ra, hr]; show some (double.write (.infinity false)) = _; rw [rinf]; rfl
      · rw [hcan _ (by decide +kernel)]; unfold bump; rw [kb]; simp
    · left
      obtain ⟨m, e, hr, -⟩ := Flt.read_num fb
      refine ⟨9218868437227405312, ?_, by decide, ?_⟩
      · rw [fadd, ra, hr]; show some (double.write (.infinity false)) = _; rw [rinf]; rfl
      · rw [hcan _ (by decide +kernel)]; unfold bump; rw [kb]; simp
  · have ra : double.read a = .infinity true := by rw [ea]; decide +kernel
    have hba : bump ⟨0, 0, 0, 0, 0⟩ a = ⟨0, 1, 0, 0, 0⟩ := by unfold bump; rw [ka]; rfl
    rw [hba]
    rcases kinds hb with ⟨nb, kb⟩ | ⟨eb, kb⟩ | ⟨eb, kb⟩ | ⟨eb, kb, fb⟩ | ⟨eb, kb, fb⟩
    · right
      exact ⟨fadd_nan (.inr nb), by unfold bump; rw [kb]; rfl⟩
    · right
      refine ⟨?_, ?_⟩
      · rw [fadd, ra, eb, show double.read 9218868437227405312 = .infinity false by decide +kernel]; rfl
      · unfold bump; rw [kb]; rfl
    · left
      refine ⟨18442240474082181120, ?_, by decide, ?_⟩
      · rw [fadd, ra, eb, show double.read 18442240474082181120 = .infinity true by decide +kernel]; decide +kernel
      · rw [hcan _ (by decide +kernel)]; unfold bump; rw [kb]; simp
    · left
      obtain ⟨m, e, hr, -⟩ := Flt.read_num fb
      refine ⟨18442240474082181120, ?_, by decide, ?_⟩
      · rw [fadd, ra, hr]; show some (double.write (.infinity true)) = _; rw [rinf]; rfl
      · rw [hcan _ (by decide +kernel)]; unfold bump; rw [kb]; simp
    · left
      obtain ⟨m, e, hr, -⟩ := Flt.read_num fb
      refine ⟨18442240474082181120, ?_, by decide, ?_⟩
      · rw [fadd, ra, hr]; show some (double.write (.infinity true)) = _; rw [rinf]; rfl
      · rw [hcan _ (by decide +kernel)]; unfold bump; rw [kb]; simp
  · have hba : bump ⟨0, 0, 0, 0, 0⟩ a = ⟨0, 0, 0, 0, 1⟩ := by unfold bump; rw [ka]; rfl
    rw [hba]
    obtain ⟨m, e, hra, -⟩ := Flt.read_num fa
    rcases kinds hb with ⟨nb, kb⟩ | ⟨eb, kb⟩ | ⟨eb, kb⟩ | ⟨eb, kb, fb⟩ | ⟨eb, kb, fb⟩
    · right
      exact ⟨fadd_nan (.inr nb), by unfold bump; rw [kb]; rfl⟩
    · left
      refine ⟨9218868437227405312, ?_, by decide, ?_⟩
      · rw [fadd, hra, eb, show double.read 9218868437227405312 = .infinity false by decide +kernel]; show some (double.write (.infinity false)) = _; rw [rinf]; rfl
      · rw [hcan _ (by decide +kernel)]; unfold bump; rw [kb]; simp
    · left
      refine ⟨18442240474082181120, ?_, by decide, ?_⟩
      · rw [fadd, hra, eb, show double.read 18442240474082181120 = .infinity true by decide +kernel]; show some (double.write (.infinity true)) = _; rw [rinf]; rfl
      · rw [hcan _ (by decide +kernel)]; unfold bump; rw [kb]; simp
    · left
      refine ⟨9223372036854775808, ?_, by decide, ?_⟩
      · rw [ea, eb]; decide +kernel
      · rw [hcan _ (by decide +kernel)]; unfold bump; rw [kb]; simp
    · left
      refine ⟨_, add_round fa fb, ?_, ?_⟩
      · exact Flt.word_lt _ (Nat.lt_of_le_of_lt (round_le _) (by decide))
      · rw [hcan _ (word_not_nan _ _), fin_two ha hb fa fb (fun h => eb h.2)]
        have hs : sumStep (sumStep 0 a) b = Flt.fv a + Flt.fv b := by
          unfold sumStep
          rw [ka, kb, if_pos rfl, if_neg (by decide), fin_fv hb, ea, fv_zero_neg]
        rw [hs]
        unfold bump; rw [kb]; simp
  · have hba : bump ⟨0, 0, 0, 0, 0⟩ a = ⟨0, 0, 0, 1, 0⟩ := by unfold bump; rw [ka]; rfl
    rw [hba]
    obtain ⟨m, e, hra, -⟩ := Flt.read_num fa
    rcases kinds hb with ⟨nb, kb⟩ | ⟨eb, kb⟩ | ⟨eb, kb⟩ | ⟨eb, kb, fb⟩ | ⟨eb, kb, fb⟩
    · right
      exact ⟨fadd_nan (.inr nb), by unfold bump; rw [kb]; rfl⟩
    · left
      refine ⟨9218868437227405312, ?_, by decide, ?_⟩
      · rw [fadd, hra, eb, show double.read 9218868437227405312 = .infinity false by decide +kernel]; show some (double.write (.infinity false)) = _; rw [rinf]; rfl
      · rw [hcan _ (by decide +kernel)]; unfold bump; rw [kb]; simp
    · left
      refine ⟨18442240474082181120, ?_, by decide, ?_⟩
      · rw [fadd, hra, eb, show double.read 18442240474082181120 = .infinity true by decide +kernel]; show some (double.write (.infinity true)) = _; rw [rinf]; rfl
      · rw [hcan _ (by decide +kernel)]; unfold bump; rw [kb]; simp
    · left
      refine ⟨_, add_round fa fb, ?_, ?_⟩
      · exact Flt.word_lt _ (Nat.lt_of_le_of_lt (round_le _) (by decide))
      · rw [hcan _ (word_not_nan _ _), fin_two ha hb fa fb (fun h => ea h.1)]
        have hs : sumStep (sumStep 0 a) b = Flt.fv a + Flt.fv b := by
          unfold sumStep
          rw [ka, kb, if_neg (by decide), if_pos rfl, fin_fv ha, eb, fv_zero_neg]; omega
        rw [hs]
        unfold bump; rw [kb]; simp
    · left
      refine ⟨_, add_round fa fb, ?_, ?_⟩
      · exact Flt.word_lt _ (Nat.lt_of_le_of_lt (round_le _) (by decide))
      · rw [hcan _ (word_not_nan _ _), fin_two ha hb fa fb (fun h => ea h.1)]
        have hs : sumStep (sumStep 0 a) b = Flt.fv a + Flt.fv b := by
          unfold sumStep
          rw [ka, kb, if_pos rfl, if_pos rfl, fin_fv ha, fin_fv hb]; omega
        rw [hs]
        unfold bump; rw [kb]; simp

/-! ### whole numbers -/
theorem int_num (z : Int) (P : Nat) : Flt.Num P (.number (decide (z < 0)) z.natAbs 0) (decide (z < 0)) (z.natAbs * 2 ^ P) := ⟨z.natAbs, 0, rfl, by omega, by rw [Int.zero_add, Int.toNat_natCast]⟩
theorem int_round (z : Int) : floatOfInt .f64 z = double.word (decide (z < 0)) (roundB (z.natAbs * Flt.U)) := by
  have h : Flt.Num 1074 (.number (decide (z < 0)) z.natAbs 0) (decide (z < 0)) (z.natAbs * Flt.U) := Flt.num_at rfl _ _
  exact write_round h
theorem int_fin {z : Int} (h : z.natAbs ≤ 2 ^ 53) : kind (floatOfInt .f64 z) = 4 ∧ fin (floatOfInt .f64 z) = z * (Flt.U : Int) ∧ floatOfInt .f64 z < 18446744073709551616 := by
  obtain ⟨R, hR, hm⟩ := Flt.rep_U h
  have e : floatOfInt .f64 z = double.word (decide (z < 0)) R := by
    rw [int_round]
    have : z.natAbs * Flt.U = Flt.mag R := hm.symm
    rw [this, round_mag (Nat.le_of_lt hR)]
  have hlt : floatOfInt .f64 z < 18446744073709551616 := by rw [e]; exact Flt.word_lt _ (by omega)
  have hfv : Flt.fv (floatOfInt .f64 z) = z * (Flt.U : Int) := by
    rw [e, Flt.word_fv _ (by omega), hm, Flt.sv_mul]
    congr 1
    unfold Flt.sv
    by_cases hz : z < 0
    · rw [if_pos (decide_eq_true hz)]; omega
    · rw [if_neg (by rw [decide_eq_true_eq]; exact hz)]; omega
  refine ⟨?_, by rw [fin_fv hlt, hfv], hlt⟩
  have hr : Flt.rung (floatOfInt .f64 z) = R := by rw [e]; exact Flt.word_rung _ (by omega)
  have hneg : Flt.neg (floatOfInt .f64 z) = decide (z < 0) := by rw [e]; exact Flt.word_neg _ (by omega)
  refine kind_finite (by unfold Flt.rung at hr; omega) fun h0 => ?_
  rw [h0] at hr hneg
  have h1 : R = 0 := by rw [← hr]; decide
  rw [h1, Flt.mag_zero] at hm
  have hU := Flt.U_pos
  have h2 : z.natAbs = 0 := by
    rcases Nat.mul_eq_zero.1 hm.symm with h | h
    · exact h
    · omega
  have h3 : z = 0 := by omega
  rw [h3] at hneg
  exact absurd hneg (by decide)
def tot (zs : List Int) : Int := zs.foldl (· + ·) 0
theorem foldl_add (zs : List Int) : ∀ a : Int, zs.foldl (· + ·) a = zs.foldl (· + ·) 0 + a := by
  induction zs with
  | nil => intro a; simp
  | cons x r ih =>
    intro a
    simp only [List.foldl_cons]
    rw [ih (a + x), ih (0 + x)]
    omega
theorem sum_ints {zs : List Int} (h : ∀ z ∈ zs, z.natAbs ≤ 2 ^ 53) : sumW (zs.map (floatOfInt .f64)) = floatOfInt .f64 (tot zs) ∧ Flt.nan (floatOfInt .f64 (tot zs)) = false := by
  have hc : ∀ (l : List Int), (∀ z ∈ l, z.natAbs ≤ 2 ^ 53) → ∀ s : Sm.Sn, (l.map (floatOfInt .f64)).foldl bump s = { s with o := s.o + l.length } := by
    intro l
    induction l with
    | nil => intro _ s; rfl
    | cons x r ih =>
      intro hl s
      simp only [List.map_cons, List.foldl_cons, List.length_cons]
      rw [bump_o _ (int_fin (hl x (by simp))).1, ih (fun z hz => hl z (by simp [hz]))]
      simp only
      congr 1
      omega
  have hs : ∀ (l : List Int), (∀ z ∈ l, z.natAbs ≤ 2 ^ 53) → sm (l.map (floatOfInt .f64)) = tot l * (Flt.U : Int) := by
    intro l
    induction l with
    | nil => intro _; simp [sm, tot]
    | cons x r ih =>
      intro hl
      have hx := int_fin (hl x (by simp))
      have ihr := ih (fun z hz => hl z (by simp [hz]))
      unfold sm tot at *
      simp only [List.map_cons, List.foldl_cons]
      rw [sm_from, ihr, foldl_add r (0 + x)]
      unfold sumStep
      rw [if_pos hx.1, hx.2.1, Int.zero_add, Int.zero_add, Int.add_mul]
  have h1 := hc zs h ⟨0, 0, 0, 0, 0⟩
  have h2 := hs zs h
  refine ⟨?_, by rw [int_round]; exact word_not_nan _ _⟩
  have hab : (tot zs * (Flt.U : Int)).natAbs = (tot zs).natAbs * Flt.U := by
    rw [Int.natAbs_mul, Int.natAbs_natCast]
  have hU : (0 : Int) < (Flt.U : Int) := by have := Flt.U_pos; omega
  have hneg : decide (tot zs * (Flt.U : Int) < 0) = decide (tot zs < 0) := by
    rw [decide_eq_decide]
    constructor
    · intro h3
      refine Int.lt_of_not_ge fun h4 => ?_
      have := Int.mul_nonneg h4 (Int.le_of_lt hU)
      omega
    · intro h3
      exact Int.mul_neg_of_neg_of_pos h3 hU
  rw [sumW_eq]
  unfold cnt
  rw [h1, h2]
  rw [sgn_word, hneg, hab, ← int_round]
  simp

/-- A sum of two by the machine: its number, the world behind it. -/
def nanW (a b : Nat) (w : World) : Nat := (Question.nanBits .f64 a b).cut (w.tape w.drawn (.nanBits .f64 a b))
theorem nanW_nan (a b : Nat) (w : World) : Flt.nan (nanW a b w) = true := by
  have key : ∀ v u : Nat, v < 2 → u < 2 ^ 52 - 1 → Flt.nan (v * 2 ^ 63 + 0x7ff0000000000000 + 1 + u) = true := fun v u hv hu => by
    unfold Flt.nan Flt.rung
    rw [decide_eq_true_eq]
    omega
  exact key _ _ (Nat.mod_lt _ (by decide)) (Nat.mod_lt _ (by decide))
theorem run_add_nan (P : Program) (t : TypeId) (a b : Nat) (h : floatBits .add .f64 a b = none) (w : World) :
    (binOp .add t (.float .f64 a) (.float .f64 b)).run P w = .ok (.float .f64 (nanW a b w)) w.drew := by
  unfold floatBits at h
  have hf : (Question.nanBits .f64 a b).forced = false := rfl
  simp only at h
  simp [binOp, Op.floatArith, h, hf, nanW]
theorem run_add (P : Program) (t : TypeId) {a b : Nat} (ha : a < 18446744073709551616) (hb : b < 18446744073709551616) (w : World) :
    ∃ r w', (binOp .add t (.float .f64 a) (.float .f64 b)).run P w = .ok (.float .f64 r) w' ∧ canW r = sumW [a, b] ∧ (w' = w ∨ w' = w.drew) := by
  rcases sum_two ha hb with ⟨r, h1, -, h2⟩ | ⟨h1, h2⟩
  · exact ⟨r, w, run_float_arith w .add t .f64 a b r h1, h2, .inl rfl⟩
  · refine ⟨nanW a b w, w.drew, run_add_nan P t a b h1 w, ?_, .inr rfl⟩
    rw [h2]
    unfold canW
    rw [nanW_nan, if_pos rfl]
end Go.Proofs.YtipkiiblghnoiaaGreatDoor.Rn
