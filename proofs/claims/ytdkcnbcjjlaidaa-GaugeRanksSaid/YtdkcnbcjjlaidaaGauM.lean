/- GaugeRanks: the plain law. By an AI agent. -/
import Derived.Test.YtdkcnbcjjlaidaaGauI
import Derived.Test.YtdkcnbcjjlaidaaGauL
namespace Go.Proofs.Ytdkcnbcjjlaidaa
open Go.ChangeShapes Go.WideShapes Go.ChangeAt Go.RowKit
open Flt (U fv mag rung neg nan Near ceilW)
set_option linter.unusedVariables false

def F (v : Nat) : Nat := floatOfInt .f64 (v : Int)
def B64 : List Nat := (List.range 64).map F

theorem b64_len : B64.length = 64 := by simp [B64]
theorem b64_get (i : Nat) (h : i < 64) : B64.getD i 0 = F i := by
  simp [B64, List.getD_eq_getElem?_getD, h]
theorem F_fin {v : Nat} (h : v ≤ 2 ^ 53) : Flt.Fin (F v) ∧ fv (F v) = (v : Int) * U ∧ neg (F v) = false ∧ F v < 2 ^ 63 := Flt.ofInt_fin h
theorem b64_lt : ∀ i, B64.getD i 0 < 2 ^ 64 := by
  intro i
  rcases Nat.lt_or_ge i 64 with h | h
  · rw [b64_get i h]
    have := (F_fin (v := i) (by omega)).2.2.2
    omega
  · rw [List.getD_eq_getElem?_getD, List.getElem?_eq_none (by rw [b64_len]; exact h)]
    decide
theorem all_ok : ((List.range 64).all fun i => !nan (B64.getD i 0) && (i == 0 || decide (cmpF (B64.getD (i - 1) 0) (B64.getD i 0) < 0))) = true := by decide +kernel
theorem b64_ok : okB B64 := by
  intro i hi
  rw [b64_len] at hi
  have h := List.all_eq_true.1 all_ok i (by simpa using hi)
  simp only [Bool.and_eq_true, Bool.or_eq_true, Bool.not_eq_true', beq_iff_eq, decide_eq_true_eq] at h
  exact ⟨h.1, fun h0 => h.2.resolve_left (by omega)⟩
theorem all_cells : ((List.range 64).all fun v => cellIx B64 (F v) == v) = true := by decide +kernel
theorem b64_cell (v : Nat) (h : v < 64) : cellIx B64 (F v) = v := by
  have h := List.all_eq_true.1 all_cells v (by simpa using h)
  simpa using h

theorem rep_pow (t : Nat) (ht : t ≤ 1020) : ∃ R, R < 2047 * 2 ^ 52 ∧ mag R = 2 ^ t * U := Flt.pow_repU t ht

/-- What a gauge with a bound at each number has been told. -/
structure RG (x : G) (vs : List Nat) : Prop where
  bs : x.bs = B64
  len : x.cs.length = 65
  cnt : ∀ j, j < 64 → x.cs.getD j 0 = (vs.count j : Int)
  last : x.cs.getD 64 0 = 0
  n : x.n = (vs.length : Int)
  nn : x.nn = 0
  fin : Flt.Fin x.me
  me : mag (rung x.me) ≤ 2 ^ (2 * vs.length + 7) * U

theorem RG.calm {x : G} {vs : List Nat} (h : RG x vs) (hl : vs.length ≤ 500) : Calm x := by
  refine ⟨by rw [h.n]; omega, by rw [h.n]; omega, by rw [h.nn]; omega, by rw [h.nn]; omega, fun i => ?_, by rw [h.bs, b64_len]; omega⟩
  rcases Nat.lt_or_ge i 64 with hi | hi
  · rw [h.cnt i hi]
    have := List.count_le_length (a := i) (l := vs)
    omega
  · by_cases h64 : i = 64
    · subst h64; rw [h.last]; omega
    · rw [List.getD_eq_getElem?_getD, List.getElem?_eq_none (by rw [h.len]; omega)]
      simp

theorem rg_new : RG (newG B64) [] where
  bs := rfl
  len := by simp [newG, b64_len]
  cnt := by
    intro j hj
    show (List.replicate _ (0 : Int)).getD j 0 = _
    rw [List.getD_eq_getElem?_getD, List.getElem?_replicate]
    split <;> rfl
  last := by simp [newG, b64_len, List.getD_eq_getElem?_getD]
  n := rfl
  nn := rfl
  fin := Flt.zero_fin.1
  me := by
    show mag (rung 0) ≤ _
    rw [show rung 0 = 0 by decide, Flt.mag_zero]
    exact Nat.zero_le _

theorem fv_abs (w : Nat) : (fv w).natAbs = mag (rung w) := Flt.sv_abs _ _

/-- A Put of a small whole number: the operations are plain; what then is held. -/
theorem rg_put {x : G} {vs : List Nat} (h : RG x vs) (hl : vs.length < 500) (v : Nat) (hv : v < 64) :
    ∃ d q s, floatBits .sub .f64 (F v) x.me = some d ∧ floatBits .quo .f64 d (floatOfInt .f64 (x.n + 1)) = some q ∧ floatBits .add .f64 x.me q = some s ∧ RG (putS x (F v) s) (vs ++ [v]) := by
  obtain ⟨f1, f2, f3, f4⟩ := F_fin (v := v) (by omega)
  generalize hk : vs.length = k at *
  obtain ⟨R1, r1, m1⟩ := rep_pow (2 * k + 8) (by omega)
  obtain ⟨R2, r2, m2⟩ := rep_pow (2 * k + 9) (by omega)
  have hU := Flt.U_pos
  have hme := h.me
  rw [hk] at hme
  have p8 : 2 ^ (2 * k + 8) = 2 * 2 ^ (2 * k + 7) := by rw [Nat.pow_succ]; omega
  have p9 : 2 ^ (2 * k + 9) = 4 * 2 ^ (2 * k + 7) := by rw [Nat.pow_succ, Nat.pow_succ]; omega
  have p7 : 128 ≤ 2 ^ (2 * k + 7) := by
    calc 128 = 2 ^ 7 := rfl
      _ ≤ _ := Nat.pow_le_pow_right (by omega) (by omega)
  generalize 2 ^ (2 * k + 7) = b at *
  have hvu : v * U ≤ b * U := Nat.mul_le_mul_right _ (by omega)
  have hmu := fv_abs x.me
  obtain ⟨d, hd, nd⟩ := Flt.sub_near f1 h.fin
  have hd1 : rung d ≤ R1 := by
    refine nd.le ?_
    rw [m1, p8, f2]
    have : (2 : Nat) ^ (1074 - 1074) = 1 := rfl
    rw [this, Nat.mul_one, Nat.mul_assoc, Nat.two_mul]
    have e : ((v : Int) * U) = ((v * U : Nat) : Int) := by simp
    rw [e]
    omega
  have hdf : Flt.Fin d := Nat.lt_of_le_of_lt hd1 r1
  have hdm : mag (rung d) ≤ mag R1 := Flt.mag_le hd1
  obtain ⟨q, hq, -, -, -, q1, -⟩ := Flt.div_int (n := k + 1) hdf (by omega) (by omega)
  have hq1 : rung q ≤ R1 := q1 R1 (by
    calc mag (rung d) ≤ 1 * mag R1 := by rw [Nat.one_mul]; exact hdm
      _ ≤ (k + 1) * mag R1 := Nat.mul_le_mul_right _ (by omega))
  have hqf : Flt.Fin q := Nat.lt_of_le_of_lt hq1 r1
  have hqm : mag (rung q) ≤ mag R1 := Flt.mag_le hq1
  have hqu := fv_abs q
  obtain ⟨s, hs, ns⟩ := Flt.add_near h.fin hqf
  have hs1 : rung s ≤ R2 := by
    refine ns.le ?_
    rw [m2, p9]
    have : (2 : Nat) ^ (1074 - 1074) = 1 := rfl
    rw [this, Nat.mul_one, Nat.mul_assoc]
    rw [m1, p8, Nat.mul_assoc] at hqm
    omega
  have hsf : Flt.Fin s := Nat.lt_of_le_of_lt hs1 r2
  have hcan : canonF s = s := by unfold canonF; rw [hsf.not_nan]; rfl
  have hix : cellIx x.bs (F v) = v := by rw [h.bs]; exact b64_cell v hv
  refine ⟨d, q, s, hd, ?_, hs, ?_⟩
  · rw [h.n, hk]
    exact hq
  · refine ⟨h.bs, ?_, ?_, ?_, ?_, h.nn, ?_, ?_⟩
    · show (x.cs.set _ _).length = 65
      rw [List.length_set]; exact h.len
    · intro j hj
      show (x.cs.set (cellIx x.bs (F v)) (x.cs.getD (cellIx x.bs (F v)) 0 + 1)).getD j 0 = _
      rw [hix, List.getD_eq_getElem?_getD, List.getElem?_set, List.count_append, List.count_singleton]
      by_cases hjv : v = j
      · subst hjv
        rw [if_pos rfl, if_pos (by rw [h.len]; omega)]
        have hc := h.cnt v hv
        rw [List.getD_eq_getElem?_getD] at hc
        simp [hc]
      · rw [if_neg hjv, ← List.getD_eq_getElem?_getD, h.cnt j hj]
        simp [hjv]
    · show (x.cs.set (cellIx x.bs (F v)) (x.cs.getD (cellIx x.bs (F v)) 0 + 1)).getD 64 0 = _
      rw [hix, List.getD_eq_getElem?_getD, List.getElem?_set, if_neg (by omega), ← List.getD_eq_getElem?_getD]
      exact h.last
    · show x.n + 1 = _
      rw [h.n, List.length_append, List.length_singleton, hk]
      simp
    · show Flt.Fin (canonF s)
      rw [hcan]; exact hsf
    · show mag (rung (canonF s)) ≤ _
      rw [hcan, List.length_append, List.length_singleton, hk]
      have e : 2 * (k + 1) + 7 = 2 * k + 9 := by omega
      rw [e, p9, ← p9, ← m2]
      exact Flt.mag_le hs1

/-! ### the quantile -/
theorem count_lt_succ (vs : List Nat) (j : Nat) : vs.countP (fun v => decide (v < j + 1)) = vs.countP (fun v => decide (v < j)) + vs.count j := by
  induction vs with
  | nil => rfl
  | cons v vs ih =>
    rw [List.countP_cons, List.countP_cons, List.count_cons, ih]
    by_cases h1 : v < j
    · have h2 : ¬ v = j := by omega
      simp [h1, h2, show v < j + 1 by omega]; omega
    · by_cases h2 : v = j
      · subst h2; simp; omega
      · simp [h1, h2, show ¬ v < j + 1 by omega]

/-- The bound that is answered is one of the numbers; below it are fewer than r, up to it at least r. -/
theorem qf_spec {x : G} {vs : List Nat} (h : RG x vs) (hall : ∀ v ∈ vs, v < 64) (r : Int) (hr1 : 1 ≤ r) (hrn : r ≤ vs.length) :
    ∃ t, t < 64 ∧ qf x.bs x.cs r x.gr = F t ∧ ((vs.countP fun v => decide (v < t) : Nat) : Int) < r ∧ r ≤ ((vs.countP fun v => decide (v < t + 1) : Nat) : Int) := by
  have key : ∀ m j, m + j = 64 → ((vs.countP fun v => decide (v < j) : Nat) : Int) < r →
      ∃ t, t < 64 ∧ qf (x.bs.drop j) (x.cs.drop j) (r - (vs.countP fun v => decide (v < j) : Nat)) x.gr = F t ∧ ((vs.countP fun v => decide (v < t) : Nat) : Int) < r ∧ r ≤ ((vs.countP fun v => decide (v < t + 1) : Nat) : Int) := by
    intro m
    induction m with
    | zero =>
      intro j hj hlt
      exfalso
      have hj64 : j = 64 := by omega
      subst hj64
      have : (vs.countP fun v => decide (v < 64)) = vs.length := by
        rw [List.countP_eq_length]
        intro v hv
        simpa using hall v hv
      omega
    | succ m ih =>
      intro j hj hlt
      have hjl : j < 64 := by omega
      rw [drop_getD x.bs 0 j (by rw [h.bs, b64_len]; exact hjl), drop_getD x.cs 0 j (by rw [h.len]; omega)]
      unfold qf
      rw [h.cnt j hjl]
      have hs := count_lt_succ vs j
      by_cases hle : r - (vs.countP fun v => decide (v < j) : Nat) - (vs.count j : Int) ≤ 0
      · rw [if_pos hle]
        refine ⟨j, hjl, by rw [h.bs]; exact b64_get j hjl, hlt, ?_⟩
        omega
      · rw [if_neg hle]
        have := ih (j + 1) (by omega) (by omega)
        have e : r - (vs.countP fun v => decide (v < j) : Nat) - (vs.count j : Int) = r - ((vs.countP fun v => decide (v < j + 1) : Nat) : Int) := by omega
        rw [e]
        exact this
  have := key 64 0 (by omega) (by simp; omega)
  simpa using this

/-- A part of n, and the rank that it comes to. -/
theorem rank_spec {k n : Nat} (hk : k ≤ n) (h1 : 1 ≤ n) (hn : n ≤ 500) :
    ∃ q m r, floatBits .quo .f64 (F k) (F n) = some q ∧ (FloatKind.f64.format.order q 0 == some .gt || FloatKind.f64.format.order q 0 == some .eq) = true ∧ (FloatKind.f64.format.order q 4607182418800017408 == some .lt || FloatKind.f64.format.order q 4607182418800017408 == some .eq) = true ∧
      floatBits .mul .f64 q (F n) = some m ∧ Flt.Fin m ∧ 0 ≤ fv m ∧ rankV m n = r ∧ 1 ≤ r ∧ r ≤ n ∧ (k : Int) ≤ r ∧ r ≤ (k : Int) + 1 := by
  obtain ⟨f1, f2, f3, f4⟩ := F_fin (v := k) (by omega)
  obtain ⟨g1, g2, g3, g4⟩ := F_fin (v := n) (by omega)
  have hU := Flt.U_pos
  have hW : U = 2 ^ 20 * Flt.pw2 1054 := Flt.U_ofp (a := 20) (b := 1054) rfl
  have hWp : 0 < Flt.pw2 1054 := Flt.pw2_pos _
  have repW : ∀ c, c ≤ 2 ^ 53 → ∃ R, mag R = c * Flt.pw2 1054 := fun c hc => Flt.rep_pw2 1054 c hc
  have mk : mag (rung (F k)) = k * U := by
    have := fv_abs (F k)
    rw [f2] at this
    rw [← this]
    have e : ((k : Int) * U) = ((k * U : Nat) : Int) := by simp
    rw [e, Int.natAbs_natCast]
  have mn : mag (rung (F n)) = n * U := by
    have := fv_abs (F n)
    rw [g2] at this
    rw [← this]
    have e : ((n : Int) * U) = ((n * U : Nat) : Int) := by simp
    rw [e, Int.natAbs_natCast]
  obtain ⟨q, hq, qneg, -, -, qle, qge⟩ := Flt.div_int (n := n) f1 h1 (by omega)
  rw [mk] at qle qge
  rw [f3] at qneg
  obtain ⟨a, ha⟩ : ∃ a, k * 2 ^ 20 / n = a := ⟨_, rfl⟩
  have ha1 : n * a ≤ k * 2 ^ 20 := by rw [← ha]; exact Nat.mul_div_le _ _
  have ha2 : k * 2 ^ 20 < n * (a + 1) := by
    have e1 := Nat.div_add_mod (k * 2 ^ 20) n
    have e2 := Nat.mod_lt (k * 2 ^ 20) h1
    rw [ha] at e1
    rw [Nat.mul_add, Nat.mul_one]
    omega
  have ha3 : a ≤ 2 ^ 20 := by
    rw [← ha]
    exact Nat.div_le_of_le_mul (Nat.mul_le_mul_right _ hk)
  generalize Flt.pw2 1054 = X at *
  have repX : ∀ c, c ≤ 2 ^ 40 → ∃ R, R < 2047 * 2 ^ 52 ∧ mag R = c * X := by
    intro c hc
    obtain ⟨R, hR⟩ := repW c (by omega)
    refine ⟨R, ?_, hR⟩
    refine Nat.not_le.1 fun h => ?_
    have h5 := Flt.mag_le h
    rw [Flt.mag_infp, hR] at h5
    have h9 : 1 ≤ Flt.pw2 972 := Flt.pw2_pos _
    generalize Flt.pw2 972 = z at *
    have h6 : c * X ≤ 2 ^ 40 * X := Nat.mul_le_mul_right _ hc
    have h7 : z * (2 ^ 52 * U) = z * (2 ^ 52 * 2 ^ 20) * X := by rw [hW]; ac_rfl
    rw [h7] at h5
    have h8 : z * (2 ^ 52 * 2 ^ 20) ≤ 2 ^ 40 := Nat.le_of_mul_le_mul_right (Nat.le_trans h5 h6) hWp
    omega
  obtain ⟨RL, l1, l2⟩ := repX a (by omega)
  obtain ⟨RH, u1, u2⟩ := repX (a + 1) (by omega)
  obtain ⟨RU, w1, w2⟩ := repX (2 ^ 20) (by omega)
  have qL : RL ≤ rung q := qge RL (Nat.le_of_lt l1) (by
    rw [l2, hW, ← Nat.mul_assoc, ← Nat.mul_assoc]
    exact Nat.mul_le_mul_right _ ha1)
  have qH : rung q ≤ RH := qle RH (by
    rw [u2, hW, ← Nat.mul_assoc, ← Nat.mul_assoc]
    exact Nat.mul_le_mul_right _ (Nat.le_of_lt ha2))
  have qU : rung q ≤ RU := qle RU (by
    rw [w2, hW]
    exact Nat.mul_le_mul_right _ hk)
  have qfin : Flt.Fin q := Nat.lt_of_le_of_lt qU w1
  have q1 := Flt.mag_le qL
  have q2 := Flt.mag_le qH
  have q3 := Flt.mag_le qU
  rw [l2] at q1
  rw [u2] at q2
  rw [w2] at q3
  have hfq : fv q = (mag (rung q) : Int) := by unfold fv; rw [qneg]; rfl
  obtain ⟨m, hm, nm⟩ := Flt.mul_near qfin g1
  rw [qneg, g3, mn] at nm
  have mneg : neg m = false := nm.neg
  have hb1 : a * n ≤ 2 ^ 40 := by
    calc a * n ≤ 2 ^ 20 * 500 := Nat.mul_le_mul ha3 hn
      _ ≤ 2 ^ 40 := by omega
  have hb2 : (a + 1) * n ≤ 2 ^ 40 := by
    calc (a + 1) * n ≤ (2 ^ 20 + 1) * 500 := Nat.mul_le_mul (by omega) hn
      _ ≤ 2 ^ 40 := by omega
  obtain ⟨R3, s1, s2⟩ := repX (a * n) hb1
  obtain ⟨R4, t1, t2⟩ := repX ((a + 1) * n) hb2
  have m3 : R3 ≤ rung m := nm.geU rfl (Nat.le_of_lt s1) (by
    rw [s2]
    calc a * n * X * U = a * X * (n * U) := by generalize Flt.U = u; ac_rfl
      _ ≤ mag (rung q) * (n * U) := Nat.mul_le_mul_right _ q1)
  have m4 : rung m ≤ R4 := nm.leU rfl (by
    rw [t2]
    calc mag (rung q) * (n * U) ≤ (a + 1) * X * (n * U) := Nat.mul_le_mul_right _ q2
      _ = (a + 1) * n * X * U := by generalize Flt.U = u; ac_rfl)
  have mfin : Flt.Fin m := Nat.lt_of_le_of_lt m4 t1
  have hfm : fv m = (mag (rung m) : Int) := by unfold fv; rw [mneg]; rfl
  have m5 := Flt.mag_le m3
  have m6 := Flt.mag_le m4
  rw [s2] at m5
  rw [t2] at m6
  obtain ⟨hc, N, hN, hle, hlt⟩ := Flt.ceil_fin mfin
  have hdiv : fv (ceilW m) / U = N := by rw [hN]; exact Int.mul_ediv_cancel _ (by omega)
  rw [hfm] at hle hlt
  -- in units of X
  have n1 : (k : Int) ≤ N := by
    refine Int.not_lt.1 fun hx => ?_
    have e1 : N * U ≤ ((k : Int) - 1) * U := Int.mul_le_mul_of_nonneg_right (by omega) (by omega)
    have e2 : (((a * n * X : Nat)) : Int) ≤ ((k : Int) - 1) * U := by
      have : ((a * n * X : Nat) : Int) ≤ (mag (rung m) : Int) := by exact_mod_cast m5
      omega
    have e3 : ((k : Int) - 1) * U = (((k : Int) - 1) * 2 ^ 20) * X := by
      rw [hW, Int.natCast_mul, ← Int.mul_assoc]; rfl
    have e4 : ((a * n * X : Nat) : Int) = ((a * n : Nat) : Int) * X := by rw [Int.natCast_mul]
    rw [e3, e4] at e2
    have e5 := Int.le_of_mul_le_mul_right e2 (by omega)
    have e6 : n * (a + 1) = a * n + n := by rw [Nat.mul_add, Nat.mul_one, Nat.mul_comm]
    omega
  have n2 : N ≤ (k : Int) + 1 := by
    refine Int.not_lt.1 fun hx => ?_
    have e1 : ((k : Int) + 2) * U ≤ N * U := Int.mul_le_mul_of_nonneg_right (by omega) (by omega)
    have e0 : ((k : Int) + 2) * U = ((k : Int) + 1) * U + U := by rw [Int.add_mul, Int.add_mul]; omega
    have e2 : ((k : Int) + 1) * U < ((((a + 1) * n * X : Nat)) : Int) := by
      have : (mag (rung m) : Int) ≤ (((a + 1) * n * X : Nat) : Int) := by exact_mod_cast m6
      omega
    have e3 : ((k : Int) + 1) * U = (((k : Int) + 1) * 2 ^ 20) * X := by
      rw [hW, Int.natCast_mul, ← Int.mul_assoc]; rfl
    have e4 : (((a + 1) * n * X : Nat) : Int) = (((a + 1) * n : Nat) : Int) * X := by rw [Int.natCast_mul]
    rw [e3, e4] at e2
    have e5 := Int.lt_of_mul_lt_mul_right e2 (by omega)
    have e6 : (a + 1) * n = n * a + n := by rw [Nat.add_mul, Nat.one_mul, Nat.mul_comm]
    omega
  have hone := Flt.one_fin
  refine ⟨q, m, rankV m n, hq, ?_, ?_, hm, mfin, by rw [hfm]; omega, rfl, ?_⟩
  · rw [Flt.t_ge qfin.not_nan Flt.zero_fin.1.not_nan, Flt.zero_fin.2, hfq]
    simp
  · rw [Flt.t_le qfin.not_nan hone.1.not_nan, hone.2.1, hfq]
    rw [← hW] at q3
    simp
    omega
  · unfold rankV
    rw [hdiv]
    split <;> omega
end Go.Proofs.Ytdkcnbcjjlaidaa
