/- Package real: kinds of numbers: Class, count. By an AI agent. -/
import Derived.Test.YtipkiiblghnoiaaGreatDoorSumB
namespace Go.Proofs.YtipkiiblghnoiaaGreatDoor.Sm
open Go.ChangeShapes Go.WideShapes Go.ChangeAt Go.RowKit
set_option linter.unusedVariables false
set_option linter.unusedSimpArgs false

/-- Which kind: 0 a NaN, 1 -Inf, 2 +Inf, 3 -0, 4 another one. -/
def kind (u : Nat) : Nat := if 9218868437227405312 < u % 9223372036854775808 then 0 else if u % 9223372036854775808 = 9218868437227405312 then (if u < 9223372036854775808 then 2 else 1) else if u = 9223372036854775808 then 3 else 4
def classF (u : Nat) : Int :=
  if 9218868437227405312 < u % 9223372036854775808 then 1 else
  let above : Int := if u % 9223372036854775808 = 9218868437227405312 then 9 else if 4503599627370496 ≤ u % 9223372036854775808 then 8 else if 0 < u % 9223372036854775808 then 7 else 6
  if u < 9223372036854775808 then above else 11 - above
theorem class_cases (u : Nat) (hu : u < 18446744073709551616) : (kind u = 0 ∧ classF u = 1) ∨ (kind u = 1 ∧ classF u = 2) ∨ (kind u = 2 ∧ classF u = 9) ∨ (kind u = 3 ∧ classF u = 5) ∨
    (kind u = 4 ∧ (classF u = 3 ∨ classF u = 4 ∨ classF u = 6 ∨ classF u = 7 ∨ classF u = 8)) := by
  unfold kind classF
  simp only
  by_cases h1 : 9218868437227405312 < u % 9223372036854775808
  · simp only [if_pos h1]; simp
  · simp only [if_neg h1]
    by_cases h2 : u % 9223372036854775808 = 9218868437227405312
    · simp only [if_pos h2]
      by_cases h3 : u < 9223372036854775808
      · simp only [if_pos h3]; simp
      · simp only [if_neg h3]; simp
    · simp only [if_neg h2]
      by_cases h4 : 4503599627370496 ≤ u % 9223372036854775808
      · have h5 : ¬ u = 9223372036854775808 := by omega
        simp only [if_pos h4, if_neg h5]
        by_cases h3 : u < 9223372036854775808
        · simp only [if_pos h3]; simp
        · simp only [if_neg h3]; simp
      · simp only [if_neg h4]
        by_cases h6 : 0 < u % 9223372036854775808
        · have h5 : ¬ u = 9223372036854775808 := by omega
          simp only [if_pos h6, if_neg h5]
          by_cases h3 : u < 9223372036854775808
          · simp only [if_pos h3]; simp
          · simp only [if_neg h3]; simp
        · simp only [if_neg h6]
          by_cases h3 : u < 9223372036854775808
          · have h5 : ¬ u = 9223372036854775808 := by omega
            simp only [if_pos h3, if_neg h5]; simp
          · have h5 : u = 9223372036854775808 := by omega
            simp only [if_neg h3, if_pos h5]; simp
theorem andNot_top (a : Nat) : bits BinOp.andNot IntKind.u64 (a : Int) 9223372036854775808 = ((a % 9223372036854775808 : Nat) : Int) := by
  have h1 : (BitVec.ofInt 64 (a : Int)).toNat = a % 2 ^ 64 := by rw [BitVec.ofInt_natCast, BitVec.toNat_ofNat]
  have h2 : (~~~ (BitVec.ofInt 64 9223372036854775808)).toNat = 2 ^ 63 - 1 := by decide
  show IntKind.u64.wrap ((BitVec.ofInt 64 (a : Int) &&& ~~~ BitVec.ofInt 64 9223372036854775808).toNat : Int) = _
  rw [BitVec.toNat_and, h1, h2, Nat.and_two_pow_sub_one_eq_mod, IntKind.wrap_u64]
  omega

set_option maxRecDepth 100000 in
set_option maxHeartbeats 4000000 in
theorem class_any (u : Nat) (hu : u < 18446744073709551616) (w : World) :
    Calls Tryz.prog 21 #[.float .f64 u] w fun e w' => e = .returned (.int .i64 (classF u)) ∧ w' = w := by
  have e1 := ext_bits
  have e2 := andNot_top u
  have HC : RowKit.Hid (classF u = (if 9218868437227405312 < u % 9223372036854775808 then 1 else if u < 9223372036854775808 then (if u % 9223372036854775808 = 9218868437227405312 then 9 else if 4503599627370496 ≤ u % 9223372036854775808 then 8 else if 0 < u % 9223372036854775808 then 7 else 6) else 11 - (if u % 9223372036854775808 = 9218868437227405312 then 9 else if 4503599627370496 ≤ u % 9223372036854775808 then 8 else if 0 < u % 9223372036854775808 then 7 else 6))) := Lib.hid rfl
  have HS : RowKit.Hid (u % 9223372036854775808 = 0 → u < 9223372036854775808 ∨ u = 9223372036854775808) := Lib.hid (by intro h; omega)
  clear hu
  generalize u % 9223372036854775808 = s at *
  generalize classF u = c at *
  by_cases h1 : 9218868437227405312 < s
  · have g1 : decide ((s : Int) > 9218868437227405312) = true := by rw [decide_eq_true_eq]; omega
    have g1' : decide (9218868437227405312 < s) = true := by rw [decide_eq_true_eq]; exact h1
    have hv : c = 1 := by
      have h := HC.out
      simp only [if_pos h1] at h
      exact h
    have HV := Lib.hid hv
    clear hv h1
    go_enter Tryz.func21, Tryz.ntmps21
    go_wp2_with fail
    go_ret
    refine ⟨?_, rfl⟩
    rw [HV.out]
    rfl
  have g1 : decide ((s : Int) > 9218868437227405312) = false := by rw [decide_eq_false_iff_not]; omega
  have g1' : decide (9218868437227405312 < s) = false := by rw [decide_eq_false_iff_not]; exact h1
  by_cases h2 : s = 9218868437227405312
  · by_cases h3 : u < 9223372036854775808
    · have g2 : ((s : Int) == 9218868437227405312) = true := by rw [beq_iff_eq]; omega
      have k1 : decide ((u : Int) < 9223372036854775808) = true := by rw [decide_eq_true_eq]; omega
      have k1' : decide (u < 9223372036854775808) = true := by rw [decide_eq_true_eq]; exact h3
      have hv : c = 9 := by
        have h := HC.out
        simp only [if_neg h1] at h
        simp only [if_pos h3] at h
        simp only [if_pos h2] at h
        exact h
      have HV := Lib.hid hv
      clear hv h2 h1 h3
      go_enter Tryz.func21, Tryz.ntmps21
      go_wp2_with fail
      go_ret
      refine ⟨?_, rfl⟩
      rw [HV.out]
      rfl
    · have g2 : ((s : Int) == 9218868437227405312) = true := by rw [beq_iff_eq]; omega
      have k1 : decide ((u : Int) < 9223372036854775808) = false := by rw [decide_eq_false_iff_not]; omega
      have k1' : decide (u < 9223372036854775808) = false := by rw [decide_eq_false_iff_not]; exact h3
      have hv : c = 2 := by
        have h := HC.out
        simp only [if_neg h1] at h
        simp only [if_neg h3] at h
        simp only [if_pos h2] at h
        exact h
      have HV := Lib.hid hv
      clear hv h2 h1 h3
      go_enter Tryz.func21, Tryz.ntmps21
      go_wp2_with fail
      go_ret
      refine ⟨?_, rfl⟩
      rw [HV.out]
      rfl
  have g2 : ((s : Int) == 9218868437227405312) = false := by rw [beq_eq_false_iff_ne]; omega
  by_cases h4 : 4503599627370496 ≤ s
  · by_cases h3 : u < 9223372036854775808
    · have g3 : decide ((s : Int) ≥ 4503599627370496) = true := by rw [decide_eq_true_eq]; omega
      have g3' : decide (4503599627370496 ≤ s) = true := by rw [decide_eq_true_eq]; exact h4
      have k1 : decide ((u : Int) < 9223372036854775808) = true := by rw [decide_eq_true_eq]; omega
      have k1' : decide (u < 9223372036854775808) = true := by rw [decide_eq_true_eq]; exact h3
      have hv : c = 8 := by
        have h := HC.out
        simp only [if_neg h1] at h
        simp only [if_pos h3] at h
        simp only [if_neg h2] at h
        simp only [if_pos h4] at h
        exact h
      have HV := Lib.hid hv
      clear hv h4 h2 h1 h3
      go_enter Tryz.func21, Tryz.ntmps21
      go_wp2_with fail
      go_ret
      refine ⟨?_, rfl⟩
      rw [HV.out]
      rfl
    · have g3 : decide ((s : Int) ≥ 4503599627370496) = true := by rw [decide_eq_true_eq]; omega
      have g3' : decide (4503599627370496 ≤ s) = true := by rw [decide_eq_true_eq]; exact h4
      have k1 : decide ((u : Int) < 9223372036854775808) = false := by rw [decide_eq_false_iff_not]; omega
      have k1' : decide (u < 9223372036854775808) = false := by rw [decide_eq_false_iff_not]; exact h3
      have hv : c = 3 := by
        have h := HC.out
        simp only [if_neg h1] at h
        simp only [if_neg h3] at h
        simp only [if_neg h2] at h
        simp only [if_pos h4] at h
        exact h
      have HV := Lib.hid hv
      clear hv h4 h2 h1 h3
      go_enter Tryz.func21, Tryz.ntmps21
      go_wp2_with fail
      go_ret
      refine ⟨?_, rfl⟩
      rw [HV.out]
      rfl
  have g3 : decide ((s : Int) ≥ 4503599627370496) = false := by rw [decide_eq_false_iff_not]; omega
  have g3' : decide (4503599627370496 ≤ s) = false := by rw [decide_eq_false_iff_not]; exact h4
  by_cases h5 : 0 < s
  · by_cases h3 : u < 9223372036854775808
    · have g4 : decide ((s : Int) > 0) = true := by rw [decide_eq_true_eq]; omega
      have g4' : decide (0 < s) = true := by rw [decide_eq_true_eq]; exact h5
      have k1 : decide ((u : Int) < 9223372036854775808) = true := by rw [decide_eq_true_eq]; omega
      have k1' : decide (u < 9223372036854775808) = true := by rw [decide_eq_true_eq]; exact h3
      have hv : c = 7 := by
        have h := HC.out
        simp only [if_neg h1] at h
        simp only [if_pos h3] at h
        simp only [if_neg h2] at h
        simp only [if_neg h4] at h
        simp only [if_pos h5] at h
        exact h
      have HV := Lib.hid hv
      clear hv h5 h4 h2 h1 h3
      go_enter Tryz.func21, Tryz.ntmps21
      go_wp2_with fail
      go_ret
      refine ⟨?_, rfl⟩
      rw [HV.out]
      rfl
    · have g4 : decide ((s : Int) > 0) = true := by rw [decide_eq_true_eq]; omega
      have g4' : decide (0 < s) = true := by rw [decide_eq_true_eq]; exact h5
      have k1 : decide ((u : Int) < 9223372036854775808) = false := by rw [decide_eq_false_iff_not]; omega
      have k1' : decide (u < 9223372036854775808) = false := by rw [decide_eq_false_iff_not]; exact h3
      have hv : c = 4 := by
        have h := HC.out
        simp only [if_neg h1] at h
        simp only [if_neg h3] at h
        simp only [if_neg h2] at h
        simp only [if_neg h4] at h
        simp only [if_pos h5] at h
        exact h
      have HV := Lib.hid hv
      clear hv h5 h4 h2 h1 h3
      go_enter Tryz.func21, Tryz.ntmps21
      go_wp2_with fail
      go_ret
      refine ⟨?_, rfl⟩
      rw [HV.out]
      rfl
  · by_cases h3 : u < 9223372036854775808
    · have g4 : decide ((s : Int) > 0) = false := by rw [decide_eq_false_iff_not]; omega
      have g4' : decide (0 < s) = false := by rw [decide_eq_false_iff_not]; exact h5
      have k1 : decide ((u : Int) < 9223372036854775808) = true := by rw [decide_eq_true_eq]; omega
      have k1' : decide (u < 9223372036854775808) = true := by rw [decide_eq_true_eq]; exact h3
      have hv : c = 6 := by
        have h := HC.out
        simp only [if_neg h1] at h
        simp only [if_pos h3] at h
        simp only [if_neg h2] at h
        simp only [if_neg h4] at h
        simp only [if_neg h5] at h
        exact h
      have HV := Lib.hid hv
      clear hv h5 h4 h2 h1 h3
      go_enter Tryz.func21, Tryz.ntmps21
      go_wp2_with fail
      go_ret
      refine ⟨?_, rfl⟩
      rw [HV.out]
      rfl
    · have g4 : decide ((s : Int) > 0) = false := by rw [decide_eq_false_iff_not]; omega
      have g4' : decide (0 < s) = false := by rw [decide_eq_false_iff_not]; exact h5
      have k1 : decide ((u : Int) < 9223372036854775808) = false := by rw [decide_eq_false_iff_not]; omega
      have k1' : decide (u < 9223372036854775808) = false := by rw [decide_eq_false_iff_not]; exact h3
      have hv : c = 5 := by
        have h := HC.out
        simp only [if_neg h1] at h
        simp only [if_neg h3] at h
        simp only [if_neg h2] at h
        simp only [if_neg h4] at h
        simp only [if_neg h5] at h
        exact h
      have HV := Lib.hid hv
      clear hv h5 h4 h2 h1 h3
      go_enter Tryz.func21, Tryz.ntmps21
      go_wp2_with fail
      go_ret
      refine ⟨?_, rfl⟩
      rw [HV.out]
      rfl

/-- What was counted. -/
structure Sn where
  n : Nat
  l : Nat
  g : Nat
  o : Nat
  m : Nat
def snA (s : Sn) : Array Value := #[.int .i64 (s.n : Int), .int .i64 (s.l : Int), .int .i64 (s.g : Int), .int .i64 (s.o : Int), .int .i64 (s.m : Int)]
def bump (s : Sn) (u : Nat) : Sn := if kind u = 0 then { s with n := s.n + 1 } else if kind u = 1 then { s with l := s.l + 1 } else if kind u = 2 then { s with g := s.g + 1 } else if kind u = 3 then { s with m := s.m + 1 } else { s with o := s.o + 1 }
def SnAt (w : World) (b : Nat) (s : Sn) : Prop := w.heap[b]? = some (.cells (snA s) 60 (0, 0))
def Sn.few (s : Sn) (k : Nat) : Prop := s.n ≤ k ∧ s.l ≤ k ∧ s.g ≤ k ∧ s.o ≤ k ∧ s.m ≤ k
theorem bump_few {s : Sn} {k : Nat} (h : s.few k) (u : Nat) : (bump s u).few (k + 1) := by
  obtain ⟨h1, h2, h3, h4, h5⟩ := h
  unfold bump
  split
  · exact ⟨by simp; omega, by simp; omega, by simp; omega, by simp; omega, by simp; omega⟩
  · split
    · exact ⟨by simp; omega, by simp; omega, by simp; omega, by simp; omega, by simp; omega⟩
    · split
      · exact ⟨by simp; omega, by simp; omega, by simp; omega, by simp; omega, by simp; omega⟩
      · split
        · exact ⟨by simp; omega, by simp; omega, by simp; omega, by simp; omega, by simp; omega⟩
        · exact ⟨by simp; omega, by simp; omega, by simp; omega, by simp; omega, by simp; omega⟩

set_option maxRecDepth 100000 in
set_option maxHeartbeats 4000000 in
theorem count_any {w : World} {b : Nat} {s : Sn} (h : SnAt w b s) {k : Nat} (hk : s.few k) (hk2 : k ≤ 1000000000) (u : Nat) (hu : u < 18446744073709551616) :
    Calls Tryz.prog 43 #[.pointer (some ⟨b, 0, none⟩), .float .f64 u] w fun e w' => e = .returned (.bool (decide (kind u = 4))) ∧ Hid (SnAt w' b (bump s u) ∧ Keep (· = b) w w') := by
  have HC := Lib.hid (class_any u hu w)
  have hcc := class_cases u hu
  have HH := Lib.hid h
  obtain ⟨k1, k2, k3, k4, k5⟩ := hk
  obtain ⟨n, l, g, o, m⟩ := s
  simp only at k1 k2 k3 k4 k5
  have c0 : w.cell? ⟨b, 0, none⟩ = some (.int .i64 (n : Int)) := blk_cell h 0
  have c1 : w.cell? ⟨b, 1, none⟩ = some (.int .i64 (l : Int)) := blk_cell h 1
  have c2 : w.cell? ⟨b, 2, none⟩ = some (.int .i64 (g : Int)) := blk_cell h 2
  have c3 : w.cell? ⟨b, 3, none⟩ = some (.int .i64 (o : Int)) := blk_cell h 3
  have c4 : w.cell? ⟨b, 4, none⟩ = some (.int .i64 (m : Int)) := blk_cell h 4
  have f0 : w.frozen? ⟨b, 0, none⟩ = false := blk_free h 0
  have f1 : w.frozen? ⟨b, 1, none⟩ = false := blk_free h 1
  have f2 : w.frozen? ⟨b, 2, none⟩ = false := blk_free h 2
  have f3 : w.frozen? ⟨b, 3, none⟩ = false := blk_free h 3
  have f4 : w.frozen? ⟨b, 4, none⟩ = false := blk_free h 4
  clear h
  have HB : RowKit.Hid (bump ⟨n, l, g, o, m⟩ u = if kind u = 0 then ⟨n + 1, l, g, o, m⟩ else if kind u = 1 then ⟨n, l + 1, g, o, m⟩ else if kind u = 2 then ⟨n, l, g + 1, o, m⟩ else if kind u = 3 then ⟨n, l, g, o, m + 1⟩ else ⟨n, l, g, o + 1, m⟩) := Lib.hid rfl
  generalize bump ⟨n, l, g, o, m⟩ u = s' at *
  generalize kind u = kd at *
  generalize classF u = c at *
  rcases hcc with ⟨rfl, rfl⟩ | ⟨rfl, rfl⟩ | ⟨rfl, rfl⟩ | ⟨rfl, rfl⟩ | ⟨rfl, hcc⟩
  · go_enter Tryz.func43, Tryz.ntmps43
    go_wp2_with (go_at_call 21
                 refine HC.out.mono ?_
                 rintro e w2 ⟨rfl, rfl⟩)
    go_ret
    have hb := HB.out
    simp only [if_true] at hb
    subst hb
    refine ⟨rfl, Lib.hid ⟨?_, Keep.setCell (bs := (· = b)) (Keep.refl _ _) (p := ⟨b, 0, none⟩) (Or.inl rfl) _⟩⟩
    have := blk_set HH.out 0 (.int .i64 ((n : Int) + 1))
    exact this
  · go_enter Tryz.func43, Tryz.ntmps43
    go_wp2_with (go_at_call 21
                 refine HC.out.mono ?_
                 rintro e w2 ⟨rfl, rfl⟩)
    go_ret
    have hb := HB.out
    simp only [if_neg (show ¬ (1 : Nat) = 0 by decide), if_pos (show (1 : Nat) = 1 from rfl)] at hb
    subst hb
    refine ⟨rfl, Lib.hid ⟨?_, Keep.setCell (bs := (· = b)) (Keep.refl _ _) (p := ⟨b, 1, none⟩) (Or.inl rfl) _⟩⟩
    have := blk_set HH.out 1 (.int .i64 ((l : Int) + 1))
    exact this
  · go_enter Tryz.func43, Tryz.ntmps43
    go_wp2_with (go_at_call 21
                 refine HC.out.mono ?_
                 rintro e w2 ⟨rfl, rfl⟩)
    go_ret
    have hb := HB.out
    simp only [if_neg (show ¬ (2 : Nat) = 0 by decide), if_neg (show ¬ (2 : Nat) = 1 by decide), if_pos (show (2 : Nat) = 2 from rfl)] at hb
    subst hb
    refine ⟨rfl, Lib.hid ⟨?_, Keep.setCell (bs := (· = b)) (Keep.refl _ _) (p := ⟨b, 2, none⟩) (Or.inl rfl) _⟩⟩
    have := blk_set HH.out 2 (.int .i64 ((g : Int) + 1))
    exact this
  · go_enter Tryz.func43, Tryz.ntmps43
    go_wp2_with (go_at_call 21
                 refine HC.out.mono ?_
                 rintro e w2 ⟨rfl, rfl⟩)
    go_ret
    have hb := HB.out
    simp only [if_neg (show ¬ (3 : Nat) = 0 by decide), if_neg (show ¬ (3 : Nat) = 1 by decide), if_neg (show ¬ (3 : Nat) = 2 by decide), if_pos (show (3 : Nat) = 3 from rfl)] at hb
    subst hb
    refine ⟨rfl, Lib.hid ⟨?_, Keep.setCell (bs := (· = b)) (Keep.refl _ _) (p := ⟨b, 4, none⟩) (Or.inl rfl) _⟩⟩
    have := blk_set HH.out 4 (.int .i64 ((m : Int) + 1))
    exact this
  · rcases hcc with rfl | rfl | rfl | rfl | rfl
    · go_enter Tryz.func43, Tryz.ntmps43
      go_wp2_with (go_at_call 21
                   refine HC.out.mono ?_
                   rintro e w2 ⟨rfl, rfl⟩)
      go_ret
      have hb := HB.out
      simp only [if_neg (show ¬ (4 : Nat) = 0 by decide), if_neg (show ¬ (4 : Nat) = 1 by decide), if_neg (show ¬ (4 : Nat) = 2 by decide), if_neg (show ¬ (4 : Nat) = 3 by decide)] at hb
      subst hb
      refine ⟨rfl, Lib.hid ⟨?_, Keep.setCell (bs := (· = b)) (Keep.refl _ _) (p := ⟨b, 3, none⟩) (Or.inl rfl) _⟩⟩
      have := blk_set HH.out 3 (.int .i64 ((o : Int) + 1))
      exact this
    · go_enter Tryz.func43, Tryz.ntmps43
      go_wp2_with (go_at_call 21
                   refine HC.out.mono ?_
                   rintro e w2 ⟨rfl, rfl⟩)
      go_ret
      have hb := HB.out
      simp only [if_neg (show ¬ (4 : Nat) = 0 by decide), if_neg (show ¬ (4 : Nat) = 1 by decide), if_neg (show ¬ (4 : Nat) = 2 by decide), if_neg (show ¬ (4 : Nat) = 3 by decide)] at hb
      subst hb
      refine ⟨rfl, Lib.hid ⟨?_, Keep.setCell (bs := (· = b)) (Keep.refl _ _) (p := ⟨b, 3, none⟩) (Or.inl rfl) _⟩⟩
      have := blk_set HH.out 3 (.int .i64 ((o : Int) + 1))
      exact this
    · go_enter Tryz.func43, Tryz.ntmps43
      go_wp2_with (go_at_call 21
                   refine HC.out.mono ?_
                   rintro e w2 ⟨rfl, rfl⟩)
      go_ret
      have hb := HB.out
      simp only [if_neg (show ¬ (4 : Nat) = 0 by decide), if_neg (show ¬ (4 : Nat) = 1 by decide), if_neg (show ¬ (4 : Nat) = 2 by decide), if_neg (show ¬ (4 : Nat) = 3 by decide)] at hb
      subst hb
      refine ⟨rfl, Lib.hid ⟨?_, Keep.setCell (bs := (· = b)) (Keep.refl _ _) (p := ⟨b, 3, none⟩) (Or.inl rfl) _⟩⟩
      have := blk_set HH.out 3 (.int .i64 ((o : Int) + 1))
      exact this
    · go_enter Tryz.func43, Tryz.ntmps43
      go_wp2_with (go_at_call 21
                   refine HC.out.mono ?_
                   rintro e w2 ⟨rfl, rfl⟩)
      go_ret
      have hb := HB.out
      simp only [if_neg (show ¬ (4 : Nat) = 0 by decide), if_neg (show ¬ (4 : Nat) = 1 by decide), if_neg (show ¬ (4 : Nat) = 2 by decide), if_neg (show ¬ (4 : Nat) = 3 by decide)] at hb
      subst hb
      refine ⟨rfl, Lib.hid ⟨?_, Keep.setCell (bs := (· = b)) (Keep.refl _ _) (p := ⟨b, 3, none⟩) (Or.inl rfl) _⟩⟩
      have := blk_set HH.out 3 (.int .i64 ((o : Int) + 1))
      exact this
    · go_enter Tryz.func43, Tryz.ntmps43
      go_wp2_with (go_at_call 21
                   refine HC.out.mono ?_
                   rintro e w2 ⟨rfl, rfl⟩)
      go_ret
      have hb := HB.out
      simp only [if_neg (show ¬ (4 : Nat) = 0 by decide), if_neg (show ¬ (4 : Nat) = 1 by decide), if_neg (show ¬ (4 : Nat) = 2 by decide), if_neg (show ¬ (4 : Nat) = 3 by decide)] at hb
      subst hb
      refine ⟨rfl, Lib.hid ⟨?_, Keep.setCell (bs := (· = b)) (Keep.refl _ _) (p := ⟨b, 3, none⟩) (Or.inl rfl) _⟩⟩
      have := blk_set HH.out 3 (.int .i64 ((o : Int) + 1))
      exact this
end Go.Proofs.YtipkiiblghnoiaaGreatDoor.Sm
