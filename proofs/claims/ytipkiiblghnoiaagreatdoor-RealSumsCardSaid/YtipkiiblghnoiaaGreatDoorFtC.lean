/- Contract of strconv's shortFloat[float64], at whatever mantissa and exponent a float has. By an AI agent. -/
import Derived.Test.YtipkiiblghnoiaaGreatDoorFtB
namespace Go.Proofs.YtipkiiblghnoiaaGreatDoor.Us
set_option linter.unusedVariables false
/-- A mantissa and an exponent that a finite float other than 0 has, its first bit at the top. -/
structure Ok (m : Nat) (e : Int) : Prop where
  lo : 9223372036854775808 ≤ m
  hi : m < 18446744073709551616
  e0 : -1137 ≤ e
  e1 : e ≤ 960
  dv : m % 2 ^ zz e = 0
theorem zz_range {e : Int} (h0 : -1137 ≤ e) (h1 : e ≤ 960) : 11 ≤ zz e ∧ zz e ≤ 63 := by unfold zz; split <;> omega
theorem pp_range {m : Nat} {e : Int} (h0 : -1137 ≤ e) (h1 : e ≤ 960) : -300 ≤ pp m e ∧ pp m e ≤ 330 ∧ 5 ≤ -(e + lgp (pp m e) + 3) ∧ -(e + lgp (pp m e) + 3) ≤ 58 := by
  unfold pp
  by_cases hs : skewd m e = true
  · have h2 : -1085 < e := by
      unfold skewd at hs
      simp only [Bool.and_eq_true, decide_eq_true_eq] at hs
      exact hs.2
    rw [if_pos hs]
    unfold skw lgp
    omega
  · rw [if_neg hs]
    unfold zz lg2 lgp
    split <;> omega
theorem tab_range : ∀ i : Fin 696, pmHi ((i.val : Int) - 348) < 18446744073709551616 ∧ 9223372036854775808 ≤ pmHi ((i.val : Int) - 348) ∧ pmLo ((i.val : Int) - 348) < 18446744073709551616 ∧ pmLo ((i.val : Int) - 348) ≤ pmHi ((i.val : Int) - 348) * 18446744073709551616 := by decide +kernel
theorem pm_range {p : Int} (h0 : -348 ≤ p) (h1 : p ≤ 347) : pmHi p < 18446744073709551616 ∧ 9223372036854775808 ≤ pmHi p ∧ pmLo p < 18446744073709551616 ∧ pmLo p ≤ pmHi p * 18446744073709551616 := by
  have := tab_range ⟨(p + 348).toNat, by omega⟩
  have e : (((p + 348).toNat : Nat) : Int) - 348 = p := by omega
  simp only [e] at this
  exact this
theorem stk_le (q : Nat) (b : Bool) : q / 2 * 2 ≤ stk q b ∧ stk q b ≤ q + 1 := by unfold stk; cases b <;> simp <;> omega
theorem usc_range {x s hi lo : Nat} (hx : x < 18446744073709551616) (hx0 : 4611686018427387904 ≤ x) (hhi : hi < 18446744073709551616) (hhi0 : 9223372036854775808 ≤ hi) (h0 : 5 ≤ s) (h1 : s ≤ 58) : 1 ≤ usc x s hi lo ∧ usc x s hi lo < 9223372036854775800 := by
  have u1 : x * hi < 18446744073709551616 * 18446744073709551616 := Nat.mul_lt_mul'' hx hhi
  have u0 : 4611686018427387904 * 9223372036854775808 ≤ x * hi := Nat.mul_le_mul hx0 hhi0
  unfold usc
  have h1' : x * hi / 18446744073709551616 < 18446744073709551616 := by omega
  have h0' : 2305843009213693952 ≤ x * hi / 18446744073709551616 := by omega
  generalize x * hi / 18446744073709551616 = h at *
  generalize x * hi % 18446744073709551616 = m at *
  clear u1 u0
  have p5 : 2 ^ 5 ≤ 2 ^ s := Nat.pow_le_pow_right (by omega) h0
  have p58 : 2 ^ s ≤ 2 ^ 58 := Nat.pow_le_pow_right (by omega) h1
  have key : ∀ a, 2305843009213693951 ≤ a → a < 18446744073709551616 → ∀ b, 1 ≤ stk (a / 2 ^ s) b ∧ stk (a / 2 ^ s) b < 9223372036854775800 := by
    intro a a0 a1 b
    have := stk_le (a / 2 ^ s) b
    have l1 : a / 2 ^ s ≤ a / 2 ^ 5 := Nat.div_le_div_left p5 (by decide)
    have l2 : a / 2 ^ 58 ≤ a / 2 ^ s := Nat.div_le_div_left p58 (Nat.two_pow_pos s)
    have e1 : (2 : Nat) ^ 5 = 32 := by decide
    have e2 : (2 : Nat) ^ 58 = 288230376151711744 := by decide
    rw [e1] at l1
    rw [e2] at l2
    generalize a / 2 ^ s = q at *
    omega
  by_cases hr : h % 2 ^ s ≠ 0
  · simp only [if_pos hr]
    exact key h (by omega) h1' _
  · simp only [if_neg hr]
    refine key _ ?_ ?_ _
    · split <;> omega
    · split <;> omega
end Go.Proofs.YtipkiiblghnoiaaGreatDoor.Us
namespace Go.Proofs.YtipkiiblghnoiaaGreatDoor
open Go.ChangeShapes Go.WideShapes Go.ChangeAt Go.RowKit
open Bt
set_option linter.unusedVariables false

theorem and_i64_one (a : Nat) (h : a < 9223372036854775808) : bits BinOp.and IntKind.i64 (wrap64 (a : Int)) 1 = ((a % 2 : Nat) : Int) := by
  rw [Sm.wrap64_id _ (by omega) (by omega)]
  have h1 : (BitVec.ofInt 64 (a : Int)).toNat = a := by
    rw [BitVec.ofInt_natCast, BitVec.toNat_ofNat]; exact Nat.mod_eq_of_lt (by omega)
  have h3 : (BitVec.ofInt 64 (a : Int) &&& BitVec.ofInt 64 1).toNat = a % 2 := by
    rw [BitVec.toNat_and, h1, show (BitVec.ofInt 64 1).toNat = 1 from rfl, Nat.and_one_is_mod]
  show IntKind.i64.wrap ((BitVec.ofInt 64 (a : Int) &&& BitVec.ofInt 64 1).toNat : Int) = _
  rw [h3]
  simp only [IntKind.wrap_i64]
  omega

theorem odd_eq (m : Nat) (e : Int) (h : Us.Ok m e) : bits BinOp.and IntKind.i64 (wrap64 ((m : Int) / 2 ^ Us.zz e)) 1 = ((Us.odd m e : Nat) : Int) := by
  have hz := Us.zz_range h.e0 h.e1
  have e1 : ((m : Int) / 2 ^ Us.zz e) = ((m / 2 ^ Us.zz e : Nat) : Int) := by push_cast; rfl
  have h2 : m / 2 ^ Us.zz e ≤ m / 2 ^ 11 := Nat.div_le_div_left (Nat.pow_le_pow_right (by omega) hz.1) (by decide)
  have := h.hi
  rw [e1, and_i64_one _ (by omega)]
  rfl

theorem sf_eq (m : Nat) (e : Int) : sfRes (Us.dmn m e) (Us.dmx m e) (Us.uu m e m) (-Us.pp m e) = Us.shortF m e := by
  unfold sfRes Us.shortF Us.shD Us.shP
  rw [show -Us.pp m e + 1 = 1 - Us.pp m e by omega]
  by_cases c1 : Us.dmn m e ≤ Us.dmx m e / 10 * 10
  · rw [if_pos c1, if_pos c1, if_pos c1]
  · rw [if_neg c1, if_neg c1, if_neg c1]
    split <;> rfl

theorem short_any (m : Nat) (e : Int) (w : World) (h : Us.Ok m e) (hT : Pows w) (hg : 10 < w.heap.size) :
    Calls Tryz.prog 97 #[.int .u64 (m : Int), .int .i64 e] w fun en w' => en = .returned (.tuple #[.int .u64 (Us.shD m e : Nat), .int .i64 (Us.shP m e)]) ∧ Below w.heap.size w w' := by
  have hp := Us.pp_range (m := m) h.e0 h.e1
  have hz := Us.zz_range h.e0 h.e1
  have hpm := Us.pm_range (p := Us.pp m e) (by omega) (by omega)
  have ho := odd_eq m e h
  have h1 := h.lo
  have h2 := h.hi
  have hdv := h.dv
  have h3 := h.e0
  have h4 := h.e1
  have hlg : -1000 ≤ Us.lgp (Us.pp m e) ∧ Us.lgp (Us.pp m e) ≤ 1200 := by unfold Us.lgp; omega
  have p10 : 2 ^ 10 ≤ 2 ^ (Us.zz e - 1) := Nat.pow_le_pow_right (by omega) (by omega)
  have p62 : 2 ^ (Us.zz e - 1) ≤ 2 ^ 62 := Nat.pow_le_pow_right (by omega) (by omega)
  have pz : 2 ^ Us.zz e = 2 ^ (Us.zz e - 1) * 2 := by rw [← Nat.pow_succ]; congr 1; omega
  have e62 : (2 : Nat) ^ 62 = 4611686018427387904 := by decide
  have e10 : (2 : Nat) ^ 10 = 1024 := by decide
  have hmx : Us.mxv m e < 18446744073709551616 := by
    unfold Us.mxv
    have := Nat.div_add_mod m (2 ^ Us.zz e)
    have e64 : (18446744073709551616 : Nat) = 2 ^ (64 - Us.zz e) * 2 ^ Us.zz e := by rw [← Nat.pow_add]; rw [show 64 - Us.zz e + Us.zz e = 64 by omega]
    have lt : m / 2 ^ Us.zz e < 2 ^ (64 - Us.zz e) := Nat.div_lt_of_lt_mul (by rw [Nat.mul_comm, ← e64]; exact h2)
    have := Nat.mul_le_mul_right (2 ^ Us.zz e) (Nat.succ_le_of_lt lt)
    rw [← e64, Nat.succ_mul] at this
    rw [Nat.mul_comm (2 ^ Us.zz e)] at *
    omega
  have hmn : 4611686018427387904 ≤ Us.mnv m e ∧ Us.mnv m e < 18446744073709551616 := by
    unfold Us.mnv
    have e9 : (2 : Nat) ^ 9 = 512 := by decide
    split <;> omega
  have hmx0 : 4611686018427387904 ≤ Us.mxv m e := by unfold Us.mxv; omega
  have hs : ((Us.sft m e : Nat) : Int) = -(e + Us.lgp (Us.pp m e) + 3) := by unfold Us.sft; omega
  have hs5 : 5 ≤ Us.sft m e ∧ Us.sft m e ≤ 58 := by omega
  have hod : Us.odd m e ≤ 1 := by unfold Us.odd; omega
  have r1 := Us.usc_range (lo := Us.pmLo (Us.pp m e)) hmn.2 hmn.1 hpm.1 hpm.2.1 hs5.1 hs5.2
  have r2 := Us.usc_range (lo := Us.pmLo (Us.pp m e)) hmx hmx0 hpm.1 hpm.2.1 hs5.1 hs5.2
  have r3 := Us.usc_range (lo := Us.pmLo (Us.pp m e)) h2 (by omega) hpm.1 hpm.2.1 hs5.1 hs5.2
  have hLp : ∀ w, Calls Tryz.prog 117 #[.int .i64 (-(-Us.pp m e))] w fun e' w' => e' = .returned (.int .i64 (Us.lgp (Us.pp m e))) ∧ w' = w := fun w => by
    rw [Int.neg_neg]; exact log2_any _ w (by omega) (by omega)
  have S : SfW m (Us.mnv m e) (Us.mxv m e) (Us.odd m e) (Us.uu m e (Us.mnv m e)) (Us.uu m e (Us.mxv m e)) (Us.uu m e m) e (-Us.pp m e) (Us.lgp (Us.pp m e)) (Us.sft m e) := by
    refine ⟨h2, hmn.2, hmx, ?_, ?_, by omega, hs.symm, ?_, ?_, ?_⟩ <;> rw [Int.neg_neg]
    · exact hpm.1
    · exact hpm.2.2.1
    · rfl
    · rfl
    · rfl
  have hsf := sf_eq m e
  rw [show Us.shD m e = (Us.shortF m e).1 from rfl, show Us.shP m e = (Us.shortF m e).2 from rfl, ← hsf]
  have wsub : ∀ b : Nat, b ≤ m → IntKind.u64.wrap ((m : Int) - (b : Nat)) = ((m - b : Nat) : Int) := fun b hb => by rw [IntKind.wrap_u64]; omega
  have wadd : ∀ b : Nat, m + b < 18446744073709551616 → IntKind.u64.wrap ((m : Int) + (b : Nat)) = ((m + b : Nat) : Int) := fun b hb => by rw [IntKind.wrap_u64]; omega
  by_cases hm : m = 9223372036854775808
  · have bm : ((m : Int) == 9223372036854775808) = true := by rw [beq_iff_eq]; omega
    by_cases hg1 : -1085 < e
    · have hsk : Us.skewd m e = true := by unfold Us.skewd; simp [hm, hg1]
      have hz11 : Us.zz e = 11 := by unfold Us.zz; rw [if_pos (by omega)]
      refine short_one m _ _ _ _ _ _ e (-Us.pp m e) (Us.lgp (Us.pp m e)) (Us.sft m e) w hT hg S (by omega) (by omega) (by omega) (by omega) (by omega) hod r1.1 r1.2 r2.1 r2.2 r3.2 hLp bm (decide_eq_true hg1) ?_ ?_ ?_ ?_
      · unfold Us.mnv; rw [if_pos hsk]; exact wsub 512 (by omega)
      · unfold Us.mxv; rw [hz11]; exact wadd 1024 (by omega)
      · rw [← ho, hz11]; rfl
      · intro w; unfold Us.pp; rw [if_pos hsk, Int.neg_neg]; exact skewed_any _ w (by omega) (by omega)
    · have hsk : Us.skewd m e = false := by unfold Us.skewd; simp [hg1]
      by_cases he : -1085 ≤ e
      · have hz11 : Us.zz e = 11 := by unfold Us.zz; rw [if_pos he]
        refine short_three m _ _ _ _ _ _ e (-Us.pp m e) (Us.lgp (Us.pp m e)) (Us.sft m e) w hT hg S (by omega) (by omega) (by omega) (by omega) (by omega) hod r1.1 r1.2 r2.1 r2.2 r3.2 hLp bm (decide_eq_false hg1) (decide_eq_true he) ?_ ?_ ?_ ?_
        · unfold Us.mnv; rw [hsk, hz11]; exact wsub 1024 (by omega)
        · unfold Us.mxv; rw [hz11]; exact wadd 1024 (by omega)
        · rw [← ho, hz11]; rfl
        · intro w; unfold Us.pp; rw [hsk, hz11]; simp only [Bool.false_eq_true, if_false, Int.neg_neg]; exact log10_any _ w (by omega) (by omega)
      · have hzz : ((Us.zz e : Nat) : Int) = -1074 - e := by unfold Us.zz; rw [if_neg he]; omega
        refine short_five m _ _ _ _ _ _ e (-Us.pp m e) (Us.lgp (Us.pp m e)) (Us.sft m e) w hT hg S (by omega) (by omega) (by omega) (by omega) (by omega) hod r1.1 r1.2 r2.1 r2.2 r3.2 hLp bm (decide_eq_false hg1) (decide_eq_false he) (Us.zz e) (by omega) (by omega) hz.2 (2 ^ (Us.zz e - 1)) ?_ ?_ ?_ ?_ ?_
        · have : (2 : Int) ^ (Us.zz e - 1) = ((2 ^ (Us.zz e - 1) : Nat) : Int) := by push_cast; rfl
          rw [this, IntKind.wrap_u64]; omega
        · unfold Us.mnv; rw [hsk]; exact wsub _ (by omega)
        · unfold Us.mxv; exact wadd _ (by unfold Us.mxv at hmx; exact hmx)
        · exact ho
        · intro w; unfold Us.pp; rw [hsk]; simp only [Bool.false_eq_true, if_false, Int.neg_neg]; exact log10_any _ w (by omega) (by omega)
  · have bm : ((m : Int) == 9223372036854775808) = false := by rw [beq_eq_false_iff_ne]; omega
    have hsk : Us.skewd m e = false := by unfold Us.skewd; simp [hm]
    by_cases he : -1085 ≤ e
    · have hz11 : Us.zz e = 11 := by unfold Us.zz; rw [if_pos he]
      refine short_two m _ _ _ _ _ _ e (-Us.pp m e) (Us.lgp (Us.pp m e)) (Us.sft m e) w hT hg S (by omega) (by omega) (by omega) (by omega) (by omega) hod r1.1 r1.2 r2.1 r2.2 r3.2 hLp bm (decide_eq_true he) ?_ ?_ ?_ ?_
      · unfold Us.mnv; rw [hsk, hz11]; exact wsub 1024 (by omega)
      · unfold Us.mxv; rw [hz11]; exact wadd 1024 (by unfold Us.mxv at hmx; rw [hz11] at hmx; exact hmx)
      · rw [← ho, hz11]; rfl
      · intro w; unfold Us.pp; rw [hsk, hz11]; simp only [Bool.false_eq_true, if_false, Int.neg_neg]; exact log10_any _ w (by omega) (by omega)
    · have hzz : ((Us.zz e : Nat) : Int) = -1074 - e := by unfold Us.zz; rw [if_neg he]; omega
      refine short_four m _ _ _ _ _ _ e (-Us.pp m e) (Us.lgp (Us.pp m e)) (Us.sft m e) w hT hg S (by omega) (by omega) (by omega) (by omega) (by omega) hod r1.1 r1.2 r2.1 r2.2 r3.2 hLp bm (decide_eq_false he) (Us.zz e) (by omega) (by omega) hz.2 (2 ^ (Us.zz e - 1)) ?_ ?_ ?_ ?_ ?_
      · have : (2 : Int) ^ (Us.zz e - 1) = ((2 ^ (Us.zz e - 1) : Nat) : Int) := by push_cast; rfl
        rw [this, IntKind.wrap_u64]; omega
      · unfold Us.mnv; rw [hsk]; exact wsub _ (by omega)
      · unfold Us.mxv; exact wadd _ (by unfold Us.mxv at hmx; exact hmx)
      · exact ho
      · intro w; unfold Us.pp; rw [hsk]; simp only [Bool.false_eq_true, if_false, Int.neg_neg]; exact log10_any _ w (by omega) (by omega)
end Go.Proofs.YtipkiiblghnoiaaGreatDoor
