/- Contracts of strconv's scaling: logarithms, the table of powers, uscale. By an AI agent. -/
import Derived.Test.YtipkiiblghnoiaaGreatDoorUsA
import Derived.Test.YtipkiiblghnoiaaGreatDoorSerD
import Derived.Test.YtipkiiblghnoiaaGreatDoorShelf
import Derived.Test.YtipkiiblghnoiaaGreatDoorSumD
namespace Go.Proofs.YtipkiiblghnoiaaGreatDoor
open Go.ChangeShapes Go.WideShapes Go.ChangeAt Go.RowKit
open Bt
set_option linter.unusedVariables false

theorem ret_int {k : IntKind} {a b : Int} (h : a = b) : Ending.returned (.int k a) = .returned (.int k b) := by rw [h]

theorem log10_any (x : Int) (w : World) (h0 : -4000 ≤ x) (h1 : x ≤ 4000) :
    Calls Tryz.prog 92 #[.int .i64 x] w fun e w' => e = .returned (.int .i64 (Us.lg2 x)) ∧ w' = w := by
  go_enter Tryz.func92, Tryz.ntmps92
  go_wp2
  go_ret
  exact ⟨rfl, rfl⟩
theorem log2_any (x : Int) (w : World) (h0 : -4000 ≤ x) (h1 : x ≤ 4000) :
    Calls Tryz.prog 117 #[.int .i64 x] w fun e w' => e = .returned (.int .i64 (Us.lgp x)) ∧ w' = w := by
  go_enter Tryz.func117, Tryz.ntmps117
  go_wp2
  go_ret
  exact ⟨rfl, rfl⟩
theorem skewed_any (x : Int) (w : World) (h0 : -4000 ≤ x) (h1 : x ≤ 4000) :
    Calls Tryz.prog 115 #[.int .i64 x] w fun e w' => e = .returned (.int .i64 (Us.skw x)) ∧ w' = w := by
  go_enter Tryz.func115, Tryz.ntmps115
  go_wp2
  go_ret
  exact ⟨rfl, rfl⟩

/-- The table of powers of ten lies there. -/
def Pows (w : World) : Prop := ∀ i : Nat, i < 696 → w.cell? ⟨10, i * 2, none⟩ = some (.int .u64 (Us.pmHi ((i : Int) - 348) : Nat)) ∧ w.cell? ⟨10, i * 2 + 1, none⟩ = some (.int .u64 (Us.pmLo ((i : Int) - 348) : Nat))

/-- A scaler: what prescale puts in. -/
def scA (hi lo : Nat) (s : Int) : Array Value := #[.int .u64 (hi : Int), .int .u64 (lo : Int), .int .i64 s]
def ScAt (w : World) (b : Nat) (hi lo : Nat) (s : Int) : Prop := w.heap[b]? = some (.cells (scA hi lo s) 154 (0, 0))

theorem prescale_any (b : Nat) (hi lo : Nat) (s e p lp : Int) (w : World) (h : ScAt w b hi lo s) (hb : b ≠ 10) (hT : Pows w) (h0 : -348 ≤ p) (h1 : p ≤ 347) (he : -4000 ≤ e ∧ e ≤ 4000) (hl : -4000 ≤ lp ∧ lp ≤ 4000) :
    Calls Tryz.prog 116 #[.pointer (some ⟨b, 0, none⟩), .int .i64 e, .int .i64 p, .int .i64 lp] w fun en w' => en = .returned (.tuple #[]) ∧ ScAt w' b (Us.pmHi p) (Us.pmLo p) (-(e + lp + 3)) ∧ Keep (· = b) w w' := by
  obtain ⟨i, rfl⟩ : ∃ i : Nat, p = (i : Int) - 348 := ⟨(p + 348).toNat, by omega⟩
  obtain ⟨t0, t1⟩ := hT i (by omega)
  have c0 := blk_cell h 0
  have c1 := blk_cell h 1
  have c2 := blk_cell h 2
  have f0 := blk_free h 0
  have f1 := blk_free h 1
  have f2 := blk_free h 2
  unfold scA at c0 c1 c2
  simp at c0 c1 c2
  obtain ⟨he1, he2⟩ := he
  obtain ⟨hl1, hl2⟩ := hl
  have hi0 : (0 : Int) ≤ i := by omega
  have hi1 : (i : Int) < 696 := by omega
  go_enter Tryz.func116, Tryz.ntmps116
  go_wp2
  go_end0
  refine ⟨rfl, ?_, ?_⟩
  · have hA := blk_set (blk_set (blk_set h 0 (.int .u64 (Us.pmHi ((i : Int) - 348) : Nat))) 1 (.int .u64 (Us.pmLo ((i : Int) - 348) : Nat))) 2 (.int .i64 (-(e + lp + 3)))
    exact hA
  · have k0 : Keep (· = b) w w := Keep.refl _ w
    have k1 := k0.setCell (p := ⟨b, 0, none⟩) (Or.inl rfl) (.int .u64 (Us.pmHi ((i : Int) - 348) : Nat))
    have k2 := k1.setCell (p := ⟨b, 1, none⟩) (Or.inl rfl) (.int .u64 (Us.pmLo ((i : Int) - 348) : Nat))
    exact k2.setCell (p := ⟨b, 2, none⟩) (Or.inl rfl) _

/-! ### uscale -/
theorem bool_u64 (b : Bool) (w : World) : Calls Tryz.prog 107 #[.bool b] w fun e w' => e = .returned (.int .u64 ((b.toNat : Nat) : Int)) ∧ w' = w := by
  cases b <;> (go_enter Tryz.func107, Tryz.ntmps107; go_wp2; go_ret; exact ⟨rfl, rfl⟩)

theorem nudge_any (u d : Int) (w : World) (h0 : 0 ≤ u) (h1 : u < 9223372036854775808) (hd : -1 ≤ d) (hd1 : d ≤ 1) (h2 : 0 ≤ u + d) :
    Calls Tryz.prog 119 #[.int .u64 u, .int .i64 d] w fun e w' => e = .returned (.int .u64 (u + d)) ∧ w' = w := by
  go_enter Tryz.func119, Tryz.ntmps119
  go_wp2
  go_ret
  refine ⟨ret_int ?_, rfl⟩
  rw [IntKind.wrap_u64, IntKind.wrap_u64]; omega
theorem floor_any (u : Int) (w : World) (h0 : 0 ≤ u) (h1 : u < 9223372036854775808) :
    Calls Tryz.prog 121 #[.int .u64 u] w fun e w' => e = .returned (.int .u64 (u / 4)) ∧ w' = w := by
  go_enter Tryz.func121, Tryz.ntmps121
  go_wp2
  go_ret
  exact ⟨rfl, rfl⟩
theorem ceil_any (u : Int) (w : World) (h0 : 0 ≤ u) (h1 : u < 9223372036854775808) :
    Calls Tryz.prog 120 #[.int .u64 u] w fun e w' => e = .returned (.int .u64 ((u + 3) / 4)) ∧ w' = w := by
  go_enter Tryz.func120, Tryz.ntmps120
  go_wp2
  go_ret
  exact ⟨rfl, rfl⟩
theorem round_any (u : Nat) (w : World) (h1 : u < 9223372036854775808) :
    Calls Tryz.prog 122 #[.int .u64 (u : Int)] w fun e w' => e = .returned (.int .u64 (((u + 1 + u / 4 % 2) / 4 : Nat) : Int)) ∧ w' = w := by
  go_enter Tryz.func122, Tryz.ntmps122
  go_wp2
  go_ret
  refine ⟨ret_int ?_, rfl⟩
  have e : ((u : Int) / 4) = ((u / 4 : Nat) : Int) := by push_cast; rfl
  rw [e, Sm.and_low1 (u / 4) (by omega), IntKind.wrap_u64]
  omega

theorem and63 (s : Nat) (h : s < 64) : bits BinOp.and IntKind.i64 (s : Int) 63 = (s : Int) := by
  have hand : ∀ s : Fin 64, bits BinOp.and IntKind.i64 (s.val : Int) 63 = (s.val : Int) := by decide +kernel
  exact hand ⟨s, h⟩

/-- Mul64 at two numbers. -/
def Mul (x y H M : Nat) : Prop := ∀ w, Calls Tryz.prog 143 #[.int .u64 (x : Int), .int .u64 (y : Int)] w fun e w' => e = .returned (.tuple #[.int .u64 (H : Int), .int .u64 (M : Int)]) ∧ w' = w

set_option maxRecDepth 100000 in
set_option maxHeartbeats 1000000 in
theorem uscale_one (x s hi lo b H M R : Nat) (w : World) (h : ScAt w b hi lo (s : Int)) (hs : s < 64) (hM : Mul x hi H M)
    (hne : (IntKind.u64.wrap ((H : Int) / 2 ^ s * 2 ^ s) != (H : Int)) = true) (hr : bits BinOp.or IntKind.u64 ((H : Int) / 2 ^ s) 1 = (R : Int)) :
    Calls Tryz.prog 118 #[.int .u64 (x : Int), .pointer (some ⟨b, 0, none⟩)] w fun e w' => e = .returned (.int .u64 (R : Int)) ∧ ∃ n, w' = w.drewN n := by
  have c0 := blk_cell h 0
  have c1 := blk_cell h 1
  have c2 := blk_cell h 2
  unfold scA at c0 c1 c2
  simp at c0 c1 c2
  clear h
  have ha := and63 s hs
  go_enter Tryz.func118, Tryz.ntmps118
  go_wp2_with fail
  refine (hM _).mono ?_
  rintro e w' ⟨rfl, hw⟩
  obtain rfl : w = w' := hw.symm
  go_wp2_with fail
  go_ret
  exact ⟨rfl, 0, rfl⟩

set_option maxRecDepth 100000 in
set_option maxHeartbeats 1000000 in
theorem uscale_two (x s hi lo b H M H2 L2 H3 D R : Nat) (bb cc : Bool) (w : World) (h : ScAt w b hi lo (s : Int)) (hs : s < 64) (hM : Mul x hi H M) (hM2 : Mul x lo H2 L2)
    (hne : (IntKind.u64.wrap ((H : Int) / 2 ^ s * 2 ^ s) != (H : Int)) = false) (hb : decide (M < H2) = bb) (h3 : IntKind.u64.wrap ((H : Int) - (bb.toNat : Nat)) = (H3 : Int)) (hd : IntKind.u64.wrap ((M : Int) - (H2 : Int)) = (D : Int)) (hc : decide ((1 : Int) < (D : Int)) = cc)
    (hr : bits BinOp.or IntKind.u64 ((H3 : Int) / 2 ^ s) (cc.toNat : Nat) = (R : Int)) :
    Calls Tryz.prog 118 #[.int .u64 (x : Int), .pointer (some ⟨b, 0, none⟩)] w fun e w' => e = .returned (.int .u64 (R : Int)) ∧ ∃ n, w' = w.drewN n := by
  have c0 := blk_cell h 0
  have c1 := blk_cell h 1
  have c2 := blk_cell h 2
  unfold scA at c0 c1 c2
  simp at c0 c1 c2
  clear h
  have ha := and63 s hs
  go_enter Tryz.func118, Tryz.ntmps118
  go_wp2_with fail
  refine (hM _).mono ?_
  rintro e w' ⟨rfl, hw⟩
  obtain rfl : w = w' := hw.symm
  go_wp2_with fail
  refine (hM2 _).mono ?_
  rintro e w' ⟨rfl, hw⟩
  obtain rfl : w = w' := hw.symm
  go_wp2_with fail
  refine (bool_u64 bb _).mono ?_
  rintro e w' ⟨rfl, hw⟩
  obtain rfl : w = w' := hw.symm
  go_wp2_with fail
  go_quiet ((go_at_call 107; exact Calls.quiet_of_same (bool_u64 cc _)))
  go_wp2_with fail
  go_ret
  exact ⟨rfl, nq, rfl⟩

theorem or_one (a : Nat) (ha : a < 18446744073709551616) : bits BinOp.or IntKind.u64 (a : Int) 1 = ((Us.stk a true : Nat) : Int) := by
  have h1 : (BitVec.ofInt 64 (a : Int)).toNat = a := by
    rw [BitVec.ofInt_natCast, BitVec.toNat_ofNat]; exact Nat.mod_eq_of_lt (by omega)
  have h3 : a ||| 1 = a / 2 * 2 + 1 := by
    apply Nat.eq_of_testBit_eq
    intro i
    rw [Nat.testBit_or]
    cases i with
    | zero => simp [Nat.testBit_zero]
    | succ i =>
      rw [Nat.testBit_succ, Nat.testBit_succ, Nat.testBit_succ]
      have e : (a / 2 * 2 + 1) / 2 = a / 2 := by omega
      rw [e]
      simp
  show IntKind.u64.wrap ((BitVec.ofInt 64 (a : Int) ||| BitVec.ofInt 64 1).toNat : Int) = _
  rw [BitVec.toNat_or, h1, show (BitVec.ofInt 64 1).toNat = 1 from rfl, h3, IntKind.wrap_u64]
  unfold Us.stk
  simp only [if_true]
  omega
theorem or_zero (a : Nat) (ha : a < 18446744073709551616) : bits BinOp.or IntKind.u64 (a : Int) 0 = (a : Int) := by
  have h1 : (BitVec.ofInt 64 (a : Int)).toNat = a := by
    rw [BitVec.ofInt_natCast, BitVec.toNat_ofNat]; exact Nat.mod_eq_of_lt (by omega)
  show IntKind.u64.wrap ((BitVec.ofInt 64 (a : Int) ||| BitVec.ofInt 64 0).toNat : Int) = _
  rw [BitVec.toNat_or, h1, show (BitVec.ofInt 64 0).toNat = 0 from rfl, Nat.or_zero, IntKind.wrap_u64]
  omega
theorem or_stk (a : Nat) (ha : a < 18446744073709551616) (c : Bool) : bits BinOp.or IntKind.u64 (a : Int) ((c.toNat : Nat) : Int) = ((Us.stk a c : Nat) : Int) := by
  cases c
  · exact or_zero a ha
  · exact or_one a ha

theorem back_eq (H s : Nat) (hH : H < 18446744073709551616) : IntKind.u64.wrap ((H : Int) / 2 ^ s * 2 ^ s) = ((H - H % 2 ^ s : Nat) : Int) := by
  have e : ((H : Int) / 2 ^ s * 2 ^ s) = ((H / 2 ^ s * 2 ^ s : Nat) : Int) := by push_cast; rfl
  have h := Nat.div_add_mod H (2 ^ s)
  rw [Nat.mul_comm] at h
  rw [e, IntKind.wrap_u64]
  generalize H / 2 ^ s * 2 ^ s = q at *
  omega

theorem uscale_any (x s hi lo b : Nat) (w : World) (h : ScAt w b hi lo (s : Int)) (hx : x < 18446744073709551616) (hhi : hi < 18446744073709551616) (hlo : lo < 18446744073709551616) (hs : s < 64) :
    Calls Tryz.prog 118 #[.int .u64 (x : Int), .pointer (some ⟨b, 0, none⟩)] w fun e w' => e = .returned (.int .u64 (Us.usc x s hi lo : Nat)) ∧ ∃ n, w' = w.drewN n := by
  have hM := Tryz.bits_Mul64 x hi hx hhi
  have hM2 := Tryz.bits_Mul64 x lo hx hlo
  have u1 : x * hi / 18446744073709551616 < 18446744073709551616 := Nat.div_lt_of_lt_mul (Nat.mul_lt_mul'' hx hhi)
  have u2 : x * lo / 18446744073709551616 < 18446744073709551616 := Nat.div_lt_of_lt_mul (Nat.mul_lt_mul'' hx hlo)
  have u3 := Nat.mod_lt (x * hi) (y := 18446744073709551616) (by omega)
  unfold Us.usc
  generalize x * hi / 18446744073709551616 = H at *
  generalize x * hi % 18446744073709551616 = M at *
  generalize x * lo / 18446744073709551616 = H2 at *
  generalize x * lo % 18446744073709551616 = L2 at *
  have hdl : ∀ a : Nat, a < 18446744073709551616 → a / 2 ^ s < 18446744073709551616 := fun a ha => Nat.lt_of_le_of_lt (Nat.div_le_self _ _) ha
  have hb := back_eq H s u1
  have hle := Nat.mod_le H (2 ^ s)
  by_cases hr : H % 2 ^ s ≠ 0
  · simp only [if_pos hr]
    refine uscale_one x s hi lo b H M _ w h hs hM ?_ ?_
    · rw [hb, bne_iff_ne]; omega
    · have := or_one (H / 2 ^ s) (hdl H u1)
      rw [← this]; push_cast; rfl
  · simp only [if_neg hr]
    have e3 : IntKind.u64.wrap ((H : Int) - ((decide (M < H2)).toNat : Nat)) = ((if M < H2 then (H + 18446744073709551615) % 18446744073709551616 else H : Nat) : Int) := by
      rw [IntKind.wrap_u64]
      by_cases hm : M < H2
      · rw [if_pos hm, decide_eq_true hm]; simp only [Bool.toNat_true]; omega
      · rw [if_neg hm, decide_eq_false hm]; simp only [Bool.toNat_false]; omega
    have l3 : (if M < H2 then (H + 18446744073709551615) % 18446744073709551616 else H) < 18446744073709551616 := by split <;> omega
    have ed : IntKind.u64.wrap ((M : Int) - (H2 : Int)) = (((M + 18446744073709551616 - H2) % 18446744073709551616 : Nat) : Int) := by
      rw [IntKind.wrap_u64]; omega
    have ec : decide ((1 : Int) < (((M + 18446744073709551616 - H2) % 18446744073709551616 : Nat) : Int)) = decide (1 < (M + 18446744073709551616 - H2) % 18446744073709551616) := by
      rw [Bool.eq_iff_iff]; simp only [decide_eq_true_eq]; omega
    generalize (if M < H2 then (H + 18446744073709551615) % 18446744073709551616 else H) = H3 at *
    generalize (M + 18446744073709551616 - H2) % 18446744073709551616 = D at *
    refine uscale_two x s hi lo b H M H2 L2 H3 D _ (decide (M < H2)) (decide (1 < D)) w h hs hM hM2 ?_ rfl e3 ed ec ?_
    · rw [hb, bne_eq_false_iff_eq]; omega
    · have := or_stk (H3 / 2 ^ s) (hdl H3 l3) (decide (1 < D))
      rw [← this]; push_cast; rfl
end Go.Proofs.YtipkiiblghnoiaaGreatDoor
