/- Small functions on floats: Unkey, Next, Apart, Same and the reference's. By an AI agent. -/
import Derived.Test.YtemjlkmlodmmfaaGreatDoorMg08
import Derived.Test.YtemjlkmlodmmfaaGreatDoorMg12
import Derived.Test.YtemjlkmlodmmfaaGreatDoorMg03
import Derived.Test.YtemjlkmlodmmfaaGreatDoorMg05
import Derived.Test.YtemjlkmlodmmfaaGreatDoorMg11
import Derived.LaidEqlPtr
namespace Go.Proofs.YtemjlkmlodmmfaaGreatDoor
open Go.ChangeShapes Go.WideShapes Go.ChangeAt Go.RowKit
open Bt
set_option linter.unusedVariables false

/-- The number of a key, and whether there is one. -/
def unkB (k : Nat) : Bool := decide (k = 18446744073709551615 ∨ (4503599627370495 ≤ k ∧ k ≤ 18442240474082181120))
def unkW (k : Nat) : Nat := if k = 18446744073709551615 then 9221120237041090561 else if 4503599627370495 ≤ k ∧ k ≤ 18442240474082181120 then (if 9223372036854775808 ≤ k then k - 9223372036854775808 else 18446744073709551615 - k) else 0
theorem ret_fb {a b : Nat} {c d : Bool} (h : a = b) (h2 : c = d) : Ending.returned (.tuple #[.float .f64 a, .bool c]) = .returned (.tuple #[.float .f64 b, .bool d]) := by rw [h, h2]
theorem ret_ub {a b : Nat} {c d : Bool} (h : a = b) (h2 : c = d) : Ending.returned (.tuple #[.int .u64 (a : Int), .bool c]) = .returned (.tuple #[.int .u64 (b : Int), .bool d]) := by rw [h, h2]
theorem ret_b {c d : Bool} (h2 : c = d) : Ending.returned (.bool c) = .returned (.bool d) := by rw [h2]
theorem ret_f {a b : Nat} (h2 : a = b) : Ending.returned (.float .f64 a) = .returned (.float .f64 b) := by rw [h2]
theorem ret_u {a b : Nat} (h2 : a = b) : Ending.returned (.int .u64 (a : Int)) = .returned (.int .u64 (b : Int)) := by rw [h2]

theorem unk_last : unkW 18446744073709551615 = 9221120237041090561 ∧ unkB 18446744073709551615 = true := by decide +kernel
theorem unk_low {k : Nat} (h : k < 4503599627370495) : unkW k = 0 ∧ unkB k = false := by
  unfold unkW unkB
  rw [if_neg (by omega), if_neg (by omega), decide_eq_false_iff_not]
  exact ⟨rfl, by omega⟩
theorem unk_high {k : Nat} (h : 18442240474082181120 < k) (h2 : k < 18446744073709551615) : unkW k = 0 ∧ unkB k = false := by
  unfold unkW unkB
  rw [if_neg (by omega), if_neg (by omega), decide_eq_false_iff_not]
  exact ⟨rfl, by omega⟩
theorem unk_neg {k : Nat} (h : 4503599627370495 ≤ k) (h2 : k < 9223372036854775808) : unkW k = 18446744073709551615 - k ∧ unkB k = true := by
  unfold unkW unkB
  rw [if_neg (by omega), if_pos (by omega), if_neg (by omega), decide_eq_true_eq]
  exact ⟨rfl, by omega⟩
theorem unk_pos {k : Nat} (h : 9223372036854775808 ≤ k) (h2 : k ≤ 18442240474082181120) : unkW k = k - 9223372036854775808 ∧ unkB k = true := by
  unfold unkW unkB
  rw [if_neg (by omega), if_pos (by omega), if_pos (by omega), decide_eq_true_eq]
  exact ⟨rfl, by omega⟩
/-- A key above the middle, opened without a subtraction. -/
theorem unk_up {k : Nat} (h : 9223372036854775808 ≤ k) (hk : k < 18446744073709551616) : ∃ m : Nat, k % 9223372036854775808 = m ∧ m % 9223372036854775808 = m ∧ m + 9223372036854775808 = k ∧ m < 9223372036854775808 ∧
    (k ≤ 18442240474082181120 → m ≤ 9218868437227405312 ∧ unkW k = m ∧ unkB k = true) ∧ (18442240474082181120 < k → 9218868437227405312 < m) := by
  refine ⟨k % 9223372036854775808, rfl, by omega, by omega, by omega, fun h3 => ⟨by omega, ?_, (unk_pos h h3).2⟩, fun h3 => by omega⟩
  rw [(unk_pos h h3).1]; omega
theorem unk_lt {k : Nat} (h : k < 18446744073709551616) : unkW k < 18446744073709551616 := by
  unfold unkW
  (repeat' split) <;> omega

/-- A whole number behind a mask of the sign: what Unkey looks at. -/
theorem xor_top (a : Nat) (h : a < 2 ^ 64) : IntKind.u64.wrap ((18446744073709551615 : Int) - (a : Int)) = ((18446744073709551615 - a : Nat) : Int) := by
  rw [IntKind.wrap_u64]
  omega

/-- The number just behind. -/
def nextF (u : Nat) : Nat := if Flt.nan u = true then 9221120237041090561 else if unkB (keyF u + 1) = true then unkW (keyF u + 1) else 9221120237041090561
theorem key_room {u : Nat} (hu : u < 18446744073709551616) (hn : Flt.nan u = false) : keyF u ≤ 18442240474082181120 ∧ 4503599627370495 ≤ keyF u := by
  have h1 : ¬ 9218868437227405312 < u % 9223372036854775808 := fun x => by rw [(Re.nan_iff u).2 x] at hn; cases hn
  unfold keyF
  rw [hn]
  simp only [Bool.false_eq_true, if_false]
  split <;> omega
def apW (a b : Nat) : Nat := if Flt.nan a = true ∨ Flt.nan b = true then 0 else max (keyF a) (keyF b) - min (keyF a) (keyF b)
def apB (a b : Nat) : Bool := !(Flt.nan a || Flt.nan b)
end Go.Proofs.YtemjlkmlodmmfaaGreatDoor

/- strconv's pack64, unmin; words put together bit by bit. By an AI agent. -/
namespace Go.Proofs.YtemjlkmlodmmfaaGreatDoor.Us
set_option linter.unusedVariables false
/-- Bit 52 taken off. -/
def clr (m : Nat) : Nat := m - 4503599627370496 * (m / 4503599627370496 % 2)
/-- What pack64 makes: the word; is it out of range? -/
def pkR (m : Nat) (e : Int) : Nat := if m / 4503599627370496 % 2 = 0 then m else if 972 ≤ e then (9223372036854775808 * (m / 9223372036854775808 % 2)) ||| 9218868437227405312 else clr m ||| (4503599627370496 * (1075 + e).toNat)
def pkE (m : Nat) (e : Int) : Bool := !(decide (m / 4503599627370496 % 2 = 0)) && decide (972 ≤ e)
end Go.Proofs.YtemjlkmlodmmfaaGreatDoor.Us
namespace Go.Proofs.YtemjlkmlodmmfaaGreatDoor
open Go.ChangeShapes Go.WideShapes Go.ChangeAt Go.RowKit
open Bt
set_option linter.unusedVariables false

theorem toNat_u64 {a : Nat} (h : a < 18446744073709551616) : (BitVec.ofInt 64 (a : Int)).toNat = a := by
  rw [BitVec.ofInt_natCast, BitVec.toNat_ofNat]; exact Nat.mod_eq_of_lt (by omega)
theorem or_nat {a b : Nat} (ha : a < 18446744073709551616) (hb : b < 18446744073709551616) : bits BinOp.or IntKind.u64 (a : Int) (b : Int) = ((a ||| b : Nat) : Int) := by
  show IntKind.u64.wrap ((BitVec.ofInt 64 (a : Int) ||| BitVec.ofInt 64 (b : Int)).toNat : Int) = _
  have : a ||| b < 2 ^ 64 := Nat.or_lt_two_pow (by omega) (by omega)
  rw [BitVec.toNat_or, toNat_u64 ha, toNat_u64 hb, IntKind.wrap_u64]
  omega
theorem and_pow (a k : Nat) : a &&& 2 ^ k = a / 2 ^ k % 2 * 2 ^ k := by
  apply Nat.eq_of_testBit_eq
  intro i
  rw [Nat.testBit_and, Nat.testBit_two_pow]
  have hk : a.testBit k = decide (a / 2 ^ k % 2 = 1) := Nat.testBit_eq_decide_div_mod_eq
  by_cases hi : k = i
  · subst hi
    rw [hk]
    rcases Nat.mod_two_eq_zero_or_one (a / 2 ^ k) with h | h
    · rw [h]; simp
    · rw [h, Nat.one_mul, Nat.testBit_two_pow]; simp
  · rw [decide_eq_false hi, Bool.and_false]
    rcases Nat.mod_two_eq_zero_or_one (a / 2 ^ k) with h | h
    · rw [h]; simp
    · rw [h, Nat.one_mul, Nat.testBit_two_pow, decide_eq_false hi]
theorem and_52 {a : Nat} (ha : a < 18446744073709551616) : bits BinOp.and IntKind.u64 (a : Int) 4503599627370496 = ((4503599627370496 * (a / 4503599627370496 % 2) : Nat) : Int) := by
  show IntKind.u64.wrap ((BitVec.ofInt 64 (a : Int) &&& BitVec.ofInt 64 4503599627370496).toNat : Int) = _
  have h2 : (BitVec.ofInt 64 4503599627370496).toNat = 2 ^ 52 := by decide
  rw [BitVec.toNat_and, toNat_u64 ha, h2, and_pow, IntKind.wrap_u64]
  have e : (2 : Nat) ^ 52 = 4503599627370496 := by decide
  rw [e]
  omega
theorem and_63 {a : Nat} (ha : a < 18446744073709551616) : bits BinOp.and IntKind.u64 (a : Int) 9223372036854775808 = ((9223372036854775808 * (a / 9223372036854775808 % 2) : Nat) : Int) := by
  show IntKind.u64.wrap ((BitVec.ofInt 64 (a : Int) &&& BitVec.ofInt 64 9223372036854775808).toNat : Int) = _
  have h2 : (BitVec.ofInt 64 9223372036854775808).toNat = 2 ^ 63 := by decide
  rw [BitVec.toNat_and, toNat_u64 ha, h2, and_pow, IntKind.wrap_u64]
  have e : (2 : Nat) ^ 63 = 9223372036854775808 := by decide
  rw [e]
  omega
theorem sub_and (a k : Nat) : a &&& (2 ^ 64 - 1 - 2 ^ k) = a &&& (2 ^ 64 - 1 - 2 ^ k) := rfl
theorem xor_clr (a k : Nat) : a ^^^ (a &&& 2 ^ k) = a - (a &&& 2 ^ k) := by
  have h : (a - (a &&& 2 ^ k)) + (a &&& 2 ^ k) = a := Nat.sub_add_cancel Nat.and_le_left
  have hd : (a - (a &&& 2 ^ k)) &&& (a &&& 2 ^ k) = 0 ∨ True := Or.inr trivial
  apply Nat.eq_of_testBit_eq
  intro i
  rw [and_pow]
  rcases Nat.mod_two_eq_zero_or_one (a / 2 ^ k) with hb | hb
  · rw [hb]; simp
  · rw [hb, Nat.one_mul]
    have e : a = (a - 2 ^ k) ||| 2 ^ k ∨ True := Or.inr trivial
    have hk : a / 2 ^ k % 2 = 1 := hb
    -- a = q 2^(k+1) + 2^k + r
    obtain ⟨q, r, hr, ha⟩ : ∃ q r, r < 2 ^ k ∧ a = 2 ^ (k + 1) * q + (2 ^ k + r) := by
      refine ⟨a / 2 ^ k / 2, a % 2 ^ k, Nat.mod_lt _ (Nat.two_pow_pos k), ?_⟩
      have h1 := Nat.div_add_mod a (2 ^ k)
      have h2 := Nat.div_add_mod (a / 2 ^ k) 2
      rw [hk] at h2
      rw [Nat.pow_succ, Nat.mul_assoc]
      calc a = 2 ^ k * (a / 2 ^ k) + a % 2 ^ k := h1.symm
        _ = 2 ^ k * (2 * (a / 2 ^ k / 2) + 1) + a % 2 ^ k := by rw [h2]
        _ = 2 ^ k * (2 * (a / 2 ^ k / 2)) + (2 ^ k + a % 2 ^ k) := by rw [Nat.mul_add, Nat.mul_one, Nat.add_assoc]
    have hs : a - 2 ^ k = 2 ^ (k + 1) * q + r := by omega
    have hlt1 : 2 ^ k + r < 2 ^ (k + 1) := by rw [Nat.pow_succ]; omega
    have hlt2 : r < 2 ^ (k + 1) := by rw [Nat.pow_succ]; omega
    rw [hs, ha, Nat.testBit_xor, Nat.testBit_two_pow, Nat.testBit_two_pow_mul_add _ hlt1, Nat.testBit_two_pow_mul_add _ hlt2]
    by_cases hi : i < k + 1
    · rw [if_pos hi, if_pos hi]
      have e2 : 2 ^ k + r = 2 ^ k * 1 + r := by rw [Nat.mul_one]
      rw [e2, Nat.testBit_two_pow_mul_add _ hr]
      by_cases hik : i < k
      · rw [if_pos hik]
        have : decide (k = i) = false := by rw [decide_eq_false_iff_not]; omega
        rw [this, Bool.xor_false]
      · rw [if_neg hik]
        obtain rfl : i = k := by omega
        have : r.testBit i = false := Nat.testBit_lt_two_pow hr
        rw [this]
        simp
    · rw [if_neg hi, if_neg hi]
      have : decide (k = i) = false := by rw [decide_eq_false_iff_not]; omega
      rw [this]; simp
theorem andNot_52 {a : Nat} (ha : a < 18446744073709551616) : bits BinOp.andNot IntKind.u64 (a : Int) 4503599627370496 = ((Us.clr a : Nat) : Int) := by
  show IntKind.u64.wrap ((BitVec.ofInt 64 (a : Int) &&& ~~~ BitVec.ofInt 64 4503599627370496).toNat : Int) = _
  have h1 : (BitVec.ofInt 64 (a : Int) &&& ~~~ BitVec.ofInt 64 4503599627370496) = BitVec.ofInt 64 (a : Int) ^^^ (BitVec.ofInt 64 (a : Int) &&& BitVec.ofInt 64 4503599627370496) := by
    generalize BitVec.ofInt 64 (a : Int) = x
    generalize BitVec.ofInt 64 4503599627370496 = y
    apply BitVec.eq_of_getLsbD_eq
    intro i hi
    rw [BitVec.getLsbD_and, BitVec.getLsbD_xor, BitVec.getLsbD_and, BitVec.getLsbD_not, decide_eq_true hi]
    cases x.getLsbD i <;> cases y.getLsbD i <;> rfl
  have h2 : (BitVec.ofInt 64 4503599627370496).toNat = 2 ^ 52 := by decide
  rw [h1, BitVec.toNat_xor, BitVec.toNat_and, toNat_u64 ha, h2, xor_clr, and_pow, IntKind.wrap_u64]
  unfold Us.clr
  have e : (2 : Nat) ^ 52 = 4503599627370496 := by decide
  rw [e]
  omega
theorem clr_lt {a : Nat} (ha : a < 18446744073709551616) : Us.clr a < 18446744073709551616 := by unfold Us.clr; omega

/-- An error that strconv's inner package tells: none, or out of range. -/
def rngV (b : Bool) : Value := if b then .iface 78 (.int .i64 1) else .nilIface
theorem ret_fe {a b : Nat} {c d : Value} (h : a = b) (h2 : c = d) : Ending.returned (.tuple #[.float .f64 a, c]) = .returned (.tuple #[.float .f64 b, d]) := by rw [h, h2]

set_option maxRecDepth 100000 in
set_option maxHeartbeats 2000000 in
theorem pack_any (m : Nat) (e : Int) (hm : m < 18446744073709551616) (h0 : -1074 ≤ e) (h1 : e ≤ 4000) (w : World) :
    Calls Tryz.prog 117 #[.int .u64 (m : Int), .int .i64 e] w fun en w' => en = .returned (.tuple #[.float .f64 (Us.pkR m e), rngV (Us.pkE m e)]) ∧ w = w' := by
  have e1 := and_52 hm
  have e2 := and_63 hm
  have e3 := andNot_52 hm
  have hc := clr_lt hm
  by_cases hz : m / 4503599627370496 % 2 = 0
  · have hR : Us.pkR m e = m ∧ Us.pkE m e = false := by
      unfold Us.pkR Us.pkE
      rw [if_pos hz, decide_eq_true hz]
      exact ⟨rfl, rfl⟩
    rw [hR.1, hR.2]
    have f1 : ∀ w : World, (callFunc 102 #[.int .u64 (m : Int)]).run Tryz.prog w = .ok (.value (.float .f64 m)) w := fun w => ext_sfrom m w
    rw [hz, Nat.mul_zero] at e1
    clear hz hR e2 e3 hc
    go_enter Tryz.func117, Tryz.ntmps117
    go_wp2_with fail
    go_ret2
    exact ⟨rfl, rfl⟩
  · have hz1 : m / 4503599627370496 % 2 = 1 := by omega
    have hv : 4503599627370496 * (m / 4503599627370496 % 2) ≠ 0 := by omega
    obtain ⟨v, hvv⟩ : ∃ v, v = 4503599627370496 * (m / 4503599627370496 % 2) := ⟨_, rfl⟩
    rw [← hvv] at e1 hv
    have e1' : ((v : Int) == 0) = false := by rw [beq_eq_false_iff_ne]; omega
    have e1'' : (v == 0) = false := by rw [beq_eq_false_iff_ne]; exact hv
    clear hv hvv
    by_cases he : 972 ≤ e
    · have hR : Us.pkR m e = (9223372036854775808 * (m / 9223372036854775808 % 2)) ||| 9218868437227405312 ∧ Us.pkE m e = true := by
        unfold Us.pkR Us.pkE
        rw [if_neg hz, if_pos he, decide_eq_false hz, decide_eq_true he]
        exact ⟨rfl, rfl⟩
      rw [hR.1, hR.2]
      have hs : 9223372036854775808 * (m / 9223372036854775808 % 2) < 18446744073709551616 := by omega
      have e4 := or_nat (a := 9223372036854775808 * (m / 9223372036854775808 % 2)) (b := 9218868437227405312) hs (by decide)
      generalize 9223372036854775808 * (m / 9223372036854775808 % 2) = sg at *
      generalize hx : sg ||| 9218868437227405312 = x at *
      have f1 : ∀ w : World, (callFunc 102 #[.int .u64 (x : Int)]).run Tryz.prog w = .ok (.value (.float .f64 x)) w := fun w => ext_sfrom x w
      have d1 : decide (e ≥ 972) = true := decide_eq_true he
      have d2 : decide (972 ≤ e) = true := decide_eq_true he
      have e4' : bits BinOp.or IntKind.u64 (sg : Int) 9218868437227405312 = (x : Int) := e4
      clear hz hz1 hR e3 hs hx e4 hc
      go_enter Tryz.func117, Tryz.ntmps117
      go_wp2_with fail
      go_ret2
      exact ⟨rfl, rfl⟩
    · have hR : Us.pkR m e = Us.clr m ||| (4503599627370496 * (1075 + e).toNat) ∧ Us.pkE m e = false := by
        unfold Us.pkR Us.pkE
        rw [if_neg hz, if_neg he, decide_eq_false hz, decide_eq_false he]
        exact ⟨rfl, rfl⟩
      rw [hR.1, hR.2]
      obtain ⟨k, hk⟩ : ∃ k : Nat, 1075 + e = (k : Int) := ⟨(1075 + e).toNat, by omega⟩
      have hk2 : (1075 + e).toNat = k := by omega
      rw [hk2]
      have e4 := or_nat (a := Us.clr m) (b := 4503599627370496 * k) hc (by omega)
      have w1 : wrap64 (1075 + e) = (k : Int) := by unfold wrap64; omega
      have w2 : IntKind.u64.wrap (k : Int) = (k : Int) := by rw [IntKind.wrap_u64]; omega
      have w3 : IntKind.u64.wrap ((k : Int) * 4503599627370496) = ((4503599627370496 * k : Nat) : Int) := by rw [IntKind.wrap_u64]; omega
      have hke : ((4503599627370496 * k : Nat) : Int) = (1075 + e) * 4503599627370496 := by omega
      have e5 : bits BinOp.or IntKind.u64 ((Us.clr m : Nat) : Int) ((1075 + e) * 4503599627370496) = ((Us.clr m ||| 4503599627370496 * k : Nat) : Int) := by rw [← hke]; exact e4
      clear hke
      generalize Us.clr m = cm at *
      generalize hkk : 4503599627370496 * k = kk at *
      generalize hx : cm ||| kk = x at *
      have f1 : ∀ w : World, (callFunc 102 #[.int .u64 (x : Int)]).run Tryz.prog w = .ok (.value (.float .f64 x)) w := fun w => ext_sfrom x w
      have d1 : decide (e ≥ 972) = false := decide_eq_false he
      have d2 : decide (972 ≤ e) = false := decide_eq_false he
      clear hz hz1 hR e2 hx hc hk hk2 hkk
      go_enter Tryz.func117, Tryz.ntmps117
      go_wp2_with fail
      go_ret2
      exact ⟨rfl, rfl⟩
end Go.Proofs.YtemjlkmlodmmfaaGreatDoor

/- strconv's parseFloat64. By an AI agent. -/
namespace Go.Proofs.YtemjlkmlodmmfaaGreatDoor.Us
set_option linter.unusedVariables false
/-- What the parser makes of digits, a power of ten and a sign's word. -/
def pfR (d : Nat) (p : Int) (sg : Nat) : Nat := if 64 ≤ ps d p then sg else pkR (sg ||| rnd (pu2 d p)) (-(pe d p - psh d p))
def pfE (d : Nat) (p : Int) (sg : Nat) : Bool := if 64 ≤ ps d p then false else pkE (sg ||| rnd (pu2 d p)) (-(pe d p - psh d p))
end Go.Proofs.YtemjlkmlodmmfaaGreatDoor.Us
namespace Go.Proofs.YtemjlkmlodmmfaaGreatDoor
open Go.ChangeShapes Go.WideShapes Go.ChangeAt Go.RowKit
open Bt
set_option linter.unusedVariables false

theorem unmin_any (w : World) : Calls Tryz.prog 84 #[.int .u64 9007199254740992] w fun e w' => e = .returned (.int .u64 36028797018963966) ∧ w' = w := by
  go_enter Tryz.func84, Tryz.ntmps84
  go_wp2
  go_ret
  exact ⟨rfl, rfl⟩
theorem bool_int (b : Bool) (w : World) : Calls Tryz.prog 83 #[.bool b] w fun e w' => e = .returned (.int .i64 ((b.toNat : Nat) : Int)) ∧ w' = w := by
  cases b <;> (go_enter Tryz.func83, Tryz.ntmps83; go_wp2; go_ret; exact ⟨rfl, rfl⟩)

set_option maxRecDepth 100000 in
set_option maxHeartbeats 8000000 in
theorem pf_any (d : Nat) (p : Int) (sg : Nat) (w : World) (h0 : 1 ≤ d) (h1 : d < 18446744073709551616) (hp0 : -345 ≤ p) (hp1 : p ≤ 310) (hsg : sg = 0 ∨ sg = 9223372036854775808) (hT : Pows w) (hg : 7 < w.heap.size) :
    Calls Tryz.prog 104 #[.int .u64 (d : Int), .int .i64 p, .int .u64 (sg : Int)] w fun en w' => en = .returned (.tuple #[.float .f64 (Us.pfR d p sg), rngV (Us.pfE d p sg)]) ∧ Below w.heap.size w w' := by
  obtain ⟨b1, b2, b3⟩ := Us.bitLen_pos (x := d) (by omega) (by omega)
  have hlp := fun w => log2_any p w (by omega) (by omega)
  have hlr : -1200 ≤ Us.lgp p ∧ Us.lgp p ≤ 1200 := by unfold Us.lgp; omega
  have hLen : ∀ w, Calls Tryz.prog 51 #[.int .u64 (d : Int)] w fun e w' => e = .returned (.int .i64 ((Lib.bitLen d : Nat) : Int)) ∧ w' = w := fun w => by simpa using Tryz.bits_Len64 ((d : Nat) : Int) w (by omega) (by omega)
  have hpm := Us.pmt_parts (p := p) (by omega) (by omega)
  have hb64 : Lib.bitLen d ≤ 64 := by
    refine Nat.le_of_not_lt fun h => ?_
    have : 2 ^ 64 ≤ 2 ^ (Lib.bitLen d - 1) := Nat.pow_le_pow_right (by decide) (by omega)
    have e64 : (2 : Nat) ^ 64 = 18446744073709551616 := by decide
    omega
  have hbl : Us.bl d = Lib.bitLen d := rfl
  have hpe : Us.pe d p = min 1074 (53 - (Us.bl d : Int) - Us.lgp p) := rfl
  have hps : Us.ps d p = -(Us.pe d p - (64 - (Us.bl d : Int)) + Us.lgp p + 3) := rfl
  rw [hbl] at hpe hps
  have HLP := Lib.hid hlp
  have HLEN := Lib.hid hLen
  clear hlp hLen
  have hnew : ScAt (w.alloc (.cells (scA 0 0 0) 114)) w.heap.size 0 0 0 := blk_new _ _
  have hPo : Pows (w.alloc (.cells (scA 0 0 0) 114)) := fun i hi => ⟨by rw [World.cell?_alloc_past _ _ _ hg]; exact (hT i hi).1, by rw [World.cell?_alloc_past _ _ _ hg]; exact (hT i hi).2⟩
  have hpr := prescale_any w.heap.size 0 0 0 (Us.pe d p - (64 - (Lib.bitLen d : Int))) p (Us.lgp p) _ hnew (by omega) hPo (by omega) (by omega) (by omega) (by omega)
  rw [← hps] at hpr
  have HPr := Lib.hid hpr
  clear hnew hPo hpr
  have HW := Lib.hid (And.intro hT hg)
  clear hT hg
  generalize Lib.bitLen d = b at *
  generalize hlpv : Us.lgp p = lp at *
  obtain ⟨e0, he0⟩ : ∃ e0, e0 = 53 - (b : Int) - lp := ⟨_, rfl⟩
  have he0' : 53 - (b : Int) - lp = e0 := he0.symm
  rw [← he0] at hpe
  have he1 : -2000 ≤ e0 := by omega
  have he2 : e0 ≤ 2000 := by omega
  have hpe1 : -2000 ≤ Us.pe d p := by omega
  have hpe2 : Us.pe d p ≤ 1074 := by omega
  have hmin : min (1074 : Int) e0 = Us.pe d p := hpe.symm
  have hpsr : 8 ≤ Us.ps d p := by omega
  have HE := Lib.hid (And.intro he0 (And.intro hpe hps))
  clear he0 hpe hps
  have hl1 := hlr.1
  have hl2 := hlr.2
  by_cases h64 : 64 ≤ Us.ps d p
  · have hR : Us.pfR d p sg = sg ∧ Us.pfE d p sg = false := by
      unfold Us.pfR Us.pfE
      rw [if_pos h64, if_pos h64]
      exact ⟨rfl, rfl⟩
    rw [hR.1, hR.2]
    have hso : bits BinOp.or IntKind.u64 (sg : Int) 0 = (sg : Int) := or_zero sg (by omega)
    have f1 : ∀ w : World, (callFunc 102 #[.int .u64 (sg : Int)]).run Tryz.prog w = .ok (.value (.float .f64 sg)) w := fun w => ext_sfrom sg w
    clear hR
    go_enter Tryz.func104, Tryz.ntmps104
    go_wp2_with fail
    refine (HLEN.out _).mono ?_
    rintro en w' ⟨rfl, hw⟩
    obtain rfl : w = w' := hw.symm
    go_wp2_with fail
    refine (HLP.out _).mono ?_
    rintro en w' ⟨rfl, hw⟩
    obtain rfl : w = w' := hw.symm
    go_wp2_with fail
    refine (HPr.out).mono ?_
    rintro en w1 ⟨rfl, hsc, hk⟩
    have hb1 : Below w.heap.size w w1 := ((Keep.alloc (Keep.refl (fun _ => False) w) _).own hk (fun i hi => Or.inr (by subst hi; exact Nat.le_refl _))).none
    have H1 := Lib.hid hb1
    have c2 := blk_cell hsc 2
    unfold scA at c2
    simp at c2
    have d1 : decide (64 ≤ Us.ps d p) = true := decide_eq_true h64
    clear hsc hk hb1 HPr
    go_wp2_with fail
    go_ret2
    exact ⟨rfl, H1.out⟩
  · obtain ⟨s, hs⟩ : ∃ s : Nat, Us.ps d p = (s : Int) := ⟨(Us.ps d p).toNat, by omega⟩
    obtain ⟨x, hxv⟩ : ∃ x, x = d * 2 ^ (64 - b) := ⟨_, rfl⟩
    have hx2 : x < 18446744073709551616 := by
      have : d * 2 ^ (64 - b) < 2 ^ b * 2 ^ (64 - b) := Nat.mul_lt_mul_of_pos_right b2 (Nat.two_pow_pos _)
      rw [← Nat.pow_add, show b + (64 - b) = 64 by omega, ← hxv] at this
      exact this
    have hxw : IntKind.u64.wrap ((d : Int) * 2 ^ (64 - b)) = (x : Int) := by
      have : ((d : Int) * 2 ^ (64 - b)) = (x : Int) := by rw [hxv]; push_cast; rfl
      rw [this, IntKind.wrap_u64]
      omega
    have hs8 : 8 ≤ s ∧ s < 64 := by omega
    have hpu : Us.pu d p = Us.usc x s (Us.pmHi p) (Us.pmLo p) := by unfold Us.pu; rw [hbl, ← hxv, hs, Int.toNat_natCast]
    have husm : Us.pu d p < 144115188075855872 := by
      rw [hpu]
      have k1 : x * Us.pmHi p < 18446744073709551616 * 18446744073709551616 := Nat.mul_lt_mul'' hx2 hpm.1
      have hq : x * Us.pmHi p / 18446744073709551616 < 18446744073709551616 := by omega
      unfold Us.usc
      generalize x * Us.pmHi p / 18446744073709551616 = hh at *
      have p5 : 2 ^ 8 ≤ 2 ^ s := Nat.pow_le_pow_right (by omega) hs8.1
      have key : ∀ a, a < 18446744073709551616 → ∀ c, Us.stk (a / 2 ^ s) c < 144115188075855872 := by
        intro a ha c
        have := Us.stk_le (a / 2 ^ s) c
        have l1 : a / 2 ^ s ≤ a / 2 ^ 8 := Nat.div_le_div_left p5 (by decide)
        omega
      by_cases hr : hh % 2 ^ s ≠ 0
      · simp only [if_pos hr]
        exact key _ hq _
      · simp only [if_neg hr]
        refine key _ ?_ _
        split <;> omega
    have HX := Lib.hid (And.intro hx2 hs8)
    obtain ⟨r, hr⟩ : ∃ r, r = Us.rnd (Us.pu2 d p) := ⟨_, rfl⟩
    have hu2 : Us.pu2 d p < 144115188075855872 := by
      unfold Us.pu2
      split
      · have := Us.stk_le (Us.pu d p / 2) (decide (Us.pu d p % 2 = 1))
        omega
      · exact husm
    have hr2 : r < 72057594037927936 := by rw [hr]; unfold Us.rnd; omega
    have hR : Us.pfR d p sg = Us.pkR (sg ||| r) (-(Us.pe d p - Us.psh d p)) ∧ Us.pfE d p sg = Us.pkE (sg ||| r) (-(Us.pe d p - Us.psh d p)) := by
      unfold Us.pfR Us.pfE
      rw [if_neg h64, if_neg h64, hr]
      exact ⟨rfl, rfl⟩
    rw [hR.1, hR.2]
    have hsor := or_nat (a := sg) (b := r) (by omega) (by omega)
    have hsl : sg ||| r < 18446744073709551616 := Nat.or_lt_two_pow (n := 64) (by omega) (by omega)
    have hsh1 : Us.psh d p ≤ 1 := by unfold Us.psh; split <;> omega
    have HPK := Lib.hid (pack_any (sg ||| r) (-(Us.pe d p - Us.psh d p)) hsl (by omega) (by omega))
    have HRN := Lib.hid (fun w => round_any (Us.pu2 d p) w (by omega))
    have hrn : (Us.pu2 d p + 1 + Us.pu2 d p / 4 % 2) / 4 = r := hr.symm
    rw [hrn] at HRN
    rw [hs] at HPr
    have h64' : ¬ 64 ≤ (s : Int) := by omega
    have d1 : decide (64 ≤ (s : Int)) = false := decide_eq_false h64'
    generalize sg ||| r = sr at *
    clear hR hsl hr hrn hxv h64 h64' hs8 hs hpsr
    have HB := Lib.hid (And.intro b1 (And.intro b2 hpm))
    clear b1 b2 hpm hbl hlpv hx2
    go_enter Tryz.func104, Tryz.ntmps104
    go_wp2_with fail
    refine (HLEN.out _).mono ?_
    rintro en w' ⟨rfl, hw⟩
    obtain rfl : w = w' := hw.symm
    go_wp2_with fail
    refine (HLP.out _).mono ?_
    rintro en w' ⟨rfl, hw⟩
    obtain rfl : w = w' := hw.symm
    go_wp2_with fail
    refine (HPr.out).mono ?_
    rintro en w1 ⟨rfl, hsc, hk⟩
    have hb1 : Below w.heap.size w w1 := ((Keep.alloc (Keep.refl (fun _ => False) w) _).own hk (fun i hi => Or.inr (by subst hi; exact Nat.le_refl _))).none
    have H1 := Lib.hid (And.intro hsc hb1)
    have c2 := blk_cell hsc 2
    unfold scA at c2
    simp at c2
    clear hsc hk hb1 HPr
    go_wp2_with fail
    have HUS := uscale_any x s (Us.pmHi p) (Us.pmLo p) w.heap.size w1 H1.out.1 HX.out.1 HB.out.2.2.1 HB.out.2.2.2.1 HX.out.2.2
    rw [← hpu] at HUS
    refine HUS.mono ?_
    rintro en w2 ⟨rfl, n2, hw⟩
    subst hw
    have H2 := Lib.hid (below_drewN H1.out.2 n2)
    clear H1 c2 HUS hpu
    generalize w1.drewN n2 = w2 at *
    obtain ⟨u, hu⟩ : ∃ u, u = Us.pu d p := ⟨_, rfl⟩
    have hp2 : Us.pu2 d p = if 36028797018963966 ≤ u then Us.stk (u / 2) (decide (u % 2 = 1)) else u := by rw [hu]; rfl
    have hps : Us.psh d p = if 36028797018963966 ≤ u then 1 else 0 := by rw [hu]; rfl
    rw [← hu] at husm ⊢
    generalize Us.pu2 d p = u2 at *
    obtain ⟨sh, hshv⟩ : ∃ sh, sh = Us.psh d p := ⟨_, rfl⟩
    rw [← hshv] at HPK hps
    have HSV := Lib.hid hshv
    clear hshv
    clear hu
    clear hxw he0' hmin
    have hu64 : u < 18446744073709551616 := Nat.lt_trans husm (by decide)
    have hu642 : u / 2 < 18446744073709551616 := by omega
    have ha1 : bits BinOp.and IntKind.u64 (u : Int) 1 = ((u % 2 : Nat) : Int) := Sm.and_low1 u hu64
    have hct : ((decide (u % 2 = 1)).toNat : Nat) = u % 2 := by
      rcases Nat.mod_two_eq_zero_or_one u with h | h <;> rw [h] <;> rfl
    by_cases hc : 36028797018963966 ≤ u
    · rw [if_pos hc] at hp2 hps
      have ho := or_stk (u / 2) hu642 (decide (u % 2 = 1))
      rw [hct, ← hp2, show ((u / 2 : Nat) : Int) = (u : Int) / 2 by push_cast; rfl, show ((u % 2 : Nat) : Int) = (u : Int) % 2 by push_cast; rfl] at ho
      have g1 : decide ((u : Int) ≥ 36028797018963966) = true := by rw [decide_eq_true_eq]; omega
      have g2 : decide (36028797018963966 ≤ u) = true := decide_eq_true hc
      have hshi : ((sh : Nat) : Int) = 1 := by rw [hps]; rfl
      rw [hshi] at HPK
      have HU := Lib.hid (And.intro husm hu2)
      have HSI := Lib.hid (show ((Us.psh d p : Nat) : Int) = 1 by rw [← HSV.out]; exact hshi)
      clear hp2 hps hct hc husm hu2 hshi
      go_wp2_with fail
      refine (unmin_any _).mono ?_
      rintro en w' ⟨rfl, hw⟩
      obtain rfl : w2 = w' := hw.symm
      go_wp2_with fail
      refine (bool_int true _).mono ?_
      rintro en w' ⟨rfl, hw⟩
      obtain rfl : w2 = w' := hw.symm
      go_wp2_with fail
      refine (HRN.out _).mono ?_
      rintro en w' ⟨rfl, hw⟩
      obtain rfl : w2 = w' := hw.symm
      go_wp2_with fail
      refine (HPK.out _).mono ?_
      rintro en w' ⟨rfl, hw⟩
      obtain rfl : w2 = w' := hw
      go_wp2_with fail
      go_ret2
      exact ⟨ret_fe (show Us.pkR sr (-(Us.pe d p - 1)) = Us.pkR sr (-(Us.pe d p - (Us.psh d p : Nat))) by rw [HSI.out]) (show rngV (Us.pkE sr (-(Us.pe d p - 1))) = rngV (Us.pkE sr (-(Us.pe d p - (Us.psh d p : Nat)))) by rw [HSI.out]), H2.out⟩
    · rw [if_neg hc] at hp2 hps
      have ho := or_stk u hu64 (decide (u % 2 = 1))
      have hst : Us.stk u (decide (u % 2 = 1)) = u := by
        unfold Us.stk
        rcases Nat.mod_two_eq_zero_or_one u with h | h
        · rw [h]; simp
        · rw [h]; simp; omega
      rw [hct, hst, show ((u % 2 : Nat) : Int) = (u : Int) % 2 by push_cast; rfl] at ho
      rw [hp2] at HRN
      have g1 : decide ((u : Int) ≥ 36028797018963966) = false := by rw [decide_eq_false_iff_not]; omega
      have g2 : decide (36028797018963966 ≤ u) = false := decide_eq_false hc
      have hshi : ((sh : Nat) : Int) = 0 := by rw [hps]; rfl
      rw [hshi, Int.sub_zero] at HPK
      have HU := Lib.hid (And.intro husm hu2)
      have HSI := Lib.hid (show ((Us.psh d p : Nat) : Int) = 0 by rw [← HSV.out]; exact hshi)
      clear hp2 hps hct hc husm hu2 hshi hst
      go_wp2_with fail
      refine (unmin_any _).mono ?_
      rintro en w' ⟨rfl, hw⟩
      obtain rfl : w2 = w' := hw.symm
      go_wp2_with fail
      refine (bool_int false _).mono ?_
      rintro en w' ⟨rfl, hw⟩
      obtain rfl : w2 = w' := hw.symm
      go_wp2_with fail
      refine (HRN.out _).mono ?_
      rintro en w' ⟨rfl, hw⟩
      obtain rfl : w2 = w' := hw.symm
      go_wp2_with fail
      refine (HPK.out _).mono ?_
      rintro en w' ⟨rfl, hw⟩
      obtain rfl : w2 = w' := hw
      go_wp2_with fail
      go_ret2
      exact ⟨ret_fe (show Us.pkR sr (-(Us.pe d p)) = Us.pkR sr (-(Us.pe d p - (Us.psh d p : Nat))) by rw [HSI.out, Int.sub_zero]) (show rngV (Us.pkE sr (-(Us.pe d p))) = rngV (Us.pkE sr (-(Us.pe d p - (Us.psh d p : Nat)))) by rw [HSI.out, Int.sub_zero]), H2.out⟩
end Go.Proofs.YtemjlkmlodmmfaaGreatDoor

/- Contract of strconv's atofHex: total. By an AI agent. -/
namespace Go.Proofs.YtemjlkmlodmmfaaGreatDoor
open Go.ChangeShapes Go.WideShapes Go.ChangeAt Go.RowKit
open Bt Dc
set_option linter.unusedVariables false
set_option linter.unusedSimpArgs false

theorem or_bit {m : Nat} (hm : m < 18446744073709551616) : bits BinOp.or IntKind.u64 (m : Int) 1 = ((m ||| 1 : Nat) : Int) := or_nat (b := 1) hm (by decide)
theorem and_one {m : Nat} (hm : m < 18446744073709551616) : bits BinOp.and IntKind.u64 (m : Int) 1 = ((m % 2 : Nat) : Int) := by
  show IntKind.u64.wrap ((BitVec.ofInt 64 (m : Int) &&& BitVec.ofInt 64 1).toNat : Int) = _
  have h2 : (BitVec.ofInt 64 1).toNat = 1 := by decide
  rw [BitVec.toNat_and, toNat_u64 hm, h2, Nat.and_one_is_mod, IntKind.wrap_u64]
  omega
theorem or_low {q r k : Nat} (hk : 1 ≤ k) (hq : q < 2 ^ k) (hr : r ≤ 1) : q ||| r < 2 ^ k := Nat.or_lt_two_pow hq (Nat.lt_of_le_of_lt hr (Nat.one_lt_two_pow (by omega)))
theorem half_facts {m k : Nat} (hk : 1 ≤ k) (hm : m < 2 ^ (k + 1)) (hm64 : m < 18446744073709551616) : ∃ q r m2 : Nat, (m : Int) / 2 = (q : Int) ∧ bits BinOp.and IntKind.u64 (m : Int) 1 = (r : Int) ∧ bits BinOp.or IntKind.u64 (q : Int) (r : Int) = (m2 : Int) ∧ m2 < 2 ^ k ∧ m2 < 18446744073709551616 := by
  refine ⟨m / 2, m % 2, m / 2 ||| m % 2, rfl, and_one hm64, or_nat (by omega) (by omega), or_low hk (by rw [Nat.pow_succ] at hm; omega) (by omega), ?_⟩
  exact or_low (k := 64) (by omega) (by omega) (by omega)

theorem info_fi : ∃ j, Tryz.prog.info? 134 = some j ∧ j.size ≠ 0 := by
  have h : (Tryz.prog.info? 134).map (fun i => i.size) = some 3 := by kernel_rfl
  obtain ⟨j, hj, hs⟩ := Option.map_eq_some_iff.1 h
  exact ⟨j, hj, by rw [hs]; decide⟩
/-- What atofHex tells. -/
def HxQ (w : World) (e : Ending) (w' : World) : Prop := (∃ (f : Nat) (b : Bool), e = .returned (.tuple #[.float .f64 f, rngV b]) ∧ f < 18446744073709551616) ∧ ∃ n, w' = w.drewN n
theorem hx_done {w w' : World} {x y : Int} {v : Value} (b : Bool) (hv : v = rngV b) (h : ∃ n, w' = w.drewN n) : HxQ w (.returned (.tuple #[.float .f64 (bits BinOp.or IntKind.u64 x y).toNat, v])) w' := by
  have := or_range x y
  exact ⟨⟨_, b, by rw [hv], by omega⟩, h⟩

set_option maxRecDepth 100000 in
set_option maxHeartbeats 2000000 in
theorem hex_any (s : ByteArray) (m : Nat) (p : Int) (neg tr : Bool) (w : World) (hm : m < 18446744073709551616) (h0 : w.cell? ⟨6, 0, none⟩ = some (.int .u64 52)) (h1 : w.cell? ⟨6, 1, none⟩ = some (.int .u64 11)) (h2 : w.cell? ⟨6, 2, none⟩ = some (.int .i64 (-1023)))
    (hB : ∃ (ca : Array Value) (ta : TypeId) (cb : Array Value) (tb : TypeId), w.heap[6]? = some (.cells ca ta (0, 0)) ∧ w.heap[5]? = some (.cells cb tb (0, 0))) :
    Calls Tryz.prog 94 #[.string s, .pointer (some ⟨6, 0, none⟩), .int .u64 (m : Int), .int .i64 p, .bool neg, .bool tr] w (HxQ w) := by
  have HI : RowKit.Hid (∀ wx : World, (∃ n, wx = w.drewN n) → wx.cell? ⟨6, 0, none⟩ = some (.int .u64 52) ∧ wx.cell? ⟨6, 1, none⟩ = some (.int .u64 11) ∧ wx.cell? ⟨6, 2, none⟩ = some (.int .i64 (-1023))) := Lib.hid (by
    rintro wx ⟨n, rfl⟩; exact ⟨h0, h1, h2⟩)
  have HM := Lib.hid hm
  have HB := Lib.hid hB
  clear hm hB
  go_enter Tryz.func94, Tryz.ntmps94
  go_wp2_with fail
  go_quiet (fail)
  go_upto_block 0 with fail
  clear h0 h1 h2
  go_cut [2, 3] from 42 to 57 (fun s2 s3 wx => ∃ (y : Nat) (E : Int), s2 = .int .u64 (y : Int) ∧ s3 = .int .i64 E ∧ RowKit.Hid (y < 18446744073709551616 ∧ ∃ n, wx = w.drewN n))
  case first =>
    go_wp2_with fail
    go_loopg [2, 3] 54 (fun gq s2 s3 wx => ∃ (y : Nat) (E : Int), s2 = .int .u64 (y : Int) ∧ s3 = .int .i64 E ∧ RowKit.Hid (y < 18446744073709551616 ∧ (y = 0 ∨ 18014398509481984 ≤ y * 2 ^ gq) ∧ ∃ n, wx = w.drewN n))
    case atStart =>
      refine ⟨m, _, rfl, rfl, HM.out, ?_, _, rfl⟩
      by_cases h : m = 0
      · exact Or.inl h
      · exact Or.inr (by have e : (2 : Nat) ^ 54 = 18014398509481984 := by decide
                         rw [e]; omega)
    case round =>
      obtain ⟨y, E, rfl, rfl, HR⟩ := hrel
      obtain ⟨i0, i1, i2⟩ := HI.out wr HR.out.2.2
      by_cases hy0 : y = 0
      · subst hy0
        go_wp2_with fail
        go_meet
        exact ⟨0, E, rfl, rfl, by omega, HR.out.2.2⟩
      · have hy1 : ((y : Int) != 0) = true := by simp; omega
        have hy2 : ¬ (y : Int) = 0 := by omega
        by_cases hy : y < 18014398509481984
        · have hq : ((y : Int) / 18014398509481984 == 0) = true := by rw [beq_iff_eq]; omega
          have h54 : RowKit.Hid (1 ≤ gk ∧ 2 * y < 18446744073709551616 ∧ 18014398509481984 ≤ (2 * y) * 2 ^ (gk - 1)) := Lib.hid (by
            have h1 := HR.out.2.1.resolve_left hy0
            have hg : 1 ≤ gk := Nat.pos_of_ne_zero fun e => by rw [e, Nat.pow_zero] at h1; omega
            refine ⟨hg, by omega, ?_⟩
            have e : 2 ^ gk = 2 * 2 ^ (gk - 1) := by rw [← Nat.pow_succ']; congr 1; omega
            rw [e, ← Nat.mul_assoc, Nat.mul_comm y 2] at h1
            exact h1)
          have hsh : IntKind.u64.wrap ((y : Int) * 2) = ((2 * y : Nat) : Int) := by rw [IntKind.wrap_u64]; omega
          have HSH := Lib.hid hsh
          clear hy0 hy hsh
          go_wp2_with fail
          go_roundg (gk - 1)
          case measure => have := h54.out; omega
          case rel => exact ⟨2 * y, _, by first | rfl | (rw [HSH.out]; done), rfl, h54.out.2.1, Or.inr h54.out.2.2, HR.out.2.2⟩
        · have hq : ((y : Int) / 18014398509481984 == 0) = false := by rw [beq_eq_false_iff_ne]; omega
          clear hy0 hy
          go_wp2_with fail
          go_meet
          exact ⟨y, E, rfl, rfl, HR.out.1, HR.out.2.2⟩
  case rest =>
    obtain ⟨y, E, rfl, rfl, HY⟩ := hcut
    generalize wc = w1 at *
    go_upto_if 58 with fail
    go_cut [2] from 59 to 60 (fun s2 wx => ∃ y : Nat, s2 = .int .u64 (y : Int) ∧ RowKit.Hid (y < 18446744073709551616 ∧ ∃ n, wx = w.drewN n))
    case first =>
      cases tr
      · go_wp2_with fail
        go_meet
        exact ⟨y, rfl, HY.out⟩
      · have ho := or_bit HY.out.1
        have hlt : RowKit.Hid (y ||| 1 < 18446744073709551616) := Lib.hid (or_low (k := 64) (by omega) HY.out.1 (by omega))
        generalize y ||| 1 = y2 at *
        go_wp2_with fail
        go_meet
        exact ⟨y2, rfl, hlt.out, HY.out.2⟩
    case rest =>
      obtain ⟨y2, rfl, HY2⟩ := hcut
      generalize wc = w2 at *
      clear HY
      go_upto_block 2 with fail
      go_cut [2, 3] from 61 to 76 (fun s2 s3 wx => ∃ (y : Nat) (E : Int), s2 = .int .u64 (y : Int) ∧ s3 = .int .i64 E ∧ RowKit.Hid (y < 18446744073709551616 ∧ ∃ n, wx = w.drewN n))
      case first =>
        go_wp2_with fail
        go_loopg [2, 3] 10 (fun gq s2 s3 wx => ∃ (y : Nat) (E : Int), s2 = .int .u64 (y : Int) ∧ s3 = .int .i64 E ∧ RowKit.Hid (y < 18446744073709551616 ∧ y < 2 ^ (55 + gq) ∧ ∃ n, wx = w.drewN n))
        case atStart =>
          refine ⟨y2, E, rfl, rfl, HY2.out.1, ?_, HY2.out.2⟩
          have e : (2 : Nat) ^ (55 + 10) = 36893488147419103232 := by decide
          have := HY2.out.1
          rw [e]; omega
        case round =>
          obtain ⟨y, E, rfl, rfl, HR⟩ := hrel
          obtain ⟨i0, i1, i2⟩ := HI.out wr HR.out.2.2
          by_cases hy : y < 36028797018963968
          · have hq : ((y : Int) / 36028797018963968 != 0) = false := by
              have : (y : Int) / 36028797018963968 = 0 := by omega
              rw [this]; rfl
            have hq2 : (y : Int) / 36028797018963968 = 0 := by omega
            clear hy
            go_wp2_with fail
            go_meet
            exact ⟨y, E, rfl, rfl, HR.out.1, HR.out.2.2⟩
          · have hq : ((y : Int) / 36028797018963968 != 0) = true := by rw [bne_iff_ne]; omega
            have hg : 1 ≤ gk := Nat.pos_of_ne_zero fun e => by
              have h1 := HR.out.2.1
              have e55 : (2 : Nat) ^ (55 + 0) = 36028797018963968 := by decide
              rw [e, e55] at h1
              exact hy h1
            obtain ⟨q, r, m2, f1, f2, f3, f4, f5⟩ := half_facts (m := y) (k := 55 + (gk - 1)) (by omega) (by rw [show 55 + (gk - 1) + 1 = 55 + gk by omega]; exact HR.out.2.1) HR.out.1
            have HF := Lib.hid (And.intro hg (And.intro f4 f5))
            clear hy hg f4 f5
            go_wp2_with fail
            go_roundg (gk - 1)
            case measure => have := HF.out.1; omega
            case rel => exact ⟨m2, _, rfl, rfl, HF.out.2.2, HF.out.2.1, HR.out.2.2⟩
      case rest =>
        obtain ⟨y3, E3, rfl, rfl, HY3⟩ := hcut
        generalize wc = w3 at *
        clear HY2
        go_upto_block 4 with fail
        go_cut [2, 3] from 77 to 91 (fun s2 s3 wx => ∃ (y : Nat) (E : Int), s2 = .int .u64 (y : Int) ∧ s3 = .int .i64 E ∧ RowKit.Hid (∃ n, wx = w.drewN n))
        case first =>
          go_wp2_with fail
          go_loopg [2, 3] 64 (fun gq s2 s3 wx => ∃ (y : Nat) (E : Int), s2 = .int .u64 (y : Int) ∧ s3 = .int .i64 E ∧ RowKit.Hid (y < 18446744073709551616 ∧ y < 2 ^ gq ∧ ∃ n, wx = w.drewN n))
          case atStart =>
            refine ⟨y3, E3, rfl, rfl, HY3.out.1, ?_, HY3.out.2⟩
            have e : (2 : Nat) ^ 64 = 18446744073709551616 := by decide
            rw [e]; exact HY3.out.1
          case round =>
            obtain ⟨y, E, rfl, rfl, HR⟩ := hrel
            by_cases hy : 1 < y
            · have hy1 : (1 : Int) < (y : Int) := by omega
              have hg : 2 ≤ gk := by
                refine Nat.le_of_not_lt fun h => ?_
                have h1 := HR.out.2.1
                have : 2 ^ gk ≤ 2 ^ 1 := Nat.pow_le_pow_right (by omega) (by omega)
                have e1 : (2 : Nat) ^ 1 = 2 := by decide
                omega
              obtain ⟨q, r, m2, f1, f2, f3, f4, f5⟩ := half_facts (m := y) (k := gk - 1) (by omega) (by rw [show gk - 1 + 1 = gk by omega]; exact HR.out.2.1) HR.out.1
              have HF := Lib.hid (And.intro hg (And.intro f4 f5))
              clear hy hg f4 f5
              by_cases hE : E < -1024
              · go_wp2_with fail
                go_roundg (gk - 1)
                case measure => have := HF.out.1; omega
                case rel => exact ⟨m2, _, rfl, rfl, HF.out.2.2, HF.out.2.1, HR.out.2.2⟩
              · have hE' : ¬ E < -1024 := hE
                go_wp2_with fail
                go_meet
                exact ⟨y, E, rfl, rfl, HR.out.2.2⟩
            · have hy1 : ¬ (1 : Int) < (y : Int) := by omega
              clear hy
              go_wp2_with fail
              go_meet
              exact ⟨y, E, rfl, rfl, HR.out.2.2⟩
        case rest =>
          obtain ⟨y4, E4, rfl, rfl, HW4⟩ := hcut
          generalize wc = w4 at *
          clear HY3
          obtain ⟨i0, i1, i2⟩ := HI.out w4 HW4.out
          go_upto_if 103 with fail
          go_cut [2, 3] from 92 to 117 (fun s2 s3 wx => ∃ (z E : Int), s2 = .int .u64 z ∧ s3 = .int .i64 E ∧ wx = w4)
          case first =>
            go_wp2_with fail
            all_goals
              go_meet
              exact ⟨_, _, rfl, rfl, rfl⟩
          case rest =>
            obtain ⟨z5, E5, rfl, rfl, hw5⟩ := hcut
            generalize wc = w5 at *
            subst hw5
            go_upto_if 124 with fail
            go_cut [3] from 118 to 128 (fun s3 wx => ∃ E : Int, s3 = .int .i64 E ∧ wx = w5)
            case first =>
              go_wp2_with fail
              all_goals
                go_meet
                exact ⟨_, rfl, rfl⟩
            case rest =>
              obtain ⟨E6, rfl, hw6⟩ := hcut
              generalize wc = w6 at *
              subst hw6
              go_upto_if 131 with fail
              go_cut [2, 3, 17] from 129 to 139 (fun s2 s3 s17 wx => ∃ (z E : Int) (b : Bool), s2 = .int .u64 z ∧ s3 = .int .i64 E ∧ s17 = rngV b ∧ wx = w6)
              case first =>
                go_wp2_with fail
                all_goals
                  go_meet
                  first
                    | exact ⟨_, _, true, rfl, rfl, rfl, rfl⟩
                    | exact ⟨_, _, false, rfl, rfl, rfl, rfl⟩
              case rest =>
                obtain ⟨z7, E7, b7, rfl, rfl, rfl, hw7⟩ := hcut
                generalize wc = w7 at *
                subst hw7
                generalize hv : rngV b7 = v7 at *
                have hf := ext_sfrom
                have HNe : RowKit.Hid (∀ W : World, (∃ n, W = w.drewN n) → (binOp .eql 132 (.pointer (some ⟨6, 0, none⟩)) (.pointer (some ⟨5, 0, none⟩))).run Tryz.prog W = .ok (.bool false) W) := Lib.hid (by
                  rintro W ⟨q, rfl⟩
                  obtain ⟨ca, ta, cb, tb, e1, e2⟩ := HB.out
                  obtain ⟨j, hj, hs⟩ := info_fi
                  exact run_eql_ptr_other (w.drewN q) Tryz.underlying132 hj hs (by intro e; have := congrArg Addr.block e; revert this; decide) e1 e2)
                have hq7 : ∃ n, w7 = w.drewN n := HW4.out
                have hne1 : ∀ q : Nat, (binOp .eql 132 (.pointer (some ⟨6, 0, none⟩)) (.pointer (some ⟨5, 0, none⟩))).run Tryz.prog (w7.drewN q) = .ok (.bool false) (w7.drewN q) := fun q => HNe.out _ (by obtain ⟨n, hn⟩ := hq7; exact ⟨n + q, by rw [hn, World.drewN_drewN]⟩)
                cases neg
                · go_wp2_with fail
                  go_quiet (fail)
                  go_wp2_with fail
                  go_ret2
                  refine hx_done b7 hv.symm ?_
                  obtain ⟨n, hn⟩ := hq7
                  simp only [hn, World.drewN_drewN]
                  exact ⟨_, rfl⟩
                · go_wp2_with fail
                  go_quiet (fail)
                  go_wp2_with fail
                  go_quiet (fail)
                  go_wp2_with fail
                  go_ret2
                  refine hx_done b7 hv.symm ?_
                  obtain ⟨n, hn⟩ := hq7
                  simp only [hn, World.drewN_drewN]
                  exact ⟨_, rfl⟩
end Go.Proofs.YtemjlkmlodmmfaaGreatDoor
