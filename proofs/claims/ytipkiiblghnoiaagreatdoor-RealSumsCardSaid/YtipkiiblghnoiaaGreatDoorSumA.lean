/- Plain: numbers of many words; the number that lies nearest. By an AI agent. -/
import Derived.Test.YtipkiiblghnoiaaGreatDoorLaw
namespace Go.Proofs.YtipkiiblghnoiaaGreatDoor.Sm
set_option linter.unusedVariables false
set_option linter.unusedSimpArgs false

/-- The value of the first n words. -/
def wv (B : Nat) (f : Nat → Nat) : Nat → Nat
  | 0 => 0
  | n + 1 => wv B f n + f n * B ^ n
def upd (f : Nat → Nat) (i x : Nat) : Nat → Nat := fun j => if j = i then x else f j
theorem upd_same (f : Nat → Nat) (i x : Nat) : upd f i x i = x := by simp [upd]
theorem upd_other {f : Nat → Nat} {i x j : Nat} (h : j ≠ i) : upd f i x j = f j := by simp [upd, h]
theorem upd_lt {f : Nat → Nat} {i x M : Nat} (h : ∀ j, f j < M) (hx : x < M) (j : Nat) : upd f i x j < M := by
  unfold upd; split
  · exact hx
  · exact h j
theorem wv_congr {B : Nat} {f g : Nat → Nat} : ∀ {n : Nat}, (∀ i, i < n → f i = g i) → wv B f n = wv B g n
  | 0, _ => rfl
  | n + 1, h => by
    unfold wv
    rw [wv_congr (n := n) (fun i hi => h i (by omega)), h n (by omega)]
theorem wv_upd {B : Nat} {f : Nat → Nat} {i x : Nat} : ∀ {n : Nat}, i < n → wv B (upd f i x) n + f i * B ^ i = wv B f n + x * B ^ i
  | n + 1, h => by
    unfold wv
    by_cases e : i = n
    · subst e
      rw [upd_same, wv_congr (g := f) (fun j hj => upd_other (by omega))]
      omega
    · have := wv_upd (B := B) (f := f) (i := i) (x := x) (n := n) (by omega)
      rw [upd_other (fun h => e h.symm)]
      omega
theorem wv_lt {B : Nat} {f : Nat → Nat} (hB : 0 < B) : ∀ {n : Nat}, (∀ i, i < n → f i < B) → wv B f n < B ^ n
  | 0, _ => by simp [wv]
  | n + 1, h => by
    unfold wv
    have h1 := wv_lt (B := B) (f := f) hB (n := n) (fun i hi => h i (by omega))
    have h2 := h n (by omega)
    have h3 : (f n + 1) * B ^ n ≤ B * B ^ n := Nat.mul_le_mul_right _ h2
    rw [Nat.pow_succ, Nat.mul_comm (B ^ n) B]
    rw [Nat.add_mul, Nat.one_mul] at h3
    omega
theorem wv_zero (B n : Nat) : wv B (fun _ => 0) n = 0 := by
  induction n with
  | zero => rfl
  | succ n ih => unfold wv; rw [ih]; simp
/-- A word, out of the value. -/
theorem wv_word {B : Nat} {f : Nat → Nat} (hB : 0 < B) : ∀ {n : Nat}, (∀ i, i < n → f i < B) → ∀ i, i < n → wv B f n / B ^ i % B = f i
  | 0, _, i, hi => absurd hi (by omega)
  | n + 1, h, i, hi => by
    have hlt := wv_lt (B := B) (f := f) hB (n := n) (fun i hi => h i (by omega))
    unfold wv
    have hp : 0 < B ^ i := Nat.pow_pos hB
    by_cases e : i = n
    · subst e
      rw [Nat.add_mul_div_right _ _ hp, Nat.div_eq_of_lt hlt, Nat.zero_add, Nat.mod_eq_of_lt (h i (by omega))]
    · have ih := wv_word (B := B) (f := f) hB (n := n) (fun i hi => h i (by omega)) i (by omega)
      have e2 : f n * B ^ n = f n * B ^ (n - i - 1) * B * B ^ i := by
        rw [Nat.mul_assoc, Nat.mul_assoc, ← Nat.pow_succ', ← Nat.pow_add, show n - i - 1 + (i + 1) = n by omega]
      rw [e2, Nat.add_mul_div_right _ _ hp, Nat.add_mul_mod_self_right]
      exact ih
/-- A bit, out of a word. -/
theorem wv_bit {k : Nat} {f : Nat → Nat} {n : Nat} (hk : 0 < k) (h : ∀ i, i < n → f i < 2 ^ k) (i : Nat) (hi : i < k * n) : (f (i / k)).testBit (i % k) = (wv (2 ^ k) f n).testBit i := by
  have hq : i / k < n := by rw [Nat.div_lt_iff_lt_mul hk, Nat.mul_comm]; exact hi
  have := wv_word (B := 2 ^ k) (Nat.pow_pos (by omega)) h (i / k) hq
  have hr : i % k < k := Nat.mod_lt _ hk
  rw [← this, Nat.testBit_mod_two_pow, ← Nat.pow_mul, Nat.testBit_div_two_pow]
  have e : i % k + k * (i / k) = i := by have := Nat.div_add_mod i k; omega
  simp only [hr, decide_true, Bool.true_and]
  rw [e]
theorem wv_high {B : Nat} {f : Nat → Nat} {m : Nat} : ∀ {n : Nat}, m ≤ n → (∀ i, m ≤ i → i < n → f i = 0) → wv B f n = wv B f m
  | 0, h, _ => by
    have : m = 0 := by omega
    subst this; rfl
  | n + 1, h, h0 => by
    by_cases e : m = n + 1
    · subst e; rfl
    · show wv B f n + f n * B ^ n = wv B f m
      rw [wv_high (n := n) (by omega) (fun i h1 h2 => h0 i h1 (by omega)), h0 n (by omega) (by omega)]
      simp

/-! ### how many bits -/
/-- n is how many bits V has. -/
def Len (V n : Nat) : Prop := V < 2 ^ n ∧ (0 < n → 2 ^ (n - 1) ≤ V)
theorem len_unique {V n m : Nat} (h : Len V n) (k : Len V m) : n = m := by
  rcases Nat.lt_trichotomy n m with hlt | h1 | hlt
  · have h2 := k.2 (by omega)
    have : 2 ^ n ≤ 2 ^ (m - 1) := Nat.pow_le_pow_right (by omega) (by omega)
    have := h.1
    omega
  · exact h1
  · have h2 := h.2 (by omega)
    have : 2 ^ m ≤ 2 ^ (n - 1) := Nat.pow_le_pow_right (by omega) (by omega)
    have := k.1
    omega
theorem len_zero : Len 0 0 := ⟨by simp, fun h => absurd h (by omega)⟩
theorem len_of_top {V n : Nat} (h1 : V < 2 ^ (n + 1)) (h2 : V.testBit n = true) : Len V (n + 1) := ⟨h1, fun _ => by
  have := Nat.ge_two_pow_of_testBit h2
  simpa using this⟩
/-- Of words: the highest that is none 0. -/
theorem len_words {k : Nat} {f : Nat → Nat} {n i l : Nat} (h : ∀ j, j < n → f j < 2 ^ k) (hi : i < n) (hz : ∀ j, i < j → j < n → f j = 0) (hl : Len (f i) l) (hp : 0 < l) : Len (wv (2 ^ k) f n) (k * i + l) := by
  have e : wv (2 ^ k) f n = wv (2 ^ k) f (i + 1) := wv_high (by omega) (fun j h1 h2 => hz j (by omega) h2)
  have hlt := wv_lt (B := 2 ^ k) (f := f) (Nat.pow_pos (by omega)) (n := i) (fun j hj => h j (by omega))
  rw [← Nat.pow_mul] at hlt
  rw [e]
  unfold wv
  rw [← Nat.pow_mul]
  have h1 := hl.1
  have h2 := hl.2 hp
  refine ⟨?_, fun _ => ?_⟩
  · rw [Nat.pow_add]
    have : (f i + 1) * 2 ^ (k * i) ≤ 2 ^ l * 2 ^ (k * i) := Nat.mul_le_mul_right _ h1
    rw [Nat.add_mul, Nat.one_mul] at this
    rw [Nat.mul_comm (2 ^ (k * i)) (2 ^ l)]
    omega
  · rw [show k * i + l - 1 = k * i + (l - 1) by omega, Nat.pow_add, Nat.mul_comm (2 ^ (k * i))]
    have : 2 ^ (l - 1) * 2 ^ (k * i) ≤ f i * 2 ^ (k * i) := Nat.mul_le_mul_right _ h2
    omega

/-! ### the number that lies nearest -/
/-- How many bits V has. -/
def lenN (V : Nat) : Nat := if V = 0 then 0 else Nat.log2 V + 1
theorem lenN_len (V : Nat) : Len V (lenN V) := by
  unfold lenN
  by_cases h : V = 0
  · rw [if_pos h, h]; exact len_zero
  · rw [if_neg h]
    refine ⟨Nat.lt_log2_self, fun _ => ?_⟩
    rw [Nat.add_sub_cancel]
    exact Nat.log2_self_le h
theorem len_lenN {V n : Nat} (h : Len V n) : lenN V = n := len_unique (lenN_len V) h

/-- The digits, rounded: V has by more bits than 53. -/
def digR (V by_ : Nat) : Nat := let d := V >>> by_; if V.testBit (by_ - 1) = true ∧ (d % 2 = 1 ∨ V % 2 ^ (by_ - 1) ≠ 0) then d + 1 else d
/-- The bits of the number above 0 that lies nearest to V times 2^-1074. -/
def roundB (V : Nat) : Nat :=
  let n := lenN V
  if n ≤ 53 then V else
    let by_ := n - 53
    let d := digR V by_
    let d2 := if d = 2 ^ 53 then 2 ^ 52 else d
    let b2 := if d = 2 ^ 53 then by_ + 1 else by_
    if b2 + 1 ≥ 2047 then 2047 * 2 ^ 52 else (b2 + 1) * 2 ^ 52 + (d2 - 2 ^ 52)

theorem dig_range {V n : Nat} (h : Len V n) (hn : 53 < n) : 2 ^ 52 ≤ V >>> (n - 53) ∧ V >>> (n - 53) < 2 ^ 53 := by
  rw [Nat.shiftRight_eq_div_pow]
  have h1 := h.1
  have h2 := h.2 (by omega)
  constructor
  · rw [Nat.le_div_iff_mul_le (Nat.pow_pos (by omega)), ← Nat.pow_add, show 52 + (n - 53) = n - 1 by omega]; exact h2
  · rw [Nat.div_lt_iff_lt_mul (Nat.pow_pos (by omega)), ← Nat.pow_add, show 53 + (n - 53) = n by omega]; exact h1
theorem digR_range {V n : Nat} (h : Len V n) (hn : 53 < n) : 2 ^ 52 ≤ digR V (n - 53) ∧ digR V (n - 53) ≤ 2 ^ 53 := by
  have := dig_range h hn
  unfold digR
  simp only
  split <;> omega

/-- A finite number's bits: its digits, how far they are shifted. -/
def mant (u : Nat) : Nat := if u / 2 ^ 52 % 2048 = 0 then u % 2 ^ 52 else u % 2 ^ 52 + 2 ^ 52
def shft (u : Nat) : Nat := u / 2 ^ 52 % 2048 - 1
def isNeg (u : Nat) : Bool := decide (2 ^ 63 ≤ u)
/-- A finite number, in units of 2^-1074. -/
def fin (u : Nat) : Int := if isNeg u = true then -((mant u * 2 ^ shft u : Nat) : Int) else ((mant u * 2 ^ shft u : Nat) : Int)
theorem mant_lt (u : Nat) : mant u < 2 ^ 53 := by
  unfold mant
  split <;> omega
theorem pow_split (s a b : Nat) (h : s ≤ a + 64 * b) : 2 ^ s ≤ 2 ^ a * (2 ^ 64) ^ b := by
  rw [← Nat.pow_mul, ← Nat.pow_add]
  exact Nat.pow_le_pow_right (by decide) h
theorem fin_lt {u : Nat} (h : u / 2 ^ 52 % 2048 < 2047) : mant u * 2 ^ shft u < 2 ^ 53 * (2 ^ 61 * (2 ^ 64) ^ 31) := by
  have h1 := mant_lt u
  have h2 := pow_split (shft u) 61 31 (by unfold shft; omega)
  have h3 : 0 < 2 ^ 61 * (2 ^ 64) ^ 31 := by decide
  generalize 2 ^ 61 * (2 ^ 64) ^ 31 = X at *
  exact Nat.lt_of_le_of_lt (Nat.mul_le_mul_left _ h2) (Nat.mul_lt_mul_of_pos_right h1 h3)
end Go.Proofs.YtipkiiblghnoiaaGreatDoor.Sm
