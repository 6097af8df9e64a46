/- PLAIN: the order held against the floats' own, keys and back. By an AI agent. -/
import Derived.Test.YtipkiiblghnoiaaGreatDoorReF
namespace Go.Proofs.YtipkiiblghnoiaaGreatDoor.Re
open Go.Proofs.YtipkiiblghnoiaaGreatDoor
set_option linter.unusedVariables false

theorem not_nan {a : Nat} (hn : Flt.nan a = false) : ¬ 9218868437227405312 < a % 9223372036854775808 := fun x => by rw [(nan_iff a).2 x] at hn; cases hn
theorem fv_pos {a : Nat} (h : a < 9223372036854775808) : Flt.fv a = (Flt.mag a : Int) := by
  unfold Flt.fv Flt.neg Flt.rung
  rw [show a / 2 ^ 63 % 2 = 0 by omega, show a % 2 ^ 63 = a by omega]
  rfl
theorem fv_neg {a m : Nat} (h : m + 9223372036854775808 = a) (h2 : a < 18446744073709551616) : Flt.fv a = -(Flt.mag m : Int) := by
  have e1 : a / 2 ^ 63 % 2 = 1 := by omega
  have e2 : a % 2 ^ 63 = m := by omega
  unfold Flt.fv Flt.neg Flt.rung
  rw [e1, e2]
  rfl
theorem split_top {a : Nat} (h : ¬ a < 9223372036854775808) : ∃ m, m + 9223372036854775808 = a := ⟨a - 9223372036854775808, by omega⟩
theorem key_neg {a : Nat} (hn : Flt.nan a = false) (h : 9223372036854775808 ≤ a) : keyF a = 18446744073709551615 - a := by
  unfold keyF; rw [hn, if_neg (by simp), if_pos h]
theorem key_pos {a : Nat} (hn : Flt.nan a = false) (h : a < 9223372036854775808) : keyF a = a + 9223372036854775808 := by
  unfold keyF; rw [hn, if_neg (by simp), if_neg (by omega)]
theorem key_nan {a : Nat} (hn : Flt.nan a = true) : keyF a = 18446744073709551615 := by unfold keyF; rw [hn, if_pos rfl]
theorem key_lt_of {a b : Nat} (ha : a < 18446744073709551616) (hb : b < 18446744073709551616) (hna : Flt.nan a = false) (hnb : Flt.nan b = false) (h : Flt.fv a < Flt.fv b) : keyF a < keyF b := by
  by_cases a0 : a < 9223372036854775808
  · rw [key_pos hna a0]
    rw [fv_pos a0] at h
    by_cases b0 : b < 9223372036854775808
    · rw [key_pos hnb b0]
      rw [fv_pos b0] at h
      have : a < b := Nat.lt_of_not_le fun hle => by have := Flt.mag_le hle; omega
      omega
    · obtain ⟨m, hm⟩ := split_top b0
      rw [fv_neg hm hb] at h
      omega
  · rw [key_neg hna (by omega)]
    obtain ⟨n, hn⟩ := split_top a0
    rw [fv_neg hn ha] at h
    by_cases b0 : b < 9223372036854775808
    · rw [key_pos hnb b0]
      omega
    · rw [key_neg hnb (by omega)]
      obtain ⟨m, hm⟩ := split_top b0
      rw [fv_neg hm hb] at h
      have : m < n := Nat.lt_of_not_le fun hle => by have := Flt.mag_le hle; omega
      omega
theorem cmp_lt {a b : Nat} (h : keyF a < keyF b) : cmpF a b = -1 := by unfold cmpF; rw [if_pos h]
theorem cmp_gt {a b : Nat} (h : keyF b < keyF a) : cmpF a b = 1 := by unfold cmpF; rw [if_neg (by omega), if_pos h]
theorem cmp_eq {a b : Nat} (h : keyF a = keyF b) : cmpF a b = 0 := by unfold cmpF; rw [if_neg (by omega), if_neg (by omega)]
theorem cmp_cases (a b : Nat) : (cmpF a b = -1 ∧ keyF a < keyF b) ∨ (cmpF a b = 0 ∧ keyF a = keyF b) ∨ (cmpF a b = 1 ∧ keyF b < keyF a) := by
  rcases Nat.lt_trichotomy (keyF a) (keyF b) with h | h | h
  · exact .inl ⟨cmp_lt h, h⟩
  · exact .inr (.inl ⟨cmp_eq h, h⟩)
  · exact .inr (.inr ⟨cmp_gt h, h⟩)
theorem cmp_flip (a b : Nat) : cmpF b a = - cmpF a b := by
  rcases cmp_cases a b with ⟨h, k⟩ | ⟨h, k⟩ | ⟨h, k⟩
  · rw [h, cmp_gt k]; rfl
  · rw [h, cmp_eq k.symm]; rfl
  · rw [h, cmp_lt k]
theorem cmp_trans {a b c : Nat} (h1 : cmpF a b ≤ 0) (h2 : cmpF b c ≤ 0) : cmpF a c ≤ 0 := by
  have k1 : keyF a ≤ keyF b := by rcases cmp_cases a b with ⟨h, k⟩ | ⟨h, k⟩ | ⟨h, k⟩ <;> omega
  have k2 : keyF b ≤ keyF c := by rcases cmp_cases b c with ⟨h, k⟩ | ⟨h, k⟩ | ⟨h, k⟩ <;> omega
  rcases cmp_cases a c with ⟨h, k⟩ | ⟨h, k⟩ | ⟨h, k⟩ <;> omega
/-- What the floats' own tests may say beside the order. -/
theorem order_cases {a b : Nat} (ha : a < 18446744073709551616) (hb : b < 18446744073709551616) :
    (cmpF a b = -1 → (FloatKind.f64.format.order a b == some .gt) = false ∧ Flt.nan a = false) ∧
    (cmpF a b = 0 → (FloatKind.f64.format.order a b == some .lt) = false ∧ (FloatKind.f64.format.order a b == some .gt) = false ∧ (Flt.nan a = Flt.nan b)) ∧
    (cmpF a b = 1 → (FloatKind.f64.format.order a b == some .lt) = false ∧ Flt.nan b = false) := by
  have hlt : (FloatKind.f64.format.order a b == some .lt) = true → cmpF a b = -1 := fun h => by
    cases hna : Flt.nan a
    · cases hnb : Flt.nan b
      · rw [Flt.t_lt hna hnb, decide_eq_true_eq] at h
        exact cmp_lt (key_lt_of ha hb hna hnb h)
      · rw [Flt.order_nan (.inr hnb)] at h; cases h
    · rw [Flt.order_nan (.inl hna)] at h; cases h
  have hgt : (FloatKind.f64.format.order a b == some .gt) = true → cmpF a b = 1 := fun h => by
    cases hna : Flt.nan a
    · cases hnb : Flt.nan b
      · rw [Flt.t_gt hna hnb, decide_eq_true_eq] at h
        exact cmp_gt (key_lt_of hb ha hnb hna h)
      · rw [Flt.order_nan (.inr hnb)] at h; cases h
    · rw [Flt.order_nan (.inl hna)] at h; cases h
  have bf : ∀ x : Bool, (x = true → False) → x = false := fun x h => by cases x with | false => rfl | true => exact (h rfl).elim
  have nn : ∀ {x : Nat}, x < 18446744073709551616 → Flt.nan x = false → keyF x < 18446744073709551615 := fun hx h => by have := key_room hx h; omega
  refine ⟨fun h => ⟨bf _ fun x => by have := hgt x; omega, ?_⟩, fun h => ⟨bf _ fun x => by have := hlt x; omega, bf _ fun x => by have := hgt x; omega, ?_⟩, fun h => ⟨bf _ fun x => by have := hlt x; omega, ?_⟩⟩
  · refine bf _ fun x => ?_
    have h1 := key_nan x
    have h2 := key_lt hb
    rcases cmp_cases a b with ⟨k, l⟩ | ⟨k, l⟩ | ⟨k, l⟩ <;> omega
  · have hk : keyF a = keyF b := by rcases cmp_cases a b with ⟨k, l⟩ | ⟨k, l⟩ | ⟨k, l⟩ <;> omega
    cases hna : Flt.nan a <;> cases hnb : Flt.nan b
    · rfl
    · have := nn ha hna; have := key_nan hnb; omega
    · have := nn hb hnb; have := key_nan hna; omega
    · rfl
  · refine bf _ fun x => ?_
    have h1 := key_nan x
    have h2 := key_lt ha
    rcases cmp_cases a b with ⟨k, l⟩ | ⟨k, l⟩ | ⟨k, l⟩ <;> omega
theorem unkey_key {a : Nat} (ha : a < 18446744073709551616) : unkW (keyF a) = canW a ∧ unkB (keyF a) = true := by
  unfold canW
  cases hn : Flt.nan a
  · have hr := key_room ha hn
    have h1 := not_nan hn
    simp only [Bool.false_eq_true, if_false]
    by_cases a0 : a < 9223372036854775808
    · rw [key_pos hn a0] at hr ⊢
      have := unk_pos (k := a + 9223372036854775808) (by omega) hr.1
      exact ⟨this.1.trans (by omega), this.2⟩
    · rw [key_neg hn (by omega)] at hr ⊢
      have := unk_neg (k := 18446744073709551615 - a) hr.2 (by omega)
      exact ⟨this.1.trans (by omega), this.2⟩
  · rw [key_nan hn, if_pos rfl]
    exact unk_last
end Go.Proofs.YtipkiiblghnoiaaGreatDoor.Re
