/- Package real: Sum. By an AI agent. -/
import Derived.Test.YtipkiiblghnoiaaGreatDoorSumD
import Derived.Test.YtipkiiblghnoiaaGreatDoorSumE
import Derived.Test.YtipkiiblghnoiaaGreatDoorSumF
import Derived.Test.YtipkiiblghnoiaaGreatDoorSerD
namespace Go.Proofs.YtipkiiblghnoiaaGreatDoor.Sm
open Go.ChangeShapes Go.WideShapes Go.ChangeAt Go.RowKit
set_option linter.unusedVariables false
set_option linter.unusedSimpArgs false

/-! ### what a sum is -/
def cntK (us : List Nat) (k : Nat) : Sn := (us.take k).foldl bump ⟨0, 0, 0, 0, 0⟩
def sumStep (a : Int) (u : Nat) : Int := if kind u = 4 then a + fin u else a
def sumK (us : List Nat) (k : Nat) : Int := (us.take k).foldl sumStep 0
/-- The bits of an exact sum's nearest number. -/
def sgnR (S : Int) : Nat := if S < 0 then roundB S.natAbs + 9223372036854775808 else roundB S.natAbs
def sumW (us : List Nat) : Nat :=
  let s := cntK us us.length
  if 0 < s.n ∨ (0 < s.l ∧ 0 < s.g) then 9221120237041090561 else if 0 < s.l then 18442240474082181120 else if 0 < s.g then 9218868437227405312 else if s.o = 0 ∧ 0 < s.m then 9223372036854775808 else sgnR (sumK us us.length)
theorem take_next {us : List Nat} {k : Nat} (h : k < us.length) : us.take (k + 1) = us.take k ++ [us.getD k 0] := by
  rw [List.take_succ_eq_append_getElem h, List.getD_eq_getElem?_getD, List.getElem?_eq_getElem h]; rfl
theorem cntK_succ {us : List Nat} {k : Nat} (h : k < us.length) : cntK us (k + 1) = bump (cntK us k) (us.getD k 0) := by
  unfold cntK; rw [take_next h, List.foldl_append]; rfl
theorem sumK_succ {us : List Nat} {k : Nat} (h : k < us.length) : sumK us (k + 1) = sumStep (sumK us k) (us.getD k 0) := by
  unfold sumK; rw [take_next h, List.foldl_append]; rfl
theorem cntK_few (us : List Nat) : ∀ k, k ≤ us.length → (cntK us k).few k
  | 0, _ => ⟨Nat.le_refl _, Nat.le_refl _, Nat.le_refl _, Nat.le_refl _, Nat.le_refl _⟩
  | k + 1, h => by rw [cntK_succ (by omega)]; exact bump_few (cntK_few us k (by omega)) _
theorem kind4 {u : Nat} (hu : u < 18446744073709551616) (h : kind u = 4) : u / 2 ^ 52 % 2048 < 2047 := by
  unfold kind at h
  by_cases h1 : 9218868437227405312 < u % 9223372036854775808
  · rw [if_pos h1] at h; cases h
  · rw [if_neg h1] at h
    by_cases h2 : u % 9223372036854775808 = 9218868437227405312
    · rw [if_pos h2] at h; split at h <;> cases h
    · omega
/-- A great number: no finite one is beyond it. -/
def big : Nat := 2 ^ 53 * (2 ^ 61 * (2 ^ 64) ^ 31)
theorem fin_abs {u : Nat} (hu : u < 18446744073709551616) (h : kind u = 4) : (fin u).natAbs ≤ big := by
  have := fin_lt (kind4 hu h)
  unfold fin
  unfold big
  generalize mant u * 2 ^ shft u = a at *
  generalize 2 ^ 53 * (2 ^ 61 * (2 ^ 64) ^ 31) = X at *
  split <;> omega
theorem sum_abs {us : List Nat} (hu : ∀ i, us.getD i 0 < 18446744073709551616) : ∀ k, k ≤ us.length → (sumK us k).natAbs ≤ k * big
  | 0, _ => by simp [sumK]
  | k + 1, h => by
    have ih := sum_abs hu k (by omega)
    rw [sumK_succ (by omega), Nat.succ_mul]
    unfold sumStep
    by_cases h4 : kind (us.getD k 0) = 4
    · rw [if_pos h4]
      have := fin_abs (hu k) h4
      omega
    · rw [if_neg h4]; omega
theorem big_lt {k : Nat} (h : k ≤ 1000000000) : k * big < 9223372036854775808 * 18446744073709551616 ^ 35 := by
  have h1 : k * big ≤ 1000000000 * big := Nat.mul_le_mul_right _ h
  have h2 : 1000000000 * big < 9223372036854775808 * 18446744073709551616 ^ 35 := by decide
  exact Nat.lt_of_le_of_lt h1 h2

/-- The words hold S, but for what they can't hold. -/
def Mod (V : Nat) (S : Int) : Prop := ∃ q : Int, (V : Int) = S + q * ((18446744073709551616 ^ 36 : Nat) : Int)
theorem mod_add {V V' d c : Nat} {S : Int} {u : Nat} (h : Mod V S) (hd : d = mant u * 2 ^ shft u) (hr : Rel (isNeg u) V V' d c 36) : Mod V' (S + fin u) := by
  obtain ⟨q, hq⟩ := h
  unfold Rel at hr
  unfold Mod
  unfold fin
  rw [← hd]
  generalize 18446744073709551616 ^ 36 = M at *
  have e1 : (q + (c : Int)) * (M : Int) = q * (M : Int) + ((c * M : Nat) : Int) := by rw [Int.add_mul]; push_cast; rfl
  have e2 : (q - (c : Int)) * (M : Int) = q * (M : Int) - ((c * M : Nat) : Int) := by rw [Int.sub_mul]; push_cast; rfl
  cases hn : isNeg u
  · rw [hn] at hr
    simp only [Bool.false_eq_true, if_false] at hr ⊢
    refine ⟨q - c, ?_⟩
    rw [e2]
    generalize c * M = cM at *
    generalize q * (M : Int) = qM at *
    omega
  · rw [hn] at hr
    simp only [if_true] at hr ⊢
    refine ⟨q + c, ?_⟩
    rw [e1]
    generalize c * M = cM at *
    generalize q * (M : Int) = qM at *
    omega
/-- Read as a number with a sign, the words are S. -/
theorem mod_read {f g : Nat → Nat} {S : Int} (hf : ∀ j, f j < 18446744073709551616) (hm : Mod (V36 f) S) (hb : S.natAbs < 9223372036854775808 * 18446744073709551616 ^ 35) (hs : SizeRel f g) : (S < 0 ↔ 2 ^ 63 ≤ f 35) ∧ V36 g = S.natAbs := by
  obtain ⟨q, hq⟩ := hm
  have hlt : V36 f < 18446744073709551616 ^ 36 := v_lt hf
  have hv : V36 f = wv 18446744073709551616 f 35 + f 35 * 18446744073709551616 ^ 35 := rfl
  have hl := wv_lt (B := 18446744073709551616) (f := f) (by decide) (n := 35) (fun i _ => hf i)
  have hf35 := hf 35
  have eM : (18446744073709551616 : Nat) ^ 36 = 18446744073709551616 * 18446744073709551616 ^ 35 := by rw [Nat.pow_succ, Nat.mul_comm]
  obtain ⟨-, h1, h2⟩ := hs
  rw [eM] at hq hlt h2
  have hP : 0 < (18446744073709551616 : Nat) ^ 35 := Nat.pow_pos (by decide)
  generalize (18446744073709551616 : Nat) ^ 35 = P at *
  generalize wv 18446744073709551616 f 35 = lo at *
  generalize hV : V36 f = V at *
  generalize V36 g = G at *
  have hM : ((18446744073709551616 * P : Nat) : Int) = 18446744073709551616 * (P : Int) := by omega
  rw [hM] at hq
  have hq2 : q = 0 ∨ q = 1 := by
    rcases Int.lt_trichotomy q 0 with hn | hz | hp
    · exfalso
      have : q * (18446744073709551616 * (P : Int)) ≤ -1 * (18446744073709551616 * (P : Int)) := Int.mul_le_mul_of_nonneg_right (by omega) (by omega)
      omega
    · exact Or.inl hz
    · right
      rcases Int.lt_or_le 1 q with h | h
      · exfalso
        have : 2 * (18446744073709551616 * (P : Int)) ≤ q * (18446744073709551616 * (P : Int)) := Int.mul_le_mul_of_nonneg_right (by omega) (by omega)
        omega
      · omega
  rcases hq2 with rfl | rfl
  · rw [Int.zero_mul, Int.add_zero] at hq
    have hS : ¬ S < 0 := by omega
    have hF : ¬ 2 ^ 63 ≤ f 35 := by
      intro hc
      have : 2 ^ 63 * P ≤ f 35 * P := Nat.mul_le_mul_right _ hc
      omega
    refine ⟨⟨fun h => absurd h hS, fun h => absurd h hF⟩, ?_⟩
    rw [h1 (by omega)]
    omega
  · rw [Int.one_mul] at hq
    have hS : S < 0 := by omega
    have hF : 2 ^ 63 ≤ f 35 := by
      rcases Nat.lt_or_ge (f 35) (2 ^ 63) with hc | hc
      · exfalso
        have : (f 35 + 1) * P ≤ 2 ^ 63 * P := Nat.mul_le_mul_right _ hc
        rw [Nat.add_mul, Nat.one_mul] at this
        omega
      · exact hc
    refine ⟨⟨fun _ => hF, fun _ => hS⟩, ?_⟩
    have := h2 hF
    omega
theorem roundB_lt (V : Nat) : roundB V < 9223372036854775808 := by
  by_cases hs : lenN V ≤ 53
  · rw [round_small rfl hs]
    exact Nat.lt_of_lt_of_le (lenN_len V).1 (Nat.le_trans (Nat.pow_le_pow_right (by decide) hs) (by decide))
  · have hr := digR_range (lenN_len V) (by omega)
    rw [round_parts rfl (by omega)]
    generalize digR V (lenN V - 53) = d at *
    generalize lenN V - 53 = b at *
    simp only
    by_cases hd : d = 9007199254740992
    · simp only [if_pos hd]
      by_cases ho : b + 1 + 1 ≥ 2047
      · rw [if_pos ho]; decide
      · rw [if_neg ho]; omega
    · simp only [if_neg hd]
      by_cases ho : b + 1 ≥ 2047
      · rw [if_pos ho]; decide
      · rw [if_neg ho]; omega

theorem none_any (w : World) : Calls Tryz.prog 45 #[] w fun e w' => e = .returned (.float .f64 9221120237041090561) ∧ w' = w := by
  have e1 := ext_from
  go_enter Tryz.func45, Tryz.ntmps45
  go_wp2_with fail
  go_ret
  exact ⟨rfl, rfl⟩
theorem inf_up (w : World) : Calls Tryz.prog 46 #[.int .i64 1] w fun e w' => e = .returned (.float .f64 9218868437227405312) ∧ w' = w := by
  have e1 := ext_from
  go_enter Tryz.func46, Tryz.ntmps46
  go_wp2_with fail
  go_ret
  exact ⟨rfl, rfl⟩
theorem inf_down (w : World) : Calls Tryz.prog 46 #[.int .i64 (-1)] w fun e w' => e = .returned (.float .f64 18442240474082181120) ∧ w' = w := by
  have e1 := ext_from
  go_enter Tryz.func46, Tryz.ntmps46
  go_wp2_with fail
  go_ret
  exact ⟨rfl, rfl⟩
theorem sign_zero (w : World) : Calls Tryz.prog 39 #[.float .f64 0, .float .f64 13830554455654793216] w fun e w' => e = .returned (.float .f64 9223372036854775808) ∧ w' = w := by
  have e1 := ext_from
  have e2 := ext_bits
  have h1 : bits BinOp.andNot IntKind.u64 0 9223372036854775808 = 0 := by decide
  have h2 : bits BinOp.and IntKind.u64 13830554455654793216 9223372036854775808 = 9223372036854775808 := by decide
  have h3 : bits BinOp.or IntKind.u64 0 9223372036854775808 = 9223372036854775808 := by decide
  go_enter Tryz.func39, Tryz.ntmps39
  go_wp2_with fail
  go_ret
  exact ⟨rfl, rfl⟩
end Go.Proofs.YtipkiiblghnoiaaGreatDoor.Sm
