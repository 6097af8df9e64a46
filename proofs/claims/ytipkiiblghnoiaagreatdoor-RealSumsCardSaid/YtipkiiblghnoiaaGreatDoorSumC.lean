/- Package real: exact sums in memory: bit, from, some, length. By an AI agent. -/
import Derived.Test.YtipkiiblghnoiaaGreatDoorSumB
import Derived.Test.YtipkiiblghnoiaaGreatDoorShelf
namespace Go.Proofs.YtipkiiblghnoiaaGreatDoor.Sm
open Go.ChangeShapes Go.WideShapes Go.ChangeAt Go.RowKit
set_option linter.unusedVariables false
set_option linter.unusedSimpArgs false

/-- An exact number's value. -/
def V36 (f : Nat → Nat) : Nat := wv 18446744073709551616 f 36
theorem two64 : (2 : Nat) ^ 64 = 18446744073709551616 := by decide
theorem v_bit {f : Nat → Nat} (hf : ∀ j, f j < 18446744073709551616) (i : Nat) (hi : i < 2304) : (f (i / 64)).testBit (i % 64) = (V36 f).testBit i := by
  have h := wv_bit (k := 64) (f := f) (n := 36) (by omega) (fun j _ => by rw [two64]; exact hf j) i (by omega)
  rw [two64] at h
  exact h
theorem fand_one (x m : Nat) (hx : x < 18446744073709551616) : bits BinOp.and IntKind.u64 ((x : Int) / 2 ^ m) 1 = ((x.testBit m).toNat : Int) := by
  have e : ((x : Int) / 2 ^ m) = ((x / 2 ^ m : Nat) : Int) := by push_cast; rfl
  have h := bits_and_u64_nat (x / 2 ^ m) 1 (Nat.lt_of_le_of_lt (Nat.div_le_self _ _) hx) (by omega)
  rw [e, show ((1 : Int)) = ((1 : Nat) : Int) from rfl, h, Nat.and_one_is_mod, Nat.toNat_testBit]

set_option maxHeartbeats 2000000 in
theorem bit_any {w : World} {b : Nat} {f : Nat → Nat} (h : ExAt w b f) (hf : ∀ j, f j < 18446744073709551616) (i : Nat) (hi : i < 2304) :
    Calls Tryz.prog 64 #[.pointer (some ⟨b, 0, none⟩), .int .i64 (i : Int)] w fun e w' => e = .returned (.int .u64 (((V36 f).testBit i).toNat : Int)) ∧ w' = w := by
  have hb := v_bit hf i hi
  have t1 : ((i : Int)).tdiv 64 = ((i / 64 : Nat) : Int) := by rw [Int.tdiv_eq_ediv_of_nonneg (by omega)]; omega
  have t2 : ((i : Int)).tmod 64 = ((i % 64 : Nat) : Int) := by rw [Int.tmod_eq_emod_of_nonneg (by omega)]; omega
  have hq : i / 64 < 36 := by omega
  have hr : i % 64 < 64 := by omega
  generalize i / 64 = q at *
  generalize i % 64 = r at *
  have c := h.cell hq
  have ha := fand_one (f q) r (hf q)
  rw [hb] at ha
  have HA := Lib.hid ha
  generalize f q = x at *
  generalize (V36 f).testBit i = bb at *
  clear h hf hb ha
  go_enter Tryz.func64, Tryz.ntmps64
  go_wp2_with fail
  go_ret
  refine ⟨?_, rfl⟩
  rw [← HA.out]
  rfl

theorem shift_step (V m t : Nat) : (V >>> m) % 2 ^ (t + 1) = 2 * ((V >>> (m + 1)) % 2 ^ t) + (V.testBit m).toNat := by
  rw [Nat.shiftRight_succ, Nat.pow_succ, Nat.mul_comm (2 ^ t) 2, Nat.mod_mul, Nat.toNat_testBit, Nat.shiftRight_eq_div_pow]
  omega
theorem or_bit (x : Nat) (bb : Bool) (hx : x < 9223372036854775808) : bits BinOp.or IntKind.u64 ((x : Int) * 2) (bb.toNat : Int) = ((2 * x + bb.toNat : Nat) : Int) := by
  have e : (x : Int) * 2 = ((2 * x : Nat) : Int) := by omega
  have hb : bb.toNat < 2 := by cases bb <;> decide
  rw [e, bits_or_u64_nat (2 * x) bb.toNat (by omega) (by omega)]
  congr 1
  have := Nat.two_pow_add_eq_or_of_lt (i := 1) (b := bb.toNat) (by simpa using hb) x
  simpa using this.symm

set_option maxRecDepth 100000 in
set_option maxHeartbeats 4000000 in
theorem from_any {w : World} {b : Nat} {f : Nat → Nat} (h : ExAt w b f) (hf : ∀ j, f j < 18446744073709551616) (i n : Nat) (hi : i + n ≤ 2304) (hn : n ≤ 63) :
    Calls Tryz.prog 63 #[.pointer (some ⟨b, 0, none⟩), .int .i64 (i : Int), .int .i64 (n : Int)] w fun e w' => e = .returned (.int .u64 (((V36 f >>> i) % 2 ^ n : Nat) : Int)) ∧ w' = w := by
  have HF := Lib.hid (And.intro h hf)
  clear h hf
  go_enter Tryz.func63, Tryz.ntmps63
  go_wp2_with fail
  go_loopg [7, 8] n (fun gq s7 s8 wx => ∃ (t m : Nat), gq + t = n ∧ m + t = i + n ∧ s7 = .int .u64 (((V36 f >>> m) % 2 ^ t : Nat) : Int) ∧ s8 = .int .i64 ((m : Int) - 1) ∧ w = wx)
  case atStart =>
    refine ⟨0, i + n, by omega, by omega, ?_, ?_, rfl⟩
    · rw [Nat.pow_zero, Nat.mod_one]; rfl
    · congr 1
  case round =>
    obtain ⟨t, m, hgt, hmt, rfl, rfl, rfl⟩ := hrel
    by_cases ht : t < n
    · obtain ⟨m', rfl⟩ : ∃ m', m = m' + 1 := ⟨m - 1, by omega⟩
      have hx : (V36 f >>> (m' + 1)) % 2 ^ t < 9223372036854775808 := Nat.lt_of_lt_of_le (Nat.mod_lt _ (Nat.pow_pos (by decide))) (Nat.le_trans (Nat.pow_le_pow_right (by decide) (by omega : t ≤ 63)) (by decide))
      have hs := shift_step (V36 f) m' t
      have HBIT := Lib.hid (bit_any HF.out.1 HF.out.2 m' (by omega))
      have ho := or_bit _ ((V36 f).testBit m') hx
      rw [← hs] at ho
      have em : (((m' + 1 : Nat) : Int) - 1) = (m' : Int) := by omega
      rw [em]
      have d1 : decide ((m' : Int) ≥ (i : Int)) = true := by rw [decide_eq_true_eq]; omega
      have HO := Lib.hid ho
      clear ho hs em
      generalize (V36 f >>> (m' + 1)) % 2 ^ t = x at *
      generalize (V36 f).testBit m' = bb at *
      go_wp2_with (go_at_call 64
                   refine HBIT.out.mono ?_
                   rintro e w2 ⟨rfl, rfl⟩)
      go_roundg (gk - 1)
      all_goals first | omega | skip
      case rel =>
        refine ⟨t + 1, m', by omega, by omega, ?_, rfl, rfl⟩
        rw [← HO.out]
    · obtain rfl : t = n := by omega
      obtain rfl : m = i := by omega
      have d1 : decide ((m : Int) - 1 ≥ (m : Int)) = false := by rw [decide_eq_false_iff_not]; omega
      go_wp2_with fail
      go_ret
      exact ⟨rfl, rfl⟩

theorem mod_bits {V n : Nat} : V % 2 ^ n = 0 ↔ ∀ j, j < n → V.testBit j = false := by
  constructor
  · intro h j hj
    have := Nat.testBit_mod_two_pow V n j
    rw [h, Nat.zero_testBit] at this
    simpa [hj] using this.symm
  · intro h
    apply Nat.eq_of_testBit_eq
    intro j
    rw [Nat.testBit_mod_two_pow, Nat.zero_testBit]
    by_cases hj : j < n
    · simp [hj, h j hj]
    · simp [hj]

set_option maxRecDepth 100000 in
set_option maxHeartbeats 4000000 in
theorem some_any {w : World} {b : Nat} {f : Nat → Nat} (h : ExAt w b f) (hf : ∀ j, f j < 18446744073709551616) (n : Nat) (hn : n ≤ 2304) :
    Calls Tryz.prog 65 #[.pointer (some ⟨b, 0, none⟩), .int .i64 (n : Int)] w fun e w' => e = .returned (.bool (decide (V36 f % 2 ^ n ≠ 0))) ∧ w' = w := by
  have HF := Lib.hid (And.intro h hf)
  have HZ := Lib.hid (mod_bits (V := V36 f) (n := n))
  clear h hf
  generalize hz : decide (V36 f % 2 ^ n ≠ 0) = z
  have HZZ := Lib.hid hz
  clear hz
  go_enter Tryz.func65, Tryz.ntmps65
  go_wp2_with fail
  go_loopg [7] n (fun gq s7 wx => ∃ (k : Nat), gq + k = n ∧ s7 = .int .i64 (k : Int) ∧ w = wx ∧ Hid (∀ j, j < k → (V36 f).testBit j = false))
  case atStart => exact ⟨0, by omega, rfl, rfl, fun j hj => absurd hj (by omega)⟩
  case round =>
    obtain ⟨k, hgk, rfl, rfl, HK⟩ := hrel
    by_cases hk : k < n
    · have HBIT := Lib.hid (bit_any HF.out.1 HF.out.2 k (by omega))
      rcases hb : (V36 f).testBit k with _ | _
      · rw [hb] at HBIT
        have HB := Lib.hid hb
        clear hb
        go_wp2_with (go_at_call 64
                     refine HBIT.out.mono ?_
                     rintro e w2 ⟨rfl, rfl⟩)
        go_roundg (gk - 1)
        all_goals first | omega | exact ⟨k + 1, by omega, rfl, rfl, fun j hj => by
          rcases Nat.lt_succ_iff_lt_or_eq.1 hj with h | rfl
          · exact HK.out j h
          · exact HB.out⟩
      · rw [hb] at HBIT
        have hzt : z = true := by
          rw [← HZZ.out, decide_eq_true_eq]
          intro h
          have := HZ.out.1 h k hk
          rw [hb] at this; cases this
        subst hzt
        clear hb
        go_wp2_with (go_at_call 64
                     refine HBIT.out.mono ?_
                     rintro e w2 ⟨rfl, rfl⟩)
        go_ret
        exact ⟨rfl, rfl⟩
    · obtain rfl : k = n := by omega
      have hzf : z = false := by
        rw [← HZZ.out, decide_eq_false_iff_not]
        intro h
        exact h (HZ.out.2 HK.out)
      subst hzf
      go_wp2_with fail
      go_ret
      exact ⟨rfl, rfl⟩

theorem bitLenAux_len : ∀ (g x : Nat), x < 2 ^ g → Len x (Lib.bitLenAux g x)
  | 0, x, h => by
    have : x = 0 := by simpa using h
    subst this
    exact len_zero
  | g + 1, x, h => by
    unfold Lib.bitLenAux
    by_cases hx : x = 0
    · rw [if_pos hx, hx]; exact len_zero
    · rw [if_neg hx]
      have ih := bitLenAux_len g (x / 2) (by rw [Nat.pow_succ] at h; omega)
      generalize Lib.bitLenAux g (x / 2) = m at *
      obtain ⟨h1, h2⟩ := ih
      refine ⟨?_, fun _ => ?_⟩
      · rw [Nat.add_comm, Nat.pow_succ]; omega
      · rw [Nat.add_sub_cancel_left]
        rcases Nat.eq_zero_or_pos m with rfl | hm
        · simp; omega
        · have h3 := h2 hm
          obtain ⟨m', rfl⟩ : ∃ m', m = m' + 1 := ⟨m - 1, by omega⟩
          rw [Nat.add_sub_cancel] at h3
          rw [Nat.pow_succ]; omega
theorem bitLen_len (x : Nat) (h : x < 18446744073709551616) : Len x (Lib.bitLen x) := bitLenAux_len 64 x (by rw [two64]; exact h)
set_option maxRecDepth 100000 in
set_option maxHeartbeats 4000000 in
theorem length_any {w : World} {b : Nat} {f : Nat → Nat} (h : ExAt w b f) (hf : ∀ j, f j < 18446744073709551616) :
    Calls Tryz.prog 62 #[.pointer (some ⟨b, 0, none⟩)] w fun e w' => e = .returned (.int .i64 ((lenN (V36 f) : Nat) : Int)) ∧ w' = w := by
  have HF := Lib.hid (And.intro h hf)
  clear h hf
  generalize hN : lenN (V36 f) = N
  have HN := Lib.hid hN
  clear hN
  go_enter Tryz.func62, Tryz.ntmps62
  go_wp2_with fail
  go_loopg [3] 36 (fun gq s3 wx => s3 = .int .i64 ((gq : Int) - 1) ∧ w = wx ∧ Hid (gq ≤ 36 ∧ ∀ j, gq ≤ j → j < 36 → f j = 0))
  case atStart => exact ⟨rfl, rfl, Nat.le_refl _, fun j h1 h2 => absurd h2 (by omega)⟩
  case round =>
    obtain ⟨rfl, rfl, HK⟩ := hrel
    rcases Nat.eq_zero_or_pos gk with hz | hz
    · subst hz
      have hn0 : N = 0 := by
        rw [← HN.out]
        apply len_lenN
        have : V36 f = 0 := by
          unfold V36
          rw [wv_congr (g := fun _ => 0) (fun i hi => HK.out.2 i (by omega) hi), wv_zero]
        rw [this]; exact len_zero
      subst hn0
      go_wp2_with fail
      go_ret
      exact ⟨rfl, rfl⟩
    · obtain ⟨k, rfl⟩ : ∃ k, gk = k + 1 := ⟨gk - 1, by omega⟩
      have hk36 : k < 36 := by have := HK.out.1; omega
      have em : (((k + 1 : Nat) : Int) - 1) = (k : Int) := by omega
      rw [em]
      clear em
      have c := HF.out.1.cell hk36
      by_cases hx : f k = 0
      · rw [hx] at c
        have HX := Lib.hid hx
        clear hx
        go_wp2_with fail
        go_roundg k
        all_goals first | omega | exact ⟨rfl, rfl, by omega, fun j h1 h2 => by
          rcases Nat.eq_or_lt_of_le h1 with rfl | h
          · exact HX.out
          · exact HK.out.2 j (by omega) h2⟩
      · have hlN : N = 64 * k + Lib.bitLen (f k) := by
          rw [← HN.out]
          apply len_lenN
          have hl := bitLen_len (f k) (HF.out.2 k)
          have hp : 0 < Lib.bitLen (f k) := by
            rcases Nat.eq_zero_or_pos (Lib.bitLen (f k)) with h | h
            · have := hl.1
              rw [h] at this
              omega
            · exact h
          have := len_words (k := 64) (f := f) (n := 36) (fun j _ => by rw [two64]; exact HF.out.2 j) hk36 (fun j h1 h2 => HK.out.2 j (by omega) h2) hl hp
          rw [two64] at this
          exact this
        have HLEN := Lib.hid (Tryz.bits_Len64 ((f k : Nat) : Int) w (by omega) (by have := HF.out.2 k; omega))
        have hll : Lib.bitLen (f k) ≤ 64 := by
          have := bitLen_len (f k) (HF.out.2 k)
          rcases Nat.lt_or_ge 64 (Lib.bitLen (f k)) with h | h
          · have h1 := this.2 (by omega)
            have h2 : 2 ^ 64 ≤ 2 ^ (Lib.bitLen (f k) - 1) := Nat.pow_le_pow_right (by decide) (by omega)
            have h3 := HF.out.2 k
            rw [two64] at h2
            omega
          · exact h
        have hx' : (((f k : Nat) : Int) != 0) = true := by rw [bne_iff_ne]; omega
        rw [Int.toNat_natCast] at HLEN
        generalize f k = x at *
        generalize Lib.bitLen x = L at *
        have HLN := Lib.hid hlN
        clear hlN hx
        go_wp2_with (go_at_call 71
                     refine HLEN.out.mono ?_
                     rintro e w2 ⟨rfl, rfl⟩)
        go_ret
        refine ⟨?_, rfl⟩
        rw [HLN.out]
        have e : (k : Int) * 64 + (L : Int) = ((64 * k + L : Nat) : Int) := by omega
        rw [← e]
        rfl
end Go.Proofs.YtipkiiblghnoiaaGreatDoor.Sm
