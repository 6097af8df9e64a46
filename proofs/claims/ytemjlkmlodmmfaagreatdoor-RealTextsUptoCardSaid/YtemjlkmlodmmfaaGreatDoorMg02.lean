/- Package real: exact sums in memory: bit, from, some, length. By an AI agent. -/
import Derived.Test.YtemjlkmlodmmfaaGreatDoorMg01
import Derived.Test.YtemjlkmlodmmfaaGreatDoorMg00
namespace Go.Proofs.YtemjlkmlodmmfaaGreatDoor.Sm
open Go.ChangeShapes Go.WideShapes Go.ChangeAt Go.RowKit
set_option linter.unusedVariables false
set_option linter.unusedSimpArgs false

/-- An exact number's value. -/
def V36 (f : Nat → Nat) : Nat := wv 18446744073709551616 f 36
theorem two64 : (2 : Nat) ^ 64 = 18446744073709551616 := by decide
theorem v_bit {f : Nat → Nat} (hf : ∀ j, f j < 18446744073709551616) (i : Nat) (hi : i < 2304) : (f (i / 64)).testBit (i % 64) = (V36 f).testBit i := by
  have h := wv_bit (k := 64) (f := f) (n := 36) (by omega) (fun j _ => by rw [two64]; exact hf j) i (by omega)
  rw [two64] at h
  exact h
theorem fand_one (x m : Nat) (hx : x < 18446744073709551616) : bits BinOp.and IntKind.u64 ((x : Int) / 2 ^ m) 1 = ((x.testBit m).toNat : Int) := by
  have e : ((x : Int) / 2 ^ m) = ((x / 2 ^ m : Nat) : Int) := by push_cast; rfl
  have h := bits_and_u64_nat (x / 2 ^ m) 1 (Nat.lt_of_le_of_lt (Nat.div_le_self _ _) hx) (by omega)
  rw [e, show ((1 : Int)) = ((1 : Nat) : Int) from rfl, h, Nat.and_one_is_mod, Nat.toNat_testBit]

set_option maxHeartbeats 2000000 in
theorem bit_any {w : World} {b : Nat} {f : Nat → Nat} (h : ExAt w b f) (hf : ∀ j, f j < 18446744073709551616) (i : Nat) (hi : i < 2304) :
    Calls Tryz.prog 42 #[.pointer (some ⟨b, 0, none⟩), .int .i64 (i : Int)] w fun e w' => e = .returned (.int .u64 (((V36 f).testBit i).toNat : Int)) ∧ w' = w := by
  have hb := v_bit hf i hi
  have t1 : ((i : Int)).tdiv 64 = ((i / 64 : Nat) : Int) := by rw [Int.tdiv_eq_ediv_of_nonneg (by omega)]; omega
  have t2 : ((i : Int)).tmod 64 = ((i % 64 : Nat) : Int) := by rw [Int.tmod_eq_emod_of_nonneg (by omega)]; omega
  have hq : i / 64 < 36 := by omega
  have hr : i % 64 < 64 := by omega
  generalize i / 64 = q at *
  generalize i % 64 = r at *
  have c := h.cell hq
  have ha := fand_one (f q) r (hf q)
  rw [hb] at ha
  have HA := Lib.hid ha
  generalize f q = x at *
  generalize (V36 f).testBit i = bb at *
  clear h hf hb ha
  go_enter Tryz.func42, Tryz.ntmps42
  go_wp2_with fail
  go_ret
  refine ⟨?_, rfl⟩
  rw [← HA.out]
  rfl

theorem shift_step (V m t : Nat) : (V >>> m) % 2 ^ (t + 1) = 2 * ((V >>> (m + 1)) % 2 ^ t) + (V.testBit m).toNat := by
  rw [Nat.shiftRight_succ, Nat.pow_succ, Nat.mul_comm (2 ^ t) 2, Nat.mod_mul, Nat.toNat_testBit, Nat.shiftRight_eq_div_pow]
  omega
theorem or_bit (x : Nat) (bb : Bool) (hx : x < 9223372036854775808) : bits BinOp.or IntKind.u64 ((x : Int) * 2) (bb.toNat : Int) = ((2 * x + bb.toNat : Nat) : Int) := by
  have e : (x : Int) * 2 = ((2 * x : Nat) : Int) := by omega
  have hb : bb.toNat < 2 := by cases bb <;> decide
  rw [e, bits_or_u64_nat (2 * x) bb.toNat (by omega) (by omega)]
  congr 1
  have := Nat.two_pow_add_eq_or_of_lt (i := 1) (b := bb.toNat) (by simpa using hb) x
  simpa using this.symm

set_option maxRecDepth 100000 in
set_option maxHeartbeats 4000000 in
theorem from_any {w : World} {b : Nat} {f : Nat → Nat} (h : ExAt w b f) (hf : ∀ j, f j < 18446744073709551616) (i n : Nat) (hi : i + n ≤ 2304) (hn : n ≤ 63) :
    Calls Tryz.prog 41 #[.pointer (some ⟨b, 0, none⟩), .int .i64 (i : Int), .int .i64 (n : Int)] w fun e w' => e = .returned (.int .u64 (((V36 f >>> i) % 2 ^ n : Nat) : Int)) ∧ w' = w := by
  have HF := Lib.hid (And.intro h hf)
  clear h hf
  go_enter Tryz.func41, Tryz.ntmps41
  go_wp2_with fail
  go_loopg [7, 8] n (fun gq s7 s8 wx => ∃ (t m : Nat), gq + t = n ∧ m + t = i + n ∧ s7 = .int .u64 (((V36 f >>> m) % 2 ^ t : Nat) : Int) ∧ s8 = .int .i64 ((m : Int) - 1) ∧ w = wx)
  case atStart =>
    refine ⟨0, i + n, by omega, by omega, ?_, ?_, rfl⟩
    · rw [Nat.pow_zero, Nat.mod_one]; rfl
    · congr 1
  case round =>
    obtain ⟨t, m, hgt, hmt, rfl, rfl, rfl⟩ := hrel
    by_cases ht : t < n
    · obtain ⟨m', rfl⟩ : ∃ m', m = m' + 1 := ⟨m - 1, by omega⟩
      have hx : (V36 f >>> (m' + 1)) % 2 ^ t < 9223372036854775808 := Nat.lt_of_lt_of_le (Nat.mod_lt _ (Nat.pow_pos (by decide))) (Nat.le_trans (Nat.pow_le_pow_right (by decide) (by omega : t ≤ 63)) (by decide))
      have hs := shift_step (V36 f) m' t
      have HBIT := Lib.hid (bit_any HF.out.1 HF.out.2 m' (by omega))
      have ho := or_bit _ ((V36 f).testBit m') hx
      rw [← hs] at ho
      have em : (((m' + 1 : Nat) : Int) - 1) = (m' : Int) := by omega
      rw [em]
      have d1 : decide ((m' : Int) ≥ (i : Int)) = true := by rw [decide_eq_true_eq]; omega
      have HO := Lib.hid ho
      clear ho hs em
      generalize (V36 f >>> (m' + 1)) % 2 ^ t = x at *
      generalize (V36 f).testBit m' = bb at *
      go_wp2_with (go_at_call 42
                   refine HBIT.out.mono ?_
                   rintro e w2 ⟨rfl, rfl⟩)
      go_roundg (gk - 1)
      all_goals first | omega | skip
      case rel =>
        refine ⟨t + 1, m', by omega, by omega, ?_, rfl, rfl⟩
        rw [← HO.out]
    · obtain rfl : t = n := by omega
      obtain rfl : m = i := by omega
      have d1 : decide ((m : Int) - 1 ≥ (m : Int)) = false := by rw [decide_eq_false_iff_not]; omega
      go_wp2_with fail
      go_ret
      exact ⟨rfl, rfl⟩

theorem mod_bits {V n : Nat} : V % 2 ^ n = 0 ↔ ∀ j, j < n → V.testBit j = false := by
  constructor
  · intro h j hj
    have := Nat.testBit_mod_two_pow V n j
    rw [h, Nat.zero_testBit] at this
    simpa [hj] using this.symm
  · intro h
    apply Nat.eq_of_testBit_eq
    intro j
    rw [Nat.testBit_mod_two_pow, Nat.zero_testBit]
    by_cases hj : j < n
    · simp [hj, h j hj]
    · simp [hj]

set_option maxRecDepth 100000 in
set_option maxHeartbeats 4000000 in
theorem some_any {w : World} {b : Nat} {f : Nat → Nat} (h : ExAt w b f) (hf : ∀ j, f j < 18446744073709551616) (n : Nat) (hn : n ≤ 2304) :
    Calls Tryz.prog 43 #[.pointer (some ⟨b, 0, none⟩), .int .i64 (n : Int)] w fun e w' => e = .returned (.bool (decide (V36 f % 2 ^ n ≠ 0))) ∧ w' = w := by
  have HF := Lib.hid (And.intro h hf)
  have HZ := Lib.hid (mod_bits (V := V36 f) (n := n))
  clear h hf
  generalize hz : decide (V36 f % 2 ^ n ≠ 0) = z
  have HZZ := Lib.hid hz
  clear hz
  go_enter Tryz.func43, Tryz.ntmps43
  go_wp2_with fail
  go_loopg [7] n (fun gq s7 wx => ∃ (k : Nat), gq + k = n ∧ s7 = .int .i64 (k : Int) ∧ w = wx ∧ Hid (∀ j, j < k → (V36 f).testBit j = false))
  case atStart => exact ⟨0, by omega, rfl, rfl, fun j hj => absurd hj (by omega)⟩
  case round =>
    obtain ⟨k, hgk, rfl, rfl, HK⟩ := hrel
    by_cases hk : k < n
    · have HBIT := Lib.hid (bit_any HF.out.1 HF.out.2 k (by omega))
      rcases hb : (V36 f).testBit k with _ | _
      · rw [hb] at HBIT
        have HB := Lib.hid hb
        clear hb
        go_wp2_with (go_at_call 42
                     refine HBIT.out.mono ?_
                     rintro e w2 ⟨rfl, rfl⟩)
        go_roundg (gk - 1)
        all_goals first | omega | exact ⟨k + 1, by omega, rfl, rfl, fun j hj => by
          rcases Nat.lt_succ_iff_lt_or_eq.1 hj with h | rfl
          · exact HK.out j h
          · exact HB.out⟩
      · rw [hb] at HBIT
        have hzt : z = true := by
          rw [← HZZ.out, decide_eq_true_eq]
          intro h
          have := HZ.out.1 h k hk
          rw [hb] at this; cases this
        subst hzt
        clear hb
        go_wp2_with (go_at_call 42
                     refine HBIT.out.mono ?_
                     rintro e w2 ⟨rfl, rfl⟩)
        go_ret
        exact ⟨rfl, rfl⟩
    · obtain rfl : k = n := by omega
      have hzf : z = false := by
        rw [← HZZ.out, decide_eq_false_iff_not]
        intro h
        exact h (HZ.out.2 HK.out)
      subst hzf
      go_wp2_with fail
      go_ret
      exact ⟨rfl, rfl⟩

theorem bitLenAux_len : ∀ (g x : Nat), x < 2 ^ g → Len x (Lib.bitLenAux g x)
  | 0, x, h => by
    have : x = 0 := by simpa using h
    subst this
    exact len_zero
  | g + 1, x, h => by
    unfold Lib.bitLenAux
    by_cases hx : x = 0
    · rw [if_pos hx, hx]; exact len_zero
    · rw [if_neg hx]
      have ih := bitLenAux_len g (x / 2) (by rw [Nat.pow_succ] at h; omega)
      generalize Lib.bitLenAux g (x / 2) = m at *
      obtain ⟨h1, h2⟩ := ih
      refine ⟨?_, fun _ => ?_⟩
      · rw [Nat.add_comm, Nat.pow_succ]; omega
      · rw [Nat.add_sub_cancel_left]
        rcases Nat.eq_zero_or_pos m with rfl | hm
        · simp; omega
        · have h3 := h2 hm
          obtain ⟨m', rfl⟩ : ∃ m', m = m' + 1 := ⟨m - 1, by omega⟩
          rw [Nat.add_sub_cancel] at h3
          rw [Nat.pow_succ]; omega
theorem bitLen_len (x : Nat) (h : x < 18446744073709551616) : Len x (Lib.bitLen x) := bitLenAux_len 64 x (by rw [two64]; exact h)
set_option maxRecDepth 100000 in
set_option maxHeartbeats 4000000 in
theorem length_any {w : World} {b : Nat} {f : Nat → Nat} (h : ExAt w b f) (hf : ∀ j, f j < 18446744073709551616) :
    Calls Tryz.prog 40 #[.pointer (some ⟨b, 0, none⟩)] w fun e w' => e = .returned (.int .i64 ((lenN (V36 f) : Nat) : Int)) ∧ w' = w := by
  have HF := Lib.hid (And.intro h hf)
  clear h hf
  generalize hN : lenN (V36 f) = N
  have HN := Lib.hid hN
  clear hN
  go_enter Tryz.func40, Tryz.ntmps40
  go_wp2_with fail
  go_loopg [3] 36 (fun gq s3 wx => s3 = .int .i64 ((gq : Int) - 1) ∧ w = wx ∧ Hid (gq ≤ 36 ∧ ∀ j, gq ≤ j → j < 36 → f j = 0))
  case atStart => exact ⟨rfl, rfl, Nat.le_refl _, fun j h1 h2 => absurd h2 (by omega)⟩
  case round =>
    obtain ⟨rfl, rfl, HK⟩ := hrel
    rcases Nat.eq_zero_or_pos gk with hz | hz
    · subst hz
      have hn0 : N = 0 := by
        rw [← HN.out]
        apply len_lenN
        have : V36 f = 0 := by
          unfold V36
          rw [wv_congr (g := fun _ => 0) (fun i hi => HK.out.2 i (by omega) hi), wv_zero]
        rw [this]; exact len_zero
      subst hn0
      go_wp2_with fail
      go_ret
      exact ⟨rfl, rfl⟩
    · obtain ⟨k, rfl⟩ : ∃ k, gk = k + 1 := ⟨gk - 1, by omega⟩
      have hk36 : k < 36 := by have := HK.out.1; omega
      have em : (((k + 1 : Nat) : Int) - 1) = (k : Int) := by omega
      rw [em]
      clear em
      have c := HF.out.1.cell hk36
      by_cases hx : f k = 0
      · rw [hx] at c
        have HX := Lib.hid hx
        clear hx
        go_wp2_with fail
        go_roundg k
        all_goals first | omega | exact ⟨rfl, rfl, by omega, fun j h1 h2 => by
          rcases Nat.eq_or_lt_of_le h1 with rfl | h
          · exact HX.out
          · exact HK.out.2 j (by omega) h2⟩
      · have hlN : N = 64 * k + Lib.bitLen (f k) := by
          rw [← HN.out]
          apply len_lenN
          have hl := bitLen_len (f k) (HF.out.2 k)
          have hp : 0 < Lib.bitLen (f k) := by
            rcases Nat.eq_zero_or_pos (Lib.bitLen (f k)) with h | h
            · have := hl.1
              rw [h] at this
              omega
            · exact h
          have := len_words (k := 64) (f := f) (n := 36) (fun j _ => by rw [two64]; exact HF.out.2 j) hk36 (fun j h1 h2 => HK.out.2 j (by omega) h2) hl hp
          rw [two64] at this
          exact this
        have HLEN := Lib.hid (Tryz.bits_Len64 ((f k : Nat) : Int) w (by omega) (by have := HF.out.2 k; omega))
        have hll : Lib.bitLen (f k) ≤ 64 := by
          have := bitLen_len (f k) (HF.out.2 k)
          rcases Nat.lt_or_ge 64 (Lib.bitLen (f k)) with h | h
          · have h1 := this.2 (by omega)
            have h2 : 2 ^ 64 ≤ 2 ^ (Lib.bitLen (f k) - 1) := Nat.pow_le_pow_right (by decide) (by omega)
            have h3 := HF.out.2 k
            rw [two64] at h2
            omega
          · exact h
        have hx' : (((f k : Nat) : Int) != 0) = true := by rw [bne_iff_ne]; omega
        rw [Int.toNat_natCast] at HLEN
        generalize f k = x at *
        generalize Lib.bitLen x = L at *
        have HLN := Lib.hid hlN
        clear hlN hx
        go_wp2_with (go_at_call 51
                     refine HLEN.out.mono ?_
                     rintro e w2 ⟨rfl, rfl⟩)
        go_ret
        refine ⟨?_, rfl⟩
        rw [HLN.out]
        have e : (k : Int) * 64 + (L : Int) = ((64 * k + L : Nat) : Int) := by omega
        rw [← e]
        rfl
end Go.Proofs.YtemjlkmlodmmfaaGreatDoor.Sm

/- Package real: exact sums: the number that lies nearest. By an AI agent. -/
namespace Go.Proofs.YtemjlkmlodmmfaaGreatDoor.Sm
open Go.ChangeShapes Go.WideShapes Go.ChangeAt Go.RowKit
set_option linter.unusedVariables false
set_option linter.unusedSimpArgs false

theorem andNot_norm (d : Nat) (h : d < 9007199254740992) : bits BinOp.andNot IntKind.u64 (d : Int) 4503599627370496 = ((d % 4503599627370496 : Nat) : Int) := by
  have h1 : (BitVec.ofInt 64 (d : Int)).toNat = d := by rw [BitVec.ofInt_natCast, BitVec.toNat_ofNat]; omega
  have h2 : (~~~ (BitVec.ofInt 64 4503599627370496)).toNat = 18442240474082181119 := by decide
  show IntKind.u64.wrap ((BitVec.ofInt 64 (d : Int) &&& ~~~ BitVec.ofInt 64 4503599627370496).toNat : Int) = _
  have h3 : d &&& 18442240474082181119 = d % 2 ^ 52 := by
    apply Nat.eq_of_testBit_eq
    intro j
    rw [Nat.testBit_and, Nat.testBit_mod_two_pow]
    by_cases hj : j < 52
    · have hc : (18442240474082181119 : Nat).testBit j = true := by
        have : ∀ j : Fin 52, (18442240474082181119 : Nat).testBit j.val = true := by decide
        exact this ⟨j, hj⟩
      rw [hc]; simp [hj]
    · by_cases hj2 : j = 52
      · subst hj2
        have hc : (18442240474082181119 : Nat).testBit 52 = false := by decide
        rw [hc]; simp
      · have hc : d.testBit j = false := Nat.testBit_lt_two_pow (Nat.lt_of_lt_of_le (show d < 2 ^ 53 by omega) (Nat.pow_le_pow_right (by decide) (by omega)))
        rw [hc]; simp
  rw [BitVec.toNat_and, h1, h2, h3, IntKind.wrap_u64]
  omega
theorem or_pack (p d : Nat) (hp : p < 4096) (hd : d < 4503599627370496) : bits BinOp.or IntKind.u64 ((p : Int) * 4503599627370496) (d : Int) = ((p * 4503599627370496 + d : Nat) : Int) := by
  have e : (p : Int) * 4503599627370496 = ((4503599627370496 * p : Nat) : Int) := by omega
  rw [e, bits_or_u64_nat (4503599627370496 * p) d (by omega) (by omega)]
  congr 1
  have := Nat.two_pow_add_eq_or_of_lt (i := 52) (b := d) (by omega) p
  rw [show (2 : Nat) ^ 52 = 4503599627370496 by decide] at this
  rw [← this]
  omega

theorem and_low1 (d : Nat) (h : d < 18446744073709551616) : bits BinOp.and IntKind.u64 (d : Int) 1 = ((d % 2 : Nat) : Int) := by
  have := bits_and_u64_nat d 1 h (by omega)
  rw [show ((1 : Nat) : Int) = 1 from rfl] at this
  rw [this, Nat.and_one_is_mod]

/-- The digits, and how far: rounded. -/
theorem round_parts {V n : Nat} (hl : lenN V = n) (hn : 53 < n) : roundB V = (let d := digR V (n - 53); let d2 := if d = 9007199254740992 then 4503599627370496 else d; let b2 := if d = 9007199254740992 then n - 53 + 1 else n - 53; if b2 + 1 ≥ 2047 then 9218868437227405312 else (b2 + 1) * 4503599627370496 + (d2 - 4503599627370496)) := by
  unfold roundB
  rw [hl]
  simp only
  rw [if_neg (by omega)]
theorem round_small {V n : Nat} (hl : lenN V = n) (hn : n ≤ 53) : roundB V = V := by
  unfold roundB
  rw [hl]
  simp only
  rw [if_pos hn]

theorem v_lt {f : Nat → Nat} (hf : ∀ j, f j < 18446744073709551616) : V36 f < 18446744073709551616 ^ 36 := wv_lt (by decide) (fun i _ => hf i)
theorem len36 {f : Nat → Nat} (hf : ∀ j, f j < 18446744073709551616) : lenN (V36 f) ≤ 2304 := by
  rcases Nat.lt_or_ge 2304 (lenN (V36 f)) with hx | hx
  · exfalso
    have h1 := (lenN_len (V36 f)).2 (Nat.lt_of_le_of_lt (Nat.zero_le _) hx)
    have h2 := v_lt hf
    obtain ⟨k, hk⟩ : ∃ k, lenN (V36 f) - 1 = k + 64 * 36 := ⟨lenN (V36 f) - 1 - 64 * 36, by clear h1 h2; omega⟩
    rw [hk, pow_word] at h1
    have h3 := Nat.mul_le_mul_right (18446744073709551616 ^ 36) (Nat.one_le_two_pow (n := k))
    rw [Nat.one_mul] at h3
    exact absurd (Nat.le_trans h3 h1) (Nat.not_le.2 h2)
  · exact hx
theorem small36 {f : Nat → Nat} (hf : ∀ j, f j < 18446744073709551616) (hs : lenN (V36 f) ≤ 53) : roundB (V36 f) = f 0 := by
  rw [round_small rfl hs]
  have hlt : V36 f < 2 ^ 53 := Nat.lt_of_lt_of_le (lenN_len (V36 f)).1 (Nat.pow_le_pow_right (by decide) hs)
  have hw := wv_word (B := 18446744073709551616) (f := f) (n := 36) (by decide) (fun i _ => hf i) 0 (by decide)
  rw [Nat.pow_zero, Nat.div_one] at hw
  rw [← hw]
  exact (Nat.mod_eq_of_lt (Nat.lt_trans hlt (by decide))).symm
theorem digR_split {V by_ b1 : Nat} (hb : by_ = b1 + 1) : digR V by_ = if V.testBit b1 = true ∧ ((V >>> by_) % 2 = 1 ∨ V % 2 ^ b1 ≠ 0) then V >>> by_ + 1 else V >>> by_ := by
  subst hb
  rfl

set_option maxRecDepth 100000 in
set_option maxHeartbeats 4000000 in
theorem nearest_any {w : World} {b : Nat} {f : Nat → Nat} (h : ExAt w b f) (hf : ∀ j, f j < 18446744073709551616) :
    Calls Tryz.prog 31 #[.pointer (some ⟨b, 0, none⟩)] w fun e w' => e = .returned (.int .u64 ((roundB (V36 f) : Nat) : Int)) ∧ w' = w := by
  have HF := Lib.hid (And.intro h hf)
  have hlen := length_any h hf
  have c0 := h.cell (i := 0) (by omega)
  clear h hf
  have hL := lenN_len (V36 f)
  have hn36 := len36 HF.out.2
  have HLEN := Lib.hid hlen
  clear hlen
  generalize hn : lenN (V36 f) = n at *
  have HN := Lib.hid (And.intro hL hn)
  by_cases hs : n ≤ 53
  · have hr := small36 HF.out.2 (by rw [hn]; exact hs)
    rw [hr]
    clear hL hn hr
    have d1 : decide ((n : Int) ≤ 53) = true := by rw [decide_eq_true_eq]; omega
    go_enter Tryz.func31, Tryz.ntmps31
    go_wp2_with (go_at_call 40
                 refine HLEN.out.mono ?_
                 rintro e w2 ⟨rfl, rfl⟩)
    go_ret
    exact ⟨rfl, rfl⟩
  · have hn53 : 53 < n := by omega
    obtain ⟨by_, hby⟩ : ∃ x, n = x + 53 := ⟨n - 53, by omega⟩
    have hdr := dig_range hL hn53
    have hrr := digR_range hL hn53
    have hrp := round_parts hn hn53
    rw [show n - 53 = by_ by omega] at hdr hrr hrp
    obtain ⟨b1, hb1⟩ : ∃ x, by_ = x + 1 := ⟨by_ - 1, by omega⟩
    have HFR := Lib.hid (from_any HF.out.1 HF.out.2 by_ 53 (by omega) (by omega))
    rw [Nat.mod_eq_of_lt hdr.2] at HFR
    have HBI := Lib.hid (bit_any HF.out.1 HF.out.2 b1 (by omega))
    have HSO := Lib.hid (some_any HF.out.1 HF.out.2 b1 (by omega))
    have hdg := digR_split (V := V36 f) hb1
    rw [show ((53 : Nat) : Int) = 53 from rfl] at HFR
    generalize V36 f >>> by_ = d at *
    generalize (V36 f).testBit b1 = tb at *
    generalize digR (V36 f) by_ = dr at *
    have ez : ∀ z : Bool, decide (V36 f % 2 ^ b1 ≠ 0) = z → (V36 f % 2 ^ b1 ≠ 0 ↔ z = true) := fun z hz => by rw [← hz, decide_eq_true_eq]
    obtain ⟨z, hz⟩ : ∃ z, decide (V36 f % 2 ^ b1 ≠ 0) = z := ⟨_, rfl⟩
    have hzz := ez z hz
    rw [hz] at HSO
    simp only [hzz] at hdg
    clear ez hz hzz hL hn c0
    generalize roundB (V36 f) = rb at *
    have HR := Lib.hid hrp
    have HD := Lib.hid (And.intro hdg (And.intro hdr hrr))
    clear hrp hdg hdr hrr
    have hby2 : by_ ≤ 2251 := by omega
    have hb12 : b1 < by_ := by omega
    have HBB := Lib.hid (And.intro hby hb1)
    have d1 : decide ((n : Int) ≤ 53) = false := by rw [decide_eq_false_iff_not]; omega
    have e1 : (n : Int) - 52 - 1 = (by_ : Int) := by omega
    have e2 : (by_ : Int) - 1 = (b1 : Int) := by omega
    clear hby hb1 hs
    rcases tb with _ | _
    · rw [show ((false.toNat : Nat) : Int) = 0 from rfl] at HBI
      have hdd : dr = d := by have := HD.out.1; simpa using this
      have hd53 := HD.out.2.1.2
      have hd52 := HD.out.2.1.1
      have g1 : ((d : Int) == 9007199254740992) = false := by rw [beq_eq_false_iff_ne]; omega
      by_cases ho : 2047 ≤ by_ + 1
      · have g2 : decide ((by_ : Int) + 1 ≥ 2047) = true := by rw [decide_eq_true_eq]; omega
        have hv : (9218868437227405312 : Int) = (rb : Int) := by
          have hr := HR.out
          rw [hdd] at hr
          simp only at hr
          simp only [if_neg (show ¬ d = 9007199254740992 by omega)] at hr; rw [if_pos ho] at hr
          omega
        have HV := Lib.hid hv
        clear hdd hd53 hd52 ho hv
        go_enter Tryz.func31, Tryz.ntmps31
        go_wp2_with (first
          | (go_at_call 40
             refine HLEN.out.mono ?_
             rintro e w2 ⟨rfl, rfl⟩)
          | (go_at_call 41
             refine HFR.out.mono ?_
             rintro e w3 ⟨rfl, rfl⟩)
          | (go_at_call 42
             refine HBI.out.mono ?_
             rintro e w4 ⟨rfl, rfl⟩)
          | (go_at_call 43
             refine HSO.out.mono ?_
             rintro e w5 ⟨rfl, rfl⟩))
        go_ret
        refine ⟨?_, rfl⟩
        rw [← HV.out]
        rfl
      · have g2 : decide ((by_ : Int) + 1 ≥ 2047) = false := by rw [decide_eq_false_iff_not]; omega
        have hv : bits BinOp.or IntKind.u64 (((by_ : Int) + 1) * 4503599627370496) (bits BinOp.andNot IntKind.u64 (d : Int) 4503599627370496) = (rb : Int) := by
          have hr := HR.out
          rw [hdd] at hr
          simp only at hr
          simp only [if_neg (show ¬ d = 9007199254740992 by omega)] at hr; rw [if_neg ho] at hr
          have := or_pack (by_ + 1) (d % 4503599627370496) (by omega) (by omega)
          rw [andNot_norm d (by omega), show ((by_ : Int) + 1) = ((by_ + 1 : Nat) : Int) by omega, this, hr]
          omega
        have HV := Lib.hid hv
        have ho' : by_ + 1 < 2047 := by omega
        clear hdd ho hv
        go_enter Tryz.func31, Tryz.ntmps31
        go_wp2_with (first
          | (go_at_call 40
             refine HLEN.out.mono ?_
             rintro e w2 ⟨rfl, rfl⟩)
          | (go_at_call 41
             refine HFR.out.mono ?_
             rintro e w3 ⟨rfl, rfl⟩)
          | (go_at_call 42
             refine HBI.out.mono ?_
             rintro e w4 ⟨rfl, rfl⟩)
          | (go_at_call 43
             refine HSO.out.mono ?_
             rintro e w5 ⟨rfl, rfl⟩))
        go_ret
        refine ⟨?_, rfl⟩
        rw [← HV.out]
        rfl
    · rw [show ((true.toNat : Nat) : Int) = 1 from rfl] at HBI
      rcases Nat.mod_two_eq_zero_or_one d with hpar | hpar
      · have g0 : bits BinOp.and IntKind.u64 (d : Int) 1 = 0 := by rw [and_low1 d (by have := HD.out.2.1.2; omega), hpar]; rfl
        rw [hpar] at HD
        clear hpar
        rcases z with _ | _
        · have hdd : dr = d := by have := HD.out.1; simpa using this
          have hd53 := HD.out.2.1.2
          have hd52 := HD.out.2.1.1
          have g1 : ((d : Int) == 9007199254740992) = false := by rw [beq_eq_false_iff_ne]; omega
          by_cases ho : 2047 ≤ by_ + 1
          · have g2 : decide ((by_ : Int) + 1 ≥ 2047) = true := by rw [decide_eq_true_eq]; omega
            have hv : (9218868437227405312 : Int) = (rb : Int) := by
              have hr := HR.out
              rw [hdd] at hr
              simp only at hr
              simp only [if_neg (show ¬ d = 9007199254740992 by omega)] at hr; rw [if_pos ho] at hr
              omega
            have HV := Lib.hid hv
            clear hdd hd53 hd52 ho hv
            go_enter Tryz.func31, Tryz.ntmps31
            go_wp2_with (first
              | (go_at_call 40
                 refine HLEN.out.mono ?_
                 rintro e w2 ⟨rfl, rfl⟩)
              | (go_at_call 41
                 refine HFR.out.mono ?_
                 rintro e w3 ⟨rfl, rfl⟩)
              | (go_at_call 42
                 refine HBI.out.mono ?_
                 rintro e w4 ⟨rfl, rfl⟩)
              | (go_at_call 43
                 refine HSO.out.mono ?_
                 rintro e w5 ⟨rfl, rfl⟩))
            go_ret
            refine ⟨?_, rfl⟩
            rw [← HV.out]
            rfl
          · have g2 : decide ((by_ : Int) + 1 ≥ 2047) = false := by rw [decide_eq_false_iff_not]; omega
            have hv : bits BinOp.or IntKind.u64 (((by_ : Int) + 1) * 4503599627370496) (bits BinOp.andNot IntKind.u64 (d : Int) 4503599627370496) = (rb : Int) := by
              have hr := HR.out
              rw [hdd] at hr
              simp only at hr
              simp only [if_neg (show ¬ d = 9007199254740992 by omega)] at hr; rw [if_neg ho] at hr
              have := or_pack (by_ + 1) (d % 4503599627370496) (by omega) (by omega)
              rw [andNot_norm d (by omega), show ((by_ : Int) + 1) = ((by_ + 1 : Nat) : Int) by omega, this, hr]
              omega
            have HV := Lib.hid hv
            have ho' : by_ + 1 < 2047 := by omega
            clear hdd ho hv
            go_enter Tryz.func31, Tryz.ntmps31
            go_wp2_with (first
              | (go_at_call 40
                 refine HLEN.out.mono ?_
                 rintro e w2 ⟨rfl, rfl⟩)
              | (go_at_call 41
                 refine HFR.out.mono ?_
                 rintro e w3 ⟨rfl, rfl⟩)
              | (go_at_call 42
                 refine HBI.out.mono ?_
                 rintro e w4 ⟨rfl, rfl⟩)
              | (go_at_call 43
                 refine HSO.out.mono ?_
                 rintro e w5 ⟨rfl, rfl⟩))
            go_ret
            refine ⟨?_, rfl⟩
            rw [← HV.out]
            rfl
        · have hdd : dr = d + 1 := by have := HD.out.1; simpa using this
          have hd53 := HD.out.2.1.2
          have hd52 := HD.out.2.1.1
          by_cases he : d + 1 = 9007199254740992
          · have g1 : ((d : Int) + 1 == 9007199254740992) = true := by rw [beq_iff_eq]; omega
            by_cases ho : 2047 ≤ by_ + 1 + 1
            · have g2 : decide ((by_ : Int) + 1 + 1 ≥ 2047) = true := by rw [decide_eq_true_eq]; omega
              have hv : (9218868437227405312 : Int) = (rb : Int) := by
                have hr := HR.out
                rw [hdd] at hr
                simp only at hr
                simp only [if_pos he] at hr; rw [if_pos ho] at hr
                omega
              have HV := Lib.hid hv
              clear hdd ho hv he
              go_enter Tryz.func31, Tryz.ntmps31
              go_wp2_with (first
                | (go_at_call 40
                   refine HLEN.out.mono ?_
                   rintro e w2 ⟨rfl, rfl⟩)
                | (go_at_call 41
                   refine HFR.out.mono ?_
                   rintro e w3 ⟨rfl, rfl⟩)
                | (go_at_call 42
                   refine HBI.out.mono ?_
                   rintro e w4 ⟨rfl, rfl⟩)
                | (go_at_call 43
                   refine HSO.out.mono ?_
                   rintro e w5 ⟨rfl, rfl⟩))
              go_ret
              refine ⟨?_, rfl⟩
              rw [← HV.out]
              rfl
            · have g2 : decide ((by_ : Int) + 1 + 1 ≥ 2047) = false := by rw [decide_eq_false_iff_not]; omega
              have hv : bits BinOp.or IntKind.u64 (((by_ : Int) + 1 + 1) * 4503599627370496) (bits BinOp.andNot IntKind.u64 4503599627370496 4503599627370496) = (rb : Int) := by
                have hr := HR.out
                rw [hdd] at hr
                simp only at hr
                simp only [if_pos he] at hr; rw [if_neg ho] at hr
                have := or_pack (by_ + 1 + 1) 0 (by omega) (by omega)
                have h2 := andNot_norm 4503599627370496 (by omega)
                rw [show ((4503599627370496 : Nat) : Int) = 4503599627370496 from rfl, show (4503599627370496 : Nat) % 4503599627370496 = 0 from rfl] at h2
                rw [h2, show ((by_ : Int) + 1 + 1) = ((by_ + 1 + 1 : Nat) : Int) by omega, this, hr]
                all_goals omega
              have HV := Lib.hid hv
              have ho' : by_ + 1 + 1 < 2047 := by omega
              clear hdd ho hv he
              go_enter Tryz.func31, Tryz.ntmps31
              go_wp2_with (first
                | (go_at_call 40
                   refine HLEN.out.mono ?_
                   rintro e w2 ⟨rfl, rfl⟩)
                | (go_at_call 41
                   refine HFR.out.mono ?_
                   rintro e w3 ⟨rfl, rfl⟩)
                | (go_at_call 42
                   refine HBI.out.mono ?_
                   rintro e w4 ⟨rfl, rfl⟩)
                | (go_at_call 43
                   refine HSO.out.mono ?_
                   rintro e w5 ⟨rfl, rfl⟩))
              go_ret
              refine ⟨?_, rfl⟩
              rw [← HV.out]
              rfl
          · have g1 : ((d : Int) + 1 == 9007199254740992) = false := by rw [beq_eq_false_iff_ne]; omega
            by_cases ho : 2047 ≤ by_ + 1
            · have g2 : decide ((by_ : Int) + 1 ≥ 2047) = true := by rw [decide_eq_true_eq]; omega
              have hv : (9218868437227405312 : Int) = (rb : Int) := by
                have hr := HR.out
                rw [hdd] at hr
                simp only at hr
                simp only [if_neg he] at hr; rw [if_pos ho] at hr
                omega
              have HV := Lib.hid hv
              clear hdd ho hv he
              go_enter Tryz.func31, Tryz.ntmps31
              go_wp2_with (first
                | (go_at_call 40
                   refine HLEN.out.mono ?_
                   rintro e w2 ⟨rfl, rfl⟩)
                | (go_at_call 41
                   refine HFR.out.mono ?_
                   rintro e w3 ⟨rfl, rfl⟩)
                | (go_at_call 42
                   refine HBI.out.mono ?_
                   rintro e w4 ⟨rfl, rfl⟩)
                | (go_at_call 43
                   refine HSO.out.mono ?_
                   rintro e w5 ⟨rfl, rfl⟩))
              go_ret
              refine ⟨?_, rfl⟩
              rw [← HV.out]
              rfl
            · have g2 : decide ((by_ : Int) + 1 ≥ 2047) = false := by rw [decide_eq_false_iff_not]; omega
              have hv : bits BinOp.or IntKind.u64 (((by_ : Int) + 1) * 4503599627370496) (bits BinOp.andNot IntKind.u64 ((d : Int) + 1) 4503599627370496) = (rb : Int) := by
                have hr := HR.out
                rw [hdd] at hr
                simp only at hr
                simp only [if_neg he] at hr; rw [if_neg ho] at hr
                have := or_pack (by_ + 1) ((d + 1) % 4503599627370496) (by omega) (by omega)
                rw [show ((d : Int) + 1) = ((d + 1 : Nat) : Int) by omega, andNot_norm (d + 1) (by omega), show ((by_ : Int) + 1) = ((by_ + 1 : Nat) : Int) by omega, this, hr]
                omega
              have HV := Lib.hid hv
              have ho' : by_ + 1 < 2047 := by omega
              clear hdd ho hv he
              go_enter Tryz.func31, Tryz.ntmps31
              go_wp2_with (first
                | (go_at_call 40
                   refine HLEN.out.mono ?_
                   rintro e w2 ⟨rfl, rfl⟩)
                | (go_at_call 41
                   refine HFR.out.mono ?_
                   rintro e w3 ⟨rfl, rfl⟩)
                | (go_at_call 42
                   refine HBI.out.mono ?_
                   rintro e w4 ⟨rfl, rfl⟩)
                | (go_at_call 43
                   refine HSO.out.mono ?_
                   rintro e w5 ⟨rfl, rfl⟩))
              go_ret
              refine ⟨?_, rfl⟩
              rw [← HV.out]
              rfl
      · have g0 : bits BinOp.and IntKind.u64 (d : Int) 1 = 1 := by rw [and_low1 d (by have := HD.out.2.1.2; omega), hpar]; rfl
        rw [hpar] at HD
        clear hpar
        have hdd : dr = d + 1 := by have := HD.out.1; simpa using this
        have hd53 := HD.out.2.1.2
        have hd52 := HD.out.2.1.1
        by_cases he : d + 1 = 9007199254740992
        · have g1 : ((d : Int) + 1 == 9007199254740992) = true := by rw [beq_iff_eq]; omega
          by_cases ho : 2047 ≤ by_ + 1 + 1
          · have g2 : decide ((by_ : Int) + 1 + 1 ≥ 2047) = true := by rw [decide_eq_true_eq]; omega
            have hv : (9218868437227405312 : Int) = (rb : Int) := by
              have hr := HR.out
              rw [hdd] at hr
              simp only at hr
              simp only [if_pos he] at hr; rw [if_pos ho] at hr
              omega
            have HV := Lib.hid hv
            clear hdd ho hv he
            go_enter Tryz.func31, Tryz.ntmps31
            go_wp2_with (first
              | (go_at_call 40
                 refine HLEN.out.mono ?_
                 rintro e w2 ⟨rfl, rfl⟩)
              | (go_at_call 41
                 refine HFR.out.mono ?_
                 rintro e w3 ⟨rfl, rfl⟩)
              | (go_at_call 42
                 refine HBI.out.mono ?_
                 rintro e w4 ⟨rfl, rfl⟩)
              | (go_at_call 43
                 refine HSO.out.mono ?_
                 rintro e w5 ⟨rfl, rfl⟩))
            go_ret
            refine ⟨?_, rfl⟩
            rw [← HV.out]
            rfl
          · have g2 : decide ((by_ : Int) + 1 + 1 ≥ 2047) = false := by rw [decide_eq_false_iff_not]; omega
            have hv : bits BinOp.or IntKind.u64 (((by_ : Int) + 1 + 1) * 4503599627370496) (bits BinOp.andNot IntKind.u64 4503599627370496 4503599627370496) = (rb : Int) := by
              have hr := HR.out
              rw [hdd] at hr
              simp only at hr
              simp only [if_pos he] at hr; rw [if_neg ho] at hr
              have := or_pack (by_ + 1 + 1) 0 (by omega) (by omega)
              have h2 := andNot_norm 4503599627370496 (by omega)
              rw [show ((4503599627370496 : Nat) : Int) = 4503599627370496 from rfl, show (4503599627370496 : Nat) % 4503599627370496 = 0 from rfl] at h2
              rw [h2, show ((by_ : Int) + 1 + 1) = ((by_ + 1 + 1 : Nat) : Int) by omega, this, hr]
              all_goals omega
            have HV := Lib.hid hv
            have ho' : by_ + 1 + 1 < 2047 := by omega
            clear hdd ho hv he
            go_enter Tryz.func31, Tryz.ntmps31
            go_wp2_with (first
              | (go_at_call 40
                 refine HLEN.out.mono ?_
                 rintro e w2 ⟨rfl, rfl⟩)
              | (go_at_call 41
                 refine HFR.out.mono ?_
                 rintro e w3 ⟨rfl, rfl⟩)
              | (go_at_call 42
                 refine HBI.out.mono ?_
                 rintro e w4 ⟨rfl, rfl⟩)
              | (go_at_call 43
                 refine HSO.out.mono ?_
                 rintro e w5 ⟨rfl, rfl⟩))
            go_ret
            refine ⟨?_, rfl⟩
            rw [← HV.out]
            rfl
        · have g1 : ((d : Int) + 1 == 9007199254740992) = false := by rw [beq_eq_false_iff_ne]; omega
          by_cases ho : 2047 ≤ by_ + 1
          · have g2 : decide ((by_ : Int) + 1 ≥ 2047) = true := by rw [decide_eq_true_eq]; omega
            have hv : (9218868437227405312 : Int) = (rb : Int) := by
              have hr := HR.out
              rw [hdd] at hr
              simp only at hr
              simp only [if_neg he] at hr; rw [if_pos ho] at hr
              omega
            have HV := Lib.hid hv
            clear hdd ho hv he
            go_enter Tryz.func31, Tryz.ntmps31
            go_wp2_with (first
              | (go_at_call 40
                 refine HLEN.out.mono ?_
                 rintro e w2 ⟨rfl, rfl⟩)
              | (go_at_call 41
                 refine HFR.out.mono ?_
                 rintro e w3 ⟨rfl, rfl⟩)
              | (go_at_call 42
                 refine HBI.out.mono ?_
                 rintro e w4 ⟨rfl, rfl⟩)
              | (go_at_call 43
                 refine HSO.out.mono ?_
                 rintro e w5 ⟨rfl, rfl⟩))
            go_ret
            refine ⟨?_, rfl⟩
            rw [← HV.out]
            rfl
          · have g2 : decide ((by_ : Int) + 1 ≥ 2047) = false := by rw [decide_eq_false_iff_not]; omega
            have hv : bits BinOp.or IntKind.u64 (((by_ : Int) + 1) * 4503599627370496) (bits BinOp.andNot IntKind.u64 ((d : Int) + 1) 4503599627370496) = (rb : Int) := by
              have hr := HR.out
              rw [hdd] at hr
              simp only at hr
              simp only [if_neg he] at hr; rw [if_neg ho] at hr
              have := or_pack (by_ + 1) ((d + 1) % 4503599627370496) (by omega) (by omega)
              rw [show ((d : Int) + 1) = ((d + 1 : Nat) : Int) by omega, andNot_norm (d + 1) (by omega), show ((by_ : Int) + 1) = ((by_ + 1 : Nat) : Int) by omega, this, hr]
              omega
            have HV := Lib.hid hv
            have ho' : by_ + 1 < 2047 := by omega
            clear hdd ho hv he
            go_enter Tryz.func31, Tryz.ntmps31
            go_wp2_with (first
              | (go_at_call 40
                 refine HLEN.out.mono ?_
                 rintro e w2 ⟨rfl, rfl⟩)
              | (go_at_call 41
                 refine HFR.out.mono ?_
                 rintro e w3 ⟨rfl, rfl⟩)
              | (go_at_call 42
                 refine HBI.out.mono ?_
                 rintro e w4 ⟨rfl, rfl⟩)
              | (go_at_call 43
                 refine HSO.out.mono ?_
                 rintro e w5 ⟨rfl, rfl⟩))
            go_ret
            refine ⟨?_, rfl⟩
            rw [← HV.out]
            rfl
end Go.Proofs.YtemjlkmlodmmfaaGreatDoor.Sm

/- Contracts of strconv's scaling: logarithms, the table of powers, uscale. By an AI agent. -/
namespace Go.Proofs.YtemjlkmlodmmfaaGreatDoor
open Go.ChangeShapes Go.WideShapes Go.ChangeAt Go.RowKit
open Bt
set_option linter.unusedVariables false

theorem ret_int {k : IntKind} {a b : Int} (h : a = b) : Ending.returned (.int k a) = .returned (.int k b) := by rw [h]

theorem log10_any (x : Int) (w : World) (h0 : -4000 ≤ x) (h1 : x ≤ 4000) :
    Calls Tryz.prog 60 #[.int .i64 x] w fun e w' => e = .returned (.int .i64 (Us.lg2 x)) ∧ w' = w := by
  go_enter Tryz.func60, Tryz.ntmps60
  go_wp2
  go_ret
  exact ⟨rfl, rfl⟩
theorem log2_any (x : Int) (w : World) (h0 : -4000 ≤ x) (h1 : x ≤ 4000) :
    Calls Tryz.prog 76 #[.int .i64 x] w fun e w' => e = .returned (.int .i64 (Us.lgp x)) ∧ w' = w := by
  go_enter Tryz.func76, Tryz.ntmps76
  go_wp2
  go_ret
  exact ⟨rfl, rfl⟩
theorem skewed_any (x : Int) (w : World) (h0 : -4000 ≤ x) (h1 : x ≤ 4000) :
    Calls Tryz.prog 74 #[.int .i64 x] w fun e w' => e = .returned (.int .i64 (Us.skw x)) ∧ w' = w := by
  go_enter Tryz.func74, Tryz.ntmps74
  go_wp2
  go_ret
  exact ⟨rfl, rfl⟩

/-- The table of powers of ten lies there. -/
def Pows (w : World) : Prop := ∀ i : Nat, i < 696 → w.cell? ⟨7, i * 2, none⟩ = some (.int .u64 (Us.pmHi ((i : Int) - 348) : Nat)) ∧ w.cell? ⟨7, i * 2 + 1, none⟩ = some (.int .u64 (Us.pmLo ((i : Int) - 348) : Nat))

/-- A scaler: what prescale puts in. -/
def scA (hi lo : Nat) (s : Int) : Array Value := #[.int .u64 (hi : Int), .int .u64 (lo : Int), .int .i64 s]
def ScAt (w : World) (b : Nat) (hi lo : Nat) (s : Int) : Prop := w.heap[b]? = some (.cells (scA hi lo s) 114 (0, 0))

theorem prescale_any (b : Nat) (hi lo : Nat) (s e p lp : Int) (w : World) (h : ScAt w b hi lo s) (hb : b ≠ 7) (hT : Pows w) (h0 : -348 ≤ p) (h1 : p ≤ 347) (he : -4000 ≤ e ∧ e ≤ 4000) (hl : -4000 ≤ lp ∧ lp ≤ 4000) :
    Calls Tryz.prog 75 #[.pointer (some ⟨b, 0, none⟩), .int .i64 e, .int .i64 p, .int .i64 lp] w fun en w' => en = .returned (.tuple #[]) ∧ ScAt w' b (Us.pmHi p) (Us.pmLo p) (-(e + lp + 3)) ∧ Keep (· = b) w w' := by
  obtain ⟨i, rfl⟩ : ∃ i : Nat, p = (i : Int) - 348 := ⟨(p + 348).toNat, by omega⟩
  obtain ⟨t0, t1⟩ := hT i (by omega)
  have c0 := blk_cell h 0
  have c1 := blk_cell h 1
  have c2 := blk_cell h 2
  have f0 := blk_free h 0
  have f1 := blk_free h 1
  have f2 := blk_free h 2
  unfold scA at c0 c1 c2
  simp at c0 c1 c2
  obtain ⟨he1, he2⟩ := he
  obtain ⟨hl1, hl2⟩ := hl
  have hi0 : (0 : Int) ≤ i := by omega
  have hi1 : (i : Int) < 696 := by omega
  go_enter Tryz.func75, Tryz.ntmps75
  go_wp2
  go_end0
  refine ⟨rfl, ?_, ?_⟩
  · have hA := blk_set (blk_set (blk_set h 0 (.int .u64 (Us.pmHi ((i : Int) - 348) : Nat))) 1 (.int .u64 (Us.pmLo ((i : Int) - 348) : Nat))) 2 (.int .i64 (-(e + lp + 3)))
    exact hA
  · have k0 : Keep (· = b) w w := Keep.refl _ w
    have k1 := k0.setCell (p := ⟨b, 0, none⟩) (Or.inl rfl) (.int .u64 (Us.pmHi ((i : Int) - 348) : Nat))
    have k2 := k1.setCell (p := ⟨b, 1, none⟩) (Or.inl rfl) (.int .u64 (Us.pmLo ((i : Int) - 348) : Nat))
    exact k2.setCell (p := ⟨b, 2, none⟩) (Or.inl rfl) _

/-! ### uscale -/
theorem bool_u64 (b : Bool) (w : World) : Calls Tryz.prog 101 #[.bool b] w fun e w' => e = .returned (.int .u64 ((b.toNat : Nat) : Int)) ∧ w' = w := by
  cases b <;> (go_enter Tryz.func101, Tryz.ntmps101; go_wp2; go_ret; exact ⟨rfl, rfl⟩)

theorem nudge_any (u d : Int) (w : World) (h0 : 0 ≤ u) (h1 : u < 9223372036854775808) (hd : -1 ≤ d) (hd1 : d ≤ 1) (h2 : 0 ≤ u + d) :
    Calls Tryz.prog 78 #[.int .u64 u, .int .i64 d] w fun e w' => e = .returned (.int .u64 (u + d)) ∧ w' = w := by
  go_enter Tryz.func78, Tryz.ntmps78
  go_wp2
  go_ret
  refine ⟨ret_int ?_, rfl⟩
  rw [IntKind.wrap_u64, IntKind.wrap_u64]; omega
theorem floor_any (u : Int) (w : World) (h0 : 0 ≤ u) (h1 : u < 9223372036854775808) :
    Calls Tryz.prog 80 #[.int .u64 u] w fun e w' => e = .returned (.int .u64 (u / 4)) ∧ w' = w := by
  go_enter Tryz.func80, Tryz.ntmps80
  go_wp2
  go_ret
  exact ⟨rfl, rfl⟩
theorem ceil_any (u : Int) (w : World) (h0 : 0 ≤ u) (h1 : u < 9223372036854775808) :
    Calls Tryz.prog 79 #[.int .u64 u] w fun e w' => e = .returned (.int .u64 ((u + 3) / 4)) ∧ w' = w := by
  go_enter Tryz.func79, Tryz.ntmps79
  go_wp2
  go_ret
  exact ⟨rfl, rfl⟩
theorem round_any (u : Nat) (w : World) (h1 : u < 9223372036854775808) :
    Calls Tryz.prog 81 #[.int .u64 (u : Int)] w fun e w' => e = .returned (.int .u64 (((u + 1 + u / 4 % 2) / 4 : Nat) : Int)) ∧ w' = w := by
  go_enter Tryz.func81, Tryz.ntmps81
  go_wp2
  go_ret
  refine ⟨ret_int ?_, rfl⟩
  have e : ((u : Int) / 4) = ((u / 4 : Nat) : Int) := by push_cast; rfl
  rw [e, Sm.and_low1 (u / 4) (by omega), IntKind.wrap_u64]
  omega

theorem and63 (s : Nat) (h : s < 64) : bits BinOp.and IntKind.i64 (s : Int) 63 = (s : Int) := by
  have hand : ∀ s : Fin 64, bits BinOp.and IntKind.i64 (s.val : Int) 63 = (s.val : Int) := by decide +kernel
  exact hand ⟨s, h⟩

/-- Mul64 at two numbers. -/
def Mul (x y H M : Nat) : Prop := ∀ w, Calls Tryz.prog 108 #[.int .u64 (x : Int), .int .u64 (y : Int)] w fun e w' => e = .returned (.tuple #[.int .u64 (H : Int), .int .u64 (M : Int)]) ∧ w' = w

set_option maxRecDepth 100000 in
set_option maxHeartbeats 1000000 in
theorem uscale_one (x s hi lo b H M R : Nat) (w : World) (h : ScAt w b hi lo (s : Int)) (hs : s < 64) (hM : Mul x hi H M)
    (hne : (IntKind.u64.wrap ((H : Int) / 2 ^ s * 2 ^ s) != (H : Int)) = true) (hr : bits BinOp.or IntKind.u64 ((H : Int) / 2 ^ s) 1 = (R : Int)) :
    Calls Tryz.prog 77 #[.int .u64 (x : Int), .pointer (some ⟨b, 0, none⟩)] w fun e w' => e = .returned (.int .u64 (R : Int)) ∧ ∃ n, w' = w.drewN n := by
  have c0 := blk_cell h 0
  have c1 := blk_cell h 1
  have c2 := blk_cell h 2
  unfold scA at c0 c1 c2
  simp at c0 c1 c2
  clear h
  have ha := and63 s hs
  go_enter Tryz.func77, Tryz.ntmps77
  go_wp2_with fail
  refine (hM _).mono ?_
  rintro e w' ⟨rfl, hw⟩
  obtain rfl : w = w' := hw.symm
  go_wp2_with fail
  go_ret
  exact ⟨rfl, 0, rfl⟩

set_option maxRecDepth 100000 in
set_option maxHeartbeats 1000000 in
theorem uscale_two (x s hi lo b H M H2 L2 H3 D R : Nat) (bb cc : Bool) (w : World) (h : ScAt w b hi lo (s : Int)) (hs : s < 64) (hM : Mul x hi H M) (hM2 : Mul x lo H2 L2)
    (hne : (IntKind.u64.wrap ((H : Int) / 2 ^ s * 2 ^ s) != (H : Int)) = false) (hb : decide (M < H2) = bb) (h3 : IntKind.u64.wrap ((H : Int) - (bb.toNat : Nat)) = (H3 : Int)) (hd : IntKind.u64.wrap ((M : Int) - (H2 : Int)) = (D : Int)) (hc : decide ((1 : Int) < (D : Int)) = cc)
    (hr : bits BinOp.or IntKind.u64 ((H3 : Int) / 2 ^ s) (cc.toNat : Nat) = (R : Int)) :
    Calls Tryz.prog 77 #[.int .u64 (x : Int), .pointer (some ⟨b, 0, none⟩)] w fun e w' => e = .returned (.int .u64 (R : Int)) ∧ ∃ n, w' = w.drewN n := by
  have c0 := blk_cell h 0
  have c1 := blk_cell h 1
  have c2 := blk_cell h 2
  unfold scA at c0 c1 c2
  simp at c0 c1 c2
  clear h
  have ha := and63 s hs
  go_enter Tryz.func77, Tryz.ntmps77
  go_wp2_with fail
  refine (hM _).mono ?_
  rintro e w' ⟨rfl, hw⟩
  obtain rfl : w = w' := hw.symm
  go_wp2_with fail
  refine (hM2 _).mono ?_
  rintro e w' ⟨rfl, hw⟩
  obtain rfl : w = w' := hw.symm
  go_wp2_with fail
  refine (bool_u64 bb _).mono ?_
  rintro e w' ⟨rfl, hw⟩
  obtain rfl : w = w' := hw.symm
  go_wp2_with fail
  go_quiet ((go_at_call 101; exact Calls.quiet_of_same (bool_u64 cc _)))
  go_wp2_with fail
  go_ret
  exact ⟨rfl, nq, rfl⟩

theorem or_one (a : Nat) (ha : a < 18446744073709551616) : bits BinOp.or IntKind.u64 (a : Int) 1 = ((Us.stk a true : Nat) : Int) := by
  have h1 : (BitVec.ofInt 64 (a : Int)).toNat = a := by
    rw [BitVec.ofInt_natCast, BitVec.toNat_ofNat]; exact Nat.mod_eq_of_lt (by omega)
  have h3 : a ||| 1 = a / 2 * 2 + 1 := by
    apply Nat.eq_of_testBit_eq
    intro i
    rw [Nat.testBit_or]
    cases i with
    | zero => simp [Nat.testBit_zero]
    | succ i =>
      rw [Nat.testBit_succ, Nat.testBit_succ, Nat.testBit_succ]
      have e : (a / 2 * 2 + 1) / 2 = a / 2 := by omega
      rw [e]
      simp
  show IntKind.u64.wrap ((BitVec.ofInt 64 (a : Int) ||| BitVec.ofInt 64 1).toNat : Int) = _
  rw [BitVec.toNat_or, h1, show (BitVec.ofInt 64 1).toNat = 1 from rfl, h3, IntKind.wrap_u64]
  unfold Us.stk
  simp only [if_true]
  omega
theorem or_zero (a : Nat) (ha : a < 18446744073709551616) : bits BinOp.or IntKind.u64 (a : Int) 0 = (a : Int) := by
  have h1 : (BitVec.ofInt 64 (a : Int)).toNat = a := by
    rw [BitVec.ofInt_natCast, BitVec.toNat_ofNat]; exact Nat.mod_eq_of_lt (by omega)
  show IntKind.u64.wrap ((BitVec.ofInt 64 (a : Int) ||| BitVec.ofInt 64 0).toNat : Int) = _
  rw [BitVec.toNat_or, h1, show (BitVec.ofInt 64 0).toNat = 0 from rfl, Nat.or_zero, IntKind.wrap_u64]
  omega
theorem or_stk (a : Nat) (ha : a < 18446744073709551616) (c : Bool) : bits BinOp.or IntKind.u64 (a : Int) ((c.toNat : Nat) : Int) = ((Us.stk a c : Nat) : Int) := by
  cases c
  · exact or_zero a ha
  · exact or_one a ha

theorem back_eq (H s : Nat) (hH : H < 18446744073709551616) : IntKind.u64.wrap ((H : Int) / 2 ^ s * 2 ^ s) = ((H - H % 2 ^ s : Nat) : Int) := by
  have e : ((H : Int) / 2 ^ s * 2 ^ s) = ((H / 2 ^ s * 2 ^ s : Nat) : Int) := by push_cast; rfl
  have h := Nat.div_add_mod H (2 ^ s)
  rw [Nat.mul_comm] at h
  rw [e, IntKind.wrap_u64]
  generalize H / 2 ^ s * 2 ^ s = q at *
  omega

theorem uscale_any (x s hi lo b : Nat) (w : World) (h : ScAt w b hi lo (s : Int)) (hx : x < 18446744073709551616) (hhi : hi < 18446744073709551616) (hlo : lo < 18446744073709551616) (hs : s < 64) :
    Calls Tryz.prog 77 #[.int .u64 (x : Int), .pointer (some ⟨b, 0, none⟩)] w fun e w' => e = .returned (.int .u64 (Us.usc x s hi lo : Nat)) ∧ ∃ n, w' = w.drewN n := by
  have hM := Tryz.bits_Mul64 x hi hx hhi
  have hM2 := Tryz.bits_Mul64 x lo hx hlo
  have u1 : x * hi / 18446744073709551616 < 18446744073709551616 := Nat.div_lt_of_lt_mul (Nat.mul_lt_mul'' hx hhi)
  have u2 : x * lo / 18446744073709551616 < 18446744073709551616 := Nat.div_lt_of_lt_mul (Nat.mul_lt_mul'' hx hlo)
  have u3 := Nat.mod_lt (x * hi) (y := 18446744073709551616) (by omega)
  unfold Us.usc
  generalize x * hi / 18446744073709551616 = H at *
  generalize x * hi % 18446744073709551616 = M at *
  generalize x * lo / 18446744073709551616 = H2 at *
  generalize x * lo % 18446744073709551616 = L2 at *
  have hdl : ∀ a : Nat, a < 18446744073709551616 → a / 2 ^ s < 18446744073709551616 := fun a ha => Nat.lt_of_le_of_lt (Nat.div_le_self _ _) ha
  have hb := back_eq H s u1
  have hle := Nat.mod_le H (2 ^ s)
  by_cases hr : H % 2 ^ s ≠ 0
  · simp only [if_pos hr]
    refine uscale_one x s hi lo b H M _ w h hs hM ?_ ?_
    · rw [hb, bne_iff_ne]; omega
    · have := or_one (H / 2 ^ s) (hdl H u1)
      rw [← this]; push_cast; rfl
  · simp only [if_neg hr]
    have e3 : IntKind.u64.wrap ((H : Int) - ((decide (M < H2)).toNat : Nat)) = ((if M < H2 then (H + 18446744073709551615) % 18446744073709551616 else H : Nat) : Int) := by
      rw [IntKind.wrap_u64]
      by_cases hm : M < H2
      · rw [if_pos hm, decide_eq_true hm]; simp only [Bool.toNat_true]; omega
      · rw [if_neg hm, decide_eq_false hm]; simp only [Bool.toNat_false]; omega
    have l3 : (if M < H2 then (H + 18446744073709551615) % 18446744073709551616 else H) < 18446744073709551616 := by split <;> omega
    have ed : IntKind.u64.wrap ((M : Int) - (H2 : Int)) = (((M + 18446744073709551616 - H2) % 18446744073709551616 : Nat) : Int) := by
      rw [IntKind.wrap_u64]; omega
    have ec : decide ((1 : Int) < (((M + 18446744073709551616 - H2) % 18446744073709551616 : Nat) : Int)) = decide (1 < (M + 18446744073709551616 - H2) % 18446744073709551616) := by
      rw [Bool.eq_iff_iff]; simp only [decide_eq_true_eq]; omega
    generalize (if M < H2 then (H + 18446744073709551615) % 18446744073709551616 else H) = H3 at *
    generalize (M + 18446744073709551616 - H2) % 18446744073709551616 = D at *
    refine uscale_two x s hi lo b H M H2 L2 H3 D _ (decide (M < H2)) (decide (1 < D)) w h hs hM hM2 ?_ rfl e3 ed ec ?_
    · rw [hb, bne_eq_false_iff_eq]; omega
    · have := or_stk (H3 / 2 ^ s) (hdl H3 l3) (decide (1 < D))
      rw [← this]; push_cast; rfl
end Go.Proofs.YtemjlkmlodmmfaaGreatDoor
