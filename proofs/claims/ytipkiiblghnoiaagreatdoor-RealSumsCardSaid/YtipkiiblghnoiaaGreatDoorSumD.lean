/- Package real: exact sums: the number that lies nearest. By an AI agent. -/
import Derived.Test.YtipkiiblghnoiaaGreatDoorSumC
namespace Go.Proofs.YtipkiiblghnoiaaGreatDoor.Sm
open Go.ChangeShapes Go.WideShapes Go.ChangeAt Go.RowKit
set_option linter.unusedVariables false
set_option linter.unusedSimpArgs false

theorem andNot_norm (d : Nat) (h : d < 9007199254740992) : bits BinOp.andNot IntKind.u64 (d : Int) 4503599627370496 = ((d % 4503599627370496 : Nat) : Int) := by
  have h1 : (BitVec.ofInt 64 (d : Int)).toNat = d := by rw [BitVec.ofInt_natCast, BitVec.toNat_ofNat]; omega
  have h2 : (~~~ (BitVec.ofInt 64 4503599627370496)).toNat = 18442240474082181119 := by decide
  show IntKind.u64.wrap ((BitVec.ofInt 64 (d : Int) &&& ~~~ BitVec.ofInt 64 4503599627370496).toNat : Int) = _
  have h3 : d &&& 18442240474082181119 = d % 2 ^ 52 := by
    apply Nat.eq_of_testBit_eq
    intro j
    rw [Nat.testBit_and, Nat.testBit_mod_two_pow]
    by_cases hj : j < 52
    · have hc : (18442240474082181119 : Nat).testBit j = true := by
        have : ∀ j : Fin 52, (18442240474082181119 : Nat).testBit j.val = true := by decide
        exact this ⟨j, hj⟩
      rw [hc]; simp [hj]
    · by_cases hj2 : j = 52
      · subst hj2
        have hc : (18442240474082181119 : Nat).testBit 52 = false := by decide
        rw [hc]; simp
      · have hc : d.testBit j = false := Nat.testBit_lt_two_pow (Nat.lt_of_lt_of_le (show d < 2 ^ 53 by omega) (Nat.pow_le_pow_right (by decide) (by omega)))
        rw [hc]; simp
  rw [BitVec.toNat_and, h1, h2, h3, IntKind.wrap_u64]
  omega
theorem or_pack (p d : Nat) (hp : p < 4096) (hd : d < 4503599627370496) : bits BinOp.or IntKind.u64 ((p : Int) * 4503599627370496) (d : Int) = ((p * 4503599627370496 + d : Nat) : Int) := by
  have e : (p : Int) * 4503599627370496 = ((4503599627370496 * p : Nat) : Int) := by omega
  rw [e, bits_or_u64_nat (4503599627370496 * p) d (by omega) (by omega)]
  congr 1
  have := Nat.two_pow_add_eq_or_of_lt (i := 52) (b := d) (by omega) p
  rw [show (2 : Nat) ^ 52 = 4503599627370496 by decide] at this
  rw [← this]
  omega

theorem and_low1 (d : Nat) (h : d < 18446744073709551616) : bits BinOp.and IntKind.u64 (d : Int) 1 = ((d % 2 : Nat) : Int) := by
  have := bits_and_u64_nat d 1 h (by omega)
  rw [show ((1 : Nat) : Int) = 1 from rfl] at this
  rw [this, Nat.and_one_is_mod]

/-- The digits, and how far: rounded. -/
theorem round_parts {V n : Nat} (hl : lenN V = n) (hn : 53 < n) : roundB V = (let d := digR V (n - 53); let d2 := if d = 9007199254740992 then 4503599627370496 else d; let b2 := if d = 9007199254740992 then n - 53 + 1 else n - 53; if b2 + 1 ≥ 2047 then 9218868437227405312 else (b2 + 1) * 4503599627370496 + (d2 - 4503599627370496)) := by
  unfold roundB
  rw [hl]
  simp only
  rw [if_neg (by omega)]
theorem round_small {V n : Nat} (hl : lenN V = n) (hn : n ≤ 53) : roundB V = V := by
  unfold roundB
  rw [hl]
  simp only
  rw [if_pos hn]

theorem v_lt {f : Nat → Nat} (hf : ∀ j, f j < 18446744073709551616) : V36 f < 18446744073709551616 ^ 36 := wv_lt (by decide) (fun i _ => hf i)
theorem len36 {f : Nat → Nat} (hf : ∀ j, f j < 18446744073709551616) : lenN (V36 f) ≤ 2304 := by
  rcases Nat.lt_or_ge 2304 (lenN (V36 f)) with hx | hx
  · exfalso
    have h1 := (lenN_len (V36 f)).2 (Nat.lt_of_le_of_lt (Nat.zero_le _) hx)
    have h2 := v_lt hf
    obtain ⟨k, hk⟩ : ∃ k, lenN (V36 f) - 1 = k + 64 * 36 := ⟨lenN (V36 f) - 1 - 64 * 36, by clear h1 h2; omega⟩
    rw [hk, pow_word] at h1
    have h3 := Nat.mul_le_mul_right (18446744073709551616 ^ 36) (Nat.one_le_two_pow (n := k))
    rw [Nat.one_mul] at h3
    exact absurd (Nat.le_trans h3 h1) (Nat.not_le.2 h2)
  · exact hx
theorem small36 {f : Nat → Nat} (hf : ∀ j, f j < 18446744073709551616) (hs : lenN (V36 f) ≤ 53) : roundB (V36 f) = f 0 := by
  rw [round_small rfl hs]
  have hlt : V36 f < 2 ^ 53 := Nat.lt_of_lt_of_le (lenN_len (V36 f)).1 (Nat.pow_le_pow_right (by decide) hs)
  have hw := wv_word (B := 18446744073709551616) (f := f) (n := 36) (by decide) (fun i _ => hf i) 0 (by decide)
  rw [Nat.pow_zero, Nat.div_one] at hw
  rw [← hw]
  exact (Nat.mod_eq_of_lt (Nat.lt_trans hlt (by decide))).symm
theorem digR_split {V by_ b1 : Nat} (hb : by_ = b1 + 1) : digR V by_ = if V.testBit b1 = true ∧ ((V >>> by_) % 2 = 1 ∨ V % 2 ^ b1 ≠ 0) then V >>> by_ + 1 else V >>> by_ := by
  subst hb
  rfl

set_option maxRecDepth 100000 in
set_option maxHeartbeats 4000000 in
theorem nearest_any {w : World} {b : Nat} {f : Nat → Nat} (h : ExAt w b f) (hf : ∀ j, f j < 18446744073709551616) :
    Calls Tryz.prog 48 #[.pointer (some ⟨b, 0, none⟩)] w fun e w' => e = .returned (.int .u64 ((roundB (V36 f) : Nat) : Int)) ∧ w' = w := by
  have HF := Lib.hid (And.intro h hf)
  have hlen := length_any h hf
  have c0 := h.cell (i := 0) (by omega)
  clear h hf
  have hL := lenN_len (V36 f)
  have hn36 := len36 HF.out.2
  have HLEN := Lib.hid hlen
  clear hlen
  generalize hn : lenN (V36 f) = n at *
  have HN := Lib.hid (And.intro hL hn)
  by_cases hs : n ≤ 53
  · have hr := small36 HF.out.2 (by rw [hn]; exact hs)
    rw [hr]
    clear hL hn hr
    have d1 : decide ((n : Int) ≤ 53) = true := by rw [decide_eq_true_eq]; omega
    go_enter Tryz.func48, Tryz.ntmps48
    go_wp2_with (go_at_call 62
                 refine HLEN.out.mono ?_
                 rintro e w2 ⟨rfl, rfl⟩)
    go_ret
    exact ⟨rfl, rfl⟩
  · have hn53 : 53 < n := by omega
    obtain ⟨by_, hby⟩ : ∃ x, n = x + 53 := ⟨n - 53, by omega⟩
    have hdr := dig_range hL hn53
    have hrr := digR_range hL hn53
    have hrp := round_parts hn hn53
    rw [show n - 53 = by_ by omega] at hdr hrr hrp
    obtain ⟨b1, hb1⟩ : ∃ x, by_ = x + 1 := ⟨by_ - 1, by omega⟩
    have HFR := Lib.hid (from_any HF.out.1 HF.out.2 by_ 53 (by omega) (by omega))
    rw [Nat.mod_eq_of_lt hdr.2] at HFR
    have HBI := Lib.hid (bit_any HF.out.1 HF.out.2 b1 (by omega))
    have HSO := Lib.hid (some_any HF.out.1 HF.out.2 b1 (by omega))
    have hdg := digR_split (V := V36 f) hb1
    rw [show ((53 : Nat) : Int) = 53 from rfl] at HFR
    generalize V36 f >>> by_ = d at *
    generalize (V36 f).testBit b1 = tb at *
    generalize digR (V36 f) by_ = dr at *
    have ez : ∀ z : Bool, decide (V36 f % 2 ^ b1 ≠ 0) = z → (V36 f % 2 ^ b1 ≠ 0 ↔ z = true) := fun z hz => by rw [← hz, decide_eq_true_eq]
    obtain ⟨z, hz⟩ : ∃ z, decide (V36 f % 2 ^ b1 ≠ 0) = z := ⟨_, rfl⟩
    have hzz := ez z hz
    rw [hz] at HSO
    simp only [hzz] at hdg
    clear ez hz hzz hL hn c0
    generalize roundB (V36 f) = rb at *
    have HR := Lib.hid hrp
    have HD := Lib.hid (And.intro hdg (And.intro hdr hrr))
    clear hrp hdg hdr hrr
    have hby2 : by_ ≤ 2251 := by omega
    have hb12 : b1 < by_ := by omega
    have HBB := Lib.hid (And.intro hby hb1)
    have d1 : decide ((n : Int) ≤ 53) = false := by rw [decide_eq_false_iff_not]; omega
    have e1 : (n : Int) - 52 - 1 = (by_ : Int) := by omega
    have e2 : (by_ : Int) - 1 = (b1 : Int) := by omega
    clear hby hb1 hs
    rcases tb with _ | _
    · rw [show ((false.toNat : Nat) : Int) = 0 from rfl] at HBI
      have hdd : dr = d := by have := HD.out.1; simpa using this
      have hd53 := HD.out.2.1.2
      have hd52 := HD.out.2.1.1
      have g1 : ((d : Int) == 9007199254740992) = false := by rw [beq_eq_false_iff_ne]; omega
      by_cases ho : 2047 ≤ by_ + 1
      · have g2 : decide ((by_ : Int) + 1 ≥ 2047) = true := by rw [decide_eq_true_eq]; omega
        have hv : (9218868437227405312 : Int) = (rb : Int) := by
          have hr := HR.out
          rw [hdd] at hr
          simp only at hr
          simp only [if_neg (show ¬ d = 9007199254740992 by omega)] at hr; rw [if_pos ho] at hr
          omega
        have HV := Lib.hid hv
        clear hdd hd53 hd52 ho hv
        go_enter Tryz.func48, Tryz.ntmps48
        go_wp2_with (first
          | (go_at_call 62
             refine HLEN.out.mono ?_
             rintro e w2 ⟨rfl, rfl⟩)
          | (go_at_call 63
             refine HFR.out.mono ?_
             rintro e w3 ⟨rfl, rfl⟩)
          | (go_at_call 64
             refine HBI.out.mono ?_
             rintro e w4 ⟨rfl, rfl⟩)
          | (go_at_call 65
             refine HSO.out.mono ?_
             rintro e w5 ⟨rfl, rfl⟩))
        go_ret
        refine ⟨?_, rfl⟩
        rw [← HV.out]
        rfl
      · have g2 : decide ((by_ : Int) + 1 ≥ 2047) = false := by rw [decide_eq_false_iff_not]; omega
        have hv : bits BinOp.or IntKind.u64 (((by_ : Int) + 1) * 4503599627370496) (bits BinOp.andNot IntKind.u64 (d : Int) 4503599627370496) = (rb : Int) := by
          have hr := HR.out
          rw [hdd] at hr
          simp only at hr
          simp only [if_neg (show ¬ d = 9007199254740992 by omega)] at hr; rw [if_neg ho] at hr
          have := or_pack (by_ + 1) (d % 4503599627370496) (by omega) (by omega)
          rw [andNot_norm d (by omega), show ((by_ : Int) + 1) = ((by_ + 1 : Nat) : Int) by omega, this, hr]
          omega
        have HV := Lib.hid hv
        have ho' : by_ + 1 < 2047 := by omega
        clear hdd ho hv
        go_enter Tryz.func48, Tryz.ntmps48
        go_wp2_with (first
          | (go_at_call 62
             refine HLEN.out.mono ?_
             rintro e w2 ⟨rfl, rfl⟩)
          | (go_at_call 63
             refine HFR.out.mono ?_
             rintro e w3 ⟨rfl, rfl⟩)
          | (go_at_call 64
             refine HBI.out.mono ?_
             rintro e w4 ⟨rfl, rfl⟩)
          | (go_at_call 65
             refine HSO.out.mono ?_
             rintro e w5 ⟨rfl, rfl⟩))
        go_ret
        refine ⟨?_, rfl⟩
        rw [← HV.out]
        rfl
    · rw [show ((true.toNat : Nat) : Int) = 1 from rfl] at HBI
      rcases Nat.mod_two_eq_zero_or_one d with hpar | hpar
      · have g0 : bits BinOp.and IntKind.u64 (d : Int) 1 = 0 := by rw [and_low1 d (by have := HD.out.2.1.2; omega), hpar]; rfl
        rw [hpar] at HD
        clear hpar
        rcases z with _ | _
        · have hdd : dr = d := by have := HD.out.1; simpa using this
          have hd53 := HD.out.2.1.2
          have hd52 := HD.out.2.1.1
          have g1 : ((d : Int) == 9007199254740992) = false := by rw [beq_eq_false_iff_ne]; omega
          by_cases ho : 2047 ≤ by_ + 1
          · have g2 : decide ((by_ : Int) + 1 ≥ 2047) = true := by rw [decide_eq_true_eq]; omega
            have hv : (9218868437227405312 : Int) = (rb : Int) := by
              have hr := HR.out
              rw [hdd] at hr
              simp only at hr
              simp only [if_neg (show ¬ d = 9007199254740992 by omega)] at hr; rw [if_pos ho] at hr
              omega
            have HV := Lib.hid hv
            clear hdd hd53 hd52 ho hv
            go_enter Tryz.func48, Tryz.ntmps48
            go_wp2_with (first
              | (go_at_call 62
                 refine HLEN.out.mono ?_
                 rintro e w2 ⟨rfl, rfl⟩)
              | (go_at_call 63
                 refine HFR.out.mono ?_
                 rintro e w3 ⟨rfl, rfl⟩)
              | (go_at_call 64
                 refine HBI.out.mono ?_
                 rintro e w4 ⟨rfl, rfl⟩)
              | (go_at_call 65
                 refine HSO.out.mono ?_
                 rintro e w5 ⟨rfl, rfl⟩))
            go_ret
            refine ⟨?_, rfl⟩
            rw [← HV.out]
            rfl
          · have g2 : decide ((by_ : Int) + 1 ≥ 2047) = false := by rw [decide_eq_false_iff_not]; omega
            have hv : bits BinOp.or IntKind.u64 (((by_ : Int) + 1) * 4503599627370496) (bits BinOp.andNot IntKind.u64 (d : Int) 4503599627370496) = (rb : Int) := by
              have hr := HR.out
              rw [hdd] at hr
              simp only at hr
              simp only [if_neg (show ¬ d = 9007199254740992 by omega)] at hr; rw [if_neg ho] at hr
              have := or_pack (by_ + 1) (d % 4503599627370496) (by omega) (by omega)
              rw [andNot_norm d (by omega), show ((by_ : Int) + 1) = ((by_ + 1 : Nat) : Int) by omega, this, hr]
              omega
            have HV := Lib.hid hv
            have ho' : by_ + 1 < 2047 := by omega
            clear hdd ho hv
            go_enter Tryz.func48, Tryz.ntmps48
            go_wp2_with (first
              | (go_at_call 62
                 refine HLEN.out.mono ?_
                 rintro e w2 ⟨rfl, rfl⟩)
              | (go_at_call 63
                 refine HFR.out.mono ?_
                 rintro e w3 ⟨rfl, rfl⟩)
              | (go_at_call 64
                 refine HBI.out.mono ?_
                 rintro e w4 ⟨rfl, rfl⟩)
              | (go_at_call 65
                 refine HSO.out.mono ?_
                 rintro e w5 ⟨rfl, rfl⟩))
            go_ret
            refine ⟨?_, rfl⟩
            rw [← HV.out]
            rfl
        · have hdd : dr = d + 1 := by have := HD.out.1; simpa using this
          have hd53 := HD.out.2.1.2
          have hd52 := HD.out.2.1.1
          by_cases he : d + 1 = 9007199254740992
          · have g1 : ((d : Int) + 1 == 9007199254740992) = true := by rw [beq_iff_eq]; omega
            by_cases ho : 2047 ≤ by_ + 1 + 1
            · have g2 : decide ((by_ : Int) + 1 + 1 ≥ 2047) = true := by rw [decide_eq_true_eq]; omega
              have hv : (9218868437227405312 : Int) = (rb : Int) := by
                have hr := HR.out
                rw [hdd] at hr
                simp only at hr
                simp only [if_pos he] at hr; rw [if_pos ho] at hr
                omega
              have HV := Lib.hid hv
              clear hdd ho hv he
              go_enter Tryz.func48, Tryz.ntmps48
              go_wp2_with (first
                | (go_at_call 62
                   refine HLEN.out.mono ?_
                   rintro e w2 ⟨rfl, rfl⟩)
                | (go_at_call 63
                   refine HFR.out.mono ?_
                   rintro e w3 ⟨rfl, rfl⟩)
                | (go_at_call 64
                   refine HBI.out.mono ?_
                   rintro e w4 ⟨rfl, rfl⟩)
                | (go_at_call 65
                   refine HSO.out.mono ?_
                   rintro e w5 ⟨rfl, rfl⟩))
              go_ret
              refine ⟨?_, rfl⟩
              rw [← HV.out]
              rfl
            · have g2 : decide ((by_ : Int) + 1 + 1 ≥ 2047) = false := by rw [decide_eq_false_iff_not]; omega
              have hv : bits BinOp.or IntKind.u64 (((by_ : Int) + 1 + 1) * 4503599627370496) (bits BinOp.andNot IntKind.u64 4503599627370496 4503599627370496) = (rb : Int) := by
                have hr := HR.out
                rw [hdd] at hr
                simp only at hr
                simp only [if_pos he] at hr; rw [if_neg ho] at hr
                have := or_pack (by_ + 1 + 1) 0 (by omega) (by omega)
                have h2 := andNot_norm 4503599627370496 (by omega)
                rw [show ((4503599627370496 : Nat) : Int) = 4503599627370496 from rfl, show (4503599627370496 : Nat) % 4503599627370496 = 0 from rfl] at h2
                rw [h2, show ((by_ : Int) + 1 + 1) = ((by_ + 1 + 1 : Nat) : Int) by omega, this, hr]
                all_goals omega
              have HV := Lib.hid hv
              have ho' : by_ + 1 + 1 < 2047 := by omega
              clear hdd ho hv he
              go_enter Tryz.func48, Tryz.ntmps48
              go_wp2_with (first
                | (go_at_call 62
                   refine HLEN.out.mono ?_
                   rintro e w2 ⟨rfl, rfl⟩)
                | (go_at_call 63
                   refine HFR.out.mono ?_
                   rintro e w3 ⟨rfl, rfl⟩)
                | (go_at_call 64
                   refine HBI.out.mono ?_
                   rintro e w4 ⟨rfl, rfl⟩)
                | (go_at_call 65
                   refine HSO.out.mono ?_
                   rintro e w5 ⟨rfl, rfl⟩))
              go_ret
              refine ⟨?_, rfl⟩
              rw [← HV.out]
              rfl
          · have g1 : ((d : Int) + 1 == 9007199254740992) = false := by rw [beq_eq_false_iff_ne]; omega
            by_cases ho : 2047 ≤ by_ + 1
            · have g2 : decide ((by_ : Int) + 1 ≥ 2047) = true := by rw [decide_eq_true_eq]; omega
              have hv : (9218868437227405312 : Int) = (rb : Int) := by
                have hr := HR.out
                rw [hdd] at hr
                simp only at hr
                simp only [if_neg he] at hr; rw [if_pos ho] at hr
                omega
              have HV := Lib.hid hv
              clear hdd ho hv he
              go_enter Tryz.func48, Tryz.ntmps48
              go_wp2_with (first
                | (go_at_call 62
                   refine HLEN.out.mono ?_
                   rintro e w2 ⟨rfl, rfl⟩)
                | (go_at_call 63
                   refine HFR.out.mono ?_
                   rintro e w3 ⟨rfl, rfl⟩)
                | (go_at_call 64
                   refine HBI.out.mono ?_
                   rintro e w4 ⟨rfl, rfl⟩)
                | (go_at_call 65
                   refine HSO.out.mono ?_
                   rintro e w5 ⟨rfl, rfl⟩))
              go_ret
              refine ⟨?_, rfl⟩
              rw [← HV.out]
              rfl
            · have g2 : decide ((by_ : Int) + 1 ≥ 2047) = false := by rw [decide_eq_false_iff_not]; omega
              have hv : bits BinOp.or IntKind.u64 (((by_ : Int) + 1) * 4503599627370496) (bits BinOp.andNot IntKind.u64 ((d : Int) + 1) 4503599627370496) = (rb : Int) := by
                have hr := HR.out
                rw [hdd] at hr
                simp only at hr
                simp only [if_neg he] at hr; rw [if_neg ho] at hr
                have := or_pack (by_ + 1) ((d + 1) % 4503599627370496) (by omega) (by omega)
                rw [show ((d : Int) + 1) = ((d + 1 : Nat) : Int) by omega, andNot_norm (d + 1) (by omega), show ((by_ : Int) + 1) = ((by_ + 1 : Nat) : Int) by omega, this, hr]
                omega
              have HV := Lib.hid hv
              have ho' : by_ + 1 < 2047 := by omega
              clear hdd ho hv he
              go_enter Tryz.func48, Tryz.ntmps48
              go_wp2_with (first
                | (go_at_call 62
                   refine HLEN.out.mono ?_
                   rintro e w2 ⟨rfl, rfl⟩)
                | (go_at_call 63
                   refine HFR.out.mono ?_
                   rintro e w3 ⟨rfl, rfl⟩)
                | (go_at_call 64
                   refine HBI.out.mono ?_
                   rintro e w4 ⟨rfl, rfl⟩)
                | (go_at_call 65
                   refine HSO.out.mono ?_
                   rintro e w5 ⟨rfl, rfl⟩))
              go_ret
              refine ⟨?_, rfl⟩
              rw [← HV.out]
              rfl
      · have g0 : bits BinOp.and IntKind.u64 (d : Int) 1 = 1 := by rw [and_low1 d (by have := HD.out.2.1.2; omega), hpar]; rfl
        rw [hpar] at HD
        clear hpar
        have hdd : dr = d + 1 := by have := HD.out.1; simpa using this
        have hd53 := HD.out.2.1.2
        have hd52 := HD.out.2.1.1
        by_cases he : d + 1 = 9007199254740992
        · have g1 : ((d : Int) + 1 == 9007199254740992) = true := by rw [beq_iff_eq]; omega
          by_cases ho : 2047 ≤ by_ + 1 + 1
          · have g2 : decide ((by_ : Int) + 1 + 1 ≥ 2047) = true := by rw [decide_eq_true_eq]; omega
            have hv : (9218868437227405312 : Int) = (rb : Int) := by
              have hr := HR.out
              rw [hdd] at hr
              simp only at hr
              simp only [if_pos he] at hr; rw [if_pos ho] at hr
              omega
            have HV := Lib.hid hv
            clear hdd ho hv he
            go_enter Tryz.func48, Tryz.ntmps48
            go_wp2_with (first
              | (go_at_call 62
                 refine HLEN.out.mono ?_
                 rintro e w2 ⟨rfl, rfl⟩)
              | (go_at_call 63
                 refine HFR.out.mono ?_
                 rintro e w3 ⟨rfl, rfl⟩)
              | (go_at_call 64
                 refine HBI.out.mono ?_
                 rintro e w4 ⟨rfl, rfl⟩)
              | (go_at_call 65
                 refine HSO.out.mono ?_
                 rintro e w5 ⟨rfl, rfl⟩))
            go_ret
            refine ⟨?_, rfl⟩
            rw [← HV.out]
            rfl
          · have g2 : decide ((by_ : Int) + 1 + 1 ≥ 2047) = false := by rw [decide_eq_false_iff_not]; omega
            have hv : bits BinOp.or IntKind.u64 (((by_ : Int) + 1 + 1) * 4503599627370496) (bits BinOp.andNot IntKind.u64 4503599627370496 4503599627370496) = (rb : Int) := by
              have hr := HR.out
              rw [hdd] at hr
              simp only at hr
              simp only [if_pos he] at hr; rw [if_neg ho] at hr
              have := or_pack (by_ + 1 + 1) 0 (by omega) (by omega)
              have h2 := andNot_norm 4503599627370496 (by omega)
              rw [show ((4503599627370496 : Nat) : Int) = 4503599627370496 from rfl, show (4503599627370496 : Nat) % 4503599627370496 = 0 from rfl] at h2
              rw [h2, show ((by_ : Int) + 1 + 1) = ((by_ + 1 + 1 : Nat) : Int) by omega, this, hr]
              all_goals omega
            have HV := Lib.hid hv
            have ho' : by_ + 1 + 1 < 2047 := by omega
            clear hdd ho hv he
            go_enter Tryz.func48, Tryz.ntmps48
            go_wp2_with (first
              | (go_at_call 62
                 refine HLEN.out.mono ?_
                 rintro e w2 ⟨rfl, rfl⟩)
              | (go_at_call 63
                 refine HFR.out.mono ?_
                 rintro e w3 ⟨rfl, rfl⟩)
              | (go_at_call 64
                 refine HBI.out.mono ?_
                 rintro e w4 ⟨rfl, rfl⟩)
              | (go_at_call 65
                 refine HSO.out.mono ?_
                 rintro e w5 ⟨rfl, rfl⟩))
            go_ret
            refine ⟨?_, rfl⟩
            rw [← HV.out]
            rfl
        · have g1 : ((d : Int) + 1 == 9007199254740992) = false := by rw [beq_eq_false_iff_ne]; omega
          by_cases ho : 2047 ≤ by_ + 1
          · have g2 : decide ((by_ : Int) + 1 ≥ 2047) = true := by rw [decide_eq_true_eq]; omega
            have hv : (9218868437227405312 : Int) = (rb : Int) := by
              have hr := HR.out
              rw [hdd] at hr
              simp only at hr
              simp only [if_neg he] at hr; rw [if_pos ho] at hr
              omega
            have HV := Lib.hid hv
            clear hdd ho hv he
            go_enter Tryz.func48, Tryz.ntmps48
            go_wp2_with (first
              | (go_at_call 62
                 refine HLEN.out.mono ?_
                 rintro e w2 ⟨rfl, rfl⟩)
              | (go_at_call 63
                 refine HFR.out.mono ?_
                 rintro e w3 ⟨rfl, rfl⟩)
              | (go_at_call 64
                 refine HBI.out.mono ?_
                 rintro e w4 ⟨rfl, rfl⟩)
              | (go_at_call 65
                 refine HSO.out.mono ?_
                 rintro e w5 ⟨rfl, rfl⟩))
            go_ret
            refine ⟨?_, rfl⟩
            rw [← HV.out]
            rfl
          · have g2 : decide ((by_ : Int) + 1 ≥ 2047) = false := by rw [decide_eq_false_iff_not]; omega
            have hv : bits BinOp.or IntKind.u64 (((by_ : Int) + 1) * 4503599627370496) (bits BinOp.andNot IntKind.u64 ((d : Int) + 1) 4503599627370496) = (rb : Int) := by
              have hr := HR.out
              rw [hdd] at hr
              simp only at hr
              simp only [if_neg he] at hr; rw [if_neg ho] at hr
              have := or_pack (by_ + 1) ((d + 1) % 4503599627370496) (by omega) (by omega)
              rw [show ((d : Int) + 1) = ((d + 1 : Nat) : Int) by omega, andNot_norm (d + 1) (by omega), show ((by_ : Int) + 1) = ((by_ + 1 : Nat) : Int) by omega, this, hr]
              omega
            have HV := Lib.hid hv
            have ho' : by_ + 1 < 2047 := by omega
            clear hdd ho hv he
            go_enter Tryz.func48, Tryz.ntmps48
            go_wp2_with (first
              | (go_at_call 62
                 refine HLEN.out.mono ?_
                 rintro e w2 ⟨rfl, rfl⟩)
              | (go_at_call 63
                 refine HFR.out.mono ?_
                 rintro e w3 ⟨rfl, rfl⟩)
              | (go_at_call 64
                 refine HBI.out.mono ?_
                 rintro e w4 ⟨rfl, rfl⟩)
              | (go_at_call 65
                 refine HSO.out.mono ?_
                 rintro e w5 ⟨rfl, rfl⟩))
            go_ret
            refine ⟨?_, rfl⟩
            rw [← HV.out]
            rfl
end Go.Proofs.YtipkiiblghnoiaaGreatDoor.Sm
