/- The reference's wide numbers: round. By an AI agent. -/
import Derived.Test.YtipkiiblghnoiaaGreatDoorSumJ
import Derived.Test.YtipkiiblghnoiaaGreatDoorSumG
namespace Go.Proofs.YtipkiiblghnoiaaGreatDoor.Sm
open Go.ChangeShapes Go.WideShapes Go.ChangeAt Go.RowKit
set_option linter.unusedVariables false
set_option linter.unusedSimpArgs false

theorem v70_lt {f : Nat → Nat} (hf : ∀ j, f j < 4294967296) (j : Nat) (hj : 2240 ≤ j) : (V70 f).testBit j = false := by
  have h1 : V70 f < 4294967296 ^ 70 := wv_lt (by decide) (fun i _ => hf i)
  obtain ⟨a, ha⟩ : ∃ a, j = a + 32 * 70 := ⟨j - 2240, by omega⟩
  refine Nat.testBit_lt_two_pow ?_
  rw [ha, pow_word32]
  exact Nat.lt_of_lt_of_le h1 (Nat.le_mul_of_pos_left _ (Nat.pow_pos (by decide)))
theorem shift_one (V m : Nat) : V >>> m = 2 * (V >>> (m + 1)) + (V.testBit m).toNat := by
  rw [Nat.shiftRight_succ, Nat.toNat_testBit, Nat.shiftRight_eq_div_pow]
  omega
theorem zero_bits {V : Nat} (h : ∀ j, V.testBit j = false) : V = 0 := Nat.eq_of_testBit_eq (fun j => by rw [h j, Nat.zero_testBit])
theorem top_len {V k : Nat} (hb : V.testBit k = true) (h : ∀ j, k < j → V.testBit j = false) : lenN V = k + 1 :=
  len_lenN (len_of_top (Nat.lt_pow_two_of_testBit _ (fun j hj => h j (by omega))) hb)
theorem shift_top {V k : Nat} (h : lenN V = k + 1) : V >>> (k + 1) = 0 := by
  have := (lenN_len V).1
  rw [h] at this
  rw [Nat.shiftRight_eq_div_pow]
  exact Nat.div_eq_of_lt this
theorem shift_lt53 {V k m : Nat} (h : lenN V = k + 1) (hk : k < m + 53) : V >>> m < 9007199254740992 := by
  have h1 := (lenN_len V).1
  rw [h] at h1
  rw [Nat.shiftRight_eq_div_pow, Nat.div_lt_iff_lt_mul (Nat.pow_pos (by decide))]
  have h2 : 2 ^ (k + 1) ≤ 2 ^ (53 + m) := Nat.pow_le_pow_right (by decide) (by omega)
  rw [Nat.pow_add 2 53 m] at h2
  exact Nat.lt_of_lt_of_le h1 h2

theorem mod_next (V j : Nat) : decide (V % 2 ^ (j + 1) ≠ 0) = (decide (V % 2 ^ j ≠ 0) || V.testBit j) := by
  by_cases h : V % 2 ^ j = 0
  · rcases hb : V.testBit j with _ | _
    · have : V % 2 ^ (j + 1) = 0 := mod_bits.2 (fun i hi => by
        rcases Nat.lt_succ_iff_lt_or_eq.1 hi with h1 | rfl
        · exact mod_bits.1 h i h1
        · exact hb)
      simp [h, this]
    · have : V % 2 ^ (j + 1) ≠ 0 := fun hc => by
        have := mod_bits.1 hc j (by omega)
        rw [hb] at this; cases this
      simp [h, this]
  · have : V % 2 ^ (j + 1) ≠ 0 := fun hc => h (mod_bits.2 (fun i hi => mod_bits.1 hc i (by omega)))
    simp [h, this]

set_option maxRecDepth 100000 in
set_option maxHeartbeats 8000000 in
theorem round_any {w : World} {b : Nat} {f : Nat → Nat} (h : WdAt w b f) (hf : ∀ j, f j < 4294967296) :
    Calls Tryz.prog 55 #[.pointer (some ⟨b, 0, none⟩)] w fun e w' => e = .returned (.float .f64 (roundB (V70 f))) ∧ w' = w := by
  have HBIT := Lib.hid (fun (i : Nat) (hi : i < 2240) => bit3_any h hf i hi)
  have HTOP := Lib.hid (v70_lt hf)
  clear h hf
  generalize V70 f = V at *
  generalize hrb : roundB V = rb
  have HRB := Lib.hid hrb
  clear hrb
  refine (show ∀ Q : Ending → World → Prop, (∀ e w', (e = .returned (.float .f64 rb) ∧ w' = w) → Q e w') → Calls Tryz.prog 55 #[.pointer (some ⟨b, 0, none⟩)] w Q from ?_) _ (fun _ _ h => h)
  intro Q hQ
  have HQ := Lib.hid hQ
  clear hQ
  go_enter Tryz.func55, Tryz.ntmps55
  go_wp2_with fail
  go_loopg [3] 2240 (fun gq s3 wx => s3 = .int .i64 ((gq : Int) - 1) ∧ w = wx ∧ Hid (gq ≤ 2240 ∧ ∀ j, gq ≤ j → V.testBit j = false))
  case atStart => exact ⟨rfl, rfl, Nat.le_refl _, HTOP.out⟩
  case round =>
    obtain ⟨rfl, rfl, HK⟩ := hrel
    rcases Nat.eq_zero_or_pos gk with hz | hz
    · subst hz
      have hr0 : rb = 0 := by
        rw [← HRB.out, zero_bits (fun j => HK.out.2 j (Nat.zero_le _))]
        rfl
      subst hr0
      go_wp2_with fail
      exact HQ.out _ _ ⟨rfl, rfl⟩
    obtain ⟨k, rfl⟩ : ∃ k, gk = k + 1 := ⟨gk - 1, by omega⟩
    have hk : k < 2240 := by have := HK.out.1; omega
    have em : (((k + 1 : Nat) : Int) - 1) = (k : Int) := by omega
    rw [em]
    clear em hz
    have HB := Lib.hid (HBIT.out k hk)
    rcases hb : V.testBit k with _ | _
    · rw [hb] at HB
      have HX := Lib.hid hb
      clear hb
      go_wp2_with (go_at_call 66
                   refine HB.out.mono ?_
                   rintro e w2 ⟨rfl, h2⟩
                   obtain rfl : w = w2 := h2.symm)
      go_roundg k
      all_goals first | omega | exact ⟨rfl, rfl, by omega, fun j h1 => by
        rcases Nat.eq_or_lt_of_le h1 with h | h
        · rw [← h]; exact HX.out
        · exact HK.out.2 j (by omega)⟩
    rw [hb] at HB
    have hlen : lenN V = k + 1 := top_len hb (fun j hj => HK.out.2 j (by omega))
    have HLEN := Lib.hid hlen
    clear hb hlen HK
    by_cases hk52 : k ≤ 52
    · have d1 : decide ((k : Int) > 52) = false := by rw [decide_eq_false_iff_not]; omega
      have d1' : decide (52 < k) = false := by rw [decide_eq_false_iff_not]; omega
      have hrv : rb = V := by rw [← HRB.out, round_small HLEN.out (by omega)]
      have HRV := Lib.hid hrv
      clear hrv
      go_wp2_with (go_at_call 66
                   refine HB.out.mono ?_
                   rintro e w2 ⟨rfl, h2⟩
                   obtain rfl : w = w2 := h2.symm)
      go_loopg [5, 6] (k + 1) (fun gq s5 s6 wx => s5 = .int .u64 ((V >>> gq : Nat) : Int) ∧ s6 = .int .i64 ((gq : Int) - 1) ∧ w = wx ∧ Hid (gq ≤ k + 1))
      case atStart =>
        refine ⟨?_, ?_, rfl, Nat.le_refl _⟩
        · rw [shift_top HLEN.out]; rfl
        · congr 1; omega
      case round =>
        obtain ⟨rfl, rfl, rfl, HG⟩ := hrel
        rcases Nat.eq_zero_or_pos gk with hz | hz
        · subst hz
          have hV := shift_lt53 (m := 0) HLEN.out (by omega)
          rw [show V >>> 0 = V from rfl] at hV ⊢
          have ext := ext_from
          by_cases h52 : V < 4503599627370496
          · have d2 : decide ((V : Int) < 4503599627370496) = true := by rw [decide_eq_true_eq]; omega
            have d2' : decide (V < 4503599627370496) = true := by rw [decide_eq_true_eq]; exact h52
            have d3 : ((V : Int) == 9007199254740992) = false := by rw [beq_eq_false_iff_ne]; omega
            clear h52 hV
            go_wp2_with (go_at_call 66
                         refine (bit3_below).mono ?_
                         rintro e w3 ⟨rfl, h2⟩
                         obtain rfl : w = w3 := h2.symm)
            exact HQ.out _ _ ⟨by rw [HRV.out]; rfl, rfl⟩
          · have d2 : decide ((V : Int) < 4503599627370496) = false := by rw [decide_eq_false_iff_not]; omega
            have d2' : decide (V < 4503599627370496) = false := by rw [decide_eq_false_iff_not]; exact h52
            have d3 : ((V : Int) == 9007199254740992) = false := by rw [beq_eq_false_iff_ne]; omega
            have hge : 4503599627370496 ≤ V := by omega
            clear h52
            go_wp2_with (go_at_call 66
                         refine (bit3_below).mono ?_
                         rintro e w3 ⟨rfl, h2⟩
                         obtain rfl : w = w3 := h2.symm)
            refine HQ.out _ _ ⟨?_, rfl⟩
            rw [HRV.out]
            show Ending.returned (Value.float .f64 (4503599627370496 + V - 4503599627370496)) = _
            rw [show 4503599627370496 + V - 4503599627370496 = V by omega]
        · obtain ⟨i, rfl⟩ : ∃ i, gk = i + 1 := ⟨gk - 1, by omega⟩
          have hik : i ≤ k := by have := HG.out; omega
          have em : (((i + 1 : Nat) : Int) - 1) = (i : Int) := by omega
          rw [em]
          clear em hz
          have HBI := Lib.hid (HBIT.out i (by omega))
          have hsh := shift_one V i
          have hlt := shift_lt53 (m := i) HLEN.out (by omega)
          have HSH := Lib.hid hsh
          clear hsh
          generalize V >>> (i + 1) = y at *
          generalize V.testBit i = bb at *
          have hbb : bb.toNat < 2 := by cases bb <;> decide
          have hy : y < 9007199254740992 := by have := HSH.out; omega
          clear hlt
          generalize bb.toNat = bv at *
          go_wp2_with (go_at_call 66
                       refine HBI.out.mono ?_
                       rintro e w3 ⟨rfl, h2⟩
                       obtain rfl : w = w3 := h2.symm)
          go_roundg i
          all_goals first | omega | skip
          case rel =>
            refine ⟨?_, rfl, rfl, Lib.hid (by omega)⟩
            rw [HSH.out]
            congr 1
            omega
    · obtain ⟨low, hlow⟩ : ∃ low, k = low + 52 := ⟨k - 52, by omega⟩
      obtain ⟨b1, hb1⟩ : ∃ x, low = x + 1 := ⟨low - 1, by omega⟩
      have d1 : decide ((k : Int) > 52) = true := by rw [decide_eq_true_eq]; omega
      have d1' : decide (52 < k) = true := by rw [decide_eq_true_eq]; omega
      have el : (k : Int) - 52 = (low : Int) := by omega
      have el2 : (low : Int) - 1 = (b1 : Int) := by omega
      have hrp := round_parts HLEN.out (show 53 < k + 1 by omega)
      have hdr := dig_range (lenN_len V) (by rw [HLEN.out]; omega)
      have hrr := digR_range (lenN_len V) (by rw [HLEN.out]; omega)
      rw [HLEN.out, show k + 1 - 53 = low by omega] at hdr hrr
      rw [show k + 1 - 53 = low by omega, HRB.out] at hrp
      have hdg := digR_split (V := V) hb1
      have hll : low ≤ 2187 := by omega
      have hbl : b1 < low := by omega
      have HD := Lib.hid (And.intro hdg (And.intro hdr hrr))
      have HR := Lib.hid hrp
      have HLB := Lib.hid (And.intro hlow hb1)
      clear hdg hdr hrr hrp hlow hb1 hk52
      go_wp2_with (go_at_call 66
                   refine HB.out.mono ?_
                   rintro e w2 ⟨rfl, h2⟩
                   obtain rfl : w = w2 := h2.symm)
      go_loopg [5, 6] 53 (fun gq s5 s6 wx => s5 = .int .u64 ((V >>> (gq + low) : Nat) : Int) ∧ s6 = .int .i64 (((gq + low : Nat) : Int) - 1) ∧ w = wx ∧ Hid (gq ≤ 53))
      case atStart =>
        refine ⟨?_, ?_, rfl, Nat.le_refl _⟩
        · have := shift_top HLEN.out
          rw [show 53 + low = k + 1 by have := HLB.out.1; omega, this]; rfl
        · have := HLB.out.1
          congr 1; omega
      case round =>
        obtain ⟨rfl, rfl, rfl, HG⟩ := hrel
        rcases Nat.eq_zero_or_pos gk with hz | hz
        · subst hz
          rw [Nat.zero_add, el2]
          have d2 : decide ((b1 : Int) ≥ (low : Int)) = false := by rw [decide_eq_false_iff_not]; omega
          have d2' : decide (low ≤ b1) = false := by rw [decide_eq_false_iff_not]; omega
          have hl0 : decide ((low : Int) > 0) = true := by rw [decide_eq_true_eq]; omega
          have hl0' : decide (0 < low) = true := by rw [decide_eq_true_eq]; omega
          have HBI := Lib.hid (HBIT.out b1 (by omega))
          have HMZ := Lib.hid (fun j => mod_next V j)
          generalize hd : V >>> low = d at *
          have ext := ext_from
          have hdh := HD.out.2.1.2
          clear hd
          rcases htb : V.testBit b1 with _ | _
          · rw [htb] at HBI HD
            clear htb
            have hdd : digR V low = d := by have := HD.out.1; simpa using this
            have hd52 := HD.out.2.1.1
            have hne : ¬ d = 9007199254740992 := by omega
            have g1 : ((d : Int) == 9007199254740992) = false := by rw [beq_eq_false_iff_ne]; omega
            have g1' : (d == 9007199254740992) = false := by rw [beq_eq_false_iff_ne]; omega
            have g3 : decide ((d : Int) < 4503599627370496) = false := by rw [decide_eq_false_iff_not]; omega
            have g3' : decide (d < 4503599627370496) = false := by rw [decide_eq_false_iff_not]; omega
            by_cases ho : low + 1 ≥ 2047
            · have g2 : decide ((low : Int) > 2045) = true := by rw [decide_eq_true_eq]; omega
              have g2' : decide (2045 < low) = true := by rw [decide_eq_true_eq]; omega
              have hv : rb = 9218868437227405312 := by
                have hr := HR.out
                rw [hdd] at hr
                try simp only at hr
                simp only [if_neg hne] at hr
                rw [if_pos ho] at hr
                exact hr
              have HV := Lib.hid hv
              clear hv hdd hne ho
              go_wp2_with (first
                | (go_at_call 66
                   refine HBI.out.mono ?_
                   rintro e w3 ⟨rfl, h2⟩
                   obtain rfl : w = w3 := h2.symm)
                | (go_at_call 46
                   refine (inf_up _).mono ?_
                   rintro e w6 ⟨rfl, h2⟩
                   obtain rfl : w = w6 := h2.symm))
              exact HQ.out _ _ ⟨by rw [HV.out]; rfl, rfl⟩
            · have g2 : decide ((low : Int) > 2045) = false := by rw [decide_eq_false_iff_not]; omega
              have g2' : decide (2045 < low) = false := by rw [decide_eq_false_iff_not]; omega
              have hv : rb = (low + 1) * 4503599627370496 + (d - 4503599627370496) := by
                have hr := HR.out
                rw [hdd] at hr
                try simp only at hr
                simp only [if_neg hne] at hr
                rw [if_neg ho] at hr
                exact hr
              have HV := Lib.hid hv
              clear hv hdd hne ho
              go_wp2_with (first
                | (go_at_call 66
                   refine HBI.out.mono ?_
                   rintro e w3 ⟨rfl, h2⟩
                   obtain rfl : w = w3 := h2.symm)
                | (go_at_call 46
                   refine (inf_up _).mono ?_
                   rintro e w6 ⟨rfl, h2⟩
                   obtain rfl : w = w6 := h2.symm))
              refine HQ.out _ _ ⟨?_, rfl⟩
              rw [HV.out]
              refine congrArg (fun x => Ending.returned (Value.float FloatKind.f64 x)) (?_ : _ = _)
              omega
          · rw [htb] at HBI HD
            clear htb
            go_wp2_with (go_at_call 66
                         refine HBI.out.mono ?_
                         rintro e w3 ⟨rfl, h2⟩
                         obtain rfl : w = w3 := h2.symm)
            go_loopg [7, 8] b1 (fun gq s7 s8 wx => ∃ (j : Nat) (z : Bool), gq + j = b1 ∧ s7 = .bool z ∧ s8 = .int .i64 (j : Int) ∧ w = wx ∧ Hid (z = decide (V % 2 ^ j ≠ 0)))
            case atStart => exact ⟨0, false, by omega, rfl, rfl, rfl, by rw [Nat.pow_zero, Nat.mod_one]; rfl⟩
            case round =>
              obtain ⟨j, z, hgj, rfl, rfl, rfl, HZ⟩ := hrel
              by_cases hj : j < b1
              · have HBJ := Lib.hid (HBIT.out j (by omega))
                have hmn := HMZ.out j
                rw [← HZ.out] at hmn
                rcases z with _ | _
                · rcases hbj : V.testBit j with _ | _
                  · rw [hbj] at HBJ hmn
                    have HMN := Lib.hid hmn
                    clear hbj hmn
                    go_wp2_with (go_at_call 66
                                 refine HBJ.out.mono ?_
                                 rintro e w4 ⟨rfl, h2⟩
                                 obtain rfl : w = w4 := h2.symm)
                    go_roundg (gk - 1)
                    all_goals first | omega | exact ⟨j + 1, false, by omega, rfl, rfl, rfl, HMN.out.symm⟩
                  · rw [hbj] at HBJ hmn
                    have HMN := Lib.hid hmn
                    clear hbj hmn
                    go_wp2_with (go_at_call 66
                                 refine HBJ.out.mono ?_
                                 rintro e w4 ⟨rfl, h2⟩
                                 obtain rfl : w = w4 := h2.symm)
                    go_roundg (gk - 1)
                    all_goals first | omega | exact ⟨j + 1, true, by omega, rfl, rfl, rfl, HMN.out.symm⟩
                · have HMN := Lib.hid hmn
                  clear hmn
                  go_wp2_with fail
                  go_roundg (gk - 1)
                  all_goals first | omega | exact ⟨j + 1, true, by omega, rfl, rfl, rfl, by rw [HMN.out]; rfl⟩
              · obtain rfl : j = b1 := by omega
                rcases z with _ | _
                · have hz0 : ¬ (V % 2 ^ j ≠ 0) := of_decide_eq_false HZ.out.symm
                  rcases Nat.mod_two_eq_zero_or_one d with hpar | hpar
                  · have hdd : digR V low = d := by
                      have h0 := HD.out.1
                      rw [if_neg (by intro hc; rcases hc.2 with h | h; (rw [hpar] at h; cases h); exact hz0 h)] at h0
                      exact h0
                    have em2 : (d : Int) % 2 = 0 := by omega
                    have em2' : d % 2 = 0 := hpar
                    clear hpar hz0
                    have hd52 := HD.out.2.1.1
                    have hne : ¬ d = 9007199254740992 := by omega
                    have g1 : ((d : Int) == 9007199254740992) = false := by rw [beq_eq_false_iff_ne]; omega
                    have g1' : (d == 9007199254740992) = false := by rw [beq_eq_false_iff_ne]; omega
                    have g3 : decide ((d : Int) < 4503599627370496) = false := by rw [decide_eq_false_iff_not]; omega
                    have g3' : decide (d < 4503599627370496) = false := by rw [decide_eq_false_iff_not]; omega
                    by_cases ho : low + 1 ≥ 2047
                    · have g2 : decide ((low : Int) > 2045) = true := by rw [decide_eq_true_eq]; omega
                      have g2' : decide (2045 < low) = true := by rw [decide_eq_true_eq]; omega
                      have hv : rb = 9218868437227405312 := by
                        have hr := HR.out
                        rw [hdd] at hr
                        try simp only at hr
                        simp only [if_neg hne] at hr
                        rw [if_pos ho] at hr
                        exact hr
                      have HV := Lib.hid hv
                      clear hv hdd hne ho
                      go_wp2_with (first
                        | (go_at_call 66
                           refine HBI.out.mono ?_
                           rintro e w3 ⟨rfl, h2⟩
                           obtain rfl : w = w3 := h2.symm)
                        | (go_at_call 46
                           refine (inf_up _).mono ?_
                           rintro e w6 ⟨rfl, h2⟩
                           obtain rfl : w = w6 := h2.symm))
                      exact HQ.out _ _ ⟨by rw [HV.out]; rfl, rfl⟩
                    · have g2 : decide ((low : Int) > 2045) = false := by rw [decide_eq_false_iff_not]; omega
                      have g2' : decide (2045 < low) = false := by rw [decide_eq_false_iff_not]; omega
                      have hv : rb = (low + 1) * 4503599627370496 + (d - 4503599627370496) := by
                        have hr := HR.out
                        rw [hdd] at hr
                        try simp only at hr
                        simp only [if_neg hne] at hr
                        rw [if_neg ho] at hr
                        exact hr
                      have HV := Lib.hid hv
                      clear hv hdd hne ho
                      go_wp2_with (first
                        | (go_at_call 66
                           refine HBI.out.mono ?_
                           rintro e w3 ⟨rfl, h2⟩
                           obtain rfl : w = w3 := h2.symm)
                        | (go_at_call 46
                           refine (inf_up _).mono ?_
                           rintro e w6 ⟨rfl, h2⟩
                           obtain rfl : w = w6 := h2.symm))
                      refine HQ.out _ _ ⟨?_, rfl⟩
                      rw [HV.out]
                      refine congrArg (fun x => Ending.returned (Value.float FloatKind.f64 x)) (?_ : _ = _)
                      omega
                  · have hdd : digR V low = d + 1 := by
                      have h0 := HD.out.1
                      rw [if_pos ⟨by first | trivial | rfl, Or.inl hpar⟩] at h0
                      exact h0
                    have em2 : (d : Int) % 2 = 1 := by omega
                    have em2' : d % 2 = 1 := hpar
                    clear hpar hz0
                    have hd52 := HD.out.2.1.1
                    by_cases he : d + 1 = 9007199254740992
                    · have g1 : ((d : Int) + 1 == 9007199254740992) = true := by rw [beq_iff_eq]; omega
                      by_cases ho : low + 1 + 1 ≥ 2047
                      · have g2 : decide ((low : Int) + 1 > 2045) = true := by rw [decide_eq_true_eq]; omega
                        have g2' : decide (2045 < low + 1) = true := by rw [decide_eq_true_eq]; omega
                        have hv : rb = 9218868437227405312 := by
                          have hr := HR.out
                          rw [hdd] at hr
                          try simp only at hr
                          simp only [if_pos he] at hr
                          rw [if_pos ho] at hr
                          exact hr
                        have HV := Lib.hid hv
                        clear hv hdd he ho
                        go_wp2_with (first
                          | (go_at_call 66
                             refine HBI.out.mono ?_
                             rintro e w3 ⟨rfl, h2⟩
                             obtain rfl : w = w3 := h2.symm)
                          | (go_at_call 46
                             refine (inf_up _).mono ?_
                             rintro e w6 ⟨rfl, h2⟩
                             obtain rfl : w = w6 := h2.symm))
                        exact HQ.out _ _ ⟨by rw [HV.out]; rfl, rfl⟩
                      · have g2 : decide ((low : Int) + 1 > 2045) = false := by rw [decide_eq_false_iff_not]; omega
                        have g2' : decide (2045 < low + 1) = false := by rw [decide_eq_false_iff_not]; omega
                        have hv : rb = (low + 1 + 1) * 4503599627370496 + (4503599627370496 - 4503599627370496) := by
                          have hr := HR.out
                          rw [hdd] at hr
                          try simp only at hr
                          simp only [if_pos he] at hr
                          rw [if_neg ho] at hr
                          exact hr
                        have HV := Lib.hid hv
                        clear hv hdd he ho
                        go_wp2_with (first
                          | (go_at_call 66
                             refine HBI.out.mono ?_
                             rintro e w3 ⟨rfl, h2⟩
                             obtain rfl : w = w3 := h2.symm)
                          | (go_at_call 46
                             refine (inf_up _).mono ?_
                             rintro e w6 ⟨rfl, h2⟩
                             obtain rfl : w = w6 := h2.symm))
                        refine HQ.out _ _ ⟨?_, rfl⟩
                        rw [HV.out]
                        refine congrArg (fun x => Ending.returned (Value.float FloatKind.f64 x)) (?_ : _ = _)
                        omega
                    · have g1 : ((d : Int) + 1 == 9007199254740992) = false := by rw [beq_eq_false_iff_ne]; omega
                      have g3 : decide ((d : Int) + 1 < 4503599627370496) = false := by rw [decide_eq_false_iff_not]; omega
                      have g3' : decide (d + 1 < 4503599627370496) = false := by rw [decide_eq_false_iff_not]; omega
                      by_cases ho : low + 1 ≥ 2047
                      · have g2 : decide ((low : Int) > 2045) = true := by rw [decide_eq_true_eq]; omega
                        have g2' : decide (2045 < low) = true := by rw [decide_eq_true_eq]; omega
                        have hv : rb = 9218868437227405312 := by
                          have hr := HR.out
                          rw [hdd] at hr
                          try simp only at hr
                          simp only [if_neg he] at hr
                          rw [if_pos ho] at hr
                          exact hr
                        have HV := Lib.hid hv
                        clear hv hdd he ho
                        go_wp2_with (first
                          | (go_at_call 66
                             refine HBI.out.mono ?_
                             rintro e w3 ⟨rfl, h2⟩
                             obtain rfl : w = w3 := h2.symm)
                          | (go_at_call 46
                             refine (inf_up _).mono ?_
                             rintro e w6 ⟨rfl, h2⟩
                             obtain rfl : w = w6 := h2.symm))
                        exact HQ.out _ _ ⟨by rw [HV.out]; rfl, rfl⟩
                      · have g2 : decide ((low : Int) > 2045) = false := by rw [decide_eq_false_iff_not]; omega
                        have g2' : decide (2045 < low) = false := by rw [decide_eq_false_iff_not]; omega
                        have hv : rb = (low + 1) * 4503599627370496 + (d + 1 - 4503599627370496) := by
                          have hr := HR.out
                          rw [hdd] at hr
                          try simp only at hr
                          simp only [if_neg he] at hr
                          rw [if_neg ho] at hr
                          exact hr
                        have HV := Lib.hid hv
                        clear hv hdd he ho
                        go_wp2_with (first
                          | (go_at_call 66
                             refine HBI.out.mono ?_
                             rintro e w3 ⟨rfl, h2⟩
                             obtain rfl : w = w3 := h2.symm)
                          | (go_at_call 46
                             refine (inf_up _).mono ?_
                             rintro e w6 ⟨rfl, h2⟩
                             obtain rfl : w = w6 := h2.symm))
                        refine HQ.out _ _ ⟨?_, rfl⟩
                        rw [HV.out]
                        refine congrArg (fun x => Ending.returned (Value.float FloatKind.f64 x)) (?_ : _ = _)
                        omega
                · have hz1 : V % 2 ^ j ≠ 0 := of_decide_eq_true HZ.out.symm
                  have hdd : digR V low = d + 1 := by
                    have h0 := HD.out.1
                    rw [if_pos ⟨by first | trivial | rfl, Or.inr hz1⟩] at h0
                    exact h0
                  clear hz1
                  have hd52 := HD.out.2.1.1
                  by_cases he : d + 1 = 9007199254740992
                  · have g1 : ((d : Int) + 1 == 9007199254740992) = true := by rw [beq_iff_eq]; omega
                    by_cases ho : low + 1 + 1 ≥ 2047
                    · have g2 : decide ((low : Int) + 1 > 2045) = true := by rw [decide_eq_true_eq]; omega
                      have g2' : decide (2045 < low + 1) = true := by rw [decide_eq_true_eq]; omega
                      have hv : rb = 9218868437227405312 := by
                        have hr := HR.out
                        rw [hdd] at hr
                        try simp only at hr
                        simp only [if_pos he] at hr
                        rw [if_pos ho] at hr
                        exact hr
                      have HV := Lib.hid hv
                      clear hv hdd he ho
                      go_wp2_with (first
                        | (go_at_call 66
                           refine HBI.out.mono ?_
                           rintro e w3 ⟨rfl, h2⟩
                           obtain rfl : w = w3 := h2.symm)
                        | (go_at_call 46
                           refine (inf_up _).mono ?_
                           rintro e w6 ⟨rfl, h2⟩
                           obtain rfl : w = w6 := h2.symm))
                      exact HQ.out _ _ ⟨by rw [HV.out]; rfl, rfl⟩
                    · have g2 : decide ((low : Int) + 1 > 2045) = false := by rw [decide_eq_false_iff_not]; omega
                      have g2' : decide (2045 < low + 1) = false := by rw [decide_eq_false_iff_not]; omega
                      have hv : rb = (low + 1 + 1) * 4503599627370496 + (4503599627370496 - 4503599627370496) := by
                        have hr := HR.out
                        rw [hdd] at hr
                        try simp only at hr
                        simp only [if_pos he] at hr
                        rw [if_neg ho] at hr
                        exact hr
                      have HV := Lib.hid hv
                      clear hv hdd he ho
                      go_wp2_with (first
                        | (go_at_call 66
                           refine HBI.out.mono ?_
                           rintro e w3 ⟨rfl, h2⟩
                           obtain rfl : w = w3 := h2.symm)
                        | (go_at_call 46
                           refine (inf_up _).mono ?_
                           rintro e w6 ⟨rfl, h2⟩
                           obtain rfl : w = w6 := h2.symm))
                      refine HQ.out _ _ ⟨?_, rfl⟩
                      rw [HV.out]
                      refine congrArg (fun x => Ending.returned (Value.float FloatKind.f64 x)) (?_ : _ = _)
                      omega
                  · have g1 : ((d : Int) + 1 == 9007199254740992) = false := by rw [beq_eq_false_iff_ne]; omega
                    have g3 : decide ((d : Int) + 1 < 4503599627370496) = false := by rw [decide_eq_false_iff_not]; omega
                    have g3' : decide (d + 1 < 4503599627370496) = false := by rw [decide_eq_false_iff_not]; omega
                    by_cases ho : low + 1 ≥ 2047
                    · have g2 : decide ((low : Int) > 2045) = true := by rw [decide_eq_true_eq]; omega
                      have g2' : decide (2045 < low) = true := by rw [decide_eq_true_eq]; omega
                      have hv : rb = 9218868437227405312 := by
                        have hr := HR.out
                        rw [hdd] at hr
                        try simp only at hr
                        simp only [if_neg he] at hr
                        rw [if_pos ho] at hr
                        exact hr
                      have HV := Lib.hid hv
                      clear hv hdd he ho
                      go_wp2_with (first
                        | (go_at_call 66
                           refine HBI.out.mono ?_
                           rintro e w3 ⟨rfl, h2⟩
                           obtain rfl : w = w3 := h2.symm)
                        | (go_at_call 46
                           refine (inf_up _).mono ?_
                           rintro e w6 ⟨rfl, h2⟩
                           obtain rfl : w = w6 := h2.symm))
                      exact HQ.out _ _ ⟨by rw [HV.out]; rfl, rfl⟩
                    · have g2 : decide ((low : Int) > 2045) = false := by rw [decide_eq_false_iff_not]; omega
                      have g2' : decide (2045 < low) = false := by rw [decide_eq_false_iff_not]; omega
                      have hv : rb = (low + 1) * 4503599627370496 + (d + 1 - 4503599627370496) := by
                        have hr := HR.out
                        rw [hdd] at hr
                        try simp only at hr
                        simp only [if_neg he] at hr
                        rw [if_neg ho] at hr
                        exact hr
                      have HV := Lib.hid hv
                      clear hv hdd he ho
                      go_wp2_with (first
                        | (go_at_call 66
                           refine HBI.out.mono ?_
                           rintro e w3 ⟨rfl, h2⟩
                           obtain rfl : w = w3 := h2.symm)
                        | (go_at_call 46
                           refine (inf_up _).mono ?_
                           rintro e w6 ⟨rfl, h2⟩
                           obtain rfl : w = w6 := h2.symm))
                      refine HQ.out _ _ ⟨?_, rfl⟩
                      rw [HV.out]
                      refine congrArg (fun x => Ending.returned (Value.float FloatKind.f64 x)) (?_ : _ = _)
                      omega
        · obtain ⟨i, rfl⟩ : ∃ i, gk = i + 1 := ⟨gk - 1, by omega⟩
          obtain ⟨il, hil⟩ : ∃ il, il = i + low := ⟨_, rfl⟩
          have hik : il ≤ k := by have := HG.out; have := HLB.out.1; omega
          rw [show i + 1 + low = il + 1 by omega]
          have em : (((il + 1 : Nat) : Int) - 1) = (il : Int) := by omega
          rw [em]
          have d2 : decide ((il : Int) ≥ (low : Int)) = true := by rw [decide_eq_true_eq]; omega
          have d2' : decide (low ≤ il) = true := by rw [decide_eq_true_eq]; omega
          have HIL := Lib.hid hil
          have HBI := Lib.hid (HBIT.out il (by omega))
          have hsh := shift_one V il
          have hlt := shift_lt53 (m := il) HLEN.out (by have := HLB.out.1; omega)
          have HSH := Lib.hid hsh
          clear hsh em hz hil
          generalize V >>> (il + 1) = y at *
          generalize V.testBit il = bb at *
          have hbb : bb.toNat < 2 := by cases bb <;> decide
          have hy : y < 9007199254740992 := by have := HSH.out; omega
          clear hlt
          generalize bb.toNat = bv at *
          go_wp2_with (go_at_call 66
                       refine HBI.out.mono ?_
                       rintro e w3 ⟨rfl, h2⟩
                       obtain rfl : w = w3 := h2.symm)
          go_roundg i
          all_goals first | omega | skip
          case rel =>
            rw [← HIL.out]
            refine ⟨?_, rfl, rfl, Lib.hid (by have := HG.out; omega)⟩
            rw [HSH.out]
            congr 1
            omega
end Go.Proofs.YtipkiiblghnoiaaGreatDoor.Sm
