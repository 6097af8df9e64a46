/- The document's own answer for layer 5, Unpack: contracts. By an AI agent. -/
import Derived.Test.YtafglefiodanbaaDoorSerP
import Derived.Test.YtafglefiodanbaaDoorSerJ
namespace Go.Proofs.YtafglefiodanbaaDoor
open Go.ChangeShapes Go.WideShapes Go.ChangeAt Go.RowKit
open Bt
set_option linter.unusedVariables false

set_option maxRecDepth 100000 in
set_option maxHeartbeats 2000000 in
theorem refVarint_any (o : Option Addr) (cap : Nat) (B : List Nat) (w : World) (hF : Bys w o B) (hB : B.length ≤ 1000000000000) (hv : ∀ i, B.getD i 0 < 256) :
    Calls Tryd.prog 24 #[.slice o B.length cap] w fun e w' => e = .returned (.tuple #[.int .u64 ((rv B 10 0).1 : Nat), .int .i64 ((rv B 10 0).2.1 : Nat), .int .i64 ((rv B 10 0).2.2 : Nat)]) ∧ w = w' := by
  have HF := Lib.hid hF
  have HV := Lib.hid hv
  clear hF hv
  generalize hR : rv B 10 0 = R
  have HR := Lib.hid hR
  clear hR
  generalize hlen : B.length = len at *
  have HLEN := Lib.hid hlen
  clear hlen
  go_enter Tryd.func24, Tryd.ntmps24
  go_wp2_with fail
  go_loopg [5, 6, 7] 10 (fun g n sc i wr => g ≤ 10 ∧ 1 ≤ g ∧ 10 - g ≤ len ∧ i = .int .i64 ((10 - g : Nat) : Int) ∧ sc = .int .u64 ((2 ^ (7 * (10 - g)) : Nat) : Int) ∧ wr = w ∧ ∃ N : Nat, n = .int .u64 (N : Int) ∧ Hid (N < 2 ^ (7 * (10 - g)) ∧ rv B g N = R))
  case atStart => exact ⟨by omega, by omega, by omega, rfl, rfl, rfl, 0, rfl, by decide, HR.out⟩
  case round =>
    obtain ⟨hg, hg1, hil, rfl, rfl, rfl, N, rfl, HK⟩ := hrel
    obtain ⟨g, rfl⟩ : ∃ g, gk = g + 1 := ⟨gk - 1, by omega⟩
    have hr := HK.out.2
    unfold rv at hr
    rw [HLEN.out] at hr
    have hN := HK.out.1
    rw [show 10 - (g + 1) = 9 - g by omega] at hN hil ⊢
    have hi9 : 9 - g ≤ 9 := by omega
    have hgi : g = 9 - (9 - g) := by omega
    by_cases h1 : len ≤ 9 - g
    · rw [if_pos h1] at hr
      subst hr
      have hl : len = 9 - g := by omega
      clear hN
      generalize 9 - g = i at *
      generalize 2 ^ (7 * i) = S
      subst hl
      go_wp2_with fail
      go_ret3
      exact ⟨rfl, rfl⟩
    · rw [if_neg h1] at hr
      obtain ⟨ad, rfl, hcell⟩ := HF.out (9 - g) (by rw [HLEN.out]; omega)
      have hb := HV.out (9 - g)
      generalize B.getD (9 - g) 0 = c at *
      generalize 9 - g = i at *
      have hnl : ((i : Int) == (len : Int)) = false := by rw [beq_eq_false_iff_ne]; omega
      by_cases h2 : i = 9 ∧ 1 < c
      · rw [if_pos h2] at hr
        obtain ⟨h2a, h2b⟩ := h2
        subst hr
        have h9 : ((i : Int) == 9) = true := by rw [beq_iff_eq]; omega
        have hlt : i < len := by omega
        have hl10 : i < 10 := by omega
        generalize 2 ^ (7 * i) = S
        clear hN h2a hi9 hgi
        go_wp2_with fail
        go_ret3
        exact ⟨rfl, rfl⟩
      · rw [if_neg h2] at hr
        have hcs : i < 9 ∨ i = 9 ∧ c % 128 ≤ 1 := by
          by_cases h9 : i = 9
          · right; refine ⟨h9, ?_⟩
            have : ¬ 1 < c := fun h => h2 ⟨h9, h⟩
            omega
          · left; omega
        obtain ⟨hn64, hnx, -⟩ := rv_or N (c % 128) i hN (by omega) hcs
        have hS9 : i < 9 → 2 ^ (7 * i) * 128 < 18446744073709551616 := fun h => by
          rw [show 128 = 2 ^ 7 by rfl, ← Nat.pow_add]
          exact Nat.lt_of_le_of_lt (Nat.pow_le_pow_right (n := 2) (j := 63) (by omega) (by omega)) (by omega)
        have hSn : 2 ^ (7 * (i + 1)) = 2 ^ (7 * i) * 128 := by rw [show 7 * (i + 1) = 7 * i + 7 by omega, Nat.pow_add]
        rw [hSn] at hnx
        have HSN := Lib.hid hSn
        clear hSn hN
        have hr2 := hr
        generalize hSS : 2 ^ (7 * i) = S at *
        generalize hT : c % 128 * S = T at *
        have hwT : IntKind.u64.wrap ((c : Int) % 128 * (S : Int)) = (T : Int) := by
          rw [show (c : Int) % 128 * (S : Int) = ((c % 128 * S : Nat) : Int) by simp, hT, IntKind.wrap_u64]
          omega
        have HX := Lib.hid hnx
        have HSS := Lib.hid (And.intro hSS hT)
        clear hnx hSS hT hcs hr2
        by_cases h3 : 128 ≤ c
        · rw [if_pos h3] at hr
          have HRR := Lib.hid hr
          have h9 : ((i : Int) == 9) = false := by rw [beq_eq_false_iff_ne]; omega
          have hS := hS9 (by omega)
          clear hr hS9
          have hi8 : i < 9 := by omega
          go_wp2_with fail
          go_roundg g
          case measure => omega
          case rel =>
            rw [show 10 - g = i + 1 by omega, HSN.out]
            exact ⟨by omega, by omega, by omega, rfl, rfl, rfl, N + T, rfl, HX.out, HRR.out⟩
        · rw [if_neg h3] at hr
          have hc128 : c % 128 = c := by omega
          have hcT : c * S = T := by rw [← hc128]; exact HSS.out.2
          rw [hcT] at hr
          have hl10 : i < 10 := by omega
          clear hcT hc128
          by_cases h4 : 0 < i ∧ c = 0
          · rw [if_pos h4] at hr
            obtain ⟨h4a, h4b⟩ := h4
            subst hr
            have h40 : ((c : Int) == 0) = true := by rw [beq_iff_eq]; omega
            have hnz : ¬ i = 0 := by omega
            have h1c : ¬ 1 < c := by omega
            clear h4b hi9 hgi hS9
            by_cases h9 : i = 9
            · have h9t : ((i : Int) == 9) = true := by rw [beq_iff_eq]; omega
              clear h9
              go_wp2_with fail
              go_ret3
              exact ⟨rfl, rfl⟩
            · have h9t : ((i : Int) == 9) = false := by rw [beq_eq_false_iff_ne]; omega
              clear h9
              go_wp2_with fail
              go_ret3
              exact ⟨rfl, rfl⟩
          · rw [if_neg h4] at hr
            subst hr
            have hi10 : i + 1 < 1000 := by omega
            by_cases h9 : i = 9
            · have h9t : ((i : Int) == 9) = true := by rw [beq_iff_eq]; omega
              have h1c : ¬ 1 < c := by omega
              have h40 : ((c : Int) == 0) = false := by rw [beq_eq_false_iff_ne]; omega
              have hi0 : 0 < i := by omega
              clear h9 hgi h2 hS9
              go_wp2_with fail
              go_ret3
              exact ⟨rfl, rfl⟩
            · have h9t : ((i : Int) == 9) = false := by rw [beq_eq_false_iff_ne]; omega
              clear hgi h2 hS9
              by_cases h0 : 0 < i
              · have h40 : ((c : Int) == 0) = false := by rw [beq_eq_false_iff_ne]; omega
                clear h9
                go_wp2_with fail
                go_ret3
                exact ⟨rfl, rfl⟩
              · clear h9
                go_wp2_with fail
                go_ret3
                exact ⟨rfl, rfl⟩
end Go.Proofs.YtafglefiodanbaaDoor
