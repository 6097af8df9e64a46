/- Contract of wire.ReadVarint. By an AI agent. -/
import Derived.Test.YtjlnicjnjnkdoaaDoorSerG
namespace Go.Proofs.YtjlnicjnjnkdoaaDoor
open Go.ChangeShapes Go.WideShapes Go.ChangeAt Go.RowKit
open Bt
set_option linter.unusedVariables false

/-- A varint from byte 10 - g on, n ahead of it: the number, how many bytes, the errno. -/
def rv (B : List Nat) : Nat → Nat → Nat × Nat × Nat
  | 0, _ => (0, 0, 2)
  | g + 1, n =>
    if B.length ≤ 9 - g then (0, 0, 2)
    else if 9 - g = 9 ∧ 1 < B.getD (9 - g) 0 then (0, 0, 4)
    else if 128 ≤ B.getD (9 - g) 0 then rv B g (n + B.getD (9 - g) 0 % 128 * 2 ^ (7 * (9 - g)))
    else if 0 < 9 - g ∧ B.getD (9 - g) 0 = 0 then (0, 0, 4)
    else (n + B.getD (9 - g) 0 * 2 ^ (7 * (9 - g)), 9 - g + 1, 0)

/-- What a step of a varint adds. -/
theorem rv_or (n c i : Nat) (hn : n < 2 ^ (7 * i)) (hc : c < 128) (hi : i < 9 ∨ i = 9 ∧ c ≤ 1) : n + c * 2 ^ (7 * i) < 18446744073709551616 ∧ n + c * 2 ^ (7 * i) < 2 ^ (7 * (i + 1)) ∧
    bits BinOp.or IntKind.u64 (n : Int) ((c * 2 ^ (7 * i) : Nat) : Int) = ((n + c * 2 ^ (7 * i) : Nat) : Int) := by
  have h1 : n + c * 2 ^ (7 * i) < (c + 1) * 2 ^ (7 * i) := by rw [Nat.add_mul, Nat.one_mul]; omega
  have h3 : (c + 1) * 2 ^ (7 * i) ≤ 2 ^ 7 * 2 ^ (7 * i) := Nat.mul_le_mul_right _ (by omega)
  have h2 : (c + 1) * 2 ^ (7 * i) ≤ 18446744073709551616 := by
    rcases hi with hi | ⟨hi, hc1⟩
    · rw [← Nat.pow_add] at h3
      have h4 : 2 ^ (7 + 7 * i) ≤ 2 ^ 64 := Nat.pow_le_pow_right (by omega) (by omega)
      omega
    · subst hi
      have : c = 0 ∨ c = 1 := by omega
      rcases this with rfl | rfl <;> decide
  refine ⟨by omega, ?_, ?_⟩
  · rw [show 7 * (i + 1) = 7 + 7 * i by omega, Nat.pow_add]; omega
  · rw [bits_or_u64_nat n (c * 2 ^ (7 * i)) (by omega) (by omega)]
    congr 1
    rw [Nat.or_comm, ← Nat.shiftLeft_eq, ← Nat.shiftLeft_add_eq_or_of_lt hn, Nat.add_comm]

set_option maxRecDepth 100000 in
set_option maxHeartbeats 2000000 in
theorem readVarint_any (o : Option Addr) (cap : Nat) (B : List Nat) (w : World) (hF : Bys w o B) (hB : B.length ≤ 1000000000000) (hv : ∀ i, B.getD i 0 < 256) :
    Calls Tryd.prog 29 #[.slice o B.length cap] w fun e w' => e = .returned (.tuple #[.int .u64 ((rv B 10 0).1 : Nat), .int .i64 ((rv B 10 0).2.1 : Nat), .int .i64 ((rv B 10 0).2.2 : Nat)]) ∧ w = w' := by
  have HF := Lib.hid hF
  have HV := Lib.hid hv
  clear hF hv
  generalize hR : rv B 10 0 = R
  have HR := Lib.hid hR
  clear hR
  generalize hlen : B.length = len at *
  have HLEN := Lib.hid hlen
  clear hlen
  go_enter Tryd.func29, Tryd.ntmps29
  go_wp2_with fail
  go_loopg [5, 6] 10 (fun g n i wr => g ≤ 10 ∧ i = .int .i64 ((10 - g : Nat) : Int) ∧ wr = w ∧ ∃ N : Nat, n = .int .u64 (N : Int) ∧ Hid (N < 2 ^ (7 * (10 - g)) ∧ rv B g N = R))
  case atStart => exact ⟨by omega, rfl, rfl, 0, rfl, by decide, HR.out⟩
  case round =>
    obtain ⟨hg, rfl, rfl, N, rfl, HK⟩ := hrel
    cases gk with
    | zero =>
      have hr := HK.out.2
      unfold rv at hr
      subst hr
      by_cases h1 : len ≤ 10
      · go_wp2_with fail
        go_ret3
        exact ⟨rfl, rfl⟩
      · go_wp2_with fail
        go_ret3
        exact ⟨rfl, rfl⟩
    | succ g =>
      have hr := HK.out.2
      unfold rv at hr
      rw [HLEN.out] at hr
      have hN := HK.out.1
      rw [show 10 - (g + 1) = 9 - g by omega] at hN ⊢
      by_cases h1 : len ≤ 9 - g
      · rw [if_pos h1] at hr
        subst hr
        clear hN
        generalize 9 - g = i at *
        go_wp2_with fail
        go_ret3
        exact ⟨rfl, rfl⟩
      · rw [if_neg h1] at hr
        obtain ⟨ad, rfl, hcell⟩ := HF.out (9 - g) (by rw [HLEN.out]; omega)
        have hb := HV.out (9 - g)
        generalize B.getD (9 - g) 0 = c at *
        have hi9 : 9 - g ≤ 9 := by omega
        have hgi : g = 9 - (9 - g) := by omega
        generalize 9 - g = i at *
        by_cases h2 : i = 9 ∧ 1 < c
        · rw [if_pos h2] at hr
          obtain ⟨h2a, h2b⟩ := h2
          subst hr
          have h9 : ((i : Int) == 9) = true := by rw [beq_iff_eq]; omega
          have hlt : i < len := by omega
          have hl10 : i < 10 := by omega
          clear hN h2a hi9 hgi
          go_wp2_with fail
          go_ret3
          exact ⟨rfl, rfl⟩
        · rw [if_neg h2] at hr
          have hand : bits BinOp.and IntKind.u8 (c : Int) 127 = ((c % 128 : Nat) : Int) := by
            have h := u8_and_nat c 127 hb (by omega)
            have h2 : ∀ x : Fin 256, x.val &&& 127 = x.val % 128 := by decide +kernel
            have h3 := h2 ⟨c, hb⟩
            simp only at h3
            rw [h3] at h
            exact h
          have hcs : i < 9 ∨ i = 9 ∧ c % 128 ≤ 1 := by
            by_cases h9 : i = 9
            · right; refine ⟨h9, ?_⟩
              have : ¬ 1 < c := fun h => h2 ⟨h9, h⟩
              omega
            · left; omega
          obtain ⟨hn64, hnx, hor⟩ := rv_or N (c % 128) i hN (by omega) hcs
          have hwr : IntKind.u64.wrap ((c : Int) % 128 * 2 ^ (7 * i)) = ((c % 128 * 2 ^ (7 * i) : Nat) : Int) := by
            rw [show (c : Int) % 128 * 2 ^ (7 * i) = ((c % 128 * 2 ^ (7 * i) : Nat) : Int) by simp]
            generalize c % 128 * 2 ^ (7 * i) = y at *
            rw [IntKind.wrap_u64]
            omega
          rw [← hwr] at hor
          have HX := Lib.hid (And.intro hn64 hnx)
          have HOR := Lib.hid hor
          have h9f : ¬ (i = 9 ∧ 1 < c) := h2
          clear h2 hN hn64 hnx hcs hwr hor
          by_cases h3 : 128 ≤ c
          · rw [if_pos h3] at hr
            have HRR := Lib.hid hr
            clear hr
            have h9 : ((i : Int) == 9) = false := by rw [beq_eq_false_iff_ne]; omega
            go_wp2_with fail
            go_roundg g
            case measure => omega
            case rel =>
              rw [HOR.out, show 10 - g = i + 1 by omega]
              exact ⟨by omega, rfl, rfl, _, rfl, HX.out.2, HRR.out⟩
          · rw [if_neg h3] at hr
            have hl10 : i < 10 := by omega
            have hc128 : c % 128 = c := by omega
            by_cases h4 : 0 < i ∧ c = 0
            · rw [if_pos h4] at hr
              obtain ⟨h4a, h4b⟩ := h4
              subst hr
              have h40 : ((c : Int) == 0) = true := by rw [beq_iff_eq]; omega
              have hnz : ¬ i = 0 := by omega
              clear h4b hi9 hgi hc128
              by_cases h9 : i = 9
              · have h9t : ((i : Int) == 9) = true := by rw [beq_iff_eq]; omega
                have h1c : ¬ 1 < c := by omega
                clear h9
                go_wp2_with fail
                go_ret3
                exact ⟨rfl, rfl⟩
              · have h9t : ((i : Int) == 9) = false := by rw [beq_eq_false_iff_ne]; omega
                clear h9
                go_wp2_with fail
                go_ret3
                exact ⟨rfl, rfl⟩
            · rw [if_neg h4] at hr
              subst hr
              have HC := Lib.hid (show ((N + c % 128 * 2 ^ (7 * i) : Nat) : Int) = ((N + c * 2 ^ (7 * i) : Nat) : Int) by rw [hc128])
              have hi10 : i + 1 < 1000 := by omega
              clear hc128
              by_cases h9 : i = 9
              · have h9t : ((i : Int) == 9) = true := by rw [beq_iff_eq]; omega
                have h1c : ¬ 1 < c := by omega
                have h40 : ((c : Int) == 0) = false := by rw [beq_eq_false_iff_ne]; omega
                have hi0 : 0 < i := by omega
                clear h9 hgi
                go_wp2_with fail
                go_ret3
                rw [HOR.out, HC.out]
                exact ⟨rfl, rfl⟩
              · have h9t : ((i : Int) == 9) = false := by rw [beq_eq_false_iff_ne]; omega
                clear hgi
                by_cases h0 : 0 < i
                · have h40 : ((c : Int) == 0) = false := by rw [beq_eq_false_iff_ne]; omega
                  clear h9
                  go_wp2_with fail
                  go_ret3
                  rw [HOR.out, HC.out]
                  exact ⟨rfl, rfl⟩
                · clear h9
                  go_wp2_with fail
                  go_ret3
                  rw [HOR.out, HC.out]
                  exact ⟨rfl, rfl⟩
end Go.Proofs.YtjlnicjnjnkdoaaDoor
