/- Contracts of series' reader: number, rest; wire.ReadVarint. By an AI agent. -/
import Derived.Test.YtjlnicjnjnkdoaaDoorSerF
namespace Go.Proofs.YtjlnicjnjnkdoaaDoor
open Go.ChangeShapes Go.WideShapes Go.ChangeAt Go.RowKit
open Bt
set_option linter.unusedVariables false

/-- The i-th number's bits, the errno, how many bits were taken. -/
def num (B : List Nat) (at_ i last : Nat) : Nat × Nat × Nat :=
  if 0 < i then (last ^^^ (chg B at_).1, (chg B at_).2.1, (chg B at_).2.2) else if 8 * B.length - at_ < 64 then (0, 2, 0) else (getB B at_ 64, 0, 64)

theorem chg_ok (B : List Nat) (at_ : Nat) (ha : at_ ≤ 8 * B.length) : (chg B at_).1 < 18446744073709551616 ∧ at_ + (chg B at_).2.2 ≤ 8 * B.length := by
  unfold chg
  simp only
  split
  · exact ⟨by simp only; omega, by simp only; omega⟩
  split
  · exact ⟨by simp only; omega, by simp only; omega⟩
  split
  · exact ⟨by simp only; omega, by simp only; omega⟩
  split
  · exact ⟨by simp only; omega, by simp only; omega⟩
  rename_i h1 h2 h3 h4
  split
  · exact ⟨by simp only; omega, by simp only; omega⟩
  rename_i h5
  refine ⟨?_, by simp only; omega⟩
  have hx := getB_lt B (at_ + 13) (getB B (at_ + 7) 6 + 1)
  generalize getB B (at_ + 13) (getB B (at_ + 7) 6 + 1) = x at *
  generalize getB B (at_ + 7) 6 = n0 at *
  generalize getB B (at_ + 1) 6 = lead at *
  have h6 : lead + (n0 + 1) ≤ 64 := by omega
  have hp : x * 2 ^ (64 - lead - (n0 + 1)) < 2 ^ (n0 + 1) * 2 ^ (64 - lead - (n0 + 1)) := Nat.mul_lt_mul_of_pos_right hx (Nat.two_pow_pos _)
  rw [← Nat.pow_add] at hp
  have hp2 : 2 ^ (n0 + 1 + (64 - lead - (n0 + 1))) ≤ 2 ^ 64 := Nat.pow_le_pow_right (by omega) (by omega)
  exact Nat.lt_of_lt_of_le hp hp2

theorem num_ok (B : List Nat) (at_ i last : Nat) (ha : at_ ≤ 8 * B.length) (hl : last < 18446744073709551616) : (num B at_ i last).1 < 18446744073709551616 ∧ at_ + (num B at_ i last).2.2 ≤ 8 * B.length := by
  unfold num
  split
  · exact ⟨xor_u64 hl (chg_ok B at_ ha).1, (chg_ok B at_ ha).2⟩
  split
  · exact ⟨by simp only; omega, by simp only; omega⟩
  · exact ⟨getB_lt B at_ 64, by simp only; omega⟩

set_option maxRecDepth 100000 in
set_option maxHeartbeats 2000000 in
theorem number_any (b : Nat) (o : Option Addr) (cap : Nat) (B : List Nat) (at_ i last : Nat) (w : World) (h : RS w b o cap B at_) (hB : B.length ≤ 1000000000000) (hv : ∀ i, B.getD i 0 < 256) (ha : at_ ≤ 8 * B.length) (hl : last < 18446744073709551616) (hi : i < 1000000) :
    Calls Tryd.prog 30 #[.pointer (some ⟨b, 0, none⟩), .int .i64 i, .int .u64 last] w fun e w' => e = .returned (.tuple #[.int .u64 ((num B at_ i last).1 : Nat), .int .i64 ((num B at_ i last).2.1 : Nat)]) ∧ RS w' b o cap B (at_ + (num B at_ i last).2.2) ∧ Keep (· = b) w w' := by
  have HR := Lib.hid h
  have HV := Lib.hid hv
  have L0 := Lib.hid (left_any b o cap B at_ w h hB ha)
  have C0 := Lib.hid (rchange_any b o cap B at_ w h hB hv ha)
  clear h hv
  generalize hnm : num B at_ i last = nm
  unfold num at hnm
  go_enter Tryd.func30, Tryd.ntmps30
  by_cases h1 : 0 < i
  · rw [if_pos h1] at hnm
    have hc := (chg_ok B at_ ha).1
    generalize chg B at_ = c at *
    have hx := bits_xor_u64_nat last c.1 hl hc
    go_wp2_with fail
    refine C0.out.mono ?_
    rintro e w1 ⟨rfl, hr1, hk1⟩
    have H1 := Lib.hid (And.intro hr1 hk1)
    clear hr1 hk1
    subst hnm
    go_wp2_with fail
    go_ret2
    exact ⟨rfl, H1.out⟩
  · rw [if_neg h1] at hnm
    by_cases h2 : 8 * B.length - at_ < 64
    · rw [if_pos h2] at hnm
      subst hnm
      go_wp2_with (go_at_call 49; refine L0.out.mono ?_; rintro e w' ⟨rfl, rfl⟩)
      go_ret2
      exact ⟨rfl, HR.out.drew, (Keep.refl _ _).drew⟩
    · rw [if_neg h2] at hnm
      subst hnm
      go_wp2_with (go_at_call 49; refine L0.out.mono ?_; rintro e w' ⟨rfl, rfl⟩)
      refine (get_int b o cap B at_ (n := 64) 64 rfl w.drew HR.out.drew hB HV.out (by omega) (by omega)).mono ?_
      rintro e w1 ⟨rfl, hr1, hk1⟩
      have H1 := Lib.hid (And.intro hr1 ((Keep.refl _ _).drew.trans hk1))
      clear hr1 hk1
      go_wp2_with fail
      go_ret2
      exact ⟨rfl, H1.out⟩

/-- The bits that fill the last byte. -/
def rst (B : List Nat) (at_ : Nat) : Nat × Nat :=
  if getB B at_ ((8 - at_ % 8) % 8) = 0 then ((at_ + 7) / 8, 0) else (0, 4)

theorem getB_zero_cons (B : List Nat) (at_ n : Nat) : getB B at_ (n + 1) = 0 ↔ bitAt B at_ = false ∧ getB B (at_ + 1) n = 0 := by
  induction n with
  | zero => simp [getB]
  | succ n ih =>
    have e : at_ + (n + 1) = at_ + 1 + n := by omega
    have e1 : getB B at_ (n + 1 + 1) = 2 * getB B at_ (n + 1) + (bitAt B (at_ + (n + 1))).toNat := rfl
    have e2 : getB B (at_ + 1) (n + 1) = 2 * getB B (at_ + 1) n + (bitAt B (at_ + 1 + n)).toNat := rfl
    rw [e1, e2, e]
    constructor
    · intro h
      have h1 : getB B at_ (n + 1) = 0 := by omega
      have := ih.1 h1
      refine ⟨this.1, by omega⟩
    · rintro ⟨h1, h2⟩
      have h3 : getB B (at_ + 1) n = 0 := by omega
      have := ih.2 ⟨h1, h3⟩
      omega

set_option maxRecDepth 100000 in
set_option maxHeartbeats 2000000 in
theorem rest_any (b : Nat) (o : Option Addr) (cap : Nat) (B : List Nat) (at_ : Nat) (w : World) (h : RS w b o cap B at_) (hB : B.length ≤ 1000000000000) (hv : ∀ i, B.getD i 0 < 256) (ha : at_ ≤ 8 * B.length) :
    Calls Tryd.prog 31 #[.pointer (some ⟨b, 0, none⟩)] w fun e w' => e = .returned (.tuple #[.int .i64 ((rst B at_).1 : Nat), .int .i64 ((rst B at_).2 : Nat)]) ∧ Keep (· = b) w w' := by
  have HR := Lib.hid h
  have HV := Lib.hid hv
  clear h hv
  generalize hrs : rst B at_ = rs
  have HRS := Lib.hid hrs
  clear hrs
  go_enter Tryd.func31, Tryd.ntmps31
  go_wp2_with fail
  go_loopg [] ((8 - at_ % 8) % 8) (fun g wr => ∃ a : Nat, a ≤ 8 * B.length ∧ (8 - a % 8) % 8 = g ∧ Hid (rst B a = rs ∧ RS wr b o cap B a ∧ Keep (· = b) w wr))
  case atStart => exact ⟨at_, ha, rfl, HRS.out, HR.out, Keep.refl _ _⟩
  case round =>
    obtain ⟨a, haa, hg, HK⟩ := hrel
    have c1 := blk_cell HK.out.2.1.cells 1
    simp at c1
    have hL := hB
    generalize hlen : B.length = len at *
    have HLEN := Lib.hid hlen
    clear hlen
    by_cases h0 : a % 8 = 0
    · have hrs := HK.out.1
      unfold rst at hrs
      rw [show (8 - a % 8) % 8 = 0 by omega] at hrs
      simp only [getB, if_true] at hrs
      rw [show (a + 7) / 8 = a / 8 by omega] at hrs
      subst hrs
      have h00 : ((a : Int) % 8 == 0) = true := by rw [beq_iff_eq]; omega
      go_wp2_with fail
      go_ret2
      exact ⟨rfl, HK.out.2.2⟩
    · have hg8 : gk = 8 - a % 8 := by omega
      have hb1 : getB B a 1 < 2 := getB_lt B a 1
      have hgB := getB_zero_cons B a (gk - 1)
      rw [show gk - 1 + 1 = gk by omega] at hgB
      have hbit : getB B a 1 = (bitAt B a).toNat := by simp [getB]
      have G1 := Lib.hid (get_int b o cap B a (n := 1) 1 rfl wr HK.out.2.1 (by rw [HLEN.out]; exact hL) HV.out (by rw [HLEN.out]; omega) (by omega))
      have hrs := HK.out.1
      unfold rst at hrs
      rw [hg] at hrs
      have h00 : ((a : Int) % 8 == 0) = false := by rw [beq_eq_false_iff_ne]; omega
      by_cases h1 : bitAt B a = true
      · rw [h1] at hbit
        rw [hbit] at G1
        rw [if_neg (by rw [hgB, h1]; simp)] at hrs
        subst hrs
        clear hgB hbit h1 hb1
        go_wp2_with fail
        refine G1.out.mono ?_
        rintro e w1 ⟨rfl, hr1, hk1⟩
        have H1 := Lib.hid (HK.out.2.2.trans hk1)
        clear hr1 hk1
        go_wp2_with fail
        go_ret2
        exact ⟨rfl, H1.out⟩
      · have h1f : bitAt B a = false := by simpa using h1
        rw [h1f] at hbit
        rw [hbit] at G1
        have hnx : rst B (a + 1) = rs := by
          rw [← hrs]
          unfold rst
          by_cases ha7 : (a + 1) % 8 = 0
          · have hgk1 : gk = 1 := by omega
            rw [show (8 - (a + 1) % 8) % 8 = 0 by omega, hgk1]
            rw [hbit]
            simp only [getB, if_true, Bool.toNat_false]
            rw [show (a + 1 + 7) / 8 = (a + 7) / 8 by omega]
          · rw [show (8 - (a + 1) % 8) % 8 = gk - 1 by omega]
            by_cases hz : getB B (a + 1) (gk - 1) = 0
            · rw [if_pos hz, if_pos (hgB.2 ⟨h1f, hz⟩), show (a + 1 + 7) / 8 = (a + 7) / 8 by omega]
            · rw [if_neg hz, if_neg (fun h => hz (hgB.1 h).2)]
        have HN := Lib.hid hnx
        clear hgB hbit h1 hb1 hrs h1f hnx
        go_wp2_with fail
        refine G1.out.mono ?_
        rintro e w1 ⟨rfl, hr1, hk1⟩
        have H1 := Lib.hid (And.intro hr1 (HK.out.2.2.trans hk1))
        clear hr1 hk1
        go_wp2_with fail
        go_roundg (gk - 1)
        case measure => omega
        case rel => exact ⟨a + 1, by omega, by omega, HN.out, H1.out⟩
end Go.Proofs.YtjlnicjnjnkdoaaDoor
