/- Contracts of series' writer: a difference; wire's Varint. By an AI agent. -/
import Derived.Test.YtjlnicjnjnkdoaaDoorSerA
import Derived.Test.YtjlnicjnjnkdoaaDoorShelf
import Derived.Shelf.Spec.TrailingZeros
import Derived.Lib.TrailingZeros
import Derived.Lib.BitFns
namespace Go.Proofs.YtjlnicjnjnkdoaaDoor
open Go.ChangeShapes Go.WideShapes Go.ChangeAt Go.RowKit
open Bt
set_option linter.unusedVariables false

theorem bitLen_bounds : ∀ n x : Nat, x < 2 ^ n → n ≤ 64 → x ≠ 0 → 2 ^ (Lib.bitLen x - 1) ≤ x ∧ x < 2 ^ Lib.bitLen x ∧ 1 ≤ Lib.bitLen x ∧ Lib.bitLen x ≤ n := by
  intro n
  induction n with
  | zero => intro x h _ h0; simp at h; omega
  | succ n ih =>
    intro x h hn h0
    have h64 : x < 2 ^ 64 := Nat.lt_of_lt_of_le h (Nat.pow_le_pow_right (by omega) hn)
    rw [Lib.bitLen_half x h0 h64]
    by_cases h1 : x / 2 = 0
    · have : x = 1 := by omega
      subst this
      have e : Lib.bitLen (1 / 2) = 0 := by decide
      rw [e]; omega
    · have h2 : x / 2 < 2 ^ n := by rw [Nat.pow_succ] at h; omega
      obtain ⟨a, b, c, d⟩ := ih (x / 2) h2 (by omega) h1
      generalize Lib.bitLen (x / 2) = L at *
      obtain ⟨K, rfl⟩ : ∃ K, L = K + 1 := ⟨L - 1, by omega⟩
      rw [show 1 + (K + 1) - 1 = K + 1 by omega, show 1 + (K + 1) = (K + 1) + 1 by omega]
      rw [show K + 1 - 1 = K by omega] at a
      have e1 : 2 ^ (K + 1) = 2 ^ K * 2 := Nat.pow_succ ..
      have e2 : 2 ^ (K + 1 + 1) = 2 ^ (K + 1) * 2 := Nat.pow_succ ..
      omega

/-- A number that is not 0, by its ends. -/
theorem ends_of {x : Nat} (h0 : x ≠ 0) (hx : x < 2 ^ 64) : Lib.ctz 64 x < Lib.bitLen x ∧ Lib.bitLen x ≤ 64 ∧ x / 2 ^ Lib.ctz 64 x % 2 = 1 ∧ x / 2 ^ Lib.ctz 64 x * 2 ^ Lib.ctz 64 x = x ∧
    x / 2 ^ Lib.ctz 64 x < 2 ^ (Lib.bitLen x - Lib.ctz 64 x) ∧ 2 ^ (Lib.bitLen x - Lib.ctz 64 x - 1) ≤ x / 2 ^ Lib.ctz 64 x := by
  have hc : Lib.ctz 64 x = Lib.ctzFrom 64 x := by unfold Lib.ctz; rw [if_neg h0]
  obtain ⟨m, hm, hk⟩ := Lib.ctzFrom_spec 64 x (by omega) hx
  rw [← hc] at hm hk
  obtain ⟨a, b, c, d⟩ := bitLen_bounds 64 x hx (by omega) h0
  generalize Lib.ctz 64 x = t at *
  generalize Lib.bitLen x = L at *
  have hp := Nat.two_pow_pos t
  have hq : x / 2 ^ t = 2 * m + 1 := by rw [hm]; exact Nat.mul_div_cancel_left _ hp
  have htL : t < L := by
    refine Nat.lt_of_not_le fun h => ?_
    have h1 : 2 ^ L ≤ 2 ^ t := Nat.pow_le_pow_right (by omega) h
    have h2 : 2 ^ t * 1 ≤ 2 ^ t * (2 * m + 1) := Nat.mul_le_mul_left _ (by omega)
    omega
  refine ⟨htL, d, by rw [hq]; omega, by rw [hq, Nat.mul_comm]; exact hm.symm, ?_, ?_⟩
  · refine (Nat.div_lt_iff_lt_mul hp).2 ?_
    rw [← Nat.pow_add, show L - t + t = L by omega]
    exact b
  · refine (Nat.le_div_iff_mul_le hp).2 ?_
    rw [← Nat.pow_add, show L - t - 1 + t = L - 1 by omega]
    exact a

/-- A difference's bits. -/
def enc (x : Nat) : List Bool :=
  if x = 0 then [false] else true :: (bitsOf (64 - Lib.bitLen x) 6 ++ (bitsOf (Lib.bitLen x - Lib.ctz 64 x - 1) 6 ++ bitsOf (x / 2 ^ Lib.ctz 64 x) (Lib.bitLen x - Lib.ctz 64 x)))

/-- The library's table lies where it should. -/
def Tab (w : World) : Prop := ∀ j, j < 64 → w.cell? ⟨1, j, none⟩ = some (.int .u8 (Lib.deBruijn64tab.getD j 0 : Nat))

set_option maxHeartbeats 1000000 in
theorem tz_core (x k idx : Nat) (w : World) (hx0 : ((x : Int) == 0) = false)
    (key : IntKind.u64.wrap (bits BinOp.and IntKind.u64 (x : Int) (IntKind.u64.wrap (-(x : Int))) * 285870213051353865) / 288230376151711744 = (idx : Int))
    (hi : idx < 64) (hk : k < 64) (hcell : w.cell? ⟨1, idx, none⟩ = some (.int .u8 k)) :
    Calls Tryd.prog 33 #[.int .u64 x] w fun e w' => e = .returned (.int .i64 k) ∧ w' = w := by
  go_enter Tryd.func33, Tryd.ntmps33
  go_wp2_with (simp only [key])
  go_ret
  exact ⟨rfl, rfl⟩

theorem tz_any (x : Nat) (w : World) (h0 : x ≠ 0) (hx : x < 18446744073709551616) (hT : Tab w) :
    Calls Tryd.prog 33 #[.int .u64 x] w fun e w' => e = .returned (.int .i64 (Lib.ctz 64 x : Nat)) ∧ w = w' := by
  obtain ⟨hlow, hk⟩ := Lib.lowest_bit 64 x h0 hx
  obtain ⟨hi, htab⟩ := Lib.deBruijn64_at _ hk
  have hcell := hT _ hi
  rw [htab] at hcell
  exact (tz_core x _ _ w (by simp; omega) (tz64_key x _ hx h0 hlow) hi hk hcell).mono fun e w' ⟨he, hw⟩ => ⟨he, hw.symm⟩

theorem lz_any (x : Nat) (w : World) (hx : x < 18446744073709551616) :
    Calls Tryd.prog 32 #[.int .u64 x] w fun e w' => e = .returned (.int .i64 (64 - (Lib.bitLen x : Int))) ∧ w = w' := by
  have h := Tryd.bits_LeadingZeros64 x w (by omega) (by omega)
  rw [Int.toNat_natCast] at h
  exact h.mono fun e w' ⟨he, hw⟩ => ⟨he, hw.symm⟩

theorem put_int (b base : Nat) (hd : List Nat) (bs : List Bool) {x n : Int} (X N : Nat) (w : World) (hw : WS w b base hd bs) (ex : x = X) (en : n = N) (hx : X < 18446744073709551616) (hn : N ≤ 64) (hlen : hd.length + bs.length ≤ 1000000) :
    Calls Tryd.prog 17 #[.pointer (some ⟨b, 0, none⟩), .int .u64 x, .int .i64 n] w fun e w' => e = .returned (.tuple #[]) ∧ WS w' b base hd (bs ++ bitsOf X N) ∧ Below base w w' := by
  subst ex en
  exact put_any b base hd bs X N w hw hx hn hlen

theorem Tab.below {base : Nat} {w w' : World} (h : Tab w) (hb : Below base w w') (hg : 1 < base) : Tab w' := fun j hj => (hb.cell (p := ⟨1, j, none⟩) hg).trans (h j hj)

set_option maxHeartbeats 1000000 in
theorem change_zero (b base : Nat) (hd : List Nat) (bs : List Bool) (w : World) (hw : WS w b base hd bs) (hlen : hd.length + bs.length ≤ 1000000) :
    Calls Tryd.prog 18 #[.pointer (some ⟨b, 0, none⟩), .int .u64 0] w fun e w' => e = .returned (.tuple #[]) ∧ WS w' b base hd (bs ++ enc 0) ∧ Below base w w' := by
  have HW := Lib.hid hw
  clear hw
  go_enter Tryd.func18, Tryd.ntmps18
  go_wp2_with fail
  refine (put_any b base hd bs 0 1 w HW.out (by omega) (by omega) hlen).mono ?_
  rintro e w1 ⟨rfl, h1⟩
  have H1 := Lib.hid h1
  clear h1
  go_wp2_with fail
  refine bodyPost_ret (results_none rfl _ _ _) rfl ?_
  exact ⟨rfl, H1.out⟩

set_option maxHeartbeats 2000000 in
theorem change_some (b base : Nat) (hd : List Nat) (bs : List Bool) (x : Nat) (w : World) (hw : WS w b base hd bs) (h0 : x ≠ 0) (hx : x < 18446744073709551616) (hlen : hd.length + bs.length ≤ 999900) (hT : Tab w) (hg : 1 < base) :
    Calls Tryd.prog 18 #[.pointer (some ⟨b, 0, none⟩), .int .u64 x] w fun e w' => e = .returned (.tuple #[]) ∧ WS w' b base hd (bs ++ enc x) ∧ Below base w w' := by
  have HW := Lib.hid hw
  have HT := Lib.hid hT
  obtain ⟨e1, e2, e3, e4, e5, e6⟩ := ends_of h0 hx
  have he : enc x = [true] ++ (bitsOf (64 - Lib.bitLen x) 6 ++ (bitsOf (Lib.bitLen x - Lib.ctz 64 x - 1) 6 ++ bitsOf (x / 2 ^ Lib.ctz 64 x) (Lib.bitLen x - Lib.ctz 64 x))) := by unfold enc; rw [if_neg h0]; rfl
  have HE := Lib.hid he
  have hx0 : ((x : Int) == 0) = false := by simp; omega
  have L1 := lz_any x w hx
  have T1 := tz_any x w h0 hx hT
  have HQ : x / 2 ^ Lib.ctz 64 x < 18446744073709551616 := Nat.lt_of_le_of_lt (Nat.div_le_self _ _) hx
  generalize hL : Lib.bitLen x = L at *
  generalize ht : Lib.ctz 64 x = t at *
  have HL1 := Lib.hid L1
  have HT1 := Lib.hid T1
  have HE5 := Lib.hid e5
  clear hw hT he L1 T1 hL ht e3 e4 e5 e6
  go_enter Tryd.func18, Tryd.ntmps18
  go_wp2_with (first | (go_at_call 32; refine HL1.out.mono ?_; rintro e w' ⟨rfl, rfl⟩) | (go_at_call 33; refine HT1.out.mono ?_; rintro e w' ⟨rfl, rfl⟩))
  refine (put_int b base hd bs 1 1 w HW.out rfl rfl (by omega) (by omega) (by omega)).mono ?_
  rintro e w1 ⟨rfl, h1⟩
  have H1 := Lib.hid h1
  clear h1
  go_wp2_with fail
  refine (put_int b base hd _ (64 - L) 6 w1 H1.out.1 (by omega) rfl (by omega) (by omega) (by rw [List.length_append, bitsOf_length]; omega)).mono ?_
  rintro e w2 ⟨rfl, h2⟩
  have H2 := Lib.hid (show _ ∧ _ from ⟨h2.1, H1.out.2.trans h2.2⟩)
  clear h2 H1
  go_wp2_with fail
  refine (put_int b base hd _ (L - t - 1) 6 w2 H2.out.1 (by omega) rfl (by omega) (by omega) (by rw [List.length_append, List.length_append, bitsOf_length, bitsOf_length]; omega)).mono ?_
  rintro e w3 ⟨rfl, h3⟩
  have H3 := Lib.hid (show _ ∧ _ from ⟨h3.1, H2.out.2.trans h3.2⟩)
  clear h3 H2
  go_wp2_with fail
  refine (put_int b base hd _ (x / 2 ^ t) (L - t) w3 H3.out.1 (by simp) (by omega) HQ (by omega) (by rw [List.length_append, List.length_append, List.length_append, bitsOf_length, bitsOf_length, bitsOf_length]; omega)).mono ?_
  rintro e w4 ⟨rfl, h4⟩
  have H4 := Lib.hid (show _ ∧ _ from ⟨h4.1, H3.out.2.trans h4.2⟩)
  clear h4 H3
  go_wp2_with fail
  refine bodyPost_end (results_none rfl _ _ _) rfl ?_
  refine ⟨rfl, ?_, H4.out.2⟩
  have h := H4.out.1
  rw [HE.out]
  simp only [List.append_assoc] at h
  exact h
end Go.Proofs.YtjlnicjnjnkdoaaDoor
