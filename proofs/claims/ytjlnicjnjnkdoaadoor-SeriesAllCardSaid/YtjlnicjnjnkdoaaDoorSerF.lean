/- Contracts of series' reader. By an AI agent. -/
import Derived.Test.YtjlnicjnjnkdoaaDoorSerE
import Derived.Laws.Bits64b
namespace Go.Proofs.YtjlnicjnjnkdoaaDoor
open Go.ChangeShapes Go.WideShapes Go.ChangeAt Go.RowKit
open Bt
set_option linter.unusedVariables false

/-- A slice of bytes. -/
def Bys (w : World) (o : Option Addr) (B : List Nat) : Prop := ∀ i, i < B.length → ∃ ad, o = some ad ∧ w.cell? (ad.add i) = some (.int .u8 (B.getD i 0 : Nat))

/-- A reader of the bytes B, at a place. -/
structure RS (w : World) (b : Nat) (o : Option Addr) (cap : Nat) (B : List Nat) (at_ : Nat) : Prop where
  cells : w.heap[b]? = some (.cells #[.slice o B.length cap, .int .i64 (at_ : Int)] 63 (0, 0))
  bytes : Bys w o B
  apart : ∀ ad, o = some ad → ad.block < b

theorem addr_add_block (a : Addr) (i : Nat) : (a.add i).block = a.block := by
  unfold Addr.add; split <;> rfl

theorem RS.keep {w w' : World} {b : Nat} {o : Option Addr} {cap : Nat} {B : List Nat} {at_ at' : Nat} (h : RS w b o cap B at_) (k : Keep (· = b) w w')
    (hc : w'.heap[b]? = some (.cells #[.slice o B.length cap, .int .i64 (at' : Int)] 63 (0, 0))) : RS w' b o cap B at' := by
  refine ⟨hc, fun i hi => ?_, h.apart⟩
  obtain ⟨ad, ho, hcell⟩ := h.bytes i hi
  refine ⟨ad, ho, ?_⟩
  have hb := Nat.ne_of_lt (h.apart ad ho)
  rw [← hcell]
  exact k.cell (cell_in hcell) (by have := addr_add_block ad i; intro e; exact hb (by rw [← this]; exact e))

theorem bit_and (c m : Nat) (hc : c < 256) : bits BinOp.and IntKind.u8 ((c : Int) / 2 ^ m) 1 = ((c.testBit m).toNat : Int) := by
  have e : ((c : Int) / 2 ^ m) = ((c / 2 ^ m : Nat) : Int) := by simp
  rw [e]
  have hlt : c / 2 ^ m < 256 := Nat.lt_of_le_of_lt (Nat.div_le_self _ _) hc
  have h := u8_and_nat (c / 2 ^ m) 1 hlt (by omega)
  rw [Nat.and_one_is_mod, ← Nat.toNat_testBit] at h
  exact h

theorem bit_in (X c m : Nat) (hx : X < 2 ^ 63) (hc : c < 256) : bits BinOp.or IntKind.u64 ((X : Int) * 2) (IntKind.u64.wrap (bits BinOp.and IntKind.u8 ((c : Int) / 2 ^ m) 1)) = ((2 * X + (c.testBit m).toNat : Nat) : Int) := by
  rw [bit_and c m hc]
  have hle : (c.testBit m).toNat ≤ 1 := by cases c.testBit m <;> simp
  generalize hb : (c.testBit m).toNat = b at *
  rw [show IntKind.u64.wrap (b : Int) = (b : Int) by rw [IntKind.wrap_u64]; omega]
  have h1 : (BitVec.ofInt 64 ((X : Int) * 2)).toNat = X * 2 := by
    rw [show (X : Int) * 2 = ((X * 2 : Nat) : Int) by simp, BitVec.ofInt_natCast, BitVec.toNat_ofNat]; exact Nat.mod_eq_of_lt (by omega)
  have h2 : (BitVec.ofInt 64 (b : Int)).toNat = b := by
    rw [BitVec.ofInt_natCast, BitVec.toNat_ofNat]; exact Nat.mod_eq_of_lt (by omega)
  show IntKind.u64.wrap ((BitVec.ofInt 64 ((X : Int) * 2) ||| BitVec.ofInt 64 (b : Int)).toNat : Int) = _
  have h3 : X * 2 ||| b = 2 * X + b := by
    have := Nat.two_pow_add_eq_or_of_lt (i := 1) (b := b) (by omega) X
    rw [Nat.mul_comm X 2]
    exact this.symm
  rw [BitVec.toNat_or, h1, h2, h3, IntKind.wrap_u64]
  omega

/-- n bits from a place on, as a number. -/
def getB (B : List Nat) (at_ : Nat) : Nat → Nat
  | 0 => 0
  | n + 1 => 2 * getB B at_ n + (bitAt B (at_ + n)).toNat
theorem getB_lt (B : List Nat) (at_ n : Nat) : getB B at_ n < 2 ^ n := by
  induction n with
  | zero => simp [getB]
  | succ n ih =>
    unfold getB
    have : (bitAt B (at_ + n)).toNat ≤ 1 := by cases bitAt B (at_ + n) <;> simp
    rw [Nat.pow_succ]
    omega

set_option maxRecDepth 100000 in
set_option maxHeartbeats 2000000 in
theorem left_any (b : Nat) (o : Option Addr) (cap : Nat) (B : List Nat) (at_ : Nat) (w : World) (h : RS w b o cap B at_) (hB : B.length ≤ 1000000000000) (ha : at_ ≤ 8 * B.length) :
    Calls Tryd.prog 49 #[.pointer (some ⟨b, 0, none⟩)] w fun e w' => e = .returned (.int .i64 (8 * (B.length : Int) - (at_ : Int))) ∧ w' = w.drew := by
  have c0 := blk_cell h.cells 0
  have c1 := blk_cell h.cells 1
  simp at c0 c1
  clear h
  generalize B.length = n at *
  go_enter Tryd.func49, Tryd.ntmps49
  go_wp2_with fail
  go_region
  go_wp2_with fail
  go_ret
  exact ⟨rfl, rfl⟩

set_option maxRecDepth 100000 in
set_option maxHeartbeats 2000000 in
theorem get_any (b : Nat) (o : Option Addr) (cap : Nat) (B : List Nat) (at_ n : Nat) (w : World) (h : RS w b o cap B at_) (hB : B.length ≤ 1000000000000) (hv : ∀ i, B.getD i 0 < 256) (ha : at_ + n ≤ 8 * B.length) (hn : n ≤ 64) :
    Calls Tryd.prog 50 #[.pointer (some ⟨b, 0, none⟩), .int .i64 n] w fun e w' => e = .returned (.int .u64 (getB B at_ n : Nat)) ∧ RS w' b o cap B (at_ + n) ∧ Keep (· = b) w w' := by
  have HR := Lib.hid h
  have HV := Lib.hid hv
  clear h hv
  go_enter Tryd.func50, Tryd.ntmps50
  go_wp2_with fail
  go_loopg [5, 7] n (fun g x i wr => ∃ k : Nat, g + k = n ∧ i = .int .i64 (k : Int) ∧ x = .int .u64 (getB B at_ k : Nat) ∧ Hid (RS wr b o cap B (at_ + k) ∧ Keep (· = b) w wr))
  case atStart => exact ⟨0, by omega, rfl, rfl, ⟨HR.out, Keep.refl _ _⟩⟩
  case round =>
    obtain ⟨k, hgk, rfl, rfl, HK⟩ := hrel
    by_cases hk : k < n
    · have ha2 : at_ + k < 8 * B.length := by omega
      generalize hA : at_ + k = a at *
      obtain ⟨ad, rfl, hcell⟩ := HK.out.1.bytes (a / 8) (by omega)
      have hb := HV.out (a / 8)
      have c0 := blk_cell HK.out.1.cells 0
      have c1 := blk_cell HK.out.1.cells 1
      have f1 := blk_free HK.out.1.cells 1
      simp at c0 c1
      have hx : getB B at_ k < 2 ^ 63 := Nat.lt_of_lt_of_le (getB_lt B at_ k) (Nat.pow_le_pow_right (by omega) (by omega))
      generalize hX : getB B at_ k = X at *
      generalize hC : B.getD (a / 8) 0 = c at *
      generalize hL : B.length = len at *
      have HXX := Lib.hid (And.intro hX (And.intro hC (And.intro hL hA)))
      have HA := Lib.hid ha
      clear hX hC hL hA ha
      go_wp2_with fail
      go_region
      rw [bit_in X c (7 - a % 8) hx hb]
      go_wp2_with fail
      go_roundg (gk - 1)
      case measure => omega
      case rel =>
        refine ⟨k + 1, by omega, by congr 1, ?_, ?_⟩
        · have hX := HXX.out.1
          have hC := HXX.out.2.1
          have hA := HXX.out.2.2.2
          rw [getB, hX, hA, bitAt, hC]
        · have hA := HXX.out.2.2.2
          have hk2 : Keep (· = b) wr (wr.drew.setCell ⟨b, 1, none⟩ (.int .i64 ((a : Int) + 1))) := Keep.setCell (p := ⟨b, 1, none⟩) (Keep.refl (· = b) wr).drew (Or.inl rfl) _
          refine ⟨?_, HK.out.2.trans hk2⟩
          rw [← Nat.add_assoc, hA]
          refine HK.out.1.keep hk2 ?_
          have h := blk_set (w := wr.drew) HK.out.1.cells 1 (.int .i64 ((a : Int) + 1))
          refine Eq.trans h ?_
          simp
    · go_wp2_with fail
      have hkn : k = n := by omega
      subst hkn
      go_ret
      exact ⟨rfl, HK.out⟩

theorem get_int (b : Nat) (o : Option Addr) (cap : Nat) (B : List Nat) (at_ : Nat) {n : Int} (N : Nat) (en : n = N) (w : World) (h : RS w b o cap B at_) (hB : B.length ≤ 1000000000000) (hv : ∀ i, B.getD i 0 < 256) (ha : at_ + N ≤ 8 * B.length) (hn : N ≤ 64) :
    Calls Tryd.prog 50 #[.pointer (some ⟨b, 0, none⟩), .int .i64 n] w fun e w' => e = .returned (.int .u64 (getB B at_ N : Nat)) ∧ RS w' b o cap B (at_ + N) ∧ Keep (· = b) w w' := by
  subst en
  exact get_any b o cap B at_ N w h hB hv ha hn

theorem RS.drew {w : World} {b : Nat} {o : Option Addr} {cap : Nat} {B : List Nat} {at_ : Nat} (h : RS w b o cap B at_) : RS w.drew b o cap B at_ := ⟨h.cells, h.bytes, h.apart⟩

/-- What a difference is: the number, the errno, how many bits were taken. -/
def chg (B : List Nat) (at_ : Nat) : Nat × Nat × Nat :=
  let left := 8 * B.length - at_
  if left < 1 then (0, 2, 0)
  else if getB B at_ 1 = 0 then (0, 0, 1)
  else if left < 13 then (0, 2, 1)
  else
    let lead := getB B (at_ + 1) 6
    let n := getB B (at_ + 7) 6 + 1
    if left < 13 + n then (0, 2, 13)
    else
      let x := getB B (at_ + 13) n
      if 64 < lead + n ∨ x % 2 = 0 ∨ x / 2 ^ (n - 1) = 0 then (0, 4, 13 + n)
      else (x * 2 ^ (64 - lead - n), 0, 13 + n)

set_option maxRecDepth 100000 in
set_option maxHeartbeats 2000000 in
theorem rchange_any (b : Nat) (o : Option Addr) (cap : Nat) (B : List Nat) (at_ : Nat) (w : World) (h : RS w b o cap B at_) (hB : B.length ≤ 1000000000000) (hv : ∀ i, B.getD i 0 < 256) (ha : at_ ≤ 8 * B.length) :
    Calls Tryd.prog 48 #[.pointer (some ⟨b, 0, none⟩)] w fun e w' => e = .returned (.tuple #[.int .u64 ((chg B at_).1 : Nat), .int .i64 ((chg B at_).2.1 : Nat)]) ∧ RS w' b o cap B (at_ + (chg B at_).2.2) ∧ Keep (· = b) w w' := by
  have HR := Lib.hid h
  have HV := Lib.hid hv
  have L0 := Lib.hid (left_any b o cap B at_ w h hB ha)
  clear h hv
  generalize hch : chg B at_ = ch
  unfold chg at hch
  simp only at hch
  go_enter Tryd.func48, Tryd.ntmps48
  by_cases h1 : 8 * B.length - at_ < 1
  · rw [if_pos h1] at hch
    subst hch
    go_wp2_with (go_at_call 49; refine L0.out.mono ?_; rintro e w' ⟨rfl, rfl⟩)
    go_ret2
    exact ⟨rfl, HR.out.drew, (Keep.refl _ _).drew⟩
  · rw [if_neg h1] at hch
    have G1 := Lib.hid (get_int b o cap B at_ (n := 1) 1 rfl w.drew HR.out.drew hB HV.out (by omega) (by omega))
    have hg1 : getB B at_ 1 < 2 := getB_lt B at_ 1
    by_cases h2 : getB B at_ 1 = 0
    · rw [if_pos h2] at hch
      subst hch
      rw [h2] at G1
      clear h2 hg1
      go_wp2_with (go_at_call 49; refine L0.out.mono ?_; rintro e w' ⟨rfl, rfl⟩)
      refine G1.out.mono ?_
      rintro e w1 ⟨rfl, hr1, hk1⟩
      have H1 := Lib.hid (And.intro hr1 ((Keep.refl _ _).drew.trans hk1))
      clear hr1 hk1
      go_wp2_with fail
      go_ret2
      exact ⟨rfl, H1.out⟩
    · rw [if_neg h2] at hch
      have h21 : getB B at_ 1 = 1 := by omega
      rw [h21] at G1
      clear h2 hg1 h21
      go_wp2_with (go_at_call 49; refine L0.out.mono ?_; rintro e w' ⟨rfl, rfl⟩)
      refine G1.out.mono ?_
      rintro e w1 ⟨rfl, hr1, hk1⟩
      have H1 := Lib.hid (And.intro hr1 ((Keep.refl _ _).drew.trans hk1))
      have L1 := Lib.hid (left_any b o cap B (at_ + 1) w1 hr1 hB (by omega))
      clear hr1 hk1 L0 G1
      by_cases h3 : 8 * B.length - at_ < 13
      · rw [if_pos h3] at hch
        subst hch
        go_wp2_with (go_at_call 49; refine L1.out.mono ?_; rintro e w' ⟨rfl, rfl⟩)
        go_ret2
        exact ⟨rfl, H1.out.1.drew, H1.out.2.drew⟩
      · rw [if_neg h3] at hch
        go_wp2_with (go_at_call 49; refine L1.out.mono ?_; rintro e w' ⟨rfl, rfl⟩)
        refine (get_int b o cap B (at_ + 1) (n := 6) 6 rfl w1.drew H1.out.1.drew hB HV.out (by omega) (by omega)).mono ?_
        rintro e w2 ⟨rfl, hr2, hk2⟩
        have H2 := Lib.hid (And.intro hr2 (H1.out.2.drew.trans hk2))
        have hlead : getB B (at_ + 1) 6 < 64 := getB_lt B _ 6
        generalize getB B (at_ + 1) 6 = lead at *
        clear hr2 hk2 L1 H1
        go_wp2_with fail
        refine (get_int b o cap B (at_ + 1 + 6) (n := 6) 6 rfl w2 H2.out.1 hB HV.out (by omega) (by omega)).mono ?_
        rintro e w3 ⟨rfl, hr3, hk3⟩
        have H3 := Lib.hid (And.intro hr3 (H2.out.2.trans hk3))
        have hn0 : getB B (at_ + 7) 6 < 64 := getB_lt B _ 6
        rw [show at_ + 1 + 6 = at_ + 7 by omega]
        generalize getB B (at_ + 7) 6 = n0 at *
        clear hr3 hk3 H2
        rw [show at_ + 1 + 6 + 6 = at_ + 13 by omega] at H3
        have L3 := Lib.hid (left_any b o cap B (at_ + 13) w3 H3.out.1 hB (by omega))
        by_cases h4 : 8 * B.length - at_ < 13 + (n0 + 1)
        · rw [if_pos h4] at hch
          subst hch
          go_wp2_with (go_at_call 49; refine L3.out.mono ?_; rintro e w' ⟨rfl, rfl⟩)
          go_ret2
          exact ⟨rfl, H3.out.1.drew, H3.out.2.drew⟩
        · rw [if_neg h4] at hch
          go_wp2_with (go_at_call 49; refine L3.out.mono ?_; rintro e w' ⟨rfl, rfl⟩)
          refine (get_int b o cap B (at_ + 13) (n0 + 1) (by simp) w3.drew H3.out.1.drew hB HV.out (by omega) (by omega)).mono ?_
          rintro e w4 ⟨rfl, hr4, hk4⟩
          have H4 := Lib.hid (And.intro hr4 (H3.out.2.drew.trans hk4))
          clear hr4 hk4 L3 H3
          have hx : getB B (at_ + 13) (n0 + 1) < 2 ^ (n0 + 1) := getB_lt B _ _
          have hx64 : getB B (at_ + 13) (n0 + 1) < 18446744073709551616 := Nat.lt_of_lt_of_le hx (Nat.pow_le_pow_right (n := 2) (i := n0 + 1) (j := 64) (by omega) (by omega))
          have ha1 : bits BinOp.and IntKind.u64 ((getB B (at_ + 13) (n0 + 1) : Nat) : Int) 1 = ((getB B (at_ + 13) (n0 + 1) % 2 : Nat) : Int) := by
            have h := bits_and_u64_nat (getB B (at_ + 13) (n0 + 1)) 1 hx64 (by omega)
            rw [Nat.and_one_is_mod] at h
            exact h
          generalize getB B (at_ + 13) (n0 + 1) = x at *
          have HX := Lib.hid hx
          clear hx
          rw [show at_ + 13 + (n0 + 1) = at_ + (13 + (n0 + 1)) by omega] at H4
          by_cases h5 : 64 < lead + (n0 + 1)
          · rw [if_pos (Or.inl h5)] at hch
            subst hch
            clear ha1
            go_wp2_with fail
            go_ret2
            exact ⟨rfl, H4.out⟩
          · by_cases h6 : x % 2 = 0
            · rw [if_pos (Or.inr (Or.inl h6))] at hch
              subst hch
              rw [h6] at ha1
              have ha2 : bits BinOp.and IntKind.u64 (x : Int) 1 = 0 := ha1
              clear ha1 h6
              go_wp2_with fail
              go_ret2
              exact ⟨rfl, H4.out⟩
            · have ha2 : bits BinOp.and IntKind.u64 (x : Int) 1 = 1 := by rw [ha1]; omega
              clear ha1
              by_cases h7 : x / 2 ^ n0 = 0
              · rw [if_pos (Or.inr (Or.inr (by simpa using h7)))] at hch
                subst hch
                have h8 : ((x : Int) / 2 ^ n0 == 0) = true := by
                  rw [beq_iff_eq, show ((x : Int) / 2 ^ n0) = ((x / 2 ^ n0 : Nat) : Int) by simp, h7]; rfl
                have H7 := Lib.hid h7
                clear h7 h6
                go_wp2_with fail
                go_ret2
                exact ⟨rfl, H4.out⟩
              · rw [if_neg (by rintro (h | h | h); (exact h5 h); (exact h6 h); (exact h7 (by simpa using h)))] at hch
                have h8 : ((x : Int) / 2 ^ n0 == 0) = false := by
                  rw [beq_eq_false_iff_ne, show ((x : Int) / 2 ^ n0) = ((x / 2 ^ n0 : Nat) : Int) by simp]; omega
                have h9 : IntKind.u64.wrap ((x : Int) * 2 ^ (64 - lead - (n0 + 1))) = ((x * 2 ^ (64 - lead - (n0 + 1)) : Nat) : Int) := by
                  have hp : x * 2 ^ (64 - lead - (n0 + 1)) < 2 ^ (n0 + 1) * 2 ^ (64 - lead - (n0 + 1)) := Nat.mul_lt_mul_of_pos_right HX.out (Nat.two_pow_pos _)
                  rw [← Nat.pow_add] at hp
                  have hp2 : 2 ^ (n0 + 1 + (64 - lead - (n0 + 1))) ≤ 2 ^ 64 := Nat.pow_le_pow_right (by omega) (by omega)
                  rw [show (x : Int) * 2 ^ (64 - lead - (n0 + 1)) = ((x * 2 ^ (64 - lead - (n0 + 1)) : Nat) : Int) by simp]
                  generalize x * 2 ^ (64 - lead - (n0 + 1)) = y at *
                  rw [IntKind.wrap_u64]
                  omega
                have H9 := Lib.hid h9
                have H7 := Lib.hid h7
                clear h7 h6 h9
                subst hch
                go_wp2_with fail
                go_ret2
                refine ⟨?_, H4.out⟩
                rw [H9.out]
                rfl
end Go.Proofs.YtjlnicjnjnkdoaaDoor
