/- The document's own answer for layer 5: taking bits; the next difference. By an AI agent. -/
import Derived.Test.YtafglefiodanbaaDoorSerU
namespace Go.Proofs.YtafglefiodanbaaDoor
open Go.ChangeShapes Go.WideShapes Go.ChangeAt Go.RowKit
open Bt
set_option linter.unusedVariables false

/-- The reference's reader of the bytes B, at a place. -/
structure RB (w : World) (b : Nat) (o : Option Addr) (cap : Nat) (B : List Nat) (at_ : Nat) : Prop where
  cells : w.heap[b]? = some (.cells #[.slice o B.length cap, .int .i64 (at_ : Int)] 61 (0, 0))
  bytes : Bys w o B
  apart : ∀ ad, o = some ad → ad.block < b

theorem RB.keep {w w' : World} {b : Nat} {o : Option Addr} {cap : Nat} {B : List Nat} {at_ at' : Nat} (h : RB w b o cap B at_) (k : Keep (· = b) w w')
    (hc : w'.heap[b]? = some (.cells #[.slice o B.length cap, .int .i64 (at' : Int)] 61 (0, 0))) : RB w' b o cap B at' := by
  refine ⟨hc, fun i hi => ?_, h.apart⟩
  obtain ⟨ad, ho, hcell⟩ := h.bytes i hi
  refine ⟨ad, ho, ?_⟩
  have hb := Nat.ne_of_lt (h.apart ad ho)
  rw [← hcell]
  exact k.cell (cell_in hcell) (by have := addr_add_block ad i; intro e; exact hb (by rw [← this]; exact e))
theorem RB.drew {w : World} {b : Nat} {o : Option Addr} {cap : Nat} {B : List Nat} {at_ : Nat} (h : RB w b o cap B at_) : RB w.drew b o cap B at_ := ⟨h.cells, h.bytes, h.apart⟩
theorem RB.below {w w' : World} {b : Nat} {o : Option Addr} {cap : Nat} {B : List Nat} {at_ : Nat} (h : RB w b o cap B at_) (k : Below (b + 1) w w') : RB w' b o cap B at_ := by
  refine ⟨?_, fun i hi => ?_, h.apart⟩
  · rw [← h.cells]; exact k.block b (by omega)
  · obtain ⟨ad, ho, hcell⟩ := h.bytes i hi
    refine ⟨ad, ho, ?_⟩
    rw [← hcell]
    exact k.cell (by have := addr_add_block ad i; have := h.apart ad ho; omega)

set_option maxRecDepth 100000 in
set_option maxHeartbeats 2000000 in
theorem take_short (b : Nat) (o : Option Addr) (cap : Nat) (B : List Nat) (at_ n : Nat) (w : World) (h : RB w b o cap B at_) (hB : B.length ≤ 1000000000000) (ha : 8 * B.length < at_ + n) (haa : at_ ≤ 8 * B.length) (hn : n ≤ 64) :
    Calls Tryd.prog 25 #[.pointer (some ⟨b, 0, none⟩), .int .i64 n] w fun e w' => e = .returned (.tuple #[.int .u64 0, .bool false]) ∧ w' = w.drew := by
  have c0 := blk_cell h.cells 0
  have c1 := blk_cell h.cells 1
  simp at c0 c1
  clear h
  generalize B.length = len at *
  go_enter Tryd.func25, Tryd.ntmps25
  go_wp2_with fail
  go_region
  go_wp2_with fail
  go_ret2
  exact ⟨rfl, rfl⟩

set_option maxRecDepth 100000 in
set_option maxHeartbeats 2000000 in
theorem take_any (b : Nat) (o : Option Addr) (cap : Nat) (B : List Nat) (at_ n : Nat) (w : World) (h : RB w b o cap B at_) (hB : B.length ≤ 1000000000000) (hv : ∀ i, B.getD i 0 < 256) (ha : at_ + n ≤ 8 * B.length) (hn : n ≤ 64) :
    Calls Tryd.prog 25 #[.pointer (some ⟨b, 0, none⟩), .int .i64 n] w fun e w' => e = .returned (.tuple #[.int .u64 (getB B at_ n : Nat), .bool true]) ∧ RB w' b o cap B (at_ + n) ∧ Keep (· = b) w w' := by
  have HR := Lib.hid h
  have HV := Lib.hid hv
  have d0 := blk_cell h.cells 0
  have d1 := blk_cell h.cells 1
  simp at d0 d1
  clear h hv
  go_enter Tryd.func25, Tryd.ntmps25
  go_wp2_with fail
  go_region
  clear d0 d1
  go_wp2_with fail
  go_loopg [6, 7] n (fun g x i wr => ∃ k : Nat, g + k = n ∧ i = .int .i64 (k : Int) ∧ x = .int .u64 (getB B at_ k : Nat) ∧ Hid (RB wr b o cap B (at_ + k) ∧ Keep (· = b) w wr))
  case atStart => exact ⟨0, by omega, rfl, rfl, ⟨HR.out.drew, (Keep.refl _ _).drew⟩⟩
  case round =>
    obtain ⟨k, hgk, rfl, rfl, HK⟩ := hrel
    by_cases hk : k < n
    · have ha2 : at_ + k < 8 * B.length := by omega
      generalize hA : at_ + k = a at *
      obtain ⟨ad, rfl, hcell⟩ := HK.out.1.bytes (a / 8) (by omega)
      have hb := HV.out (a / 8)
      have c0 := blk_cell HK.out.1.cells 0
      have c1 := blk_cell HK.out.1.cells 1
      have f1 := blk_free HK.out.1.cells 1
      simp at c0 c1
      have hx : getB B at_ k < 2 ^ 63 := Nat.lt_of_lt_of_le (getB_lt B at_ k) (Nat.pow_le_pow_right (by omega) (by omega))
      generalize hX : getB B at_ k = X at *
      generalize hC : B.getD (a / 8) 0 = c at *
      generalize hL : B.length = len at *
      have hand := bit_and c (7 - a % 8) hb
      have ht : (c.testBit (7 - a % 8)).toNat ≤ 1 := by cases c.testBit (7 - a % 8) <;> simp
      generalize hTT : (c.testBit (7 - a % 8)).toNat = t at *
      have HXX := Lib.hid (And.intro hX (And.intro hC (And.intro hL (And.intro hA hTT))))
      have HA := Lib.hid ha
      clear hX hC hL hA ha hTT
      go_wp2_with fail
      go_region
      go_wp2_with fail
      go_roundg (gk - 1)
      case measure => omega
      case rel =>
        refine ⟨k + 1, by omega, rfl, ?_, ?_⟩
        · have hX := HXX.out.1
          have hC := HXX.out.2.1
          have hA := HXX.out.2.2.2.1
          have hTT := HXX.out.2.2.2.2
          rw [getB, hX, hA, bitAt, hC, hTT]
          congr 1
          omega
        · have hA := HXX.out.2.2.2.1
          have hk2 : Keep (· = b) wr (wr.drew.setCell ⟨b, 1, none⟩ (.int .i64 ((a : Int) + 1))) := Keep.setCell (p := ⟨b, 1, none⟩) (Keep.refl (· = b) wr).drew (Or.inl rfl) _
          refine ⟨?_, HK.out.2.trans hk2⟩
          rw [← Nat.add_assoc, hA]
          refine HK.out.1.keep hk2 ?_
          have h := blk_set (w := wr.drew) HK.out.1.cells 1 (.int .i64 ((a : Int) + 1))
          refine Eq.trans h ?_
          simp
    · go_wp2_with fail
      have hkn : k = n := by omega
      subst hkn
      go_ret2
      exact ⟨rfl, HK.out⟩

/-- Taking bits, whether there are so many or not. -/
theorem take_all (b : Nat) (o : Option Addr) (cap : Nat) (B : List Nat) (at_ : Nat) {n : Int} (N : Nat) (en : n = N) (w : World) (h : RB w b o cap B at_) (hB : B.length ≤ 1000000000000) (hv : ∀ i, B.getD i 0 < 256) (haa : at_ ≤ 8 * B.length) (hn : N ≤ 64) :
    Calls Tryd.prog 25 #[.pointer (some ⟨b, 0, none⟩), .int .i64 n] w fun e w' => ∃ x : Nat, ∃ ok : Bool, e = .returned (.tuple #[.int .u64 (x : Nat), .bool ok]) ∧ ok = decide (at_ + N ≤ 8 * B.length) ∧ (at_ + N ≤ 8 * B.length → x = getB B at_ N ∧ RB w' b o cap B (at_ + N)) ∧ Keep (· = b) w w' := by
  subst en
  by_cases hl : at_ + N ≤ 8 * B.length
  · refine (take_any b o cap B at_ N w h hB hv hl hn).mono ?_
    rintro e w' ⟨rfl, h1, h2⟩
    exact ⟨_, true, rfl, (decide_eq_true hl).symm, fun _ => ⟨rfl, h1⟩, h2⟩
  · refine (take_short b o cap B at_ N w h hB (by omega) haa hn).mono ?_
    rintro e w' ⟨rfl, rfl⟩
    exact ⟨0, false, rfl, (decide_eq_false hl).symm, fun h => absurd h hl, (Keep.refl _ _).drew⟩

set_option maxRecDepth 100000 in
set_option maxHeartbeats 2000000 in
theorem next_any (b : Nat) (o : Option Addr) (cap : Nat) (B : List Nat) (at_ : Nat) (w : World) (h : RB w b o cap B at_) (hB : B.length ≤ 1000000000000) (hv : ∀ i, B.getD i 0 < 256) (ha : at_ ≤ 8 * B.length) :
    Calls Tryd.prog 26 #[.pointer (some ⟨b, 0, none⟩)] w fun e w' => e = .returned (.tuple #[.int .u64 ((chg B at_).1 : Nat), .int .i64 ((chg B at_).2.1 : Nat)]) ∧ ((chg B at_).2.1 = 0 → RB w' b o cap B (at_ + (chg B at_).2.2)) ∧ Keep (· = b) w w' := by
  have HR := Lib.hid h
  have HV := Lib.hid hv
  clear h hv
  generalize hch : chg B at_ = ch
  unfold chg at hch
  simp only at hch
  go_enter Tryd.func26, Tryd.ntmps26
  go_wp2_with fail
  refine (take_all b o cap B at_ (n := 1) 1 rfl w HR.out hB HV.out ha (by omega)).mono ?_
  rintro e w1 ⟨x1, ok1, rfl, hok1, hx1, hk1⟩
  have HK1 := Lib.hid hk1
  clear hk1
  by_cases h1 : 8 * B.length - at_ < 1
  · rw [if_pos h1] at hch
    rw [decide_eq_false (by omega)] at hok1
    subst hok1 hch
    clear hx1
    go_wp2_with fail
    go_ret2
    exact ⟨rfl, HK1.out⟩
  · rw [if_neg h1] at hch
    rw [decide_eq_true (by omega)] at hok1
    subst hok1
    obtain ⟨rfl, hr1⟩ := hx1 (by omega)
    have HR1 := Lib.hid hr1
    clear hr1 hx1
    have hg1 : getB B at_ 1 < 2 := getB_lt B at_ 1
    generalize hg : getB B at_ 1 = x1 at *
    have HG := Lib.hid hg
    clear hg
    by_cases h2 : x1 = 0
    · rw [if_pos h2] at hch
      subst hch h2
      go_wp2_with fail
      go_ret2
      exact ⟨rfl, HR1.out, HK1.out⟩
    · rw [if_neg h2] at hch
      have h21 : x1 = 1 := by omega
      subst h21
      clear h2 hg1
      go_wp2_with fail
      refine (take_all b o cap B (at_ + 1) (n := 6) 6 rfl w1 HR1.out hB HV.out (by omega) (by omega)).mono ?_
      rintro e w2 ⟨x2, ok2, rfl, hok2, hx2, hk2⟩
      have HK2 := Lib.hid (HK1.out.trans hk2)
      clear hk2
      by_cases h3 : at_ + 1 + 6 ≤ 8 * B.length
      · rw [decide_eq_true h3] at hok2
        subst hok2
        obtain ⟨hx2', hr2⟩ := hx2 h3
        have HR2 := Lib.hid hr2
        have hlead : getB B (at_ + 1) 6 < 64 := getB_lt B _ 6
        rw [← hx2'] at hch hlead
        clear hr2 hx2 hx2'
        go_wp2_with fail
        refine (take_all b o cap B (at_ + 1 + 6) (n := 6) 6 rfl w2 HR2.out hB HV.out (by omega) (by omega)).mono ?_
        rintro e w3 ⟨x3, ok3, rfl, hok3, hx3, hk3⟩
        have HK3 := Lib.hid (HK2.out.trans hk3)
        clear hk3
        by_cases h4 : at_ + 1 + 6 + 6 ≤ 8 * B.length
        · rw [decide_eq_true h4] at hok3
          subst hok3
          obtain ⟨hx3', hr3⟩ := hx3 h4
          rw [show at_ + 1 + 6 = at_ + 7 by omega] at hx3'
          rw [show at_ + 1 + 6 + 6 = at_ + 13 by omega] at hr3
          have HR3 := Lib.hid hr3
          have hn0 : getB B (at_ + 7) 6 < 64 := getB_lt B _ 6
          rw [← hx3'] at hch hn0
          clear hr3 hx3 hx3'
          rw [if_neg (by omega)] at hch
          go_wp2_with fail
          refine (take_all b o cap B (at_ + 13) (x3 + 1) (by simp) w3 HR3.out hB HV.out (by omega) (by omega)).mono ?_
          rintro e w4 ⟨x4, ok4, rfl, hok4, hx4, hk4⟩
          have HK4 := Lib.hid (HK3.out.trans hk4)
          clear hk4
          by_cases h5 : at_ + 13 + (x3 + 1) ≤ 8 * B.length
          · rw [decide_eq_true h5] at hok4
            subst hok4
            obtain ⟨hx4', hr4⟩ := hx4 h5
            rw [show at_ + 13 + (x3 + 1) = at_ + (13 + (x3 + 1)) by omega] at hr4
            have HR4 := Lib.hid hr4
            rw [if_neg (by omega)] at hch
            have hlt : getB B (at_ + 13) (x3 + 1) < 2 ^ (x3 + 1) := getB_lt B _ _
            rw [← hx4'] at hch hlt
            have hx64 : x4 < 18446744073709551616 := Nat.lt_of_lt_of_le hlt (Nat.pow_le_pow_right (n := 2) (i := x3 + 1) (j := 64) (by omega) (by omega))
            have HLT := Lib.hid hlt
            clear hr4 hx4 hx4' hlt
            by_cases g5 : 64 < x2 + (x3 + 1)
            · rw [if_pos (Or.inl g5)] at hch
              subst hch
              go_wp2_with fail
              go_ret2
              exact ⟨rfl, HK4.out⟩
            · by_cases g6 : x4 % 2 = 0
              · rw [if_pos (Or.inr (Or.inl g6))] at hch
                subst hch
                have g7 : ((x4 : Int) % 2 == 0) = true := by rw [beq_iff_eq]; omega
                clear g6
                go_wp2_with fail
                go_ret2
                exact ⟨rfl, HK4.out⟩
              · have g7 : ((x4 : Int) % 2 == 0) = false := by rw [beq_eq_false_iff_ne]; omega
                by_cases g8 : x4 / 2 ^ x3 = 0
                · rw [if_pos (Or.inr (Or.inr (by simpa using g8)))] at hch
                  subst hch
                  have g9 : ((x4 : Int) / 2 ^ x3 == 0) = true := by
                    rw [beq_iff_eq, show ((x4 : Int) / 2 ^ x3) = ((x4 / 2 ^ x3 : Nat) : Int) by simp, g8]; rfl
                  clear g6 g8
                  go_wp2_with fail
                  go_ret2
                  exact ⟨rfl, HK4.out⟩
                · rw [if_neg (by rintro (h | h | h); (exact g5 h); (exact g6 h); (exact g8 (by simpa using h)))] at hch
                  have g9 : ((x4 : Int) / 2 ^ x3 == 0) = false := by
                    rw [beq_eq_false_iff_ne, show ((x4 : Int) / 2 ^ x3) = ((x4 / 2 ^ x3 : Nat) : Int) by simp]; omega
                  have h9 : IntKind.u64.wrap ((x4 : Int) * 2 ^ (64 - x2 - (x3 + 1))) = ((x4 * 2 ^ (64 - x2 - (x3 + 1)) : Nat) : Int) := by
                    have hp : x4 * 2 ^ (64 - x2 - (x3 + 1)) < 2 ^ (x3 + 1) * 2 ^ (64 - x2 - (x3 + 1)) := Nat.mul_lt_mul_of_pos_right HLT.out (Nat.two_pow_pos _)
                    rw [← Nat.pow_add] at hp
                    have hp2 : 2 ^ (x3 + 1 + (64 - x2 - (x3 + 1))) ≤ 2 ^ 64 := Nat.pow_le_pow_right (by omega) (by omega)
                    rw [show (x4 : Int) * 2 ^ (64 - x2 - (x3 + 1)) = ((x4 * 2 ^ (64 - x2 - (x3 + 1)) : Nat) : Int) by simp]
                    generalize x4 * 2 ^ (64 - x2 - (x3 + 1)) = y at *
                    rw [IntKind.wrap_u64]
                    omega
                  have H9 := Lib.hid h9
                  clear g6 g8 h9
                  subst hch
                  go_wp2_with fail
                  go_ret2
                  refine ⟨?_, HR4.out, HK4.out⟩
                  rw [H9.out]
                  rfl
          · rw [decide_eq_false h5] at hok4
            subst hok4
            rw [if_pos (by omega)] at hch
            subst hch
            clear hx4
            go_wp2_with fail
            go_ret2
            exact ⟨rfl, HK4.out⟩
        · rw [decide_eq_false h4] at hok3
          subst hok3
          rw [if_pos (by omega)] at hch
          subst hch
          clear hx3
          go_wp2_with fail
          go_ret2
          exact ⟨rfl, HK3.out⟩
      · rw [decide_eq_false h3] at hok2
        subst hok2
        rw [if_pos (by omega)] at hch
        subst hch
        clear hx2
        go_wp2_with fail
        go_ret2
        exact ⟨rfl, HK2.out⟩
end Go.Proofs.YtafglefiodanbaaDoor
