/- The document's own answer for layer 5: put, ends, Varint. By an AI agent. -/
import Derived.Test.YtjlnicjnjnkdoaaDoorSerD
namespace Go.Proofs.YtjlnicjnjnkdoaaDoor
open Go.ChangeShapes Go.WideShapes Go.ChangeAt Go.RowKit
open Bt
set_option linter.unusedVariables false

/-- Bits as a list of numbers. -/
def ones (bs : List Bool) : List Nat := bs.map Bool.toNat
theorem ones_length (bs : List Bool) : (ones bs).length = bs.length := by simp [ones]
theorem ones_append (a b : List Bool) : ones (a ++ b) = ones a ++ ones b := by simp [ones]

/-- A row of bits of the call's own. -/
def RowB (base : Nat) (bs : List Bool) (w : World) (e : Ending) (w' : World) : Prop :=
  ∃ v, e = .returned v ∧ w'.ownsRow base 5 1 v bs.length (u8s (ones bs)) ∧ Below base w w'

set_option maxRecDepth 100000 in
set_option maxHeartbeats 2000000 in
theorem put5_any (base : Nat) (v : Value) (bs : List Bool) (x n : Nat) (w : World) (hown : w.ownsRow base 5 1 v bs.length (u8s (ones bs))) (hx : x < 18446744073709551616) (hn : n ≤ 64) (hlen : bs.length ≤ 1000000) (hbase : base ≤ w.heap.size) :
    Calls Tryd.prog 19 #[v, .int .u64 x, .int .i64 n] w (RowB base (bs ++ bitsOf x n) w) := by
  have HW := Lib.hid hown
  clear hown
  obtain ⟨i0, hi, hz0, hz1, hz2⟩ := info_parts info_u8
  go_enter Tryd.func19, Tryd.ntmps19
  go_wp2_with fail
  go_loopg [0, 7] n (fun g l i wr => g ≤ n ∧ i = .int .i64 ((g : Int) - 1) ∧ Hid (wr.ownsRow base 5 1 l (bs ++ (bitsOf x n).take (n - g)).length (u8s (ones (bs ++ (bitsOf x n).take (n - g)))) ∧ Below base w wr))
  case atStart =>
    have h0 : w.ownsRow base 5 1 v (bs ++ (bitsOf x n).take (n - n)).length (u8s (ones (bs ++ (bitsOf x n).take (n - n)))) := by rw [Nat.sub_self, List.take_zero, List.append_nil]; exact HW.out
    exact ⟨Nat.le_refl _, rfl, h0, Below.refl _ _⟩
  case round =>
    obtain ⟨hg, rfl, HR⟩ := hrel
    cases gk with
    | zero =>
      have e0 : ((0 : Nat) : Int) - 1 = -1 := by omega
      rw [e0]
      clear e0
      go_wp2_with fail
      go_ret
      have := HR.out
      rw [Nat.sub_zero, List.take_of_length_le (Nat.le_of_eq (bitsOf_length x n))] at this
      exact ⟨_, rfl, this⟩
    | succ m =>
      have e1 : ((m + 1 : Nat) : Int) - 1 = (m : Int) := by omega
      rw [e1]
      clear e1
      generalize hcur : bs ++ (bitsOf x n).take (n - (m + 1)) = cur at *
      have hcl : cur.length = bs.length + (n - (m + 1)) := by rw [← hcur, List.length_append, List.length_take, bitsOf_length]; omega
      have hnext : bs ++ (bitsOf x n).take (n - m) = cur ++ [x.testBit m] := by
        rw [show n - m = (n - (m + 1)) + 1 by omega, bitsOf_take _ _ _ (by omega), ← List.append_assoc, hcur, show n - 1 - (n - (m + 1)) = m by omega]
      have HN := Lib.hid hnext
      clear hnext hcur
      have hal := and_one x m hx
      have hbl : (x.testBit m).toNat ≤ 1 := by cases x.testBit m <;> simp
      generalize hbit : (x.testBit m).toNat = bit at *
      have HBIT := Lib.hid hbit
      clear hbit
      have hb8 : IntKind.u8.wrap (bit : Int) = (bit : Int) := by rw [IntKind.wrap_u8]; omega
      go_wp2_with first
        | (at_builtin; refine wpList_append_one _ rfl (.tmp 14) (.tmp 20) 27 rfl base 5 i0 (.int .u8 0) 1 Tryd.underlying27 hi hz0 hz1 hz2 rfl _ _ _ rfl (HR.out.1.alloc _) ⟨wr.heap.size, 0, none⟩ 1 (.int .u8 bit) rfl ?_ rfl ?_ ?_ ?_ ?_)
      · exact cell_one_new _ _ _ 0 _ rfl
      · unfold maxLen; omega
      · omega
      · exact Nat.le_trans hbase (Nat.le_trans HR.out.2.size (by simp))
      · intro g cap w1 hown1 hgr1 hblk1 hg1
        have HO := Lib.hid hown1
        have HB := Lib.hid ((HR.out.2.alloc (Nat.le_trans hbase HR.out.2.size) _).grown hgr1 (by have := HR.out.2.size; simp; omega) (fun k hk => (HR.out.1.lt k hk).1))
        clear hown1 hgr1 hblk1
        go_wp2_with fail
        go_roundg m
        case measure => omega
        case rel =>
          refine ⟨by omega, rfl, ?_, HB.out⟩
          rw [HN.out, ones_append, u8s_append, List.length_append]
          have h := HO.out
          have e : u8s (ones [x.testBit m]) = [Value.int .u8 (bit : Int)] := by rw [← HBIT.out]; rfl
          rw [e]
          rw [hcl]
          simpa [Nat.add_assoc] using h

theorem low_zero {x t s : Nat} (h : x / 2 ^ t * 2 ^ t = x) (hs : s < t) : x.testBit s = false := by
  rw [← h, Nat.mul_comm, Nat.testBit_two_pow_mul]
  simp; omega
theorem low_one {x t : Nat} (h : x / 2 ^ t % 2 = 1) : x.testBit t = true := by
  rw [Nat.testBit_eq_decide_div_mod_eq]; simpa using h

set_option maxRecDepth 100000 in
set_option maxHeartbeats 2000000 in
theorem ends5_any (x : Nat) (w : World) (h0 : x ≠ 0) (hx : x < 18446744073709551616) :
    Calls Tryd.prog 20 #[.int .u64 x] w fun e w' => e = .returned (.tuple #[.int .i64 ((64 - Lib.bitLen x : Nat) : Int), .int .i64 ((Lib.bitLen x - Lib.ctz 64 x : Nat) : Int)]) ∧ w = w' := by
  obtain ⟨b1, b2, b3, b4⟩ := bitLen_bounds 64 x hx (by omega) h0
  obtain ⟨e1, e2, e3, e4, e5, e6⟩ := ends_of h0 hx
  generalize hL : Lib.bitLen x = L at *
  generalize hC : Lib.ctz 64 x = t at *
  have HB := Lib.hid (And.intro b1 b2)
  have HE := Lib.hid (And.intro e3 e4)
  clear hL hC b1 b2 e3 e4 e5 e6
  go_enter Tryd.func20, Tryd.ntmps20
  go_wp2_with fail
  go_loopg [4] 63 (fun g f wr => w = wr ∧ g ≤ 63 ∧ L ≤ g + 1 ∧ f = .int .i64 (g : Int))
  case atStart => exact ⟨rfl, by omega, by omega, rfl⟩
  case round =>
    obtain ⟨rfl, hg, hLg, rfl⟩ := hrel
    by_cases hd : L = gk + 1
    · have hz : ((x : Int) / 2 ^ gk == 0) = false := by
        have h : 1 ≤ x / 2 ^ gk := (Nat.le_div_iff_mul_le (Nat.two_pow_pos gk)).2 (by have := HB.out.1; rw [hd, Nat.add_sub_cancel] at this; omega)
        have e : (x : Int) / 2 ^ gk = ((x / 2 ^ gk : Nat) : Int) := by simp
        rw [e, beq_eq_false_iff_ne]; omega
      clear hLg b3 b4
      generalize gk = f0 at *
      go_wp2_with fail
      go_loopg [5] t (fun s f wr => w = wr ∧ ∃ k : Nat, s + k = t ∧ f = .int .i64 (k : Int))
      case atStart => exact ⟨rfl, 0, by omega, rfl⟩
      case round =>
        obtain ⟨rfl, k, hk, rfl⟩ := hrel
        have ha := and_one x k hx
        by_cases hkt : k = t
        · subst hkt
          rw [low_one HE.out.1] at ha
          go_wp2_with fail
          go_ret2
          refine ⟨?_, rfl⟩
          show Ending.returned (Value.tuple #[.int .i64 (63 - (f0 : Int)), .int .i64 ((f0 : Int) - (k : Int) + 1)]) = _
          rw [show 63 - (f0 : Int) = ((64 - L : Nat) : Int) by omega, show (f0 : Int) - (k : Int) + 1 = ((L - k : Nat) : Int) by omega]
        · rw [low_zero HE.out.2 (by omega)] at ha
          go_wp2_with fail
          go_roundg (gk - 1)
          case measure => omega
          case rel => exact ⟨rfl, k + 1, by omega, rfl⟩
    · have hz : ((x : Int) / 2 ^ gk == 0) = true := by
        have h : x / 2 ^ gk = 0 := Nat.div_eq_of_lt (Nat.lt_of_lt_of_le HB.out.2 (Nat.pow_le_pow_right (by omega) (by omega)))
        have e : (x : Int) / 2 ^ gk = ((x / 2 ^ gk : Nat) : Int) := by simp
        rw [e, h]; rfl
      have hp : 0 < gk := by omega
      go_wp2_with fail
      go_roundg (gk - 1)
      case measure => omega
      case rel => exact ⟨rfl, by omega, by omega, by rw [show ((gk - 1 : Nat) : Int) = (gk : Int) - 1 by omega]⟩

set_option maxRecDepth 100000 in
set_option maxHeartbeats 1000000 in
theorem varint5_small (n : Nat) (w : World) (h : n < 128) : Calls Tryd.prog 21 #[.int .u64 n] w (Row w.heap.size (vnt n) w) := by
  obtain ⟨i0, hi, hz0, hz1, hz2⟩ := info_parts info_u8
  have hv : vnt n = [n] := by unfold vnt; rw [if_pos h]
  have HV := Lib.hid hv
  clear hv
  go_enter Tryd.func21, Tryd.ntmps21
  go_wp2_with fail
  refine wp_loop_rounds 1 ?_
  rw [rounds_succ]
  go_wp2_with (at_builtin; refine wpList_append_one _ rfl (.tmp 15) (.tmp 18) 27 rfl w.heap.size 5 i0 (.int .u8 0) 1 Tryd.underlying27 hi hz0 hz1 hz2 rfl _ 0 [] rfl (nil_row _ _ _) ⟨w.heap.size, 0, none⟩ 1 (.int .u8 n) rfl ?_ rfl ?_ ?_ ?_ ?_)
  · exact cell_one_new _ _ _ 0 _ rfl
  · unfold maxLen; omega
  · omega
  · simp
  · intro g cap w1 hown hgr hblk hg
    have HO := Lib.hid hown
    have HB := Lib.hid (((Below.refl w.heap.size w).alloc (Nat.le_refl _) _).grown hgr (by simp) (by intro k hk; cases hk))
    clear hown hgr hblk
    go_wp2_with fail
    go_ret
    refine ⟨_, rfl, ?_, HB.out⟩
    rw [HV.out]
    exact HO.out

set_option maxRecDepth 100000 in
set_option maxHeartbeats 1000000 in
theorem varint5_big (n : Nat) (w : World) (h : 128 ≤ n) (h2 : n < 16384) : Calls Tryd.prog 21 #[.int .u64 n] w (Row w.heap.size (vnt n) w) := by
  obtain ⟨i0, hi, hz0, hz1, hz2⟩ := info_parts info_u8
  have hv : vnt n = [n % 128 + 128, n / 128] := by unfold vnt; rw [if_neg (by omega)]
  have HV := Lib.hid hv
  clear hv
  go_enter Tryd.func21, Tryd.ntmps21
  go_wp2_with fail
  refine wp_loop_rounds 2 ?_
  rw [rounds_succ]
  go_wp2_with (at_builtin; refine wpList_append_one _ rfl (.tmp 6) (.tmp 11) 27 rfl w.heap.size 5 i0 (.int .u8 0) 1 Tryd.underlying27 hi hz0 hz1 hz2 rfl _ 0 [] rfl (nil_row _ _ _) ⟨w.heap.size, 0, none⟩ 1 (.int .u8 ((n % 128 + 128 : Nat) : Int)) rfl ?_ rfl ?_ ?_ ?_ ?_)
  · refine cell_one_new _ _ _ 0 _ ?_
    simp
  · unfold maxLen; omega
  · omega
  · simp
  · intro g cap w1 hown hgr hblk hg
    have HO := Lib.hid hown
    have HB := Lib.hid (((Below.refl w.heap.size w).alloc (Nat.le_refl _) _).grown hgr (by simp) (by intro k hk; cases hk))
    clear hown hgr hblk
    go_wp2_with fail
    have HG : Hid (∀ k, (Value.slice (some ⟨g, 0, none⟩) 1 cap).ownBlock = some k → w.heap.size ≤ k) := Lib.hid (by intro k hk; cases hk; exact hg)
    generalize Value.slice (some ⟨g, 0, none⟩) 1 cap = v0 at HO HG ⊢
    rw [rounds_succ]
    go_wp2_with (at_builtin; refine wpList_append_one _ rfl (.tmp 15) (.tmp 18) 27 rfl w.heap.size 5 i0 (.int .u8 0) 1 Tryd.underlying27 hi hz0 hz1 hz2 rfl _ 1 _ rfl (HO.out.alloc _) ⟨w1.heap.size, 0, none⟩ 1 (.int .u8 ((n : Int) / 128)) rfl ?_ rfl ?_ ?_ ?_ ?_)
    · exact cell_one_new _ _ _ 0 _ rfl
    · unfold maxLen; omega
    · omega
    · exact Nat.le_trans HB.out.size (by simp)
    · intro g2 cap2 w2 hown hgr hblk hg2
      have HO2 := Lib.hid hown
      have HB2 := Lib.hid ((HB.out.alloc HB.out.size _).grown hgr (Nat.le_trans HB.out.size (by simp)) HG.out)
      clear hown hgr hblk
      go_wp2_with fail
      go_ret
      refine ⟨_, rfl, ?_, HB2.out⟩
      rw [HV.out]
      exact HO2.out
theorem varint5_len (n : Nat) (w : World) (h : n < 16384) : Calls Tryd.prog 21 #[.int .u64 n] w (Row w.heap.size (vnt n) w) := by
  by_cases h1 : n < 128
  · exact varint5_small n w h1
  · exact varint5_big n w (by omega) h
end Go.Proofs.YtjlnicjnjnkdoaaDoor
