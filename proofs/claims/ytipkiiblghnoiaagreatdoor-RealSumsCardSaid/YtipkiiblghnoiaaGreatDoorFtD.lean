/- Contract of strconv's setDigits and numDigits. By an AI agent. -/
import Derived.Test.YtipkiiblghnoiaaGreatDoorFtC
namespace Go.Proofs.YtipkiiblghnoiaaGreatDoor.Us
set_option linter.unusedVariables false
/-- How many digits are left when the last noughts go. -/
def trimN (u : Nat) : Nat → Nat
  | 0 => 0
  | n + 1 => if u % 10 = 0 then trimN (u / 10) n else n + 1
theorem trimN_succ (u n : Nat) : trimN u (n + 1) = if u % 10 = 0 then trimN (u / 10) n else n + 1 := rfl
theorem trimN_le (u n : Nat) : trimN u n ≤ n := by
  induction n generalizing u with
  | zero => exact Nat.le_refl _
  | succ n ih =>
    unfold trimN
    split
    · exact Nat.le_succ_of_le (ih _)
    · exact Nat.le_refl _
def digit (u nd t : Nat) : Nat := 48 + u / 10 ^ (nd - 1 - t) % 10
end Go.Proofs.YtipkiiblghnoiaaGreatDoor.Us
namespace Go.Proofs.YtipkiiblghnoiaaGreatDoor
open Go.ChangeShapes Go.WideShapes Go.ChangeAt Go.RowKit
open Bt
set_option linter.unusedVariables false

/-- The digits lie in the buffer. -/
def DgAt (w : World) (b u nd : Nat) : Prop := ∀ t, t < nd → w.cell? ⟨b, t, none⟩ = some (.int .u8 (Us.digit u nd t : Nat))

theorem keep_putRow {α : Type} [Inhabited α] (enc : α → Value) (w : World) (b off : Nat) (d : Array α) : Keep (· = b) w (Sort.putRow enc w b off d) := by
  refine ⟨rfl, rfl, rfl, by simp, fun k hk hn => ?_⟩
  show (w.heap.modify b _)[k]? = _
  rw [Array.getElem?_modify, if_neg (fun h => hn h.symm)]

theorem dg_nat (u j : Nat) : (Lib.dg u j).toNat = 48 + u / 10 ^ j % 10 := by
  unfold Lib.dg
  rw [UInt8.toNat_ofNat']
  have : u / 10 ^ j % 10 < 10 := Nat.mod_lt _ (by decide)
  omega

set_option maxRecDepth 100000 in
set_option maxHeartbeats 2000000 in
theorem setDigits_any (b u nd : Nat) (p : Int) (t : TypeId) (w : World) (hb : w.heap[b]? = some (.cells (Array.replicate 32 (.int .u8 0)) t (0, 0))) (hnd : nd ≤ 20) (hu : u < 10 ^ nd) (hu64 : u < 18446744073709551616) (hp0 : -1000 ≤ p) (hp1 : p ≤ 1000) :
    Calls Tryz.prog 90 #[.slice (some ⟨b, 0, none⟩) 32 32, .int .u64 (u : Int), .int .i64 p, .int .i64 (nd : Int)] w fun e w' => e = .returned (.tuple #[.int .i64 (nd + p), .int .i64 (Us.trimN u nd : Nat)]) ∧ RowKit.Hid (DgAt w' b u nd ∧ Keep (· = b) w w') := by
  have hH : Sort.Holds (fun (b : UInt8) => Value.int .u8 (b.toNat : Int)) w b 0 (Array.replicate nd (0 : UInt8)) := by
    intro j hj
    have hj' : j < nd := by simpa using hj
    rw [Nat.zero_add]
    refine ⟨?_, blk_free hb j⟩
    have hj2 : j < 32 := by omega
    rw [blk_cell hb j, getElem!_pos _ j hj]
    simp [hj2]
  have hF := Tryz.internal_strconv_formatBase10 b 0 32 u (Array.replicate nd (0 : UInt8)) w hH (by simpa using hu) hu64 (by simp; omega)
  rw [show (Array.replicate nd (0 : UInt8)).size = nd by simp] at hF
  have HF := Lib.hid (And.intro hF (And.intro hH hb))
  clear hF hH hb hu
  go_enter Tryz.func90, Tryz.ntmps90
  go_wp2_with fail
  refine HF.out.1.mono ?_
  rintro e w1 ⟨rfl, n, v, dk, hw, hI⟩
  have hsz : dk.size = nd := hI.size
  have hcell : ∀ j, j < nd → w1.cell? ⟨b, j, none⟩ = some (.int .u8 (Us.digit u nd j : Nat)) := by
    intro j hj
    have h := Sort.cell?_putRow (fun (b : UInt8) => Value.int .u8 (b.toNat : Int)) w b 0 _ dk HF.out.2.1 (by rw [hsz]; simp) j (by rw [hsz]; exact hj)
    rw [Nat.zero_add] at h
    rw [hw]
    show (Sort.putRow _ w b 0 dk).cell? _ = _
    rw [h, hI.done j (Nat.zero_le _) hj, dg_nat]
    rfl
  have hk1 : Keep (· = b) w w1 := by rw [hw]; exact (keep_putRow _ w b 0 dk).drewN n
  have H1 := Lib.hid (And.intro hcell hk1)
  clear hcell hk1 hw hI hsz HF
  go_wp2_with fail
  go_loopw [3] (fun s3 wx => ∃ k : Nat, k ≤ nd ∧ s3 = .int .i64 (k : Int) ∧ RowKit.Hid (Us.trimN u nd = Us.trimN (u / 10 ^ (nd - k)) k ∧ ∃ n, wx = w1.drewN n)) (fun s3 _ => (intOf s3).toNat)
  case atStart => exact ⟨nd, Nat.le_refl _, rfl, by rw [Nat.sub_self, Nat.pow_zero, Nat.div_one], 0, rfl⟩
  case round =>
    obtain ⟨k, hk, rfl, HR⟩ := hrel
    obtain ⟨htr, n2, hwr⟩ := HR.out
    clear HR
    cases k with
    | zero =>
      have hfin : RowKit.Hid (Us.trimN u nd = 0 ∧ DgAt wr b u nd ∧ Keep (· = b) w wr) := by
        refine ⟨htr, ?_, ?_⟩
        · rw [hwr]; exact H1.out.1
        · rw [hwr]; exact H1.out.2.drewN n2
      clear htr hwr
      go_wp2_with fail
      go_ret2
      exact ⟨by rw [hfin.out.1]; rfl, hfin.out.2⟩
    | succ k =>
      have hc : wr.cell? ⟨b, k, none⟩ = some (.int .u8 (Us.digit u nd k : Nat)) := by rw [hwr]; exact H1.out.1 k (by omega)
      have hq : Us.digit u nd k = 48 + u / 10 ^ (nd - (k + 1)) % 10 := by unfold Us.digit; rw [show nd - 1 - k = nd - (k + 1) by omega]
      have hn : u / 10 ^ (nd - (k + 1)) / 10 = u / 10 ^ (nd - k) := by
        rw [Nat.div_div_eq_div_mul, ← Nat.pow_succ]; congr 2; omega
      rw [Us.trimN_succ, hn] at htr
      rw [hq] at hc
      generalize u / 10 ^ (nd - (k + 1)) = q at *
      have hk2 : k < 20 := by omega
      by_cases h0 : q % 10 = 0
      · rw [if_pos h0] at htr
        have hd : ((48 + q % 10 : Nat) : Int) = 48 := by omega
        rw [hd] at hc
        have HT := Lib.hid (And.intro htr hwr)
        clear htr hwr hq hn h0 hd
        go_wp2_with fail
        go_roundw
        case rel => exact ⟨k, by omega, by go_num, HT.out.1, n2, HT.out.2⟩
        case measure => simp [intOf]
      · rw [if_neg h0] at htr
        have hd : (((48 + q % 10 : Nat) : Int) == 48) = false := by rw [beq_eq_false_iff_ne]; omega
        have hfin : RowKit.Hid (Us.trimN u nd = k + 1 ∧ DgAt wr b u nd ∧ Keep (· = b) w wr) := by
          refine ⟨htr, ?_, ?_⟩
          · rw [hwr]; exact H1.out.1
          · rw [hwr]; exact H1.out.2.drewN n2
        clear htr hwr hq hn h0
        generalize ((48 + q % 10 : Nat) : Int) = dg at *
        go_wp2_with fail
        go_ret2
        exact ⟨by rw [hfin.out.1]; rfl, hfin.out.2⟩
end Go.Proofs.YtipkiiblghnoiaaGreatDoor
