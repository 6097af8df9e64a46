/- flumelaw17.cells; the reference's Key, Compare. By an AI agent. -/
import Derived.Test.YtdkcnbcjjlaidaaGauH
namespace Go.Proofs.Ytdkcnbcjjlaidaa
open Go.ChangeShapes Go.WideShapes Go.ChangeAt Go.RowKit
set_option linter.unusedVariables false

/-- A slice of whole numbers that are known. -/
def Nums (w : World) (b : Nat) (L : List Int) : Prop := ∀ i, i < L.length → w.cell? ⟨b, i, none⟩ = some (.int .i64 (L.getD i 0))

set_option maxRecDepth 100000 in
set_option maxHeartbeats 4000000 in
theorem cells_eq (b b' : Nat) (L : List Int) (c c' : Nat) (w : World) (h : Nums w b L) (h' : Nums w b' L) (hl : L.length ≤ 2000000) :
    Calls Try.prog 24 #[.slice (some ⟨b, 0, none⟩) L.length c, .slice (some ⟨b', 0, none⟩) L.length c'] w fun e w' => e = .returned (.bool true) ∧ Below w.heap.size w w' := by
  have HL := Lib.hid (And.intro h h')
  clear h h'
  generalize hn : L.length = n at *
  have HN := Lib.hid hn
  clear hn
  go_enter Try.func24, Try.ntmps24
  go_wp2_with fail
  go_loopg [5] n (fun gq i wr => ∃ k : Nat, gq + k = n ∧ i = .int .i64 (k : Int) ∧ Hid (Below w.heap.size w wr))
  case atStart => exact ⟨0, by omega, rfl, Below.refl _ _⟩
  case round =>
    obtain ⟨k, hgk, rfl, HK⟩ := hrel
    by_cases hk : k < n
    · have c1 := (HK.out.cell (cell_in (HL.out.1 k (by rw [HN.out]; exact hk)))).trans (HL.out.1 k (by rw [HN.out]; exact hk))
      have c2 := (HK.out.cell (cell_in (HL.out.2 k (by rw [HN.out]; exact hk)))).trans (HL.out.2 k (by rw [HN.out]; exact hk))
      generalize L.getD k 0 = v at *
      go_wp2_with fail
      go_quiet (fail)
      have HQ := Lib.hid (HK.out.trans (((Keep.refl (fun _ => False) wr).drewN nq).none.mono HK.out.size))
      go_wp2_with fail
      go_roundg (gk - 1)
      case measure => omega
      case rel => exact ⟨k + 1, by omega, rfl, HQ.out⟩
    · go_wp2_with fail
      go_ret
      exact ⟨rfl, HK.out⟩

theorem key3_any (a : Nat) (ha : a < 2 ^ 64) (w : World) :
    Calls Try.prog 44 #[.float .f64 a] w fun e w' => e = .returned (.int .u64 (keyF a : Nat)) ∧ w = w' := by
  have e1 := ext_bits
  have HNA := Lib.hid (nan3_any a)
  cases hn : Flt.nan a
  · rw [hn] at HNA
    by_cases ht : 9223372036854775808 ≤ a
    · have hk : keyF a = 18446744073709551615 - a := by unfold keyF; rw [hn, if_neg (by simp), if_pos ht]
      have ht' : decide ((9223372036854775808 : Int) ≤ (a : Int)) = true := by simp; omega
      rw [hk]
      go_enter Try.func44, Try.ntmps44
      go_wp2_with fail
      refine (HNA.out _).mono ?_
      rintro e w1 ⟨rfl, rfl⟩
      go_wp2_with fail
      go_ret
      refine ⟨?_, rfl⟩
      show Ending.returned (Value.int IntKind.u64 (bits BinOp.xor IntKind.u64 IntKind.u64.max (a : Int))) = _
      rw [xor_max a ha]
    · have hk : keyF a = a + 9223372036854775808 := by unfold keyF; rw [hn, if_neg (by simp), if_neg ht]
      have ht' : decide ((9223372036854775808 : Int) ≤ (a : Int)) = false := by simp; omega
      rw [hk]
      go_enter Try.func44, Try.ntmps44
      go_wp2_with fail
      refine (HNA.out _).mono ?_
      rintro e w1 ⟨rfl, rfl⟩
      go_wp2_with fail
      go_ret
      exact ⟨rfl, rfl⟩
  · rw [hn] at HNA
    have hk : keyF a = 18446744073709551615 := by unfold keyF; rw [hn, if_pos rfl]
    rw [hk]
    go_enter Try.func44, Try.ntmps44
    go_wp2_with fail
    refine (HNA.out _).mono ?_
    rintro e w1 ⟨rfl, rfl⟩
    go_wp2_with fail
    go_ret
    exact ⟨rfl, rfl⟩

theorem cmp3_any (a b : Nat) (ha : a < 2 ^ 64) (hb : b < 2 ^ 64) (w : World) :
    Calls Try.prog 27 #[.float .f64 a, .float .f64 b] w fun e w' => e = .returned (.int .i64 (cmpF a b)) ∧ w = w' := by
  have HA := Lib.hid (key3_any a ha)
  have HB := Lib.hid (key3_any b hb)
  have hc : cmpF a b = if keyF a < keyF b then -1 else if keyF b < keyF a then 1 else 0 := rfl
  have HC := Lib.hid hc
  clear ha hb hc
  generalize cmpF a b = z at *
  generalize keyF a = x at *
  generalize keyF b = y at *
  go_enter Try.func27, Try.ntmps27
  go_wp2_with fail
  refine (HA.out _).mono ?_
  rintro e w1 ⟨rfl, rfl⟩
  go_wp2_with fail
  refine (HB.out _).mono ?_
  rintro e w1 ⟨rfl, rfl⟩
  by_cases h1 : x < y
  · go_wp2_with fail
    go_ret
    exact ⟨by rw [HC.out, if_pos h1]; rfl, rfl⟩
  · have d1 : decide (x < y) = false := by simpa using h1
    go_wp2_with fail
    refine (HA.out _).mono ?_
    rintro e w1 ⟨rfl, rfl⟩
    go_wp2_with fail
    refine (HB.out _).mono ?_
    rintro e w1 ⟨rfl, rfl⟩
    by_cases h2 : y < x
    · go_wp2_with fail
      go_ret
      exact ⟨by rw [HC.out, if_neg h1, if_pos h2]; rfl, rfl⟩
    · have d2 : decide (y < x) = false := by simpa using h2
      go_wp2_with fail
      go_ret
      exact ⟨by rw [HC.out, if_neg h1, if_neg h2]; rfl, rfl⟩
end Go.Proofs.Ytdkcnbcjjlaidaa
