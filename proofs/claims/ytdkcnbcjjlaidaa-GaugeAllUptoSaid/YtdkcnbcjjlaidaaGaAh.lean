/- The reference's Merge where it refuses. By an AI agent. -/
import Derived.Test.YtdkcnbcjjlaidaaGaAg
namespace Go.Proofs.Ytdkcnbcjjlaidaa
open Go.ChangeShapes Go.WideShapes Go.ChangeAt Go.RowKit
set_option linter.unusedVariables false

theorem same3_any (a b : Nat) (ha : a < 2 ^ 64) (hb : b < 2 ^ 64) (w : World) :
    Calls Try.prog 43 #[.float .f64 a, .float .f64 b] w fun e w' => e = .returned (.bool (decide (keyF a = keyF b))) ∧ w = w' := by
  have HA := Lib.hid (key3_any a ha)
  have HB := Lib.hid (key3_any b hb)
  clear ha hb
  generalize keyF a = x at *
  generalize keyF b = y at *
  have hd : (((x : Nat) : Int) == ((y : Nat) : Int)) = decide (x = y) := by
    by_cases h : x = y
    · subst h; simp
    · simp [h]; omega
  generalize decide (x = y) = bb at *
  go_enter Try.func43, Try.ntmps43
  go_wp2_with fail
  refine (HA.out _).mono ?_
  rintro e w1 ⟨rfl, rfl⟩
  go_wp2_with fail
  refine (HB.out _).mono ?_
  rintro e w1 ⟨rfl, rfl⟩
  go_wp2_with fail
  go_ret
  exact ⟨rfl, rfl⟩

set_option maxRecDepth 100000 in
set_option maxHeartbeats 8000000 in
theorem rmerge_no {w : World} {g base g' base' : Nat} {ob ob' : Option Addr} {cb c cb' c' : Nat} {x y : G} (h : RAt w g base ob cb c x) (h' : RAt w g' base' ob' cb' c' y) (hl : x.bs.length ≤ 1000000) (hno : alikeB x.bs y.bs = false) :
    Calls Try.prog 23 #[.pointer (some ⟨g, 0, none⟩), .pointer (some ⟨g', 0, none⟩)] w fun e w' => e = .returned (.int .i64 1) ∧ Below w.heap.size w w' := by
  by_cases hlen : x.bs.length = y.bs.length
  · have HF := Lib.hid (And.intro h (And.intro h' (And.intro hno hlen)))
    clear h h' hno hlen
    generalize hn : x.bs.length = n at *
    have HN := Lib.hid hn
    clear hn
    have HR : RowKit.Hid (∀ W, Below w.heap.size w W → W.cell? ⟨g, 0, none⟩ = some (.slice ob n cb) ∧ W.cell? ⟨g', 0, none⟩ = some (.slice ob' n cb')) := Lib.hid fun W k => by
      have a := (rcell_facts (HF.out.1.keep k)).1
      have b := (rcell_facts (HF.out.2.1.keep k)).1
      rw [HN.out] at a
      rw [← HF.out.2.2.2] at b
      exact ⟨a, b⟩
    have k0 := HR.out w (Below.refl _ _)
    obtain ⟨q0, p0⟩ := k0
    go_enter Try.func23, Try.ntmps23
    go_wp2_with fail
    go_quiet (fail)
    have HQ := Lib.hid (((Keep.refl (fun _ => False) w).drewN nq).none.mono (Nat.le_refl _))
    clear q0 p0
    go_wp2_with fail
    go_loopg [5] n (fun gq i wr => ∃ k : Nat, gq + k = n ∧ i = .int .i64 (k : Int) ∧ Hid (Below w.heap.size w wr ∧ ∀ j, j < k → keyF (x.bs.getD j 0) = keyF (y.bs.getD j 0)))
    case atStart => exact ⟨0, by omega, rfl, HQ.out, fun j hj => absurd hj (by omega)⟩
    case round =>
      obtain ⟨k, hgk, rfl, HK⟩ := hrel
      obtain ⟨q0, p0⟩ := HR.out wr HK.out.1
      by_cases hk : k < n
      · obtain ⟨ad, rfl, hcell⟩ := (HF.out.1.keep HK.out.1).fls k (by rw [HN.out]; exact hk)
        obtain ⟨ad', rfl, hcell'⟩ := (HF.out.2.1.keep HK.out.1).fls k (by rw [← HF.out.2.2.2]; exact hk)
        have HS := Lib.hid (same3_any (x.bs.getD k 0) (y.bs.getD k 0) (HF.out.1.lt k) (HF.out.2.1.lt k))
        by_cases hke : keyF (x.bs.getD k 0) = keyF (y.bs.getD k 0)
        · rw [decide_eq_true hke] at HS
          have HKX : RowKit.Hid (∀ j, j < k + 1 → keyF (x.bs.getD j 0) = keyF (y.bs.getD j 0)) := Lib.hid fun j hj => by
            rcases Nat.lt_succ_iff_lt_or_eq.1 hj with h | h
            · exact HK.out.2 j h
            · rw [h]; exact hke
          clear hke
          generalize ha : x.bs.getD k 0 = a at *
          generalize hb : y.bs.getD k 0 = b at *
          clear ha hb
          go_wp2_with fail
          go_quiet ((go_at_call 43; exact Calls.quiet_of_same ((HS.out _).mono fun _ _ ⟨he, hw⟩ => ⟨he, hw.symm⟩)))
          have HQ := Lib.hid (HK.out.1.trans (((Keep.refl (fun _ => False) wr).drewN nq).none.mono HK.out.1.size))
          go_wp2_with fail
          go_roundg (gk - 1)
          case measure => omega
          case rel => exact ⟨k + 1, by omega, rfl, HQ.out, HKX.out⟩
        · rw [decide_eq_false hke] at HS
          clear hke
          generalize x.bs.getD k 0 = a at *
          generalize y.bs.getD k 0 = b at *
          go_wp2_with fail
          go_quiet ((go_at_call 43; exact Calls.quiet_of_same ((HS.out _).mono fun _ _ ⟨he, hw⟩ => ⟨he, hw.symm⟩)))
          have HQ := Lib.hid (HK.out.1.trans (((Keep.refl (fun _ => False) wr).drewN nq).none.mono HK.out.1.size))
          go_wp2_with fail
          go_ret
          exact ⟨rfl, HQ.out⟩
      · exfalso
        have := HF.out.2.2.1
        rw [show alikeB x.bs y.bs = true from decide_eq_true ⟨by rw [HN.out]; exact HF.out.2.2.2, fun j hj => HK.out.2 j (by rw [HN.out] at hj; omega)⟩] at this
        cases this
  · obtain ⟨q0, q1, q2, q3, q4, q5, q6⟩ := rcell_facts h
    obtain ⟨p0, p1, p2, p3, p4, p5, p6⟩ := rcell_facts h'
    clear h h' hno q1 q2 q3 q4 q5 q6 p1 p2 p3 p4 p5 p6
    generalize x.bs.length = n at *
    generalize y.bs.length = n' at *
    have e1 : (((n : Nat) : Int) != ((n' : Nat) : Int)) = true := by simp; omega
    have e2 : (n != n') = true := by simp; omega
    go_enter Try.func23, Try.ntmps23
    go_wp2_with fail
    go_quiet (fail)
    go_wp2_with fail
    go_ret
    exact ⟨rfl, (Keep.refl (fun _ => False) w).drewN nq |>.none⟩
end Go.Proofs.Ytdkcnbcjjlaidaa
