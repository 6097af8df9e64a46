/- The reference's New where it refuses. By an AI agent. -/
import Derived.Test.YtdkcnbcjjlaidaaGaAb
namespace Go.Proofs.Ytdkcnbcjjlaidaa
open Go.ChangeShapes Go.WideShapes Go.ChangeAt Go.RowKit
set_option linter.unusedVariables false

theorem rnew_many (o : Option Addr) (n cap : Nat) (w : World) (hn : 64 < n) :
    Calls Try.prog 19 #[.slice o n cap] w fun e w' => e = .returned (.tuple #[.pointer none, .int .i64 9]) ∧ w = w' := by
  go_enter Try.func19, Try.ntmps19
  go_wp2_with fail
  go_ret2
  exact ⟨rfl, rfl⟩

set_option maxRecDepth 100000 in
set_option maxHeartbeats 8000000 in
theorem rnew_bad (o : Option Addr) (us : List Nat) (cap : Nat) (w : World) (hF : Fls w o us) (hn : us.length ≤ 64) (hlt : ∀ i, us.getD i 0 < 2 ^ 64) (hbad : ¬ okB us) :
    Calls Try.prog 19 #[.slice o us.length cap] w fun e w' => e = .returned (.tuple #[.pointer none, .int .i64 1]) ∧ Below w.heap.size w w' := by
  have HF := Lib.hid (And.intro hF (And.intro hlt hbad))
  clear hF hlt hbad
  generalize hlen : us.length = n at *
  have HLEN := Lib.hid hlen
  clear hlen
  go_enter Try.func19, Try.ntmps19
  go_wp2_with fail
  go_loopg [4] n (fun g i wr => ∃ k : Nat, g + k = n ∧ i = .int .i64 (k : Int) ∧ Hid (Below w.heap.size w wr ∧ ∀ j, j < k → okAt us j))
  case atStart => exact ⟨0, by omega, rfl, Below.refl _ _, fun j hj => absurd hj (by omega)⟩
  case round =>
    obtain ⟨k, hgk, rfl, HK⟩ := hrel
    by_cases hk : k < n
    · obtain ⟨ad, rfl, hcell⟩ := (fls_keep HF.out.1 HK.out.1) k (by rw [HLEN.out]; exact hk)
      have hx := HF.out.2.1 k
      have HNA := Lib.hid (nan3_any (us.getD k 0))
      have HKN : RowKit.Hid (okAt us k → ∀ j, j < k + 1 → okAt us j) := Lib.hid fun h j hj => by
        rcases Nat.lt_succ_iff_lt_or_eq.1 hj with h' | rfl
        · exact HK.out.2 j h'
        · exact h
      have hok : okAt us k ↔ (Flt.nan (us.getD k 0) = false ∧ (0 < k → cmpF (us.getD (k - 1) 0) (us.getD k 0) < 0)) := Iff.rfl
      cases hnan : Flt.nan (us.getD k 0)
      · rw [hnan] at HNA
        by_cases h0 : k = 0
        · subst h0
          have HO := Lib.hid (HKN.out (hok.2 ⟨hnan, fun h => absurd h (by omega)⟩))
          have hcell0 : wr.cell? ad = some (.float .f64 (us.getD 0 0)) := by simpa [Addr.add] using hcell
          clear hok
          generalize us.getD 0 0 = x at *
          go_wp2_with fail
          go_quiet ((go_at_call 30; exact Calls.quiet_of_same ((HNA.out _).mono fun _ _ ⟨he, hw⟩ => ⟨he, hw.symm⟩)))
          have HQ := Lib.hid (HK.out.1.trans (((Keep.refl (fun _ => False) wr).drewN nq).none.mono HK.out.1.size))
          go_wp2_with fail
          go_roundg (gk - 1)
          case measure => omega
          case rel => exact ⟨1, by omega, rfl, HQ.out, HO.out⟩
        · obtain ⟨ad', e', hcell'⟩ := (fls_keep HF.out.1 HK.out.1) (k - 1) (by rw [HLEN.out]; omega)
          cases e'
          have hx' := HF.out.2.1 (k - 1)
          have HC := Lib.hid (cmp3_any _ _ hx' hx)
          have hk1 : ((k : Int) - 1).toNat = k - 1 := by omega
          have hkp : decide ((0 : Int) < (k : Int)) = true := by simp; omega
          have hkp' : 0 < k := by omega
          by_cases hc : cmpF (us.getD (k - 1) 0) (us.getD k 0) < 0
          · have HO := Lib.hid (HKN.out (hok.2 ⟨hnan, fun _ => hc⟩))
            clear hok
            generalize us.getD k 0 = x at *
            generalize us.getD (k - 1) 0 = y at *
            generalize cmpF y x = z at *
            have hzd : decide (0 ≤ z) = false := by simp; omega
            go_wp2_with fail
            go_quiet (first | (go_at_call 30; exact Calls.quiet_of_same ((HNA.out _).mono fun _ _ ⟨he, hw⟩ => ⟨he, hw.symm⟩)) | (go_at_call 27; exact Calls.quiet_of_same ((HC.out _).mono fun _ _ ⟨he, hw⟩ => ⟨he, hw.symm⟩)))
            have HQ := Lib.hid (HK.out.1.trans (((Keep.refl (fun _ => False) wr).drewN nq).none.mono HK.out.1.size))
            go_wp2_with fail
            go_roundg (gk - 1)
            case measure => omega
            case rel => exact ⟨k + 1, by omega, rfl, HQ.out, HO.out⟩
          · clear hok
            generalize us.getD k 0 = x at *
            generalize us.getD (k - 1) 0 = y at *
            generalize cmpF y x = z at *
            have hzd : decide (0 ≤ z) = true := by simp; omega
            go_wp2_with fail
            go_quiet (first | (go_at_call 30; exact Calls.quiet_of_same ((HNA.out _).mono fun _ _ ⟨he, hw⟩ => ⟨he, hw.symm⟩)) | (go_at_call 27; exact Calls.quiet_of_same ((HC.out _).mono fun _ _ ⟨he, hw⟩ => ⟨he, hw.symm⟩)))
            have HQ := Lib.hid (HK.out.1.trans (((Keep.refl (fun _ => False) wr).drewN nq).none.mono HK.out.1.size))
            go_wp2_with fail
            go_ret2
            exact ⟨rfl, HQ.out⟩
      · rw [hnan] at HNA
        have hcell0 : k = 0 → wr.cell? ad = some (.float .f64 (us.getD k 0)) := fun h => by subst h; simpa [Addr.add] using hcell
        clear hok HKN
        by_cases h0 : k = 0
        · subst h0
          have hcell0 := hcell0 rfl
          generalize us.getD 0 0 = x at *
          go_wp2_with fail
          go_quiet ((go_at_call 30; exact Calls.quiet_of_same ((HNA.out _).mono fun _ _ ⟨he, hw⟩ => ⟨he, hw.symm⟩)))
          have HQ := Lib.hid (HK.out.1.trans (((Keep.refl (fun _ => False) wr).drewN nq).none.mono HK.out.1.size))
          go_wp2_with fail
          go_ret2
          exact ⟨rfl, HQ.out⟩
        · clear hcell0
          generalize us.getD k 0 = x at *
          go_wp2_with fail
          go_quiet ((go_at_call 30; exact Calls.quiet_of_same ((HNA.out _).mono fun _ _ ⟨he, hw⟩ => ⟨he, hw.symm⟩)))
          have HQ := Lib.hid (HK.out.1.trans (((Keep.refl (fun _ => False) wr).drewN nq).none.mono HK.out.1.size))
          go_wp2_with fail
          go_ret2
          exact ⟨rfl, HQ.out⟩
    · exact absurd (fun i hi => HK.out.2 i (by rw [HLEN.out] at hi; omega)) HF.out.2.2
end Go.Proofs.Ytdkcnbcjjlaidaa
