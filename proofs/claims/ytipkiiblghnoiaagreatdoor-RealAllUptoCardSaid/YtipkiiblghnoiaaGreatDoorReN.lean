/- RealAll's walk. By an AI agent. Printed by genReN.py. -/
import Derived.Test.YtipkiiblghnoiaaGreatDoorReK
import Derived.Test.YtipkiiblghnoiaaGreatDoorReG
namespace Go.Proofs.YtipkiiblghnoiaaGreatDoor.realAll
open Go.ChangeShapes Go.WideShapes Go.ChangeAt Go.RowKit
open Bt
set_option linter.unusedVariables false

set_option maxRecDepth 100000 in
set_option maxHeartbeats 16000000 in
theorem walk (o : Option Addr) (us : List Nat) (cap : Nat) (w : World) (hU : U64s w o us) (hu : ∀ i, us.getD i 0 < 18446744073709551616) (hn : us.length ≤ 2000000) (hopt : Opt w) (hT : Tb w.heap.size w) :
    Calls Tryz.prog 8 #[.slice o us.length cap] w fun e w' => e = .returned (.bool true) ∧ Below w.heap.size w w' := by
  have HO := Lib.hid (And.intro hopt hT)
  have HUS := Lib.hid (And.intro hU hu)
  have HOF := Lib.hid (of_open o us cap)
  clear hopt hT hU
  generalize hl : us.length = n at *
  have HL := Lib.hid hl
  clear hl hu
  go_enter Tryz.func8, Tryz.ntmps8
  go_wp2_with fail
  refine (begun3 _ HO.out.1 HO.out.2).mono ?_
  rintro e w1 ⟨rfl, hb1⟩
  have H1 := Lib.hid hb1
  clear hb1
  go_wp2_with fail
  refine (HOF.out w1 (u64s_keep HUS.out.1 H1.out) hn).mono ?_
  rintro e w2 ⟨o2, cap2, rfl, hfl, -, -, hb2⟩
  have H2 := Lib.hid (And.intro hfl (And.intro (u64s_keep (u64s_keep HUS.out.1 H1.out) hb2) (H1.out.trans (hb2.mono H1.out.size))))
  clear hfl hb2 H1
  go_wp2_with fail
  go_loopg [4, 5, 6, 7, 8, 9, 10, 11, 12, 13, 14] n (fun gq s4 s5 s6 s7 s8 s9 s10 s11 s12 s13 s14 wx => ∃ k : Nat, gq + k = n ∧ s4 = .int .i64 (k : Int) ∧ Hid (Below w2.heap.size w2 wx))
  case atStart => exact ⟨0, by omega, rfl, Below.refl _ _⟩
  case round =>
    obtain ⟨k, hgk, rfl, HK⟩ := hrel
    have H2 := Lib.hid (And.intro (fls_keep0 H2.out.1 HK.out) (And.intro (u64s_keep H2.out.2.1 HK.out) (And.intro (H2.out.2.2.trans (HK.out.mono H2.out.2.2.size)) HK.out)))
    by_cases hk : k < n
    · by_cases hk6 : k < 60
      · have hk' : k < us.length := by rw [HL.out]; exact hk
        obtain ⟨ad, rfl, c0⟩ := H2.out.1 k hk'
        obtain ⟨ad1, rfl, c1⟩ := H2.out.2.1 k hk'
        have hux := HUS.out.2 k
        generalize us.getD k 0 = x at *
        have HUK := Lib.hid (unkey_any x hux)
        have HUK3 := Lib.hid (unkey3_any x hux)
        have HCL := Lib.hid (Sm.class_any x hux)
        have HCL3 := Lib.hid (class3_any x hux)
        have HCN := Lib.hid (canon_any x)
        have HCN3 := Lib.hid (canon3_any x)
        have HKY := Lib.hid (key_any x hux)
        have HKY3 := Lib.hid (key3_any x hux)
        have HNX := Lib.hid (next_any x hux)
        have HNX3 := Lib.hid (next3_any x hux)
        have HXU := Lib.hid hux
        clear hk' hux
        generalize unkW x = y at *
        generalize unkB x = ok at *
        generalize Sm.classF x = cl at *
        generalize canW x = cn at *
        generalize hkx : keyF x = kx at *
        clear hkx
        generalize nextF x = nx at *
        go_wp2_with fail
        refine (HUK.out _).mono ?_
        rintro e w3 ⟨rfl, hw⟩
        obtain rfl : wr = w3 := hw
        go_wp2_with fail
        refine (HUK3.out _).mono ?_
        rintro e w3 ⟨rfl, hw⟩
        obtain rfl : wr = w3 := hw
        go_wp2_with fail
        refine (HCL.out _).mono ?_
        rintro e w3 ⟨rfl, hw⟩
        obtain rfl : wr = w3 := hw.symm
        go_wp2_with fail
        refine (HCL3.out _).mono ?_
        rintro e w3 ⟨rfl, hw⟩
        obtain rfl : wr = w3 := hw
        go_wp2_with fail
        refine (HCN.out _).mono ?_
        rintro e w3 ⟨rfl, hw⟩
        obtain rfl : wr = w3 := hw.symm
        go_wp2_with fail
        refine (HCN3.out _).mono ?_
        rintro e w3 ⟨rfl, hw⟩
        obtain rfl : wr = w3 := hw
        go_wp2_with fail
        refine (fbits_any cn cn _).mono ?_
        rintro e w3 ⟨rfl, hw⟩
        obtain rfl : wr = w3 := hw
        rw [decide_eq_true (rfl : cn = cn)]
        go_wp2_with fail
        refine (HKY.out _).mono ?_
        rintro e w3 ⟨rfl, hw⟩
        obtain rfl : wr = w3 := hw
        go_wp2_with fail
        refine (HKY3.out _).mono ?_
        rintro e w3 ⟨rfl, hw⟩
        obtain rfl : wr = w3 := hw
        go_wp2_with fail
        refine (fbits_any y y _).mono ?_
        rintro e w3 ⟨rfl, hw⟩
        obtain rfl : wr = w3 := hw
        rw [decide_eq_true (rfl : y = y)]
        go_wp2_with fail
        refine (HNX.out _).mono ?_
        rintro e w3 ⟨rfl, hw⟩
        obtain rfl : wr = w3 := hw
        go_wp2_with fail
        refine (HNX3.out _).mono ?_
        rintro e w3 ⟨rfl, hw⟩
        obtain rfl : wr = w3 := hw
        go_wp2_with fail
        refine (fbits_any nx nx _).mono ?_
        rintro e w3 ⟨rfl, hw⟩
        obtain rfl : wr = w3 := hw
        rw [decide_eq_true (rfl : nx = nx)]
        clear HUK HUK3 HCL HCL3 HCN HCN3 HKY HKY3 HNX HNX3 c0 c1
        go_wp2_with fail
        go_loopg [10, 11, 12, 13, 14] n (fun gq s10 s11 s12 s13 s14 wx => ∃ j : Nat, gq + j = n ∧ s10 = .int .i64 (j : Int) ∧ Hid (Below wr.heap.size wr wx))
        case atStart => exact ⟨0, by omega, rfl, Below.refl _ _⟩
        case round =>
          obtain ⟨j, hgj, rfl, HJ⟩ := hrel
          have H4 := Lib.hid (And.intro (fls_keep0 H2.out.1 HJ.out) (H2.out.2.2.2.trans (HJ.out.mono H2.out.2.2.2.size)))
          by_cases hj : j < n
          · by_cases hj6 : j < 60
            · have hj' : j < us.length := by rw [HL.out]; exact hj
              obtain ⟨ad2, had2, c2⟩ := H4.out.1 j hj'
              obtain rfl := Option.some.inj had2
              have hux := HUS.out.2 j
              generalize us.getD j 0 = v at *
              have HAP := Lib.hid (apart_any x v HXU.out hux)
              have HAP3 := Lib.hid (apart3_any x v HXU.out hux)
              have HCM := Lib.hid (compare_any x v HXU.out hux)
              have HCM3 := Lib.hid (cmp3_any x v HXU.out hux)
              have HSM := Lib.hid (same_any x v HXU.out hux)
              have HSM3 := Lib.hid (same3_any x v HXU.out hux)
              clear hj' hux
              generalize apW x v = aw at *
              generalize apB x v = ab at *
              generalize cmpF x v = cm at *
              generalize decide (keyF x = keyF v) = sm at *
              go_wp2_with fail
              refine (HAP.out _).mono ?_
              rintro e w3 ⟨rfl, hw⟩
              obtain rfl := hw
              go_wp2_with fail
              refine (HAP3.out _).mono ?_
              rintro e w3 ⟨rfl, hw⟩
              obtain rfl := hw
              go_wp2_with fail
              go_quiet (first | (go_at_call 19; exact Calls.quiet_of_same ((HCM.out _).mono fun _ _ ⟨he, hw⟩ => ⟨he, hw.symm⟩)) | (go_at_call 35; exact Calls.quiet_of_same ((HCM3.out _).mono fun _ _ ⟨he, hw⟩ => ⟨he, hw.symm⟩)) | (go_at_call 24; exact Calls.quiet_of_same ((HSM.out _).mono fun _ _ ⟨he, hw⟩ => ⟨he, hw.symm⟩)) | (go_at_call 36; exact Calls.quiet_of_same ((HSM3.out _).mono fun _ _ ⟨he, hw⟩ => ⟨he, hw.symm⟩)))
              go_wp2_with fail
              go_roundg (n - (j + 1))
              all_goals first | omega | skip
              case rel => exact ⟨j + 1, by omega, rfl, below_drewN HJ.out _⟩
            · go_wp2_with fail
              go_roundg (n - (k + 1))
              all_goals first | omega | skip
              case rel => exact ⟨k + 1, by omega, rfl, H4.out.2⟩
          · go_wp2_with fail
            go_roundg (n - (k + 1))
            all_goals first | omega | skip
            case rel => exact ⟨k + 1, by omega, rfl, H4.out.2⟩
      · go_wp2_with fail
        go_ret
        exact ⟨rfl, H2.out.2.2.1⟩
    · go_wp2_with fail
      go_ret
      exact ⟨rfl, H2.out.2.2.1⟩
end Go.Proofs.YtipkiiblghnoiaaGreatDoor.realAll
