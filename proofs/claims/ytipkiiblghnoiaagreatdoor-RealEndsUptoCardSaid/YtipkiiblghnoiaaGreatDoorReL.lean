/- RealEnds' walk. By an AI agent. Printed by genReL.py. -/
import Derived.Test.YtipkiiblghnoiaaGreatDoorReK
namespace Go.Proofs.YtipkiiblghnoiaaGreatDoor.realEnds
open Go.ChangeShapes Go.WideShapes Go.ChangeAt Go.RowKit
open Bt
set_option linter.unusedVariables false

theorem or_l {x y z : Bool} (h : x = true) : (x || (y && z)) = true := by rw [h]; rfl
set_option maxRecDepth 100000 in
set_option maxHeartbeats 8000000 in
theorem walk (o : Option Addr) (us : List Nat) (cap : Nat) (w : World) (hU : U64s w o us) (hu : ∀ i, us.getD i 0 < 18446744073709551616) (hn : us.length ≤ 2000000) (hopt : Opt w) (hT : Tb w.heap.size w) :
    Calls Tryz.prog 4 #[.slice o us.length cap] w fun e w' => e = .returned (.bool true) ∧ Below w.heap.size w w' := by
  have HO := Lib.hid (And.intro hopt hT)
  have HUS := Lib.hid (And.intro hU hu)
  have hlen0 : us.length = 0 → Sm.outW (-1) us = 0 ∧ Sm.outW 1 us = 0 ∧ Sm.outB us = false := fun h => by
    refine ⟨by unfold Sm.outW; rw [if_pos h], by unfold Sm.outW; rw [if_pos h], by unfold Sm.outB; rw [h]; rfl⟩
  have HZ := Lib.hid hlen0
  have HE := Lib.hid (Re.ends (us := us))
  have hB : us.length ≠ 0 → Sm.outB us = true := fun h => by unfold Sm.outB; exact decide_eq_true h
  have HBB := Lib.hid hB
  have hlt : Sm.outW (-1) us < 18446744073709551616 ∧ Sm.outW 1 us < 18446744073709551616 := by
    constructor
    · unfold Sm.outW; split
      · decide
      · exact Sm.outK_lt hu _ (Nat.le_refl _)
    · unfold Sm.outW; split
      · decide
      · exact Sm.outK_lt hu _ (Nat.le_refl _)
  have HLT := Lib.hid hlt
  have HOF := Lib.hid (of_open o us cap)
  have HMIN := Lib.hid fun (o2 : Option Addr) (c2 : Nat) (w2 : World) (h : Fls w2 o2 us) => Sm.min_any o2 us c2 w2 h hu (by omega)
  have HMAX := Lib.hid fun (o2 : Option Addr) (c2 : Nat) (w2 : World) (h : Fls w2 o2 us) => Sm.max_any o2 us c2 w2 h hu (by omega)
  clear hopt hT hU hlen0 hB hlt
  generalize hA : Sm.outW (-1) us = A at *
  generalize hBv : Sm.outW 1 us = B at *
  clear hA hBv
  generalize hob : Sm.outB us = ob at *
  clear hob
  generalize hl : us.length = n at *
  have HL := Lib.hid hl
  clear hl hu
  go_enter Tryz.func4, Tryz.ntmps4
  go_wp2_with fail
  refine (begun3 _ HO.out.1 HO.out.2).mono ?_
  rintro e w1 ⟨rfl, hb1⟩
  have H1 := Lib.hid hb1
  clear hb1
  go_wp2_with fail
  refine (HOF.out w1 (u64s_keep HUS.out.1 H1.out) hn).mono ?_
  rintro e w2 ⟨o2, cap2, rfl, hfl, -, -, hb2⟩
  have H2 := Lib.hid (And.intro hfl (H1.out.trans (hb2.mono H1.out.size)))
  clear hfl hb2 H1
  go_wp2_with fail
  refine (HMIN.out o2 cap2 w2 H2.out.1).mono ?_
  rintro e w3 ⟨rfl, hw⟩
  obtain rfl : w2 = w3 := hw.symm
  go_wp2_with fail
  refine (HMAX.out o2 cap2 w2 H2.out.1).mono ?_
  rintro e w3 ⟨rfl, hw⟩
  obtain rfl : w2 = w3 := hw.symm
  by_cases h0 : n = 0
  · have hz := HZ.out h0
    subst h0
    obtain ⟨rfl, rfl, rfl⟩ := hz
    go_wp2_with fail
    refine (fbits_any 0 0 _).mono ?_
    rintro e w3 ⟨rfl, hw⟩
    obtain rfl : w2 = w3 := hw
    go_wp2_with fail
    refine (fbits_any 0 0 _).mono ?_
    rintro e w3 ⟨rfl, hw⟩
    obtain rfl : w2 = w3 := hw
    go_wp2_with fail
    go_ret
    exact ⟨rfl, H2.out.2⟩
  · have h0' := HBB.out h0
    subst h0'
    have d0 : ((n : Int) == 0) = false := by rw [beq_eq_false_iff_ne]; omega
    have d0' : (n == 0) = false := by rw [beq_eq_false_iff_ne]; omega
    have HE1 := Lib.hid (HE.out h0)
    clear h0 HE HZ HBB
    go_wp2_with fail
    go_loopg [8, 9, 10, 11] n (fun gq s8 s9 s10 s11 wx => ∃ (k : Nat) (p q sm : Bool), gq + k = n ∧ s8 = .bool p ∧ s9 = .bool q ∧ s10 = .bool sm ∧ s11 = .int .i64 (k : Int) ∧ w2 = wx ∧ Hid (Re.hitK A us k = p ∧ Re.hitK B us k = q ∧ Re.someK us k = sm))
    case atStart => exact ⟨0, false, false, false, by omega, rfl, rfl, rfl, rfl, rfl, Lib.hid ⟨Re.hitK_zero A us, Re.hitK_zero B us, Re.someK_zero us⟩⟩
    case round =>
      obtain ⟨k, p, q, sm, hgk, rfl, rfl, rfl, rfl, rfl, HK⟩ := hrel
      by_cases hk : k < n
      · have hk' : k < us.length := by rw [HL.out]; exact hk
        obtain ⟨ad, rfl, c0⟩ := H2.out.1 k hk'
        have HU := Lib.hid (HUS.out.2 k)
        have hA := Re.hitK_succ (a := A) hk'
        have hB := Re.hitK_succ (a := B) hk'
        have hS := Re.someK_succ hk'
        rw [HK.out.1] at hA
        rw [HK.out.2.1] at hB
        rw [HK.out.2.2] at hS
        have HE2 := Lib.hid (HE1.out.1 k (by rw [← HL.out]; exact hk'))
        have HNX := Lib.hid (And.intro hA (And.intro hB hS))
        clear hk' hA hB hS
        generalize us.getD k 0 = u at *
        have HNA := Lib.hid (isnan_any u)
        cases hnu : Flt.nan u
        · rw [hnu] at HNA
          have hcm := HE2.out hnu
          have HCA := Lib.hid (compare_any u A HU.out HLT.out.1)
          have HCB := Lib.hid (compare_any u B HU.out HLT.out.2)
          have c1 := hcm.1
          have c2 := hcm.2
          have c3 : decide (0 < cmpF u B) = false := c2
          have HN := Lib.hid hnu
          clear hnu hcm HE2
          generalize cmpF u A = ca at *
          generalize cmpF u B = cb at *
          rcases p with _ | _
          · rcases q with _ | _
            · go_wp2_with fail
              refine (HNA.out _).mono ?_
              rintro e w3 ⟨rfl, hw⟩
              obtain rfl : w2 = w3 := hw.symm
              go_wp2_with fail
              refine (fbits_any u A _).mono ?_
              rintro e w3 ⟨rfl, hw⟩
              obtain rfl : w2 = w3 := hw
              go_wp2_with fail
              refine (fbits_any u B _).mono ?_
              rintro e w3 ⟨rfl, hw⟩
              obtain rfl : w2 = w3 := hw
              go_wp2_with fail
              refine (HCA.out _).mono ?_
              rintro e w3 ⟨rfl, hw⟩
              obtain rfl : w2 = w3 := hw
              go_wp2_with fail
              refine (HCB.out _).mono ?_
              rintro e w3 ⟨rfl, hw⟩
              obtain rfl : w2 = w3 := hw
              go_wp2_with fail
              go_roundg (gk - 1)
              all_goals first | omega | skip
              case rel =>
                refine ⟨k + 1, decide (u = A), decide (u = B), true, by omega, rfl, rfl, rfl, rfl, rfl, Lib.hid ⟨?_, ?_, ?_⟩⟩
                · rw [HNX.out.1, HN.out]; simp
                · rw [HNX.out.2.1, HN.out]; simp
                · rw [HNX.out.2.2, HN.out]; simp
            · go_wp2_with fail
              refine (HNA.out _).mono ?_
              rintro e w3 ⟨rfl, hw⟩
              obtain rfl : w2 = w3 := hw.symm
              go_wp2_with fail
              refine (fbits_any u A _).mono ?_
              rintro e w3 ⟨rfl, hw⟩
              obtain rfl : w2 = w3 := hw
              go_wp2_with fail
              refine (HCA.out _).mono ?_
              rintro e w3 ⟨rfl, hw⟩
              obtain rfl : w2 = w3 := hw
              go_wp2_with fail
              refine (HCB.out _).mono ?_
              rintro e w3 ⟨rfl, hw⟩
              obtain rfl : w2 = w3 := hw
              go_wp2_with fail
              go_roundg (gk - 1)
              all_goals first | omega | skip
              case rel =>
                refine ⟨k + 1, decide (u = A), true, true, by omega, rfl, rfl, rfl, rfl, rfl, Lib.hid ⟨?_, ?_, ?_⟩⟩
                · rw [HNX.out.1, HN.out]; simp
                · rw [HNX.out.2.1, HN.out]; rfl
                · rw [HNX.out.2.2, HN.out]; simp
          · rcases q with _ | _
            · go_wp2_with fail
              refine (HNA.out _).mono ?_
              rintro e w3 ⟨rfl, hw⟩
              obtain rfl : w2 = w3 := hw.symm
              go_wp2_with fail
              refine (fbits_any u B _).mono ?_
              rintro e w3 ⟨rfl, hw⟩
              obtain rfl : w2 = w3 := hw
              go_wp2_with fail
              refine (HCA.out _).mono ?_
              rintro e w3 ⟨rfl, hw⟩
              obtain rfl : w2 = w3 := hw
              go_wp2_with fail
              refine (HCB.out _).mono ?_
              rintro e w3 ⟨rfl, hw⟩
              obtain rfl : w2 = w3 := hw
              go_wp2_with fail
              go_roundg (gk - 1)
              all_goals first | omega | skip
              case rel =>
                refine ⟨k + 1, true, decide (u = B), true, by omega, rfl, rfl, rfl, rfl, rfl, Lib.hid ⟨?_, ?_, ?_⟩⟩
                · rw [HNX.out.1, HN.out]; rfl
                · rw [HNX.out.2.1, HN.out]; simp
                · rw [HNX.out.2.2, HN.out]; simp
            · go_wp2_with fail
              refine (HNA.out _).mono ?_
              rintro e w3 ⟨rfl, hw⟩
              obtain rfl : w2 = w3 := hw.symm
              go_wp2_with fail
              refine (HCA.out _).mono ?_
              rintro e w3 ⟨rfl, hw⟩
              obtain rfl : w2 = w3 := hw
              go_wp2_with fail
              refine (HCB.out _).mono ?_
              rintro e w3 ⟨rfl, hw⟩
              obtain rfl : w2 = w3 := hw
              go_wp2_with fail
              go_roundg (gk - 1)
              all_goals first | omega | skip
              case rel =>
                refine ⟨k + 1, true, true, true, by omega, rfl, rfl, rfl, rfl, rfl, Lib.hid ⟨?_, ?_, ?_⟩⟩
                · rw [HNX.out.1, HN.out]; rfl
                · rw [HNX.out.2.1, HN.out]; rfl
                · rw [HNX.out.2.2, HN.out]; simp
        · rw [hnu] at HNA
          have HN := Lib.hid hnu
          clear hnu HE2
          go_wp2_with fail
          refine (HNA.out _).mono ?_
          rintro e w3 ⟨rfl, hw⟩
          obtain rfl : w2 = w3 := hw.symm
          go_wp2_with fail
          go_roundg (gk - 1)
          all_goals first | omega | skip
          case rel =>
            refine ⟨k + 1, p, q, sm, by omega, rfl, rfl, rfl, rfl, rfl, Lib.hid ⟨?_, ?_, ?_⟩⟩
            · rw [HNX.out.1, HN.out]; simp
            · rw [HNX.out.2.1, HN.out]; simp
            · rw [HNX.out.2.2, HN.out]; simp
      · obtain rfl : k = n := by omega
        rcases HE1.out.2 with ⟨x1, x2, x3⟩ | ⟨x1, x2, x3⟩
        · obtain rfl : sm = true := HK.out.2.2.symm.trans x1
          obtain rfl : p = true := HK.out.1.symm.trans x2
          obtain rfl : q = true := HK.out.2.1.symm.trans x3
          clear x1 x2 x3
          go_wp2_with fail
          go_ret
          exact ⟨rfl, H2.out.2⟩
        · obtain rfl : sm = false := HK.out.2.2.symm.trans x1
          have HNA := Lib.hid (isnan_any A)
          have HNB := Lib.hid (isnan_any B)
          rw [x2] at HNA
          rw [x3] at HNB
          clear x1 x2 x3
          go_wp2_with fail
          refine (HNA.out _).mono ?_
          rintro e w3 ⟨rfl, hw⟩
          obtain rfl : w2 = w3 := hw.symm
          go_wp2_with fail
          refine (HNB.out _).mono ?_
          rintro e w3 ⟨rfl, hw⟩
          obtain rfl : w2 = w3 := hw.symm
          go_wp2_with fail
          go_ret
          exact ⟨rfl, H2.out.2⟩
end Go.Proofs.YtipkiiblghnoiaaGreatDoor.realEnds
