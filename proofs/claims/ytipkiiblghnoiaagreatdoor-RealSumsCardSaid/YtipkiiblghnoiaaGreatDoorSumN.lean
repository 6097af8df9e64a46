/- The least and the greatest of a list. By an AI agent. -/
import Derived.Test.YtipkiiblghnoiaaGreatDoorSumM
import Derived.Test.YtipkiiblghnoiaaGreatDoorSumG
namespace Go.Proofs.YtipkiiblghnoiaaGreatDoor.Sm
open Go.ChangeShapes Go.WideShapes Go.ChangeAt Go.RowKit
set_option linter.unusedVariables false
set_option linter.unusedSimpArgs false

def outStep (side : Int) (st : Nat × Bool) (u : Nat) : Nat × Bool := if Flt.nan u = true then st else if st.2 = true ∧ cmpF u st.1 ≠ side then st else (u, true)
def outK (side : Int) (us : List Nat) (k : Nat) : Nat × Bool := (us.take k).foldl (outStep side) (9221120237041090561, false)
def outW (side : Int) (us : List Nat) : Nat := if us.length = 0 then 0 else (outK side us us.length).1
def outB (us : List Nat) : Bool := decide (us.length ≠ 0)
theorem outK_succ {side : Int} {us : List Nat} {k : Nat} (h : k < us.length) : outK side us (k + 1) = outStep side (outK side us k) (us.getD k 0) := by
  unfold outK; rw [take_next h, List.foldl_append]; rfl
theorem outK_lt {side : Int} {us : List Nat} (hu : ∀ i, us.getD i 0 < 18446744073709551616) : ∀ k, k ≤ us.length → (outK side us k).1 < 2 ^ 64
  | 0, _ => (by decide : (9221120237041090561 : Nat) < 2 ^ 64)
  | k + 1, h => by
    rw [outK_succ (by omega)]
    have ih := outK_lt (side := side) hu k (by omega)
    unfold outStep
    split
    · exact ih
    · split
      · exact ih
      · exact hu k
theorem out_nan {side : Int} {st : Nat × Bool} {u : Nat} (h : Flt.nan u = true) : outStep side st u = st := by unfold outStep; rw [if_pos h]
theorem out_first {side : Int} {b u : Nat} (h : Flt.nan u = false) : outStep side (b, false) u = (u, true) := by unfold outStep; rw [if_neg (by rw [h]; simp), if_neg (by simp)]
theorem out_cmp {side : Int} {b u : Nat} (h : Flt.nan u = false) : outStep side (b, true) u = if cmpF u b = side then (u, true) else (b, true) := by
  unfold outStep
  rw [if_neg (by rw [h]; simp)]
  by_cases hc : cmpF u b = side
  · rw [if_pos hc, if_neg (by simp [hc])]
  · rw [if_neg hc, if_pos ⟨rfl, hc⟩]

set_option maxRecDepth 100000 in
set_option maxHeartbeats 8000000 in
theorem outmin_any (o : Option Addr) (us : List Nat) (cap : Nat) (w : World) (hF : Fls w o us) (hu : ∀ i, us.getD i 0 < 18446744073709551616) (hn : us.length ≤ 1000000000) :
    Calls Tryz.prog 41 #[.int .i64 (-1), .slice o us.length cap] w fun e w' => e = .returned (.tuple #[.float .f64 (outW (-1) us), .bool (outB us)]) ∧ w' = w := by
  have HF := Lib.hid (And.intro hF hu)
  clear hF hu
  have HW : RowKit.Hid (outW (-1) us = (if us.length = 0 then 0 else (outK (-1) us us.length).1) ∧ outB us = decide (us.length ≠ 0)) := Lib.hid ⟨rfl, rfl⟩
  generalize outW (-1) us = ow at *
  generalize outB us = ob at *
  refine (show ∀ Q : Ending → World → Prop, (∀ e w', (e = .returned (.tuple #[.float .f64 ow, .bool ob]) ∧ w' = w) → Q e w') → Calls Tryz.prog 41 #[.int .i64 (-1), .slice o us.length cap] w Q from ?_) _ (fun _ _ h => h)
  intro Q hQ
  have HQ := Lib.hid hQ
  clear hQ
  generalize hl : us.length = n at *
  have HL := Lib.hid hl
  clear hl
  have ext := ext_from
  by_cases hn0 : n = 0
  · subst hn0
    have hw := HW.out
    rw [if_pos rfl] at hw
    obtain ⟨rfl, rfl⟩ := hw
    go_enter Tryz.func41, Tryz.ntmps41
    go_wp2_with fail
    exact HQ.out _ _ ⟨rfl, rfl⟩
  · have hw := HW.out
    rw [if_neg hn0, decide_eq_true hn0] at hw
    obtain ⟨hw1, rfl⟩ := hw
    have HW1 := Lib.hid hw1
    have d0 : ((n : Int) == 0) = false := by rw [beq_eq_false_iff_ne]; omega
    have d0' : (n == 0) = false := by rw [beq_eq_false_iff_ne]; omega
    clear hw1 hn0
    go_enter Tryz.func41, Tryz.ntmps41
    go_wp2_with (go_at_call 45
                 refine (none_any _).mono ?_
                 rintro e w3 ⟨rfl, h3⟩
                 obtain rfl : w = w3 := h3.symm)
    go_loopg [6, 7, 16] n (fun gq s6 s7 s16 wx => ∃ (k b : Nat) (th : Bool), gq + k = n ∧ s6 = .float .f64 b ∧ s7 = .bool th ∧ s16 = .int .i64 (k : Int) ∧ w = wx ∧ Hid (outK (-1) us k = (b, th) ∧ b < 2 ^ 64))
    case atStart => exact ⟨0, 9221120237041090561, false, by omega, rfl, rfl, rfl, rfl, rfl, by decide⟩
    case round =>
      obtain ⟨k, b, th, hgk, rfl, rfl, rfl, rfl, HK⟩ := hrel
      by_cases hk : k < n
      · have hk' : k < us.length := by rw [HL.out]; exact hk
        obtain ⟨ad, rfl, c0⟩ := HF.out.1 k hk'
        have HU := Lib.hid (HF.out.2 k)
        have hon := outK_succ (side := (-1)) hk'
        rw [HK.out.1] at hon
        have HON := Lib.hid hon
        clear hk' hon
        generalize us.getD k 0 = u at *
        cases hnu : Flt.nan u
        · have hb : (FloatKind.f64.format.order u u != some .eq) = false := by rw [← hnu, ← Flt.fnan_eq]; rfl
          have HN := Lib.hid hnu
          clear hnu
          rcases th with _ | _
          · go_wp2_with fail
            go_roundg (gk - 1)
            all_goals first | omega | skip
            case rel =>
              exact ⟨k + 1, u, true, by omega, rfl, rfl, rfl, rfl, Lib.hid ⟨by rw [HON.out]; exact out_first HN.out, HU.out⟩⟩
          · have HCMP := Lib.hid (compare_any u b HU.out HK.out.2 w)
            have hcr := cmp_range u b
            have HOC := Lib.hid (out_cmp (side := (-1)) (b := b) HN.out)
            generalize cmpF u b = c at *
            rcases (show c = -1 ∨ c = 0 ∨ c = 1 by omega) with rfl | rfl | rfl
            · clear hcr
              go_wp2_with (first
                | (go_at_call 19
                   refine HCMP.out.mono ?_
                   rintro e w3 ⟨rfl, h3⟩
                   obtain rfl := h3))
              go_roundg (gk - 1)
              all_goals first | omega | skip
              case rel =>
                exact ⟨k + 1, u, true, by omega, rfl, rfl, rfl, rfl, Lib.hid ⟨by rw [HON.out]; exact HOC.out.trans (if_pos (by decide)), HU.out⟩⟩
            · clear hcr
              go_wp2_with (first
                | (go_at_call 19
                   refine HCMP.out.mono ?_
                   rintro e w3 ⟨rfl, h3⟩
                   obtain rfl := h3))
              go_roundg (gk - 1)
              all_goals first | omega | skip
              case rel =>
                exact ⟨k + 1, b, true, by omega, rfl, rfl, rfl, rfl, Lib.hid ⟨by rw [HON.out]; exact HOC.out.trans (if_neg (by decide)), HK.out.2⟩⟩
            · clear hcr
              go_wp2_with (first
                | (go_at_call 19
                   refine HCMP.out.mono ?_
                   rintro e w3 ⟨rfl, h3⟩
                   obtain rfl := h3))
              go_roundg (gk - 1)
              all_goals first | omega | skip
              case rel =>
                exact ⟨k + 1, b, true, by omega, rfl, rfl, rfl, rfl, Lib.hid ⟨by rw [HON.out]; exact HOC.out.trans (if_neg (by decide)), HK.out.2⟩⟩
        · have hb : (FloatKind.f64.format.order u u != some .eq) = true := by rw [← hnu, ← Flt.fnan_eq]; rfl
          have HN := Lib.hid hnu
          clear hnu
          go_wp2_with fail
          go_roundg (gk - 1)
          all_goals first | omega | skip
          case rel =>
            exact ⟨k + 1, b, th, by omega, rfl, rfl, rfl, rfl, Lib.hid ⟨by rw [HON.out]; exact out_nan HN.out, HK.out.2⟩⟩
      · obtain rfl : k = n := by omega
        go_wp2_with fail
        exact HQ.out _ _ ⟨by rw [HW1.out, HK.out.1]; rfl, rfl⟩

set_option maxRecDepth 100000 in
set_option maxHeartbeats 8000000 in
theorem outmax_any (o : Option Addr) (us : List Nat) (cap : Nat) (w : World) (hF : Fls w o us) (hu : ∀ i, us.getD i 0 < 18446744073709551616) (hn : us.length ≤ 1000000000) :
    Calls Tryz.prog 41 #[.int .i64 1, .slice o us.length cap] w fun e w' => e = .returned (.tuple #[.float .f64 (outW 1 us), .bool (outB us)]) ∧ w' = w := by
  have HF := Lib.hid (And.intro hF hu)
  clear hF hu
  have HW : RowKit.Hid (outW 1 us = (if us.length = 0 then 0 else (outK 1 us us.length).1) ∧ outB us = decide (us.length ≠ 0)) := Lib.hid ⟨rfl, rfl⟩
  generalize outW 1 us = ow at *
  generalize outB us = ob at *
  refine (show ∀ Q : Ending → World → Prop, (∀ e w', (e = .returned (.tuple #[.float .f64 ow, .bool ob]) ∧ w' = w) → Q e w') → Calls Tryz.prog 41 #[.int .i64 1, .slice o us.length cap] w Q from ?_) _ (fun _ _ h => h)
  intro Q hQ
  have HQ := Lib.hid hQ
  clear hQ
  generalize hl : us.length = n at *
  have HL := Lib.hid hl
  clear hl
  have ext := ext_from
  by_cases hn0 : n = 0
  · subst hn0
    have hw := HW.out
    rw [if_pos rfl] at hw
    obtain ⟨rfl, rfl⟩ := hw
    go_enter Tryz.func41, Tryz.ntmps41
    go_wp2_with fail
    exact HQ.out _ _ ⟨rfl, rfl⟩
  · have hw := HW.out
    rw [if_neg hn0, decide_eq_true hn0] at hw
    obtain ⟨hw1, rfl⟩ := hw
    have HW1 := Lib.hid hw1
    have d0 : ((n : Int) == 0) = false := by rw [beq_eq_false_iff_ne]; omega
    have d0' : (n == 0) = false := by rw [beq_eq_false_iff_ne]; omega
    clear hw1 hn0
    go_enter Tryz.func41, Tryz.ntmps41
    go_wp2_with (go_at_call 45
                 refine (none_any _).mono ?_
                 rintro e w3 ⟨rfl, h3⟩
                 obtain rfl : w = w3 := h3.symm)
    go_loopg [6, 7, 16] n (fun gq s6 s7 s16 wx => ∃ (k b : Nat) (th : Bool), gq + k = n ∧ s6 = .float .f64 b ∧ s7 = .bool th ∧ s16 = .int .i64 (k : Int) ∧ w = wx ∧ Hid (outK 1 us k = (b, th) ∧ b < 2 ^ 64))
    case atStart => exact ⟨0, 9221120237041090561, false, by omega, rfl, rfl, rfl, rfl, rfl, by decide⟩
    case round =>
      obtain ⟨k, b, th, hgk, rfl, rfl, rfl, rfl, HK⟩ := hrel
      by_cases hk : k < n
      · have hk' : k < us.length := by rw [HL.out]; exact hk
        obtain ⟨ad, rfl, c0⟩ := HF.out.1 k hk'
        have HU := Lib.hid (HF.out.2 k)
        have hon := outK_succ (side := 1) hk'
        rw [HK.out.1] at hon
        have HON := Lib.hid hon
        clear hk' hon
        generalize us.getD k 0 = u at *
        cases hnu : Flt.nan u
        · have hb : (FloatKind.f64.format.order u u != some .eq) = false := by rw [← hnu, ← Flt.fnan_eq]; rfl
          have HN := Lib.hid hnu
          clear hnu
          rcases th with _ | _
          · go_wp2_with fail
            go_roundg (gk - 1)
            all_goals first | omega | skip
            case rel =>
              exact ⟨k + 1, u, true, by omega, rfl, rfl, rfl, rfl, Lib.hid ⟨by rw [HON.out]; exact out_first HN.out, HU.out⟩⟩
          · have HCMP := Lib.hid (compare_any u b HU.out HK.out.2 w)
            have hcr := cmp_range u b
            have HOC := Lib.hid (out_cmp (side := 1) (b := b) HN.out)
            generalize cmpF u b = c at *
            rcases (show c = -1 ∨ c = 0 ∨ c = 1 by omega) with rfl | rfl | rfl
            · clear hcr
              go_wp2_with (first
                | (go_at_call 19
                   refine HCMP.out.mono ?_
                   rintro e w3 ⟨rfl, h3⟩
                   obtain rfl := h3))
              go_roundg (gk - 1)
              all_goals first | omega | skip
              case rel =>
                exact ⟨k + 1, b, true, by omega, rfl, rfl, rfl, rfl, Lib.hid ⟨by rw [HON.out]; exact HOC.out.trans (if_neg (by decide)), HK.out.2⟩⟩
            · clear hcr
              go_wp2_with (first
                | (go_at_call 19
                   refine HCMP.out.mono ?_
                   rintro e w3 ⟨rfl, h3⟩
                   obtain rfl := h3))
              go_roundg (gk - 1)
              all_goals first | omega | skip
              case rel =>
                exact ⟨k + 1, b, true, by omega, rfl, rfl, rfl, rfl, Lib.hid ⟨by rw [HON.out]; exact HOC.out.trans (if_neg (by decide)), HK.out.2⟩⟩
            · clear hcr
              go_wp2_with (first
                | (go_at_call 19
                   refine HCMP.out.mono ?_
                   rintro e w3 ⟨rfl, h3⟩
                   obtain rfl := h3))
              go_roundg (gk - 1)
              all_goals first | omega | skip
              case rel =>
                exact ⟨k + 1, u, true, by omega, rfl, rfl, rfl, rfl, Lib.hid ⟨by rw [HON.out]; exact HOC.out.trans (if_pos (by decide)), HU.out⟩⟩
        · have hb : (FloatKind.f64.format.order u u != some .eq) = true := by rw [← hnu, ← Flt.fnan_eq]; rfl
          have HN := Lib.hid hnu
          clear hnu
          go_wp2_with fail
          go_roundg (gk - 1)
          all_goals first | omega | skip
          case rel =>
            exact ⟨k + 1, b, th, by omega, rfl, rfl, rfl, rfl, Lib.hid ⟨by rw [HON.out]; exact out_nan HN.out, HK.out.2⟩⟩
      · obtain rfl : k = n := by omega
        go_wp2_with fail
        exact HQ.out _ _ ⟨by rw [HW1.out, HK.out.1]; rfl, rfl⟩

set_option maxRecDepth 100000 in
set_option maxHeartbeats 8000000 in
theorem firstmin_any (o : Option Addr) (us : List Nat) (cap : Nat) (w : World) (hF : Fls w o us) (hu : ∀ i, us.getD i 0 < 18446744073709551616) (hn : us.length ≤ 1000000000) :
    Calls Tryz.prog 42 #[.slice o us.length cap, .int .i64 (-1)] w fun e w' => e = .returned (.tuple #[.float .f64 (outW (-1) us), .bool (outB us)]) ∧ w' = w := by
  have HF := Lib.hid (And.intro hF hu)
  clear hF hu
  have HW : RowKit.Hid (outW (-1) us = (if us.length = 0 then 0 else (outK (-1) us us.length).1) ∧ outB us = decide (us.length ≠ 0)) := Lib.hid ⟨rfl, rfl⟩
  generalize outW (-1) us = ow at *
  generalize outB us = ob at *
  refine (show ∀ Q : Ending → World → Prop, (∀ e w', (e = .returned (.tuple #[.float .f64 ow, .bool ob]) ∧ w' = w) → Q e w') → Calls Tryz.prog 42 #[.slice o us.length cap, .int .i64 (-1)] w Q from ?_) _ (fun _ _ h => h)
  intro Q hQ
  have HQ := Lib.hid hQ
  clear hQ
  generalize hl : us.length = n at *
  have HL := Lib.hid hl
  clear hl
  have ext := ext_from
  go_enter Tryz.func42, Tryz.ntmps42
  go_wp2_with fail
  go_loopg [6, 7, 8] n (fun gq s6 s7 s8 wx => ∃ (k b : Nat) (th : Bool), gq + k = n ∧ s6 = .float .f64 b ∧ s7 = .bool th ∧ s8 = .int .i64 (k : Int) ∧ w = wx ∧ Hid (outK (-1) us k = (b, th) ∧ b < 2 ^ 64))
  case atStart => exact ⟨0, 9221120237041090561, false, by omega, rfl, rfl, rfl, rfl, rfl, by decide⟩
  case round =>
    obtain ⟨k, b, th, hgk, rfl, rfl, rfl, rfl, HK⟩ := hrel
    by_cases hk : k < n
    · have hk' : k < us.length := by rw [HL.out]; exact hk
      obtain ⟨ad, rfl, c0⟩ := HF.out.1 k hk'
      have HU := Lib.hid (HF.out.2 k)
      have hon := outK_succ (side := (-1)) hk'
      rw [HK.out.1] at hon
      have HON := Lib.hid hon
      clear hk' hon
      generalize us.getD k 0 = u at *
      have HNAN := Lib.hid (nan3_any u w)
      cases hnu : Flt.nan u
      · rw [hnu] at HNAN
        have HN := Lib.hid hnu
        clear hnu
        rcases th with _ | _
        · go_wp2_with (first
            | (go_at_call 51
               refine HNAN.out.mono ?_
               rintro e w3 ⟨rfl, h3⟩
               obtain rfl := h3))
          go_roundg (gk - 1)
          all_goals first | omega | skip
          case rel =>
            exact ⟨k + 1, u, true, by omega, rfl, rfl, rfl, rfl, Lib.hid ⟨by rw [HON.out]; exact out_first HN.out, HU.out⟩⟩
        · have HCMP := Lib.hid (cmp3_any u b HU.out HK.out.2 w)
          have hcr := cmp_range u b
          have HOC := Lib.hid (out_cmp (side := (-1)) (b := b) HN.out)
          generalize cmpF u b = c at *
          rcases (show c = -1 ∨ c = 0 ∨ c = 1 by omega) with rfl | rfl | rfl
          · clear hcr
            go_wp2_with (first
              | (go_at_call 51
                 refine HNAN.out.mono ?_
                 rintro e w3 ⟨rfl, h3⟩
                 obtain rfl := h3)
              | (go_at_call 35
                 refine HCMP.out.mono ?_
                 rintro e w3 ⟨rfl, h3⟩
                 obtain rfl := h3))
            go_roundg (gk - 1)
            all_goals first | omega | skip
            case rel =>
              exact ⟨k + 1, u, true, by omega, rfl, rfl, rfl, rfl, Lib.hid ⟨by rw [HON.out]; exact HOC.out.trans (if_pos (by decide)), HU.out⟩⟩
          · clear hcr
            go_wp2_with (first
              | (go_at_call 51
                 refine HNAN.out.mono ?_
                 rintro e w3 ⟨rfl, h3⟩
                 obtain rfl := h3)
              | (go_at_call 35
                 refine HCMP.out.mono ?_
                 rintro e w3 ⟨rfl, h3⟩
                 obtain rfl := h3))
            go_roundg (gk - 1)
            all_goals first | omega | skip
            case rel =>
              exact ⟨k + 1, b, true, by omega, rfl, rfl, rfl, rfl, Lib.hid ⟨by rw [HON.out]; exact HOC.out.trans (if_neg (by decide)), HK.out.2⟩⟩
          · clear hcr
            go_wp2_with (first
              | (go_at_call 51
                 refine HNAN.out.mono ?_
                 rintro e w3 ⟨rfl, h3⟩
                 obtain rfl := h3)
              | (go_at_call 35
                 refine HCMP.out.mono ?_
                 rintro e w3 ⟨rfl, h3⟩
                 obtain rfl := h3))
            go_roundg (gk - 1)
            all_goals first | omega | skip
            case rel =>
              exact ⟨k + 1, b, true, by omega, rfl, rfl, rfl, rfl, Lib.hid ⟨by rw [HON.out]; exact HOC.out.trans (if_neg (by decide)), HK.out.2⟩⟩
      · rw [hnu] at HNAN
        have HN := Lib.hid hnu
        clear hnu
        go_wp2_with (first
          | (go_at_call 51
             refine HNAN.out.mono ?_
             rintro e w3 ⟨rfl, h3⟩
             obtain rfl := h3))
        go_roundg (gk - 1)
        all_goals first | omega | skip
        case rel =>
          exact ⟨k + 1, b, th, by omega, rfl, rfl, rfl, rfl, Lib.hid ⟨by rw [HON.out]; exact out_nan HN.out, HK.out.2⟩⟩
    · obtain rfl : k = n := by omega
      have hw := HW.out
      by_cases hn0 : k = 0
      · subst hn0
        rw [if_pos rfl] at hw
        obtain ⟨rfl, rfl⟩ := hw
        go_wp2_with fail
        exact HQ.out _ _ ⟨rfl, rfl⟩
      · rw [if_neg hn0, decide_eq_true hn0] at hw
        obtain ⟨hw1, rfl⟩ := hw
        have HW1 := Lib.hid hw1
        have d0 : ((k : Int) == 0) = false := by rw [beq_eq_false_iff_ne]; omega
        have d0' : (k == 0) = false := by rw [beq_eq_false_iff_ne]; omega
        clear hw1 hn0
        go_wp2_with fail
        exact HQ.out _ _ ⟨by rw [HW1.out, HK.out.1]; rfl, rfl⟩

set_option maxRecDepth 100000 in
set_option maxHeartbeats 8000000 in
theorem firstmax_any (o : Option Addr) (us : List Nat) (cap : Nat) (w : World) (hF : Fls w o us) (hu : ∀ i, us.getD i 0 < 18446744073709551616) (hn : us.length ≤ 1000000000) :
    Calls Tryz.prog 42 #[.slice o us.length cap, .int .i64 1] w fun e w' => e = .returned (.tuple #[.float .f64 (outW 1 us), .bool (outB us)]) ∧ w' = w := by
  have HF := Lib.hid (And.intro hF hu)
  clear hF hu
  have HW : RowKit.Hid (outW 1 us = (if us.length = 0 then 0 else (outK 1 us us.length).1) ∧ outB us = decide (us.length ≠ 0)) := Lib.hid ⟨rfl, rfl⟩
  generalize outW 1 us = ow at *
  generalize outB us = ob at *
  refine (show ∀ Q : Ending → World → Prop, (∀ e w', (e = .returned (.tuple #[.float .f64 ow, .bool ob]) ∧ w' = w) → Q e w') → Calls Tryz.prog 42 #[.slice o us.length cap, .int .i64 1] w Q from ?_) _ (fun _ _ h => h)
  intro Q hQ
  have HQ := Lib.hid hQ
  clear hQ
  generalize hl : us.length = n at *
  have HL := Lib.hid hl
  clear hl
  have ext := ext_from
  go_enter Tryz.func42, Tryz.ntmps42
  go_wp2_with fail
  go_loopg [6, 7, 8] n (fun gq s6 s7 s8 wx => ∃ (k b : Nat) (th : Bool), gq + k = n ∧ s6 = .float .f64 b ∧ s7 = .bool th ∧ s8 = .int .i64 (k : Int) ∧ w = wx ∧ Hid (outK 1 us k = (b, th) ∧ b < 2 ^ 64))
  case atStart => exact ⟨0, 9221120237041090561, false, by omega, rfl, rfl, rfl, rfl, rfl, by decide⟩
  case round =>
    obtain ⟨k, b, th, hgk, rfl, rfl, rfl, rfl, HK⟩ := hrel
    by_cases hk : k < n
    · have hk' : k < us.length := by rw [HL.out]; exact hk
      obtain ⟨ad, rfl, c0⟩ := HF.out.1 k hk'
      have HU := Lib.hid (HF.out.2 k)
      have hon := outK_succ (side := 1) hk'
      rw [HK.out.1] at hon
      have HON := Lib.hid hon
      clear hk' hon
      generalize us.getD k 0 = u at *
      have HNAN := Lib.hid (nan3_any u w)
      cases hnu : Flt.nan u
      · rw [hnu] at HNAN
        have HN := Lib.hid hnu
        clear hnu
        rcases th with _ | _
        · go_wp2_with (first
            | (go_at_call 51
               refine HNAN.out.mono ?_
               rintro e w3 ⟨rfl, h3⟩
               obtain rfl := h3))
          go_roundg (gk - 1)
          all_goals first | omega | skip
          case rel =>
            exact ⟨k + 1, u, true, by omega, rfl, rfl, rfl, rfl, Lib.hid ⟨by rw [HON.out]; exact out_first HN.out, HU.out⟩⟩
        · have HCMP := Lib.hid (cmp3_any u b HU.out HK.out.2 w)
          have hcr := cmp_range u b
          have HOC := Lib.hid (out_cmp (side := 1) (b := b) HN.out)
          generalize cmpF u b = c at *
          rcases (show c = -1 ∨ c = 0 ∨ c = 1 by omega) with rfl | rfl | rfl
          · clear hcr
            go_wp2_with (first
              | (go_at_call 51
                 refine HNAN.out.mono ?_
                 rintro e w3 ⟨rfl, h3⟩
                 obtain rfl := h3)
              | (go_at_call 35
                 refine HCMP.out.mono ?_
                 rintro e w3 ⟨rfl, h3⟩
                 obtain rfl := h3))
            go_roundg (gk - 1)
            all_goals first | omega | skip
            case rel =>
              exact ⟨k + 1, b, true, by omega, rfl, rfl, rfl, rfl, Lib.hid ⟨by rw [HON.out]; exact HOC.out.trans (if_neg (by decide)), HK.out.2⟩⟩
          · clear hcr
            go_wp2_with (first
              | (go_at_call 51
                 refine HNAN.out.mono ?_
                 rintro e w3 ⟨rfl, h3⟩
                 obtain rfl := h3)
              | (go_at_call 35
                 refine HCMP.out.mono ?_
                 rintro e w3 ⟨rfl, h3⟩
                 obtain rfl := h3))
            go_roundg (gk - 1)
            all_goals first | omega | skip
            case rel =>
              exact ⟨k + 1, b, true, by omega, rfl, rfl, rfl, rfl, Lib.hid ⟨by rw [HON.out]; exact HOC.out.trans (if_neg (by decide)), HK.out.2⟩⟩
          · clear hcr
            go_wp2_with (first
              | (go_at_call 51
                 refine HNAN.out.mono ?_
                 rintro e w3 ⟨rfl, h3⟩
                 obtain rfl := h3)
              | (go_at_call 35
                 refine HCMP.out.mono ?_
                 rintro e w3 ⟨rfl, h3⟩
                 obtain rfl := h3))
            go_roundg (gk - 1)
            all_goals first | omega | skip
            case rel =>
              exact ⟨k + 1, u, true, by omega, rfl, rfl, rfl, rfl, Lib.hid ⟨by rw [HON.out]; exact HOC.out.trans (if_pos (by decide)), HU.out⟩⟩
      · rw [hnu] at HNAN
        have HN := Lib.hid hnu
        clear hnu
        go_wp2_with (first
          | (go_at_call 51
             refine HNAN.out.mono ?_
             rintro e w3 ⟨rfl, h3⟩
             obtain rfl := h3))
        go_roundg (gk - 1)
        all_goals first | omega | skip
        case rel =>
          exact ⟨k + 1, b, th, by omega, rfl, rfl, rfl, rfl, Lib.hid ⟨by rw [HON.out]; exact out_nan HN.out, HK.out.2⟩⟩
    · obtain rfl : k = n := by omega
      have hw := HW.out
      by_cases hn0 : k = 0
      · subst hn0
        rw [if_pos rfl] at hw
        obtain ⟨rfl, rfl⟩ := hw
        go_wp2_with fail
        exact HQ.out _ _ ⟨rfl, rfl⟩
      · rw [if_neg hn0, decide_eq_true hn0] at hw
        obtain ⟨hw1, rfl⟩ := hw
        have HW1 := Lib.hid hw1
        have d0 : ((k : Int) == 0) = false := by rw [beq_eq_false_iff_ne]; omega
        have d0' : (k == 0) = false := by rw [beq_eq_false_iff_ne]; omega
        clear hw1 hn0
        go_wp2_with fail
        exact HQ.out _ _ ⟨by rw [HW1.out, HK.out.1]; rfl, rfl⟩

theorem min_any (o : Option Addr) (us : List Nat) (cap : Nat) (w : World) (hF : Fls w o us) (hu : ∀ i, us.getD i 0 < 18446744073709551616) (hn : us.length ≤ 1000000000) :
    Calls Tryz.prog 11 #[.slice o us.length cap] w fun e w' => e = .returned (.tuple #[.float .f64 (outW (-1) us), .bool (outB us)]) ∧ w' = w := by
  have HC := Lib.hid (outmin_any o us cap w hF hu hn)
  clear hF hu
  generalize us.length = n at *
  generalize outW (-1) us = ow at *
  generalize outB us = ob at *
  go_enter Tryz.func11, Tryz.ntmps11
  go_wp2_with (go_at_call 41
               refine HC.out.mono ?_
               rintro e w3 ⟨rfl, h3⟩
               obtain rfl : w = w3 := h3.symm)
  go_ret2
  exact ⟨rfl, rfl⟩

theorem max_any (o : Option Addr) (us : List Nat) (cap : Nat) (w : World) (hF : Fls w o us) (hu : ∀ i, us.getD i 0 < 18446744073709551616) (hn : us.length ≤ 1000000000) :
    Calls Tryz.prog 13 #[.slice o us.length cap] w fun e w' => e = .returned (.tuple #[.float .f64 (outW 1 us), .bool (outB us)]) ∧ w' = w := by
  have HC := Lib.hid (outmax_any o us cap w hF hu hn)
  clear hF hu
  generalize us.length = n at *
  generalize outW 1 us = ow at *
  generalize outB us = ob at *
  go_enter Tryz.func13, Tryz.ntmps13
  go_wp2_with (go_at_call 41
               refine HC.out.mono ?_
               rintro e w3 ⟨rfl, h3⟩
               obtain rfl : w = w3 := h3.symm)
  go_ret2
  exact ⟨rfl, rfl⟩

theorem min3_any (o : Option Addr) (us : List Nat) (cap : Nat) (w : World) (hF : Fls w o us) (hu : ∀ i, us.getD i 0 < 18446744073709551616) (hn : us.length ≤ 1000000000) :
    Calls Tryz.prog 12 #[.slice o us.length cap] w fun e w' => e = .returned (.tuple #[.float .f64 (outW (-1) us), .bool (outB us)]) ∧ w' = w := by
  have HC := Lib.hid (firstmin_any o us cap w hF hu hn)
  clear hF hu
  generalize us.length = n at *
  generalize outW (-1) us = ow at *
  generalize outB us = ob at *
  go_enter Tryz.func12, Tryz.ntmps12
  go_wp2_with (go_at_call 42
               refine HC.out.mono ?_
               rintro e w3 ⟨rfl, h3⟩
               obtain rfl : w = w3 := h3.symm)
  go_ret2
  exact ⟨rfl, rfl⟩

theorem max3_any (o : Option Addr) (us : List Nat) (cap : Nat) (w : World) (hF : Fls w o us) (hu : ∀ i, us.getD i 0 < 18446744073709551616) (hn : us.length ≤ 1000000000) :
    Calls Tryz.prog 14 #[.slice o us.length cap] w fun e w' => e = .returned (.tuple #[.float .f64 (outW 1 us), .bool (outB us)]) ∧ w' = w := by
  have HC := Lib.hid (firstmax_any o us cap w hF hu hn)
  clear hF hu
  generalize us.length = n at *
  generalize outW 1 us = ow at *
  generalize outB us = ob at *
  go_enter Tryz.func14, Tryz.ntmps14
  go_wp2_with (go_at_call 42
               refine HC.out.mono ?_
               rintro e w3 ⟨rfl, h3⟩
               obtain rfl : w = w3 := h3.symm)
  go_ret2
  exact ⟨rfl, rfl⟩
end Go.Proofs.YtipkiiblghnoiaaGreatDoor.Sm
