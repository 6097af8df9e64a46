/- Contract of strconv's fmtEFG at the shortest form, with an exponent; printed by genFtF.py. By an AI agent. -/
import Derived.Test.YtipkiiblghnoiaaGreatDoorFtE
import Derived.Deep.Cut
namespace Go.Proofs.YtipkiiblghnoiaaGreatDoor
open Go.ChangeShapes Go.WideShapes Go.ChangeAt Go.RowKit
open Bt
set_option linter.unusedVariables false

/-- The buffer's digits. -/
def Dgs (w : World) (b : Nat) (D : List Nat) : Prop := ∀ t, t < D.length → w.cell? ⟨b, t, none⟩ = some (.int .u8 (D.getD t 0 : Nat))

theorem Dgs.drop {w : World} {b : Nat} {D : List Nat} (h : Dgs w b D) (k m : Nat) (hm : m = D.length - k) : (D.drop k).length = m ∧ ∀ t, t < (D.drop k).length → w.cell? ⟨b, k + t, none⟩ = some (.int .u8 ((D.drop k).getD t 0 : Nat)) := by
  refine ⟨by rw [List.length_drop, hm], fun t ht => ?_⟩
  rw [List.length_drop] at ht
  rw [h (k + t) (by omega)]
  simp [List.getD_eq_getElem?_getD, List.getElem?_drop]

set_option maxRecDepth 100000 in
set_option maxHeartbeats 2000000 in
theorem fmtE_any (neg : Bool) (D : List Nat) (dp : Int) (b base : Nat) (v : Value) (w : World) (hI : Bu w base b v [] w) (hD : Dgs w b D) (h1 : 1 ≤ D.length) (h2 : D.length ≤ 20) (hd0 : -400 ≤ dp) (hd1 : dp ≤ 400) (hE : dp - 1 < -4 ∨ 6 ≤ dp - 1) :
    Calls Tryz.prog 88 #[v, .bool neg, .slice (some ⟨b, 0, none⟩) 32 32, .int .i64 dp, .int .i64 (D.length : Int), .int .i64 (D.length : Int), .int .u8 103, .bool true] w fun e w' => ∃ v', e = .returned v' ∧ Bu w base b v' (Us.fmtG neg D dp) w' := by
  have HI := Lib.hid (And.intro hI hD)
  clear hI hD
  obtain ⟨nd, hnd⟩ : ∃ nd, nd = D.length := ⟨_, rfl⟩
  rw [← hnd] at h1 h2 ⊢
  have hz : ((nd : Int) == 0) = false := by rw [beq_eq_false_iff_ne]; omega
  have HN := Lib.hid hnd
  obtain ⟨sg, hsg⟩ : ∃ sg : List Nat, sg = (if neg then [45] else []) := ⟨_, rfl⟩
  have hsl : sg.length ≤ 1 := by rw [hsg]; split <;> simp
  have HSG := Lib.hid hsg
  obtain ⟨c0, hcc⟩ : ∃ c0 : Nat, c0 = D.getD 0 0 := ⟨_, rfl⟩
  obtain ⟨dt, hdt⟩ : ∃ dt : List Nat, dt = D.drop 1 := ⟨_, rfl⟩
  obtain ⟨tl, htl⟩ : ∃ tl : List Nat, tl = (if 1 < nd then 46 :: dt else []) := ⟨_, rfl⟩
  have htn : tl.length ≤ 21 := by
    rw [htl]; split
    · rw [hdt]; simp; omega
    · simp
  have hDR := HI.out.2.drop 1 (nd - 1) (by omega)
  rw [← hdt] at hDR
  have HDR := Lib.hid hDR
  have hend : (if neg then [45] else []) ++ (D.take 1 ++ (if 1 < D.length then 46 :: D.drop 1 else []) ++ 101 :: Us.expT (dp - 1)) = Us.fmtG neg D dp := by
    unfold Us.fmtG Us.fmtE
    rw [if_neg (show ¬ D = [] from fun h => by rw [h] at hnd; simp at hnd; omega), if_pos hE]
  have ht1 : D.take 1 = [c0] := by
    cases D with
    | nil => simp at hnd; omega
    | cons y r => rw [hcc]; rfl
  rw [← hsg, ht1, ← hnd, ← hdt, ← htl] at hend
  have HEND := Lib.hid hend
  have HTL := Lib.hid htl
  have HC := Lib.hid hcc
  clear hnd hsg hcc hdt htl hDR hend ht1
  go_enter Tryz.func88, Tryz.ntmps88
  go_upto_if 36 with (fail)
  go_cut [5, 6] from 31 to 73 (fun s5 s6 wx => s5 = .int .i64 ((nd : Int) - 1) ∧ s6 = .int .u8 101 ∧ wx = w)
  case first =>
    rcases hE with hE | hE
    · have hA : decide (dp - 1 < -4) = true := decide_eq_true hE
      have hB : decide ((nd : Int) < dp) = false := by rw [decide_eq_false_iff_not]; omega
      go_wp2_with fail
      all_goals (go_meet; exact ⟨rfl, rfl, rfl⟩)
    · have hA : decide (dp - 1 < -4) = false := by rw [decide_eq_false_iff_not]; omega
      have hB : decide (6 ≤ dp - 1) = true := decide_eq_true hE
      go_wp2_with fail
      all_goals (go_meet; exact ⟨rfl, rfl, rfl⟩)
  case rest =>
    obtain ⟨rfl, rfl, hw⟩ := hcut
    obtain rfl : w = wc := hw.symm
    go_upto_if 78 with (fail)
    go_cut [0] from 79 to 81 (fun s0 wx => Hid (Bu w base b s0 sg wx))
    case first =>
      cases neg
      · have hsg : sg = [] := HSG.out
        subst hsg
        go_wp2_with fail
        go_meet
        exact HI.out.1
      · have hsg : sg = [45] := HSG.out
        subst hsg
        go_wp2_with (at_builtin; go_must (refine put_one HI.out.1 (by simp) (45) (45) ?_ ?_ rfl (.tmp 79) (.tmp 80) rfl rfl rfl ?_))
        try any_goals (first | with_reducible rfl | (show (_ : Int) = _; rfl) | exact cell_one_new _ _ _ 0 _ rfl)
        intro v1 w1 h'
        have H1 := Lib.hid h'
        clear h'
        go_wp2_with fail
        go_meet
        exact H1.out
    case rest =>
      have HS := Lib.hid hcut.out
      clear hcut
      have hc0 : wc.cell? ⟨b, 0, none⟩ = some (.int .u8 (c0 : Nat)) := by rw [HC.out]; exact (HS.out.cell 0).trans (HI.out.2 0 (by rw [← HN.out]; omega))
      go_wp2_with (at_builtin; go_must (refine put_one HS.out (by omega) (((c0 : Nat) : Int)) (c0) ?_ ?_ rfl (.tmp 87) (.tmp 89) rfl rfl rfl ?_))
      try any_goals (first | with_reducible rfl | (show (_ : Int) = _; rfl) | exact cell_one_new _ _ _ 0 _ rfl)
      intro v2 w2 h'
      generalize hB2 : sg ++ [c0] = B2 at h'
      have hl2 : B2.length ≤ 100 := by rw [← hB2]; simp; omega
      have H2 := Lib.hid h'
      have HB2 := Lib.hid hB2
      clear h' hB2
      clear hc0
      go_upto_if 92 with (fail)
      go_cut [0, 20, 21] from 91 to 119 (fun s0 _ _ wx => Hid (Bu w base b s0 (B2 ++ tl) wx))
      case first =>
        by_cases hn1 : 1 < nd
        · have hb : decide ((1 : Int) < (nd : Int)) = true := by rw [decide_eq_true_eq]; omega
          go_wp2_with (at_builtin; go_must (refine put_one H2.out (by omega) (46) (46) ?_ ?_ rfl (.tmp 93) (.tmp 94) rfl rfl rfl ?_))
          try any_goals (first | with_reducible rfl | (show (_ : Int) = _; rfl) | exact cell_one_new _ _ _ 0 _ rfl)
          intro v3 w3 h'
          generalize hB3 : B2 ++ [46] = B3 at h'
          have hl3 : B3.length ≤ 101 := by rw [← hB3]; simp; omega
          have H3 := Lib.hid h'
          have HB3 := Lib.hid hB3
          clear h' hB3
          go_wp2_with (at_builtin; go_must (refine put_cells H3.out (by omega) 1 (dt) HDR.out.2 (by rw [HDR.out.1]; omega) (nd - 1) 31 HDR.out.1 rfl (.tmp 103) (.tmp 107) rfl rfl rfl ?_))
          intro v4 w4 h'
          generalize hB4 : B3 ++ dt = B4 at h'
          have hl4 : B4.length ≤ 150 := by rw [← hB4, List.length_append, HDR.out.1]; omega
          have H4 := Lib.hid h'
          have HB4 := Lib.hid hB4
          clear h' hB4
          go_wp2_with fail
          have hfin : RowKit.Hid (B2 ++ tl = B4) := Lib.hid (by rw [HTL.out, if_pos hn1, ← HB4.out, ← HB3.out]; simp)
          go_loop [0, 114] (fun s i => s = v4 ∧ i = .int .i64 0) (fun _ _ => 0)
          case atStart => exact ⟨rfl, rfl⟩
          case round =>
            obtain ⟨rfl, rfl⟩ := hrel
            go_wp2_with fail
            go_meet
            rw [hfin.out]
            exact Lib.hid H4.out
        · have hb : decide ((1 : Int) < (nd : Int)) = false := by rw [decide_eq_false_iff_not]; omega
          have hnil : tl = [] := by rw [HTL.out, if_neg hn1]
          subst hnil
          go_wp2_with fail
          go_meet
          rw [List.append_nil]
          exact H2.out
      case rest =>
        have h5 := hcut.out
        clear hcut
        generalize hB5 : B2 ++ tl = B5 at h5
        have hl5 : B5.length ≤ 150 := by rw [← hB5]; simp; omega
        have H5 := Lib.hid h5
        have HB5 := Lib.hid hB5
        clear h5 hB5
        go_wp2_with (at_builtin; go_must (refine put_one H5.out (by omega) (101) (101) ?_ ?_ rfl (.tmp 120) (.tmp 122) rfl rfl rfl ?_))
        try any_goals (first | with_reducible rfl | (show (_ : Int) = _; rfl) | exact cell_one_new _ _ _ 0 _ rfl)
        intro v6 w6 h'
        generalize hB6 : B5 ++ [101] = B6 at h'
        have hl6 : B6.length ≤ 151 := by rw [← hB6]; simp; omega
        have H6 := Lib.hid h'
        have HB6 := Lib.hid hB6
        clear h' hB6
        obtain ⟨x, hx⟩ : ∃ x : Nat, x = (dp - 1).natAbs := ⟨_, rfl⟩
        have hx4 : x ≤ 401 := by omega
        obtain ⟨sb, hsb⟩ : ∃ sb : Nat, sb = (if dp - 1 < 0 then 45 else 43) := ⟨_, rfl⟩
        obtain ⟨xs, hxs⟩ : ∃ xs : List Nat, xs = (if x < 10 then [48, x + 48] else if x < 100 then [x / 10 + 48, x % 10 + 48] else [x / 100 + 48, x / 10 % 10 + 48, x % 10 + 48]) := ⟨_, rfl⟩
        have hfin : RowKit.Hid (∀ B8, B6 ++ [sb] = B8 → B8 ++ xs = Us.fmtG neg D dp) := Lib.hid (fun B8 h8 => by
          rw [← HEND.out, ← h8, ← HB6.out, ← HB5.out, ← HB2.out]
          unfold Us.expT
          rw [← hx, ← hsb, ← hxs]
          simp)
        have HX := Lib.hid (And.intro hx (And.intro hsb hxs))
        clear hx hsb hxs
        go_upto_if 129 with (fail)
        go_cut [19, 22] from 128 to 131 (fun s19 s22 wx => s19 = .int .u8 (sb : Int) ∧ s22 = .int .i64 (x : Int) ∧ wx = w6)
        case first =>
          by_cases hneg : dp - 1 < 0
          · have hb : decide (dp - 1 < 0) = true := decide_eq_true hneg
            have e1 : sb = 45 := by rw [HX.out.2.1, if_pos hneg]
            have e2 : RowKit.Hid (-(dp - 1) = (x : Int)) := Lib.hid (by have := HX.out.1; omega)
            subst e1
            go_wp2_with fail
            go_meet
            exact ⟨rfl, by rw [← e2.out], rfl⟩
          · have hb : decide (dp - 1 < 0) = false := by rw [decide_eq_false_iff_not]; exact hneg
            have e1 : sb = 43 := by rw [HX.out.2.1, if_neg hneg]
            have e2 : RowKit.Hid (dp - 1 = (x : Int)) := Lib.hid (by have := HX.out.1; omega)
            subst e1
            go_wp2_with fail
            go_meet
            exact ⟨rfl, by rw [← e2.out], rfl⟩
        case rest =>
          obtain ⟨rfl, rfl, hw⟩ := hcut
          obtain rfl : w6 = wc := hw.symm
          go_wp2_with (at_builtin; go_must (refine put_one H6.out (by omega) (((sb : Nat) : Int)) (sb) ?_ ?_ rfl (.tmp 132) (.tmp 134) rfl rfl rfl ?_))
          try any_goals (first | with_reducible rfl | (show (_ : Int) = _; rfl) | exact cell_one_new _ _ _ 0 _ rfl)
          intro v7 w7 h'
          generalize hB7 : B6 ++ [sb] = B7 at h'
          have hl7 : B7.length ≤ 152 := by rw [← hB7]; simp; omega
          have H7 := Lib.hid h'
          have HB7 := Lib.hid hB7
          clear h' hB7
          have HF7 := Lib.hid (hfin.out B7 HB7.out)
          by_cases c1 : x < 10
          · have hb : decide ((x : Int) < 10) = true := by rw [decide_eq_true_eq]; omega
            have e3 : xs = [48, x + 48] := by rw [HX.out.2.2, if_pos c1]
            subst e3
            go_wp2_with (at_builtin; go_must (refine put_new H7.out (by omega) [48, x + 48] ?_ (by simp) rfl (.tmp 155) (.tmp 159) rfl rfl rfl ?_))
            · exact new_two w7 48 (x + 48) _
            intro v8 w8 h'
            generalize hB8 : B7 ++ [48, x + 48] = B8 at h'
            have hl8 : B8.length ≤ 160 := by rw [← hB8]; simp; omega
            have H8 := Lib.hid h'
            have HB8 := Lib.hid hB8
            clear h' hB8
            go_wp2_with fail
            go_ret
            have h9 := HF7.out
            rw [HB8.out] at h9
            exact ⟨_, rfl, by rw [← h9]; exact H8.out⟩
          · have hb : decide ((x : Int) < 10) = false := by rw [decide_eq_false_iff_not]; omega
            by_cases c2 : x < 100
            · have hb2 : decide ((x : Int) < 100) = true := by rw [decide_eq_true_eq]; omega
              have e3 : xs = [x / 10 + 48, x % 10 + 48] := by rw [HX.out.2.2, if_neg c1, if_pos c2]
              subst e3
              go_wp2_with (at_builtin; go_must (refine put_new H7.out (by omega) [x / 10 + 48, x % 10 + 48] ?_ (by simp) rfl (.tmp 164) (.tmp 173) rfl rfl rfl ?_))
              · exact new_two w7 (x / 10 + 48) (x % 10 + 48) _
              intro v8 w8 h'
              generalize hB8 : B7 ++ [x / 10 + 48, x % 10 + 48] = B8 at h'
              have hl8 : B8.length ≤ 160 := by rw [← hB8]; simp; omega
              have H8 := Lib.hid h'
              have HB8 := Lib.hid hB8
              clear h' hB8
              go_wp2_with fail
              go_ret
              have h9 := HF7.out
              rw [HB8.out] at h9
              exact ⟨_, rfl, by rw [← h9]; exact H8.out⟩
            · have hb2 : decide ((x : Int) < 100) = false := by rw [decide_eq_false_iff_not]; omega
              have e3 : xs = [x / 100 + 48, x / 10 % 10 + 48, x % 10 + 48] := by rw [HX.out.2.2, if_neg c1, if_neg c2]
              subst e3
              go_wp2_with (at_builtin; go_must (refine put_new H7.out (by omega) [x / 100 + 48, x / 10 % 10 + 48, x % 10 + 48] ?_ (by simp) rfl (.tmp 136) (.tmp 150) rfl rfl rfl ?_))
              · exact new_three w7 (x / 100 + 48) (x / 10 % 10 + 48) (x % 10 + 48) _
              intro v8 w8 h'
              generalize hB8 : B7 ++ [x / 100 + 48, x / 10 % 10 + 48, x % 10 + 48] = B8 at h'
              have hl8 : B8.length ≤ 160 := by rw [← hB8]; simp; omega
              have H8 := Lib.hid h'
              have HB8 := Lib.hid hB8
              clear h' hB8
              go_wp2_with fail
              go_ret
              have h9 := HF7.out
              rw [HB8.out] at h9
              exact ⟨_, rfl, by rw [← h9]; exact H8.out⟩
end Go.Proofs.YtipkiiblghnoiaaGreatDoor
