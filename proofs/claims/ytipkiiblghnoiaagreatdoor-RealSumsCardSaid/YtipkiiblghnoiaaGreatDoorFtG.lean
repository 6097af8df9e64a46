/- Contract of strconv's fmtEFG at the shortest form, without an exponent; printed by genFtG.py. By an AI agent. -/
import Derived.Test.YtipkiiblghnoiaaGreatDoorFtF
namespace Go.Proofs.YtipkiiblghnoiaaGreatDoor
open Go.ChangeShapes Go.WideShapes Go.ChangeAt Go.RowKit
open Bt
set_option linter.unusedVariables false

set_option maxRecDepth 100000 in
set_option maxHeartbeats 2000000 in
theorem fmtF_int (neg : Bool) (D : List Nat) (b base : Nat) (v : Value) (w : World) (hI : Bu w base b v [] w) (hD : Dgs w b D) (h1 : 1 ≤ D.length) (h2 : D.length ≤ 20) (p : Nat) (hp0 : 1 ≤ p) (hp : p ≤ 6) (hnp : D.length ≤ p) :
    Calls Tryz.prog 88 #[v, .bool neg, .slice (some ⟨b, 0, none⟩) 32 32, .int .i64 (p : Int), .int .i64 (D.length : Int), .int .i64 (D.length : Int), .int .u8 103, .bool true] w fun e w' => ∃ v', e = .returned v' ∧ Bu w base b v' (Us.fmtG neg D (p : Int)) w' := by
  have HI := Lib.hid (And.intro hI hD)
  clear hI hD
  obtain ⟨nd, hnd⟩ : ∃ nd, nd = D.length := ⟨_, rfl⟩
  rw [← hnd] at h1 h2 hnp ⊢
  have hz : ((nd : Int) == 0) = false := by rw [beq_eq_false_iff_ne]; omega
  have HN := Lib.hid hnd
  obtain ⟨sg, hsg⟩ : ∃ sg : List Nat, sg = (if neg then [45] else []) := ⟨_, rfl⟩
  have hsl : sg.length ≤ 1 := by rw [hsg]; split <;> simp
  have HSG := Lib.hid hsg
  have hA : decide ((p : Int) - 1 < -4) = false := by rw [decide_eq_false_iff_not]; omega
  have hB : decide (6 ≤ (p : Int) - 1) = false := by rw [decide_eq_false_iff_not]; omega
  have hC : decide (p < nd) = false := by rw [decide_eq_false_iff_not]; omega
  have hP : decide (0 < (p : Int)) = true := by rw [decide_eq_true_eq]; omega
  obtain ⟨z, hz2⟩ : ∃ z : Nat, nd + z = p := ⟨p - nd, by omega⟩
  have hmin : min (nd : Int) (p : Int) = (nd : Int) := by omega
  have hsub : (p : Int) - (nd : Int) = (z : Int) := by omega
  have hend : sg ++ D ++ List.replicate z 48 = Us.fmtG neg D (p : Int) := by
    unfold Us.fmtG Us.fmtF
    rw [if_neg (show ¬ D = [] from fun h => by rw [h] at hnd; simp at hnd; omega), if_neg (show ¬ ((p : Int) - 1 < -4 ∨ 6 ≤ (p : Int) - 1) by omega), if_pos (show (0 : Int) < (p : Int) by omega), ← hsg, Int.toNat_natCast, ← hnd, if_neg (show ¬ p < nd by omega), show p - nd = z by omega, List.take_of_length_le (by omega)]
    simp
  have htd : D.take nd = D := List.take_of_length_le (by omega)
  have HEND := Lib.hid (And.intro hend htd)
  clear hend htd

  clear hnd hsg
  go_enter Tryz.func88, Tryz.ntmps88
  go_upto_if 36 with (fail)
  go_cut [5, 6] from 31 to 73 (fun s5 s6 wx => s5 = .int .i64 0 ∧ s6 = .int .u8 102 ∧ wx = w)
  case first =>
    go_wp2_with fail
    all_goals (go_meet; exact ⟨by go_num, rfl, rfl⟩)
  case rest =>
    obtain ⟨rfl, rfl, hw⟩ := hcut
    obtain rfl : w = wc := hw.symm
    go_upto_if 178 with (fail)
    go_cut [0] from 177 to 181 (fun s0 wx => Hid (Bu w base b s0 sg wx))
    case first =>
      cases neg
      · have hsg : sg = [] := HSG.out
        subst hsg
        go_wp2_with fail
        go_meet
        exact HI.out.1
      · have hsg : sg = [45] := HSG.out
        subst hsg
        go_wp2_with (at_builtin; go_must (refine put_one HI.out.1 (by simp) (45) (45) ?_ ?_ rfl (.tmp 179) (.tmp 180) rfl rfl rfl ?_))
        try any_goals (first | with_reducible rfl | (show (_ : Int) = _; rfl) | exact cell_one_new _ _ _ 0 _ rfl)
        intro v1 w1 h'
        have H1 := Lib.hid h'
        clear h'
        go_wp2_with fail
        go_meet
        exact H1.out
    case rest =>
      have HS := Lib.hid hcut.out
      clear hcut
      go_upto_if 183 with (fail)
      go_cut [0, 23, 25] from 182 to 208 (fun s0 _ _ wx => Hid (Bu w base b s0 (sg ++ D ++ List.replicate z 48) wx))
      case first =>
        go_wp2_with fail
        go_loopg [0, 191, 25] nd (fun g s0 i _ wx => ∃ k : Nat, g + k = nd ∧ i = .int .i64 (k : Int) ∧ RowKit.Hid (Bu w base b s0 (sg ++ D.take k) wx))
        case atStart => exact ⟨0, by omega, rfl, Lib.hid (by simpa using HS.out)⟩
        case round =>
          obtain ⟨k, hgk, rfl, HR⟩ := hrel
          by_cases hk : k < nd
          · have hcell : wr.cell? ⟨b, k, none⟩ = some (.int .u8 (D.getD k 0 : Nat)) := (HR.out.cell k).trans (HI.out.2 k (by rw [← HN.out]; omega))
            have htk : D.take (k + 1) = D.take k ++ [D.getD k 0] := take_succ_getD D k (by rw [← HN.out]; omega)
            have hlk : (sg ++ D.take k).length ≤ 100 := by rw [List.length_append, List.length_take]; omega
            obtain ⟨ck, hck⟩ : ∃ ck, ck = D.getD k 0 := ⟨_, rfl⟩
            rw [← hck] at hcell htk
            have HTK := Lib.hid htk
            clear htk hck
            obtain ⟨Bk, hBk⟩ : ∃ Bk, Bk = sg ++ D.take k := ⟨_, rfl⟩
            rw [← hBk] at HR hlk
            have HBk := Lib.hid hBk
            clear hBk
            go_wp2_with (at_builtin; go_must (refine put_one HR.out (by omega) ((ck : Nat) : Int) ck ?_ ?_ rfl (.tmp 195) (.tmp 197) rfl rfl rfl ?_))
            try any_goals (first | with_reducible rfl | (show (_ : Int) = _; rfl) | exact cell_one_new _ _ _ 0 _ rfl)
            intro v5 w5 h'
            have H5 := Lib.hid h'
            clear h'
            go_wp2_with fail
            go_roundg (gk - 1)
            case measure => omega
            case rel => exact ⟨k + 1, by omega, rfl, by rw [HTK.out, ← List.append_assoc, ← HBk.out]; exact H5⟩
          · obtain rfl : k = nd := by omega
            have HG := HR.out
            rw [HEND.out.2] at HG
            obtain ⟨BD, hBD⟩ : ∃ BD, BD = sg ++ D := ⟨_, rfl⟩
            rw [← hBD] at HG
            have hlD : BD.length ≤ 100 := by rw [hBD, List.length_append, ← HN.out]; omega
            have HBD := Lib.hid hBD
            clear hBD HR
            have HG := Lib.hid HG
            go_wp2_with fail
            go_loopg [0, 203] z (fun g s0 i wx => ∃ k : Nat, g + k = z ∧ i = .int .i64 (k : Int) ∧ RowKit.Hid (Bu w base b s0 (BD ++ List.replicate k 48) wx))
            case atStart => exact ⟨0, by omega, rfl, Lib.hid (by simpa using HG.out)⟩
            case round =>
              obtain ⟨k, hgk, rfl, HR⟩ := hrel
              by_cases hk : k < z
              · obtain ⟨Bk, hBk⟩ : ∃ Bk, Bk = BD ++ List.replicate k 48 := ⟨_, rfl⟩
                have hlk : (BD ++ List.replicate k 48).length ≤ 200 := by rw [List.length_append, List.length_replicate]; omega
                rw [← hBk] at HR hlk
                have HBk := Lib.hid hBk
                clear hBk
                go_wp2_with (at_builtin; go_must (refine put_one HR.out (by omega) (48) (48) ?_ ?_ rfl (.tmp 205) (.tmp 206) rfl rfl rfl ?_))
                try any_goals (first | with_reducible rfl | (show (_ : Int) = _; rfl) | exact cell_one_new _ _ _ 0 _ rfl)
                intro v5 w5 h'
                have H5 := Lib.hid h'
                clear h'
                go_wp2_with fail
                go_roundg (gk - 1)
                case measure => omega
                case rel => exact ⟨k + 1, by omega, rfl, by rw [List.replicate_succ', ← List.append_assoc, ← HBk.out]; exact H5⟩
              · obtain rfl : k = z := by omega
                go_wp2_with fail
                go_meet
                rw [← HBD.out]
                exact HR
      case rest =>
        have H9 := Lib.hid hcut.out
        clear hcut
        go_wp2_with fail
        go_ret
        exact ⟨_, rfl, by rw [← HEND.out.1]; exact H9.out⟩

set_option maxRecDepth 100000 in
set_option maxHeartbeats 2000000 in
theorem fmtF_mid (neg : Bool) (D : List Nat) (b base : Nat) (v : Value) (w : World) (hI : Bu w base b v [] w) (hD : Dgs w b D) (h1 : 1 ≤ D.length) (h2 : D.length ≤ 20) (p : Nat) (hp0 : 1 ≤ p) (hp : p ≤ 6) (hpn : p < D.length) :
    Calls Tryz.prog 88 #[v, .bool neg, .slice (some ⟨b, 0, none⟩) 32 32, .int .i64 (p : Int), .int .i64 (D.length : Int), .int .i64 (D.length : Int), .int .u8 103, .bool true] w fun e w' => ∃ v', e = .returned v' ∧ Bu w base b v' (Us.fmtG neg D (p : Int)) w' := by
  have HI := Lib.hid (And.intro hI hD)
  clear hI hD
  obtain ⟨nd, hnd⟩ : ∃ nd, nd = D.length := ⟨_, rfl⟩
  rw [← hnd] at h1 h2 hpn ⊢
  have hz : ((nd : Int) == 0) = false := by rw [beq_eq_false_iff_ne]; omega
  have HN := Lib.hid hnd
  obtain ⟨sg, hsg⟩ : ∃ sg : List Nat, sg = (if neg then [45] else []) := ⟨_, rfl⟩
  have hsl : sg.length ≤ 1 := by rw [hsg]; split <;> simp
  have HSG := Lib.hid hsg
  have hA : decide ((p : Int) - 1 < -4) = false := by rw [decide_eq_false_iff_not]; omega
  have hB : decide (6 ≤ (p : Int) - 1) = false := by rw [decide_eq_false_iff_not]; omega
  have hC : decide (p < nd) = true := by rw [decide_eq_true_eq]; omega
  have hP : decide (0 < (p : Int)) = true := by rw [decide_eq_true_eq]; omega
  obtain ⟨r, hr2⟩ : ∃ r : Nat, p + r = nd := ⟨nd - p, by omega⟩
  have hr1 : 1 ≤ r := by omega
  have hmin : min (nd : Int) (p : Int) = (p : Int) := by omega
  have hsub : (nd : Int) - (p : Int) = (r : Int) := by omega
  have hmx : max (r : Int) 0 = (r : Int) := by omega
  have hmx2 : max 0 (r : Int) = (r : Int) := by omega
  have hmx3 : max 0 (-(p : Int)) = 0 := by omega
  have hmn2 : min (r : Int) 0 = 0 := by omega
  have hPr : decide (0 < (r : Int)) = true := by rw [decide_eq_true_eq]; omega
  obtain ⟨E, hE⟩ : ∃ E, E = D.drop p := ⟨_, rfl⟩
  have hDR := HI.out.2.drop p r (by omega)
  rw [← hE] at hDR
  have hend : sg ++ D.take p ++ [46] ++ E = Us.fmtG neg D (p : Int) := by
    unfold Us.fmtG Us.fmtF
    rw [if_neg (show ¬ D = [] from fun h => by rw [h] at hnd; simp at hnd; omega), if_neg (show ¬ ((p : Int) - 1 < -4 ∨ 6 ≤ (p : Int) - 1) by omega), if_pos (show (0 : Int) < (p : Int) by omega), ← hsg, Int.toNat_natCast, ← hnd, if_pos (show p < nd by omega), show p - nd = 0 by omega, ← hE]
    simp
  have htd : E.take r = E := List.take_of_length_le (by omega)
  have HEND := Lib.hid (And.intro hend htd)
  have HDR := Lib.hid hDR
  clear hend htd hDR hE

  clear hnd hsg
  go_enter Tryz.func88, Tryz.ntmps88
  go_upto_if 36 with (fail)
  go_cut [5, 6] from 31 to 73 (fun s5 s6 wx => s5 = .int .i64 (r : Int) ∧ s6 = .int .u8 102 ∧ wx = w)
  case first =>
    go_wp2_with fail
    all_goals (go_meet; exact ⟨by go_num, rfl, rfl⟩)
  case rest =>
    obtain ⟨rfl, rfl, hw⟩ := hcut
    obtain rfl : w = wc := hw.symm
    go_upto_if 178 with (fail)
    go_cut [0] from 177 to 181 (fun s0 wx => Hid (Bu w base b s0 sg wx))
    case first =>
      cases neg
      · have hsg : sg = [] := HSG.out
        subst hsg
        go_wp2_with fail
        go_meet
        exact HI.out.1
      · have hsg : sg = [45] := HSG.out
        subst hsg
        go_wp2_with (at_builtin; go_must (refine put_one HI.out.1 (by simp) (45) (45) ?_ ?_ rfl (.tmp 179) (.tmp 180) rfl rfl rfl ?_))
        try any_goals (first | with_reducible rfl | (show (_ : Int) = _; rfl) | exact cell_one_new _ _ _ 0 _ rfl)
        intro v1 w1 h'
        have H1 := Lib.hid h'
        clear h'
        go_wp2_with fail
        go_meet
        exact H1.out
    case rest =>
      have HS := Lib.hid hcut.out
      clear hcut
      go_upto_if 183 with (fail)
      obtain ⟨BD, hBD⟩ : ∃ BD, BD = sg ++ D.take p := ⟨_, rfl⟩
      have hlD : BD.length ≤ 100 := by rw [hBD, List.length_append, List.length_take]; omega
      have HBD := Lib.hid hBD
      clear hBD
      go_cut [0, 23, 25] from 182 to 208 (fun s0 _ _ wx => Hid (Bu w base b s0 BD wx))
      case first =>
        go_wp2_with fail
        go_loopg [0, 191, 25] p (fun g s0 i _ wx => ∃ k : Nat, g + k = p ∧ i = .int .i64 (k : Int) ∧ RowKit.Hid (Bu w base b s0 (sg ++ D.take k) wx))
        case atStart => exact ⟨0, by omega, rfl, Lib.hid (by simpa using HS.out)⟩
        case round =>
          obtain ⟨k, hgk, rfl, HR⟩ := hrel
          by_cases hk : k < p
          · have hcell : wr.cell? ⟨b, k, none⟩ = some (.int .u8 (D.getD k 0 : Nat)) := (HR.out.cell k).trans (HI.out.2 k (by rw [← HN.out]; omega))
            have htk : D.take (k + 1) = D.take k ++ [D.getD k 0] := take_succ_getD D k (by rw [← HN.out]; omega)
            have hlk : (sg ++ D.take k).length ≤ 100 := by rw [List.length_append, List.length_take]; omega
            obtain ⟨ck, hck⟩ : ∃ ck, ck = D.getD k 0 := ⟨_, rfl⟩
            rw [← hck] at hcell htk
            have HTK := Lib.hid htk
            clear htk hck
            obtain ⟨Bk, hBk⟩ : ∃ Bk, Bk = sg ++ D.take k := ⟨_, rfl⟩
            rw [← hBk] at HR hlk
            have HBk := Lib.hid hBk
            clear hBk
            go_wp2_with (at_builtin; go_must (refine put_one HR.out (by omega) ((ck : Nat) : Int) ck ?_ ?_ rfl (.tmp 195) (.tmp 197) rfl rfl rfl ?_))
            try any_goals (first | with_reducible rfl | (show (_ : Int) = _; rfl) | exact cell_one_new _ _ _ 0 _ rfl)
            intro v5 w5 h'
            have H5 := Lib.hid h'
            clear h'
            go_wp2_with fail
            go_roundg (gk - 1)
            case measure => omega
            case rel => exact ⟨k + 1, by omega, rfl, by rw [HTK.out, ← List.append_assoc, ← HBk.out]; exact H5⟩
          · obtain rfl : k = p := by omega
            have HG := HR.out
            rw [← HBD.out] at HG
            have HG := Lib.hid HG
            clear HR
            go_wp2_with fail
            go_loopg [0, 203] 0 (fun g s0 i wx => i = .int .i64 0 ∧ RowKit.Hid (Bu w base b s0 (BD) wx))
            case atStart => exact ⟨rfl, Lib.hid HG.out⟩
            case round =>
              obtain ⟨rfl, HR⟩ := hrel
              have HG2 := Lib.hid HR.out
              go_wp2_with fail
              go_meet
              exact HG2
      case rest =>
        have HG := Lib.hid hcut.out
        clear hcut
        go_wp2_with (at_builtin; go_must (refine put_one HG.out (by omega) (46) (46) ?_ ?_ rfl (.tmp 214) (.tmp 215) rfl rfl rfl ?_))
        try any_goals (first | with_reducible rfl | (show (_ : Int) = _; rfl) | exact cell_one_new _ _ _ 0 _ rfl)
        intro v6 w6 h'
        generalize hB6 : BD ++ [46] = B6 at h'
        have hl6 : B6.length ≤ 101 := by rw [← hB6]; simp; omega
        have H6 := Lib.hid h'
        have HB6 := Lib.hid hB6
        clear h' hB6
        go_wp2_with fail
        have HG := Lib.hid H6.out
        go_loopg [0, 240] 0 (fun g s0 i wx => i = .int .i64 0 ∧ RowKit.Hid (Bu w base b s0 (B6) wx))
        case atStart => exact ⟨rfl, Lib.hid HG.out⟩
        case round =>
          obtain ⟨rfl, HR⟩ := hrel
          have HG2 := Lib.hid HR.out
          go_wp2_with fail
          go_loopg [0, 247, 30] r (fun g s0 i _ wx => ∃ k : Nat, g + k = r ∧ i = .int .i64 (k : Int) ∧ RowKit.Hid (Bu w base b s0 (B6 ++ E.take k) wx))
          case atStart => exact ⟨0, by omega, rfl, Lib.hid (by simpa using HG2.out)⟩
          case round =>
            obtain ⟨k, hgk, rfl, HR⟩ := hrel
            by_cases hk : k < r
            · have hcell : wr.cell? ⟨b, p + k, none⟩ = some (.int .u8 (E.getD k 0 : Nat)) := (HR.out.cell _).trans (HDR.out.2 k (by rw [HDR.out.1]; omega))
              have htk : E.take (k + 1) = E.take k ++ [E.getD k 0] := take_succ_getD E k (by rw [HDR.out.1]; omega)
              have hlk : (B6 ++ E.take k).length ≤ 150 := by rw [List.length_append, List.length_take]; omega
              obtain ⟨ck, hck⟩ : ∃ ck, ck = E.getD k 0 := ⟨_, rfl⟩
              rw [← hck] at hcell htk
              have HTK := Lib.hid htk
              clear htk hck
              obtain ⟨Bk, hBk⟩ : ∃ Bk, Bk = B6 ++ E.take k := ⟨_, rfl⟩
              rw [← hBk] at HR hlk
              have HBk := Lib.hid hBk
              clear hBk
              go_wp2_with (at_builtin; go_must (refine put_one HR.out (by omega) ((ck : Nat) : Int) ck ?_ ?_ rfl (.tmp 250) (.tmp 257) rfl rfl rfl ?_))
              try any_goals (first | with_reducible rfl | (show (_ : Int) = _; rfl) | exact cell_one_new _ _ _ 0 _ rfl)
              intro v5 w5 h'
              have H5 := Lib.hid h'
              clear h'
              go_wp2_with fail
              go_roundg (gk - 1)
              case measure => omega
              case rel => exact ⟨k + 1, by omega, rfl, by rw [HTK.out, ← List.append_assoc, ← HBk.out]; exact H5⟩
            · obtain rfl : k = r := by omega
              have HG := HR.out
              rw [HEND.out.2] at HG
              obtain ⟨B9, hB9⟩ : ∃ B9, B9 = B6 ++ E := ⟨_, rfl⟩
              rw [← hB9] at HG
              have HB9 := Lib.hid hB9
              have HG := Lib.hid HG
              clear hB9 HR
              go_wp2_with fail
              go_loopg [0, 261] 0 (fun g s0 i wx => i = .int .i64 0 ∧ RowKit.Hid (Bu w base b s0 (B9) wx))
              case atStart => exact ⟨rfl, Lib.hid HG.out⟩
              case round =>
                obtain ⟨rfl, HR⟩ := hrel
                have HG2 := Lib.hid HR.out
                go_wp2_with fail
                go_ret
                exact ⟨_, rfl, by rw [← HEND.out.1, ← HBD.out, HB6.out, ← HB9.out]; exact HG2.out⟩

set_option maxRecDepth 100000 in
set_option maxHeartbeats 2000000 in
theorem fmtF_low (neg : Bool) (D : List Nat) (b base : Nat) (v : Value) (w : World) (hI : Bu w base b v [] w) (hD : Dgs w b D) (h1 : 1 ≤ D.length) (h2 : D.length ≤ 20) (d : Int) (hd0 : -3 ≤ d) (hd1 : d ≤ 0) :
    Calls Tryz.prog 88 #[v, .bool neg, .slice (some ⟨b, 0, none⟩) 32 32, .int .i64 d, .int .i64 (D.length : Int), .int .i64 (D.length : Int), .int .u8 103, .bool true] w fun e w' => ∃ v', e = .returned v' ∧ Bu w base b v' (Us.fmtG neg D d) w' := by
  have HI := Lib.hid (And.intro hI hD)
  clear hI hD
  obtain ⟨nd, hnd⟩ : ∃ nd, nd = D.length := ⟨_, rfl⟩
  rw [← hnd] at h1 h2 ⊢
  have hz : ((nd : Int) == 0) = false := by rw [beq_eq_false_iff_ne]; omega
  have HN := Lib.hid hnd
  obtain ⟨sg, hsg⟩ : ∃ sg : List Nat, sg = (if neg then [45] else []) := ⟨_, rfl⟩
  have hsl : sg.length ≤ 1 := by rw [hsg]; split <;> simp
  have HSG := Lib.hid hsg
  obtain ⟨q, hq⟩ : ∃ q : Nat, -d = (q : Int) := ⟨(-d).toNat, by omega⟩
  obtain ⟨r, hr2⟩ : ∃ r : Nat, nd + q = r := ⟨_, rfl⟩
  have hA : decide (d - 1 < -4) = false := by rw [decide_eq_false_iff_not]; omega
  have hB : decide (6 ≤ d - 1) = false := by rw [decide_eq_false_iff_not]; omega
  have hC : decide (d < (nd : Int)) = true := by rw [decide_eq_true_eq]; omega
  have hP : decide (0 < d) = false := by rw [decide_eq_false_iff_not]; omega
  have hsub : (nd : Int) - d = (r : Int) := by omega
  have hmx : max (r : Int) 0 = (r : Int) := by omega
  have hmx2 : max 0 (nd : Int) = (nd : Int) := by omega
  have hmx3 : max 0 (q : Int) = (q : Int) := by omega
  have hmn2 : min (r : Int) (q : Int) = (q : Int) := by omega
  have hdq : d + (q : Int) = 0 := by omega
  have hrq : (r : Int) - (q : Int) = (nd : Int) := by omega
  have hPr : decide (0 < (r : Int)) = true := by rw [decide_eq_true_eq]; omega
  have hDR : D.length = nd ∧ ∀ t, t < D.length → w.cell? ⟨b, t, none⟩ = some (.int .u8 (D.getD t 0 : Nat)) := ⟨hnd.symm, HI.out.2⟩
  have hend : sg ++ [48] ++ [46] ++ List.replicate q 48 ++ D = Us.fmtG neg D d := by
    unfold Us.fmtG Us.fmtF
    rw [if_neg (show ¬ D = [] from fun h => by rw [h] at hnd; simp at hnd; omega), if_neg (show ¬ (d - 1 < -4 ∨ 6 ≤ d - 1) by omega), if_neg (show ¬ (0 < d) by omega), ← hsg, show (-d).toNat = q by omega]
    simp
  have htd : D.take nd = D := List.take_of_length_le (by omega)
  have HEND := Lib.hid (And.intro hend htd)
  have HDR := Lib.hid hDR
  clear hend htd hDR

  clear hnd hsg
  go_enter Tryz.func88, Tryz.ntmps88
  go_upto_if 36 with (fail)
  go_cut [5, 6] from 31 to 73 (fun s5 s6 wx => s5 = .int .i64 (r : Int) ∧ s6 = .int .u8 102 ∧ wx = w)
  case first =>
    go_wp2_with fail
    all_goals (go_meet; exact ⟨by go_num, rfl, rfl⟩)
  case rest =>
    obtain ⟨rfl, rfl, hw⟩ := hcut
    obtain rfl : w = wc := hw.symm
    go_upto_if 178 with (fail)
    go_cut [0] from 177 to 181 (fun s0 wx => Hid (Bu w base b s0 sg wx))
    case first =>
      cases neg
      · have hsg : sg = [] := HSG.out
        subst hsg
        go_wp2_with fail
        go_meet
        exact HI.out.1
      · have hsg : sg = [45] := HSG.out
        subst hsg
        go_wp2_with (at_builtin; go_must (refine put_one HI.out.1 (by simp) (45) (45) ?_ ?_ rfl (.tmp 179) (.tmp 180) rfl rfl rfl ?_))
        try any_goals (first | with_reducible rfl | (show (_ : Int) = _; rfl) | exact cell_one_new _ _ _ 0 _ rfl)
        intro v1 w1 h'
        have H1 := Lib.hid h'
        clear h'
        go_wp2_with fail
        go_meet
        exact H1.out
    case rest =>
      have HS := Lib.hid hcut.out
      clear hcut
      go_upto_if 183 with (fail)
      go_cut [0, 23, 25] from 182 to 211 (fun s0 _ _ wx => Hid (Bu w base b s0 (sg ++ [48]) wx))
      case first =>
        go_wp2_with (at_builtin; go_must (refine put_one HS.out (by omega) (48) (48) ?_ ?_ rfl (.tmp 209) (.tmp 210) rfl rfl rfl ?_))
        try any_goals (first | with_reducible rfl | (show (_ : Int) = _; rfl) | exact cell_one_new _ _ _ 0 _ rfl)
        intro v2 w2 h'
        generalize hB2 : sg ++ [48] = B2 at h'
        have hl2 : B2.length ≤ 100 := by rw [← hB2]; simp; omega
        have H2 := Lib.hid h'
        have HB2 := Lib.hid hB2
        clear h' hB2
        go_wp2_with fail
        go_meet
        rw [HB2.out]
        exact H2
      case rest =>
        have HG := Lib.hid hcut.out
        clear hcut
        obtain ⟨BD, hBD⟩ : ∃ BD, BD = sg ++ [48] := ⟨_, rfl⟩
        have hlD : BD.length ≤ 100 := by rw [hBD, List.length_append]; simp; omega
        rw [← hBD] at HG
        have HBD := Lib.hid hBD
        clear hBD
        go_wp2_with (at_builtin; go_must (refine put_one HG.out (by omega) (46) (46) ?_ ?_ rfl (.tmp 214) (.tmp 215) rfl rfl rfl ?_))
        try any_goals (first | with_reducible rfl | (show (_ : Int) = _; rfl) | exact cell_one_new _ _ _ 0 _ rfl)
        intro v6 w6 h'
        generalize hB6 : BD ++ [46] = B6 at h'
        have hl6 : B6.length ≤ 101 := by rw [← hB6]; simp; omega
        have H6 := Lib.hid h'
        have HB6 := Lib.hid hB6
        clear h' hB6
        go_wp2_with fail
        go_loopg [0, 240] q (fun g s0 i wx => ∃ k : Nat, g + k = q ∧ i = .int .i64 (k : Int) ∧ RowKit.Hid (Bu w base b s0 (B6 ++ List.replicate k 48) wx))
        case atStart => exact ⟨0, by omega, rfl, Lib.hid (by simpa using H6.out)⟩
        case round =>
          obtain ⟨k, hgk, rfl, HR⟩ := hrel
          by_cases hk : k < q
          · obtain ⟨Bk, hBk⟩ : ∃ Bk, Bk = B6 ++ List.replicate k 48 := ⟨_, rfl⟩
            have hlk : (B6 ++ List.replicate k 48).length ≤ 200 := by rw [List.length_append, List.length_replicate]; omega
            rw [← hBk] at HR hlk
            have HBk := Lib.hid hBk
            clear hBk
            go_wp2_with (at_builtin; go_must (refine put_one HR.out (by omega) (48) (48) ?_ ?_ rfl (.tmp 242) (.tmp 243) rfl rfl rfl ?_))
            try any_goals (first | with_reducible rfl | (show (_ : Int) = _; rfl) | exact cell_one_new _ _ _ 0 _ rfl)
            intro v5 w5 h'
            have H5 := Lib.hid h'
            clear h'
            go_wp2_with fail
            go_roundg (gk - 1)
            case measure => omega
            case rel => exact ⟨k + 1, by omega, rfl, by rw [List.replicate_succ', ← List.append_assoc, ← HBk.out]; exact H5⟩
          · obtain rfl : k = q := by omega
            obtain ⟨B8, hB8⟩ : ∃ B8, B8 = B6 ++ List.replicate k 48 := ⟨_, rfl⟩
            have hl8 : B8.length ≤ 120 := by rw [hB8, List.length_append, List.length_replicate]; omega
            have HG := HR.out
            rw [← hB8] at HG
            have HB8 := Lib.hid hB8
            have HG8 := Lib.hid HG
            clear HG HR hB8
            obtain ⟨q', hq'⟩ : ∃ q', q' = k := ⟨_, rfl⟩
            rw [← hq'] at *
            clear hgk hk
            go_wp2_with fail
            go_loopg [0, 247, 30] nd (fun g s0 i _ wx => ∃ k : Nat, g + k = nd ∧ i = .int .i64 (k : Int) ∧ RowKit.Hid (Bu w base b s0 (B8 ++ D.take k) wx))
            case atStart => exact ⟨0, by omega, rfl, Lib.hid (by simpa using HG8.out)⟩
            case round =>
              obtain ⟨k, hgk, rfl, HR⟩ := hrel
              by_cases hk : k < nd
              · have hcell : wr.cell? ⟨b, k, none⟩ = some (.int .u8 (D.getD k 0 : Nat)) := (HR.out.cell _).trans (HDR.out.2 k (by rw [HDR.out.1]; omega))
                have htk : D.take (k + 1) = D.take k ++ [D.getD k 0] := take_succ_getD D k (by rw [HDR.out.1]; omega)
                have hlk : (B8 ++ D.take k).length ≤ 150 := by rw [List.length_append, List.length_take]; omega
                obtain ⟨ck, hck⟩ : ∃ ck, ck = D.getD k 0 := ⟨_, rfl⟩
                rw [← hck] at hcell htk
                have HTK := Lib.hid htk
                clear htk hck
                obtain ⟨Bk, hBk⟩ : ∃ Bk, Bk = B8 ++ D.take k := ⟨_, rfl⟩
                rw [← hBk] at HR hlk
                have HBk := Lib.hid hBk
                clear hBk
                go_wp2_with (at_builtin; go_must (refine put_one HR.out (by omega) ((ck : Nat) : Int) ck ?_ ?_ rfl (.tmp 250) (.tmp 257) rfl rfl rfl ?_))
                try any_goals (first | with_reducible rfl | (show (_ : Int) = _; rfl) | exact cell_one_new _ _ _ 0 _ rfl)
                intro v5 w5 h'
                have H5 := Lib.hid h'
                clear h'
                go_wp2_with fail
                go_roundg (gk - 1)
                case measure => omega
                case rel => exact ⟨k + 1, by omega, rfl, by rw [HTK.out, ← List.append_assoc, ← HBk.out]; exact H5⟩
              · obtain rfl : k = nd := by omega
                have HG := HR.out
                rw [HEND.out.2] at HG
                obtain ⟨B9, hB9⟩ : ∃ B9, B9 = B8 ++ D := ⟨_, rfl⟩
                rw [← hB9] at HG
                have HB9 := Lib.hid hB9
                have HG := Lib.hid HG
                clear hB9 HR
                go_wp2_with fail
                go_loopg [0, 261] 0 (fun g s0 i wx => i = .int .i64 0 ∧ RowKit.Hid (Bu w base b s0 (B9) wx))
                case atStart => exact ⟨rfl, Lib.hid HG.out⟩
                case round =>
                  obtain ⟨rfl, HR⟩ := hrel
                  have HG2 := Lib.hid HR.out
                  go_wp2_with fail
                  go_ret
                  exact ⟨_, rfl, by rw [← HEND.out.1, ← HBD.out, HB6.out, ← HB8.out, ← HB9.out]; exact HG2.out⟩

set_option maxRecDepth 100000 in
set_option maxHeartbeats 2000000 in
theorem fmt_zero (neg : Bool) (b base : Nat) (v : Value) (w : World) (hI : Bu w base b v [] w) :
    Calls Tryz.prog 88 #[v, .bool neg, .slice none 0 0, .int .i64 0, .int .i64 0, .int .i64 (-1), .int .u8 103, .bool true] w fun e w' => ∃ v', e = .returned v' ∧ Bu w base b v' (Us.fmtG neg [] 0) w' := by
  have HI := Lib.hid hI
  clear hI
  cases neg
  · go_enter Tryz.func88, Tryz.ntmps88
    go_wp2_with (at_builtin; go_must (refine put_one HI.out (by simp) (48) (48) ?_ ?_ rfl (.tmp 209) (.tmp 210) rfl rfl rfl ?_))
    try any_goals (first | with_reducible rfl | (show (_ : Int) = _; rfl) | exact cell_one_new _ _ _ 0 _ rfl)
    intro v1 w1 h'
    have H1 := Lib.hid h'
    clear h'
    go_wp2_with fail
    go_ret
    exact ⟨_, rfl, H1.out⟩
  · go_enter Tryz.func88, Tryz.ntmps88
    go_wp2_with (at_builtin; go_must (refine put_one HI.out (by simp) (45) (45) ?_ ?_ rfl (.tmp 179) (.tmp 180) rfl rfl rfl ?_))
    try any_goals (first | with_reducible rfl | (show (_ : Int) = _; rfl) | exact cell_one_new _ _ _ 0 _ rfl)
    intro v1 w1 h'
    have H1 := Lib.hid h'
    clear h'
    go_wp2_with (at_builtin; go_must (refine put_one H1.out (by simp) (48) (48) ?_ ?_ rfl (.tmp 209) (.tmp 210) rfl rfl rfl ?_))
    try any_goals (first | with_reducible rfl | (show (_ : Int) = _; rfl) | exact cell_one_new _ _ _ 0 _ rfl)
    intro v2 w2 h'
    have H2 := Lib.hid h'
    clear h'
    go_wp2_with fail
    go_ret
    exact ⟨_, rfl, H2.out⟩

theorem fmt_any (neg : Bool) (D : List Nat) (dp : Int) (b base : Nat) (v : Value) (w : World) (hI : Bu w base b v [] w) (hD : Dgs w b D) (h1 : 1 ≤ D.length) (h2 : D.length ≤ 20) (hd0 : -400 ≤ dp) (hd1 : dp ≤ 400) :
    Calls Tryz.prog 88 #[v, .bool neg, .slice (some ⟨b, 0, none⟩) 32 32, .int .i64 dp, .int .i64 (D.length : Int), .int .i64 (D.length : Int), .int .u8 103, .bool true] w fun e w' => ∃ v', e = .returned v' ∧ Bu w base b v' (Us.fmtG neg D dp) w' := by
  by_cases hE : dp - 1 < -4 ∨ 6 ≤ dp - 1
  · exact fmtE_any neg D dp b base v w hI hD h1 h2 hd0 hd1 hE
  · by_cases hp : 0 < dp
    · obtain ⟨p, rfl⟩ : ∃ p : Nat, dp = (p : Int) := ⟨dp.toNat, by omega⟩
      by_cases hn : D.length ≤ p
      · exact fmtF_int neg D b base v w hI hD h1 h2 p (by omega) (by omega) hn
      · exact fmtF_mid neg D b base v w hI hD h1 h2 p (by omega) (by omega) (by omega)
    · exact fmtF_low neg D b base v w hI hD h1 h2 dp (by omega) (by omega)
end Go.Proofs.YtipkiiblghnoiaaGreatDoor
