/- RealSums' walk. By an AI agent. -/
import Derived.Test.YtipkiiblghnoiaaGreatDoorReW
import Derived.StillTailTactics
import Derived.Deep.RegionHeld3
namespace Go.Proofs.YtipkiiblghnoiaaGreatDoor.realSums
open Go.ChangeShapes Go.WideShapes Go.ChangeAt Go.RowKit
open Bt Sm
set_option linter.unusedVariables false

theorem below_drew {b : Nat} {a w : World} (h : Below b a w) : Below b a w.drew := ⟨h.os, h.tape, h.output, h.size, h.block⟩
theorem below_alloc {a w : World} (h : Below a.heap.size a w) (o : Obj) : Below a.heap.size a (w.alloc o) := h.alloc h.size o
set_option maxRecDepth 100000 in
set_option maxHeartbeats 16000000 in
theorem walk (o o3 : Option Addr) (us : List Nat) (cap cap3 x : Nat) (zs : List Int) (w : World) (hU : U64s w o us) (hu : ∀ i, us.getD i 0 < 18446744073709551616) (hx : x < 18446744073709551616)
    (hZ : I32s w o3 zs) (hz : ∀ i, -2147483648 ≤ zs.getD i 0 ∧ zs.getD i 0 ≤ 2147483647) (hopt : Opt w) (hT : Tb w.heap.size w) :
    Calls Tryz.prog 7 #[.slice o us.length cap, .int .u64 (x : Int), .slice o3 zs.length cap3] w fun e w' => e = .returned (.bool true) ∧ Below w.heap.size w w' := by
  obtain ⟨i0, hi, hz0, hz1, hz2⟩ := info_parts info_f64
  have HO := Lib.hid (And.intro hopt hT)
  clear hopt hT
  by_cases hbig : 500 < us.length
  · generalize us.length = n at *
    generalize zs.length = m at *
    have d0 : decide ((n : Int) > 500) = true := by rw [decide_eq_true_eq]; omega
    have d1 : decide (500 < n) = true := by rw [decide_eq_true_eq]; omega
    clear hu hU hZ hz
    go_enter Tryz.func7, Tryz.ntmps7
    go_wp2_with fail
    refine (begun3 _ HO.out.1 HO.out.2).mono ?_
    rintro e w1 ⟨rfl, hb1⟩
    have H1 := Lib.hid hb1
    clear hb1
    go_wp2_with fail
    go_ret
    exact ⟨rfl, H1.out⟩
  by_cases hbig3 : 500 < zs.length
  · generalize us.length = n at *
    generalize zs.length = m at *
    have d0 : decide ((n : Int) > 500) = false := by rw [decide_eq_false_iff_not]; omega
    have d1 : decide (500 < n) = false := by rw [decide_eq_false_iff_not]; omega
    have d2 : decide ((m : Int) > 500) = true := by rw [decide_eq_true_eq]; omega
    have d3 : decide (500 < m) = true := by rw [decide_eq_true_eq]; omega
    clear hu hU hZ hz
    go_enter Tryz.func7, Tryz.ntmps7
    go_wp2_with fail
    refine (begun3 _ HO.out.1 HO.out.2).mono ?_
    rintro e w1 ⟨rfl, hb1⟩
    have H1 := Lib.hid hb1
    clear hb1
    go_wp2_with fail
    go_ret
    exact ⟨rfl, H1.out⟩
  have hn5 : us.length ≤ 500 := by omega
  have hm5 : zs.length ≤ 500 := by omega
  clear hbig hbig3
  have HUS := Lib.hid (And.intro hU (And.intro hu (And.intro hZ hz)))
  have HX := Lib.hid hx
  have HOF := Lib.hid (of_open o us cap)
  have hg6 := f64s_length us
  have hrl : us.reverse.length = us.length := List.length_reverse
  have f1 : ∀ w : World, (callFunc 20 #[.int .u64 (x : Int)]).run Tryz.prog w = .ok (.value (.float .f64 x)) w := fun w => ext_from x w
  generalize hlen : us.length = n at *
  generalize hlz : zs.length = m at *
  have HLEN := Lib.hid hlen
  have HLZ := Lib.hid hlz
  have HFL := Lib.hid hg6
  have HRL := Lib.hid hrl
  clear hlen hlz hg6 hrl hu hU hZ hz hx
  have d0 : decide ((n : Int) > 500) = false := by rw [decide_eq_false_iff_not]; omega
  have d1 : decide (500 < n) = false := by rw [decide_eq_false_iff_not]; omega
  have d2 : decide ((m : Int) > 500) = false := by rw [decide_eq_false_iff_not]; omega
  have d3 : decide (500 < m) = false := by rw [decide_eq_false_iff_not]; omega
  go_enter Tryz.func7, Tryz.ntmps7
  go_wp2_with fail
  refine (begun3 _ HO.out.1 HO.out.2).mono ?_
  rintro e w1 ⟨rfl, hb1⟩
  have H1 := Lib.hid hb1
  clear hb1
  go_wp2_with fail
  refine (HOF.out w1 (u64s_keep HUS.out.1 H1.out) (by omega)).mono ?_
  rintro e w2 ⟨o2, cap2, rfl, hfl, hcn, -, hb2⟩
  have H2 := Lib.hid (And.intro hfl (And.intro hcn (H1.out.trans (hb2.mono H1.out.size))))
  clear hfl hb2 H1 hcn
  go_wp2_with fail
  go_loopg [8, 9] n (fun gq s8 s9 wx => ∃ k : Nat, gq + k = n ∧ s9 = .int .i64 ((gq : Int) - 1) ∧ Hid (wx.ownsRow w2.heap.size 26 1 s8 k (f64s (us.reverse.take k)) ∧ Below w2.heap.size w2 wx))
  case atStart =>
    refine ⟨0, by omega, ?_, ⟨⟨rfl, Or.inl ⟨rfl, rfl⟩⟩, Below.refl _ _⟩⟩
    first | rfl | (show Value.int _ _ = Value.int _ _; congr 1; unfold wrap64; omega)
  case round =>
    obtain ⟨k, hgk, rfl, HR⟩ := hrel
    rcases gk with _ | j
    · have hown : wr.ownsRow w2.heap.size 26 1 u8 us.reverse.length (f64s us.reverse) := by
        have h := HR.out.1
        rw [List.take_of_length_le (by rw [HRL.out]; omega)] at h
        rw [HRL.out]
        rw [show k = n by omega] at h
        exact h
      obtain ⟨o4, cap4, rfl, hfl4⟩ := fls_of hown
      rw [HRL.out]
      have HT4 := Lib.hid hfl4
      have HB := Lib.hid HR.out.2
      clear hfl4 hown HR hgk
      go_wp2_with fail
      have S1 := sum_any o2 us cap2 wr (fls_keep0 H2.out.1 HB.out) HUS.out.2.1 (by rw [HLEN.out]; omega)
      rw [HLEN.out] at S1
      refine S1.mono ?_
      rintro e w4 ⟨rfl, hb⟩
      have HB4 := Lib.hid hb
      clear hb S1
      go_wp2_with fail
      have S2 := sum_any o4 us.reverse cap4 w4 (fls_keep0 HT4.out HB4.out) (lt_rev HUS.out.2.1) (by rw [HRL.out]; omega)
      rw [HRL.out, Rn.sum_reverse] at S2
      refine S2.mono ?_
      rintro e w5 ⟨rfl, hb⟩
      have HB5 := Lib.hid (HB.out.trans ((HB4.out.trans (hb.mono HB4.out.size)).mono HB.out.size))
      clear hb S2 HB4 HT4 HB
      go_wp2_with fail
      refine (fbits_any (sumW us) (sumW us) _).mono ?_
      rintro e w6 ⟨rfl, hw⟩
      obtain rfl : w5 = w6 := hw
      rw [decide_eq_true (rfl : sumW us = sumW us)]
      go_wp2_with fail
      have S3 := sum_any (some ⟨w5.heap.size, 0, none⟩) [x] 1 (w5.alloc (.cells #[.float .f64 x] 26)) (fls_one w5 x) (lt_one HX.out) (by simp)
      rw [Rn.sum_one HX.out] at S3
      refine S3.mono ?_
      rintro e w6 ⟨rfl, hb⟩
      have ha : Below w2.heap.size w2 (w5.alloc (.cells #[.float .f64 x] 26)) := HB5.out.alloc HB5.out.size _
      have HB6 := Lib.hid (ha.trans (hb.mono ha.size))
      clear hb S3 HB5 ha
      go_wp2_with fail
      refine (canon_any x _).mono ?_
      rintro e w7 ⟨rfl, hw⟩
      obtain rfl : w6 = w7 := hw.symm
      go_wp2_with fail
      refine (fbits_any (canW x) (canW x) _).mono ?_
      rintro e w7 ⟨rfl, hw⟩
      obtain rfl : w6 = w7 := hw
      rw [decide_eq_true (rfl : canW x = canW x)]
      go_upto_region 14 with fail
      go_cut [81] from 59 to 81 (fun s81 wx => w6 = wx ∧ ∃ q : Bool, s81 = .bool q ∧ Hid (q = true → 0 < us.length ∧ sumW ((x :: us) ++ [Op.negFloat .f64 x]) = sumW us ∧ Op.negFloat .f64 x < 18446744073709551616))
      case first =>
        have HI := Lib.hid (isinf0_any x HX.out)
        cases n1 : Flt.nan x
        · have HN := Lib.hid (isnan_any x)
          rw [n1] at HN
          have HN1 := Lib.hid n1
          clear n1
          go_wp2_with fail
          refine (HN.out _).mono ?_
          rintro e w7 ⟨rfl, hw⟩
          obtain rfl : w6 = w7 := hw.symm
          generalize hq2 : decide (x % 9223372036854775808 = 9218868437227405312) = q2 at HI
          have HQ2 := Lib.hid hq2
          clear hq2
          go_wp2_with fail
          refine (HI.out _).mono ?_
          rintro e w7 ⟨rfl, hw⟩
          obtain rfl : w6 = w7 := hw
          cases q2
          · cases n3 : (FloatKind.f64.format.order x 0 != some .eq)
            · go_wp2_with fail
              go_meet
              case rel => exact ⟨rfl, false, rfl, Lib.hid fun h => by cases h⟩
            · by_cases hpos : 0 < n
              · have p1 : decide ((n : Int) > 0) = true := by rw [decide_eq_true_eq]; omega
                have p2 : decide (0 < n) = true := by rw [decide_eq_true_eq]; exact hpos
                obtain ⟨ad, ho2, c0⟩ := fls_keep0 H2.out.1 HB6.out 0 (by rw [HLEN.out]; exact hpos)
                have c0' : w6.cell? ad = some (.float .f64 (us.getD 0 0)) := by rw [← c0]; congr 1
                subst ho2
                have HMS := Lib.hid (fun h0 n4 => more_says HX.out HUS.out.2.1 h0 HN1.out HQ2.out n3 n4)
                have HG := Lib.hid (show 0 < us.length by rw [HLEN.out]; exact hpos)
                clear c0
                generalize us.getD 0 0 = u0 at *
                cases n4 : (FloatKind.f64.format.order u0 0 != some .eq)
                · clear HMS
                  go_wp2_with fail
                  go_meet
                  case rel => exact ⟨rfl, false, rfl, Lib.hid fun h => by cases h⟩
                · have HM2 := Lib.hid (HMS.out HG.out n4)
                  clear HMS
                  go_wp2_with fail
                  go_meet
                  case rel => exact ⟨rfl, true, rfl, Lib.hid fun _ => ⟨HG.out, HM2.out⟩⟩
              · have p1 : decide ((n : Int) > 0) = false := by rw [decide_eq_false_iff_not]; omega
                have p2 : decide (0 < n) = false := by rw [decide_eq_false_iff_not]; exact hpos
                go_wp2_with fail
                go_meet
                case rel => exact ⟨rfl, false, rfl, Lib.hid fun h => by cases h⟩
          · go_wp2_with fail
            go_meet
            case rel => exact ⟨rfl, false, rfl, Lib.hid fun h => by cases h⟩
        · have HN := Lib.hid (isnan_any x)
          rw [n1] at HN
          have HN1 := Lib.hid n1
          clear n1
          go_wp2_with fail
          refine (HN.out _).mono ?_
          rintro e w7 ⟨rfl, hw⟩
          obtain rfl : w6 = w7 := hw.symm
          go_wp2_with fail
          go_meet
          case rel => exact ⟨rfl, false, rfl, Lib.hid fun h => by cases h⟩
      case rest =>
        obtain ⟨hw, q, rfl, HQ⟩ := hcut
        obtain rfl : w6 = wc := hw
        go_upto_if 81 with fail
        go_cut [11] from 82 to 100 (fun s11 wx => Hid (Below w6.heap.size w6 wx))
        case first =>
          cases q
          · go_wp2_with fail
            go_meet
            case rel => exact Below.refl _ _
          · obtain ⟨hq0, hq1, hq2⟩ := HQ.out rfl
            generalize hnx : Op.negFloat .f64 x = nx at hq1 hq2
            have hng : ∀ w : World, (Op.unary UnOp.neg (.float .f64 x)).run Tryz.prog w = .ok (.float .f64 nx) w := fun w => by rw [run_neg, hnx]
            have HQ1 := Lib.hid hq1
            have HQ3 := Lib.hid hq2
            clear hq0 hq1 hq2 hnx HQ
            have hfa : Fls (w6.alloc (.cells #[.float .f64 x] 26)) o2 us := fls_keep0 H2.out.1 (HB6.out.alloc HB6.out.size _)
            have HFA := Lib.hid (And.intro hfa (own_new w6 w6.heap.size (Nat.le_refl _) x))
            clear hfa
            go_wp2_with (at_builtin; go_must (refine wpList_append_sl _ rfl (.tmp 83) (.tmp 84) 24 rfl w6.heap.size 26 i0 (.float .f64 0) 8 Tryz.underlying24 hi hz0 hz1 hz2 rfl _ 1 (f64s [x]) rfl HFA.out.2 o2 n cap2 (f64s us) rfl HFL.out (f64_cells HFA.out.1) f64_one H2.out.2.1 ?_ ?_ (by simp) ?_))
            · unfold maxLen; omega
            · omega
            · intro v7 w7 hown hgr hblk
              have hb7 : Below w6.heap.size w6 w7 := ((Below.refl _ w6).alloc (Nat.le_refl _) _).grown hgr (by simp) (by intro k hk; have := (HFA.out.2.lt k hk).1; omega)
              have H7 := Lib.hid (And.intro hown hb7)
              clear hown hgr hblk hb7
              go_wp2_with (at_builtin; go_must (refine wpList_append_one _ rfl (.tmp 85) (.tmp 88) 24 rfl w6.heap.size 26 i0 (.float .f64 0) 8 Tryz.underlying24 hi hz0 hz1 hz2 rfl _ (1 + n) _ rfl (H7.out.1.alloc _) ⟨w7.heap.size, 0, none⟩ 1 (.float .f64 nx) rfl ?_ rfl ?_ ?_ ?_ ?_))
              · exact cell_one_new _ _ _ 0 _ rfl
              · unfold maxLen; omega
              · omega
              · exact Nat.le_trans H7.out.2.size (by simp)
              · intro g cap8 w8 hown hgr hblk hge
                have hb8 : Below w6.heap.size w6 w8 := (H7.out.2.alloc H7.out.2.size _).grown hgr (Nat.le_trans H7.out.2.size (by simp)) (fun k hk => (H7.out.1.lt k hk).1)
                have hfe : f64s ((x :: us) ++ [nx]) = f64s [x] ++ (f64s us ++ [.float .f64 nx]) := by simp [f64s]
                have hml : ((x :: us) ++ [nx]).length = 1 + n + 1 := by have := HLEN.out; simp; omega
                have hl8 : Fls w8 (some ⟨g, 0, none⟩) ((x :: us) ++ [nx]) := by
                  intro i hi'
                  refine ⟨_, rfl, hown.cells rfl i _ ?_⟩
                  rw [← hfe, f64s_get _ i hi']
                have H8 := Lib.hid (And.intro hl8 (And.intro hml hb8))
                clear hown hgr hblk hb8 hl8 hml hfe hge
                go_wp2_with fail
                have S5 := sum_any (some ⟨g, 0, none⟩) ((x :: us) ++ [nx]) cap8 w8 H8.out.1 (lt_append (a := x :: us) (b := [nx]) (fun i => by cases i with | zero => exact HX.out | succ i => exact HUS.out.2.1 i) (lt_one HQ3.out)) (by rw [H8.out.2.1]; omega)
                rw [H8.out.2.1, HQ1.out] at S5
                refine S5.mono ?_
                rintro e w9 ⟨rfl, hb⟩
                have H9 := Lib.hid (H8.out.2.2.trans (hb.mono H8.out.2.2.size))
                clear S5 hb
                go_wp2_with fail
                have S6 := sum_any o2 us cap2 w9 (fls_keep0 H2.out.1 (HB6.out.trans (H9.out.mono HB6.out.size))) HUS.out.2.1 (by rw [HLEN.out]; omega)
                rw [HLEN.out] at S6
                refine S6.mono ?_
                rintro e w10 ⟨rfl, hb⟩
                have H10 := Lib.hid (H9.out.trans (hb.mono H9.out.size))
                clear S6 hb
                go_wp2_with fail
                refine (fbits_any (sumW us) (sumW us) _).mono ?_
                rintro e w11 ⟨rfl, hw⟩
                obtain rfl : w10 = w11 := hw
                rw [decide_eq_true (rfl : sumW us = sumW us)]
                go_wp2_with fail
                go_meet
                case rel => exact H10.out
        case rest =>
          have HB7 := Lib.hid (HB6.out.trans (hcut.out.mono HB6.out.size))
          clear hcut HQ
          go_wp2_with fail
          go_loopg [12, 13, 14] m (fun gq s12 s13 s14 wx => ∃ (k : Nat) (t : Int), gq + k = m ∧ s12 = .int .i64 t ∧ s14 = .int .i64 (k : Int) ∧ Hid (t = Rn.tot (zs.take k) ∧ wx.ownsRow wc.heap.size 26 1 s13 k (f64s ((zs.take k).map (floatOfInt .f64))) ∧ Below wc.heap.size wc wx))
          case atStart => exact ⟨0, 0, by omega, rfl, rfl, ⟨rfl, ⟨rfl, Or.inl ⟨rfl, rfl⟩⟩, Below.refl _ _⟩⟩
          case round =>
            obtain ⟨k, t, hgk, rfl, rfl, HR⟩ := hrel
            have hwr := H2.out.2.2.trans ((HB7.out.trans (HR.out.2.2.mono HB7.out.size)).mono H2.out.2.2.size)
            have HWR := Lib.hid hwr
            clear hwr
            by_cases hk : k < m
            · have hk' : k < zs.length := by rw [HLZ.out]; exact hk
              obtain ⟨ad, ho3, c0⟩ := i32s_keep HUS.out.2.2.1 HWR.out k hk'
              subst ho3
              have hzk := HUS.out.2.2.2 k
              have hb1 := tot_bound HUS.out.2.2.2 k (Nat.le_of_lt hk')
              have hti := tot_take hk'
              have hta := int_take hk'
              rw [← HR.out.1] at hb1 hti
              have HTI := Lib.hid (And.intro hti hta)
              clear hti hta hk'
              generalize zs.getD k 0 = z at *
              obtain ⟨t2, ht2⟩ : ∃ t2, t2 = t + z := ⟨_, rfl⟩
              have hw1 : wrap64 z = z := by unfold wrap64; omega
              have hw2 : wrap64 (t + z) = t2 := by rw [ht2]; unfold wrap64; omega
              have HT2 := Lib.hid ht2
              clear ht2 hzk hb1
              generalize hfz : floatOfInt .f64 z = fz at *
              have HFZ := Lib.hid hfz
              have hfz1 : ∀ w : World, (convert 21 26 (.int .i32 z)).run Tryz.prog w = .ok (.float .f64 fz) w := fun w => by rw [← hfz]; exact run_convert_int_float w _ _ _ _ _ (by kernel_rfl) Tryz.underlying26
              clear hfz
              go_wp2_with (at_builtin; go_must (refine wpList_append_one _ rfl (.tmp 114) (.tmp 120) 24 rfl wc.heap.size 26 i0 (.float .f64 0) 8 Tryz.underlying24 hi hz0 hz1 hz2 rfl _ k _ rfl (HR.out.2.1.alloc _) ⟨wr.heap.size, 0, none⟩ 1 (.float .f64 fz) rfl ?_ rfl ?_ ?_ ?_ ?_))
              · exact cell_one_new _ _ _ 0 _ rfl
              · unfold maxLen; omega
              · omega
              · exact Nat.le_trans HR.out.2.2.size (by simp)
              · intro g cap1 w8 hown hgr hblk hg
                have HO8 := Lib.hid hown
                have HB8 := Lib.hid ((HR.out.2.2.alloc HR.out.2.2.size _).grown hgr (Nat.le_trans HR.out.2.2.size (by simp)) (fun b hb => (HR.out.2.1.lt b hb).1))
                clear hown hgr hblk
                go_wp2_with fail
                go_roundg (gk - 1)
                all_goals first | omega | skip
                case rel =>
                  refine ⟨k + 1, t2, by omega, rfl, rfl, ?_⟩
                  refine ⟨by rw [HTI.out.1, HT2.out], ?_, HB8.out⟩
                  have h := HO8.out
                  rw [HTI.out.2, List.map_append, f64s_append]
                  rw [← HFZ.out, ← List.map_take] at h
                  exact h
            · have hkm : k = m := by omega
              have hsi := Rn.sum_ints (mem_bound HUS.out.2.2.2)
              have ht := HR.out.1
              have hown := HR.out.2.1
              rw [hkm, List.take_of_length_le (by rw [HLZ.out]; omega)] at ht hown
              rw [← ht] at hsi
              have hml : (zs.map (floatOfInt .f64)).length = m := by rw [List.length_map, HLZ.out]
              have hown2 : wr.ownsRow wc.heap.size 26 1 u13 (zs.map (floatOfInt .f64)).length (f64s (zs.map (floatOfInt .f64))) := by rw [hml]; exact hown
              obtain ⟨o8, cap8, rfl, hfl8⟩ := fls_of hown2
              rw [hml]
              have hlt8 : ∀ i, (zs.map (floatOfInt .f64)).getD i 0 < 18446744073709551616 := by
                intro i
                rw [List.getD_eq_getElem?_getD, List.getElem?_map]
                cases hzi : zs[i]? with
                | none => show 0 < _; omega
                | some z => exact (Rn.int_fin (mem_bound HUS.out.2.2.2 z (List.mem_of_getElem? hzi))).2.2
              have S7 := sum_any o8 (zs.map (floatOfInt .f64)) cap8 wr hfl8 hlt8 (by rw [hml]; omega)
              rw [hml, hsi.1] at S7
              have hself : (FloatKind.f64.format.order (floatOfInt .f64 t) (floatOfInt .f64 t) != some .eq) = false := by
                have h1 := Flt.fnan_eq (floatOfInt .f64 t)
                rw [hsi.2] at h1
                exact h1
              have hcv : ∀ w : World, (convert 2 26 (.int .i64 t)).run Tryz.prog w = .ok (.float .f64 (floatOfInt .f64 t)) w := fun w => run_convert_int_float w _ _ _ _ _ (by kernel_rfl) Tryz.underlying26
              have HW2 := Lib.hid (HB7.out.trans (HR.out.2.2.mono HB7.out.size))
              generalize floatOfInt .f64 t = ft at *
              have HS7 := Lib.hid S7
              clear S7 hsi ht hown hown2 hml hfl8 hlt8 HR hkm
              go_wp2_with fail
              refine HS7.out.mono ?_
              rintro e w9 ⟨rfl, hb⟩
              have HB9 := Lib.hid (HWR.out.trans (hb.mono HWR.out.size))
              have HF9 := Lib.hid (fls_keep0 H2.out.1 (HW2.out.trans (hb.mono HW2.out.size)))
              clear hb HS7
              by_cases h1n : 1 < n
              · have p1 : decide ((n : Int) > 1) = true := by rw [decide_eq_true_eq]; omega
                have p2 : decide (1 < n) = true := by rw [decide_eq_true_eq]; exact h1n
                obtain ⟨ad, ho2, c0⟩ := HF9.out 0 (by rw [HLEN.out]; omega)
                obtain ⟨ad1, ho1, c1⟩ := HF9.out 1 (by rw [HLEN.out]; omega)
                subst ho2
                obtain rfl := Option.some.inj ho1
                have c0' : w9.cell? ad = some (.float .f64 (us.getD 0 0)) := by rw [← c0]; congr 1
                have HA := Lib.hid (HUS.out.2.1 0)
                have HB := Lib.hid (HUS.out.2.1 1)
                clear c0
                generalize us.getD 0 0 = a at *
                generalize us.getD 1 0 = b at *
                obtain ⟨r, w10, hr, hcan, hw10⟩ := Rn.run_add Tryz.prog 26 HA.out HB.out w9.drew
                have hb10 : Below w9.heap.size w9 w10 := by
                  have h1 : Below w9.heap.size w9 w9.drew := ⟨rfl, rfl, rfl, Nat.le_refl _, fun _ _ => rfl⟩
                  rcases hw10 with rfl | rfl
                  · exact h1
                  · exact ⟨h1.os, h1.tape, h1.output, h1.size, h1.block⟩
                have HCAN := Lib.hid hcan
                have HB10 := Lib.hid hb10
                have h10 : w10.cell? ad = some (.float .f64 a) := (hb10.cell (cell_in c0')).trans c0'
                have h11 : w10.cell? (ad.add 1) = some (.float .f64 b) := (hb10.cell (cell_in c1)).trans c1
                have H10 := Lib.hid (And.intro h10 h11)
                clear hcan hb10 hw10 h10 h11
                go_upto_region 28 with fail
                have q0 : 0 < n := by omega
                have q1 : (1 : Int) < (n : Int) := by omega
                have k2 : w9.cell? ⟨ad.block, ad.off + 1, none⟩ = some (.float .f64 b) := by simpa [Addr.add] using c1
                go_still_tail 6, (by kernel_rfl)
                change wpList _ _ _ _ _ w9.drew
                go_upto_region 29 with fail
                have k3 := H10.out.1
                have k4 : w10.cell? ⟨ad.block, ad.off + 1, none⟩ = some (.float .f64 b) := by simpa [Addr.add] using H10.out.2
                have hb11 : Below w10.heap.size w10 w10 := Below.refl _ _
                have hal : Below w10.heap.size w10 (w10.alloc (.cells #[.float .f64 a, .float .f64 b] 26)).drew := below_drew (below_alloc hb11 _)
                have S8 := (sum_any (some ⟨w10.heap.size, 0, none⟩) [a, b] 2 (w10.alloc (.cells #[.float .f64 a, .float .f64 b] 26)).drew (fun i hi => fls_two w10 a b i hi) (lt_two HA.out HB.out) (by simp)).mono
                  (R' := fun e w' => e = .returned (.float .f64 (sumW [a, b])) ∧ (w'.cell? ad = some (.float .f64 a) ∧ w'.cell? ⟨ad.block, ad.off + 1, none⟩ = some (.float .f64 b) ∧ Below w10.heap.size w10 w'))
                  (fun e w' ⟨he, hw⟩ => ⟨he, ((hal.trans (hw.mono hal.size)).cell (cell_in k3)).trans k3, ((hal.trans (hw.mono hal.size)).cell (cell_in k4)).trans k4, hal.trans (hw.mono hal.size)⟩)
                have HS8 := Lib.hid S8
                have hcn := canon_any r
                rw [HCAN.out] at hcn
                have HCN := Lib.hid hcn
                have hbt := fbits_any (sumW [a, b]) (sumW [a, b])
                rw [decide_eq_true (rfl : sumW [a, b] = sumW [a, b])] at hbt
                have HBT := Lib.hid hbt
                clear S8 hal hcn hbt
                generalize sumW [a, b] = s2 at *
                go_region_held3 (fun w' => w'.cell? ad = some (.float .f64 a) ∧ w'.cell? ⟨ad.block, ad.off + 1, none⟩ = some (.float .f64 b) ∧ Below w10.heap.size w10 w') (refine ⟨?_, ?_, ?_⟩ <;> first | assumption | (exact below_drew (by assumption)) | (exact below_alloc (by assumption) _) | (exact below_drew (below_alloc (by assumption) _)) | (simp [*]; done) | go_keep)
                  (first
                    | (go_at_call 15; refine HS8.out.mono ?_; rintro e w' ⟨rfl, hs1, hs2, hs3⟩)
                    | (go_at_call 22; refine (HCN.out _).mono ?_; rintro e w' ⟨rfl, rfl⟩)
                    | (go_at_call 16; refine (HBT.out _).mono ?_; rintro e w' ⟨rfl, rfl⟩))
                go_wp2_with fail
                go_ret
                exact ⟨rfl, HB9.out.trans ((HB10.out.trans (hs3.mono HB10.out.size)).mono HB9.out.size)⟩
              · have p1 : decide ((n : Int) > 1) = false := by rw [decide_eq_false_iff_not]; omega
                have p2 : decide (1 < n) = false := by rw [decide_eq_false_iff_not]; exact h1n
                go_wp2_with fail
                go_ret
                exact ⟨rfl, HB9.out⟩
    · have hj : j < us.length := by rw [HLEN.out]; omega
      obtain ⟨ad, rfl, c0'⟩ := H2.out.1 j hj
      have c0 := (HR.out.2.cell (cell_in c0')).trans c0'
      have htk := rev_take (us := us) (k := k) (j := j) (by rw [HLEN.out]; omega)
      have HTK := Lib.hid htk
      rw [show (((j + 1 : Nat) : Int) - 1) = (j : Int) by omega]
      clear htk c0' hj
      generalize us.getD j 0 = u at *
      have hjn : j < n := by omega
      go_wp2_with (at_builtin; go_must (refine wpList_append_one _ rfl (.tmp 35) (.tmp 40) 24 rfl w2.heap.size 26 i0 (.float .f64 0) 8 Tryz.underlying24 hi hz0 hz1 hz2 rfl _ k _ rfl (HR.out.1.alloc _) ⟨wr.heap.size, 0, none⟩ 1 (.float .f64 u) rfl ?_ rfl ?_ ?_ ?_ ?_))
      · exact cell_one_new _ _ _ 0 _ rfl
      · unfold maxLen; omega
      · omega
      · exact Nat.le_trans HR.out.2.size (by simp)
      · intro g cap1 w3 hown hgr hblk hg
        have HO := Lib.hid hown
        have HB := Lib.hid ((HR.out.2.alloc HR.out.2.size _).grown hgr (Nat.le_trans HR.out.2.size (by simp)) (fun b hb => (HR.out.1.lt b hb).1))
        clear hown hgr hblk
        go_wp2_with fail
        go_roundg j
        all_goals first | omega | skip
        case rel =>
          refine ⟨k + 1, by omega, ?_, ?_⟩
          · first | rfl | (show Value.int _ _ = Value.int _ _; congr 1; unfold wrap64; omega)
          · have h := HO.out
            refine ⟨?_, HB.out⟩
            rw [HTK.out, f64s_append]
            exact h
end Go.Proofs.YtipkiiblghnoiaaGreatDoor.realSums
