/- RealLists' walk. By an AI agent. -/
import Derived.Test.YtipkiiblghnoiaaGreatDoorReK
import Derived.Test.YtipkiiblghnoiaaGreatDoorSumL
import Derived.Test.YtipkiiblghnoiaaGreatDoorSumN
namespace Go.Proofs.YtipkiiblghnoiaaGreatDoor.realLists
open Go.ChangeShapes Go.WideShapes Go.ChangeAt Go.RowKit
open Bt Sm
set_option linter.unusedVariables false

set_option maxRecDepth 100000 in
set_option maxHeartbeats 8000000 in
theorem walk (o : Option Addr) (us : List Nat) (cap : Nat) (w : World) (hU : U64s w o us) (hu : ∀ i, us.getD i 0 < 18446744073709551616) (hopt : Opt w) (hT : Tb w.heap.size w) :
    Calls Tryz.prog 3 #[.slice o us.length cap] w fun e w' => e = .returned (.bool true) ∧ Below w.heap.size w w' := by
  obtain ⟨i0, hi, hz0, hz1, hz2⟩ := info_parts info_f64
  have HO := Lib.hid (And.intro hopt hT)
  have HUS := Lib.hid (And.intro hU hu)
  clear hU hopt hT
  by_cases hbig : 2000 < us.length
  · generalize us.length = n at *
    have d0 : decide ((n : Int) > 2000) = true := by rw [decide_eq_true_eq]; omega
    have d1 : decide (2000 < n) = true := by rw [decide_eq_true_eq]; omega
    clear hu
    go_enter Tryz.func3, Tryz.ntmps3
    go_wp2_with fail
    refine (begun3 _ HO.out.1 HO.out.2).mono ?_
    rintro e w1 ⟨rfl, hb1⟩
    have H1 := Lib.hid hb1
    clear hb1
    go_wp2_with fail
    go_ret
    exact ⟨rfl, H1.out⟩
  · have hn : us.length ≤ 2000 := by omega
    clear hbig
    have HOF := Lib.hid (of_open o us cap)
    have HMIN := Lib.hid fun (o2 : Option Addr) (c2 : Nat) (w2 : World) (h : Fls w2 o2 us) => Sm.min_any o2 us c2 w2 h hu (by omega)
    have HMAX := Lib.hid fun (o2 : Option Addr) (c2 : Nat) (w2 : World) (h : Fls w2 o2 us) => Sm.max_any o2 us c2 w2 h hu (by omega)
    have HMIN3 := Lib.hid fun (o2 : Option Addr) (c2 : Nat) (w2 : World) (h : Fls w2 o2 us) => Sm.min3_any o2 us c2 w2 h hu (by omega)
    have HMAX3 := Lib.hid fun (o2 : Option Addr) (c2 : Nat) (w2 : World) (h : Fls w2 o2 us) => Sm.max3_any o2 us c2 w2 h hu (by omega)
    have HSUM := Lib.hid fun (o2 : Option Addr) (c2 : Nat) (w2 : World) (h : Fls w2 o2 us) => Sm.sum_any o2 us c2 w2 h hu (by omega)
    have HSUM3 := Lib.hid fun (o2 : Option Addr) (c2 : Nat) (w2 : World) (h : Fls w2 o2 us) => Sm.sum3_any o2 us c2 w2 h hu (by omega)
    have hg6 := f64s_length us
    generalize Sm.outW (-1) us = A at *
    generalize Sm.outW 1 us = B at *
    generalize Sm.outB us = ob at *
    generalize Sm.sumW us = S at *
    generalize hlen : us.length = n at *
    have HLEN := Lib.hid hlen
    have HFL := Lib.hid hg6
    clear hlen hg6 hu
    have d0 : decide ((n : Int) > 2000) = false := by rw [decide_eq_false_iff_not]; omega
    have d1 : decide (2000 < n) = false := by rw [decide_eq_false_iff_not]; omega
    go_enter Tryz.func3, Tryz.ntmps3
    go_wp2_with fail
    refine (begun3 _ HO.out.1 HO.out.2).mono ?_
    rintro e w1 ⟨rfl, hb1⟩
    have H1 := Lib.hid hb1
    clear hb1
    go_wp2_with fail
    refine (HOF.out w1 (u64s_keep HUS.out.1 H1.out) (by omega)).mono ?_
    rintro e w2 ⟨o2, cap2, rfl, hfl, hcn, -, hb2⟩
    have H2 := Lib.hid (And.intro hfl (And.intro hcn (H1.out.trans (hb2.mono H1.out.size))))
    clear hfl hb2 H1 hcn
    go_wp2_with (at_builtin; go_must (refine wpList_append_sl _ rfl (.const (.slice none 0 0)) (.tmp 22) 24 rfl w2.heap.size 26 i0 (.float .f64 0) 8 Tryz.underlying24 hi hz0 hz1 hz2 rfl _ 0 [] rfl ⟨rfl, Or.inl ⟨rfl, rfl⟩⟩ o2 n cap2 (f64s us) rfl HFL.out (f64_cells H2.out.1) f64_one H2.out.2.1 ?_ ?_ (Nat.le_refl _) ?_))
    · unfold maxLen; omega
    · omega
    · intro v4 w4 hown hgr hblk
      have hb4 : Below w2.heap.size w2 w4 := (Below.refl _ w2).grown hgr (Nat.le_refl _) (by intro k hk; cases hk)
      have hown0 : w4.ownsRow w2.heap.size 26 1 v4 n (f64s us) := by simpa using hown
      have H4 := Lib.hid (And.intro hown0 hb4)
      clear hown hown0 hgr hblk hb4
      go_wp2_with (at_builtin; go_must (refine wpList_append_one _ rfl (.tmp 23) (.tmp 24) 24 rfl w2.heap.size 26 i0 (.float .f64 0) 8 Tryz.underlying24 hi hz0 hz1 hz2 rfl _ n _ rfl (H4.out.1.alloc _) ⟨w4.heap.size, 0, none⟩ 1 (.float .f64 4619567317775286272) rfl ?_ rfl ?_ ?_ ?_ ?_))
      · exact cell_one_new _ _ _ 0 _ rfl
      · unfold maxLen; omega
      · omega
      · exact Nat.le_trans H4.out.2.size (by simp)
      · intro g cap5 w5 hown hgr hblk hge
        have hb5 : Below w2.heap.size w2 w5 := (H4.out.2.alloc H4.out.2.size _).grown hgr (Nat.le_trans H4.out.2.size (by simp)) (fun k hk => (H4.out.1.lt k hk).1)
        have hl5 : Fls w5 (some ⟨g, 0, none⟩) us := by
          intro i hi'
          refine ⟨_, rfl, hown.cells rfl i _ ?_⟩
          rw [List.getElem?_append_left (by rw [f64s_length]; exact hi'), f64s_get us i hi']
        have hc7 : w5.cell? ((⟨g, 0, none⟩ : Addr).add n) = some (.float .f64 4619567317775286272) := by
          refine hown.cells rfl n _ ?_
          rw [List.getElem?_append_right (by rw [HFL.out]; exact Nat.le_refl _), HFL.out, Nat.sub_self]; rfl
        have hcap : n + 1 ≤ cap5 ∧ cap5 ≤ maxLen := by
          rcases hown.2 with ⟨hv, -⟩ | ⟨g, cap, cells, hv, -, -, h3, h4, -⟩
          · cases hv
          · cases hv; exact ⟨h3, h4⟩
        have hx5 : Fls w5 o2 us := fls_keep0 H2.out.1 hb5
        have hb05 : Below w.heap.size w w5 := H2.out.2.2.trans (hb5.mono H2.out.2.2.size)
        have H5 := Lib.hid (And.intro hl5 (And.intro hc7 (And.intro hx5 hb05)))
        clear hown hgr hblk hb5 hl5 hc7 hx5 hb05 hge
        obtain ⟨hcap1, hcap2⟩ := hcap
        have hcap3 : cap5 ≤ 1000000000000000000000 := by unfold maxLen at hcap2; omega
        go_wp2_with fail
        refine (HMIN.out (some ⟨g, 0, none⟩) cap5 w5 H5.out.1).mono ?_
        rintro e w6 ⟨rfl, hw⟩
        obtain rfl : w5 = w6 := hw.symm
        go_wp2_with fail
        refine (HMIN3.out o2 cap2 w5 H5.out.2.2.1).mono ?_
        rintro e w6 ⟨rfl, hw⟩
        obtain rfl : w5 = w6 := hw.symm
        go_wp2_with fail
        refine (HMAX.out (some ⟨g, 0, none⟩) cap5 w5 H5.out.1).mono ?_
        rintro e w6 ⟨rfl, hw⟩
        obtain rfl : w5 = w6 := hw.symm
        go_wp2_with fail
        refine (HMAX3.out o2 cap2 w5 H5.out.2.2.1).mono ?_
        rintro e w6 ⟨rfl, hw⟩
        obtain rfl : w5 = w6 := hw.symm
        go_wp2_with fail
        refine (HSUM.out (some ⟨g, 0, none⟩) cap5 w5 H5.out.1).mono ?_
        rintro e w6 ⟨rfl, hb6⟩
        have hx6 : Fls w6 o2 us := fls_keep0 H5.out.2.2.1 hb6
        have hl6 : Fls w6 (some ⟨g, 0, none⟩) us := fls_keep0 H5.out.1 hb6
        have hc7 := (hb6.cell (cell_in H5.out.2.1)).trans H5.out.2.1
        have hc8 : w6.cell? ⟨g, n, none⟩ = some (.float .f64 4619567317775286272) := (add_at g n) ▸ hc7
        have hb06 : Below w.heap.size w w6 := H5.out.2.2.2.trans (hb6.mono H5.out.2.2.2.size)
        have H6 := Lib.hid (And.intro hl6 (And.intro hx6 (And.intro hb06 True.intro)))
        clear hb6 hx6 hl6 hb06 hc7
        go_wp2_with fail
        go_loopg [14] n (fun gq s14 wx => ∃ k : Nat, gq + k = n ∧ s14 = .int .i64 (k : Int) ∧ Hid (Below w6.heap.size w6 wx))
        case atStart => exact ⟨0, by omega, rfl, Below.refl _ _⟩
        case round =>
          obtain ⟨k, hgk, rfl, HK⟩ := hrel
          by_cases hk : k < n
          · have hk' : k < us.length := by rw [HLEN.out]; exact hk
            obtain ⟨ad, rfl, c0⟩ := fls_keep0 H6.out.2.1 HK.out k hk'
            obtain ⟨ad1, had1, c1⟩ := fls_keep0 H6.out.1 HK.out k hk'
            obtain rfl := Option.some.inj had1
            rw [add_at] at c1
            clear hk'
            generalize us.getD k 0 = u at *
            have HQ := Lib.hid (fbits_any u u)
            rw [decide_eq_true (rfl : u = u)] at HQ
            go_wp2_with fail
            go_quiet ((go_at_call 16; exact Calls.quiet_of_same ((HQ.out _).mono fun _ _ ⟨he, hw⟩ => ⟨he, hw.symm⟩)))
            go_wp2_with fail
            go_roundg (gk - 1)
            all_goals first | omega | skip
            case rel => exact ⟨k + 1, by omega, rfl, below_drewN HK.out _⟩
          · obtain rfl : k = n := by omega
            have c8 := (HK.out.cell (cell_in hc8)).trans hc8
            have H6 := Lib.hid (And.intro (H6.out.2.2.1.trans (HK.out.mono H6.out.2.2.1.size)) (HSUM3.out o2 cap2 wr (fls_keep0 H6.out.2.1 HK.out)))
            clear hc8 HK
            generalize hwr : wr = w6 at *
            clear hwr
            have h7 : (FloatKind.f64.format.order 4619567317775286272 4619567317775286272 == some .eq) = true := by
              rw [Flt.t_eq (by decide +kernel) (by decide +kernel)]; simp
            go_wp2_with fail
            refine (fbits_any A A _).mono ?_
            rintro e w7 ⟨rfl, hw⟩
            obtain rfl : w6 = w7 := hw
            rw [decide_eq_true (rfl : A = A)]
            go_wp2_with fail
            refine (fbits_any B B _).mono ?_
            rintro e w7 ⟨rfl, hw⟩
            obtain rfl : w6 = w7 := hw
            rw [decide_eq_true (rfl : B = B)]
            go_wp2_with fail
            refine H6.out.2.mono ?_
            rintro e w7 ⟨rfl, hb7⟩
            have H7 := Lib.hid (H6.out.1.trans (hb7.mono H6.out.1.size))
            clear hb7
            go_wp2_with fail
            refine (fbits_any S S _).mono ?_
            rintro e w8 ⟨rfl, hw⟩
            obtain rfl : w7 = w8 := hw
            rw [decide_eq_true (rfl : S = S)]
            go_wp2_with fail
            go_ret
            exact ⟨rfl, H7.out⟩
end Go.Proofs.YtipkiiblghnoiaaGreatDoor.realLists
