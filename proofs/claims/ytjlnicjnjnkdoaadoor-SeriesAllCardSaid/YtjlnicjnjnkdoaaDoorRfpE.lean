/- SeriesAll's walk. By an AI agent. -/
import Derived.Test.YtjlnicjnjnkdoaaDoorRfpD
namespace Go.Proofs.YtjlnicjnjnkdoaaDoor.seriesAll
open Go.ChangeShapes Go.WideShapes Go.ChangeAt Go.RowKit
open Bt Sm
set_option linter.unusedVariables false

theorem u64s_keep {w w' : World} {o : Option Addr} {us : List Nat} (h : U64s w o us) (k : Below w.heap.size w w') : U64s w' o us := by
  intro i hi
  obtain ⟨ad, ho, hc⟩ := h i hi
  exact ⟨ad, ho, (k.cell (cell_in hc)).trans hc⟩
theorem bys_keep {w w' : World} {o : Option Addr} {B : List Nat} (h : Bys w o B) (k : Below w.heap.size w w') : Bys w' o B := by
  intro i hi
  obtain ⟨ad, ho, hc⟩ := h i hi
  exact ⟨ad, ho, (k.cell (cell_in hc)).trans hc⟩
theorem f64_cells {us : List Nat} {o : Option Addr} {w : World} (h : Fls w o us) : ∀ j u, (f64s us)[j]? = some u → ∃ ad, o = some ad ∧ w.cell? (ad.add j) = some u := by
  intro j u hj
  have hl : j < us.length := by
    have := (List.getElem?_eq_some_iff.1 hj).1
    rwa [f64s_length] at this
  rw [f64s_get us j hl] at hj
  cases hj
  exact h j hl
theorem f64_one {us : List Nat} : ∀ u ∈ f64s us, u.oneCell' = true := by
  intro u hu
  obtain ⟨n, -, rfl⟩ := List.mem_map.1 hu
  rfl

theorem add_at (g n : Nat) : (⟨g, 0, none⟩ : Addr).add n = ⟨g, n, none⟩ := by
  by_cases h : n = 0
  · subst h; simp [Addr.add]
  · simp [Addr.add, h]

set_option maxRecDepth 100000 in
set_option maxHeartbeats 4000000 in
theorem walk (o : Option Addr) (us : List Nat) (cap : Nat) (w : World) (hU : U64s w o us) (hu : ∀ i, us.getD i 0 < 18446744073709551616) (hT : Tab w) (hg : 1 < w.heap.size) :
    Calls Tryd.prog 3 #[.slice o us.length cap] w fun e w' => e = .returned (.bool true) ∧ Below w.heap.size w w' := by
  obtain ⟨i0, hi, hz0, hz1, hz2⟩ := info_parts info_f64
  have HUS := Lib.hid (And.intro hU hu)
  have HT := Lib.hid hT
  clear hU hu hT
  by_cases hbig : 6000 < us.length
  · generalize us.length = n at *
    go_enter Tryd.func3, Tryd.ntmps3
    go_wp2_with (go_at_call 4; go_must (refine (begun_any w HT.out hg).mono ?_; rintro e w1 ⟨rfl, hb⟩; have HB := Lib.hid hb; clear hb))
    go_ret
    exact ⟨rfl, HB.out⟩
  · have hn6 : us.length ≤ 6000 := by omega
    clear hbig
    obtain ⟨tn, tm, ta, tb, tc, hTL, hTL5⟩ := tell_all us HUS.out.2 hn6
    have HTL := Lib.hid (And.intro hTL hTL5)
    have hpb := packB_length HUS.out.2
    have HPB := Lib.hid hpb
    clear hTL hTL5 hpb
    have hg6 := f64s_length us
    generalize hlen : us.length = n at *
    have HLEN := Lib.hid hlen
    have HFL := Lib.hid hg6
    clear hlen hg6
    go_enter Tryd.func3, Tryd.ntmps3
    go_wp2_with (go_at_call 4; go_must (refine (begun_any w HT.out hg).mono ?_; rintro e w1 ⟨rfl, hb⟩; have HB := Lib.hid hb; clear hb))
    have h1 : U64s w1 o us := u64s_keep HUS.out.1 HB.out
    have O1 := of_any o us cap w1 h1 (by rw [HLEN.out]; omega)
    rw [HLEN.out] at O1
    refine O1.mono ?_
    rintro e w2 ⟨v, rfl, hown, hbl⟩
    have hown' : w2.ownsRow w1.heap.size 26 1 v us.length (f64s us) := by rw [HLEN.out]; exact hown
    obtain ⟨o2, cap2, rfl, hfl⟩ := fls_of hown'
    have hcn : o2 = none → cap2 = 0 := by
      intro h
      rcases hown'.2 with ⟨hv, -⟩ | ⟨g, cap, cells, hv, -⟩
      · injection hv with _ _ h3
      · injection hv with h1
        rw [h] at h1; cases h1
    have H2 := Lib.hid (And.intro hfl (And.intro hcn (HB.out.trans (hbl.mono HB.out.size))))
    clear hown hown' hfl hbl h1 O1 HB hcn
    rw [HLEN.out]
    go_wp2_with (at_builtin; go_must (refine wpList_append_sl _ rfl (.const (.slice none 0 0)) (.tmp 21) 24 rfl w2.heap.size 26 i0 (.float .f64 0) 8 Tryd.underlying24 hi hz0 hz1 hz2 rfl _ 0 [] rfl ⟨rfl, Or.inl ⟨rfl, rfl⟩⟩ o2 n cap2 (f64s us) rfl HFL.out (f64_cells H2.out.1) f64_one H2.out.2.1 ?_ ?_ (Nat.le_refl _) ?_))
    · unfold maxLen; omega
    · omega
    · intro v4 w4 hown hgr hblk
      have hb4 : Below w2.heap.size w2 w4 := (Below.refl _ w2).grown hgr (Nat.le_refl _) (by intro k hk; cases hk)
      have hown0 : w4.ownsRow w2.heap.size 26 1 v4 n (f64s us) := by simpa using hown
      have H4 := Lib.hid (And.intro hown0 hb4)
      clear hown hown0 hgr hblk hb4
      go_wp2_with (at_builtin; go_must (refine wpList_append_one _ rfl (.tmp 22) (.tmp 23) 24 rfl w2.heap.size 26 i0 (.float .f64 0) 8 Tryd.underlying24 hi hz0 hz1 hz2 rfl _ n _ rfl (H4.out.1.alloc _) ⟨w4.heap.size, 0, none⟩ 1 (.float .f64 4619567317775286272) rfl ?_ rfl ?_ ?_ ?_ ?_))
      · exact cell_one_new _ _ _ 0 _ rfl
      · unfold maxLen; omega
      · omega
      · exact Nat.le_trans H4.out.2.size (by simp)
      · intro g cap5 w5 hown hgr hblk hge
        have hb5 : Below w2.heap.size w2 w5 := (H4.out.2.alloc H4.out.2.size _).grown hgr (Nat.le_trans H4.out.2.size (by simp)) (fun k hk => (H4.out.1.lt k hk).1)
        have hl5 : Fls w5 (some ⟨g, 0, none⟩) us := by
          intro i hi'
          refine ⟨_, rfl, hown.cells rfl i _ ?_⟩
          rw [List.getElem?_append_left (by rw [f64s_length]; exact hi'), f64s_get us i hi']
        have hc7 : w5.cell? ((⟨g, 0, none⟩ : Addr).add n) = some (.float .f64 4619567317775286272) := by
          refine hown.cells rfl n _ ?_
          rw [List.getElem?_append_right (by rw [HFL.out]; exact Nat.le_refl _), HFL.out, Nat.sub_self]; rfl
        have hcap : n + 1 ≤ cap5 ∧ cap5 ≤ maxLen := by
          rcases hown.2 with ⟨hv, -⟩ | ⟨g, cap, cells, hv, -, -, h3, h4, -⟩
          · cases hv
          · cases hv; exact ⟨h3, h4⟩
        have H5 := Lib.hid (And.intro hl5 (And.intro hc7 hb5))
        clear hown hgr hblk hb5 hl5 hc7
        obtain ⟨hcap1, hcap2⟩ := hcap
        have hcap3 : cap5 ≤ 1000000000000000000000 := by unfold maxLen at hcap2; omega
        go_wp2_with fail
        have hx5 : Fls w5 o2 us := fls_keep0 H2.out.1 H5.out.2.2
        have hb05 : Below w.heap.size w w5 := H2.out.2.2.trans (H5.out.2.2.mono H2.out.2.2.size)
        have HX := Lib.hid (And.intro hx5 hb05)
        clear hx5 hb05
        generalize hE : errN us = er at *
        generalize hPB : packB us = PB at *
        have P1 := pack_all (some ⟨g, 0, none⟩) us cap5 w5 HUS.out.2 H5.out.1 (by rw [HLEN.out]; exact hn6) (HT.out.below HX.out.2 hg) (Nat.lt_of_lt_of_le hg HX.out.2.size)
        rw [HLEN.out] at P1
        refine P1.mono ?_
        rintro e w6 ⟨o6, cap6, rfl, hby, hb⟩
        rw [hPB] at hby
        rw [hE, hPB]
        have H6 := Lib.hid (And.intro hby hb)
        clear hby hb P1
        go_wp2_with fail
        have P2 := pack5_all o2 us cap2 w6 HUS.out.2 (fls_keep0 HX.out.1 H6.out.2) (by rw [HLEN.out]; exact hn6)
        rw [HLEN.out] at P2
        refine P2.mono ?_
        rintro e w7 ⟨o7, cap7, rfl, hby, hb⟩
        rw [hPB] at hby
        rw [hE, hPB]
        have H7 := Lib.hid (And.intro hby (And.intro (bys_keep H6.out.1 hb) (H6.out.2.trans (hb.mono H6.out.2.size))))
        clear hby hb P2 H6
        go_wp2_with fail
        have P3 := HTL.out.1 (some ⟨g, 0, none⟩) cap5 w7 (fls_keep0 H5.out.1 H7.out.2.2)
        refine P3.mono ?_
        rintro e w8 ⟨rfl, hb⟩
        have H8 := Lib.hid (And.intro (bys_keep H7.out.1 hb) (And.intro (bys_keep H7.out.2.1 hb) (H7.out.2.2.trans (hb.mono H7.out.2.2.size))))
        clear hb P3 H7
        go_wp2_with fail
        generalize hO : (Obj.cells #[Value.int .i64 (tn : Nat), Value.int .i64 (tm : Nat), Value.float .f64 ta, Value.float .f64 tb, Value.float .f64 tc] 32) = ob at *
        have hba : Below w5.heap.size w5 (w8.alloc ob) := H8.out.2.2.alloc H8.out.2.2.size _
        have P4 := HTL.out.2 o2 cap2 (w8.alloc ob) (fls_keep0 HX.out.1 hba)
        refine P4.mono ?_
        rintro e w9 ⟨rfl, hb⟩
        have h88 : Below w8.heap.size w8 (w8.alloc ob) := (Below.refl _ w8).alloc (Nat.le_refl _) _
        have h89 : Below w8.heap.size w8 w9 := h88.trans (hb.mono h88.size)
        have ht9 : w9.heap[w8.heap.size]? = some ob := (hb.block _ (by simp)).trans (blk_new _ _)
        have hlt : w8.heap.size < w9.heap.size := lt_of_block ht9
        have H9 := Lib.hid (And.intro (bys_keep H8.out.1 h89) (And.intro (bys_keep H8.out.2.1 h89) (And.intro (H8.out.2.2.trans (h89.mono H8.out.2.2.size)) ht9)))
        clear hb P4 H8 h88 h89 hba ht9
        subst hO
        go_upto_region 11 with fail
        have hA1 : TalAt (w9.alloc (.cells (tal tn tm ta tb tc) 32)) w8.heap.size (tal tn tm ta tb tc) := blk_alloc H9.out.2.2.2 _
        have hA2 : TalAt (w9.alloc (.cells (tal tn tm ta tb tc) 32)) w9.heap.size (tal tn tm ta tb tc) := blk_new _ _
        have hA3 : Below w9.heap.size w9 (w9.alloc (.cells (tal tn tm ta tb tc) 32)) := (Below.refl _ w9).alloc (Nat.le_refl _) _
        have hA4 := And.intro (bys_keep H9.out.1 hA3) (And.intro (bys_keep H9.out.2.1 hA3) (H9.out.2.2.1.trans (hA3.mono H9.out.2.2.1.size)))
        have HA := Lib.hid hA4
        clear hA3 hA4 H9
        unfold tal at hA1 hA2 HA
        generalize hwA : w9.alloc (.cells #[Value.int .i64 (tn : Nat), Value.int .i64 (tm : Nat), Value.float .f64 ta, Value.float .f64 tb, Value.float .f64 tc] 32) = wA at *
        have x0 := blk_cell hA1 0
        have x1 := blk_cell hA1 1
        have x2 := blk_cell hA1 2
        have x3 := blk_cell hA1 3
        have x4 := blk_cell hA1 4
        have y0 := blk_cell hA2 0
        have y1 := blk_cell hA2 1
        have y2 := blk_cell hA2 2
        have y3 := blk_cell hA2 3
        have y4 := blk_cell hA2 4
        clear hA1 hA2 hwA
        simp at x0 x1 x2 x3 x4 y0 y1 y2 y3 y4
        generalize w8.heap.size = b1 at *
        generalize w9.heap.size = b2 at *
        go_upto_region 12 with (go_at_call 10; go_must (refine (bits_same _ _).mono ?_; rintro e w' ⟨rfl, hw'⟩; obtain rfl : wA = w' := hw'))
        clear x0 x1 x2 x3 x4 y0 y1 y2 y3 y4
        have E1 := eqBytes_any o6 o7 cap6 cap7 PB PB wA HA.out.2.1 HA.out.1 (by have := HPB.out; omega)
        rw [decide_eq_true (rfl : PB = PB)] at E1
        have HE1 := Lib.hid E1
        clear E1
        go_wp2_with fail
        refine HE1.out.mono ?_
        rintro e wB ⟨rfl, hk⟩
        have hb5B : Below w5.heap.size w5 wB := HA.out.2.2.trans (hk.none.mono HA.out.2.2.size)
        have E2 := eqFloats_any (some ⟨g, 0, none⟩) o2 cap5 cap2 us us wB (fls_keep0 H5.out.1 hb5B) (fls_keep0 HX.out.1 hb5B) (by rw [HLEN.out]; omega)
        rw [decide_eq_true (rfl : us = us), HLEN.out] at E2
        have HE2 := Lib.hid E2
        have HB5 := Lib.hid hb5B
        clear E2 hk hb5B HE1 HA
        go_wp2_with fail
        refine HE2.out.mono ?_
        rintro e wC ⟨rfl, hk⟩
        have hb5C : Below w5.heap.size w5 wC := HB5.out.trans (hk.none.mono HB5.out.size)
        have hc7 := (hb5C.cell (cell_in H5.out.2.1)).trans H5.out.2.1
        have hc8 : wC.cell? ⟨g, n, none⟩ = some (.float .f64 4619567317775286272) := (add_at g n) ▸ hc7
        have HC5 := Lib.hid hb5C
        have h7 : (FloatKind.f64.format.order 4619567317775286272 4619567317775286272 == some .eq) = true := by
          rw [Flt.t_eq (by decide +kernel) (by decide +kernel)]; simp
        clear hk hb5C HE2 HB5
        go_wp2_with fail
        go_ret
        exact ⟨rfl, HX.out.2.trans (HC5.out.mono HX.out.2.size)⟩
end Go.Proofs.YtjlnicjnjnkdoaaDoor.seriesAll
