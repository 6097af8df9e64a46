/- GaugeAll: the walk. By an AI agent. -/
import Derived.Test.YtdkcnbcjjlaidaaGaAn
import Derived.Deep.DeepMust
namespace Go.Proofs.Ytdkcnbcjjlaidaa.gaugeAll
open Go.ChangeShapes Go.WideShapes Go.ChangeAt Go.RowKit
open gaugeCells (Pl take_succ alike_refl)
set_option linter.unusedVariables false

set_option maxRecDepth 100000 in
set_option maxHeartbeats 64000000 in
theorem walk (ob : Option Addr) (B : List Nat) (cb : Nat) (ox : Option Addr) (X : List Nat) (cx : Nat) (oy : Option Addr) (Y : List Nat) (cy : Nat) (oo : Option Addr) (O : List Nat) (co : Nat) (oq : Option Addr) (Q : List Nat) (cq : Nat) (w : World)
    (hB : U64s w ob B) (hX : U64s w ox X) (hY : U64s w oy Y) (hO : U64s w oo O) (hQ : U64s w oq Q) (lO : O.length ≤ 2000000) (vB : ∀ i, B.getD i 0 < 2 ^ 64) (vX : ∀ i, X.getD i 0 < 2 ^ 64) (vY : ∀ i, Y.getD i 0 < 2 ^ 64) (vO : ∀ i, O.getD i 0 < 2 ^ 64) :
    Calls Try.prog 5 #[.slice ob B.length cb, .slice ox X.length cx, .slice oy Y.length cy, .slice oo O.length co, .slice oq Q.length cq] w fun e w' => e = .returned (.bool true) ∧ Below w.heap.size w w' := by
  obtain ⟨i0, hi, hz0, hz1, hz2⟩ := info_parts info_f64
  have HI := Lib.hid (And.intro hB (And.intro hX (And.intro hY (And.intro hO hQ))))
  have HV := Lib.hid (And.intro vB (And.intro vX (And.intro vY vO)))
  clear hB hX hY hO hQ vB vX vY vO
  have HOF := Lib.hid (fun (w' : World) (k : Below w.heap.size w w') => And.intro (fun h => of_any ob B cb w' (u64_keep HI.out.1 k) h) (And.intro (fun h => of_any ox X cx w' (u64_keep HI.out.2.1 k) h) (And.intro (fun h => of_any oy Y cy w' (u64_keep HI.out.2.2.1 k) h) (And.intro (fun h => of_any oo O co w' (u64_keep HI.out.2.2.2.1 k) h) (fun h => of_any oq Q cq w' (u64_keep HI.out.2.2.2.2 k) h)))))
  generalize hnb : B.length = nb at *
  generalize hnx : X.length = nx at *
  generalize hny : Y.length = ny at *
  generalize hno : O.length = no at *
  generalize hnq : Q.length = nq at *
  have HL := Lib.hid (And.intro hnb (And.intro hnx (And.intro hny (And.intro hno hnq))))
  clear hnb hnx hny hno hnq
  go_enter Try.func5, Try.ntmps5
  go_wp2_with fail
  refine (begun_any w).mono ?_
  rintro e w1 ⟨rfl, hb1⟩
  have H1 := Lib.hid hb1
  clear hb1
  by_cases c1 : 300 < nx
  · go_wp2_with fail
    go_ret
    exact ⟨rfl, H1.out⟩
  by_cases c2 : 300 < ny
  · go_wp2_with fail
    go_ret
    exact ⟨rfl, H1.out⟩
  by_cases c3 : 30 < nq
  · go_wp2_with fail
    go_ret
    exact ⟨rfl, H1.out⟩
  by_cases c4 : 100 < nb
  · go_wp2_with fail
    go_ret
    exact ⟨rfl, H1.out⟩
  go_wp2_with fail
  refine ((HOF.out _ H1.out).1 (by omega)).mono ?_
  rintro e w2 ⟨v1, rfl, hr1, hb2⟩
  obtain ⟨o1, p1, rfl, f1, n1, t1⟩ := fls_of (us := B) (by have := hr1; exact this)
  rw [HL.out.1]
  have H2 := Lib.hid (And.intro (H1.out.trans (hb2.mono H1.out.size)) (And.intro f1 (And.intro n1 t1)))
  clear hr1 hb2 f1 t1 H1
  have HW : RowKit.Hid (∀ j u, (f64s B)[j]? = some u → ∃ ad, o1 = some ad ∧ w2.cell? (ad.add j) = some u) := by
    refine Lib.hid fun j u hj => ?_
    have hjl : j < B.length := by
      rcases Nat.lt_or_ge j B.length with h | h
      · exact h
      · rw [List.getElem?_eq_none (by rw [f64s_length]; exact h)] at hj; cases hj
    rw [f64s_get B j hjl] at hj
    cases hj
    exact H2.out.2.1 j hjl
  have h1 : ∀ u ∈ f64s B, u.oneCell' = true := by
    intro u hu
    obtain ⟨x, -, rfl⟩ := List.mem_map.1 hu
    rfl
  have hl : (f64s B).length = nb := by rw [f64s_length]; exact HL.out.1
  go_wp2_with (at_builtin; go_must (refine wpList_append_sl _ rfl (.const (.slice none 0 0)) (.tmp 49) 35 rfl w2.heap.size 24 i0 (.float .f64 0) 8 Try.underlying35 hi hz0 hz1 hz2 rfl _ 0 [] rfl (nil_row _ _ _) o1 nb p1 (f64s B) rfl hl HW.out h1 n1 ?_ ?_ (Nat.le_refl _) ?_))
  · unfold maxLen; omega
  · omega
  intro v3 w3 hown3 hgr3 hblk3
  have hown3' : w3.ownsRow w2.heap.size 24 1 v3 nb (f64s B) := by simpa using hown3
  have hb3 := (Below.refl _ w2).grown hgr3 (Nat.le_refl _) (by intro k hk; cases hk)
  have H3 := Lib.hid (And.intro hown3' hb3)
  clear hown3 hgr3 hblk3 hown3' hb3 HW h1 hl
  go_wp2_with (at_builtin; go_must (refine wpList_append_one _ rfl (.tmp 50) (.tmp 51) 35 rfl w2.heap.size 24 i0 (.float .f64 0) 8 Try.underlying35 hi hz0 hz1 hz2 rfl _ nb _ rfl (H3.out.1.alloc _) ⟨w3.heap.size, 0, none⟩ 1 (.float .f64 4619567317775286272) rfl ?_ rfl ?_ ?_ ?_ ?_))
  · exact cell_one_new _ _ _ 0 _ rfl
  · unfold maxLen; omega
  · omega
  · exact Nat.le_trans H3.out.2.size (by simp)
  intro bh ch w4 hown4 hgr4 hblk4 hgb4
  have hcap : nb + 1 ≤ ch ∧ ch ≤ maxLen := by
    rcases hown4.2 with ⟨h', -⟩ | ⟨g', cap', cur, h', -, -, h5, h6, -⟩
    · cases h'
    · simp only [Value.slice.injEq] at h'
      obtain ⟨-, -, rfl⟩ := h'
      exact ⟨h5, h6⟩
  have hc1 := hcap.1
  have hc2 := hcap.2
  unfold maxLen at hc2
  have H4 := Lib.hid (And.intro hown4 (And.intro ((H3.out.2.alloc H3.out.2.size _).grown hgr4 (Nat.le_trans H3.out.2.size (by simp)) (fun b hb => (H3.out.1.lt b hb).1)) hgb4))
  clear hown4 hgr4 hblk4 hcap H3
  have hnew1 := gnew_all (some ⟨bh, 0, none⟩) B ch w4 (fls_own H4.out.1 (by rw [HL.out.1]; omega) (fls_more B _)) (fun h => nomatch h) HV.out.1
  rw [HL.out.1] at hnew1
  have HN1 := Lib.hid hnew1
  clear hnew1
  go_wp2_with fail
  refine HN1.out.mono ?_
  rintro e w5 ⟨a1, rfl, hb5, hp1, hz1'⟩
  have hnew2 := rnew_all o1 B p1 w5 (fls_keep (fls_keep H2.out.2.1 H4.out.2.1) hb5) n1 HV.out.1
  rw [HL.out.1] at hnew2
  have HN2 := Lib.hid hnew2
  have H5 := Lib.hid hb5
  clear hnew2 HN1 hb5
  by_cases hcB : code B = 0
  · obtain ⟨P1, rfl, hat1, hba1⟩ := hp1 hcB
    have HP1 := Lib.hid (And.intro hat1 hba1)
    rw [hcB] at HN2 ⊢
    clear hat1 hba1 hz1'
    go_wp2_with fail
    refine HN2.out.mono ?_
    rintro e w6 ⟨a2, rfl, hb6, hp2, -⟩
    obtain ⟨Q1, rfl, hat2, hba2⟩ := hp2 (by simp)
    have htw := Tw.make HP1.out.1 HP1.out.2 H5.out hat2 hba2 hb6
    rw [HL.out.1] at htw
    have hlt4 := (H4.out.1.lt bh rfl).2
    have hz24 := H4.out.2.1.size
    have hz12 := H2.out.1.size
    have hz45 := H5.out.size
    have hz56 := hb6.size
    have H6 := Lib.hid (And.intro (((H2.out.1.trans (H4.out.2.1.mono hz12)).trans (H5.out.mono (by omega))).trans (hb6.mono (by omega))) (And.intro htw (And.intro (fls_keep (fls_keep (fls_keep H2.out.2.1 H4.out.2.1) H5.out) hb6) (And.intro (row_below (row_below H4.out.1 H5.out) hb6) (And.intro hlt4 (And.intro H4.out.2.2 (And.intro H2.out.2.2.2 (code_ok hcB))))))))
    have HZ6 := Lib.hid (And.intro hz12 (And.intro hz24 (And.intro hz45 hz56)))
    have HCB := Lib.hid hcB
    clear hat2 hba2 hb6 htw hp1 hp2 hlt4 hz12 hz24 hz45 hz56 HP1 HN2 H5 H4 hcB
    go_wp2_with fail
    go_loopg [17] nb (fun gq i wr => ∃ k : Nat, ∃ L1 : List Value, gq + k = nb ∧ i = .int .i64 (k : Int) ∧ Hid (wr.ownsRow w2.heap.size 24 1 (.slice (some ⟨bh, 0, none⟩) (nb + 1) ch) (nb + 1) L1 ∧ Keep (· = bh) w6 wr))
    case atStart => exact ⟨0, _, by omega, rfl, H6.out.2.2.2.1, Keep.refl _ _⟩
    case round =>
      obtain ⟨k, L1, hgk, rfl, HK⟩ := hrel
      by_cases hk : k < nb
      · obtain ⟨u, hu⟩ := own_some HK.out.1 k (by omega)
        have hfr := HK.out.1.frozenAt k
        have hst := HK.out.1.stored k (.float .f64 4613937818241073152)
        have HST := Lib.hid (And.intro hst.1 (Keep.setCell HK.out.2 (p := ⟨bh, k, none⟩) (Or.inl rfl) (.float .f64 4613937818241073152)))
        clear hst
        go_wp2_with fail
        go_roundg (gk - 1)
        case measure => omega
        case rel => exact ⟨k + 1, _, by omega, rfl, HST.out⟩
      · have hkk := HK.out.2
        have z1 := HZ6.out
        have hbh := H6.out.2.2.2.2.1
        have hbl := H6.out.2.2.2.2.2.1
        have htw := H6.out.2.1.away hkk (fun b h1 h2 h3 => by omega)
        have hfl := fls_keep' H6.out.2.2.1 hkk (fun ad e h3 => by have := (H6.out.2.2.2.2.2.2.1 ad e).2.1; omega)
        have hbw := H6.out.1.trans (hkk.below H6.out.1.size (fun b hb => by omega))
        have hzr := hkk.size
        have H7 := Lib.hid (And.intro hbw (And.intro htw (And.intro hfl H6.out.2.2.2.2.2.2.2)))
        have HZ7 := Lib.hid (And.intro z1 hzr)
        clear hkk z1 hbh hbl htw hfl hbw hzr HK H6
        go_wp2_with fail
        refine ((HOF.out _ H7.out.1).2.2.2.1 lO).mono ?_
        rintro e w8 ⟨v8, rfl, hr8, hb8⟩
        obtain ⟨o8, p8, rfl, f8, n8, -⟩ := fls_of (us := O) (by have := hr8; exact this)
        rw [HL.out.2.2.2.1]
        have H8 := Lib.hid (And.intro (H7.out.1.trans (hb8.mono H7.out.1.size)) (And.intro (H7.out.2.1.grow hb8) (And.intro (fls_keep H7.out.2.2.1 hb8) H7.out.2.2.2)))
        have HZ8 := Lib.hid (And.intro HZ7.out hb8.size)
        have hnew := gnew_all o8 O p8 w8 f8 n8 HV.out.2.2.2
        rw [HL.out.2.2.2.1] at hnew
        have HN := Lib.hid hnew
        clear hnew hr8 hb8 f8 H7 HZ7
        go_wp2_with fail
        refine HN.out.mono ?_
        rintro e w9 ⟨a9, rfl, hb9, hp9, -⟩
        have H9 := Lib.hid (And.intro (H8.out.1.trans (hb9.mono H8.out.1.size)) (And.intro hb9 hp9))
        clear hb9 hp9 HN
        go_wp2_with fail
        refine ((HOF.out _ H9.out.1).2.2.2.1 lO).mono ?_
        rintro e w10 ⟨v10, rfl, hr10, hb10⟩
        obtain ⟨o10, p10, rfl, f10, n10, -⟩ := fls_of (us := O) (by have := hr10; exact this)
        rw [HL.out.2.2.2.1]
        have hnew := rnew_all o10 O p10 w10 f10 n10 HV.out.2.2.2
        rw [HL.out.2.2.2.1] at hnew
        have HN := Lib.hid hnew
        have H10 := Lib.hid (And.intro (H9.out.1.trans (hb10.mono H9.out.1.size)) hb10)
        clear hnew hr10 hb10 f10
        go_wp2_with fail
        refine HN.out.mono ?_
        rintro e w11 ⟨a11, rfl, hb11, hp11, -⟩
        have hk811 : Below w8.heap.size w8 w11 := (H9.out.2.1.trans (H10.out.2.mono H9.out.2.1.size)).trans (hb11.mono (Nat.le_trans H9.out.2.1.size H10.out.2.size))
        have H11 := Lib.hid (And.intro (H10.out.1.trans (hb11.mono H10.out.1.size)) (And.intro (H8.out.2.1.grow hk811) (And.intro (fls_keep H8.out.2.2.1 hk811) H8.out.2.2.2)))
        have h2 : code O = 0 → ∃ p2 q2 : Pl, a9 = some ⟨p2.g, 0, none⟩ ∧ a11 = some ⟨q2.g, 0, none⟩ ∧ Tw p2 q2 w8.heap.size w11.heap.size no w11 (newG O) (newG O) := fun hC => by
          obtain ⟨p2, e2, hat, hba⟩ := H9.out.2.2 hC
          obtain ⟨q2, e3, hat', hba'⟩ := hp11 hC
          have t := Tw.make (GAt.keep hat H10.out.2) hba (H9.out.2.1.trans (H10.out.2.mono H9.out.2.1.size)) hat' hba' hb11
          rw [HL.out.2.2.2.1] at t
          exact ⟨p2, q2, e2, e3, t⟩
        have HT2 := Lib.hid (And.intro h2 hk811.size)
        have hnew := gnew_all o1 B p1 w11 H11.out.2.2.1 n1 HV.out.1
        rw [HL.out.1, HCB.out] at hnew
        have HN := Lib.hid hnew
        clear hnew hb11 hp11 hk811 h2 H8 H9 H10
        go_wp2_with fail
        refine HN.out.mono ?_
        rintro e w12 ⟨a12, rfl, hb12, hp12, -⟩
        obtain ⟨P3, rfl, hat, hba⟩ := hp12 (by simp)
        have hnew := rnew_all o1 B p1 w12 (fls_keep H11.out.2.2.1 hb12) n1 HV.out.1
        rw [HL.out.1, HCB.out] at hnew
        have HN := Lib.hid hnew
        have H12 := Lib.hid (And.intro hb12 (And.intro hat hba))
        clear hnew hb12 hat hba hp12
        go_wp2_with fail
        refine HN.out.mono ?_
        rintro e w13 ⟨a13, rfl, hb13, hp13, -⟩
        obtain ⟨Q3, rfl, hat, hba⟩ := hp13 (by simp)
        have ht3 := Tw.make H12.out.2.1 H12.out.2.2 H12.out.1 hat hba hb13
        rw [HL.out.1] at ht3
        have hk : Below w11.heap.size w11 w13 := H12.out.1.trans (hb13.mono H12.out.1.size)
        obtain ⟨P2, Q2, HPQ, hst⟩ := st_make (C := code O = 0) (w := w) (H11.out.2.1.grow hk) (fun c => by
          obtain ⟨p2, q2, e2, e3, t⟩ := HT2.out.1 c
          exact ⟨p2, q2, e2, e3, t.grow hk⟩) ht3 (by have := HZ8.out; omega) (by have := HZ8.out; have := HT2.out.2; omega) (Nat.le_refl _) (by have := HZ8.out; have := HZ6.out; have := H2.out.1.size; omega) (H11.out.1.size) (H11.out.1.trans (hk.mono H11.out.1.size)) (Nat.le_refl _)
        have HOK := Lib.hid H11.out.2.2.2
        have HO2 := Lib.hid (fun (h : code O = 0) => code_ok h)
        generalize w4.heap.size = A1 at *
        generalize w6.heap.size = A2 at *
        generalize w8.heap.size = A3 at *
        generalize w11.heap.size = A4 at *
        generalize w13.heap.size = A5 at *
        have HS := Lib.hid hst
        clear hst HN hat hba hp13 ht3 hk hb13 HT2 H12 H11 HZ8 HZ6 n8 n10 n1 H2 hc1 hc2
        generalize hkO : code O = kO at *
        clear hkO
        have ke : (kO != kO) = false := by simp
        go_wp2_with fail
        go_loopg [24] nx (fun gq i wr => ∃ k : Nat, ∃ x : G, gq + k = nx ∧ i = .int .i64 (k : Int) ∧ Hid (St P1 Q1 P2 Q2 P3 Q3 A1 A2 A3 A4 A4 A5 nb no (kO = 0) w wr x x (newG O) (newG B) (newG B) ∧ TG x B (X.take k)))
        case atStart => exact ⟨0, _, by omega, rfl, HS.out, tg_new B⟩
        case round =>
          obtain ⟨k, x, hgk, rfl, HK⟩ := hrel
          by_cases hk : k < nx
          · go_wp2_with fail
            refine ((HOF.out _ HK.out.1.kept).2.1 (by omega)).mono ?_
            rintro e wa ⟨va, rfl, hra, hba⟩
            obtain ⟨oa, pa, rfl, fa, -, -⟩ := fls_of (us := X) (by have := hra; exact this)
            rw [HL.out.2.1]
            obtain ⟨ad, rfl, hcell⟩ := fa k (by rw [HL.out.2.1]; exact hk)
            have hst := HK.out.1.grow hba
            have hcm := calm_any HK.out.2 (by rw [List.length_take]; omega) HOK.out.1
            have HP := Lib.hid (put_any hst.t1.hg hcm.1 (X.getD k 0) (HV.out.2.1 k))
            have HSA := Lib.hid (And.intro hst (And.intro hcm (HK.out.2.put (X.getD k 0))))
            have htk := take_succ X k (by rw [HL.out.2.1]; exact hk)
            have HTK := Lib.hid htk
            clear hra hba fa hst hcm htk
            generalize hxv : X.getD k 0 = xv at *
            have HXV := Lib.hid hxv
            clear hxv
            go_wp2_with fail
            refine HP.out.mono ?_
            rintro e wb ⟨rfl, hgb, kb⟩
            have hst := HSA.out.1.g1 hgb (by rw [put_bs]; exact HSA.out.1.t1.xn) kb
            have HSB := Lib.hid hst
            clear hst hgb kb hcell HP
            go_wp2_with fail
            refine ((HOF.out _ HSB.out.kept).2.1 (by omega)).mono ?_
            rintro e wc ⟨vc, rfl, hrc, hbc⟩
            obtain ⟨oc, pc, rfl, fc, -, -⟩ := fls_of (us := X) (by have := hrc; exact this)
            rw [HL.out.2.1]
            obtain ⟨ad, rfl, hcell⟩ := fc k (by rw [HL.out.2.1]; exact hk)
            rw [HXV.out] at hcell
            have hst := HSB.out.grow hbc
            have HP := Lib.hid (rput_all hst.t1.hr HSA.out.2.1.1 (by rw [HK.out.2.hb]; exact rises_of HOK.out.2) xv (by rw [← HXV.out]; exact HV.out.2.1 k))
            have HSC := Lib.hid hst
            clear hrc hbc fc hst
            go_wp2_with fail
            refine HP.out.mono ?_
            rintro e wd ⟨rfl, hgd, kd⟩
            have hst := HSC.out.r1 hgd (by rw [put_bs]; exact HSC.out.t1.yn) kd
            have HSD := Lib.hid (And.intro hst HSA.out.2.2)
            clear hst hgd kd
            go_wp2_with fail
            go_roundg (gk - 1)
            case measure => omega
            case rel => exact ⟨k + 1, _, by omega, rfl, HSD.out.1, by rw [HTK.out]; exact HSD.out.2⟩
          · have hkn : k = nx := by omega
            have hTX := HK.out.2
            rw [hkn, ← HL.out.2.1, List.take_length] at hTX
            have HTX := Lib.hid hTX
            have HSX := Lib.hid HK.out.1
            clear hTX HK hkn
            go_wp2_with fail
            go_loopg [25] ny (fun gq i wr => ∃ k : Nat, ∃ y : G, gq + k = ny ∧ i = .int .i64 (k : Int) ∧ Hid (St P1 Q1 P2 Q2 P3 Q3 A1 A2 A3 A4 A4 A5 nb no (kO = 0) w wr x x (newG O) y y ∧ TG y B (Y.take k)))
            case atStart => exact ⟨0, _, by omega, rfl, HSX.out, tg_new B⟩
            case round =>
              obtain ⟨k, y, hgk, rfl, HK⟩ := hrel
              by_cases hk : k < ny
              · go_wp2_with fail
                refine ((HOF.out _ HK.out.1.kept).2.2.1 (by omega)).mono ?_
                rintro e wa ⟨va, rfl, hra, hba⟩
                obtain ⟨oa, pa, rfl, fa, -, -⟩ := fls_of (us := Y) (by have := hra; exact this)
                rw [HL.out.2.2.1]
                obtain ⟨ad, rfl, hcell⟩ := fa k (by rw [HL.out.2.2.1]; exact hk)
                have hst := HK.out.1.grow hba
                have hcm := calm_any HK.out.2 (by rw [List.length_take]; omega) HOK.out.1
                have HP := Lib.hid (put_any hst.t3.hg hcm.1 (Y.getD k 0) (HV.out.2.2.1 k))
                have HSA := Lib.hid (And.intro hst (And.intro hcm (HK.out.2.put (Y.getD k 0))))
                have htk := take_succ Y k (by rw [HL.out.2.2.1]; exact hk)
                have HTK := Lib.hid htk
                clear hra hba fa hst hcm htk
                generalize hxv : Y.getD k 0 = xv at *
                have HXV := Lib.hid hxv
                clear hxv
                go_wp2_with fail
                refine HP.out.mono ?_
                rintro e wb ⟨rfl, hgb, kb⟩
                have hst := HSA.out.1.g3 hgb (by rw [put_bs]; exact HSA.out.1.t3.xn) kb
                have HSB := Lib.hid hst
                clear hst hgb kb hcell HP
                go_wp2_with fail
                refine ((HOF.out _ HSB.out.kept).2.2.1 (by omega)).mono ?_
                rintro e wc ⟨vc, rfl, hrc, hbc⟩
                obtain ⟨oc, pc, rfl, fc, -, -⟩ := fls_of (us := Y) (by have := hrc; exact this)
                rw [HL.out.2.2.1]
                obtain ⟨ad, rfl, hcell⟩ := fc k (by rw [HL.out.2.2.1]; exact hk)
                rw [HXV.out] at hcell
                have hst := HSB.out.grow hbc
                have HP := Lib.hid (rput_all hst.t3.hr HSA.out.2.1.1 (by rw [HK.out.2.hb]; exact rises_of HOK.out.2) xv (by rw [← HXV.out]; exact HV.out.2.2.1 k))
                have HSC := Lib.hid hst
                clear hrc hbc fc hst
                go_wp2_with fail
                refine HP.out.mono ?_
                rintro e wd ⟨rfl, hgd, kd⟩
                have hst := HSC.out.r3 hgd (by rw [put_bs]; exact HSC.out.t3.yn) kd
                have HSD := Lib.hid (And.intro hst HSA.out.2.2)
                clear hst hgd kd
                go_wp2_with fail
                go_roundg (gk - 1)
                case measure => omega
                case rel => exact ⟨k + 1, _, by omega, rfl, HSD.out.1, by rw [HTK.out]; exact HSD.out.2⟩
              · have hkn : k = ny := by omega
                have hTY := HK.out.2
                rw [hkn, ← HL.out.2.2.1, List.take_length] at hTY
                have HTY := Lib.hid hTY
                have HSY := Lib.hid HK.out.1
                clear hTY HK hkn HSX
                go_wp2_with fail
                refine ((HOF.out _ HSY.out.kept).2.2.2.2 (by omega)).mono ?_
                rintro e we ⟨ve, rfl, hre, hbe⟩
                obtain ⟨o5, p5, rfl, f5, -, t5⟩ := fls_of (us := Q) (by have := hre; exact this)
                rw [HL.out.2.2.2.2]
                have HQ := Lib.hid (fun a (h : o5 = some a) => Nat.le_trans HSY.out.above (t5 a h).1)
                have HS := Lib.hid (And.intro (HSY.out.grow hbe) f5)
                have hcx := calm_any HTX.out (by rw [HL.out.2.1]; omega) HOK.out.1
                have hcy := calm_any HTY.out (by rw [HL.out.2.2.1]; omega) HOK.out.1
                have HCX := Lib.hid (And.intro hcx (show x.n ≤ 2 ^ 20 by have := hcx.2.1; have := HL.out.2.1; omega))
                have HCY := Lib.hid (And.intro hcy (show y.n ≤ 2 ^ 20 by have := hcy.2.1; have := HL.out.2.2.1; omega))
                clear hre hbe f5 t5 hcx hcy HSY
                have hsm := told_same HS.out.1.t1.hg HS.out.1.t1.hr HCX.out.1.1 HCX.out.2 HCX.out.1.2.2 o5 Q p5 HS.out.2 (by have := HL.out.2.2.2.2; omega)
                rw [HL.out.2.2.2.2] at hsm
                have HSM := Lib.hid hsm
                clear hsm
                go_wp2_with fail
                refine HSM.out.mono ?_
                rintro e ws1 ⟨rfl, hbs⟩
                have HT := Lib.hid (And.intro (HS.out.1.grow hbs) (fls_keep HS.out.2 hbs))
                clear HS HSM hbs
                have HS := Lib.hid HT.out
                clear HT
                have hsm := told_same HS.out.1.t3.hg HS.out.1.t3.hr HCY.out.1.1 HCY.out.2 HCY.out.1.2.2 o5 Q p5 HS.out.2 (by have := HL.out.2.2.2.2; omega)
                rw [HL.out.2.2.2.2] at hsm
                have HSM := Lib.hid hsm
                clear hsm
                go_wp2_with fail
                refine HSM.out.mono ?_
                rintro e ws2 ⟨rfl, hbs⟩
                have HT := Lib.hid (And.intro (HS.out.1.grow hbs) (fls_keep HS.out.2 hbs))
                clear HS HSM hbs
                have HS := Lib.hid HT.out
                clear HT
                have hwl0 : X.length ≤ 300 := by rw [HL.out.2.1]; omega
                have hyl0 : Y.length ≤ 300 := by rw [HL.out.2.2.1]; omega
                have HWL := Lib.hid hwl0
                have HYL := Lib.hid hyl0
                clear hwl0 hyl0
                by_cases hC : kO = 0
                · obtain ⟨e9, e11⟩ := HPQ hC
                  subst e9
                  subst e11
                  have hz := HO2.out hC
                  have hcz := calm_any (tg_new O) (Nat.zero_le _) hz.1
                  have kt : (kO == 0) = true := by simpa using hC
                  have hM := merge_all HS.out.1.t1.hg (HS.out.1.t2 hC).hg HCX.out.1.1 hcz.1 (by have := hcz.2.2; omega)
                  obtain ⟨ws, hws, hwl⟩ := mer_tg HTX.out (tg_new O) HOK.out.2 hz.2 HV.out.1 HV.out.2.2.2
                  have hR := fun (W : World) (a b : _) => rmerge_all (w := W) (g := Q1.g) (base := Q1.base) (ob := Q1.ob) (cb := Q1.cb) (c := Q1.c) (g' := Q2.g) (base' := Q2.base) (ob' := Q2.ob) (cb' := Q2.cb) (c' := Q2.c) a b HCX.out.1.1 hcz.1 (by have := hcz.2.2; omega)
                  generalize mer x (newG O) = m at *
                  obtain ⟨m1, x2⟩ := m
                  have HM := Lib.hid hM
                  have HR := Lib.hid hR
                  have HT2 := Lib.hid (And.intro hws (show ws.length ≤ 300 by have := HWL.out; simp at hwl; omega))
                  have kd : (m1 != m1) = false := by simp
                  clear hM hR hws hwl hcz hz
                  go_wp2_with fail
                  refine HM.out.mono ?_
                  rintro e wm ⟨rfl, hgm, km⟩
                  have hf := HS.out.1.q1 HS.out.2 HQ.out km
                  have hst := HS.out.1.g1 hgm (by have := HT2.out.1.hb; rw [show ((m1, x2) : Int × G).2.bs = x2.bs from rfl, this]; exact HL.out.1) km
                  have HT := Lib.hid (And.intro hst hf)
                  clear HS HM hst hf hgm km
                  go_wp2_with fail
                  refine (HR.out _ HT.out.1.t1.hr (HT.out.1.t2 hC).hr).mono ?_
                  rintro e wn ⟨rfl, hgn, kn⟩
                  have hf := HT.out.1.q2 HT.out.2 HQ.out kn
                  have hst := HT.out.1.r1 hgn (by have := HT2.out.1.hb; rw [show ((m1, x2) : Int × G).2.bs = x2.bs from rfl, this]; exact HL.out.1) kn
                  have HS := Lib.hid (And.intro hst hf)
                  clear HT HR hst hf hgn kn
                  have hcx := calm_any HT2.out.1 (by have := HT2.out.2; omega) HOK.out.1
                  have HCX2 := Lib.hid (And.intro hcx (show x2.n ≤ 2 ^ 20 by have := hcx.2.1; have := HT2.out.2; omega))
                  clear hcx
                  have hms := mer_self HT2.out.1 HTY.out
                  have hM := merge_all HS.out.1.t1.hg HS.out.1.t3.hg HCX2.out.1.1 HCY.out.1.1 (by have := HCY.out.1.2.2; omega)
                  have hR := fun (W : World) (a b : _) => rmerge_all (w := W) (g := Q1.g) (base := Q1.base) (ob := Q1.ob) (cb := Q1.cb) (c := Q1.c) (g' := Q3.g) (base' := Q3.base) (ob' := Q3.ob) (cb' := Q3.cb) (c' := Q3.c) a b HCX2.out.1.1 HCY.out.1.1 (by have := HCY.out.1.2.2; omega)
                  rw [hms.1] at hM hR
                  have HM := Lib.hid hM
                  have HR := Lib.hid hR
                  have HT3 := Lib.hid hms.2
                  clear hM hR hms
                  go_wp2_with fail
                  refine HM.out.mono ?_
                  rintro e wm3 ⟨rfl, hgm, km⟩
                  have hf := HS.out.1.q1 HS.out.2 HQ.out km
                  have HRX := Lib.hid (trivial)
                  have hst := HS.out.1.g1 hgm (by rw [HT3.out.hb]; exact HL.out.1) km
                  have HT := Lib.hid (And.intro hst hf)
                  clear HS HM hst hf hgm km
                  go_wp2_with fail
                  refine (HR.out _ HT.out.1.t1.hr HT.out.1.t3.hr).mono ?_
                  rintro e wn3 ⟨rfl, hgn, kn⟩
                  have hf := HT.out.1.q2 HT.out.2 HQ.out kn
                  have hst := HT.out.1.r1 hgn (by rw [HT3.out.hb]; exact HL.out.1) kn
                  have HS := Lib.hid (And.intro hst hf)
                  clear HT HR hst hf hgn kn HRX
                  have hl3 : (ws ++ Y).length ≤ 600 := by rw [List.length_append]; have := HT2.out.2; have := HYL.out; omega
                  have hcx := calm_any HT3.out (by omega) HOK.out.1
                  have HCX3 := Lib.hid (And.intro hcx (show (mergeG x2 y).n ≤ 2 ^ 20 by have := hcx.2.1; omega))
                  have HL3 := Lib.hid hl3
                  clear hcx hl3
                  generalize mergeG x2 y = x3 at *
                  have hsm := told_same HS.out.1.t1.hg HS.out.1.t1.hr HCX3.out.1.1 HCX3.out.2 HCX3.out.1.2.2 o5 Q p5 HS.out.2 (by have := HL.out.2.2.2.2; omega)
                  rw [HL.out.2.2.2.2] at hsm
                  have HSM := Lib.hid hsm
                  clear hsm
                  go_wp2_with fail
                  refine HSM.out.mono ?_
                  rintro e ws3 ⟨rfl, hbs⟩
                  have HT := Lib.hid (And.intro (HS.out.1.grow hbs) (fls_keep HS.out.2 hbs))
                  clear HS HSM hbs
                  have HS := Lib.hid HT.out
                  clear HT
                  have hsm := told_same HS.out.1.t3.hg HS.out.1.t3.hr HCY.out.1.1 HCY.out.2 HCY.out.1.2.2 o5 Q p5 HS.out.2 (by have := HL.out.2.2.2.2; omega)
                  rw [HL.out.2.2.2.2] at hsm
                  have HSM := Lib.hid hsm
                  clear hsm
                  go_wp2_with fail
                  refine HSM.out.mono ?_
                  rintro e ws4 ⟨rfl, hbs⟩
                  have HT := Lib.hid (And.intro (HS.out.1.grow hbs) (fls_keep HS.out.2 hbs))
                  clear HS HSM hbs
                  have HS := Lib.hid HT.out
                  clear HT
                  have hms := mer_self HT3.out HT3.out
                  have hM := merge_all HS.out.1.t1.hg HS.out.1.t1.hg HCX3.out.1.1 HCX3.out.1.1 (by have := HCX3.out.1.2.2; omega)
                  have hR := fun (W : World) (a b : _) => rmerge_all (w := W) (g := Q1.g) (base := Q1.base) (ob := Q1.ob) (cb := Q1.cb) (c := Q1.c) (g' := Q1.g) (base' := Q1.base) (ob' := Q1.ob) (cb' := Q1.cb) (c' := Q1.c) a b HCX3.out.1.1 HCX3.out.1.1 (by have := HCX3.out.1.2.2; omega)
                  rw [hms.1] at hM hR
                  have HM := Lib.hid hM
                  have HR := Lib.hid hR
                  have HT4 := Lib.hid hms.2
                  clear hM hR hms
                  go_wp2_with fail
                  refine HM.out.mono ?_
                  rintro e wm4 ⟨rfl, hgm, km⟩
                  have hf := HS.out.1.q1 HS.out.2 HQ.out km
                  have HRX := Lib.hid (trivial)
                  have hst := HS.out.1.g1 hgm (by rw [HT4.out.hb]; exact HL.out.1) km
                  have HT := Lib.hid (And.intro hst hf)
                  clear HS HM hst hf hgm km
                  go_wp2_with fail
                  refine (HR.out _ HT.out.1.t1.hr HT.out.1.t1.hr).mono ?_
                  rintro e wn4 ⟨rfl, hgn, kn⟩
                  have hf := HT.out.1.q2 HT.out.2 HQ.out kn
                  have hst := HT.out.1.r1 hgn (by rw [HT4.out.hb]; exact HL.out.1) kn
                  have HS := Lib.hid (And.intro hst hf)
                  clear HT HR hst hf hgn kn HRX
                  have hl4 : (ws ++ Y ++ (ws ++ Y)).length ≤ 1200 := by rw [List.length_append]; have := HL3.out; omega
                  have hcx := calm_any HT4.out (by omega) HOK.out.1
                  have HCX4 := Lib.hid (And.intro hcx (show (mergeG x3 x3).n ≤ 2 ^ 20 by have := hcx.2.1; omega))
                  clear hcx hl4
                  generalize mergeG x3 x3 = x4 at *
                  have hsm := told_same HS.out.1.t1.hg HS.out.1.t1.hr HCX4.out.1.1 HCX4.out.2 HCX4.out.1.2.2 o5 Q p5 HS.out.2 (by have := HL.out.2.2.2.2; omega)
                  rw [HL.out.2.2.2.2] at hsm
                  have HSM := Lib.hid hsm
                  clear hsm
                  go_wp2_with fail
                  refine HSM.out.mono ?_
                  rintro e ws5 ⟨rfl, hbs⟩
                  have HT := Lib.hid (And.intro (HS.out.1.grow hbs) (fls_keep HS.out.2 hbs))
                  clear HS HSM hbs
                  have HS := Lib.hid HT.out
                  clear HT
                  go_wp2_with fail
                  refine (merge_none HS.out.1.t1.hg).mono ?_
                  rintro e wz ⟨rfl, rfl⟩
                  have hsm := told_same HS.out.1.t1.hg HS.out.1.t1.hr HCX4.out.1.1 HCX4.out.2 HCX4.out.1.2.2 o5 Q p5 HS.out.2 (by have := HL.out.2.2.2.2; omega)
                  rw [HL.out.2.2.2.2] at hsm
                  have HSM := Lib.hid hsm
                  clear hsm
                  go_wp2_with fail
                  refine HSM.out.mono ?_
                  rintro e ws6 ⟨rfl, hbs⟩
                  have HT := Lib.hid (And.intro (HS.out.1.grow hbs) (fls_keep HS.out.2 hbs))
                  clear HS HSM hbs
                  have HS := Lib.hid HT.out
                  clear HT
                  go_wp2_with fail
                  go_ret
                  exact ⟨rfl, HS.out.1.kept⟩
                · have kt : (kO == 0) = false := by simpa using hC
                  have hcx := calm_any HTX.out (by have := HWL.out; omega) HOK.out.1
                  have HCX2 := Lib.hid (And.intro hcx (show x.n ≤ 2 ^ 20 by have := hcx.2.1; have := HWL.out; omega))
                  clear hcx
                  have hms := mer_self HTX.out HTY.out
                  have hM := merge_all HS.out.1.t1.hg HS.out.1.t3.hg HCX2.out.1.1 HCY.out.1.1 (by have := HCY.out.1.2.2; omega)
                  have hR := fun (W : World) (a b : _) => rmerge_all (w := W) (g := Q1.g) (base := Q1.base) (ob := Q1.ob) (cb := Q1.cb) (c := Q1.c) (g' := Q3.g) (base' := Q3.base) (ob' := Q3.ob) (cb' := Q3.cb) (c' := Q3.c) a b HCX2.out.1.1 HCY.out.1.1 (by have := HCY.out.1.2.2; omega)
                  rw [hms.1] at hM hR
                  have HM := Lib.hid hM
                  have HR := Lib.hid hR
                  have HT3 := Lib.hid hms.2
                  clear hM hR hms
                  go_wp2_with fail
                  refine HM.out.mono ?_
                  rintro e wm3 ⟨rfl, hgm, km⟩
                  have hf := HS.out.1.q1 HS.out.2 HQ.out km
                  have HRX := Lib.hid (trivial)
                  have hst := HS.out.1.g1 hgm (by rw [HT3.out.hb]; exact HL.out.1) km
                  have HT := Lib.hid (And.intro hst hf)
                  clear HS HM hst hf hgm km
                  go_wp2_with fail
                  refine (HR.out _ HT.out.1.t1.hr HT.out.1.t3.hr).mono ?_
                  rintro e wn3 ⟨rfl, hgn, kn⟩
                  have hf := HT.out.1.q2 HT.out.2 HQ.out kn
                  have hst := HT.out.1.r1 hgn (by rw [HT3.out.hb]; exact HL.out.1) kn
                  have HS := Lib.hid (And.intro hst hf)
                  clear HT HR hst hf hgn kn HRX
                  have hl3 : (X ++ Y).length ≤ 600 := by rw [List.length_append]; have := HWL.out; have := HYL.out; omega
                  have hcx := calm_any HT3.out (by omega) HOK.out.1
                  have HCX3 := Lib.hid (And.intro hcx (show (mergeG x y).n ≤ 2 ^ 20 by have := hcx.2.1; omega))
                  have HL3 := Lib.hid hl3
                  clear hcx hl3
                  generalize mergeG x y = x3 at *
                  have hsm := told_same HS.out.1.t1.hg HS.out.1.t1.hr HCX3.out.1.1 HCX3.out.2 HCX3.out.1.2.2 o5 Q p5 HS.out.2 (by have := HL.out.2.2.2.2; omega)
                  rw [HL.out.2.2.2.2] at hsm
                  have HSM := Lib.hid hsm
                  clear hsm
                  go_wp2_with fail
                  refine HSM.out.mono ?_
                  rintro e ws7 ⟨rfl, hbs⟩
                  have HT := Lib.hid (And.intro (HS.out.1.grow hbs) (fls_keep HS.out.2 hbs))
                  clear HS HSM hbs
                  have HS := Lib.hid HT.out
                  clear HT
                  have hsm := told_same HS.out.1.t3.hg HS.out.1.t3.hr HCY.out.1.1 HCY.out.2 HCY.out.1.2.2 o5 Q p5 HS.out.2 (by have := HL.out.2.2.2.2; omega)
                  rw [HL.out.2.2.2.2] at hsm
                  have HSM := Lib.hid hsm
                  clear hsm
                  go_wp2_with fail
                  refine HSM.out.mono ?_
                  rintro e ws8 ⟨rfl, hbs⟩
                  have HT := Lib.hid (And.intro (HS.out.1.grow hbs) (fls_keep HS.out.2 hbs))
                  clear HS HSM hbs
                  have HS := Lib.hid HT.out
                  clear HT
                  have hms := mer_self HT3.out HT3.out
                  have hM := merge_all HS.out.1.t1.hg HS.out.1.t1.hg HCX3.out.1.1 HCX3.out.1.1 (by have := HCX3.out.1.2.2; omega)
                  have hR := fun (W : World) (a b : _) => rmerge_all (w := W) (g := Q1.g) (base := Q1.base) (ob := Q1.ob) (cb := Q1.cb) (c := Q1.c) (g' := Q1.g) (base' := Q1.base) (ob' := Q1.ob) (cb' := Q1.cb) (c' := Q1.c) a b HCX3.out.1.1 HCX3.out.1.1 (by have := HCX3.out.1.2.2; omega)
                  rw [hms.1] at hM hR
                  have HM := Lib.hid hM
                  have HR := Lib.hid hR
                  have HT4 := Lib.hid hms.2
                  clear hM hR hms
                  go_wp2_with fail
                  refine HM.out.mono ?_
                  rintro e wm4 ⟨rfl, hgm, km⟩
                  have hf := HS.out.1.q1 HS.out.2 HQ.out km
                  have HRX := Lib.hid (trivial)
                  have hst := HS.out.1.g1 hgm (by rw [HT4.out.hb]; exact HL.out.1) km
                  have HT := Lib.hid (And.intro hst hf)
                  clear HS HM hst hf hgm km
                  go_wp2_with fail
                  refine (HR.out _ HT.out.1.t1.hr HT.out.1.t1.hr).mono ?_
                  rintro e wn4 ⟨rfl, hgn, kn⟩
                  have hf := HT.out.1.q2 HT.out.2 HQ.out kn
                  have hst := HT.out.1.r1 hgn (by rw [HT4.out.hb]; exact HL.out.1) kn
                  have HS := Lib.hid (And.intro hst hf)
                  clear HT HR hst hf hgn kn HRX
                  have hl4 : (X ++ Y ++ (X ++ Y)).length ≤ 1200 := by rw [List.length_append]; have := HL3.out; omega
                  have hcx := calm_any HT4.out (by omega) HOK.out.1
                  have HCX4 := Lib.hid (And.intro hcx (show (mergeG x3 x3).n ≤ 2 ^ 20 by have := hcx.2.1; omega))
                  clear hcx hl4
                  generalize mergeG x3 x3 = x4 at *
                  have hsm := told_same HS.out.1.t1.hg HS.out.1.t1.hr HCX4.out.1.1 HCX4.out.2 HCX4.out.1.2.2 o5 Q p5 HS.out.2 (by have := HL.out.2.2.2.2; omega)
                  rw [HL.out.2.2.2.2] at hsm
                  have HSM := Lib.hid hsm
                  clear hsm
                  go_wp2_with fail
                  refine HSM.out.mono ?_
                  rintro e ws9 ⟨rfl, hbs⟩
                  have HT := Lib.hid (And.intro (HS.out.1.grow hbs) (fls_keep HS.out.2 hbs))
                  clear HS HSM hbs
                  have HS := Lib.hid HT.out
                  clear HT
                  go_wp2_with fail
                  refine (merge_none HS.out.1.t1.hg).mono ?_
                  rintro e wz ⟨rfl, rfl⟩
                  have hsm := told_same HS.out.1.t1.hg HS.out.1.t1.hr HCX4.out.1.1 HCX4.out.2 HCX4.out.1.2.2 o5 Q p5 HS.out.2 (by have := HL.out.2.2.2.2; omega)
                  rw [HL.out.2.2.2.2] at hsm
                  have HSM := Lib.hid hsm
                  clear hsm
                  go_wp2_with fail
                  refine HSM.out.mono ?_
                  rintro e ws10 ⟨rfl, hbs⟩
                  have HT := Lib.hid (And.intro (HS.out.1.grow hbs) (fls_keep HS.out.2 hbs))
                  clear HS HSM hbs
                  have HS := Lib.hid HT.out
                  clear HT
                  go_wp2_with fail
                  go_ret
                  exact ⟨rfl, HS.out.1.kept⟩
  · have ha1 := hz1' hcB
    subst ha1
    generalize code B = kb at *
    have k1 : (kb == kb) = true := by simp
    have k2 : (kb != kb) = false := by simp
    have k3 : (kb != 0) = true := by simp [hcB]
    have k4 : (kb == 0) = false := by simpa using hcB
    clear hp1 hz1'
    go_wp2_with fail
    refine HN2.out.mono ?_
    rintro e w6 ⟨a2, rfl, hb6, -, -⟩
    have HE := Lib.hid (((H2.out.1.trans (H4.out.2.1.mono H2.out.1.size)).trans (H5.out.mono (Nat.le_trans H2.out.1.size H4.out.2.1.size))).trans (hb6.mono (Nat.le_trans (Nat.le_trans H2.out.1.size H4.out.2.1.size) H5.out.size)))
    clear hb6
    go_wp2_with fail
    go_ret
    exact ⟨rfl, HE.out⟩
end Go.Proofs.Ytdkcnbcjjlaidaa.gaugeAll
