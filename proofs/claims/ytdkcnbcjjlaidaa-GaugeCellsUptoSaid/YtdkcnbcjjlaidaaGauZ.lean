/- GaugeCells: the walk. By an AI agent. -/
import Derived.Test.YtdkcnbcjjlaidaaGauY
namespace Go.Proofs.Ytdkcnbcjjlaidaa.gaugeCells
open Go.ChangeShapes Go.WideShapes Go.ChangeAt Go.RowKit
set_option linter.unusedVariables false

theorem u64_keep {w w' : World} {o : Option Addr} {us : List Nat} (h : U64s w o us) (k : Below w.heap.size w w') : U64s w' o us := by
  intro i hi
  obtain ⟨ad, e, hc⟩ := h i hi
  exact ⟨ad, e, (k.cell (by exact cell_in hc)).trans hc⟩

theorem take_sum_succ (cs : List Int) (k : Nat) (h : k < cs.length) : (cs.take (k + 1)).sum = (cs.take k).sum + cs.getD k 0 := by
  rw [List.take_succ_eq_append_getElem h, List.sum_append, List.getD_eq_getElem?_getD, List.getElem?_eq_getElem h]
  simp
theorem live_count (vs : List Nat) : (live vs).length + vs.countP (fun v => Flt.nan v) = vs.length := by
  induction vs with
  | nil => rfl
  | cons v vs ih =>
    unfold live at ih ⊢
    cases h : Flt.nan v
    · simp [h]; omega
    · simp [h]; omega
theorem qf_lt {x : G} {bs vs : List Nat} (h : TG x bs vs) (hl : ∀ i, x.bs.getD i 0 < 2 ^ 64) (hg : x.gr < 2 ^ 64) (r : Int) : qf x.bs x.cs r x.gr < 2 ^ 64 := by
  rw [h.hb] at hl ⊢
  rcases qf_at x.gr bs x.cs r h.nonneg h.len with ⟨j, -, e, -⟩ | ⟨e, -⟩
  · rw [e]; exact hl j
  · rw [e]; exact hg

theorem part_pair {p q : Nat} (h1 : (FloatKind.f64.format.order p 0 == some .gt || FloatKind.f64.format.order p 0 == some .eq) = true) (h2 : (FloatKind.f64.format.order q p == some .gt || FloatKind.f64.format.order q p == some .eq) = true)
    (h3 : (FloatKind.f64.format.order q 4607182418800017408 == some .lt || FloatKind.f64.format.order q 4607182418800017408 == some .eq) = true) : Part p ∧ Part q ∧ Flt.fv p ≤ Flt.fv q := by
  obtain ⟨n1, n2, a⟩ := Flt.ge_yes h1
  obtain ⟨n3, -, b⟩ := Flt.ge_yes h2
  obtain ⟨-, n4, c⟩ := Flt.le_yes h3
  refine ⟨⟨h1, ?_⟩, ⟨?_, h3⟩, b⟩
  · rw [Flt.t_le n1 n4]
    exact decide_eq_true (Int.le_trans b c)
  · rw [Flt.t_ge n3 n2]
    exact decide_eq_true (Int.le_trans a b)

set_option maxRecDepth 100000 in
set_option maxHeartbeats 32000000 in
theorem walk (ob : Option Addr) (B : List Nat) (cb : Nat) (ox : Option Addr) (X : List Nat) (cx : Nat) (oy : Option Addr) (Y : List Nat) (cy : Nat) (pa pb : Nat) (w : World)
    (hB : U64s w ob B) (hX : U64s w ox X) (hY : U64s w oy Y) (lB : B.length ≤ 2000000) (vB : ∀ i, B.getD i 0 < 2 ^ 64) (vX : ∀ i, X.getD i 0 < 2 ^ 64) (vY : ∀ i, Y.getD i 0 < 2 ^ 64) :
    Calls Try.prog 6 #[.slice ob B.length cb, .slice ox X.length cx, .slice oy Y.length cy, .int .u64 (pa : Int), .int .u64 (pb : Int)] w fun e w' => e = .returned (.bool true) ∧ Below w.heap.size w w' := by
  have HI := Lib.hid (And.intro hB (And.intro hX (And.intro hY (And.intro vB (And.intro vX vY)))))
  clear hB hX hY vB vX vY
  go_enter Try.func6, Try.ntmps6
  go_wp2_with fail
  refine (begun_any w).mono ?_
  rintro e w1 ⟨rfl, hb1⟩
  have H1 := Lib.hid hb1
  clear hb1
  by_cases hx3 : 300 < X.length
  · generalize X.length = nx at *
    generalize Y.length = ny at *
    generalize B.length = nb at *
    go_wp2_with fail
    go_ret
    exact ⟨rfl, H1.out⟩
  by_cases hy3 : 300 < Y.length
  · generalize X.length = nx at *
    generalize Y.length = ny at *
    generalize B.length = nb at *
    go_wp2_with fail
    go_ret
    exact ⟨rfl, H1.out⟩
  have HO := Lib.hid (fun (w' : World) (k : Below w.heap.size w w') => And.intro (of_any ob B cb w' (u64_keep HI.out.1 k) lB) (And.intro (of_any ox X cx w' (u64_keep HI.out.2.1 k) (by omega)) (of_any oy Y cy w' (u64_keep HI.out.2.2.1 k) (by omega))))
  generalize hnx : X.length = nx at *
  generalize hny : Y.length = ny at *
  generalize hnb : B.length = nb at *
  have HL := Lib.hid (And.intro hnx (And.intro hny hnb))
  clear hnx hny hnb
  go_wp2_with fail
  refine (HO.out _ H1.out).1.mono ?_
  rintro e w2 ⟨v1, rfl, hr1, hb2⟩
  have H2 := Lib.hid (And.intro (H1.out.trans (hb2.mono H1.out.size)) hr1)
  clear hr1 hb2
  go_wp2_with fail
  refine (HO.out _ H2.out.1).2.1.mono ?_
  rintro e w3 ⟨v2, rfl, hr2, hb3⟩
  have H3 := Lib.hid (And.intro (H2.out.1.trans (hb3.mono H2.out.1.size)) (And.intro hr2 hb3))
  clear hr2 hb3
  go_wp2_with fail
  refine (HO.out _ H3.out.1).2.2.mono ?_
  rintro e w4 ⟨v3, rfl, hr3, hb4⟩
  obtain ⟨o1, c1, rfl, f1, n1, -⟩ := fls_of (us := B) (by have := H2.out.2; exact this)
  obtain ⟨o2, c2, rfl, f2, n2, -⟩ := fls_of (us := X) (by have := H3.out.2.1; exact this)
  obtain ⟨o3, c3, rfl, f3, n3, -⟩ := fls_of (us := Y) hr3
  have H4 := Lib.hid (And.intro (H3.out.1.trans (hb4.mono H3.out.1.size)) (And.intro (fls_keep (fls_keep f1 H3.out.2.2) hb4) (And.intro (fls_keep f2 hb4) (And.intro f3 (And.intro n1 (And.intro n2 n3))))))
  clear hr3 hb4 f1 f2 f3 n1 n2 n3 H2 H3
  rw [HL.out.1, HL.out.2.1, HL.out.2.2]
  by_cases h64 : 64 < nb
  · go_wp2_with fail
    refine (gnew_many o1 nb c1 w4 h64).mono ?_
    rintro e w' ⟨rfl, rfl⟩
    go_wp2_with fail
    go_ret
    exact ⟨rfl, H4.out.1⟩
  by_cases hok : okB B
  · skip
    have HN : RowKit.Hid (∀ W, Below w4.heap.size w4 W → Calls Try.prog 15 #[.slice o1 nb c1] W fun e w' => ∃ g ob cb c, e = .returned (.tuple #[.pointer (some ⟨g, 0, none⟩), .int .i64 0]) ∧ GAt w' g W.heap.size ob cb c (newG B) ∧ Below W.heap.size W w') := Lib.hid fun W k => by
      have := gnew_ok o1 B c1 W (fls_keep H4.out.2.1 k) H4.out.2.2.2.2.1 (by rw [HL.out.2.2]; omega) HI.out.2.2.2.1 hok
      rw [HL.out.2.2] at this
      exact this
    go_wp2_with fail
    refine (HN.out w4 (Below.refl _ _)).mono ?_
    rintro e w5 ⟨g1, q1, d1, e1, rfl, hg1, hb5⟩
    have H5 := Lib.hid (And.intro hg1 hb5)
    clear hg1 hb5
    go_wp2_with fail
    refine (HN.out w5 H5.out.2).mono ?_
    rintro e w6 ⟨g2, q2, d2, e2, rfl, hg2, hb6⟩
    have H6 := Lib.hid (And.intro hg2 (And.intro hb6 (H5.out.2.trans (hb6.mono H5.out.2.size))))
    clear hg2 hb6
    go_wp2_with fail
    refine (HN.out w6 H6.out.2.2).mono ?_
    rintro e w7 ⟨g3, q3, d3, e3, rfl, hg3, hb7⟩
    have HS : RowKit.Hid (St ⟨g1, w4.heap.size, q1, d1, e1⟩ ⟨g2, w5.heap.size, q2, d2, e2⟩ ⟨g3, w6.heap.size, q3, d3, e3⟩ nb w4 w7 (newG B) (newG B) (newG B)) := Lib.hid (by
      have z5 := H5.out.2.size
      have z6 := H6.out.2.1.size
      have z7 := hb7.size
      have w1 := lt_of_block H5.out.1.row
      have w2 := lt_of_block H5.out.1.cls
      have w3 := lt_of_block H6.out.1.row
      have w4' := lt_of_block H6.out.1.cls
      have t1 := Pl.top (p := ⟨g1, w4.heap.size, q1, d1, e1⟩) H5.out.1
      have t2 := Pl.top (p := ⟨g2, w5.heap.size, q2, d2, e2⟩) H6.out.1
      have hl : (newG B).bs.length = nb := HL.out.2.2
      rw [hl] at t1 t2
      exact ⟨(H5.out.1.keep H6.out.2.1).keep hb7, H6.out.1.keep hb7, hg3, hl, hl, hl, ⟨w1, w2, fun h0 a ha => t1 a ha h0⟩, ⟨by show g1 < w6.heap.size; omega, by show e1 < w6.heap.size; omega, fun h0 a ha => Nat.lt_of_lt_of_le (t1 a ha h0) z6⟩, ⟨w3, w4', fun h0 a ha => t2 a ha h0⟩, ⟨Nat.le_refl _, z5, Nat.le_trans z5 z6⟩, H6.out.2.2.trans (hb7.mono H6.out.2.2.size)⟩)
    clear hg3 hb7 H5 H6 HN HO
    go_wp2_with fail
    go_loopg [20] nx (fun gq i wr => ∃ k : Nat, ∃ u : G, gq + k = nx ∧ i = .int .i64 (k : Int) ∧ Hid (St ⟨g1, w4.heap.size, q1, d1, e1⟩ ⟨g2, w5.heap.size, q2, d2, e2⟩ ⟨g3, w6.heap.size, q3, d3, e3⟩ nb w4 wr u (newG B) (newG B) ∧ TG u B (X.take k)))
    case atStart => exact ⟨0, newG B, by omega, rfl, HS.out, by rw [List.take_zero]; exact tg_new B⟩
    case round =>
      obtain ⟨k, u1, hgk, rfl, HK⟩ := hrel
      by_cases hk : k < nx
      · obtain ⟨ad, rfl, hcell⟩ := (fls_keep H4.out.2.2.1 HK.out.1.kept) k (by rw [HL.out.1]; exact hk)
        have hT := HK.out.2.put (X.getD k 0)
        rw [← take_succ X k (by rw [HL.out.1]; exact hk)] at hT
        have HP := Lib.hid (And.intro (put_any HK.out.1.hx (calm_tg HK.out.2 (by rw [List.length_take]; omega) (by rw [HL.out.2.2]; omega)) (X.getD k 0) (HI.out.2.2.2.2.1 k)) hT)
        clear hT
        generalize X.getD k 0 = v at *
        go_wp2_with fail
        refine HP.out.1.mono ?_
        rintro e wn ⟨rfl, hgn, kn⟩
        have HQ := Lib.hid (HK.out.1.put1 hgn (by rw [HP.out.2.hb]; exact HL.out.2.2) kn)
        clear hgn kn
        go_wp2_with fail
        go_roundg (gk - 1)
        case measure => omega
        case rel => exact ⟨k + 1, _, by omega, rfl, HQ.out, HP.out.2⟩
      · have hkn : k = nx := by omega
        have hT := HK.out.2
        rw [List.take_of_length_le (by rw [HL.out.1]; omega)] at hT
        have HT1 := Lib.hid hT
        have HS := Lib.hid HK.out.1
        clear hT HK
        rw [hkn]
        clear hkn hgk hk
        go_wp2_with fail
        go_loopg [21] ny (fun gq i wr => ∃ k : Nat, ∃ u : G, gq + k = ny ∧ i = .int .i64 (k : Int) ∧ Hid (St ⟨g1, w4.heap.size, q1, d1, e1⟩ ⟨g2, w5.heap.size, q2, d2, e2⟩ ⟨g3, w6.heap.size, q3, d3, e3⟩ nb w4 wr u1 u (newG B) ∧ TG u B (Y.take k)))
        case atStart => exact ⟨0, newG B, by omega, rfl, HS.out, by rw [List.take_zero]; exact tg_new B⟩
        case round =>
          obtain ⟨k, u2, hgk, rfl, HK⟩ := hrel
          by_cases hk : k < ny
          · obtain ⟨ad, rfl, hcell⟩ := (fls_keep H4.out.2.2.2.1 HK.out.1.kept) k (by rw [HL.out.2.1]; exact hk)
            have hT := HK.out.2.put (Y.getD k 0)
            rw [← take_succ Y k (by rw [HL.out.2.1]; exact hk)] at hT
            have HP := Lib.hid (And.intro (put_any HK.out.1.hy (calm_tg HK.out.2 (by rw [List.length_take]; omega) (by rw [HL.out.2.2]; omega)) (Y.getD k 0) (HI.out.2.2.2.2.2 k)) hT)
            clear hT
            generalize Y.getD k 0 = v at *
            go_wp2_with fail
            refine HP.out.1.mono ?_
            rintro e wn ⟨rfl, hgn, kn⟩
            have HQ := Lib.hid (HK.out.1.put2 hgn (by rw [HP.out.2.hb]; exact HL.out.2.2) kn)
            clear hgn kn
            go_wp2_with fail
            go_roundg (gk - 1)
            case measure => omega
            case rel => exact ⟨k + 1, _, by omega, rfl, HQ.out, HP.out.2⟩
          · have hkn : k = ny := by omega
            have hT := HK.out.2
            rw [List.take_of_length_le (by rw [HL.out.2.1]; omega)] at hT
            have HT2 := Lib.hid hT
            have HS := Lib.hid HK.out.1
            clear hT HK
            rw [hkn]
            clear hkn hgk hk
            go_wp2_with fail
            go_loopg [22] ny (fun gq i wr => ∃ k : Nat, ∃ u : G, gq + k = ny ∧ i = .int .i64 (((ny : Nat) : Int) - 1 - (k : Int)) ∧ Hid (St ⟨g1, w4.heap.size, q1, d1, e1⟩ ⟨g2, w5.heap.size, q2, d2, e2⟩ ⟨g3, w6.heap.size, q3, d3, e3⟩ nb w4 wr u1 u2 u ∧ TG u B (Y.reverse.take k)))
            case atStart => exact ⟨0, (newG B), by omega, by congr 1; omega, HS.out, by rw [List.take_zero]; exact tg_new B⟩
            case round =>
              obtain ⟨k, u3, hgk, rfl, HK⟩ := hrel
              by_cases hk : k < ny
              · obtain ⟨j, hj⟩ : ∃ j : Nat, ny - 1 - k = j := ⟨_, rfl⟩
                have hji : ((ny : Nat) : Int) - 1 - (k : Int) = (j : Int) := by omega
                obtain ⟨ad, rfl, hcell⟩ := (fls_keep H4.out.2.2.2.1 HK.out.1.kept) j (by rw [HL.out.2.1]; omega)
                have hT := HK.out.2.put (Y.getD j 0)
                have hrv : Y.reverse.getD k 0 = Y.getD j 0 := by
                  have h := rev_getD Y k (by rw [HL.out.2.1]; exact hk)
                  rw [HL.out.2.1, hj] at h
                  exact h
                have hte : Y.reverse.take (k + 1) = Y.reverse.take k ++ [Y.getD j 0] := by rw [take_succ Y.reverse k (by rw [List.length_reverse, HL.out.2.1]; exact hk), hrv]
                rw [← hte] at hT
                have HP := Lib.hid (And.intro (put_any HK.out.1.hz (calm_tg HK.out.2 (by have a1 := HL.out.1; have a2 := HL.out.2.1; simp only [List.length_take, List.length_reverse]; omega) (by rw [HL.out.2.2]; omega)) (Y.getD j 0) (HI.out.2.2.2.2.2 j)) hT)
                clear hT hrv hte
                generalize Y.getD j 0 = v at *
                rw [hji]
                go_wp2_with fail
                refine HP.out.1.mono ?_
                rintro e wn ⟨rfl, hgn, kn⟩
                have HQ := Lib.hid (HK.out.1.put3 hgn (by rw [HP.out.2.hb]; exact HL.out.2.2) kn)
                clear hgn kn
                go_wp2_with fail
                go_roundg (gk - 1)
                case measure => omega
                case rel => exact ⟨k + 1, _, by omega, by congr 1; omega, HQ.out, HP.out.2⟩
              · have hkn : k = ny := by omega
                have hT := HK.out.2
                rw [List.take_of_length_le (by rw [List.length_reverse, HL.out.2.1]; omega)] at hT
                have HT3 := Lib.hid hT
                have HS := Lib.hid HK.out.1
                clear hT HK
                rw [hkn]
                clear hkn hgk hk
                go_wp2_with fail
                go_loopg [23] nx (fun gq i wr => ∃ k : Nat, ∃ u : G, gq + k = nx ∧ i = .int .i64 (((nx : Nat) : Int) - 1 - (k : Int)) ∧ Hid (St ⟨g1, w4.heap.size, q1, d1, e1⟩ ⟨g2, w5.heap.size, q2, d2, e2⟩ ⟨g3, w6.heap.size, q3, d3, e3⟩ nb w4 wr u1 u2 u ∧ TG u B (Y.reverse ++ X.reverse.take k)))
                case atStart => exact ⟨0, u3, by omega, by congr 1; omega, HS.out, by rw [List.take_zero, List.append_nil]; exact HT3.out⟩
                case round =>
                  obtain ⟨k, u4, hgk, rfl, HK⟩ := hrel
                  by_cases hk : k < nx
                  · obtain ⟨j, hj⟩ : ∃ j : Nat, nx - 1 - k = j := ⟨_, rfl⟩
                    have hji : ((nx : Nat) : Int) - 1 - (k : Int) = (j : Int) := by omega
                    obtain ⟨ad, rfl, hcell⟩ := (fls_keep H4.out.2.2.1 HK.out.1.kept) j (by rw [HL.out.1]; omega)
                    have hT := HK.out.2.put (X.getD j 0)
                    have hrv : X.reverse.getD k 0 = X.getD j 0 := by
                      have h := rev_getD X k (by rw [HL.out.1]; exact hk)
                      rw [HL.out.1, hj] at h
                      exact h
                    have hte : X.reverse.take (k + 1) = X.reverse.take k ++ [X.getD j 0] := by rw [take_succ X.reverse k (by rw [List.length_reverse, HL.out.1]; exact hk), hrv]
                    rw [List.append_assoc, ← hte] at hT
                    have HP := Lib.hid (And.intro (put_any HK.out.1.hz (calm_tg HK.out.2 (by have a1 := HL.out.1; have a2 := HL.out.2.1; simp only [List.length_append, List.length_take, List.length_reverse]; omega) (by rw [HL.out.2.2]; omega)) (X.getD j 0) (HI.out.2.2.2.2.1 j)) hT)
                    clear hT hrv hte
                    generalize X.getD j 0 = v at *
                    rw [hji]
                    go_wp2_with fail
                    refine HP.out.1.mono ?_
                    rintro e wn ⟨rfl, hgn, kn⟩
                    have HQ := Lib.hid (HK.out.1.put3 hgn (by rw [HP.out.2.hb]; exact HL.out.2.2) kn)
                    clear hgn kn
                    go_wp2_with fail
                    go_roundg (gk - 1)
                    case measure => omega
                    case rel => exact ⟨k + 1, _, by omega, by congr 1; omega, HQ.out, HP.out.2⟩
                  · have hkn : k = nx := by omega
                    have hT := HK.out.2
                    rw [List.take_of_length_le (by rw [List.length_reverse, HL.out.1]; omega)] at hT
                    have HT3 := Lib.hid hT
                    have HS := Lib.hid HK.out.1
                    clear hT HK
                    rw [hkn]
                    clear hkn hgk hk
                    have nX := HL.out.1
                    have nY := HL.out.2.1
                    have nB := HL.out.2.2
                    have hc1 := calm_tg HT1.out (by omega) (by omega)
                    have hc2 := calm_tg HT2.out (by omega) (by omega)
                    have hbs : alikeB u1.bs u2.bs = true := by rw [HT1.out.hb, HT2.out.hb]; exact alike_refl B
                    have HM := Lib.hid (merge_ok HS.out.hx HS.out.hy hc1 hc2 (by rw [HT2.out.len]; omega) hbs (by have := HS.out.pq.1; have := HS.out.hy.gb; omega) (by have := HS.out.pq.2.1; have := HS.out.hy.gb; omega) (by have := HS.out.pq.1; have := HS.out.hy.cbase; omega) (by have := HS.out.pq.2.1; have := HS.out.hy.cbase; omega))
                    have hT := HT1.out.merge HT2.out
                    clear hc1 hc2 hbs nX nY nB
                    generalize mergeG u1 u2 = m at *
                    go_wp2_with fail
                    refine HM.out.mono ?_
                    rintro e wm ⟨rfl, hgm, km⟩
                    have HS2 := Lib.hid (HS.out.put1 hgm (by rw [hT.hb]; exact HL.out.2.2) km)
                    have hU := hT.unique HT3.out (by rw [← List.reverse_append]; exact (List.reverse_perm _).symm) (fun v hv => by
                      rcases List.mem_append.1 hv with h | h
                      · obtain ⟨i, hi, rfl⟩ := List.mem_iff_getElem.1 h
                        have := HI.out.2.2.2.2.1 i
                        rwa [List.getD_eq_getElem?_getD, List.getElem?_eq_getElem hi] at this
                      · obtain ⟨i, hi, rfl⟩ := List.mem_iff_getElem.1 h
                        have := HI.out.2.2.2.2.2 i
                        rwa [List.getD_eq_getElem?_getD, List.getElem?_eq_getElem hi] at this)
                    have HU := Lib.hid hU
                    have HT := Lib.hid hT
                    clear hU hT hgm km HM HS HT1 HT2
                    have hml : m.cs.length = nb + 1 := by rw [HT.out.len, HL.out.2.2]
                    have hmz : u4.cs.length = nb + 1 := by rw [← HU.out.1]; exact hml
                    go_wp2_with fail
                    refine (cells_any HS2.out.hx (by rw [hml]; omega)).mono ?_
                    rintro e wa ⟨va, rfl, hra, hba⟩
                    obtain ⟨ba, ca, rfl, -, hrowa⟩ := rowi_of hra (by rw [hml]; omega)
                    have HS3 := Lib.hid (And.intro (HS2.out.grow hba) hrowa)
                    clear hra hrowa hba HS2
                    go_wp2_with fail
                    refine (cells_any HS3.out.1.hz (by rw [hmz]; omega)).mono ?_
                    rintro e wb ⟨vb, rfl, hrb, hbb⟩
                    obtain ⟨bb, cb', rfl, -, hrowb⟩ := rowi_of hrb (by rw [hmz]; omega)
                    have hna : Nums wb ba m.cs := fun i hi => by
                      have h := HS3.out.2 i _ ((Array.getElem?_toList (xs := i64s m.cs)).trans (i64s_get m.cs i hi))
                      exact (hbb.cell (cell_in h)).trans h
                    have hnb : Nums wb bb m.cs := fun i hi => by
                      have h := hrowb i _ ((Array.getElem?_toList (xs := i64s u4.cs)).trans (i64s_get u4.cs i (by rw [← HU.out.1]; exact hi)))
                      rw [← HU.out.1] at h
                      exact h
                    have hcq := cells_eq ba bb m.cs ca cb' wb hna hnb (by rw [hml]; omega)
                    rw [hml] at hcq
                    have HCQ := Lib.hid hcq
                    have HS4 := Lib.hid (HS3.out.1.grow hbb)
                    clear hrb hrowb hbb hna hnb hcq HS3
                    rw [hmz]
                    go_wp2_with fail
                    refine HCQ.out.mono ?_
                    rintro e wc ⟨rfl, hbc⟩
                    have HS5 := Lib.hid (HS4.out.grow hbc)
                    clear hbc HCQ HS4
                    go_wp2_with fail
                    refine (look_any HS5.out.hx).mono ?_
                    rintro e wd ⟨rfl, hbd⟩
                    have HS6 := Lib.hid (HS5.out.grow hbd)
                    clear hbd HS5
                    go_wp2_with fail
                    refine (look_any HS6.out.hz).mono ?_
                    rintro e we ⟨rfl, hbe⟩
                    have HS7 := Lib.hid (HS6.out.grow hbe)
                    clear hbe HS6
                    unfold lcells
                    go_wp2_with fail
                    have kW : Below we.heap.size we ((we.alloc (.cells (lcells m) 55)).alloc (.cells (lcells u4) 55)) := ((Below.refl _ we).alloc (Nat.le_refl _) _).alloc (by simp) _
                    have HS8 := Lib.hid (HS7.out.grow kW)
                    have hkb : ((we.alloc (.cells (lcells m) 55)).alloc (.cells (lcells u4) 55)).heap[we.heap.size]? = some (.cells (lcells m) 55 (0, 0)) := blk_alloc (blk_new we _) _
                    have hlb : ((we.alloc (.cells (lcells m) 55)).alloc (.cells (lcells u4) 55)).heap[we.heap.size + 1]? = some (.cells (lcells u4) 55 (0, 0)) := blk_new_at (we.alloc _) _ (by simp)
                    refine (cells_any HS8.out.hx (by rw [hml]; omega)).mono ?_
                    rintro e wf ⟨vf, rfl, hrf, hbf⟩
                    obtain ⟨bf, cf, rfl, -, hrowf⟩ := rowi_of hrf (by rw [hml]; omega)
                    have hkf := (hbf.block _ (by simp; omega)).trans hkb
                    have hlf := (hbf.block _ (by simp)).trans hlb
                    have k0 : wf.cell? ⟨we.heap.size, 0, none⟩ = some (.int .i64 m.n) := blk_cell hkf 0
                    have k1 : wf.cell? ⟨we.heap.size, 1, none⟩ = some (.int .i64 m.nn) := blk_cell hkf 1
                    have k2 : wf.cell? ⟨we.heap.size, 2, none⟩ = some (.float .f64 m.le) := blk_cell hkf 2
                    have k3 : wf.cell? ⟨we.heap.size, 3, none⟩ = some (.float .f64 m.gr) := blk_cell hkf 3
                    have l0 : wf.cell? ⟨we.heap.size + 1, 0, none⟩ = some (.int .i64 m.n) := (blk_cell hlf 0).trans (by rw [HU.out.2.1]; rfl)
                    have l1 : wf.cell? ⟨we.heap.size + 1, 1, none⟩ = some (.int .i64 m.nn) := (blk_cell hlf 1).trans (by rw [HU.out.2.2.1]; rfl)
                    have l2 : wf.cell? ⟨we.heap.size + 1, 2, none⟩ = some (.float .f64 m.le) := (blk_cell hlf 2).trans (by rw [HU.out.2.2.2.1]; rfl)
                    have l3 : wf.cell? ⟨we.heap.size + 1, 3, none⟩ = some (.float .f64 m.gr) := (blk_cell hlf 3).trans (by rw [HU.out.2.2.2.2]; rfl)
                    have HS9 := Lib.hid (And.intro (HS8.out.grow hbf) hrowf)
                    clear kW hkb hlb hkf hlf hrf hrowf hbf HS7 HS8 hmz
                    go_wp2_with fail
                    go_loopg [26, 28] (nb + 1) (fun gq a i wr => ∃ k : Nat, gq + k = nb + 1 ∧ i = .int .i64 (k : Int) ∧ a = .int .i64 ((m.cs.take k).sum) ∧ wr = wf)
                    case atStart => exact ⟨0, by omega, rfl, rfl, rfl⟩
                    case round =>
                      obtain ⟨k, hgk, rfl, rfl, rfl⟩ := hrel
                      by_cases hk : k < nb + 1
                      · have hci := HS9.out.2 k _ ((Array.getElem?_toList (xs := i64s m.cs)).trans (i64s_get m.cs k (by rw [hml]; exact hk)))
                        have hts := take_sum_succ m.cs k (by rw [hml]; exact hk)
                        have hm1 := take_sum_mono m.cs HT.out.nonneg 0 k (by omega)
                        have hm2 := take_sum_mono m.cs HT.out.nonneg (k + 1) (nb + 1) (by omega)
                        have hfull : m.cs.take (nb + 1) = m.cs := List.take_of_length_le (by rw [hml]; omega)
                        rw [hfull, HT.out.sum, HT.out.n] at hm2
                        have hm3 : (live (X ++ Y)).length ≤ (X ++ Y).length := List.length_filter_le ..
                        rw [List.length_append, HL.out.1, HL.out.2.1] at hm3
                        rw [List.take_zero, List.sum_nil] at hm1
                        have hm4 := take_sum_mono m.cs HT.out.nonneg k (k + 1) (by omega)
                        rw [hts] at hm2 hm4
                        have HTS := Lib.hid hts
                        clear hts
                        generalize (m.cs.take k).sum = sk at *
                        generalize m.cs.getD k 0 = v at *
                        go_wp2_with fail
                        go_roundg (gk - 1)
                        case measure => omega
                        case rel => exact ⟨k + 1, by omega, rfl, by rw [HTS.out], rfl⟩
                      · have hsum : (m.cs.take k).sum = m.n := by rw [List.take_of_length_le (by rw [hml]; omega)]; exact HT.out.sum
                        have hcount : m.n + m.nn = (nx : Int) + ny := by
                          have a := live_count (X ++ Y)
                          rw [List.length_append, HL.out.1, HL.out.2.1] at a
                          rw [HT.out.n, HT.out.nn]
                          omega
                        have hmn0 : 0 ≤ m.n := by rw [HT.out.n]; omega
                        have hmn1 : m.n ≤ 600 := by
                          have a := live_count (X ++ Y)
                          rw [List.length_append, HL.out.1, HL.out.2.1] at a
                          rw [HT.out.n]
                          omega
                        have hmn2 : 0 ≤ m.nn := by rw [HT.out.nn]; omega
                        rw [hsum]
                        have HB1 := Lib.hid (bits_any m.le m.le)
                        have HB2 := Lib.hid (bits_any m.gr m.gr)
                        rw [decide_eq_true rfl] at HB1 HB2
                        clear hsum
                        obtain ⟨mn, hmn⟩ : ∃ mn : Nat, m.n = (mn : Int) := ⟨m.n.toNat, by omega⟩
                        generalize hme : m.n = mi at *
                        subst hmn
                        go_wp2_with fail
                        refine (HB1.out _).mono ?_
                        rintro e w' ⟨rfl, rfl⟩
                        go_wp2_with fail
                        refine (HB2.out _).mono ?_
                        rintro e w' ⟨rfl, rfl⟩
                        have e1 := ext_from
                        have HFIN := Lib.hid (H1.out.trans (Below.refl w1.heap.size w1 |>.mono H1.out.size))
                        have HBEL := Lib.hid (H4.out.1.trans (HS9.out.1.kept.mono H4.out.1.size))
                        generalize m.nn = mnn at *
                        clear HB1 HB2 HFIN
                        rcases hc1 : (FloatKind.f64.format.order pa 0 == some .gt || FloatKind.f64.format.order pa 0 == some .eq) with _ | _
                        · go_wp2_with fail
                          go_ret
                          exact ⟨rfl, HBEL.out⟩
                        · rcases hc2 : (FloatKind.f64.format.order pb pa == some .gt || FloatKind.f64.format.order pb pa == some .eq) with _ | _
                          · go_wp2_with fail
                            go_ret
                            exact ⟨rfl, HBEL.out⟩
                          · rcases hc3 : (FloatKind.f64.format.order pb 4607182418800017408 == some .lt || FloatKind.f64.format.order pb 4607182418800017408 == some .eq) with _ | _
                            · go_wp2_with fail
                              go_ret
                              exact ⟨rfl, HBEL.out⟩
                            · by_cases hmz : mn = 0
                              · subst hmz
                                go_wp2_with fail
                                go_ret
                                exact ⟨rfl, HBEL.out⟩
                              · have hz0 : ((mn : Int) == 0) = false := by simpa using hmz
                                have HPQ := part_pair hc1 hc2 hc3
                                have hlen : (X ++ Y).length ≤ 1000 := by rw [List.length_append, HL.out.1, HL.out.2.1]; omega
                                have hcm := calm_tg HT.out hlen (by rw [HL.out.2.2]; omega)
                                obtain ⟨m1, m2, a1, a2, a3, a4, a5, a6, a7, a8, a9⟩ := rank_rise HPQ.1 HPQ.2.1 HPQ.2.2 (by omega : 1 ≤ mn) (by omega)
                                have HQ1 := Lib.hid (quant_ok HS9.out.1.hx hcm pa mn m1 hme (by omega) _ HPQ.1.ge HPQ.1.le a1 a3 a5 rfl a7 (Int.le_trans a8 a9))
                                have HQ2 := Lib.hid (quant_ok HS9.out.1.hx hcm pb mn m2 hme (by omega) _ HPQ.2.1.ge HPQ.2.1.le a2 a4 a6 rfl (Int.le_trans a7 a8) a9)
                                have hqr := quant_rise HT.out (rises_of hok) _ _ a8 (by rw [hme]; exact a9)
                                have hql := qf_lt HT.out HS9.out.1.hx.lt HS9.out.1.hx.gr64
                                have HC := Lib.hid (cmp3_any _ _ (hql (rankV m1 mn)) (hql (rankV m2 mn)))
                                have hle := (cmp_le _ _).2 hqr
                                clear hcm a1 a2 a3 a4 a5 a6 a7 a8 a9 hqr hql HPQ hlen
                                generalize qf m.bs m.cs (rankV m1 mn) m.gr = t1 at *
                                generalize qf m.bs m.cs (rankV m2 mn) m.gr = t2 at *
                                generalize cmpF t1 t2 = z at *
                                have hzd : decide (z ≤ 0) = true := by simpa using hle
                                go_wp2_with fail
                                refine HQ1.out.mono ?_
                                rintro e w' ⟨rfl, rfl⟩
                                go_wp2_with fail
                                refine HQ2.out.mono ?_
                                rintro e w' ⟨rfl, rfl⟩
                                go_wp2_with fail
                                refine (HC.out _).mono ?_
                                rintro e w' ⟨rfl, rfl⟩
                                go_wp2_with fail
                                go_ret
                                exact ⟨rfl, HBEL.out⟩
  · have HN := Lib.hid (gnew_bad o1 B c1 w4 H4.out.2.1 (by rw [HL.out.2.2]; omega) HI.out.2.2.2.1 hok)
    rw [HL.out.2.2] at HN
    go_wp2_with fail
    refine HN.out.mono ?_
    rintro e w' ⟨rfl, rfl⟩
    go_wp2_with fail
    go_ret
    exact ⟨rfl, H4.out.1⟩
end Go.Proofs.Ytdkcnbcjjlaidaa.gaugeCells
