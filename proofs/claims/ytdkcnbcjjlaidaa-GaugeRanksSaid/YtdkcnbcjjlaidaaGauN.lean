/- GaugeRanks: the walk. By an AI agent. -/
import Derived.Test.YtdkcnbcjjlaidaaGauM
import Derived.OwnWalk
import Derived.Deep.DeepMust
namespace Go.Proofs.Ytdkcnbcjjlaidaa.gaugeRanks
open Go.ChangeShapes Go.WideShapes Go.ChangeAt Go.RowKit
set_option linter.unusedVariables false

/-- A slice of bytes. -/
def Bys (w : World) (o : Option Addr) (B : List Nat) : Prop := ∀ i, i < B.length → ∃ ad, o = some ad ∧ w.cell? (ad.add i) = some (.int .u8 (B.getD i 0 : Nat))
theorem bys_keep {w w' : World} {o : Option Addr} {B : List Nat} (h : Bys w o B) (k : Below w.heap.size w w') : Bys w' o B := by
  intro i hi
  obtain ⟨ad, e, hc⟩ := h i hi
  exact ⟨ad, e, (k.cell (by exact cell_in hc)).trans hc⟩

theorem take_b64 (k : Nat) (h : k < 64) : B64.take (k + 1) = B64.take k ++ [F k] := by
  rw [List.take_succ_eq_append_getElem (by rw [b64_len]; exact h)]
  congr 2
  have := b64_get k h
  rw [List.getD_eq_getElem?_getD, List.getElem?_eq_getElem (by rw [b64_len]; exact h)] at this
  exact this

/-- The numbers told. -/
def vsOf (B : List Nat) : List Nat := B.map (· % 64)
theorem vs_len (B : List Nat) : (vsOf B).length = B.length := by simp [vsOf]
theorem vs_take (B : List Nat) (k : Nat) (h : k < B.length) : (vsOf B).take (k + 1) = (vsOf B).take k ++ [B.getD k 0 % 64] := by
  rw [List.take_succ_eq_append_getElem (by rw [vs_len]; exact h)]
  congr 2
  simp [vsOf, List.getD_eq_getElem?_getD, h]
theorem vs_all (B : List Nat) : ∀ v ∈ vsOf B, v < 64 := by
  intro v hv
  obtain ⟨x, -, rfl⟩ := List.mem_map.1 hv
  exact Nat.mod_lt _ (by omega)

theorem mul_lt (v t : Nat) : (((v : Int) * Flt.U < (t : Int) * Flt.U)) ↔ v < t := by
  have hU := Flt.U_pos
  constructor
  · intro h
    have := Int.lt_of_mul_lt_mul_right h (by omega)
    omega
  · intro h
    exact Int.mul_lt_mul_of_pos_right (by omega) (by omega)
theorem F_lt {v t : Nat} (hv : v ≤ 2 ^ 53) (ht : t ≤ 2 ^ 53) : (FloatKind.f64.format.order (F v) (F t) == some .lt) = decide (v < t) := by
  have a := F_fin hv
  have b := F_fin ht
  rw [Flt.t_lt a.1.not_nan b.1.not_nan, a.2.1, b.2.1]
  exact decide_eq_decide.2 (mul_lt v t)
theorem F_le {v t : Nat} (hv : v ≤ 2 ^ 53) (ht : t ≤ 2 ^ 53) : (FloatKind.f64.format.order (F v) (F t) == some .lt || FloatKind.f64.format.order (F v) (F t) == some .eq) = decide (v ≤ t) := by
  have a := F_fin hv
  have b := F_fin ht
  rw [Flt.t_le a.1.not_nan b.1.not_nan, a.2.1, b.2.1]
  refine decide_eq_decide.2 ?_
  rw [← Int.not_lt, mul_lt, Nat.not_lt]

theorem F_eq {v t : Nat} (hv : v ≤ 2 ^ 53) (ht : t ≤ 2 ^ 53) : (FloatKind.f64.format.order (F v) (F t) == some .eq) = decide (v = t) := by
  have a := F_fin hv
  have b := F_fin ht
  rw [Flt.t_eq a.1.not_nan b.1.not_nan, a.2.1, b.2.1]
  refine decide_eq_decide.2 ?_
  have h1 := mul_lt v t
  have h2 := mul_lt t v
  constructor
  · intro h
    rw [h] at h1 h2
    omega
  · rintro rfl
    rfl

set_option maxRecDepth 100000 in
set_option maxHeartbeats 16000000 in
theorem walk (o : Option Addr) (B : List Nat) (cap p : Nat) (w : World) (hB : Bys w o B) (hp : p ≤ 65535) :
    Calls Try.prog 4 #[.slice o B.length cap, .int .u16 (p : Int)] w fun e w' => e = .returned (.bool true) ∧ Below w.heap.size w w' := by
  obtain ⟨i0, hi, hz0, hz1, hz2⟩ := info_parts info_f64
  have HN := Lib.hid hB
  clear hB
  generalize hbl : B.length = n at *
  have HL := Lib.hid hbl
  clear hbl
  go_enter Try.func4, Try.ntmps4
  go_wp2_with fail
  refine (begun_any w).mono ?_
  rintro e w1 ⟨rfl, hb1⟩
  have H1 := Lib.hid hb1
  clear hb1
  go_wp2_with fail
  go_loopg [5, 6] 64 (fun g v i wr => ∃ k : Nat, g + k = 64 ∧ i = .int .i64 (k : Int) ∧ Hid (wr.ownsRow w.heap.size 24 1 v k (f64s (B64.take k)) ∧ Below w.heap.size w wr))
  case atStart => exact ⟨0, by omega, rfl, ⟨⟨rfl, Or.inl ⟨rfl, rfl⟩⟩, H1.out⟩⟩
  case round =>
    obtain ⟨k, hgk, rfl, HR⟩ := hrel
    by_cases hk : k < 64
    · have HTK := Lib.hid (take_b64 k hk)
      have hcv : floatOfInt .f64 (k : Int) = F k := rfl
      generalize F k = fk at *
      go_wp2_with (at_builtin; go_must (refine wpList_append_one _ rfl (.tmp 22) (.tmp 25) 35 rfl w.heap.size 24 i0 (.float .f64 0) 8 Try.underlying35 hi hz0 hz1 hz2 rfl _ k _ rfl (HR.out.1.alloc _) ⟨wr.heap.size, 0, none⟩ 1 (.float .f64 fk) rfl ?_ rfl ?_ ?_ ?_ ?_))
      · exact cell_one_new _ _ _ 0 _ rfl
      · unfold maxLen; omega
      · omega
      · exact Nat.le_trans HR.out.2.size (by simp)
      · intro g cap1 w2 hown hgr hblk hg
        have HO := Lib.hid hown
        have HB := Lib.hid ((HR.out.2.alloc HR.out.2.size _).grown hgr (Nat.le_trans HR.out.2.size (by simp)) (fun b hb => (HR.out.1.lt b hb).1))
        clear hown hgr hblk
        go_wp2_with fail
        go_roundg (gk - 1)
        case measure => omega
        case rel => exact ⟨k + 1, by omega, rfl, by
          have h := HO.out
          refine ⟨?_, HB.out⟩
          rw [HTK.out]
          simpa [f64s] using h⟩
    · have hkn : k = 64 := by omega
      subst hkn
      have hrow := HR.out.1
      rw [List.take_of_length_le (by rw [b64_len]; exact Nat.le_refl _)] at hrow
      obtain ⟨o1, c1, rfl, hfl, hcc, -⟩ := fls_of hrow
      have HX := Lib.hid (And.intro HR.out.2 (And.intro hfl hcc))
      clear hrow hfl hcc HR
      go_wp2_with fail
      refine (gnew_ok o1 B64 c1 wr HX.out.2.1 HX.out.2.2 (by rw [b64_len]; omega) b64_lt b64_ok).mono ?_
      rintro e w3 ⟨g, ob, cb, c, rfl, hg, hb3⟩
      have hge : w.heap.size ≤ g := Nat.le_trans HX.out.1.size hg.gb
      have hce : w.heap.size ≤ c := Nat.le_trans HX.out.1.size hg.cbase
      have HG := Lib.hid (And.intro hg (HX.out.1.trans (hb3.mono HX.out.1.size)))
      clear hg hb3 HX
      by_cases hn0 : n = 0
      · go_wp2_with fail
        go_ret
        exact ⟨rfl, HG.out.2⟩
      by_cases hn5 : 500 < n
      · go_wp2_with fail
        go_ret
        exact ⟨rfl, HG.out.2⟩
      have e0 : ((n : Int) == 0) = false := by simpa using hn0
      have e0' : (n == 0) = false := by simpa using hn0
      have e5 : decide ((500 : Int) < (n : Int)) = false := by simp; omega
      go_wp2_with fail
      go_loopg [9] n (fun gq i wq => ∃ k : Nat, ∃ x : G, gq + k = n ∧ i = .int .i64 (k : Int) ∧ Hid (GAt wq g wr.heap.size ob cb c x ∧ RG x ((vsOf B).take k) ∧ Below w.heap.size w wq))
      case atStart => exact ⟨0, newG B64, by omega, rfl, ⟨HG.out.1, by rw [List.take_zero]; exact rg_new, HG.out.2⟩⟩
      case round =>
        obtain ⟨k, x, hgk2, rfl, HK⟩ := hrel
        by_cases hk2 : k < n
        · obtain ⟨ad, rfl, hcell⟩ := (bys_keep HN.out HK.out.2.2) k (by rw [HL.out]; exact hk2)
          have hvt := vs_take B k (by rw [HL.out]; exact hk2)
          have hv : B.getD k 0 % 64 < 64 := Nat.mod_lt _ (by omega)
          have hkl : ((vsOf B).take k).length = k := by rw [List.length_take, vs_len, HL.out]; omega
          obtain ⟨d, q, s, hd, hq, hs, hrg⟩ := rg_put HK.out.2.1 (by omega) _ hv
          rw [← hvt] at hrg
          have hcalm := HK.out.2.1.calm (by omega)
          have hF := F_fin (v := B.getD k 0 % 64) (by omega)
          have HP := Lib.hid (And.intro (put_ok HK.out.1 hcalm _ d q s hF.1.not_nan (by have := hF.2.2.2; omega) hd hq hs) hrg)
          clear hd hq hs hrg hcalm hF hvt hkl
          generalize hb0 : B.getD k 0 = b0 at *
          have hcv : floatOfInt .f64 ((b0 : Int) % 64) = F (b0 % 64) := by
            show floatOfInt .f64 _ = floatOfInt .f64 ((b0 % 64 : Nat) : Int)
            congr 1
          generalize F (b0 % 64) = fb at *
          go_wp2_with fail
          refine HP.out.1.mono ?_
          rintro e w4 ⟨rfl, hg4, k4⟩
          have HQ := Lib.hid (And.intro hg4 (HK.out.2.2.trans (k4.below HK.out.2.2.size (fun i hi => by rcases hi with rfl | rfl <;> assumption))))
          clear hg4 k4
          go_wp2_with fail
          go_roundg (gk - 1)
          case measure => omega
          case rel => exact ⟨k + 1, _, by omega, rfl, HQ.out.1, HP.out.2, HQ.out.2⟩
        · have hkn : k = n := by omega
          have hfull : (vsOf B).take k = vsOf B := List.take_of_length_le (by rw [vs_len, HL.out]; omega)
          have hrg := HK.out.2.1
          rw [hfull] at hrg
          have hcalm := hrg.calm (by rw [vs_len, HL.out]; omega)
          obtain ⟨kk, hkk⟩ : ∃ kk : Nat, p % (n + 1) = kk := ⟨_, rfl⟩
          have hkn2 : kk ≤ n := by have := Nat.mod_lt p (show 0 < n + 1 by omega); omega
          have hmod : (p : Int) % ((n : Int) + 1) = (kk : Int) := by rw [← hkk]; simp
          obtain ⟨q, m, r, hq, g1, g2, hm, hmf, hm0, hr, r1, r2, r3, r4⟩ := rank_spec hkn2 (by omega : 1 ≤ n) (by omega : n ≤ 500)
          obtain ⟨t, ht, hqf, ht1, ht2⟩ := qf_spec hrg (vs_all B) r r1 (by rw [vs_len, HL.out]; exact r2)
          have hxn : x.n = (n : Int) := by rw [hrg.n, vs_len, HL.out]
          have HQU := quant_ok HK.out.1 hcalm q n m hxn (by omega) r g1 g2 hm hmf hm0 hr r1 r2
          rw [hqf] at HQU
          have HQU := Lib.hid HQU
          have o1 : ∀ t w, (binOp .quo t (.float .f64 (floatOfInt .f64 (kk : Int))) (.float .f64 (floatOfInt .f64 (n : Int)))).run Try.prog w = .ok (.float .f64 q) w := fun t w => run_float_arith w .quo t .f64 _ _ q hq
          have HT := Lib.hid (And.intro ht1 (And.intro ht2 (And.intro r3 r4)))
          have HW := Lib.hid HK.out.2.2
          clear hrg hcalm hkk hq g1 g2 hm hmf hm0 hr hqf hxn hfull HK ht1 ht2
          go_wp2_with fail
          refine HQU.out.mono ?_
          rintro e w5 ⟨rfl, rfl⟩
          clear HQU
          go_wp2_with fail
          go_loopg [13, 14, 15] n (fun gq a b i wq => ∃ j : Nat, gq + j = n ∧ i = .int .i64 (j : Int) ∧ a = .int .i64 ((((vsOf B).take j).countP (fun v => decide (v < t)) : Nat) : Int) ∧ b = .int .i64 ((((vsOf B).take j).countP (fun v => decide (v < t + 1)) : Nat) : Int) ∧ wq = wr)
          case atStart => exact ⟨0, by omega, rfl, by rw [List.take_zero]; rfl, by rw [List.take_zero]; rfl, rfl⟩
          case round =>
            obtain ⟨j, hgj, rfl, rfl, rfl, rfl⟩ := hrel
            generalize ha : ((vsOf B).take j).countP (fun v => decide (v < t)) = ca
            generalize hb : ((vsOf B).take j).countP (fun v => decide (v < t + 1)) = cb2
            have hc1 : ca ≤ j := by rw [← ha]; exact Nat.le_trans List.countP_le_length (by rw [List.length_take]; omega)
            have hc2 : cb2 ≤ j := by rw [← hb]; exact Nat.le_trans List.countP_le_length (by rw [List.length_take]; omega)
            by_cases hj : j < n
            · obtain ⟨ad, rfl, hcell⟩ := (bys_keep HN.out HW.out) j (by rw [HL.out]; exact hj)
              have hvt := vs_take B j (by rw [HL.out]; exact hj)
              have hv : B.getD j 0 % 64 < 64 := Nat.mod_lt _ (by omega)
              generalize hb0 : B.getD j 0 = b0 at *
              clear hb0
              have hcv : floatOfInt .f64 ((b0 : Int) % 64) = F (b0 % 64) := by
                show floatOfInt .f64 _ = floatOfInt .f64 ((b0 % 64 : Nat) : Int)
                congr 1
              have t1 := F_lt (v := b0 % 64) (t := t) (by omega) (by omega)
              have t2 := F_le (v := b0 % 64) (t := t) (by omega) (by omega)
              have t3 := F_eq (v := b0 % 64) (t := t) (by omega) (by omega)
              by_cases hlt : b0 % 64 < t
              · rw [decide_eq_true hlt] at t1
                clear t2 t3
                have HA := Lib.hid (show ((vsOf B).take (j + 1)).countP (fun v => decide (v < t)) = ca + 1 by rw [hvt, List.countP_append, ha]; simp; omega)
                have HBB := Lib.hid (show ((vsOf B).take (j + 1)).countP (fun v => decide (v < t + 1)) = cb2 + 1 by rw [hvt, List.countP_append, hb]; simp; omega)
                clear hvt ha hb hv hlt
                generalize F (b0 % 64) = fb at *
                generalize F t = ft at *
                go_wp2_with fail
                go_roundg (gk - 1)
                case measure => omega
                case rel => exact ⟨j + 1, by omega, rfl, by rw [HA.out]; rfl, by rw [HBB.out]; rfl, rfl⟩
              · by_cases heq : b0 % 64 = t
                · rw [decide_eq_false hlt] at t1
                  rw [decide_eq_true heq] at t3
                  clear t2
                  have HA := Lib.hid (show ((vsOf B).take (j + 1)).countP (fun v => decide (v < t)) = ca + 0 by rw [hvt, List.countP_append, ha]; simp; omega)
                  have HBB := Lib.hid (show ((vsOf B).take (j + 1)).countP (fun v => decide (v < t + 1)) = cb2 + 1 by rw [hvt, List.countP_append, hb]; simp; omega)
                  clear hvt ha hb hv hlt heq
                  generalize F (b0 % 64) = fb at *
                  generalize F t = ft at *
                  go_wp2_with fail
                  go_roundg (gk - 1)
                  case measure => omega
                  case rel => exact ⟨j + 1, by omega, rfl, by rw [HA.out]; rfl, by rw [HBB.out]; rfl, rfl⟩
                · rw [decide_eq_false hlt] at t1
                  rw [decide_eq_false heq] at t3
                  clear t2
                  have HA := Lib.hid (show ((vsOf B).take (j + 1)).countP (fun v => decide (v < t)) = ca + 0 by rw [hvt, List.countP_append, ha]; simp; omega)
                  have HBB := Lib.hid (show ((vsOf B).take (j + 1)).countP (fun v => decide (v < t + 1)) = cb2 + 0 by rw [hvt, List.countP_append, hb]; simp; omega)
                  clear hvt ha hb hv hlt heq
                  generalize F (b0 % 64) = fb at *
                  generalize F t = ft at *
                  go_wp2_with fail
                  go_roundg (gk - 1)
                  case measure => omega
                  case rel => exact ⟨j + 1, by omega, rfl, by rw [HA.out]; rfl, by rw [HBB.out]; rfl, rfl⟩
            · have hjn : j = n := by omega
              have hfull : (vsOf B).take j = vsOf B := List.take_of_length_le (by rw [vs_len, HL.out]; omega)
              rw [hfull] at ha hb
              obtain ⟨y1, y2, y3, y4⟩ := HT.out
              rw [ha] at y1
              rw [hb] at y2
              have z1 : kk ≤ cb2 := by omega
              have z2 : ca < cb2 := by omega
              have z3 : ca ≤ kk := by omega
              clear y1 y2 y3 y4 ha hb hfull r1 r2
              go_wp2_with fail
              go_ret
              exact ⟨rfl, HW.out⟩
end Go.Proofs.Ytdkcnbcjjlaidaa.gaugeRanks
