/- What a gauge tells: rank, Quantile, Cells, Look. By an AI agent. -/
import Derived.Test.YtdkcnbcjjlaidaaGauE
import Derived.Deep.DeepMust
namespace Go.Proofs.Ytdkcnbcjjlaidaa
open Go.ChangeShapes Go.WideShapes Go.ChangeAt Go.RowKit
open Flt (U fv ceilW)
set_option linter.unusedVariables false

/-- The rank, of a product m and n numbers. -/
def rankV (m : Nat) (n : Nat) : Int := if (n : Int) ≤ fv (ceilW m) / U then n else max (fv (ceilW m) / U) 1

set_option maxHeartbeats 2000000 in
theorem rank_any (q n m : Nat) (hm : floatBits .mul .f64 q (floatOfInt .f64 n) = some m) (hf : Flt.Fin m) (h0 : 0 ≤ fv m) (hn : n ≤ 1099511627776) (w : World) :
    Calls Try.prog 38 #[.float .f64 q, .int .i64 (n : Int)] w fun e w' => e = .returned (.int .i64 (rankV m n)) ∧ w = w' := by
  have o1 : ∀ t w, (binOp .mul t (.float .f64 q) (.float .f64 (floatOfInt .f64 n))).run Try.prog w = .ok (.float .f64 m) w := fun t w => run_float_arith w .mul t .f64 q _ m hm
  have hof := Flt.ofInt_fin (n := n) (by omega)
  obtain ⟨hc, N, hN, hle, -⟩ := Flt.ceil_fin hf
  have H := Lib.hid hf
  have hU := Flt.U_pos
  have t1 := Flt.t_ge hc.not_nan hof.1.not_nan
  rw [hof.2.1, hN] at t1
  have hdiv : fv (ceilW m) / U = N := by rw [hN]; exact Int.mul_ediv_cancel _ (by omega)
  have hN0 : 0 ≤ N := by
    refine Int.not_lt.1 fun hx => ?_
    have := Int.mul_le_mul_of_nonneg_right (show N ≤ -1 by omega) (show (0 : Int) ≤ U by omega)
    omega
  have hmul : ((n : Int) * U ≤ N * U) ↔ (n : Int) ≤ N := by
    constructor
    · intro h
      refine Int.not_lt.1 fun hx => ?_
      have := Int.mul_lt_mul_of_pos_right hx (show (0 : Int) < U by omega)
      omega
    · intro h
      exact Int.mul_le_mul_of_nonneg_right h (by omega)
  by_cases hge : (n : Int) ≤ N
  · have HV : RowKit.Hid (rankV m n = n) := Lib.hid (by unfold rankV; rw [hdiv, if_pos hge])
    rw [decide_eq_true (hmul.2 hge)] at t1
    clear hm hof hc hN hle hU hdiv hN0 hmul hge h0 hf
    go_enter Try.func38, Try.ntmps38
    go_wp2_with (go_at_call 50; refine (ceil_any H.out _).mono ?_; rintro e w' ⟨rfl, rfl⟩)
    go_ret
    exact ⟨by rw [HV.out]; rfl, rfl⟩
  · have HV : RowKit.Hid (rankV m n = max N 1) := Lib.hid (by unfold rankV; rw [hdiv, if_neg hge])
    rw [decide_eq_false (fun h => hge (hmul.1 h))] at t1
    have hi := Flt.toInt_of hc hN (by omega) (by omega)
    have hcv : ∀ w, (convert 24 2 (.float .f64 (ceilW m))).run Try.prog w = .ok (.int .i64 N) w := fun w => run_convert_float_int w 24 2 .f64 .i64 (ceilW m) N (by rw [Try.underlying24]; rfl) Try.underlying2 hi
    clear hm hof hc hN hle hU hdiv hN0 hmul h0 hf hi hge
    by_cases h1 : 1 ≤ N
    · have HV2 : RowKit.Hid (rankV m n = N) := Lib.hid (by rw [HV.out]; omega)
      clear HV
      go_enter Try.func38, Try.ntmps38
      go_wp2_with (go_at_call 50; refine (ceil_any H.out _).mono ?_; rintro e w' ⟨rfl, rfl⟩)
      go_ret
      exact ⟨by rw [HV2.out]; rfl, rfl⟩
    · have HV2 : RowKit.Hid (rankV m n = 1) := Lib.hid (by rw [HV.out]; omega)
      clear HV
      go_enter Try.func38, Try.ntmps38
      go_wp2_with (go_at_call 50; refine (ceil_any H.out _).mono ?_; rintro e w' ⟨rfl, rfl⟩)
      go_ret
      exact ⟨by rw [HV2.out]; rfl, rfl⟩

/-- The bound at which so many are reached. -/
def qf : List Nat → List Int → Int → Nat → Nat
  | b :: bs, c :: cs, r, gr => if r - c ≤ 0 then b else qf bs cs (r - c) gr
  | _, _, _, gr => gr

theorem drop_getD {α : Type} (l : List α) (d : α) (i : Nat) (h : i < l.length) : l.drop i = l.getD i d :: l.drop (i + 1) := by
  rw [List.drop_eq_getElem_cons h, List.getD_eq_getElem?_getD, List.getElem?_eq_getElem h]; rfl

set_option maxRecDepth 100000 in
set_option maxHeartbeats 4000000 in
theorem quant_ok {w : World} {g base : Nat} {ob : Option Addr} {cb c : Nat} {x : G} (h : GAt w g base ob cb c x) (hx : Calm x) (q n m : Nat) (hn : x.n = n) (hpos : 0 < n) (r : Int)
    (g1 : (FloatKind.f64.format.order q 0 == some .gt || FloatKind.f64.format.order q 0 == some .eq) = true) (g2 : (FloatKind.f64.format.order q 4607182418800017408 == some .lt || FloatKind.f64.format.order q 4607182418800017408 == some .eq) = true)
    (hm : floatBits .mul .f64 q (floatOfInt .f64 n) = some m) (hf : Flt.Fin m) (h0 : 0 ≤ fv m) (hr : rankV m n = r) (hr1 : 1 ≤ r) (hrn : r ≤ n) :
    Calls Try.prog 17 #[.pointer (some ⟨g, 0, none⟩), .float .f64 q] w fun e w' => e = .returned (.tuple #[.float .f64 (qf x.bs x.cs r x.gr), .int .i64 0]) ∧ w = w' := by
  obtain ⟨q0, q1, q2, q3, q4, q5, q6, q7⟩ := gcell_facts h
  obtain ⟨n0, n1, -, -, hcc, hbl⟩ := hx
  have hnn : n ≤ 1099511627776 := by omega
  have HRK := Lib.hid (rank_any q n m hm hf h0 hnn w)
  rw [hr] at HRK
  rw [hn] at q3
  have HG := Lib.hid (And.intro h hcc)
  have hlen := h.len
  have hne : ((n : Int) == 0) = false := by simp; omega
  generalize hres : qf x.bs x.cs r x.gr = res
  have HR := Lib.hid hres
  clear hres h hcc hm hf h0 hr
  generalize hbn : x.bs.length = nb at *
  generalize hcn : x.cs.length = nc at *
  have HBN := Lib.hid (And.intro hbn hcn)
  clear hbn hcn
  go_enter Try.func17, Try.ntmps17
  go_wp2_with fail
  refine (there_any _ _ q0).mono ?_
  rintro e w' ⟨rfl, rfl⟩
  go_wp2_with fail
  refine HRK.out.mono ?_
  rintro e w' ⟨rfl, rfl⟩
  go_wp2_with fail
  go_loopg [41, 6] nb (fun gq a b wr => ∃ k : Nat, ∃ z : Int, gq + k = nb ∧ a = .int .i64 (k : Int) ∧ b = .int .i64 z ∧ 1 ≤ z ∧ z ≤ 1099511627776 ∧ wr = w ∧ Hid (qf (x.bs.drop k) (x.cs.drop k) z x.gr = res))
  case atStart => exact ⟨0, r, by omega, rfl, rfl, hr1, by omega, rfl, HR.out⟩
  case round =>
    obtain ⟨k, z, hgk, rfl, rfl, hz1, hz2, rfl, HK⟩ := hrel
    by_cases hk : k < nb
    · obtain ⟨ad, rfl, hcell⟩ := HG.out.1.fls k (by rw [HBN.out.1]; exact hk)
      have hck := HG.out.2 k
      have hci := (blk_cell HG.out.1.cls k).trans (i64s_get x.cs k (by rw [HBN.out.2]; omega))
      have hs := HK.out
      rw [drop_getD x.bs 0 k (by rw [HBN.out.1]; exact hk), drop_getD x.cs 0 k (by rw [HBN.out.2]; omega)] at hs
      unfold qf at hs
      generalize x.bs.getD k 0 = y at *
      generalize x.cs.getD k 0 = cc at *
      by_cases hle : z - cc ≤ 0
      · rw [if_pos hle] at hs
        subst hs
        have hd : decide (z - cc ≤ 0) = true := by simpa using hle
        go_wp2_with fail
        go_ret2
        exact ⟨rfl, rfl⟩
      · rw [if_neg hle] at hs
        have HS := Lib.hid hs
        clear hs
        have hd : decide (z - cc ≤ 0) = false := by simpa using hle
        go_wp2_with fail
        go_roundg (gk - 1)
        case measure => omega
        case rel => exact ⟨k + 1, z - cc, by omega, rfl, rfl, by omega, by omega, rfl, HS.out⟩
    · have hs := HK.out
      have hkn : k = nb := by omega
      rw [hkn, List.drop_eq_nil_of_le (by rw [HBN.out.1]; exact Nat.le_refl _)] at hs
      unfold qf at hs
      subst hs
      go_wp2_with fail
      go_ret2
      exact ⟨rfl, rfl⟩

theorem nil_row (w : World) (base : Nat) (e : TypeId) : w.ownsRow base e 1 (.slice none 0 0) 0 [] := ⟨rfl, Or.inl ⟨rfl, rfl⟩⟩

set_option maxHeartbeats 2000000 in
theorem cells_any {w : World} {g base : Nat} {ob : Option Addr} {cb c : Nat} {x : G} (h : GAt w g base ob cb c x) (hl : x.cs.length ≤ 1000000) :
    Calls Try.prog 25 #[.pointer (some ⟨g, 0, none⟩)] w fun e w' => ∃ v, e = .returned v ∧ w'.ownsRow w.heap.size 2 1 v x.cs.length (i64s x.cs).toList ∧ Below w.heap.size w w' := by
  obtain ⟨q0, q1, q2, q3, q4, q5, q6, q7⟩ := gcell_facts h
  obtain ⟨i0, hi, hz0, hz1, hz2⟩ := info_parts info_i64
  have hnews : ∀ j u, (i64s x.cs).toList[j]? = some u → ∃ ad, some (⟨c, 0, none⟩ : Addr) = some ad ∧ w.cell? (ad.add j) = some u := by
    intro j u hj
    refine ⟨_, rfl, ?_⟩
    rw [addr_add, Nat.zero_add, blk_cell h.cls j]
    simpa using hj
  have h1 : ∀ u ∈ (i64s x.cs).toList, u.oneCell' = true := by
    intro u hu
    simp [i64s] at hu
    obtain ⟨y, -, rfl⟩ := hu
    rfl
  have hl2 : (i64s x.cs).toList.length = x.cs.length := by simp [i64s]
  have HG := Lib.hid (And.intro hnews (And.intro h1 hl2))
  clear h hnews h1 hl2
  generalize (i64s x.cs).toList = L at *
  generalize hcn : x.cs.length = nc at *
  have HN := Lib.hid hcn
  clear hcn
  go_enter Try.func25, Try.ntmps25
  go_wp2_with fail
  refine (there_any _ _ q0).mono ?_
  rintro e w' ⟨rfl, rfl⟩
  go_wp2_with (at_builtin; go_must (refine wpList_append_sl _ rfl (.const (.slice none 0 0)) (.tmp 9) 52 rfl w.heap.size 2 i0 (.int .i64 0) 8 Try.underlying52 hi hz0 hz1 hz2 rfl _ 0 [] rfl (nil_row _ _ _) (some ⟨c, 0, none⟩) nc nc L rfl HG.out.2.2 HG.out.1 HG.out.2.1 (fun h => by cases h) ?_ ?_ (Nat.le_refl _) ?_))
  · unfold maxLen; omega
  · omega
  · intro v1 w1 hown hgr hblk
    have HO := Lib.hid (And.intro hown ((Below.refl w.heap.size w).grown hgr (Nat.le_refl _) (by intro k hk; cases hk)))
    clear hown hgr hblk
    go_wp2_with fail
    go_ret
    exact ⟨_, rfl, HO.out.1, HO.out.2⟩
end Go.Proofs.Ytdkcnbcjjlaidaa
