/- LinearFirst: the walk. By an AI agent. -/
import Derived.Test.YtjiehgfamlidnaaLinZ
import Derived.Deep.CutBlock
namespace Go.Proofs.Ytjiehgfamlidnaa.Lin
open Go.ChangeShapes Go.WideShapes Go.ChangeAt Go.RowKit
open Md
set_option linter.unusedVariables false
set_option linter.unusedSimpArgs false

theorem own_slice {w : World} {base : Nat} {v : Value} {l : List Nat} (h : w.ownsRow base 3 1 v l.length (ints l)) : ∃ vo cap, v = .slice vo l.length cap ∧ Ints w vo (nats l) := by
  rcases Nat.eq_zero_or_pos l.length with h0 | h0
  · obtain rfl : l = [] := List.length_eq_zero_iff.1 h0
    rcases h.2 with ⟨rfl, -⟩ | ⟨g, cap, cur, rfl, -⟩
    · exact ⟨none, 0, rfl, fun i hi => absurd hi (by simp [nats])⟩
    · exact ⟨_, cap, rfl, fun i hi => absurd hi (by simp [nats])⟩
  · obtain ⟨g, cap, rfl, -, -⟩ := World.ownsRow.form h h0
    exact ⟨_, cap, rfl, ints_own h⟩
theorem nats_getD (l : List Nat) (i : Nat) : (nats l).getD i 0 = ((l.getD i 0 : Nat) : Int) := by
  rw [List.getD_eq_getElem?_getD, List.getD_eq_getElem?_getD]
  by_cases h : i < l.length
  · simp [nats, h]
  · simp [nats, h, List.getElem?_eq_none (Nat.le_of_not_lt h)]

set_option maxRecDepth 100000 in
set_option maxHeartbeats 16000000 in
theorem first_walk (base : Int) (o oo : Option Addr) (ps : List Past) (L : List Int) (cap capo : Nat) (w : World) (hP : Ps w o ps) (hn : ps.length ≤ 9223372036854775807) (hb : base ≤ topN) (hI : Ints w oo L) (hL : L.length ≤ 9223372036854775807) :
    Calls Try.prog 5 #[.int .i64 base, .slice o ps.length cap, .slice oo L.length capo] w fun e w' => e = .returned (.bool true) ∧ Below w.heap.size w w' := by
  have HSM := Lib.hid (fun (W : World) (k : Below w.heap.size w W) => small_any o ps cap W (hP.keep k) hn)
  have HCK := Lib.hid (fun (W : World) (k : Below w.heap.size w W) (h30 : ps.length ≤ 30) => check_any base o ps cap W (hP.keep k) (by omega) hb)
  have HMO := Lib.hid (fun (W : World) (k : Below w.heap.size w W) (h30 : ps.length ≤ 30) => most_any base o ps cap W (hP.keep k) (by omega) hb)
  have HL1 := Lib.hid (fun (W : World) (k : Below w.heap.size w W) (hbg : bgE base ps = 0) => legal_any base o oo ps L cap capo W (hP.keep k) hbg hb (ints_keep hI k) hL)
  have HL2 := Lib.hid (fun (W : World) (k : Below w.heap.size w W) (hbg : bgE base ps = 0) (l : List Nat) (vo : Option Addr) (vc : Nat) (hl : Ints W vo (nats l)) (hll : l.length ≤ 12) => (show Calls Try.prog 15 #[.int .i64 base, .slice o ps.length cap, .slice vo l.length vc] W fun e w' => e = .returned (.bool (lgB base ps (nats l))) ∧ Below W.heap.size W w' from by
    have h := legal_any base o vo ps (nats l) cap vc W (hP.keep k) hbg hb hl (by simp only [nats, List.length_map]; omega)
    have e : (nats l).length = l.length := by simp [nats]
    rw [e] at h
    exact h))
  have HP := Lib.hid hP
  have HI := Lib.hid hI
  clear hP hI
  generalize hl : ps.length = n at *
  have HLN := Lib.hid hl
  clear hl
  generalize hll : L.length = nl at *
  have HLL := Lib.hid hll
  clear hll
  go_enter Try.func5, Try.ntmps5
  go_wp2_with fail
  refine (begun24_any w).mono ?_
  rintro e w1 ⟨rfl, hb1⟩
  have H1 := Lib.hid hb1
  clear hb1
  go_wp2_with fail
  refine (HSM.out w1 H1.out).mono ?_
  rintro e w2 ⟨sb, rfl, h30, rfl⟩
  rcases sb with _ | _
  · clear h30
    go_wp2_with fail
    go_ret
    exact ⟨rfl, H1.out⟩
  have H30 := Lib.hid (h30 rfl)
  clear h30
  go_wp2_with fail
  refine (HCK.out w2 H1.out H30.out).mono ?_
  rintro e w3 ⟨hb3, h3⟩
  have H3 := Lib.hid (H1.out.trans (hb3.mono H1.out.size))
  clear hb3
  rcases h3 with ⟨h3, rfl⟩ | ⟨h3, hd, rfl⟩ | ⟨h3, v, l, d, rfl, hown, hc, hd, hbest⟩
  · have d1 : (bgE base ps != 0) = true := by simpa using h3
    clear h3
    generalize bgE base ps = ge at *
    go_wp2_with fail
    go_ret
    exact ⟨rfl, H3.out⟩
  · have hf : lgB base ps L = false := by
      rw [Bool.eq_false_iff]
      intro h
      obtain ⟨l, d, -, hc, hdn⟩ := lg_true.1 h
      exact hd _ _ hc hdn
    have HX := Lib.hid (And.intro h3 hf)
    clear h3 hd hf
    go_wp2_with fail
    refine (HL1.out w3 H3.out HX.out.1).mono ?_
    rintro e w4 ⟨rfl, hb4⟩
    rw [HX.out.2]
    have H4 := Lib.hid (H3.out.trans (hb4.mono H3.out.size))
    clear hb4
    go_wp2_with fail
    go_ret
    exact ⟨rfl, H4.out⟩
  · have hl12 : l.length ≤ 12 := by
      have h1 := (bg_zero h3).2.1
      have h2 := hc.len
      omega
    obtain ⟨vo, vc, rfl, hvi⟩ := own_slice hown
    have hlg : lgB base ps (nats l) = true := (lg_end hc).2 hd
    have hlex : lgB base ps L = true → ∃ lo, L = nats lo ∧ lexle l lo := fun h => by
      obtain ⟨lo, d', e, hc', hd'⟩ := lg_true.1 h
      exact ⟨lo, e, hbest _ _ hc' hd'⟩
    have hdl := done_len hc hd
    have HC := Lib.hid (And.intro h3 (And.intro hc (And.intro hd (And.intro hl12 (And.intro hvi (And.intro hlg (And.intro hlex hdl)))))))
    clear h3 hown hc hd hbest hl12 hvi hlg hlex hdl
    have HL2' := Lib.hid (fun (W : World) (k : Below w.heap.size w W) (k3 : Below w3.heap.size w3 W) => HL2.out W k HC.out.1 l vo vc (ints_keep HC.out.2.2.2.2.1 k3) HC.out.2.2.2.1)
    generalize hln : l.length = ln at *
    have HLNL := Lib.hid hln
    clear hln
    generalize hsd : lgB base ps L = said at *
    have HSD := Lib.hid hsd
    clear hsd
    go_wp2_with fail
    refine (HL1.out w3 H3.out HC.out.1).mono ?_
    rintro e w4 ⟨rfl, hb4⟩
    have H4 := Lib.hid (And.intro (H3.out.trans (hb4.mono H3.out.size)) hb4)
    clear hb4
    go_wp2_with fail
    refine (HL2'.out w4 H4.out.1 H4.out.2).mono ?_
    rintro e w5 ⟨rfl, hb5⟩
    rw [HC.out.2.2.2.2.2.1]
    have H5 := Lib.hid (And.intro (H4.out.1.trans (hb5.mono H4.out.1.size)) (H4.out.2.trans (hb5.mono H4.out.2.size)))
    clear hb5
    go_upto_block 0 with fail
    go_cut [] from 55 (fun wx => Hid (Below w5.heap.size w5 wx))
    case first =>
      go_wp2_with fail
      rcases said with _ | _
      · go_loopg [11] 0 (fun gq i wr => i = .int .i64 0 ∧ Hid (Below w5.heap.size w5 wr))
        case atStart => exact ⟨rfl, Below.refl _ _⟩
        case round =>
          obtain ⟨rfl, HR⟩ := hrel
          go_wp2_with fail
          go_meet
          exact HR
      · obtain ⟨lo, hlo, hlx⟩ := HC.out.2.2.2.2.2.2.1 rfl
        have HLX := Lib.hid (And.intro hlo hlx)
        clear hlo hlx
        go_loopg [11] ln (fun gq i wr => ∃ k : Nat, gq + k = ln ∧ i = .int .i64 (k : Int) ∧ Hid (Below w5.heap.size w5 wr ∧ ∀ j, j < k → l[j]? = lo[j]?))
        case atStart => exact ⟨0, by omega, rfl, Below.refl _ _, fun j hj => absurd hj (by omega)⟩
        case round =>
          obtain ⟨k, hgk, rfl, HK⟩ := hrel
          have hl12 : ln ≤ 12 := by have := HC.out.2.2.2.1; have := HLNL.out; omega
          by_cases hk : k < ln
          · have hk' : k < l.length := by rw [HLNL.out]; exact hk
            obtain ⟨hko, hle⟩ := lex_at HLX.out.2 HK.out.2 hk'
            have hll : lo.length = nl := by have := HLL.out; rw [HLX.out.1] at this; simpa [nats] using this
            have hkn : k < nl := by omega
            have d0 : decide ((k : Int) ≥ (nl : Int)) = false := by simp; omega
            have d0' : decide (nl ≤ k) = false := by simp; omega
            have hkw := H5.out.1.trans (HK.out.1.mono H5.out.1.size)
            have hkw3 := H5.out.2.trans (HK.out.1.mono H5.out.2.size)
            obtain ⟨ab1, ao1, rfl, x1⟩ := ints_keep HI.out hkw k (by rw [HLL.out]; exact hkn)
            obtain ⟨ab2, ao2, rfl, x2⟩ := ints_keep HC.out.2.2.2.2.1 hkw3 k (by simpa [nats] using hk')
            rw [HLX.out.1, nats_getD] at x1
            rw [nats_getD] at x2
            have HNX : RowKit.Hid (l.getD k 0 = lo.getD k 0 → ∀ j, j < k + 1 → l[j]? = lo[j]?) := Lib.hid fun e j hj => by
              rcases Nat.lt_succ_iff_lt_or_eq.1 hj with h | rfl
              · exact HK.out.2 j h
              · rw [List.getD_eq_getElem?_getD, List.getD_eq_getElem?_getD, List.getElem?_eq_getElem hk', List.getElem?_eq_getElem hko] at e
                rw [List.getElem?_eq_getElem hk', List.getElem?_eq_getElem hko]
                simpa using e
            generalize l.getD k 0 = x at *
            generalize lo.getD k 0 = y at *
            have d1 : decide ((y : Int) < (x : Int)) = false := by simp; omega
            have d1' : decide (y < x) = false := by simp; omega
            clear hko hk' hll hkw hkw3
            by_cases hxy : x < y
            · have d2 : decide ((y : Int) > (x : Int)) = true := by simpa using hxy
              have d2' : decide (x < y) = true := by simpa using hxy
              clear HNX hle hxy
              go_wp2_with fail
              go_quiet (fail)
              go_wp2_with fail
              go_quiet (fail)
              go_wp2_with fail
              go_meet
              exact Lib.hid ⟨HK.out.1.os, HK.out.1.tape, HK.out.1.output, HK.out.1.size, HK.out.1.block⟩
            · have d2 : decide ((y : Int) > (x : Int)) = false := by simp; omega
              have d2' : decide (x < y) = false := by simp; omega
              have hnx := HNX.out (by omega)
              have HN := Lib.hid hnx
              clear HNX hle hxy hnx
              go_wp2_with fail
              go_quiet (fail)
              go_wp2_with fail
              go_quiet (fail)
              go_wp2_with fail
              go_roundg (gk - 1)
              all_goals first | omega | exact ⟨k + 1, by omega, rfl, ⟨HK.out.1.os, HK.out.1.tape, HK.out.1.output, HK.out.1.size, HK.out.1.block⟩, HN.out⟩
          · obtain rfl : k = ln := by omega
            go_wp2_with fail
            go_meet
            exact Lib.hid HK.out.1
    case rest =>
      have HW := Lib.hid (H5.out.1.trans (hcut.out.mono H5.out.1.size))
      clear hcut
      go_wp2_with fail
      go_loopg [12, 13] n (fun gq sd si wr => ∃ k : Nat, gq + k = n ∧ sd = .int .i64 ((doneN ps k : Nat) : Int) ∧ si = .int .i64 (k : Int) ∧ wr = wc)
      case atStart => exact ⟨0, by omega, rfl, rfl, rfl⟩
      case round =>
        obtain ⟨k, hgk, rfl, rfl, rfl⟩ := hrel
        have hn30 : n ≤ 30 := H30.out
        by_cases hk : k < n
        · obtain ⟨ab, ao, rfl, od, cd, ord, crd, hps, q0, q1, q2, q3, q4, q5, q6, q7⟩ := (HP.out.keep HW.out).at k (by rw [HLN.out]; exact hk)
          have hs := doneN_succ ps k
          have hle := doneN_le ps k
          generalize hen : (ps.getD k zP).en = en at *
          clear hps q0 q1 q2 q3 q4 q5 q6
          by_cases he : en = 0
          · have e0 : (en != 0) = false := by simp [he]
            rw [if_pos he] at hs
            have HS := Lib.hid hs
            clear hs he hen
            go_wp2_with fail
            go_roundg (gk - 1)
            all_goals first | omega | exact ⟨k + 1, by omega, by rw [HS.out]; rfl, rfl, rfl⟩
          · have e0 : (en != 0) = true := by simpa using he
            rw [if_neg he] at hs
            have HS := Lib.hid hs
            clear hs he hen
            go_wp2_with fail
            go_roundg (gk - 1)
            all_goals first | omega | exact ⟨k + 1, by omega, by rw [HS.out]; rfl, rfl, rfl⟩
        · obtain rfl : k = n := by omega
          go_wp2_with fail
          refine (HMO.out wr HW.out H30.out).mono ?_
          rintro e w7 ⟨hb7, h7⟩
          have H7 := Lib.hid (HW.out.trans (hb7.mono HW.out.size))
          clear hb7
          obtain ⟨most, rfl, hm⟩ : ∃ most : Int, e = .returned (.tuple #[.int .i64 most, .int .i64 0]) ∧ (l.length : Int) ≤ most := by
            rcases h7 with ⟨h, -⟩ | ⟨-, most, rfl, h1, h2⟩
            · exact absurd HC.out.1 h
            · exact ⟨most, rfl, h1 _ _ HC.out.2.1⟩
          clear h7
          have d1 : decide (most ≥ ((doneN ps k : Nat) : Int)) = true := by
            have h8 := HC.out.2.2.2.2.2.2.2
            rw [HLN.out] at h8
            have h9 := HLNL.out
            rw [decide_eq_true_eq]
            omega
          have d2 : decide (most ≥ (ln : Int)) = true := by
            have := HLNL.out
            rw [decide_eq_true_eq]
            omega
          go_wp2_with fail
          go_ret
          exact ⟨rfl, H7.out⟩
end Go.Proofs.Ytjiehgfamlidnaa.Lin
