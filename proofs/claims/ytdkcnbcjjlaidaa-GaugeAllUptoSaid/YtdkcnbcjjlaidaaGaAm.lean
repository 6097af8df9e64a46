/- GaugeAll: do both tell the same? By an AI agent. -/
import Derived.Test.YtdkcnbcjjlaidaaGaAl
import Derived.Deep.DeepCutAuto
import Derived.Laws.OwnMore
namespace Go.Proofs.Ytdkcnbcjjlaidaa.gaugeAll
open Go.ChangeShapes Go.WideShapes Go.ChangeAt Go.RowKit
open gaugeCells (Pl take_succ alike_refl)
set_option linter.unusedVariables false

theorem own_slice {w : World} {base n : Nat} {v : Value} {t : TypeId} {L : List Value} (h : w.ownsRow base t 1 v n L) (hn : 0 < n) : ∃ b cap, v = .slice (some ⟨b, 0, none⟩) n cap ∧ base ≤ b ∧ b < w.heap.size := by
  rcases h.2 with ⟨h1, h2⟩ | ⟨g, cap, cells, rfl, h1, h2, -⟩
  · omega
  · exact ⟨g, cap, rfl, h1, lt_of_block h2⟩
theorem own_nums {w : World} {base b cap : Nat} {L : List Int} (h : w.ownsRow base 2 1 (.slice (some ⟨b, 0, none⟩) L.length cap) L.length (i64s L).toList) : Nums w b L := by
  intro i hi
  rw [h.cellAt i (by omega)]
  exact (Array.getElem?_toList (xs := i64s L)).trans (i64s_get L i hi)
theorem own_some {w : World} {base b cap n : Nat} {t : TypeId} {L : List Value} (h : w.ownsRow base t 1 (.slice (some ⟨b, 0, none⟩) n cap) n L) (i : Nat) (hi : i < n) : ∃ u, w.cell? ⟨b, i, none⟩ = some u := by
  rw [h.cellAt i (by omega)]
  have := h.1
  exact ⟨_, List.getElem?_eq_getElem (by omega)⟩
theorem store_below {w0 w : World} {b i : Nat} (h : Below w0.heap.size w0 w) (hb : w0.heap.size ≤ b) (u : Value) : Below w0.heap.size w0 (w.setCell ⟨b, i, none⟩ u) :=
  h.trans (Keep.below (bs := (· = b)) (Keep.setCell (bs := (· = b)) (Keep.refl _ w) (p := ⟨b, i, none⟩) (Or.inl rfl) u) h.size (fun k hk => by omega))

set_option maxRecDepth 100000 in
set_option maxHeartbeats 16000000 in
theorem told_same {w : World} {g base g' base' : Nat} {ob ob' : Option Addr} {cb c cb' c' : Nat} {x : G} (h : GAt w g base ob cb c x) (h' : RAt w g' base' ob' cb' c' x) (hx : Calm x) (hn : x.n ≤ 2 ^ 20) (hcl : x.cs.length ≤ 65)
    (oq : Option Addr) (Q : List Nat) (cq : Nat) (hQ : Fls w oq Q) (hl : Q.length ≤ 1000) :
    Calls Try.prog 21 #[.pointer (some ⟨g, 0, none⟩), .pointer (some ⟨g', 0, none⟩), .slice oq Q.length cq] w fun e w' => e = .returned (.bool true) ∧ Below w.heap.size w w' := by
  have HF := Lib.hid (And.intro h (And.intro h' (And.intro hx (And.intro hn (And.intro hcl hQ)))))
  have hpos : 0 < x.cs.length := by rw [h.len]; omega
  clear h h' hx hn hQ
  generalize hnq : Q.length = nq at *
  have HNQ := Lib.hid hnq
  clear hnq
  generalize hnc : x.cs.length = nc at *
  have HNC := Lib.hid hnc
  clear hnc
  go_enter Try.func21, Try.ntmps21
  go_wp2_with fail
  refine (cells_any HF.out.1 (by have := HNC.out; omega)).mono ?_
  rintro e w1 ⟨v1, rfl, hr1, hb1⟩
  have H1 := Lib.hid (And.intro hr1 hb1)
  clear hr1 hb1
  go_wp2_with fail
  refine (cells_any (HF.out.1.keep H1.out.2) (by have := HNC.out; omega)).mono ?_
  rintro e w2 ⟨v2, rfl, hr2, hb2⟩
  have hr1' := row_below H1.out.1 hb2
  rw [HNC.out] at hr1' hr2
  obtain ⟨b1, p1, rfl, l1, t1⟩ := own_slice (by have := H1.out.1; rw [HNC.out] at this; exact this) hpos
  obtain ⟨b2, p2, rfl, l2, t2⟩ := own_slice hr2 hpos
  have hne : b2 ≠ b1 := by omega
  have H2 := Lib.hid (And.intro hr1' (And.intro hr2 (And.intro (H1.out.2.trans (hb2.mono H1.out.2.size)) (And.intro l1 l2))))
  clear hr1' hr2 hb2 H1 l1 l2 t1 t2
  go_upto_region 2 with fail
  go_cut [9] (fun s9 wx => s9 = .bool true ∧ Hid (Below w2.heap.size w2 wx))
  case first =>
    have hR := rcell_facts (HF.out.2.1.keep H2.out.2.2.1)
    obtain ⟨q0, q1, q2, q3, q4, q5, q6⟩ := hR
    rw [HNC.out] at q1
    have HCE : RowKit.Hid (∀ W, Below w2.heap.size w2 W → Calls Try.prog 24 #[.slice (some ⟨b1, 0, none⟩) nc p1, .slice (some ⟨c', 0, none⟩) nc nc] W fun e w' => e = .returned (.bool true) ∧ Below W.heap.size W w') := Lib.hid fun W k => by
      have a := row_below H2.out.1 k
      rw [← HNC.out] at a
      have b := (HF.out.2.1.keep (H2.out.2.2.1.trans (k.mono H2.out.2.2.1.size)))
      have hc := cells_eq b1 c' x.cs p1 nc W (own_nums a) (fun i hi => (blk_cell b.cls i).trans (i64s_get x.cs i hi)) (by have := HNC.out; omega)
      rw [HNC.out] at hc
      exact hc
    have HLO : RowKit.Hid (∀ W, Below w2.heap.size w2 W → Calls Try.prog 26 #[.pointer (some ⟨g, 0, none⟩)] W fun e w' => e = .returned (.agg #[.int .i64 x.n, .int .i64 x.nn, .float .f64 x.le, .float .f64 x.gr, .float .f64 x.me]) ∧ Below W.heap.size W w') := Lib.hid fun W k =>
      look_any (HF.out.1.keep (H2.out.2.2.1.trans (k.mono H2.out.2.2.1.size)))
    have HRF : RowKit.Hid (∀ W, Below w2.heap.size w2 W → _) := Lib.hid fun W k => rcell_facts (HF.out.2.1.keep (H2.out.2.2.1.trans (k.mono H2.out.2.2.1.size)))
    have hd0 : Below w2.heap.size w2 w2.drew := ⟨rfl, rfl, rfl, Nat.le_refl _, fun _ _ => rfl⟩
    have HD := Lib.hid hd0
    clear hd0 q2 q3 q4 q5 q6
    go_region_with (first
      | (go_at_call 24
         refine (HCE.out _ HD.out).mono ?_
         rintro e w3 ⟨rfl, hb3⟩
         have HB3 := Lib.hid (HD.out.trans hb3)
         obtain ⟨-, -, p2, p3, p4, p5, p6⟩ := HRF.out _ HB3.out
         clear hb3)
      | (go_at_call 26
         refine (HLO.out _ HB3.out).mono ?_
         rintro e w4 ⟨rfl, hb4⟩
         have HB4 := Lib.hid (HB3.out.trans (hb4.mono HB3.out.size))
         obtain ⟨-, -, r2, r3, r4, r5, r6⟩ := HRF.out _ HB4.out
         clear hb4)
      | (go_at_call 39
         refine (look_eq x.n x.nn x.le x.gr x.me _).mono ?_
         rintro e w5 ⟨rfl, hb5⟩))
    all_goals (go_wp2_with fail; go_meet)
    all_goals exact ⟨rfl, HB4.out.trans (hb5.mono HB4.out.size)⟩
  case rest =>
    obtain ⟨rfl, hbc⟩ := hcut
    have H3 := Lib.hid (And.intro (row_below H2.out.1 hbc.out) (And.intro (row_below H2.out.2.1 hbc.out) (And.intro (H2.out.2.2.1.trans (hbc.out.mono H2.out.2.2.1.size)) H2.out.2.2.2)))
    clear hbc H2
    go_wp2_with fail
    go_loopg [10] nc (fun gq i wr => ∃ k : Nat, ∃ L1 : List Value, gq + k = nc ∧ i = .int .i64 (k : Int) ∧ Hid (wr.ownsRow w.heap.size 2 1 (.slice (some ⟨b1, 0, none⟩) nc p1) nc L1 ∧ wr.ownsRow w1.heap.size 2 1 (.slice (some ⟨b2, 0, none⟩) nc p2) nc (i64s x.cs).toList ∧ Below w.heap.size w wr))
    case atStart => exact ⟨0, _, by omega, rfl, H3.out.1, H3.out.2.1, H3.out.2.2.1⟩
    case round =>
      obtain ⟨k, L1, hgk, rfl, HK⟩ := hrel
      by_cases hk : k < nc
      · obtain ⟨u, hu⟩ := own_some HK.out.1 k hk
        have hfr := HK.out.1.frozenAt k
        have hst := HK.out.1.stored k (.int .i64 (-1))
        have HST := Lib.hid (And.intro hst.1 (And.intro (HK.out.2.1.kept hst.2 (Or.inr (by simp [Value.ownBlock]; omega))) (store_below (i := k) HK.out.2.2 H3.out.2.2.2.1 (.int .i64 (-1)))))
        clear hst
        go_wp2_with fail
        go_roundg (gk - 1)
        case measure => omega
        case rel => exact ⟨k + 1, _, by omega, rfl, HST.out⟩
      · have H4 := Lib.hid (And.intro HK.out.2.1 HK.out.2.2)
        clear HK H3
        go_wp2_with fail
        go_loopg [11, 9] nq (fun gq i b wr => ∃ k : Nat, gq + k = nq ∧ i = .int .i64 (k : Int) ∧ b = .bool true ∧ Hid (wr.ownsRow w1.heap.size 2 1 (.slice (some ⟨b2, 0, none⟩) nc p2) nc (i64s x.cs).toList ∧ Below w.heap.size w wr))
        case atStart => exact ⟨0, by omega, rfl, rfl, H4.out⟩
        case round =>
          obtain ⟨k, hgk, rfl, rfl, HK⟩ := hrel
          by_cases hk : k < nq
          · obtain ⟨ad, rfl, hcell⟩ := (fls_keep HF.out.2.2.2.2.2 HK.out.2) k (by rw [HNQ.out]; exact hk)
            obtain ⟨v, er, hA, hB⟩ := both_quant HF.out.2.2.1 HF.out.2.2.2.1 (Q.getD k 0)
            have HA := Lib.hid (hA (HF.out.1.keep HK.out.2))
            have HB := Lib.hid (hB (HF.out.2.1.keep HK.out.2))
            have HBI : RowKit.Hid (∀ w, Calls Try.prog 12 #[.float .f64 v, .float .f64 v] w fun e w' => e = .returned (.bool true) ∧ w = w') := Lib.hid fun w => by
              have := bits_any v v w
              rwa [decide_eq_true rfl] at this
            have ee : (er == er) = true := by simp
            clear hA hB
            generalize Q.getD k 0 = qk at *
            go_wp2_with fail
            refine HA.out.mono ?_
            rintro e w' ⟨rfl, rfl⟩
            go_wp2_with fail
            refine HB.out.mono ?_
            rintro e w' ⟨rfl, rfl⟩
            go_wp2_with fail
            refine (HBI.out _).mono ?_
            rintro e w' ⟨rfl, rfl⟩
            go_wp2_with fail
            go_roundg (gk - 1)
            case measure => omega
            case rel => exact ⟨k + 1, by omega, rfl, rfl, HK.out⟩
          · obtain ⟨q0, q1, q2, q3, q4, q5, q6⟩ := rcell_facts (HF.out.2.1.keep HK.out.2)
            rw [HNC.out] at q1
            have a := HK.out.1
            rw [← HNC.out] at a
            have b := HF.out.2.1.keep HK.out.2
            have hc := cells_eq b2 c' x.cs p2 nc _ (own_nums a) (fun i hi => (blk_cell b.cls i).trans (i64s_get x.cs i hi)) (by have := HNC.out; omega)
            rw [HNC.out] at hc
            have HC := Lib.hid hc
            clear a b hc
            go_wp2_with fail
            refine HC.out.mono ?_
            rintro e w' ⟨rfl, hb⟩
            have HE := Lib.hid (HK.out.2.trans (hb.mono HK.out.2.size))
            clear hb
            go_wp2_with fail
            go_ret
            exact ⟨rfl, HE.out⟩
end Go.Proofs.Ytdkcnbcjjlaidaa.gaugeAll
