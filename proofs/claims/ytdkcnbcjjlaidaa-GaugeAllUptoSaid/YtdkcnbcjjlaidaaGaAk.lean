/- Merge of whatever gauge with the same bounds (itself, too); refused; Look held against Look. By an AI agent. -/
import Derived.Test.YtdkcnbcjjlaidaaGauS
import Derived.Test.YtdkcnbcjjlaidaaGauG
namespace Go.Proofs.Ytdkcnbcjjlaidaa
open Go.ChangeShapes Go.WideShapes Go.ChangeAt Go.RowKit
set_option linter.unusedVariables false

theorem merge_no {w : World} {g base g' base' : Nat} {ob ob' : Option Addr} {cb c cb' c' : Nat} {x y : G} (h : GAt w g base ob cb c x) (h' : GAt w g' base' ob' cb' c' y) (hl : x.bs.length ≤ 1000000) (hbs : alikeB x.bs y.bs = false) :
    Calls Try.prog 22 #[.pointer (some ⟨g, 0, none⟩), .pointer (some ⟨g', 0, none⟩)] w fun e w' => e = .returned (.int .i64 1) ∧ Below w.heap.size w w' := by
  obtain ⟨q0, -, -, -, -, -, -, -⟩ := gcell_facts h
  obtain ⟨p0, -, -, -, -, -, -, -⟩ := gcell_facts h'
  have HA := Lib.hid (alike_any h h' hl)
  rw [hbs] at HA
  clear h h' hl hbs
  go_enter Try.func22, Try.ntmps22
  go_wp2_with fail
  refine (there_any _ _ q0).mono ?_
  rintro e w1 ⟨rfl, rfl⟩
  go_wp2_with fail
  refine (there_any _ _ p0).mono ?_
  rintro e w1 ⟨rfl, rfl⟩
  go_wp2_with fail
  refine HA.out.mono ?_
  rintro e w1 ⟨rfl, hb1⟩
  have HB := Lib.hid hb1
  clear hb1 HA q0 p0
  go_wp2_with fail
  go_ret
  exact ⟨rfl, HB.out⟩

theorem merge_none {w : World} {g base : Nat} {ob : Option Addr} {cb c : Nat} {x : G} (h : GAt w g base ob cb c x) :
    Calls Try.prog 22 #[.pointer (some ⟨g, 0, none⟩), .pointer none] w fun e w' => e = .returned (.int .i64 1) ∧ w = w' := by
  obtain ⟨q0, -, -, -, -, -, -, -⟩ := gcell_facts h
  clear h
  go_enter Try.func22, Try.ntmps22
  go_wp2_with fail
  refine (there_any _ _ q0).mono ?_
  rintro e w1 ⟨rfl, rfl⟩
  go_wp2_with fail
  refine (there_nil _).mono ?_
  rintro e w1 ⟨rfl, rfl⟩
  go_wp2_with fail
  go_ret
  exact ⟨rfl, rfl⟩

set_option maxHeartbeats 4000000 in
theorem look_eq (n nn : Int) (le gr me : Nat) (w : World) :
    Calls Try.prog 39 #[.agg #[.int .i64 n, .int .i64 nn, .float .f64 le, .float .f64 gr, .float .f64 me], .agg #[.int .i64 n, .int .i64 nn, .float .f64 le, .float .f64 gr, .float .f64 me]] w fun e w' => e = .returned (.bool true) ∧ Below w.heap.size w w' := by
  have HB : RowKit.Hid (∀ a (w : World), Calls Try.prog 12 #[.float .f64 a, .float .f64 a] w fun e w' => e = .returned (.bool true) ∧ w = w') := Lib.hid fun a w => by
    have := bits_any a a w
    rwa [decide_eq_true rfl] at this
  have e1 : (n == n) = true := by simp
  have e2 : (nn == nn) = true := by simp
  go_enter Try.func39, Try.ntmps39
  go_wp2_with fail
  refine (HB.out _ _).mono ?_
  rintro e w1 ⟨rfl, rfl⟩
  go_wp2_with fail
  refine (HB.out _ _).mono ?_
  rintro e w1 ⟨rfl, rfl⟩
  go_wp2_with fail
  refine (HB.out _ _).mono ?_
  rintro e w1 ⟨rfl, rfl⟩
  go_wp2_with fail
  go_ret
  exact ⟨rfl, ((Below.refl _ w).alloc (Nat.le_refl _) _).alloc (by simp) _⟩

set_option maxRecDepth 100000 in
set_option maxHeartbeats 16000000 in
theorem merge_any {w : World} {g base g' base' : Nat} {ob ob' : Option Addr} {cb c cb' c' : Nat} {x y : G} (h : GAt w g base ob cb c x) (h' : GAt w g' base' ob' cb' c' y) (hx : Calm x) (hy : Calm y) (hsm : y.cs.length ≤ 1000000) (hbs : alikeB x.bs y.bs = true) :
    Calls Try.prog 22 #[.pointer (some ⟨g, 0, none⟩), .pointer (some ⟨g', 0, none⟩)] w fun e w' => e = .returned (.int .i64 0) ∧ GAt w' g base ob cb c (mergeG x y) ∧ Keep (fun b => b = g ∨ b = c) w w' := by
  obtain ⟨q0, q1, q2, q3, q4, q5, q6, q7⟩ := gcell_facts h
  obtain ⟨p0, p1, p2, p3, p4, p5, p6, p7⟩ := gcell_facts h'
  have HA := Lib.hid (alike_any h h' hx.b)
  rw [hbs] at HA
  have hlen : y.cs.length = x.cs.length := by
    have := of_decide_eq_true hbs
    rw [h.len, h'.len, this.1]
  have hM := mean_any x y hx.n0 hx.n1 hy.n0 hy.n1
  have HM := Lib.hid hM
  have HG := Lib.hid (And.intro h (And.intro h' (And.intro hx (And.intro hy hlen))))
  have hxn := hx.n0
  have hxn1 := hx.n1
  have hyn := hy.n0
  have hyn1 := hy.n1
  clear hM h h' hbs hx hy hlen q1 p1
  unfold lcells at HM
  generalize hmv : meanG x y = mv at *
  have HMV := Lib.hid hmv
  clear hmv
  go_enter Try.func22, Try.ntmps22
  go_wp2_with fail
  refine (there_any _ _ q0).mono ?_
  rintro e w1 ⟨rfl, rfl⟩
  go_wp2_with fail
  refine (there_any _ _ p0).mono ?_
  rintro e w1 ⟨rfl, rfl⟩
  go_wp2_with fail
  refine HA.out.mono ?_
  rintro e w1 ⟨rfl, hb1⟩
  have H1 := Lib.hid (And.intro (HG.out.1.keep hb1) (And.intro (HG.out.2.1.keep hb1) hb1))
  obtain ⟨q0, q1, q2, q3, q4, q5, q6, q7⟩ := gcell_facts H1.out.1
  obtain ⟨p0, p1, p2, p3, p4, p5, p6, p7⟩ := gcell_facts H1.out.2.1
  clear hb1 HA p1 q1
  go_wp2_with fail
  have kW : Below w1.heap.size w1 (w1.alloc (.cells (lcells y) 55)) := (Below.refl _ w1).alloc (Nat.le_refl _) _
  have hyb : (w1.alloc (.cells (lcells y) 55)).heap[w1.heap.size]? = some (.cells (lcells y) 55 (0, 0)) := blk_new w1 _
  have H2 := Lib.hid (And.intro (H1.out.1.keep kW) (And.intro (H1.out.2.1.keep kW) (And.intro (H1.out.2.2.trans (kW.mono H1.out.2.2.size)) hyb)))
  have hz2 : (w1.alloc (.cells (lcells y) 55)).heap.size = w1.heap.size + 1 := by simp
  obtain ⟨q0, q1, q2, q3, q4, q5, q6, q7⟩ := gcell_facts H2.out.1
  have y0 : (w1.alloc (.cells (lcells y) 55)).cell? ⟨w1.heap.size, 0, none⟩ = some (.int .i64 y.n) := blk_cell hyb 0
  have y1 : (w1.alloc (.cells (lcells y) 55)).cell? ⟨w1.heap.size, 1, none⟩ = some (.int .i64 y.nn) := blk_cell hyb 1
  have y2 : (w1.alloc (.cells (lcells y) 55)).cell? ⟨w1.heap.size, 2, none⟩ = some (.float .f64 y.le) := blk_cell hyb 2
  have y3 : (w1.alloc (.cells (lcells y) 55)).cell? ⟨w1.heap.size, 3, none⟩ = some (.float .f64 y.gr) := blk_cell hyb 3
  have y4 : (w1.alloc (.cells (lcells y) 55)).cell? ⟨w1.heap.size, 4, none⟩ = some (.float .f64 y.me) := blk_cell hyb 4
  have hgl := lt_of_block H1.out.1.row
  have hcl := lt_of_block H1.out.1.cls
  clear kW hyb p0 p2 p3 p4 p5 p6 p7 H1 q1
  generalize hW2 : w1.alloc (.cells (lcells y) 55) = W2 at *
  have hW2' : w1.alloc (.cells #[.int .i64 y.n, .int .i64 y.nn, .float .f64 y.le, .float .f64 y.gr, .float .f64 y.me] 55) = W2 := hW2
  rw [hW2']
  clear hW2 hW2'
  have hgb5 : g < w1.heap.size := hgl
  have hcb5 : c < w1.heap.size := hcl
  generalize w1.heap.size = b5 at *
  have hb5 : b5 < W2.heap.size := by omega
  go_region_with (go_at_call 42; refine (HM.out _).mono ?_; rintro e w3 ⟨rfl, hb3⟩)
  all_goals
    have hb4 : Below W2.heap.size W2 w3 := ⟨hb3.os, hb3.tape, hb3.output, hb3.size, hb3.block⟩
    have H3 := Lib.hid (And.intro (H2.out.1.keep hb4) (And.intro (H2.out.2.1.keep hb4) (And.intro (H2.out.2.2.1.trans (hb4.mono H2.out.2.2.1.size)) ((hb4.block b5 hb5).trans H2.out.2.2.2))))
    have hb53 : b5 < w3.heap.size := Nat.lt_of_lt_of_le hb5 hb4.size
    clear hb3 hb4 H2 q0 q2 q3 q4 q5 q6 q7 y0 y1 y2 y3 y4
    go_wp2_with fail
    refine (cells_any H3.out.2.1 hsm).mono ?_
    rintro e w4 ⟨v, rfl, hown, hb4⟩
    have hcpos : 0 < y.cs.length := by rw [H3.out.2.1.len]; omega
    obtain ⟨b6, cap, rfl, hb6, hrow⟩ := rowi_of hown hcpos
    have hc4 : c < w3.heap.size := lt_of_block H3.out.1.cls
    have hg4 : g < w3.heap.size := lt_of_block H3.out.1.row
    have H4 := Lib.hid (And.intro (H3.out.1.keep hb4) (And.intro (H3.out.2.2.1.trans (hb4.mono H3.out.2.2.1.size)) (And.intro ((hb4.block b5 hb53).trans H3.out.2.2.2) hrow)))
    have hn2 : y.cs.length = x.cs.length := HG.out.2.2.2.2
    clear hown hrow hb4 hcpos
    generalize hcn : y.cs.length = n at *
    have HCN := Lib.hid (And.intro hcn hn2)
    clear hcn hn2
    go_wp2_with fail
    go_loopg [36] n (fun gq i wr => ∃ k : Nat, ∃ cs' : List Int, gq + k = n ∧ i = .int .i64 (k : Int) ∧ Hid (GAt wr g base ob cb c { x with cs := cs' } ∧ cs'.length = n ∧ (∀ i, i < k → cs'.getD i 0 = x.cs.getD i 0 + y.cs.getD i 0) ∧ (∀ i, k ≤ i → cs'.getD i 0 = x.cs.getD i 0) ∧ Keep (· = c) w4 wr))
    case atStart => exact ⟨0, x.cs, by omega, rfl, ⟨H4.out.1, by rw [HCN.out.2], fun i hi => absurd hi (by omega), fun i _ => rfl, Keep.refl _ _⟩⟩
    case round =>
      obtain ⟨k, cs', hgk, rfl, HK⟩ := hrel
      by_cases hk : k < n
      · have hv6 := (HK.out.2.2.2.2.cell (cell_in (H4.out.2.2.2 k _ ((Array.getElem?_toList (xs := i64s y.cs)).trans (i64s_get y.cs k (by rw [HCN.out.1]; exact hk))))) (by show ¬ b6 = c; omega)).trans (H4.out.2.2.2 k _ ((Array.getElem?_toList (xs := i64s y.cs)).trans (i64s_get y.cs k (by rw [HCN.out.1]; exact hk))))
        have hlk : k < cs'.length := by rw [HK.out.2.1]; exact hk
        have hck := (blk_cell HK.out.1.cls k).trans (i64s_get cs' k hlk)
        have hfk := blk_free HK.out.1.cls k
        have hq2 := (gcell_facts HK.out.1).2.2.1
        have ea : cs'.getD k 0 = x.cs.getD k 0 := HK.out.2.2.2.1 k (Nat.le_refl _)
        have hca := HG.out.2.2.1.c k
        have hcb := HG.out.2.2.2.1.c k
        have hset := HK.out.1.setC k (x.cs.getD k 0 + y.cs.getD k 0)
        have HS := Lib.hid (And.intro hset (And.intro hlk (rfl : x.cs.getD k 0 + y.cs.getD k 0 = x.cs.getD k 0 + y.cs.getD k 0)))
        replace hck : wr.cell? ⟨c, k, none⟩ = some (.int .i64 (x.cs.getD k 0)) := hck.trans (by show some (Value.int .i64 (cs'.getD k 0)) = _; rw [ea])
        have hq2' : wr.cell? ⟨g, 2, none⟩ = some (.slice (some ⟨c, 0, none⟩) n n) := hq2.trans (by show some (Value.slice _ cs'.length cs'.length) = _; rw [HK.out.2.1])
        clear hset hlk hq2 ea
        generalize ha : x.cs.getD k 0 = a at *
        generalize hb : y.cs.getD k 0 = b at *
        have HAB := Lib.hid (And.intro ha hb)
        clear ha hb
        go_wp2_with fail
        go_roundg (gk - 1)
        case measure => omega
        case rel =>
          refine ⟨k + 1, cs'.set k (a + b), by omega, rfl, HS.out.1.1, by rw [List.length_set]; exact HK.out.2.1, fun i hi => ?_, fun i hi => ?_, HK.out.2.2.2.2.trans HS.out.1.2⟩
          · rw [List.getD_eq_getElem?_getD, List.getElem?_set]
            by_cases hik : k = i
            · subst hik
              rw [if_pos rfl, if_pos HS.out.2.1, HAB.out.1, HAB.out.2]
              rfl
            · rw [if_neg hik, ← List.getD_eq_getElem?_getD]
              exact HK.out.2.2.1 i (by omega)
          · rw [List.getD_eq_getElem?_getD, List.getElem?_set, if_neg (by omega), ← List.getD_eq_getElem?_getD]
            exact HK.out.2.2.2.1 i (by omega)
      · have hkn : k = n := by omega
        have hcs : cs' = addC x.cs y.cs := addC_of (by rw [HK.out.2.1, HCN.out.2]) (by rw [HCN.out.1, HCN.out.2]) (fun i hi => HK.out.2.2.1 i (by rw [← HCN.out.2] at hi; omega))
        have hg5 := HK.out.1
        rw [hcs] at hg5
        have hyb : wr.heap[b5]? = some (.cells (lcells y) 55 (0, 0)) := HK.out.2.2.2.2.same H4.out.2.2.1 (by omega)
        have y0 : wr.cell? ⟨b5, 0, none⟩ = some (.int .i64 y.n) := blk_cell hyb 0
        have y1 : wr.cell? ⟨b5, 1, none⟩ = some (.int .i64 y.nn) := blk_cell hyb 1
        have y2 : wr.cell? ⟨b5, 2, none⟩ = some (.float .f64 y.le) := blk_cell hyb 2
        have y3 : wr.cell? ⟨b5, 3, none⟩ = some (.float .f64 y.gr) := blk_cell hyb 3
        have k5 : Keep (fun b => b = g ∨ b = c) w wr := ((Keep.of_below H4.out.2.1).mono fun _ _ h => h.elim).trans (HK.out.2.2.2.2.mono fun _ _ h => Or.inr h)
        have H5 := Lib.hid (And.intro hg5 (And.intro hyb k5))
        have hbg : b5 ≠ g := by omega
        have hnw := HG.out.2.2.1.m1
        have hnw2 := HG.out.2.2.1.m0
        have hnw3 := HG.out.2.2.2.1.m1
        have hnw4 := HG.out.2.2.2.1.m0
        have hwr1 : IntKind.i64.wrap (x.n + y.n) = x.n + y.n := IntWalk.i64_in _ ⟨by omega, by omega⟩
        have hwr2 : IntKind.i64.wrap (x.nn + y.nn) = x.nn + y.nn := IntWalk.i64_in _ ⟨by omega, by omega⟩
        clear hg5 hyb k5 hcs
        by_cases hy0 : 0 < y.n
        · have ey : decide (0 < y.n) = true := by simpa using hy0
          have HME : RowKit.Hid (mergeG x y = { widenS { x with cs := addC x.cs y.cs } y.le y.gr with n := x.n + y.n, nn := x.nn + y.nn, me := mv }) := Lib.hid (by rw [← HMV.out]; simp [mergeG, hy0])
          go_wp2_with fail
          refine (widen_any H5.out.1 y.le y.gr HG.out.2.1.le64 HG.out.2.1.gr64).mono ?_
          rintro e w6 ⟨rfl, hg6, k6⟩
          have hyb6 := k6.same H5.out.2.1 hbg
          replace y0 : w6.cell? ⟨b5, 0, none⟩ = some (.int .i64 y.n) := blk_cell hyb6 0
          replace y1 : w6.cell? ⟨b5, 1, none⟩ = some (.int .i64 y.nn) := blk_cell hyb6 1
          have k56 := H5.out.2.2.trans (k6.mono (cs := fun b => b = g ∨ b = c) fun _ _ h => Or.inl h)
          have H6 := Lib.hid (And.intro hg6 k56)
          clear hg6 k6 k56 hyb6 y2 y3
          have r3 : w6.cell? ⟨g, 3, none⟩ = some (.int .i64 x.n) := (gcell_facts H6.out.1).2.2.2.1
          have rf3 := blk_free (H6.out.1).row 3
          have hw7 : (w6.setCell ⟨g, 3, none⟩ (.int .i64 (x.n + y.n))).heap[g]? = some (.cells (gcells ob cb c { widenS { x with cs := addC x.cs y.cs } y.le y.gr with n := x.n + y.n }) 64 (0, 0)) := blk_set (H6.out.1).row 3 _
          have s4 : (w6.setCell ⟨g, 3, none⟩ (.int .i64 (x.n + y.n))).cell? ⟨g, 4, none⟩ = some (.int .i64 x.nn) := blk_cell hw7 4
          have sf4 := blk_free hw7 4
          have s1 : (w6.setCell ⟨g, 3, none⟩ (.int .i64 (x.n + y.n))).cell? ⟨b5, 1, none⟩ = some (.int .i64 y.nn) := set_other (by simp) y1
          have hw8 : ((w6.setCell ⟨g, 3, none⟩ (.int .i64 (x.n + y.n))).setCell ⟨g, 4, none⟩ (.int .i64 (x.nn + y.nn))).heap[g]? = some (.cells (gcells ob cb c { widenS { x with cs := addC x.cs y.cs } y.le y.gr with n := x.n + y.n, nn := x.nn + y.nn }) 64 (0, 0)) := blk_set hw7 4 _
          have sf7 := blk_free hw8 7
          have s7 : ((w6.setCell ⟨g, 3, none⟩ (.int .i64 (x.n + y.n))).setCell ⟨g, 4, none⟩ (.int .i64 (x.nn + y.nn))).cell? ⟨g, 7, none⟩ = some (.float .f64 x.me) := blk_cell hw8 7
          have hw9 : (((w6.setCell ⟨g, 3, none⟩ (.int .i64 (x.n + y.n))).setCell ⟨g, 4, none⟩ (.int .i64 (x.nn + y.nn))).setCell ⟨g, 7, none⟩ (.float .f64 mv)).heap[g]? = some (.cells (gcells ob cb c { widenS { x with cs := addC x.cs y.cs } y.le y.gr with n := x.n + y.n, nn := x.nn + y.nn, me := mv }) 64 (0, 0)) := blk_set hw8 7 _
          have k9 := Keep.setCell (bs := (· = g)) (Keep.setCell (bs := (· = g)) (Keep.setCell (bs := (· = g)) (Keep.refl _ w6) (p := ⟨g, 3, none⟩) (Or.inl rfl) (.int .i64 (x.n + y.n))) (p := ⟨g, 4, none⟩) (Or.inl rfl) (.int .i64 (x.nn + y.nn))) (p := ⟨g, 7, none⟩) (Or.inl rfl) (.float .f64 mv)
          have H9 := Lib.hid (And.intro hw9 (And.intro k9 (And.intro H6.out.1 H6.out.2)))
          clear hw7 hw8 hw9 k9
          go_wp2_with fail
          go_region
          all_goals go_wp2_with fail
          all_goals go_region
          all_goals go_wp2_with fail
          all_goals go_ret
          all_goals
            refine ⟨rfl, ?_, ?_⟩
            · rw [HME.out]
              refine H9.out.2.2.1.turn ?_ H9.out.1 rfl rfl H9.out.2.2.1.le64 H9.out.2.2.1.gr64
              exact Keep.like H9.out.2.1 rfl rfl rfl rfl
            · refine H9.out.2.2.2.trans ?_
              refine Keep.mono (bs := (· = g)) ?_ (fun _ _ h => Or.inl h)
              exact Keep.like H9.out.2.1 rfl rfl rfl rfl
        · have ey : decide (0 < y.n) = false := by simpa using hy0
          have HME : RowKit.Hid (mergeG x y = { x with cs := addC x.cs y.cs, n := x.n + y.n, nn := x.nn + y.nn, me := mv }) := Lib.hid (by rw [← HMV.out]; simp [mergeG, hy0])
          have r3 : wr.cell? ⟨g, 3, none⟩ = some (.int .i64 x.n) := (gcell_facts H5.out.1).2.2.2.1
          have rf3 := blk_free (H5.out.1).row 3
          have hw7 : (wr.setCell ⟨g, 3, none⟩ (.int .i64 (x.n + y.n))).heap[g]? = some (.cells (gcells ob cb c { ({ x with cs := addC x.cs y.cs } : G) with n := x.n + y.n }) 64 (0, 0)) := blk_set (H5.out.1).row 3 _
          have s4 : (wr.setCell ⟨g, 3, none⟩ (.int .i64 (x.n + y.n))).cell? ⟨g, 4, none⟩ = some (.int .i64 x.nn) := blk_cell hw7 4
          have sf4 := blk_free hw7 4
          have s1 : (wr.setCell ⟨g, 3, none⟩ (.int .i64 (x.n + y.n))).cell? ⟨b5, 1, none⟩ = some (.int .i64 y.nn) := set_other (by simp) y1
          have hw8 : ((wr.setCell ⟨g, 3, none⟩ (.int .i64 (x.n + y.n))).setCell ⟨g, 4, none⟩ (.int .i64 (x.nn + y.nn))).heap[g]? = some (.cells (gcells ob cb c { ({ x with cs := addC x.cs y.cs } : G) with n := x.n + y.n, nn := x.nn + y.nn }) 64 (0, 0)) := blk_set hw7 4 _
          have sf7 := blk_free hw8 7
          have s7 : ((wr.setCell ⟨g, 3, none⟩ (.int .i64 (x.n + y.n))).setCell ⟨g, 4, none⟩ (.int .i64 (x.nn + y.nn))).cell? ⟨g, 7, none⟩ = some (.float .f64 x.me) := blk_cell hw8 7
          have hw9 : (((wr.setCell ⟨g, 3, none⟩ (.int .i64 (x.n + y.n))).setCell ⟨g, 4, none⟩ (.int .i64 (x.nn + y.nn))).setCell ⟨g, 7, none⟩ (.float .f64 mv)).heap[g]? = some (.cells (gcells ob cb c { ({ x with cs := addC x.cs y.cs } : G) with n := x.n + y.n, nn := x.nn + y.nn, me := mv }) 64 (0, 0)) := blk_set hw8 7 _
          have k9 := Keep.setCell (bs := (· = g)) (Keep.setCell (bs := (· = g)) (Keep.setCell (bs := (· = g)) (Keep.refl _ wr) (p := ⟨g, 3, none⟩) (Or.inl rfl) (.int .i64 (x.n + y.n))) (p := ⟨g, 4, none⟩) (Or.inl rfl) (.int .i64 (x.nn + y.nn))) (p := ⟨g, 7, none⟩) (Or.inl rfl) (.float .f64 mv)
          have H9 := Lib.hid (And.intro hw9 (And.intro k9 (And.intro H5.out.1 H5.out.2.2)))
          clear hw7 hw8 hw9 k9
          go_wp2_with fail
          go_region
          all_goals go_wp2_with fail
          all_goals go_region
          all_goals go_wp2_with fail
          all_goals go_ret
          all_goals
            refine ⟨rfl, ?_, ?_⟩
            · rw [HME.out]
              refine H9.out.2.2.1.turn ?_ H9.out.1 rfl rfl H9.out.2.2.1.le64 H9.out.2.2.1.gr64
              exact Keep.like H9.out.2.1 rfl rfl rfl rfl
            · refine H9.out.2.2.2.trans ?_
              refine Keep.mono (bs := (· = g)) ?_ (fun _ _ h => Or.inl h)
              exact Keep.like H9.out.2.1 rfl rfl rfl rfl
end Go.Proofs.Ytdkcnbcjjlaidaa
