/- The reference's Put of a number. By an AI agent. -/
import Derived.Test.YtdkcnbcjjlaidaaGaAe
namespace Go.Proofs.Ytdkcnbcjjlaidaa
open Go.ChangeShapes Go.WideShapes Go.ChangeAt Go.RowKit
set_option linter.unusedVariables false

theorem Keep_op {bs : Nat → Prop} {a w : World} (op : BinOp) (x y : Nat) (h : Keep bs a w) : Keep bs a (opW op x y w).2 := h.trans (opW_keep bs op x y w)

set_option maxRecDepth 100000 in
set_option maxHeartbeats 32000000 in
theorem rput_num {w : World} {g base : Nat} {ob : Option Addr} {cb c : Nat} {x : G} (h : RAt w g base ob cb c x) (hx : Calm x) (hR : Rises x.bs) (v : Nat) (hv : Flt.nan v = false) (hv64 : v < 2 ^ 64) :
    Calls Try.prog 20 #[.pointer (some ⟨g, 0, none⟩), .float .f64 v] w fun e w' => e = .returned (.tuple #[]) ∧ RAt w' g base ob cb c (putG x v) ∧ Keep (fun b => b = g ∨ b = c) w w' := by
  obtain ⟨q0, q1, q2, q3, q4, q5, q6⟩ := rcell_facts h
  have o1 : ∀ t w a b, (binOp .sub t (.float .f64 a) (.float .f64 b)).run Try.prog w = .ok (.float .f64 (opW .sub a b w).1) (opW .sub a b w).2 := fun t w a b => run_opW (Or.inr (Or.inl rfl)) _ t a b w
  have o2 : ∀ t w a b, (binOp .quo t (.float .f64 a) (.float .f64 b)).run Try.prog w = .ok (.float .f64 (opW .quo a b w).1) (opW .quo a b w).2 := fun t w a b => run_opW (Or.inr (Or.inr (Or.inr rfl))) _ t a b w
  have o3 : ∀ t w a b, (binOp .add t (.float .f64 a) (.float .f64 b)).run Try.prog w = .ok (.float .f64 (opW .add a b w).1) (opW .add a b w).2 := fun t w a b => run_opW (Or.inl rfl) _ t a b w
  have oc := opW_cell
  have of := opW_frozen
  obtain ⟨n0, n1, -, -, hcc, hbl⟩ := hx
  have HNA := Lib.hid (nan3_any v)
  rw [hv] at HNA
  have hix := cell_lt x.bs v
  have hcv := hcc (cellIx x.bs v)
  have HF := Lib.hid (And.intro h (And.intro hv64 (cell_first hR v)))
  have hkc : (i64s x.cs)[cellIx x.bs v]? = some (.int .i64 (x.cs.getD (cellIx x.bs v) 0)) := i64s_get x.cs (cellIx x.bs v) (by rw [h.len]; exact hix)
  have r1 := (blk_cell h.cls (cellIx x.bs v)).trans hkc
  have r2 := blk_free h.cls (cellIx x.bs v)
  have hlc := h.len
  have HSET := Lib.hid (h.setC (cellIx x.bs v) (x.cs.getD (cellIx x.bs v) 0 + 1))
  have HPE : RowKit.Hid (putG x v = { widenS (bump x (cellIx x.bs v)) v v with n := x.n + 1, me := meF x v }) := Lib.hid rfl
  generalize putG x v = R at *
  clear h hR hv hv64 hcc hkc
  generalize hixe : cellIx x.bs v = ix at *
  clear hixe
  generalize hcx : x.cs.getD ix 0 = cx at *
  have HCX := Lib.hid hcx
  clear hcx
  generalize hnb : x.bs.length = nb at *
  have HNB := Lib.hid hnb
  clear hnb
  go_enter Try.func20, Try.ntmps20
  go_wp2_with fail
  refine (HNA.out _).mono ?_
  rintro e w' ⟨rfl, rfl⟩
  go_wp2_with fail
  go_loopg [4] (ix + 1) (fun gq i wr => ∃ k : Nat, gq + k = ix + 1 ∧ i = .int .i64 (k : Int) ∧ wr = w ∧ k ≤ ix)
  case atStart => exact ⟨0, by omega, rfl, rfl, by omega⟩
  case round =>
    obtain ⟨k, hgk, rfl, rfl, hki⟩ := hrel
    by_cases hk : k = ix
    · subst hk
      by_cases hkb : k < nb
      · obtain ⟨ad, rfl, hcell⟩ := HF.out.1.fls k (by rw [HNB.out]; exact hkb)
        have HCB := Lib.hid (cmp3_any v (x.bs.getD k 0) HF.out.2.1 (HF.out.1.lt k))
        have hge := HF.out.2.2.2 hkb
        have hzb : decide (0 < cmpF v (x.bs.getD k 0)) = false := by
          rw [decide_eq_false_iff_not, cmp_pos]
          omega
        clear hge
        generalize x.bs.getD k 0 = yb at *
        generalize cmpF v yb = zb at *
        by_cases hn0 : x.n = 0
        · have e0 : (x.n == 0) = true := by simpa using hn0
          have HPX : RowKit.Hid (R = ({ x with cs := x.cs.set k (cx + 1), n := 1, me := meF x v, le := v, gr := v } : G)) := Lib.hid (by rw [HPE.out]; simp only [widenS, bump]; have hc2 := HCX.out; rw [List.getD_eq_getElem?_getD] at hc2; simp [hn0, hc2])
          have hw0 : (wr.setCell ⟨c, k, none⟩ (.int .i64 (cx + 1))).heap[g]? = some (.cells (rcells (some ad) cb c ({ x with cs := x.cs.set k (cx + 1) } : G)) 69 (0, 0)) := HSET.out.1.row
          have c0_2 : (wr.setCell ⟨c, k, none⟩ (.int .i64 (cx + 1))).cell? ⟨g, 2, none⟩ = some (.int .i64 x.n) := blk_cell hw0 2
          have f0_2 := blk_free hw0 2
          have c0_4 : (wr.setCell ⟨c, k, none⟩ (.int .i64 (cx + 1))).cell? ⟨g, 4, none⟩ = some (.float .f64 x.le) := blk_cell hw0 4
          have f0_4 := blk_free hw0 4
          have c0_5 : (wr.setCell ⟨c, k, none⟩ (.int .i64 (cx + 1))).cell? ⟨g, 5, none⟩ = some (.float .f64 x.gr) := blk_cell hw0 5
          have f0_5 := blk_free hw0 5
          have c0_6 : (wr.setCell ⟨c, k, none⟩ (.int .i64 (cx + 1))).cell? ⟨g, 6, none⟩ = some (.float .f64 x.me) := blk_cell hw0 6
          have f0_6 := blk_free hw0 6
          have hw1 : ((wr.setCell ⟨c, k, none⟩ (.int .i64 (cx + 1))).setCell ⟨g, 4, none⟩ (.float .f64 v)).heap[g]? = some (.cells (rcells (some ad) cb c ({ x with cs := x.cs.set k (cx + 1), le := v } : G)) 69 (0, 0)) := blk_set hw0 4 _
          have kk1 := Keep.setCell (bs := (· = g)) (Keep.refl _ (wr.setCell ⟨c, k, none⟩ (.int .i64 (cx + 1)))) (p := ⟨g, 4, none⟩) (Or.inl rfl) (.float .f64 v)
          have c1_2 : ((wr.setCell ⟨c, k, none⟩ (.int .i64 (cx + 1))).setCell ⟨g, 4, none⟩ (.float .f64 v)).cell? ⟨g, 2, none⟩ = some (.int .i64 x.n) := blk_cell hw1 2
          have f1_2 := blk_free hw1 2
          have c1_4 : ((wr.setCell ⟨c, k, none⟩ (.int .i64 (cx + 1))).setCell ⟨g, 4, none⟩ (.float .f64 v)).cell? ⟨g, 4, none⟩ = some (.float .f64 v) := blk_cell hw1 4
          have f1_4 := blk_free hw1 4
          have c1_5 : ((wr.setCell ⟨c, k, none⟩ (.int .i64 (cx + 1))).setCell ⟨g, 4, none⟩ (.float .f64 v)).cell? ⟨g, 5, none⟩ = some (.float .f64 x.gr) := blk_cell hw1 5
          have f1_5 := blk_free hw1 5
          have c1_6 : ((wr.setCell ⟨c, k, none⟩ (.int .i64 (cx + 1))).setCell ⟨g, 4, none⟩ (.float .f64 v)).cell? ⟨g, 6, none⟩ = some (.float .f64 x.me) := blk_cell hw1 6
          have f1_6 := blk_free hw1 6
          have hw2 : (((wr.setCell ⟨c, k, none⟩ (.int .i64 (cx + 1))).setCell ⟨g, 4, none⟩ (.float .f64 v)).setCell ⟨g, 5, none⟩ (.float .f64 v)).heap[g]? = some (.cells (rcells (some ad) cb c ({ x with cs := x.cs.set k (cx + 1), le := v, gr := v } : G)) 69 (0, 0)) := blk_set hw1 5 _
          have kk2 := Keep.setCell (bs := (· = g)) (Keep.refl _ ((wr.setCell ⟨c, k, none⟩ (.int .i64 (cx + 1))).setCell ⟨g, 4, none⟩ (.float .f64 v))) (p := ⟨g, 5, none⟩) (Or.inl rfl) (.float .f64 v)
          have c2_2 : (((wr.setCell ⟨c, k, none⟩ (.int .i64 (cx + 1))).setCell ⟨g, 4, none⟩ (.float .f64 v)).setCell ⟨g, 5, none⟩ (.float .f64 v)).cell? ⟨g, 2, none⟩ = some (.int .i64 x.n) := blk_cell hw2 2
          have f2_2 := blk_free hw2 2
          have c2_4 : (((wr.setCell ⟨c, k, none⟩ (.int .i64 (cx + 1))).setCell ⟨g, 4, none⟩ (.float .f64 v)).setCell ⟨g, 5, none⟩ (.float .f64 v)).cell? ⟨g, 4, none⟩ = some (.float .f64 v) := blk_cell hw2 4
          have f2_4 := blk_free hw2 4
          have c2_5 : (((wr.setCell ⟨c, k, none⟩ (.int .i64 (cx + 1))).setCell ⟨g, 4, none⟩ (.float .f64 v)).setCell ⟨g, 5, none⟩ (.float .f64 v)).cell? ⟨g, 5, none⟩ = some (.float .f64 v) := blk_cell hw2 5
          have f2_5 := blk_free hw2 5
          have c2_6 : (((wr.setCell ⟨c, k, none⟩ (.int .i64 (cx + 1))).setCell ⟨g, 4, none⟩ (.float .f64 v)).setCell ⟨g, 5, none⟩ (.float .f64 v)).cell? ⟨g, 6, none⟩ = some (.float .f64 x.me) := blk_cell hw2 6
          have f2_6 := blk_free hw2 6
          have hw3 : ((((wr.setCell ⟨c, k, none⟩ (.int .i64 (cx + 1))).setCell ⟨g, 4, none⟩ (.float .f64 v)).setCell ⟨g, 5, none⟩ (.float .f64 v)).setCell ⟨g, 2, none⟩ (.int .i64 (x.n + 1))).heap[g]? = some (.cells (rcells (some ad) cb c ({ x with cs := x.cs.set k (cx + 1), n := x.n + 1, le := v, gr := v } : G)) 69 (0, 0)) := blk_set hw2 2 _
          have kk3 := Keep.setCell (bs := (· = g)) (Keep.refl _ (((wr.setCell ⟨c, k, none⟩ (.int .i64 (cx + 1))).setCell ⟨g, 4, none⟩ (.float .f64 v)).setCell ⟨g, 5, none⟩ (.float .f64 v))) (p := ⟨g, 2, none⟩) (Or.inl rfl) (.int .i64 (x.n + 1))
          have c3_2 : ((((wr.setCell ⟨c, k, none⟩ (.int .i64 (cx + 1))).setCell ⟨g, 4, none⟩ (.float .f64 v)).setCell ⟨g, 5, none⟩ (.float .f64 v)).setCell ⟨g, 2, none⟩ (.int .i64 (x.n + 1))).cell? ⟨g, 2, none⟩ = some (.int .i64 (x.n + 1)) := blk_cell hw3 2
          have f3_2 := blk_free hw3 2
          have c3_4 : ((((wr.setCell ⟨c, k, none⟩ (.int .i64 (cx + 1))).setCell ⟨g, 4, none⟩ (.float .f64 v)).setCell ⟨g, 5, none⟩ (.float .f64 v)).setCell ⟨g, 2, none⟩ (.int .i64 (x.n + 1))).cell? ⟨g, 4, none⟩ = some (.float .f64 v) := blk_cell hw3 4
          have f3_4 := blk_free hw3 4
          have c3_5 : ((((wr.setCell ⟨c, k, none⟩ (.int .i64 (cx + 1))).setCell ⟨g, 4, none⟩ (.float .f64 v)).setCell ⟨g, 5, none⟩ (.float .f64 v)).setCell ⟨g, 2, none⟩ (.int .i64 (x.n + 1))).cell? ⟨g, 5, none⟩ = some (.float .f64 v) := blk_cell hw3 5
          have f3_5 := blk_free hw3 5
          have c3_6 : ((((wr.setCell ⟨c, k, none⟩ (.int .i64 (cx + 1))).setCell ⟨g, 4, none⟩ (.float .f64 v)).setCell ⟨g, 5, none⟩ (.float .f64 v)).setCell ⟨g, 2, none⟩ (.int .i64 (x.n + 1))).cell? ⟨g, 6, none⟩ = some (.float .f64 x.me) := blk_cell hw3 6
          have f3_6 := blk_free hw3 6
          have HEND := Lib.hid (And.intro ((kk1.trans kk2).trans kk3) hw3)
          clear hw0 hw1 hw2 hw3 kk1 kk2 kk3
          go_wp2_with fail
          refine (HCB.out _).mono ?_
          rintro e w' ⟨rfl, rfl⟩
          go_wp2_with fail
          refine (canon3_any _ _).mono ?_
          rintro e w' ⟨rfl, rfl⟩
          rw [mean_chain]
          go_wp2_with fail
          have hx1 : x.n + 1 = 1 := by omega
          rw [hx1] at HEND
          have hme : canonF (opF .add x.me (opF .quo (opF .sub v x.me) (floatOfInt .f64 1))) = meF x v := by unfold meF; rw [hx1]
          rw [hme]
          go_end0
          refine ⟨rfl, ?_, ?_⟩
          · rw [HPX.out]
            have hrow := HEND.out.2
            refine HSET.out.1.turn ?_ (blk_set (c := rcells (some ad) cb c ({ x with cs := x.cs.set k (cx + 1), n := 1, le := v, gr := v } : G)) (t := 69) ?_ 6 _) rfl rfl ?_ ?_
            · refine Keep.setCell (bs := (· = g)) ?_ (Or.inl rfl) _
              exact Keep_op _ _ _ (Keep_op _ _ _ (Keep_op _ _ _ HEND.out.1))
            · rw [opW_heap, opW_heap, opW_heap]
              exact hrow
            · first | exact HF.out.2.1 | exact HF.out.1.le64
            · first | exact HF.out.2.1 | exact HF.out.1.gr64
          · refine (HSET.out.2.mono fun _ _ h => Or.inr h).trans ?_
            refine Keep.mono (bs := (· = g)) ?_ (fun _ _ h => Or.inl h)
            refine Keep.setCell (bs := (· = g)) ?_ (Or.inl rfl) _
            exact Keep_op _ _ _ (Keep_op _ _ _ (Keep_op _ _ _ HEND.out.1))
        · have e0 : (x.n == 0) = false := by simpa using hn0
          have HCL := Lib.hid (cmp3_any v x.le HF.out.2.1 HF.out.1.le64)
          have HCG := Lib.hid (cmp3_any v x.gr HF.out.2.1 HF.out.1.gr64)
          by_cases hL : cmpF v x.le < 0
          · by_cases hG : 0 < cmpF v x.gr
            · skip
              have HPX : RowKit.Hid (R = ({ x with cs := x.cs.set k (cx + 1), n := x.n + 1, me := meF x v, le := v, gr := v } : G)) := Lib.hid (by rw [HPE.out]; simp only [widenS, bump]; have hc2 := HCX.out; rw [List.getD_eq_getElem?_getD] at hc2; simp [hn0, hL, hG, hc2])
              have hw0 : (wr.setCell ⟨c, k, none⟩ (.int .i64 (cx + 1))).heap[g]? = some (.cells (rcells (some ad) cb c ({ x with cs := x.cs.set k (cx + 1) } : G)) 69 (0, 0)) := HSET.out.1.row
              have c0_2 : (wr.setCell ⟨c, k, none⟩ (.int .i64 (cx + 1))).cell? ⟨g, 2, none⟩ = some (.int .i64 x.n) := blk_cell hw0 2
              have f0_2 := blk_free hw0 2
              have c0_4 : (wr.setCell ⟨c, k, none⟩ (.int .i64 (cx + 1))).cell? ⟨g, 4, none⟩ = some (.float .f64 x.le) := blk_cell hw0 4
              have f0_4 := blk_free hw0 4
              have c0_5 : (wr.setCell ⟨c, k, none⟩ (.int .i64 (cx + 1))).cell? ⟨g, 5, none⟩ = some (.float .f64 x.gr) := blk_cell hw0 5
              have f0_5 := blk_free hw0 5
              have c0_6 : (wr.setCell ⟨c, k, none⟩ (.int .i64 (cx + 1))).cell? ⟨g, 6, none⟩ = some (.float .f64 x.me) := blk_cell hw0 6
              have f0_6 := blk_free hw0 6
              have hw1 : ((wr.setCell ⟨c, k, none⟩ (.int .i64 (cx + 1))).setCell ⟨g, 4, none⟩ (.float .f64 v)).heap[g]? = some (.cells (rcells (some ad) cb c ({ x with cs := x.cs.set k (cx + 1), le := v } : G)) 69 (0, 0)) := blk_set hw0 4 _
              have kk1 := Keep.setCell (bs := (· = g)) (Keep.refl _ (wr.setCell ⟨c, k, none⟩ (.int .i64 (cx + 1)))) (p := ⟨g, 4, none⟩) (Or.inl rfl) (.float .f64 v)
              have c1_2 : ((wr.setCell ⟨c, k, none⟩ (.int .i64 (cx + 1))).setCell ⟨g, 4, none⟩ (.float .f64 v)).cell? ⟨g, 2, none⟩ = some (.int .i64 x.n) := blk_cell hw1 2
              have f1_2 := blk_free hw1 2
              have c1_4 : ((wr.setCell ⟨c, k, none⟩ (.int .i64 (cx + 1))).setCell ⟨g, 4, none⟩ (.float .f64 v)).cell? ⟨g, 4, none⟩ = some (.float .f64 v) := blk_cell hw1 4
              have f1_4 := blk_free hw1 4
              have c1_5 : ((wr.setCell ⟨c, k, none⟩ (.int .i64 (cx + 1))).setCell ⟨g, 4, none⟩ (.float .f64 v)).cell? ⟨g, 5, none⟩ = some (.float .f64 x.gr) := blk_cell hw1 5
              have f1_5 := blk_free hw1 5
              have c1_6 : ((wr.setCell ⟨c, k, none⟩ (.int .i64 (cx + 1))).setCell ⟨g, 4, none⟩ (.float .f64 v)).cell? ⟨g, 6, none⟩ = some (.float .f64 x.me) := blk_cell hw1 6
              have f1_6 := blk_free hw1 6
              have hw2 : (((wr.setCell ⟨c, k, none⟩ (.int .i64 (cx + 1))).setCell ⟨g, 4, none⟩ (.float .f64 v)).setCell ⟨g, 5, none⟩ (.float .f64 v)).heap[g]? = some (.cells (rcells (some ad) cb c ({ x with cs := x.cs.set k (cx + 1), le := v, gr := v } : G)) 69 (0, 0)) := blk_set hw1 5 _
              have kk2 := Keep.setCell (bs := (· = g)) (Keep.refl _ ((wr.setCell ⟨c, k, none⟩ (.int .i64 (cx + 1))).setCell ⟨g, 4, none⟩ (.float .f64 v))) (p := ⟨g, 5, none⟩) (Or.inl rfl) (.float .f64 v)
              have c2_2 : (((wr.setCell ⟨c, k, none⟩ (.int .i64 (cx + 1))).setCell ⟨g, 4, none⟩ (.float .f64 v)).setCell ⟨g, 5, none⟩ (.float .f64 v)).cell? ⟨g, 2, none⟩ = some (.int .i64 x.n) := blk_cell hw2 2
              have f2_2 := blk_free hw2 2
              have c2_4 : (((wr.setCell ⟨c, k, none⟩ (.int .i64 (cx + 1))).setCell ⟨g, 4, none⟩ (.float .f64 v)).setCell ⟨g, 5, none⟩ (.float .f64 v)).cell? ⟨g, 4, none⟩ = some (.float .f64 v) := blk_cell hw2 4
              have f2_4 := blk_free hw2 4
              have c2_5 : (((wr.setCell ⟨c, k, none⟩ (.int .i64 (cx + 1))).setCell ⟨g, 4, none⟩ (.float .f64 v)).setCell ⟨g, 5, none⟩ (.float .f64 v)).cell? ⟨g, 5, none⟩ = some (.float .f64 v) := blk_cell hw2 5
              have f2_5 := blk_free hw2 5
              have c2_6 : (((wr.setCell ⟨c, k, none⟩ (.int .i64 (cx + 1))).setCell ⟨g, 4, none⟩ (.float .f64 v)).setCell ⟨g, 5, none⟩ (.float .f64 v)).cell? ⟨g, 6, none⟩ = some (.float .f64 x.me) := blk_cell hw2 6
              have f2_6 := blk_free hw2 6
              have hw3 : ((((wr.setCell ⟨c, k, none⟩ (.int .i64 (cx + 1))).setCell ⟨g, 4, none⟩ (.float .f64 v)).setCell ⟨g, 5, none⟩ (.float .f64 v)).setCell ⟨g, 2, none⟩ (.int .i64 (x.n + 1))).heap[g]? = some (.cells (rcells (some ad) cb c ({ x with cs := x.cs.set k (cx + 1), n := x.n + 1, le := v, gr := v } : G)) 69 (0, 0)) := blk_set hw2 2 _
              have kk3 := Keep.setCell (bs := (· = g)) (Keep.refl _ (((wr.setCell ⟨c, k, none⟩ (.int .i64 (cx + 1))).setCell ⟨g, 4, none⟩ (.float .f64 v)).setCell ⟨g, 5, none⟩ (.float .f64 v))) (p := ⟨g, 2, none⟩) (Or.inl rfl) (.int .i64 (x.n + 1))
              have c3_2 : ((((wr.setCell ⟨c, k, none⟩ (.int .i64 (cx + 1))).setCell ⟨g, 4, none⟩ (.float .f64 v)).setCell ⟨g, 5, none⟩ (.float .f64 v)).setCell ⟨g, 2, none⟩ (.int .i64 (x.n + 1))).cell? ⟨g, 2, none⟩ = some (.int .i64 (x.n + 1)) := blk_cell hw3 2
              have f3_2 := blk_free hw3 2
              have c3_4 : ((((wr.setCell ⟨c, k, none⟩ (.int .i64 (cx + 1))).setCell ⟨g, 4, none⟩ (.float .f64 v)).setCell ⟨g, 5, none⟩ (.float .f64 v)).setCell ⟨g, 2, none⟩ (.int .i64 (x.n + 1))).cell? ⟨g, 4, none⟩ = some (.float .f64 v) := blk_cell hw3 4
              have f3_4 := blk_free hw3 4
              have c3_5 : ((((wr.setCell ⟨c, k, none⟩ (.int .i64 (cx + 1))).setCell ⟨g, 4, none⟩ (.float .f64 v)).setCell ⟨g, 5, none⟩ (.float .f64 v)).setCell ⟨g, 2, none⟩ (.int .i64 (x.n + 1))).cell? ⟨g, 5, none⟩ = some (.float .f64 v) := blk_cell hw3 5
              have f3_5 := blk_free hw3 5
              have c3_6 : ((((wr.setCell ⟨c, k, none⟩ (.int .i64 (cx + 1))).setCell ⟨g, 4, none⟩ (.float .f64 v)).setCell ⟨g, 5, none⟩ (.float .f64 v)).setCell ⟨g, 2, none⟩ (.int .i64 (x.n + 1))).cell? ⟨g, 6, none⟩ = some (.float .f64 x.me) := blk_cell hw3 6
              have f3_6 := blk_free hw3 6
              have HEND := Lib.hid (And.intro ((kk1.trans kk2).trans kk3) hw3)
              clear hw0 hw1 hw2 hw3 kk1 kk2 kk3
              generalize cmpF v x.le = z1 at *
              generalize cmpF v x.gr = z2 at *
              have d1 : decide (z1 < 0) = true := by simpa using hL
              have d2 : decide (0 < z2) = true := by simpa using hG
              go_wp2_with fail
              refine (HCB.out _).mono ?_
              rintro e w' ⟨rfl, rfl⟩
              go_wp2_with fail
              refine (HCL.out _).mono ?_
              rintro e w' ⟨rfl, rfl⟩
              go_wp2_with fail
              refine (HCG.out _).mono ?_
              rintro e w' ⟨rfl, rfl⟩
              go_wp2_with fail
              refine (canon3_any _ _).mono ?_
              rintro e w' ⟨rfl, rfl⟩
              rw [mean_chain]
              go_wp2_with fail
              have hme : canonF (opF .add x.me (opF .quo (opF .sub v x.me) (floatOfInt .f64 (x.n + 1)))) = meF x v := rfl
              rw [hme]
              go_end0
              refine ⟨rfl, ?_, ?_⟩
              · rw [HPX.out]
                have hrow := HEND.out.2
                refine HSET.out.1.turn ?_ (blk_set (c := rcells (some ad) cb c ({ x with cs := x.cs.set k (cx + 1), n := x.n + 1, le := v, gr := v } : G)) (t := 69) ?_ 6 _) rfl rfl ?_ ?_
                · refine Keep.setCell (bs := (· = g)) ?_ (Or.inl rfl) _
                  exact Keep_op _ _ _ (Keep_op _ _ _ (Keep_op _ _ _ HEND.out.1))
                · rw [opW_heap, opW_heap, opW_heap]
                  exact hrow
                · first | exact HF.out.2.1 | exact HF.out.1.le64
                · first | exact HF.out.2.1 | exact HF.out.1.gr64
              · refine (HSET.out.2.mono fun _ _ h => Or.inr h).trans ?_
                refine Keep.mono (bs := (· = g)) ?_ (fun _ _ h => Or.inl h)
                refine Keep.setCell (bs := (· = g)) ?_ (Or.inl rfl) _
                exact Keep_op _ _ _ (Keep_op _ _ _ (Keep_op _ _ _ HEND.out.1))
            · skip
              have HPX : RowKit.Hid (R = ({ x with cs := x.cs.set k (cx + 1), n := x.n + 1, me := meF x v, le := v } : G)) := Lib.hid (by rw [HPE.out]; simp only [widenS, bump]; have hc2 := HCX.out; rw [List.getD_eq_getElem?_getD] at hc2; simp [hn0, hL, hG, hc2])
              have hw0 : (wr.setCell ⟨c, k, none⟩ (.int .i64 (cx + 1))).heap[g]? = some (.cells (rcells (some ad) cb c ({ x with cs := x.cs.set k (cx + 1) } : G)) 69 (0, 0)) := HSET.out.1.row
              have c0_2 : (wr.setCell ⟨c, k, none⟩ (.int .i64 (cx + 1))).cell? ⟨g, 2, none⟩ = some (.int .i64 x.n) := blk_cell hw0 2
              have f0_2 := blk_free hw0 2
              have c0_4 : (wr.setCell ⟨c, k, none⟩ (.int .i64 (cx + 1))).cell? ⟨g, 4, none⟩ = some (.float .f64 x.le) := blk_cell hw0 4
              have f0_4 := blk_free hw0 4
              have c0_5 : (wr.setCell ⟨c, k, none⟩ (.int .i64 (cx + 1))).cell? ⟨g, 5, none⟩ = some (.float .f64 x.gr) := blk_cell hw0 5
              have f0_5 := blk_free hw0 5
              have c0_6 : (wr.setCell ⟨c, k, none⟩ (.int .i64 (cx + 1))).cell? ⟨g, 6, none⟩ = some (.float .f64 x.me) := blk_cell hw0 6
              have f0_6 := blk_free hw0 6
              have hw1 : ((wr.setCell ⟨c, k, none⟩ (.int .i64 (cx + 1))).setCell ⟨g, 4, none⟩ (.float .f64 v)).heap[g]? = some (.cells (rcells (some ad) cb c ({ x with cs := x.cs.set k (cx + 1), le := v } : G)) 69 (0, 0)) := blk_set hw0 4 _
              have kk1 := Keep.setCell (bs := (· = g)) (Keep.refl _ (wr.setCell ⟨c, k, none⟩ (.int .i64 (cx + 1)))) (p := ⟨g, 4, none⟩) (Or.inl rfl) (.float .f64 v)
              have c1_2 : ((wr.setCell ⟨c, k, none⟩ (.int .i64 (cx + 1))).setCell ⟨g, 4, none⟩ (.float .f64 v)).cell? ⟨g, 2, none⟩ = some (.int .i64 x.n) := blk_cell hw1 2
              have f1_2 := blk_free hw1 2
              have c1_4 : ((wr.setCell ⟨c, k, none⟩ (.int .i64 (cx + 1))).setCell ⟨g, 4, none⟩ (.float .f64 v)).cell? ⟨g, 4, none⟩ = some (.float .f64 v) := blk_cell hw1 4
              have f1_4 := blk_free hw1 4
              have c1_5 : ((wr.setCell ⟨c, k, none⟩ (.int .i64 (cx + 1))).setCell ⟨g, 4, none⟩ (.float .f64 v)).cell? ⟨g, 5, none⟩ = some (.float .f64 x.gr) := blk_cell hw1 5
              have f1_5 := blk_free hw1 5
              have c1_6 : ((wr.setCell ⟨c, k, none⟩ (.int .i64 (cx + 1))).setCell ⟨g, 4, none⟩ (.float .f64 v)).cell? ⟨g, 6, none⟩ = some (.float .f64 x.me) := blk_cell hw1 6
              have f1_6 := blk_free hw1 6
              have hw2 : (((wr.setCell ⟨c, k, none⟩ (.int .i64 (cx + 1))).setCell ⟨g, 4, none⟩ (.float .f64 v)).setCell ⟨g, 2, none⟩ (.int .i64 (x.n + 1))).heap[g]? = some (.cells (rcells (some ad) cb c ({ x with cs := x.cs.set k (cx + 1), n := x.n + 1, le := v } : G)) 69 (0, 0)) := blk_set hw1 2 _
              have kk2 := Keep.setCell (bs := (· = g)) (Keep.refl _ ((wr.setCell ⟨c, k, none⟩ (.int .i64 (cx + 1))).setCell ⟨g, 4, none⟩ (.float .f64 v))) (p := ⟨g, 2, none⟩) (Or.inl rfl) (.int .i64 (x.n + 1))
              have c2_2 : (((wr.setCell ⟨c, k, none⟩ (.int .i64 (cx + 1))).setCell ⟨g, 4, none⟩ (.float .f64 v)).setCell ⟨g, 2, none⟩ (.int .i64 (x.n + 1))).cell? ⟨g, 2, none⟩ = some (.int .i64 (x.n + 1)) := blk_cell hw2 2
              have f2_2 := blk_free hw2 2
              have c2_4 : (((wr.setCell ⟨c, k, none⟩ (.int .i64 (cx + 1))).setCell ⟨g, 4, none⟩ (.float .f64 v)).setCell ⟨g, 2, none⟩ (.int .i64 (x.n + 1))).cell? ⟨g, 4, none⟩ = some (.float .f64 v) := blk_cell hw2 4
              have f2_4 := blk_free hw2 4
              have c2_5 : (((wr.setCell ⟨c, k, none⟩ (.int .i64 (cx + 1))).setCell ⟨g, 4, none⟩ (.float .f64 v)).setCell ⟨g, 2, none⟩ (.int .i64 (x.n + 1))).cell? ⟨g, 5, none⟩ = some (.float .f64 x.gr) := blk_cell hw2 5
              have f2_5 := blk_free hw2 5
              have c2_6 : (((wr.setCell ⟨c, k, none⟩ (.int .i64 (cx + 1))).setCell ⟨g, 4, none⟩ (.float .f64 v)).setCell ⟨g, 2, none⟩ (.int .i64 (x.n + 1))).cell? ⟨g, 6, none⟩ = some (.float .f64 x.me) := blk_cell hw2 6
              have f2_6 := blk_free hw2 6
              have HEND := Lib.hid (And.intro (kk1.trans kk2) hw2)
              clear hw0 hw1 hw2 kk1 kk2
              generalize cmpF v x.le = z1 at *
              generalize cmpF v x.gr = z2 at *
              have d1 : decide (z1 < 0) = true := by simpa using hL
              have d2 : decide (0 < z2) = false := by simpa using hG
              go_wp2_with fail
              refine (HCB.out _).mono ?_
              rintro e w' ⟨rfl, rfl⟩
              go_wp2_with fail
              refine (HCL.out _).mono ?_
              rintro e w' ⟨rfl, rfl⟩
              go_wp2_with fail
              refine (HCG.out _).mono ?_
              rintro e w' ⟨rfl, rfl⟩
              go_wp2_with fail
              refine (canon3_any _ _).mono ?_
              rintro e w' ⟨rfl, rfl⟩
              rw [mean_chain]
              go_wp2_with fail
              have hme : canonF (opF .add x.me (opF .quo (opF .sub v x.me) (floatOfInt .f64 (x.n + 1)))) = meF x v := rfl
              rw [hme]
              go_end0
              refine ⟨rfl, ?_, ?_⟩
              · rw [HPX.out]
                have hrow := HEND.out.2
                refine HSET.out.1.turn ?_ (blk_set (c := rcells (some ad) cb c ({ x with cs := x.cs.set k (cx + 1), n := x.n + 1, le := v } : G)) (t := 69) ?_ 6 _) rfl rfl ?_ ?_
                · refine Keep.setCell (bs := (· = g)) ?_ (Or.inl rfl) _
                  exact Keep_op _ _ _ (Keep_op _ _ _ (Keep_op _ _ _ HEND.out.1))
                · rw [opW_heap, opW_heap, opW_heap]
                  exact hrow
                · first | exact HF.out.2.1 | exact HF.out.1.le64
                · first | exact HF.out.2.1 | exact HF.out.1.gr64
              · refine (HSET.out.2.mono fun _ _ h => Or.inr h).trans ?_
                refine Keep.mono (bs := (· = g)) ?_ (fun _ _ h => Or.inl h)
                refine Keep.setCell (bs := (· = g)) ?_ (Or.inl rfl) _
                exact Keep_op _ _ _ (Keep_op _ _ _ (Keep_op _ _ _ HEND.out.1))
          · by_cases hG : 0 < cmpF v x.gr
            · skip
              have HPX : RowKit.Hid (R = ({ x with cs := x.cs.set k (cx + 1), n := x.n + 1, me := meF x v, gr := v } : G)) := Lib.hid (by rw [HPE.out]; simp only [widenS, bump]; have hc2 := HCX.out; rw [List.getD_eq_getElem?_getD] at hc2; simp [hn0, hL, hG, hc2])
              have hw0 : (wr.setCell ⟨c, k, none⟩ (.int .i64 (cx + 1))).heap[g]? = some (.cells (rcells (some ad) cb c ({ x with cs := x.cs.set k (cx + 1) } : G)) 69 (0, 0)) := HSET.out.1.row
              have c0_2 : (wr.setCell ⟨c, k, none⟩ (.int .i64 (cx + 1))).cell? ⟨g, 2, none⟩ = some (.int .i64 x.n) := blk_cell hw0 2
              have f0_2 := blk_free hw0 2
              have c0_4 : (wr.setCell ⟨c, k, none⟩ (.int .i64 (cx + 1))).cell? ⟨g, 4, none⟩ = some (.float .f64 x.le) := blk_cell hw0 4
              have f0_4 := blk_free hw0 4
              have c0_5 : (wr.setCell ⟨c, k, none⟩ (.int .i64 (cx + 1))).cell? ⟨g, 5, none⟩ = some (.float .f64 x.gr) := blk_cell hw0 5
              have f0_5 := blk_free hw0 5
              have c0_6 : (wr.setCell ⟨c, k, none⟩ (.int .i64 (cx + 1))).cell? ⟨g, 6, none⟩ = some (.float .f64 x.me) := blk_cell hw0 6
              have f0_6 := blk_free hw0 6
              have hw1 : ((wr.setCell ⟨c, k, none⟩ (.int .i64 (cx + 1))).setCell ⟨g, 5, none⟩ (.float .f64 v)).heap[g]? = some (.cells (rcells (some ad) cb c ({ x with cs := x.cs.set k (cx + 1), gr := v } : G)) 69 (0, 0)) := blk_set hw0 5 _
              have kk1 := Keep.setCell (bs := (· = g)) (Keep.refl _ (wr.setCell ⟨c, k, none⟩ (.int .i64 (cx + 1)))) (p := ⟨g, 5, none⟩) (Or.inl rfl) (.float .f64 v)
              have c1_2 : ((wr.setCell ⟨c, k, none⟩ (.int .i64 (cx + 1))).setCell ⟨g, 5, none⟩ (.float .f64 v)).cell? ⟨g, 2, none⟩ = some (.int .i64 x.n) := blk_cell hw1 2
              have f1_2 := blk_free hw1 2
              have c1_4 : ((wr.setCell ⟨c, k, none⟩ (.int .i64 (cx + 1))).setCell ⟨g, 5, none⟩ (.float .f64 v)).cell? ⟨g, 4, none⟩ = some (.float .f64 x.le) := blk_cell hw1 4
              have f1_4 := blk_free hw1 4
              have c1_5 : ((wr.setCell ⟨c, k, none⟩ (.int .i64 (cx + 1))).setCell ⟨g, 5, none⟩ (.float .f64 v)).cell? ⟨g, 5, none⟩ = some (.float .f64 v) := blk_cell hw1 5
              have f1_5 := blk_free hw1 5
              have c1_6 : ((wr.setCell ⟨c, k, none⟩ (.int .i64 (cx + 1))).setCell ⟨g, 5, none⟩ (.float .f64 v)).cell? ⟨g, 6, none⟩ = some (.float .f64 x.me) := blk_cell hw1 6
              have f1_6 := blk_free hw1 6
              have hw2 : (((wr.setCell ⟨c, k, none⟩ (.int .i64 (cx + 1))).setCell ⟨g, 5, none⟩ (.float .f64 v)).setCell ⟨g, 2, none⟩ (.int .i64 (x.n + 1))).heap[g]? = some (.cells (rcells (some ad) cb c ({ x with cs := x.cs.set k (cx + 1), n := x.n + 1, gr := v } : G)) 69 (0, 0)) := blk_set hw1 2 _
              have kk2 := Keep.setCell (bs := (· = g)) (Keep.refl _ ((wr.setCell ⟨c, k, none⟩ (.int .i64 (cx + 1))).setCell ⟨g, 5, none⟩ (.float .f64 v))) (p := ⟨g, 2, none⟩) (Or.inl rfl) (.int .i64 (x.n + 1))
              have c2_2 : (((wr.setCell ⟨c, k, none⟩ (.int .i64 (cx + 1))).setCell ⟨g, 5, none⟩ (.float .f64 v)).setCell ⟨g, 2, none⟩ (.int .i64 (x.n + 1))).cell? ⟨g, 2, none⟩ = some (.int .i64 (x.n + 1)) := blk_cell hw2 2
              have f2_2 := blk_free hw2 2
              have c2_4 : (((wr.setCell ⟨c, k, none⟩ (.int .i64 (cx + 1))).setCell ⟨g, 5, none⟩ (.float .f64 v)).setCell ⟨g, 2, none⟩ (.int .i64 (x.n + 1))).cell? ⟨g, 4, none⟩ = some (.float .f64 x.le) := blk_cell hw2 4
              have f2_4 := blk_free hw2 4
              have c2_5 : (((wr.setCell ⟨c, k, none⟩ (.int .i64 (cx + 1))).setCell ⟨g, 5, none⟩ (.float .f64 v)).setCell ⟨g, 2, none⟩ (.int .i64 (x.n + 1))).cell? ⟨g, 5, none⟩ = some (.float .f64 v) := blk_cell hw2 5
              have f2_5 := blk_free hw2 5
              have c2_6 : (((wr.setCell ⟨c, k, none⟩ (.int .i64 (cx + 1))).setCell ⟨g, 5, none⟩ (.float .f64 v)).setCell ⟨g, 2, none⟩ (.int .i64 (x.n + 1))).cell? ⟨g, 6, none⟩ = some (.float .f64 x.me) := blk_cell hw2 6
              have f2_6 := blk_free hw2 6
              have HEND := Lib.hid (And.intro (kk1.trans kk2) hw2)
              clear hw0 hw1 hw2 kk1 kk2
              generalize cmpF v x.le = z1 at *
              generalize cmpF v x.gr = z2 at *
              have d1 : decide (z1 < 0) = false := by simpa using hL
              have d2 : decide (0 < z2) = true := by simpa using hG
              go_wp2_with fail
              refine (HCB.out _).mono ?_
              rintro e w' ⟨rfl, rfl⟩
              go_wp2_with fail
              refine (HCL.out _).mono ?_
              rintro e w' ⟨rfl, rfl⟩
              go_wp2_with fail
              refine (HCG.out _).mono ?_
              rintro e w' ⟨rfl, rfl⟩
              go_wp2_with fail
              refine (canon3_any _ _).mono ?_
              rintro e w' ⟨rfl, rfl⟩
              rw [mean_chain]
              go_wp2_with fail
              have hme : canonF (opF .add x.me (opF .quo (opF .sub v x.me) (floatOfInt .f64 (x.n + 1)))) = meF x v := rfl
              rw [hme]
              go_end0
              refine ⟨rfl, ?_, ?_⟩
              · rw [HPX.out]
                have hrow := HEND.out.2
                refine HSET.out.1.turn ?_ (blk_set (c := rcells (some ad) cb c ({ x with cs := x.cs.set k (cx + 1), n := x.n + 1, gr := v } : G)) (t := 69) ?_ 6 _) rfl rfl ?_ ?_
                · refine Keep.setCell (bs := (· = g)) ?_ (Or.inl rfl) _
                  exact Keep_op _ _ _ (Keep_op _ _ _ (Keep_op _ _ _ HEND.out.1))
                · rw [opW_heap, opW_heap, opW_heap]
                  exact hrow
                · first | exact HF.out.2.1 | exact HF.out.1.le64
                · first | exact HF.out.2.1 | exact HF.out.1.gr64
              · refine (HSET.out.2.mono fun _ _ h => Or.inr h).trans ?_
                refine Keep.mono (bs := (· = g)) ?_ (fun _ _ h => Or.inl h)
                refine Keep.setCell (bs := (· = g)) ?_ (Or.inl rfl) _
                exact Keep_op _ _ _ (Keep_op _ _ _ (Keep_op _ _ _ HEND.out.1))
            · skip
              have HPX : RowKit.Hid (R = ({ x with cs := x.cs.set k (cx + 1), n := x.n + 1, me := meF x v } : G)) := Lib.hid (by rw [HPE.out]; simp only [widenS, bump]; have hc2 := HCX.out; rw [List.getD_eq_getElem?_getD] at hc2; simp [hn0, hL, hG, hc2])
              have hw0 : (wr.setCell ⟨c, k, none⟩ (.int .i64 (cx + 1))).heap[g]? = some (.cells (rcells (some ad) cb c ({ x with cs := x.cs.set k (cx + 1) } : G)) 69 (0, 0)) := HSET.out.1.row
              have c0_2 : (wr.setCell ⟨c, k, none⟩ (.int .i64 (cx + 1))).cell? ⟨g, 2, none⟩ = some (.int .i64 x.n) := blk_cell hw0 2
              have f0_2 := blk_free hw0 2
              have c0_4 : (wr.setCell ⟨c, k, none⟩ (.int .i64 (cx + 1))).cell? ⟨g, 4, none⟩ = some (.float .f64 x.le) := blk_cell hw0 4
              have f0_4 := blk_free hw0 4
              have c0_5 : (wr.setCell ⟨c, k, none⟩ (.int .i64 (cx + 1))).cell? ⟨g, 5, none⟩ = some (.float .f64 x.gr) := blk_cell hw0 5
              have f0_5 := blk_free hw0 5
              have c0_6 : (wr.setCell ⟨c, k, none⟩ (.int .i64 (cx + 1))).cell? ⟨g, 6, none⟩ = some (.float .f64 x.me) := blk_cell hw0 6
              have f0_6 := blk_free hw0 6
              have hw1 : ((wr.setCell ⟨c, k, none⟩ (.int .i64 (cx + 1))).setCell ⟨g, 2, none⟩ (.int .i64 (x.n + 1))).heap[g]? = some (.cells (rcells (some ad) cb c ({ x with cs := x.cs.set k (cx + 1), n := x.n + 1 } : G)) 69 (0, 0)) := blk_set hw0 2 _
              have kk1 := Keep.setCell (bs := (· = g)) (Keep.refl _ (wr.setCell ⟨c, k, none⟩ (.int .i64 (cx + 1)))) (p := ⟨g, 2, none⟩) (Or.inl rfl) (.int .i64 (x.n + 1))
              have c1_2 : ((wr.setCell ⟨c, k, none⟩ (.int .i64 (cx + 1))).setCell ⟨g, 2, none⟩ (.int .i64 (x.n + 1))).cell? ⟨g, 2, none⟩ = some (.int .i64 (x.n + 1)) := blk_cell hw1 2
              have f1_2 := blk_free hw1 2
              have c1_4 : ((wr.setCell ⟨c, k, none⟩ (.int .i64 (cx + 1))).setCell ⟨g, 2, none⟩ (.int .i64 (x.n + 1))).cell? ⟨g, 4, none⟩ = some (.float .f64 x.le) := blk_cell hw1 4
              have f1_4 := blk_free hw1 4
              have c1_5 : ((wr.setCell ⟨c, k, none⟩ (.int .i64 (cx + 1))).setCell ⟨g, 2, none⟩ (.int .i64 (x.n + 1))).cell? ⟨g, 5, none⟩ = some (.float .f64 x.gr) := blk_cell hw1 5
              have f1_5 := blk_free hw1 5
              have c1_6 : ((wr.setCell ⟨c, k, none⟩ (.int .i64 (cx + 1))).setCell ⟨g, 2, none⟩ (.int .i64 (x.n + 1))).cell? ⟨g, 6, none⟩ = some (.float .f64 x.me) := blk_cell hw1 6
              have f1_6 := blk_free hw1 6
              have HEND := Lib.hid (And.intro kk1 hw1)
              clear hw0 hw1 kk1
              generalize cmpF v x.le = z1 at *
              generalize cmpF v x.gr = z2 at *
              have d1 : decide (z1 < 0) = false := by simpa using hL
              have d2 : decide (0 < z2) = false := by simpa using hG
              go_wp2_with fail
              refine (HCB.out _).mono ?_
              rintro e w' ⟨rfl, rfl⟩
              go_wp2_with fail
              refine (HCL.out _).mono ?_
              rintro e w' ⟨rfl, rfl⟩
              go_wp2_with fail
              refine (HCG.out _).mono ?_
              rintro e w' ⟨rfl, rfl⟩
              go_wp2_with fail
              refine (canon3_any _ _).mono ?_
              rintro e w' ⟨rfl, rfl⟩
              rw [mean_chain]
              go_wp2_with fail
              have hme : canonF (opF .add x.me (opF .quo (opF .sub v x.me) (floatOfInt .f64 (x.n + 1)))) = meF x v := rfl
              rw [hme]
              go_end0
              refine ⟨rfl, ?_, ?_⟩
              · rw [HPX.out]
                have hrow := HEND.out.2
                refine HSET.out.1.turn ?_ (blk_set (c := rcells (some ad) cb c ({ x with cs := x.cs.set k (cx + 1), n := x.n + 1 } : G)) (t := 69) ?_ 6 _) rfl rfl ?_ ?_
                · refine Keep.setCell (bs := (· = g)) ?_ (Or.inl rfl) _
                  exact Keep_op _ _ _ (Keep_op _ _ _ (Keep_op _ _ _ HEND.out.1))
                · rw [opW_heap, opW_heap, opW_heap]
                  exact hrow
                · first | exact HF.out.2.1 | exact HF.out.1.le64
                · first | exact HF.out.2.1 | exact HF.out.1.gr64
              · refine (HSET.out.2.mono fun _ _ h => Or.inr h).trans ?_
                refine Keep.mono (bs := (· = g)) ?_ (fun _ _ h => Or.inl h)
                refine Keep.setCell (bs := (· = g)) ?_ (Or.inl rfl) _
                exact Keep_op _ _ _ (Keep_op _ _ _ (Keep_op _ _ _ HEND.out.1))
      · skip
        by_cases hn0 : x.n = 0
        · have e0 : (x.n == 0) = true := by simpa using hn0
          have hkb' : decide ((k : Int) < (nb : Int)) = false := by simp; omega
          have HPX : RowKit.Hid (R = ({ x with cs := x.cs.set k (cx + 1), n := 1, me := meF x v, le := v, gr := v } : G)) := Lib.hid (by rw [HPE.out]; simp only [widenS, bump]; have hc2 := HCX.out; rw [List.getD_eq_getElem?_getD] at hc2; simp [hn0, hc2])
          have hw0 : (wr.setCell ⟨c, k, none⟩ (.int .i64 (cx + 1))).heap[g]? = some (.cells (rcells ob cb c ({ x with cs := x.cs.set k (cx + 1) } : G)) 69 (0, 0)) := HSET.out.1.row
          have c0_2 : (wr.setCell ⟨c, k, none⟩ (.int .i64 (cx + 1))).cell? ⟨g, 2, none⟩ = some (.int .i64 x.n) := blk_cell hw0 2
          have f0_2 := blk_free hw0 2
          have c0_4 : (wr.setCell ⟨c, k, none⟩ (.int .i64 (cx + 1))).cell? ⟨g, 4, none⟩ = some (.float .f64 x.le) := blk_cell hw0 4
          have f0_4 := blk_free hw0 4
          have c0_5 : (wr.setCell ⟨c, k, none⟩ (.int .i64 (cx + 1))).cell? ⟨g, 5, none⟩ = some (.float .f64 x.gr) := blk_cell hw0 5
          have f0_5 := blk_free hw0 5
          have c0_6 : (wr.setCell ⟨c, k, none⟩ (.int .i64 (cx + 1))).cell? ⟨g, 6, none⟩ = some (.float .f64 x.me) := blk_cell hw0 6
          have f0_6 := blk_free hw0 6
          have hw1 : ((wr.setCell ⟨c, k, none⟩ (.int .i64 (cx + 1))).setCell ⟨g, 4, none⟩ (.float .f64 v)).heap[g]? = some (.cells (rcells ob cb c ({ x with cs := x.cs.set k (cx + 1), le := v } : G)) 69 (0, 0)) := blk_set hw0 4 _
          have kk1 := Keep.setCell (bs := (· = g)) (Keep.refl _ (wr.setCell ⟨c, k, none⟩ (.int .i64 (cx + 1)))) (p := ⟨g, 4, none⟩) (Or.inl rfl) (.float .f64 v)
          have c1_2 : ((wr.setCell ⟨c, k, none⟩ (.int .i64 (cx + 1))).setCell ⟨g, 4, none⟩ (.float .f64 v)).cell? ⟨g, 2, none⟩ = some (.int .i64 x.n) := blk_cell hw1 2
          have f1_2 := blk_free hw1 2
          have c1_4 : ((wr.setCell ⟨c, k, none⟩ (.int .i64 (cx + 1))).setCell ⟨g, 4, none⟩ (.float .f64 v)).cell? ⟨g, 4, none⟩ = some (.float .f64 v) := blk_cell hw1 4
          have f1_4 := blk_free hw1 4
          have c1_5 : ((wr.setCell ⟨c, k, none⟩ (.int .i64 (cx + 1))).setCell ⟨g, 4, none⟩ (.float .f64 v)).cell? ⟨g, 5, none⟩ = some (.float .f64 x.gr) := blk_cell hw1 5
          have f1_5 := blk_free hw1 5
          have c1_6 : ((wr.setCell ⟨c, k, none⟩ (.int .i64 (cx + 1))).setCell ⟨g, 4, none⟩ (.float .f64 v)).cell? ⟨g, 6, none⟩ = some (.float .f64 x.me) := blk_cell hw1 6
          have f1_6 := blk_free hw1 6
          have hw2 : (((wr.setCell ⟨c, k, none⟩ (.int .i64 (cx + 1))).setCell ⟨g, 4, none⟩ (.float .f64 v)).setCell ⟨g, 5, none⟩ (.float .f64 v)).heap[g]? = some (.cells (rcells ob cb c ({ x with cs := x.cs.set k (cx + 1), le := v, gr := v } : G)) 69 (0, 0)) := blk_set hw1 5 _
          have kk2 := Keep.setCell (bs := (· = g)) (Keep.refl _ ((wr.setCell ⟨c, k, none⟩ (.int .i64 (cx + 1))).setCell ⟨g, 4, none⟩ (.float .f64 v))) (p := ⟨g, 5, none⟩) (Or.inl rfl) (.float .f64 v)
          have c2_2 : (((wr.setCell ⟨c, k, none⟩ (.int .i64 (cx + 1))).setCell ⟨g, 4, none⟩ (.float .f64 v)).setCell ⟨g, 5, none⟩ (.float .f64 v)).cell? ⟨g, 2, none⟩ = some (.int .i64 x.n) := blk_cell hw2 2
          have f2_2 := blk_free hw2 2
          have c2_4 : (((wr.setCell ⟨c, k, none⟩ (.int .i64 (cx + 1))).setCell ⟨g, 4, none⟩ (.float .f64 v)).setCell ⟨g, 5, none⟩ (.float .f64 v)).cell? ⟨g, 4, none⟩ = some (.float .f64 v) := blk_cell hw2 4
          have f2_4 := blk_free hw2 4
          have c2_5 : (((wr.setCell ⟨c, k, none⟩ (.int .i64 (cx + 1))).setCell ⟨g, 4, none⟩ (.float .f64 v)).setCell ⟨g, 5, none⟩ (.float .f64 v)).cell? ⟨g, 5, none⟩ = some (.float .f64 v) := blk_cell hw2 5
          have f2_5 := blk_free hw2 5
          have c2_6 : (((wr.setCell ⟨c, k, none⟩ (.int .i64 (cx + 1))).setCell ⟨g, 4, none⟩ (.float .f64 v)).setCell ⟨g, 5, none⟩ (.float .f64 v)).cell? ⟨g, 6, none⟩ = some (.float .f64 x.me) := blk_cell hw2 6
          have f2_6 := blk_free hw2 6
          have hw3 : ((((wr.setCell ⟨c, k, none⟩ (.int .i64 (cx + 1))).setCell ⟨g, 4, none⟩ (.float .f64 v)).setCell ⟨g, 5, none⟩ (.float .f64 v)).setCell ⟨g, 2, none⟩ (.int .i64 (x.n + 1))).heap[g]? = some (.cells (rcells ob cb c ({ x with cs := x.cs.set k (cx + 1), n := x.n + 1, le := v, gr := v } : G)) 69 (0, 0)) := blk_set hw2 2 _
          have kk3 := Keep.setCell (bs := (· = g)) (Keep.refl _ (((wr.setCell ⟨c, k, none⟩ (.int .i64 (cx + 1))).setCell ⟨g, 4, none⟩ (.float .f64 v)).setCell ⟨g, 5, none⟩ (.float .f64 v))) (p := ⟨g, 2, none⟩) (Or.inl rfl) (.int .i64 (x.n + 1))
          have c3_2 : ((((wr.setCell ⟨c, k, none⟩ (.int .i64 (cx + 1))).setCell ⟨g, 4, none⟩ (.float .f64 v)).setCell ⟨g, 5, none⟩ (.float .f64 v)).setCell ⟨g, 2, none⟩ (.int .i64 (x.n + 1))).cell? ⟨g, 2, none⟩ = some (.int .i64 (x.n + 1)) := blk_cell hw3 2
          have f3_2 := blk_free hw3 2
          have c3_4 : ((((wr.setCell ⟨c, k, none⟩ (.int .i64 (cx + 1))).setCell ⟨g, 4, none⟩ (.float .f64 v)).setCell ⟨g, 5, none⟩ (.float .f64 v)).setCell ⟨g, 2, none⟩ (.int .i64 (x.n + 1))).cell? ⟨g, 4, none⟩ = some (.float .f64 v) := blk_cell hw3 4
          have f3_4 := blk_free hw3 4
          have c3_5 : ((((wr.setCell ⟨c, k, none⟩ (.int .i64 (cx + 1))).setCell ⟨g, 4, none⟩ (.float .f64 v)).setCell ⟨g, 5, none⟩ (.float .f64 v)).setCell ⟨g, 2, none⟩ (.int .i64 (x.n + 1))).cell? ⟨g, 5, none⟩ = some (.float .f64 v) := blk_cell hw3 5
          have f3_5 := blk_free hw3 5
          have c3_6 : ((((wr.setCell ⟨c, k, none⟩ (.int .i64 (cx + 1))).setCell ⟨g, 4, none⟩ (.float .f64 v)).setCell ⟨g, 5, none⟩ (.float .f64 v)).setCell ⟨g, 2, none⟩ (.int .i64 (x.n + 1))).cell? ⟨g, 6, none⟩ = some (.float .f64 x.me) := blk_cell hw3 6
          have f3_6 := blk_free hw3 6
          have HEND := Lib.hid (And.intro ((kk1.trans kk2).trans kk3) hw3)
          clear hw0 hw1 hw2 hw3 kk1 kk2 kk3
          go_wp2_with fail
          refine (canon3_any _ _).mono ?_
          rintro e w' ⟨rfl, rfl⟩
          rw [mean_chain]
          go_wp2_with fail
          have hx1 : x.n + 1 = 1 := by omega
          rw [hx1] at HEND
          have hme : canonF (opF .add x.me (opF .quo (opF .sub v x.me) (floatOfInt .f64 1))) = meF x v := by unfold meF; rw [hx1]
          rw [hme]
          go_end0
          refine ⟨rfl, ?_, ?_⟩
          · rw [HPX.out]
            have hrow := HEND.out.2
            refine HSET.out.1.turn ?_ (blk_set (c := rcells ob cb c ({ x with cs := x.cs.set k (cx + 1), n := 1, le := v, gr := v } : G)) (t := 69) ?_ 6 _) rfl rfl ?_ ?_
            · refine Keep.setCell (bs := (· = g)) ?_ (Or.inl rfl) _
              exact Keep_op _ _ _ (Keep_op _ _ _ (Keep_op _ _ _ HEND.out.1))
            · rw [opW_heap, opW_heap, opW_heap]
              exact hrow
            · first | exact HF.out.2.1 | exact HF.out.1.le64
            · first | exact HF.out.2.1 | exact HF.out.1.gr64
          · refine (HSET.out.2.mono fun _ _ h => Or.inr h).trans ?_
            refine Keep.mono (bs := (· = g)) ?_ (fun _ _ h => Or.inl h)
            refine Keep.setCell (bs := (· = g)) ?_ (Or.inl rfl) _
            exact Keep_op _ _ _ (Keep_op _ _ _ (Keep_op _ _ _ HEND.out.1))
        · have e0 : (x.n == 0) = false := by simpa using hn0
          have HCL := Lib.hid (cmp3_any v x.le HF.out.2.1 HF.out.1.le64)
          have HCG := Lib.hid (cmp3_any v x.gr HF.out.2.1 HF.out.1.gr64)
          by_cases hL : cmpF v x.le < 0
          · by_cases hG : 0 < cmpF v x.gr
            · skip
              have hkb' : decide ((k : Int) < (nb : Int)) = false := by simp; omega
              have HPX : RowKit.Hid (R = ({ x with cs := x.cs.set k (cx + 1), n := x.n + 1, me := meF x v, le := v, gr := v } : G)) := Lib.hid (by rw [HPE.out]; simp only [widenS, bump]; have hc2 := HCX.out; rw [List.getD_eq_getElem?_getD] at hc2; simp [hn0, hL, hG, hc2])
              have hw0 : (wr.setCell ⟨c, k, none⟩ (.int .i64 (cx + 1))).heap[g]? = some (.cells (rcells ob cb c ({ x with cs := x.cs.set k (cx + 1) } : G)) 69 (0, 0)) := HSET.out.1.row
              have c0_2 : (wr.setCell ⟨c, k, none⟩ (.int .i64 (cx + 1))).cell? ⟨g, 2, none⟩ = some (.int .i64 x.n) := blk_cell hw0 2
              have f0_2 := blk_free hw0 2
              have c0_4 : (wr.setCell ⟨c, k, none⟩ (.int .i64 (cx + 1))).cell? ⟨g, 4, none⟩ = some (.float .f64 x.le) := blk_cell hw0 4
              have f0_4 := blk_free hw0 4
              have c0_5 : (wr.setCell ⟨c, k, none⟩ (.int .i64 (cx + 1))).cell? ⟨g, 5, none⟩ = some (.float .f64 x.gr) := blk_cell hw0 5
              have f0_5 := blk_free hw0 5
              have c0_6 : (wr.setCell ⟨c, k, none⟩ (.int .i64 (cx + 1))).cell? ⟨g, 6, none⟩ = some (.float .f64 x.me) := blk_cell hw0 6
              have f0_6 := blk_free hw0 6
              have hw1 : ((wr.setCell ⟨c, k, none⟩ (.int .i64 (cx + 1))).setCell ⟨g, 4, none⟩ (.float .f64 v)).heap[g]? = some (.cells (rcells ob cb c ({ x with cs := x.cs.set k (cx + 1), le := v } : G)) 69 (0, 0)) := blk_set hw0 4 _
              have kk1 := Keep.setCell (bs := (· = g)) (Keep.refl _ (wr.setCell ⟨c, k, none⟩ (.int .i64 (cx + 1)))) (p := ⟨g, 4, none⟩) (Or.inl rfl) (.float .f64 v)
              have c1_2 : ((wr.setCell ⟨c, k, none⟩ (.int .i64 (cx + 1))).setCell ⟨g, 4, none⟩ (.float .f64 v)).cell? ⟨g, 2, none⟩ = some (.int .i64 x.n) := blk_cell hw1 2
              have f1_2 := blk_free hw1 2
              have c1_4 : ((wr.setCell ⟨c, k, none⟩ (.int .i64 (cx + 1))).setCell ⟨g, 4, none⟩ (.float .f64 v)).cell? ⟨g, 4, none⟩ = some (.float .f64 v) := blk_cell hw1 4
              have f1_4 := blk_free hw1 4
              have c1_5 : ((wr.setCell ⟨c, k, none⟩ (.int .i64 (cx + 1))).setCell ⟨g, 4, none⟩ (.float .f64 v)).cell? ⟨g, 5, none⟩ = some (.float .f64 x.gr) := blk_cell hw1 5
              have f1_5 := blk_free hw1 5
              have c1_6 : ((wr.setCell ⟨c, k, none⟩ (.int .i64 (cx + 1))).setCell ⟨g, 4, none⟩ (.float .f64 v)).cell? ⟨g, 6, none⟩ = some (.float .f64 x.me) := blk_cell hw1 6
              have f1_6 := blk_free hw1 6
              have hw2 : (((wr.setCell ⟨c, k, none⟩ (.int .i64 (cx + 1))).setCell ⟨g, 4, none⟩ (.float .f64 v)).setCell ⟨g, 5, none⟩ (.float .f64 v)).heap[g]? = some (.cells (rcells ob cb c ({ x with cs := x.cs.set k (cx + 1), le := v, gr := v } : G)) 69 (0, 0)) := blk_set hw1 5 _
              have kk2 := Keep.setCell (bs := (· = g)) (Keep.refl _ ((wr.setCell ⟨c, k, none⟩ (.int .i64 (cx + 1))).setCell ⟨g, 4, none⟩ (.float .f64 v))) (p := ⟨g, 5, none⟩) (Or.inl rfl) (.float .f64 v)
              have c2_2 : (((wr.setCell ⟨c, k, none⟩ (.int .i64 (cx + 1))).setCell ⟨g, 4, none⟩ (.float .f64 v)).setCell ⟨g, 5, none⟩ (.float .f64 v)).cell? ⟨g, 2, none⟩ = some (.int .i64 x.n) := blk_cell hw2 2
              have f2_2 := blk_free hw2 2
              have c2_4 : (((wr.setCell ⟨c, k, none⟩ (.int .i64 (cx + 1))).setCell ⟨g, 4, none⟩ (.float .f64 v)).setCell ⟨g, 5, none⟩ (.float .f64 v)).cell? ⟨g, 4, none⟩ = some (.float .f64 v) := blk_cell hw2 4
              have f2_4 := blk_free hw2 4
              have c2_5 : (((wr.setCell ⟨c, k, none⟩ (.int .i64 (cx + 1))).setCell ⟨g, 4, none⟩ (.float .f64 v)).setCell ⟨g, 5, none⟩ (.float .f64 v)).cell? ⟨g, 5, none⟩ = some (.float .f64 v) := blk_cell hw2 5
              have f2_5 := blk_free hw2 5
              have c2_6 : (((wr.setCell ⟨c, k, none⟩ (.int .i64 (cx + 1))).setCell ⟨g, 4, none⟩ (.float .f64 v)).setCell ⟨g, 5, none⟩ (.float .f64 v)).cell? ⟨g, 6, none⟩ = some (.float .f64 x.me) := blk_cell hw2 6
              have f2_6 := blk_free hw2 6
              have hw3 : ((((wr.setCell ⟨c, k, none⟩ (.int .i64 (cx + 1))).setCell ⟨g, 4, none⟩ (.float .f64 v)).setCell ⟨g, 5, none⟩ (.float .f64 v)).setCell ⟨g, 2, none⟩ (.int .i64 (x.n + 1))).heap[g]? = some (.cells (rcells ob cb c ({ x with cs := x.cs.set k (cx + 1), n := x.n + 1, le := v, gr := v } : G)) 69 (0, 0)) := blk_set hw2 2 _
              have kk3 := Keep.setCell (bs := (· = g)) (Keep.refl _ (((wr.setCell ⟨c, k, none⟩ (.int .i64 (cx + 1))).setCell ⟨g, 4, none⟩ (.float .f64 v)).setCell ⟨g, 5, none⟩ (.float .f64 v))) (p := ⟨g, 2, none⟩) (Or.inl rfl) (.int .i64 (x.n + 1))
              have c3_2 : ((((wr.setCell ⟨c, k, none⟩ (.int .i64 (cx + 1))).setCell ⟨g, 4, none⟩ (.float .f64 v)).setCell ⟨g, 5, none⟩ (.float .f64 v)).setCell ⟨g, 2, none⟩ (.int .i64 (x.n + 1))).cell? ⟨g, 2, none⟩ = some (.int .i64 (x.n + 1)) := blk_cell hw3 2
              have f3_2 := blk_free hw3 2
              have c3_4 : ((((wr.setCell ⟨c, k, none⟩ (.int .i64 (cx + 1))).setCell ⟨g, 4, none⟩ (.float .f64 v)).setCell ⟨g, 5, none⟩ (.float .f64 v)).setCell ⟨g, 2, none⟩ (.int .i64 (x.n + 1))).cell? ⟨g, 4, none⟩ = some (.float .f64 v) := blk_cell hw3 4
              have f3_4 := blk_free hw3 4
              have c3_5 : ((((wr.setCell ⟨c, k, none⟩ (.int .i64 (cx + 1))).setCell ⟨g, 4, none⟩ (.float .f64 v)).setCell ⟨g, 5, none⟩ (.float .f64 v)).setCell ⟨g, 2, none⟩ (.int .i64 (x.n + 1))).cell? ⟨g, 5, none⟩ = some (.float .f64 v) := blk_cell hw3 5
              have f3_5 := blk_free hw3 5
              have c3_6 : ((((wr.setCell ⟨c, k, none⟩ (.int .i64 (cx + 1))).setCell ⟨g, 4, none⟩ (.float .f64 v)).setCell ⟨g, 5, none⟩ (.float .f64 v)).setCell ⟨g, 2, none⟩ (.int .i64 (x.n + 1))).cell? ⟨g, 6, none⟩ = some (.float .f64 x.me) := blk_cell hw3 6
              have f3_6 := blk_free hw3 6
              have HEND := Lib.hid (And.intro ((kk1.trans kk2).trans kk3) hw3)
              clear hw0 hw1 hw2 hw3 kk1 kk2 kk3
              generalize cmpF v x.le = z1 at *
              generalize cmpF v x.gr = z2 at *
              have d1 : decide (z1 < 0) = true := by simpa using hL
              have d2 : decide (0 < z2) = true := by simpa using hG
              go_wp2_with fail
              refine (HCL.out _).mono ?_
              rintro e w' ⟨rfl, rfl⟩
              go_wp2_with fail
              refine (HCG.out _).mono ?_
              rintro e w' ⟨rfl, rfl⟩
              go_wp2_with fail
              refine (canon3_any _ _).mono ?_
              rintro e w' ⟨rfl, rfl⟩
              rw [mean_chain]
              go_wp2_with fail
              have hme : canonF (opF .add x.me (opF .quo (opF .sub v x.me) (floatOfInt .f64 (x.n + 1)))) = meF x v := rfl
              rw [hme]
              go_end0
              refine ⟨rfl, ?_, ?_⟩
              · rw [HPX.out]
                have hrow := HEND.out.2
                refine HSET.out.1.turn ?_ (blk_set (c := rcells ob cb c ({ x with cs := x.cs.set k (cx + 1), n := x.n + 1, le := v, gr := v } : G)) (t := 69) ?_ 6 _) rfl rfl ?_ ?_
                · refine Keep.setCell (bs := (· = g)) ?_ (Or.inl rfl) _
                  exact Keep_op _ _ _ (Keep_op _ _ _ (Keep_op _ _ _ HEND.out.1))
                · rw [opW_heap, opW_heap, opW_heap]
                  exact hrow
                · first | exact HF.out.2.1 | exact HF.out.1.le64
                · first | exact HF.out.2.1 | exact HF.out.1.gr64
              · refine (HSET.out.2.mono fun _ _ h => Or.inr h).trans ?_
                refine Keep.mono (bs := (· = g)) ?_ (fun _ _ h => Or.inl h)
                refine Keep.setCell (bs := (· = g)) ?_ (Or.inl rfl) _
                exact Keep_op _ _ _ (Keep_op _ _ _ (Keep_op _ _ _ HEND.out.1))
            · skip
              have hkb' : decide ((k : Int) < (nb : Int)) = false := by simp; omega
              have HPX : RowKit.Hid (R = ({ x with cs := x.cs.set k (cx + 1), n := x.n + 1, me := meF x v, le := v } : G)) := Lib.hid (by rw [HPE.out]; simp only [widenS, bump]; have hc2 := HCX.out; rw [List.getD_eq_getElem?_getD] at hc2; simp [hn0, hL, hG, hc2])
              have hw0 : (wr.setCell ⟨c, k, none⟩ (.int .i64 (cx + 1))).heap[g]? = some (.cells (rcells ob cb c ({ x with cs := x.cs.set k (cx + 1) } : G)) 69 (0, 0)) := HSET.out.1.row
              have c0_2 : (wr.setCell ⟨c, k, none⟩ (.int .i64 (cx + 1))).cell? ⟨g, 2, none⟩ = some (.int .i64 x.n) := blk_cell hw0 2
              have f0_2 := blk_free hw0 2
              have c0_4 : (wr.setCell ⟨c, k, none⟩ (.int .i64 (cx + 1))).cell? ⟨g, 4, none⟩ = some (.float .f64 x.le) := blk_cell hw0 4
              have f0_4 := blk_free hw0 4
              have c0_5 : (wr.setCell ⟨c, k, none⟩ (.int .i64 (cx + 1))).cell? ⟨g, 5, none⟩ = some (.float .f64 x.gr) := blk_cell hw0 5
              have f0_5 := blk_free hw0 5
              have c0_6 : (wr.setCell ⟨c, k, none⟩ (.int .i64 (cx + 1))).cell? ⟨g, 6, none⟩ = some (.float .f64 x.me) := blk_cell hw0 6
              have f0_6 := blk_free hw0 6
              have hw1 : ((wr.setCell ⟨c, k, none⟩ (.int .i64 (cx + 1))).setCell ⟨g, 4, none⟩ (.float .f64 v)).heap[g]? = some (.cells (rcells ob cb c ({ x with cs := x.cs.set k (cx + 1), le := v } : G)) 69 (0, 0)) := blk_set hw0 4 _
              have kk1 := Keep.setCell (bs := (· = g)) (Keep.refl _ (wr.setCell ⟨c, k, none⟩ (.int .i64 (cx + 1)))) (p := ⟨g, 4, none⟩) (Or.inl rfl) (.float .f64 v)
              have c1_2 : ((wr.setCell ⟨c, k, none⟩ (.int .i64 (cx + 1))).setCell ⟨g, 4, none⟩ (.float .f64 v)).cell? ⟨g, 2, none⟩ = some (.int .i64 x.n) := blk_cell hw1 2
              have f1_2 := blk_free hw1 2
              have c1_4 : ((wr.setCell ⟨c, k, none⟩ (.int .i64 (cx + 1))).setCell ⟨g, 4, none⟩ (.float .f64 v)).cell? ⟨g, 4, none⟩ = some (.float .f64 v) := blk_cell hw1 4
              have f1_4 := blk_free hw1 4
              have c1_5 : ((wr.setCell ⟨c, k, none⟩ (.int .i64 (cx + 1))).setCell ⟨g, 4, none⟩ (.float .f64 v)).cell? ⟨g, 5, none⟩ = some (.float .f64 x.gr) := blk_cell hw1 5
              have f1_5 := blk_free hw1 5
              have c1_6 : ((wr.setCell ⟨c, k, none⟩ (.int .i64 (cx + 1))).setCell ⟨g, 4, none⟩ (.float .f64 v)).cell? ⟨g, 6, none⟩ = some (.float .f64 x.me) := blk_cell hw1 6
              have f1_6 := blk_free hw1 6
              have hw2 : (((wr.setCell ⟨c, k, none⟩ (.int .i64 (cx + 1))).setCell ⟨g, 4, none⟩ (.float .f64 v)).setCell ⟨g, 2, none⟩ (.int .i64 (x.n + 1))).heap[g]? = some (.cells (rcells ob cb c ({ x with cs := x.cs.set k (cx + 1), n := x.n + 1, le := v } : G)) 69 (0, 0)) := blk_set hw1 2 _
              have kk2 := Keep.setCell (bs := (· = g)) (Keep.refl _ ((wr.setCell ⟨c, k, none⟩ (.int .i64 (cx + 1))).setCell ⟨g, 4, none⟩ (.float .f64 v))) (p := ⟨g, 2, none⟩) (Or.inl rfl) (.int .i64 (x.n + 1))
              have c2_2 : (((wr.setCell ⟨c, k, none⟩ (.int .i64 (cx + 1))).setCell ⟨g, 4, none⟩ (.float .f64 v)).setCell ⟨g, 2, none⟩ (.int .i64 (x.n + 1))).cell? ⟨g, 2, none⟩ = some (.int .i64 (x.n + 1)) := blk_cell hw2 2
              have f2_2 := blk_free hw2 2
              have c2_4 : (((wr.setCell ⟨c, k, none⟩ (.int .i64 (cx + 1))).setCell ⟨g, 4, none⟩ (.float .f64 v)).setCell ⟨g, 2, none⟩ (.int .i64 (x.n + 1))).cell? ⟨g, 4, none⟩ = some (.float .f64 v) := blk_cell hw2 4
              have f2_4 := blk_free hw2 4
              have c2_5 : (((wr.setCell ⟨c, k, none⟩ (.int .i64 (cx + 1))).setCell ⟨g, 4, none⟩ (.float .f64 v)).setCell ⟨g, 2, none⟩ (.int .i64 (x.n + 1))).cell? ⟨g, 5, none⟩ = some (.float .f64 x.gr) := blk_cell hw2 5
              have f2_5 := blk_free hw2 5
              have c2_6 : (((wr.setCell ⟨c, k, none⟩ (.int .i64 (cx + 1))).setCell ⟨g, 4, none⟩ (.float .f64 v)).setCell ⟨g, 2, none⟩ (.int .i64 (x.n + 1))).cell? ⟨g, 6, none⟩ = some (.float .f64 x.me) := blk_cell hw2 6
              have f2_6 := blk_free hw2 6
              have HEND := Lib.hid (And.intro (kk1.trans kk2) hw2)
              clear hw0 hw1 hw2 kk1 kk2
              generalize cmpF v x.le = z1 at *
              generalize cmpF v x.gr = z2 at *
              have d1 : decide (z1 < 0) = true := by simpa using hL
              have d2 : decide (0 < z2) = false := by simpa using hG
              go_wp2_with fail
              refine (HCL.out _).mono ?_
              rintro e w' ⟨rfl, rfl⟩
              go_wp2_with fail
              refine (HCG.out _).mono ?_
              rintro e w' ⟨rfl, rfl⟩
              go_wp2_with fail
              refine (canon3_any _ _).mono ?_
              rintro e w' ⟨rfl, rfl⟩
              rw [mean_chain]
              go_wp2_with fail
              have hme : canonF (opF .add x.me (opF .quo (opF .sub v x.me) (floatOfInt .f64 (x.n + 1)))) = meF x v := rfl
              rw [hme]
              go_end0
              refine ⟨rfl, ?_, ?_⟩
              · rw [HPX.out]
                have hrow := HEND.out.2
                refine HSET.out.1.turn ?_ (blk_set (c := rcells ob cb c ({ x with cs := x.cs.set k (cx + 1), n := x.n + 1, le := v } : G)) (t := 69) ?_ 6 _) rfl rfl ?_ ?_
                · refine Keep.setCell (bs := (· = g)) ?_ (Or.inl rfl) _
                  exact Keep_op _ _ _ (Keep_op _ _ _ (Keep_op _ _ _ HEND.out.1))
                · rw [opW_heap, opW_heap, opW_heap]
                  exact hrow
                · first | exact HF.out.2.1 | exact HF.out.1.le64
                · first | exact HF.out.2.1 | exact HF.out.1.gr64
              · refine (HSET.out.2.mono fun _ _ h => Or.inr h).trans ?_
                refine Keep.mono (bs := (· = g)) ?_ (fun _ _ h => Or.inl h)
                refine Keep.setCell (bs := (· = g)) ?_ (Or.inl rfl) _
                exact Keep_op _ _ _ (Keep_op _ _ _ (Keep_op _ _ _ HEND.out.1))
          · by_cases hG : 0 < cmpF v x.gr
            · skip
              have hkb' : decide ((k : Int) < (nb : Int)) = false := by simp; omega
              have HPX : RowKit.Hid (R = ({ x with cs := x.cs.set k (cx + 1), n := x.n + 1, me := meF x v, gr := v } : G)) := Lib.hid (by rw [HPE.out]; simp only [widenS, bump]; have hc2 := HCX.out; rw [List.getD_eq_getElem?_getD] at hc2; simp [hn0, hL, hG, hc2])
              have hw0 : (wr.setCell ⟨c, k, none⟩ (.int .i64 (cx + 1))).heap[g]? = some (.cells (rcells ob cb c ({ x with cs := x.cs.set k (cx + 1) } : G)) 69 (0, 0)) := HSET.out.1.row
              have c0_2 : (wr.setCell ⟨c, k, none⟩ (.int .i64 (cx + 1))).cell? ⟨g, 2, none⟩ = some (.int .i64 x.n) := blk_cell hw0 2
              have f0_2 := blk_free hw0 2
              have c0_4 : (wr.setCell ⟨c, k, none⟩ (.int .i64 (cx + 1))).cell? ⟨g, 4, none⟩ = some (.float .f64 x.le) := blk_cell hw0 4
              have f0_4 := blk_free hw0 4
              have c0_5 : (wr.setCell ⟨c, k, none⟩ (.int .i64 (cx + 1))).cell? ⟨g, 5, none⟩ = some (.float .f64 x.gr) := blk_cell hw0 5
              have f0_5 := blk_free hw0 5
              have c0_6 : (wr.setCell ⟨c, k, none⟩ (.int .i64 (cx + 1))).cell? ⟨g, 6, none⟩ = some (.float .f64 x.me) := blk_cell hw0 6
              have f0_6 := blk_free hw0 6
              have hw1 : ((wr.setCell ⟨c, k, none⟩ (.int .i64 (cx + 1))).setCell ⟨g, 5, none⟩ (.float .f64 v)).heap[g]? = some (.cells (rcells ob cb c ({ x with cs := x.cs.set k (cx + 1), gr := v } : G)) 69 (0, 0)) := blk_set hw0 5 _
              have kk1 := Keep.setCell (bs := (· = g)) (Keep.refl _ (wr.setCell ⟨c, k, none⟩ (.int .i64 (cx + 1)))) (p := ⟨g, 5, none⟩) (Or.inl rfl) (.float .f64 v)
              have c1_2 : ((wr.setCell ⟨c, k, none⟩ (.int .i64 (cx + 1))).setCell ⟨g, 5, none⟩ (.float .f64 v)).cell? ⟨g, 2, none⟩ = some (.int .i64 x.n) := blk_cell hw1 2
              have f1_2 := blk_free hw1 2
              have c1_4 : ((wr.setCell ⟨c, k, none⟩ (.int .i64 (cx + 1))).setCell ⟨g, 5, none⟩ (.float .f64 v)).cell? ⟨g, 4, none⟩ = some (.float .f64 x.le) := blk_cell hw1 4
              have f1_4 := blk_free hw1 4
              have c1_5 : ((wr.setCell ⟨c, k, none⟩ (.int .i64 (cx + 1))).setCell ⟨g, 5, none⟩ (.float .f64 v)).cell? ⟨g, 5, none⟩ = some (.float .f64 v) := blk_cell hw1 5
              have f1_5 := blk_free hw1 5
              have c1_6 : ((wr.setCell ⟨c, k, none⟩ (.int .i64 (cx + 1))).setCell ⟨g, 5, none⟩ (.float .f64 v)).cell? ⟨g, 6, none⟩ = some (.float .f64 x.me) := blk_cell hw1 6
              have f1_6 := blk_free hw1 6
              have hw2 : (((wr.setCell ⟨c, k, none⟩ (.int .i64 (cx + 1))).setCell ⟨g, 5, none⟩ (.float .f64 v)).setCell ⟨g, 2, none⟩ (.int .i64 (x.n + 1))).heap[g]? = some (.cells (rcells ob cb c ({ x with cs := x.cs.set k (cx + 1), n := x.n + 1, gr := v } : G)) 69 (0, 0)) := blk_set hw1 2 _
              have kk2 := Keep.setCell (bs := (· = g)) (Keep.refl _ ((wr.setCell ⟨c, k, none⟩ (.int .i64 (cx + 1))).setCell ⟨g, 5, none⟩ (.float .f64 v))) (p := ⟨g, 2, none⟩) (Or.inl rfl) (.int .i64 (x.n + 1))
              have c2_2 : (((wr.setCell ⟨c, k, none⟩ (.int .i64 (cx + 1))).setCell ⟨g, 5, none⟩ (.float .f64 v)).setCell ⟨g, 2, none⟩ (.int .i64 (x.n + 1))).cell? ⟨g, 2, none⟩ = some (.int .i64 (x.n + 1)) := blk_cell hw2 2
              have f2_2 := blk_free hw2 2
              have c2_4 : (((wr.setCell ⟨c, k, none⟩ (.int .i64 (cx + 1))).setCell ⟨g, 5, none⟩ (.float .f64 v)).setCell ⟨g, 2, none⟩ (.int .i64 (x.n + 1))).cell? ⟨g, 4, none⟩ = some (.float .f64 x.le) := blk_cell hw2 4
              have f2_4 := blk_free hw2 4
              have c2_5 : (((wr.setCell ⟨c, k, none⟩ (.int .i64 (cx + 1))).setCell ⟨g, 5, none⟩ (.float .f64 v)).setCell ⟨g, 2, none⟩ (.int .i64 (x.n + 1))).cell? ⟨g, 5, none⟩ = some (.float .f64 v) := blk_cell hw2 5
              have f2_5 := blk_free hw2 5
              have c2_6 : (((wr.setCell ⟨c, k, none⟩ (.int .i64 (cx + 1))).setCell ⟨g, 5, none⟩ (.float .f64 v)).setCell ⟨g, 2, none⟩ (.int .i64 (x.n + 1))).cell? ⟨g, 6, none⟩ = some (.float .f64 x.me) := blk_cell hw2 6
              have f2_6 := blk_free hw2 6
              have HEND := Lib.hid (And.intro (kk1.trans kk2) hw2)
              clear hw0 hw1 hw2 kk1 kk2
              generalize cmpF v x.le = z1 at *
              generalize cmpF v x.gr = z2 at *
              have d1 : decide (z1 < 0) = false := by simpa using hL
              have d2 : decide (0 < z2) = true := by simpa using hG
              go_wp2_with fail
              refine (HCL.out _).mono ?_
              rintro e w' ⟨rfl, rfl⟩
              go_wp2_with fail
              refine (HCG.out _).mono ?_
              rintro e w' ⟨rfl, rfl⟩
              go_wp2_with fail
              refine (canon3_any _ _).mono ?_
              rintro e w' ⟨rfl, rfl⟩
              rw [mean_chain]
              go_wp2_with fail
              have hme : canonF (opF .add x.me (opF .quo (opF .sub v x.me) (floatOfInt .f64 (x.n + 1)))) = meF x v := rfl
              rw [hme]
              go_end0
              refine ⟨rfl, ?_, ?_⟩
              · rw [HPX.out]
                have hrow := HEND.out.2
                refine HSET.out.1.turn ?_ (blk_set (c := rcells ob cb c ({ x with cs := x.cs.set k (cx + 1), n := x.n + 1, gr := v } : G)) (t := 69) ?_ 6 _) rfl rfl ?_ ?_
                · refine Keep.setCell (bs := (· = g)) ?_ (Or.inl rfl) _
                  exact Keep_op _ _ _ (Keep_op _ _ _ (Keep_op _ _ _ HEND.out.1))
                · rw [opW_heap, opW_heap, opW_heap]
                  exact hrow
                · first | exact HF.out.2.1 | exact HF.out.1.le64
                · first | exact HF.out.2.1 | exact HF.out.1.gr64
              · refine (HSET.out.2.mono fun _ _ h => Or.inr h).trans ?_
                refine Keep.mono (bs := (· = g)) ?_ (fun _ _ h => Or.inl h)
                refine Keep.setCell (bs := (· = g)) ?_ (Or.inl rfl) _
                exact Keep_op _ _ _ (Keep_op _ _ _ (Keep_op _ _ _ HEND.out.1))
            · skip
              have hkb' : decide ((k : Int) < (nb : Int)) = false := by simp; omega
              have HPX : RowKit.Hid (R = ({ x with cs := x.cs.set k (cx + 1), n := x.n + 1, me := meF x v } : G)) := Lib.hid (by rw [HPE.out]; simp only [widenS, bump]; have hc2 := HCX.out; rw [List.getD_eq_getElem?_getD] at hc2; simp [hn0, hL, hG, hc2])
              have hw0 : (wr.setCell ⟨c, k, none⟩ (.int .i64 (cx + 1))).heap[g]? = some (.cells (rcells ob cb c ({ x with cs := x.cs.set k (cx + 1) } : G)) 69 (0, 0)) := HSET.out.1.row
              have c0_2 : (wr.setCell ⟨c, k, none⟩ (.int .i64 (cx + 1))).cell? ⟨g, 2, none⟩ = some (.int .i64 x.n) := blk_cell hw0 2
              have f0_2 := blk_free hw0 2
              have c0_4 : (wr.setCell ⟨c, k, none⟩ (.int .i64 (cx + 1))).cell? ⟨g, 4, none⟩ = some (.float .f64 x.le) := blk_cell hw0 4
              have f0_4 := blk_free hw0 4
              have c0_5 : (wr.setCell ⟨c, k, none⟩ (.int .i64 (cx + 1))).cell? ⟨g, 5, none⟩ = some (.float .f64 x.gr) := blk_cell hw0 5
              have f0_5 := blk_free hw0 5
              have c0_6 : (wr.setCell ⟨c, k, none⟩ (.int .i64 (cx + 1))).cell? ⟨g, 6, none⟩ = some (.float .f64 x.me) := blk_cell hw0 6
              have f0_6 := blk_free hw0 6
              have hw1 : ((wr.setCell ⟨c, k, none⟩ (.int .i64 (cx + 1))).setCell ⟨g, 2, none⟩ (.int .i64 (x.n + 1))).heap[g]? = some (.cells (rcells ob cb c ({ x with cs := x.cs.set k (cx + 1), n := x.n + 1 } : G)) 69 (0, 0)) := blk_set hw0 2 _
              have kk1 := Keep.setCell (bs := (· = g)) (Keep.refl _ (wr.setCell ⟨c, k, none⟩ (.int .i64 (cx + 1)))) (p := ⟨g, 2, none⟩) (Or.inl rfl) (.int .i64 (x.n + 1))
              have c1_2 : ((wr.setCell ⟨c, k, none⟩ (.int .i64 (cx + 1))).setCell ⟨g, 2, none⟩ (.int .i64 (x.n + 1))).cell? ⟨g, 2, none⟩ = some (.int .i64 (x.n + 1)) := blk_cell hw1 2
              have f1_2 := blk_free hw1 2
              have c1_4 : ((wr.setCell ⟨c, k, none⟩ (.int .i64 (cx + 1))).setCell ⟨g, 2, none⟩ (.int .i64 (x.n + 1))).cell? ⟨g, 4, none⟩ = some (.float .f64 x.le) := blk_cell hw1 4
              have f1_4 := blk_free hw1 4
              have c1_5 : ((wr.setCell ⟨c, k, none⟩ (.int .i64 (cx + 1))).setCell ⟨g, 2, none⟩ (.int .i64 (x.n + 1))).cell? ⟨g, 5, none⟩ = some (.float .f64 x.gr) := blk_cell hw1 5
              have f1_5 := blk_free hw1 5
              have c1_6 : ((wr.setCell ⟨c, k, none⟩ (.int .i64 (cx + 1))).setCell ⟨g, 2, none⟩ (.int .i64 (x.n + 1))).cell? ⟨g, 6, none⟩ = some (.float .f64 x.me) := blk_cell hw1 6
              have f1_6 := blk_free hw1 6
              have HEND := Lib.hid (And.intro kk1 hw1)
              clear hw0 hw1 kk1
              generalize cmpF v x.le = z1 at *
              generalize cmpF v x.gr = z2 at *
              have d1 : decide (z1 < 0) = false := by simpa using hL
              have d2 : decide (0 < z2) = false := by simpa using hG
              go_wp2_with fail
              refine (HCL.out _).mono ?_
              rintro e w' ⟨rfl, rfl⟩
              go_wp2_with fail
              refine (HCG.out _).mono ?_
              rintro e w' ⟨rfl, rfl⟩
              go_wp2_with fail
              refine (canon3_any _ _).mono ?_
              rintro e w' ⟨rfl, rfl⟩
              rw [mean_chain]
              go_wp2_with fail
              have hme : canonF (opF .add x.me (opF .quo (opF .sub v x.me) (floatOfInt .f64 (x.n + 1)))) = meF x v := rfl
              rw [hme]
              go_end0
              refine ⟨rfl, ?_, ?_⟩
              · rw [HPX.out]
                have hrow := HEND.out.2
                refine HSET.out.1.turn ?_ (blk_set (c := rcells ob cb c ({ x with cs := x.cs.set k (cx + 1), n := x.n + 1 } : G)) (t := 69) ?_ 6 _) rfl rfl ?_ ?_
                · refine Keep.setCell (bs := (· = g)) ?_ (Or.inl rfl) _
                  exact Keep_op _ _ _ (Keep_op _ _ _ (Keep_op _ _ _ HEND.out.1))
                · rw [opW_heap, opW_heap, opW_heap]
                  exact hrow
                · first | exact HF.out.2.1 | exact HF.out.1.le64
                · first | exact HF.out.2.1 | exact HF.out.1.gr64
              · refine (HSET.out.2.mono fun _ _ h => Or.inr h).trans ?_
                refine Keep.mono (bs := (· = g)) ?_ (fun _ _ h => Or.inl h)
                refine Keep.setCell (bs := (· = g)) ?_ (Or.inl rfl) _
                exact Keep_op _ _ _ (Keep_op _ _ _ (Keep_op _ _ _ HEND.out.1))
    · have hkb : k < nb := by omega
      obtain ⟨ad, rfl, hcell⟩ := HF.out.1.fls k (by rw [HNB.out]; exact hkb)
      have hlt := HF.out.2.2.1 k (by omega)
      have HC := Lib.hid (cmp3_any v (x.bs.getD k 0) HF.out.2.1 (HF.out.1.lt k))
      have hz := (cmp_pos v (x.bs.getD k 0)).2 hlt
      clear hlt
      generalize x.bs.getD k 0 = y at *
      generalize cmpF v y = z at *
      have hzd : decide (0 < z) = true := by simpa using hz
      go_wp2_with fail
      refine (HC.out _).mono ?_
      rintro e w' ⟨rfl, rfl⟩
      go_wp2_with fail
      go_roundg (gk - 1)
      case measure => omega
      case rel => exact ⟨k + 1, by omega, rfl, rfl, by omega⟩
end Go.Proofs.Ytdkcnbcjjlaidaa
