/- Tell of both. By an AI agent. -/
import Derived.Test.YtjlnicjnjnkdoaaDoorRfpB
import Derived.Test.YtjlnicjnjnkdoaaDoorSumN
import Derived.Test.YtjlnicjnjnkdoaaDoorSumL
import Derived.Test.YtjlnicjnjnkdoaaDoorSumH
import Derived.Laws.Tables
import Derived.Laws.Rows
namespace Go.Proofs.YtjlnicjnjnkdoaaDoor
open Go.ChangeShapes Go.WideShapes Go.ChangeAt Go.RowKit
open Bt Sm
set_option linter.unusedVariables false

/-- How many of the first k are NaNs. -/
def nans (us : List Nat) : Nat → Nat
  | 0 => 0
  | k + 1 => nans us k + (if Flt.nan (us.getD k 0) then 1 else 0)
theorem nans_le (us : List Nat) (k : Nat) : nans us k ≤ k := by
  induction k with
  | zero => exact Nat.le_refl _
  | succ k ih => unfold nans; split <;> omega

/-- A tally's cells. -/
def tal (n m : Nat) (a b c : Nat) : Array Value := #[.int .i64 n, .int .i64 m, .float .f64 a, .float .f64 b, .float .f64 c]
def TalAt (w : World) (t : Nat) (cs : Array Value) : Prop := w.heap[t]? = some (.cells cs 32 (0, 0))
theorem tal_all (n m a b c : Nat) : (tal n m a b c).all (·.oneCell') = true := by simp [tal, Value.oneCell']
theorem tally_size : (Tryd.prog.info? 32).map (·.size) = some 5 := by kernel_rfl
theorem wpList_store_row {P : Program} {ops : Array Oper} {rest : List Oper} {o : Oper} {a : Act} {w : World} {Q : Exit → Act → World → Prop} (hgd : o.guard = none) (ty : TypeId) (x y : Operand) (ho : o.op = .store ty x y)
    (g : Nat) (cells : Array Value) (hx : a.eval x = .pointer (some ⟨g, 0, none⟩)) (hy : a.eval y = .agg cells)
    (t : TypeId) (old : Array Value) (hg : w.heap[g]? = some (.cells old t (0, 0))) (hi : (P.info? ty).map (·.size) = some cells.size)
    (hold : old.size = cells.size) (h1 : cells.all (·.oneCell') = true)
    (h : wpList P ops Q rest (a.put o.dst undef) (w.setRow g cells)) : wpList P ops Q (o :: rest) a w :=
  wpList_plain hgd fun _ hK => wp_store_row ty x y ho g cells hx hy t old hg hi hold h1 (hK _ _ h)
theorem store_guard {P : Program} {ops : Array Oper} {rest : List Oper} {o : Oper} {a : Act} {w : World} {Q : Exit → Act → World → Prop} (x y : Operand) (ty : TypeId) (ho : o.op = .store ty x y)
    (h : wpList P ops Q (o :: rest) a w) : wpList P ops Q (o :: rest) a w := h
theorem load_guard {P : Program} {ops : Array Oper} {rest : List Oper} {o : Oper} {a : Act} {w : World} {Q : Exit → Act → World → Prop} (x : Operand) (ty : TypeId) (ho : o.op = .load ty x)
    (h : wpList P ops Q (o :: rest) a w) : wpList P ops Q (o :: rest) a w := h
theorem Keep.setRow {bs : Nat → Prop} {a w : World} (h : Keep bs a w) {g : Nat} (hg : bs g ∨ a.heap.size ≤ g) (c : Array Value) : Keep bs a (w.setRow g c) :=
  ⟨h.os, h.tape, h.output, by rw [size_setRow]; exact h.size, fun k hk hn => (setRow_other w g k c (by rcases hg with hg | hg; (intro e; subst e; exact hn hg); omega)).trans (h.block k hk hn)⟩

/-- What Tell answers. -/
def Told (base : Nat) (us : List Nat) (w : World) (e : Ending) (w' : World) : Prop :=
  e = .returned (.tuple #[.agg (tal us.length (nans us us.length) (outW (-1) us) (outW 1 us) (sumW us)), .int .i64 0]) ∧ Below base w w'

theorem results_tell5 (tmps : Array Value) (w : World) (bo : Nat) (cs : Array Value) (hs : cs.size = 5) (v : Value) (h2 : tmps.getD 2 undef = .pointer (some ⟨bo, 0, none⟩)) (h3 : tmps.getD 3 undef = v) (ho : TalAt w bo cs) :
    (results Tryd.f9 tmps).run Tryd.prog w = .ok (.tuple #[.agg cs, v]) w := by
  have h1 := run_loadVar_row (P := Tryd.prog) w bo 32 32 cs (0, 0) _ ho Tryd.underlying32 rfl (by rw [tally_size, hs])
  have e4 : tmps[2]?.getD undef = .pointer (some ⟨bo, 0, none⟩) := by simpa using h2
  have e5 : tmps[3]?.getD undef = v := by simpa using h3
  simp [results, Tryd.results9, e4, e5, asAddr, h1]
theorem results_tell (tmps : Array Value) (w : World) (bo : Nat) (cs : Array Value) (hs : cs.size = 5) (v : Value) (h2 : tmps.getD 2 undef = .pointer (some ⟨bo, 0, none⟩)) (h3 : tmps.getD 3 undef = v) (ho : TalAt w bo cs) :
    (results Tryd.f8 tmps).run Tryd.prog w = .ok (.tuple #[.agg cs, v]) w := by
  have h1 := run_loadVar_row (P := Tryd.prog) w bo 32 32 cs (0, 0) _ ho Tryd.underlying32 rfl (by rw [tally_size, hs])
  have e4 : tmps[2]?.getD undef = .pointer (some ⟨bo, 0, none⟩) := by simpa using h2
  have e5 : tmps[3]?.getD undef = v := by simpa using h3
  simp [results, Tryd.results8, e4, e5, asAddr, h1]

theorem fls_keep0 {w w' : World} {o : Option Addr} {us : List Nat} (h : Fls w o us) (k : Below w.heap.size w w') : Fls w' o us := by
  intro i hi
  obtain ⟨ad, ho, hc⟩ := h i hi
  exact ⟨ad, ho, (k.cell (cell_in hc)).trans hc⟩

/-- A field of the tally is stored. -/
theorem tal_next {w wr : World} {t : Nat} {cs zs : Array Value} (hz : TalAt wr w.heap.size zs) (ht : TalAt wr t cs) (hb : Below w.heap.size w wr) (htw : w.heap.size ≤ t) (htn : w.heap.size ≠ t) (i : Nat) (u : Value) (cs' : Array Value) (e : cs.setIfInBounds i u = cs') :
    TalAt (wr.setCell ⟨t, i, none⟩ u) w.heap.size zs ∧ TalAt (wr.setCell ⟨t, i, none⟩ u) t cs' ∧ Below w.heap.size w (wr.setCell ⟨t, i, none⟩ u) := by
  subst e
  exact ⟨(Below.heap_setCell _ _ _ _ htn).trans hz, blk_set ht i u, hb.setCell htw u⟩

set_option maxRecDepth 100000 in
set_option maxHeartbeats 2000000 in
theorem tell5_any (o : Option Addr) (us : List Nat) (cap : Nat) (w : World) (hF : Fls w o us) (hu : ∀ i, us.getD i 0 < 18446744073709551616) (hn : us.length ≤ 4096) :
    Calls Tryd.prog 9 #[.slice o us.length cap] w (Told w.heap.size us w) := by
  have HF := Lib.hid (And.intro hF hu)
  clear hF hu
  generalize hlen : us.length = n at *
  have HLEN := Lib.hid hlen
  clear hlen
  go_enter Tryd.func9, Tryd.ntmps9
  go_wp2_with fail
  have hz : TalAt ((w.alloc (.cells (tal 0 0 0 0 0) 32)).alloc (.cells (tal n 0 0 0 0) 32)) w.heap.size (tal 0 0 0 0 0) := blk_alloc (blk_new _ _) _
  have ht : TalAt ((w.alloc (.cells (tal 0 0 0 0 0) 32)).alloc (.cells (tal n 0 0 0 0) 32)) (w.heap.size + 1) (tal n 0 0 0 0) := blk_new_at _ _ (by simp)
  have hb : Below w.heap.size w ((w.alloc (.cells (tal 0 0 0 0 0) 32)).alloc (.cells (tal n 0 0 0 0) 32)) := ((Below.refl _ w).alloc (Nat.le_refl _) _).alloc (by simp) _
  have H0 := Lib.hid (And.intro hz (And.intro ht hb))
  clear hz ht hb
  obtain ⟨t, hte⟩ : ∃ t, w.heap.size + 1 = t := ⟨_, rfl⟩
  have HT := Lib.hid hte
  rw [hte] at H0 ⊢
  clear hte
  go_loopg [5] n (fun g i wr => ∃ k : Nat, g + k = n ∧ i = .int .i64 (k : Int) ∧ Hid (TalAt wr w.heap.size (tal 0 0 0 0 0) ∧ TalAt wr t (tal n (nans us k) 0 0 0) ∧ Below w.heap.size w wr))
  case atStart => exact ⟨0, by omega, rfl, H0⟩
  case round =>
    obtain ⟨k, hgk, rfl, HR⟩ := hrel
    by_cases hk : k < n
    · obtain ⟨ad, rfl, hcell⟩ := HF.out.1 k (by rw [HLEN.out]; exact hk)
      have hcz : wr.cell? (ad.add k) = some (.float .f64 (us.getD k 0)) := (HR.out.2.2.cell (cell_in hcell)).trans hcell
      have hns : nans us (k + 1) = nans us k + (if Flt.nan (us.getD k 0) then 1 else 0) := rfl
      have hnl := nans_le us k
      have HNS := Lib.hid hns
      generalize us.getD k 0 = U at *
      have c1 := blk_cell HR.out.2.1 1
      have f1 := blk_free HR.out.2.1 1
      have c1' : wr.cell? ⟨t, 1, none⟩ = some (.int .i64 (nans us k : Nat)) := by rw [c1]; rfl
      generalize hm : nans us k = m at *
      have N1 := nan3_any U wr
      clear hcell hns c1
      rcases hq : Flt.nan U with _ | _
      · rw [hq] at N1 HNS
        have HN1 := Lib.hid N1
        have HN2 := Lib.hid HNS.out
        clear N1 hq HNS
        go_wp2_with (go_at_call 25; go_must (refine HN1.out.mono ?_; rintro e w' ⟨rfl, rfl⟩))
        go_roundg (gk - 1)
        case measure => omega
        case rel => exact ⟨k + 1, by omega, rfl, by rw [HN2.out]; exact HR⟩
      · rw [hq] at N1 HNS
        have HN1 := Lib.hid N1
        have HN2 := Lib.hid HNS.out
        clear N1 hq HNS
        go_wp2_with (go_at_call 25; go_must (refine HN1.out.mono ?_; rintro e w' ⟨rfl, rfl⟩))
        go_roundg (gk - 1)
        case measure => omega
        case rel => exact ⟨k + 1, by omega, rfl, by
          rw [HN2.out]
          have h2 := blk_set HR.out.2.1 1 (.int .i64 ((m + 1 : Nat) : Int))
          refine Lib.hid ⟨?_, h2, HR.out.2.2.setCell (by have := HT.out; show _ ≤ t; omega) _⟩
          exact (Below.heap_setCell _ _ _ _ (by have := HT.out; show _ ≠ t; omega)).trans HR.out.1⟩
    · have hkn : k = n := by omega
      subst hkn
      obtain ⟨hz, ht, hb⟩ := HR.out
      have hfl := fls_keep0 HF.out.1 hb
      have M1 := min3_any o us cap wr hfl HF.out.2 (by rw [HLEN.out]; omega)
      rw [HLEN.out] at M1
      have HM1 := Lib.hid M1
      have c2 := blk_cell ht 2
      have f2 := blk_free ht 2
      have c2' : wr.cell? ⟨t, 2, none⟩ = some (.float .f64 0) := by rw [c2]; rfl
      have htw : w.heap.size ≤ t := by have := HT.out; omega
      have htn : w.heap.size ≠ t := by have := HT.out; omega
      have h1 := tal_next hz ht hb htw htn 2 (.float .f64 (outW (-1) us)) (tal k (nans us k) (outW (-1) us) 0 0) rfl
      have H1 := Lib.hid h1
      clear M1 hz ht hb hfl c2 h1 HR htw htn
      go_wp2_with (go_at_call 26; go_must (refine HM1.out.mono ?_; rintro e w' ⟨rfl, hw'⟩; obtain rfl : wr = w' := hw'.symm))
      clear HM1 c2' f2
      generalize wr.setCell ⟨t, 2, none⟩ (.float .f64 (outW (-1) us)) = wr at *
      have M2 := max3_any o us cap wr (fls_keep0 HF.out.1 H1.out.2.2) HF.out.2 (by rw [HLEN.out]; omega)
      rw [HLEN.out] at M2
      refine M2.mono ?_
      rintro e w2 ⟨rfl, hw2⟩
      obtain rfl : wr = w2 := hw2.symm
      clear M2 hw2
      have c3 : wr.cell? ⟨t, 3, none⟩ = some (.float .f64 0) := by rw [blk_cell H1.out.2.1 3]; rfl
      have f3 := blk_free H1.out.2.1 3
      have htw : w.heap.size ≤ t := by have := HT.out; omega
      have htn : w.heap.size ≠ t := by have := HT.out; omega
      have h2 := tal_next H1.out.1 H1.out.2.1 H1.out.2.2 htw htn 3 (.float .f64 (outW 1 us)) (tal k (nans us k) (outW (-1) us) (outW 1 us) 0) rfl
      have H2 := Lib.hid h2
      clear h2 htw htn H1
      go_wp2_with fail
      clear c3 f3
      generalize wr.setCell ⟨t, 3, none⟩ (.float .f64 (outW 1 us)) = wr at *
      have M3 := sum3_any o us cap wr (fls_keep0 HF.out.1 H2.out.2.2) HF.out.2 (by rw [HLEN.out]; omega)
      rw [HLEN.out] at M3
      refine M3.mono ?_
      rintro e w3 ⟨rfl, hw3⟩
      have htw : w.heap.size ≤ t := by have := HT.out; omega
      have htn : w.heap.size ≠ t := by have := HT.out; omega
      have hz3 : TalAt w3 w.heap.size (tal 0 0 0 0 0) := (hw3.block _ (lt_of_block H2.out.1)).trans H2.out.1
      have ht3 : TalAt w3 t (tal k (nans us k) (outW (-1) us) (outW 1 us) 0) := (hw3.block _ (lt_of_block H2.out.2.1)).trans H2.out.2.1
      have hb3 : Below w.heap.size w w3 := H2.out.2.2.trans (hw3.mono H2.out.2.2.size)
      have c4 : w3.cell? ⟨t, 4, none⟩ = some (.float .f64 0) := by rw [blk_cell ht3 4]; rfl
      have f4 := blk_free ht3 4
      have h3 := tal_next hz3 ht3 hb3 htw htn 4 (.float .f64 (sumW us)) (tal k (nans us k) (outW (-1) us) (outW 1 us) (sumW us)) rfl
      have H3 := Lib.hid h3
      clear h3 htw htn H2 M3 hw3 hz3 ht3 hb3
      go_wp2_with first
        | (refine load_guard (.tmp 4) 32 (by rfl) ?_; go_must (refine wpList_load_row rfl 32 (.tmp 4) rfl t rfl 32 _ (0, 0) _ H3.out.2.1 Tryd.underlying32 rfl tally_size ?_))
        | (refine store_guard (.tmp 2) (.tmp 43) 32 (by rfl) ?_; go_must (refine wpList_store_row rfl 32 (.tmp 2) (.tmp 43) rfl w.heap.size (tal k (nans us k) (outW (-1) us) (outW 1 us) (sumW us)) rfl rfl 32 _ H3.out.1 tally_size rfl (tal_all _ _ _ _ _) ?_))
      generalize w3.setCell ⟨t, 4, none⟩ (.float .f64 (sumW us)) = w4 at *
      have hfin : TalAt (w4.setRow w.heap.size (tal k (nans us k) (outW (-1) us) (outW 1 us) (sumW us))) w.heap.size (tal k (nans us k) (outW (-1) us) (outW 1 us) (sumW us)) := setRow_heap w4 _ _ _ _ _ H3.out.1
      refine bodyPost_ret (results_tell5 _ _ w.heap.size _ rfl (.int .i64 0) rfl rfl hfin) rfl ?_
      refine ⟨by rw [HLEN.out], ?_⟩
      exact H3.out.2.2.trans ((Keep.setRow (bs := (· = w.heap.size)) (Keep.refl _ w4) (Or.inl rfl) _).below H3.out.2.2.size (fun b hb => by omega))

set_option maxRecDepth 100000 in
set_option maxHeartbeats 2000000 in
theorem tell_any (o : Option Addr) (us : List Nat) (cap : Nat) (w : World) (hF : Fls w o us) (hu : ∀ i, us.getD i 0 < 18446744073709551616) (hn : us.length ≤ 4096) :
    Calls Tryd.prog 8 #[.slice o us.length cap] w (Told w.heap.size us w) := by
  have HF := Lib.hid (And.intro hF hu)
  clear hF hu
  generalize hlen : us.length = n at *
  have HLEN := Lib.hid hlen
  clear hlen
  go_enter Tryd.func8, Tryd.ntmps8
  go_wp2_with fail
  have hz0 : TalAt (w.alloc (.cells (tal 0 0 0 0 0) 32)) w.heap.size (tal 0 0 0 0 0) := blk_new _ _
  have hb0 : Below w.heap.size w (w.alloc (.cells (tal 0 0 0 0 0) 32)) := (Below.refl _ w).alloc (Nat.le_refl _) _
  have M3 := sum_any o us cap _ (fls_keep0 HF.out.1 hb0) HF.out.2 (by rw [HLEN.out]; omega)
  rw [HLEN.out] at M3
  refine M3.mono ?_
  rintro e w3 ⟨rfl, hw3⟩
  have hz3 : TalAt w3 w.heap.size (tal 0 0 0 0 0) := (hw3.block _ (lt_of_block hz0)).trans hz0
  have hb3 : Below w.heap.size w w3 := hb0.trans (hw3.mono hb0.size)
  have hlt : w.heap.size < w3.heap.size := lt_of_block hz3
  have H3 := Lib.hid (And.intro hz3 hb3)
  clear M3 hz0 hb0 hw3 hz3 hb3
  go_wp2_with fail
  have hz : TalAt (w3.alloc (.cells (tal n 0 0 0 (sumW us)) 32)) w.heap.size (tal 0 0 0 0 0) := blk_alloc H3.out.1 _
  have ht : TalAt (w3.alloc (.cells (tal n 0 0 0 (sumW us)) 32)) w3.heap.size (tal n 0 0 0 (sumW us)) := blk_new _ _
  have hb : Below w.heap.size w (w3.alloc (.cells (tal n 0 0 0 (sumW us)) 32)) := H3.out.2.alloc (by omega) _
  have H0 := Lib.hid (And.intro hz (And.intro ht hb))
  clear hz ht hb
  generalize w3.heap.size = t at *
  have htw : w.heap.size < t := hlt
  clear hlt H3
  go_loopg [18] n (fun g i wr => ∃ k : Nat, g + k = n ∧ i = .int .i64 (k : Int) ∧ Hid (TalAt wr w.heap.size (tal 0 0 0 0 0) ∧ TalAt wr t (tal n (nans us k) 0 0 (sumW us)) ∧ Below w.heap.size w wr))
  case atStart => exact ⟨0, by omega, rfl, H0⟩
  case round =>
    obtain ⟨k, hgk, rfl, HR⟩ := hrel
    by_cases hk : k < n
    · obtain ⟨ad, rfl, hcell⟩ := HF.out.1 k (by rw [HLEN.out]; exact hk)
      have hcz : wr.cell? (ad.add k) = some (.float .f64 (us.getD k 0)) := (HR.out.2.2.cell (cell_in hcell)).trans hcell
      have hns : nans us (k + 1) = nans us k + (if Flt.nan (us.getD k 0) then 1 else 0) := rfl
      have hnl := nans_le us k
      have HNS := Lib.hid hns
      generalize us.getD k 0 = U at *
      have c1 := blk_cell HR.out.2.1 1
      have f1 := blk_free HR.out.2.1 1
      have c1' : wr.cell? ⟨t, 1, none⟩ = some (.int .i64 (nans us k : Nat)) := by rw [c1]; rfl
      generalize hm : nans us k = m at *
      clear hcell hns c1
      have N1 : (FloatKind.f64.format.order U U != some .eq) = Flt.nan U := Flt.fnan_eq U
      rcases hq : Flt.nan U with _ | _
      · rw [hq] at N1 HNS
        have HN2 := Lib.hid HNS.out
        clear hq HNS
        go_wp2_with fail
        go_roundg (gk - 1)
        case measure => omega
        case rel => exact ⟨k + 1, by omega, rfl, by rw [HN2.out]; exact HR⟩
      · rw [hq] at N1 HNS
        have HN2 := Lib.hid HNS.out
        clear hq HNS
        go_wp2_with fail
        go_roundg (gk - 1)
        case measure => omega
        case rel => exact ⟨k + 1, by omega, rfl, by
          rw [HN2.out]
          have h2 := blk_set HR.out.2.1 1 (.int .i64 ((m + 1 : Nat) : Int))
          refine Lib.hid ⟨?_, h2, HR.out.2.2.setCell (by show _ ≤ t; omega) _⟩
          exact (Below.heap_setCell _ _ _ _ (by show _ ≠ t; omega)).trans HR.out.1⟩
    · have hkn : k = n := by omega
      subst hkn
      obtain ⟨hz, ht, hb⟩ := HR.out
      have hfl := fls_keep0 HF.out.1 hb
      have M1 := min_any o us cap wr hfl HF.out.2 (by rw [HLEN.out]; omega)
      rw [HLEN.out] at M1
      have HM1 := Lib.hid M1
      have c2 := blk_cell ht 2
      have f2 := blk_free ht 2
      have c2' : wr.cell? ⟨t, 2, none⟩ = some (.float .f64 0) := by rw [c2]; rfl
      have h1 := tal_next hz ht hb (by omega) (by omega) 2 (.float .f64 (outW (-1) us)) (tal k (nans us k) (outW (-1) us) 0 (sumW us)) rfl
      have H1 := Lib.hid h1
      have HTW := Lib.hid htw
      clear M1 hz ht hb hfl c2 h1 HR htw
      go_wp2_with (go_at_call 23; go_must (refine HM1.out.mono ?_; rintro e w' ⟨rfl, hw'⟩; obtain rfl : wr = w' := hw'.symm))
      clear HM1 c2' f2
      generalize wr.setCell ⟨t, 2, none⟩ (.float .f64 (outW (-1) us)) = wr at *
      have M2 := max_any o us cap wr (fls_keep0 HF.out.1 H1.out.2.2) HF.out.2 (by rw [HLEN.out]; omega)
      rw [HLEN.out] at M2
      refine M2.mono ?_
      rintro e w2 ⟨rfl, hw2⟩
      obtain rfl : wr = w2 := hw2.symm
      clear M2 hw2
      have c3 : wr.cell? ⟨t, 3, none⟩ = some (.float .f64 0) := by rw [blk_cell H1.out.2.1 3]; rfl
      have f3 := blk_free H1.out.2.1 3
      have h2 := tal_next H1.out.1 H1.out.2.1 H1.out.2.2 (by have := HTW.out; omega) (by have := HTW.out; omega) 3 (.float .f64 (outW 1 us)) (tal k (nans us k) (outW (-1) us) (outW 1 us) (sumW us)) rfl
      have H3 := Lib.hid h2
      clear h2 H1
      go_wp2_with first
        | (refine load_guard (.tmp 4) 32 (by rfl) ?_; go_must (refine wpList_load_row rfl 32 (.tmp 4) rfl t rfl 32 _ (0, 0) _ H3.out.2.1 Tryd.underlying32 rfl tally_size ?_))
        | (refine store_guard (.tmp 2) (.tmp 42) 32 (by rfl) ?_; go_must (refine wpList_store_row rfl 32 (.tmp 2) (.tmp 42) rfl w.heap.size (tal k (nans us k) (outW (-1) us) (outW 1 us) (sumW us)) rfl rfl 32 _ H3.out.1 tally_size rfl (tal_all _ _ _ _ _) ?_))
      generalize wr.setCell ⟨t, 3, none⟩ (.float .f64 (outW 1 us)) = w4 at *
      have hfin : TalAt (w4.setRow w.heap.size (tal k (nans us k) (outW (-1) us) (outW 1 us) (sumW us))) w.heap.size (tal k (nans us k) (outW (-1) us) (outW 1 us) (sumW us)) := setRow_heap w4 _ _ _ _ _ H3.out.1
      refine bodyPost_ret (results_tell _ _ w.heap.size _ rfl (.int .i64 0) rfl rfl hfin) rfl ?_
      refine ⟨by rw [HLEN.out], ?_⟩
      exact H3.out.2.2.trans ((Keep.setRow (bs := (· = w.heap.size)) (Keep.refl _ w4) (Or.inl rfl) _).below H3.out.2.2.size (fun b hb => by omega))
end Go.Proofs.YtjlnicjnjnkdoaaDoor
