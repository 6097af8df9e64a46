/- A gauge is told any number: Put where the arithmetic ends in a NaN. By an AI agent. -/
import Derived.Test.YtdkcnbcjjlaidaaGauH
namespace Go.Proofs.Ytdkcnbcjjlaidaa
open Go.ChangeShapes Go.WideShapes Go.ChangeAt Go.RowKit
set_option linter.unusedVariables false

theorem Keep.like {bs : Nat → Prop} {a w w' : World} (k : Keep bs a w) (h : w'.heap = w.heap) (ho : w'.os = w.os) (ht : w'.tape = w.tape) (hu : w'.output = w.output) : Keep bs a w' :=
  ⟨ho.trans k.os, ht.trans k.tape, hu.trans k.output, by rw [h]; exact k.size, fun i hi hn => by rw [h]; exact k.block i hi hn⟩

/-- The mean behind a number more. -/
def meF (x : G) (v : Nat) : Nat := canonF (opF .add x.me (opF .quo (opF .sub v x.me) (floatOfInt .f64 (x.n + 1))))
/-- What a Put of a number makes of it. -/
def putG (x : G) (v : Nat) : G := { widenS (bump x (cellIx x.bs v)) v v with n := x.n + 1, me := meF x v }
theorem can_nan (a b : Nat) (w : World) : canonF (nanW a b w) = 9221120237041090561 := canon_nan (nanW_nan a b w)
set_option maxRecDepth 100000 in
set_option maxHeartbeats 8000000 in
theorem put_n1 {w : World} {g base : Nat} {ob : Option Addr} {cb c : Nat} {x : G} (h : GAt w g base ob cb c x) (hx : Calm x) (v d q : Nat) (hv : Flt.nan v = false) (hv64 : v < 2 ^ 64)
    (hd : floatBits .sub .f64 v x.me = none) :
    Calls Try.prog 16 #[.pointer (some ⟨g, 0, none⟩), .float .f64 v] w fun e w' => e = .returned (.tuple #[]) ∧ GAt w' g base ob cb c (putG x v) ∧ Keep (fun b => b = g ∨ b = c) w w' := by
  obtain ⟨q0, q1, q2, q3, q4, q5, q6, q7⟩ := gcell_facts h
  have hzg := lt_of_block h.row
  have hzc := lt_of_block h.cls
  have hb : (FloatKind.f64.format.order v v != some .eq) = false := by rw [← hv, ← Flt.fnan_eq]; rfl
  have o1 : ∀ t w, (binOp .sub t (.float .f64 v) (.float .f64 x.me)).run Try.prog w = .ok (.float .f64 (nanW v x.me w)) w.drew := fun t w => run_arith_nan (Or.inr (Or.inl rfl)) _ t v x.me hd w
  have o2 : ∀ t w a b w', (binOp .quo t (.float .f64 (nanW a b w')) (.float .f64 (floatOfInt .f64 (x.n + 1)))).run Try.prog w = .ok (.float .f64 (nanW (nanW a b w') (floatOfInt .f64 (x.n + 1)) w)) w.drew := fun t w a b w' => run_arith_nan (Or.inr (Or.inr (Or.inr rfl))) _ t _ _ (arith_nan (Or.inl (nanW_nan _ _ _))) w
  have o3 : ∀ t w a b w', (binOp .add t (.float .f64 x.me) (.float .f64 (nanW a b w'))).run Try.prog w = .ok (.float .f64 (nanW x.me (nanW a b w') w)) w.drew := fun t w a b w' => run_arith_nan (Or.inl rfl) _ t _ _ (arith_nan (Or.inr (nanW_nan _ _ _))) w
  have o4 := can_nan
  obtain ⟨n0, n1, -, -, hcc, hbl⟩ := hx
  have hix : cellIx x.bs v < x.cs.length := by
    have := (srch_le (leF x.bs v) x.bs.length 0 x.bs.length (Nat.zero_le _)).2
    have := h.len
    show srch (leF x.bs v) x.bs.length 0 x.bs.length < _
    omega
  have HCELL : RowKit.Hid (∀ W, Below w.heap.size w W → Calls Try.prog 36 #[.pointer (some ⟨g, 0, none⟩), .float .f64 v] W fun e w' => e = .returned (.int .i64 (cellIx x.bs v : Nat)) ∧ Below W.heap.size W w') :=
    Lib.hid fun W k => cell_any (h.keep k) v hv64 hbl
  have hcv := hcc (cellIx x.bs v)
  have HG := Lib.hid (And.intro h hv64)
  have hcb : w.heap[c]? = some (.cells (i64s x.cs) 2 (0, 0)) := h.cls
  have HCB := Lib.hid (And.intro hcb (i64s_get x.cs (cellIx x.bs v) hix))
  have HPE : RowKit.Hid (putG x v = { widenS (bump x (cellIx x.bs v)) v v with n := x.n + 1, me := 9221120237041090561 }) := Lib.hid (by unfold putG meF; rw [opF_none hd, opF_none (arith_nan (Or.inl nanC)), opF_nan, canon_nan nanC])
  have hl2 := hix
  generalize putG x v = R at *
  clear h hv hv64 hd hcc hbl hcb
  generalize cellIx x.bs v = ix at *
  generalize hcsl : x.cs.length = cl at *
  generalize hcx : x.cs.getD ix 0 = cx at *
  have hwr : IntKind.i64.wrap (cx + 1) = cx + 1 := IntWalk.i64_in _ ⟨by omega, by omega⟩
  go_enter Try.func16, Try.ntmps16
  go_wp2_with fail
  refine (there_any _ _ q0).mono ?_
  rintro e w' ⟨rfl, rfl⟩
  go_wp2_with fail
  go_region_with (go_at_call 36; refine (HCELL.out _ ?_).mono ?_; exact ⟨rfl, rfl, rfl, Nat.le_refl _, fun _ _ => rfl⟩; rintro e w2 ⟨rfl, hb2⟩; have hblk := (hb2.block c hzc).trans HCB.out.1; have r1 := (blk_cell hblk ix).trans HCB.out.2; have r2 := blk_free hblk ix; have r3 := (hb2.cell (p := ⟨g, 2, none⟩) hzg).trans q2; have hb3 : Below w.heap.size w w2 := (show Below w.heap.size w w.drew from ⟨rfl, rfl, rfl, Nat.le_refl _, fun _ _ => rfl⟩).trans hb2; have hgb := (HG.out.1.keep hb3).bump ix; rw [hcx] at hgb; have HB2 := Lib.hid (And.intro hb3 hgb); clear hb2 hblk hb3 hgb)
  all_goals go_wp2_with fail
  all_goals refine (widen_any HB2.out.2.1 v v HG.out.2 HG.out.2).mono ?_
  all_goals rintro e w3 ⟨rfl, hg3, k3⟩
  all_goals have p3 : w3.cell? ⟨g, 3, none⟩ = some (.int .i64 x.n) := (gcell_facts hg3).2.2.2.1
  all_goals have p7 : w3.cell? ⟨g, 7, none⟩ = some (.float .f64 x.me) := (gcell_facts hg3).2.2.2.2.2.2.2
  all_goals have pf3 := blk_free hg3.row 3
  all_goals have hw4 : (w3.setCell ⟨g, 3, none⟩ (.int .i64 (x.n + 1))).heap[g]? = some (.cells (gcells ob cb c { widenS (bump x ix) v v with n := x.n + 1 }) 64 (0, 0)) := blk_set hg3.row 3 _
  all_goals have s3 : (w3.setCell ⟨g, 3, none⟩ (.int .i64 (x.n + 1))).cell? ⟨g, 3, none⟩ = some (.int .i64 (x.n + 1)) := blk_cell hw4 3
  all_goals have s7 : (w3.setCell ⟨g, 3, none⟩ (.int .i64 (x.n + 1))).cell? ⟨g, 7, none⟩ = some (.float .f64 x.me) := blk_cell hw4 7
  all_goals have sf7 := blk_free hw4 7
  all_goals have k4 := Keep.setCell (bs := (· = g)) (Keep.refl _ w3) (p := ⟨g, 3, none⟩) (Or.inl rfl) (.int .i64 (x.n + 1))
  all_goals have hg4 := hg3.turn k4 hw4 rfl rfl hg3.le64 hg3.gr64
  all_goals have HK := Lib.hid (And.intro (((Keep.of_below HB2.out.1).mono (cs := fun b => b = g ∨ b = c) (fun _ _ h => h.elim)).trans (HB2.out.2.2.mono (cs := fun b => b = g ∨ b = c) (fun _ _ h => Or.inr h))) (And.intro (k3.trans k4) hg4))
  all_goals clear hg3 k3 hw4 k4 hg4 q0 q1 q2 q3 q4 q5 q6 q7 r1 r2 r3
  all_goals go_wp2_with fail
  all_goals go_region_with (go_at_call 29; refine (canon_any _ _).mono ?_; rintro e w' ⟨rfl, rfl⟩)
  all_goals go_wp2_with fail
  all_goals go_end0
  all_goals have k5 := Keep.setCell (bs := (· = g)) (Keep.refl _ (w3.setCell ⟨g, 3, none⟩ (.int .i64 (x.n + 1)))) (p := ⟨g, 7, none⟩) (Or.inl rfl) (.float .f64 9221120237041090561)
  all_goals
    refine ⟨rfl, ?_, ?_⟩
    · rw [HPE.out]
      refine HK.out.2.2.turn ?_ (blk_set HK.out.2.2.row 7 _) rfl rfl HK.out.2.2.le64 HK.out.2.2.gr64
      exact Keep.like k5 rfl rfl rfl rfl
    · refine HK.out.1.trans ?_
      refine Keep.mono (bs := (· = g)) ?_ (fun _ _ h => Or.inl h)
      refine HK.out.2.1.trans ?_
      exact Keep.like k5 rfl rfl rfl rfl

set_option maxRecDepth 100000 in
set_option maxHeartbeats 8000000 in
theorem put_n2 {w : World} {g base : Nat} {ob : Option Addr} {cb c : Nat} {x : G} (h : GAt w g base ob cb c x) (hx : Calm x) (v d q : Nat) (hv : Flt.nan v = false) (hv64 : v < 2 ^ 64)
    (hd : floatBits .sub .f64 v x.me = some d) (hq : floatBits .quo .f64 d (floatOfInt .f64 (x.n + 1)) = none) :
    Calls Try.prog 16 #[.pointer (some ⟨g, 0, none⟩), .float .f64 v] w fun e w' => e = .returned (.tuple #[]) ∧ GAt w' g base ob cb c (putG x v) ∧ Keep (fun b => b = g ∨ b = c) w w' := by
  obtain ⟨q0, q1, q2, q3, q4, q5, q6, q7⟩ := gcell_facts h
  have hzg := lt_of_block h.row
  have hzc := lt_of_block h.cls
  have hb : (FloatKind.f64.format.order v v != some .eq) = false := by rw [← hv, ← Flt.fnan_eq]; rfl
  have o1 : ∀ t w, (binOp .sub t (.float .f64 v) (.float .f64 x.me)).run Try.prog w = .ok (.float .f64 d) w := fun t w => run_float_arith w .sub t .f64 v x.me d hd
  have o2 : ∀ t w, (binOp .quo t (.float .f64 d) (.float .f64 (floatOfInt .f64 (x.n + 1)))).run Try.prog w = .ok (.float .f64 (nanW d (floatOfInt .f64 (x.n + 1)) w)) w.drew := fun t w => run_arith_nan (Or.inr (Or.inr (Or.inr rfl))) _ t _ _ hq w
  have o3 : ∀ t w a b w', (binOp .add t (.float .f64 x.me) (.float .f64 (nanW a b w'))).run Try.prog w = .ok (.float .f64 (nanW x.me (nanW a b w') w)) w.drew := fun t w a b w' => run_arith_nan (Or.inl rfl) _ t _ _ (arith_nan (Or.inr (nanW_nan _ _ _))) w
  have o4 := can_nan
  obtain ⟨n0, n1, -, -, hcc, hbl⟩ := hx
  have hix : cellIx x.bs v < x.cs.length := by
    have := (srch_le (leF x.bs v) x.bs.length 0 x.bs.length (Nat.zero_le _)).2
    have := h.len
    show srch (leF x.bs v) x.bs.length 0 x.bs.length < _
    omega
  have HCELL : RowKit.Hid (∀ W, Below w.heap.size w W → Calls Try.prog 36 #[.pointer (some ⟨g, 0, none⟩), .float .f64 v] W fun e w' => e = .returned (.int .i64 (cellIx x.bs v : Nat)) ∧ Below W.heap.size W w') :=
    Lib.hid fun W k => cell_any (h.keep k) v hv64 hbl
  have hcv := hcc (cellIx x.bs v)
  have HG := Lib.hid (And.intro h hv64)
  have hcb : w.heap[c]? = some (.cells (i64s x.cs) 2 (0, 0)) := h.cls
  have HCB := Lib.hid (And.intro hcb (i64s_get x.cs (cellIx x.bs v) hix))
  have HPE : RowKit.Hid (putG x v = { widenS (bump x (cellIx x.bs v)) v v with n := x.n + 1, me := 9221120237041090561 }) := Lib.hid (by unfold putG meF; rw [opF_some hd, opF_none hq, opF_nan, canon_nan nanC])
  have hl2 := hix
  generalize putG x v = R at *
  clear h hv hv64 hd hq hcc hbl hcb
  generalize cellIx x.bs v = ix at *
  generalize hcsl : x.cs.length = cl at *
  generalize hcx : x.cs.getD ix 0 = cx at *
  have hwr : IntKind.i64.wrap (cx + 1) = cx + 1 := IntWalk.i64_in _ ⟨by omega, by omega⟩
  go_enter Try.func16, Try.ntmps16
  go_wp2_with fail
  refine (there_any _ _ q0).mono ?_
  rintro e w' ⟨rfl, rfl⟩
  go_wp2_with fail
  go_region_with (go_at_call 36; refine (HCELL.out _ ?_).mono ?_; exact ⟨rfl, rfl, rfl, Nat.le_refl _, fun _ _ => rfl⟩; rintro e w2 ⟨rfl, hb2⟩; have hblk := (hb2.block c hzc).trans HCB.out.1; have r1 := (blk_cell hblk ix).trans HCB.out.2; have r2 := blk_free hblk ix; have r3 := (hb2.cell (p := ⟨g, 2, none⟩) hzg).trans q2; have hb3 : Below w.heap.size w w2 := (show Below w.heap.size w w.drew from ⟨rfl, rfl, rfl, Nat.le_refl _, fun _ _ => rfl⟩).trans hb2; have hgb := (HG.out.1.keep hb3).bump ix; rw [hcx] at hgb; have HB2 := Lib.hid (And.intro hb3 hgb); clear hb2 hblk hb3 hgb)
  all_goals go_wp2_with fail
  all_goals refine (widen_any HB2.out.2.1 v v HG.out.2 HG.out.2).mono ?_
  all_goals rintro e w3 ⟨rfl, hg3, k3⟩
  all_goals have p3 : w3.cell? ⟨g, 3, none⟩ = some (.int .i64 x.n) := (gcell_facts hg3).2.2.2.1
  all_goals have p7 : w3.cell? ⟨g, 7, none⟩ = some (.float .f64 x.me) := (gcell_facts hg3).2.2.2.2.2.2.2
  all_goals have pf3 := blk_free hg3.row 3
  all_goals have hw4 : (w3.setCell ⟨g, 3, none⟩ (.int .i64 (x.n + 1))).heap[g]? = some (.cells (gcells ob cb c { widenS (bump x ix) v v with n := x.n + 1 }) 64 (0, 0)) := blk_set hg3.row 3 _
  all_goals have s3 : (w3.setCell ⟨g, 3, none⟩ (.int .i64 (x.n + 1))).cell? ⟨g, 3, none⟩ = some (.int .i64 (x.n + 1)) := blk_cell hw4 3
  all_goals have s7 : (w3.setCell ⟨g, 3, none⟩ (.int .i64 (x.n + 1))).cell? ⟨g, 7, none⟩ = some (.float .f64 x.me) := blk_cell hw4 7
  all_goals have sf7 := blk_free hw4 7
  all_goals have k4 := Keep.setCell (bs := (· = g)) (Keep.refl _ w3) (p := ⟨g, 3, none⟩) (Or.inl rfl) (.int .i64 (x.n + 1))
  all_goals have hg4 := hg3.turn k4 hw4 rfl rfl hg3.le64 hg3.gr64
  all_goals have HK := Lib.hid (And.intro (((Keep.of_below HB2.out.1).mono (cs := fun b => b = g ∨ b = c) (fun _ _ h => h.elim)).trans (HB2.out.2.2.mono (cs := fun b => b = g ∨ b = c) (fun _ _ h => Or.inr h))) (And.intro (k3.trans k4) hg4))
  all_goals clear hg3 k3 hw4 k4 hg4 q0 q1 q2 q3 q4 q5 q6 q7 r1 r2 r3
  all_goals go_wp2_with fail
  all_goals go_region_with (go_at_call 29; refine (canon_any _ _).mono ?_; rintro e w' ⟨rfl, rfl⟩)
  all_goals go_wp2_with fail
  all_goals go_end0
  all_goals have k5 := Keep.setCell (bs := (· = g)) (Keep.refl _ (w3.setCell ⟨g, 3, none⟩ (.int .i64 (x.n + 1)))) (p := ⟨g, 7, none⟩) (Or.inl rfl) (.float .f64 9221120237041090561)
  all_goals
    refine ⟨rfl, ?_, ?_⟩
    · rw [HPE.out]
      refine HK.out.2.2.turn ?_ (blk_set HK.out.2.2.row 7 _) rfl rfl HK.out.2.2.le64 HK.out.2.2.gr64
      exact Keep.like k5 rfl rfl rfl rfl
    · refine HK.out.1.trans ?_
      refine Keep.mono (bs := (· = g)) ?_ (fun _ _ h => Or.inl h)
      refine HK.out.2.1.trans ?_
      exact Keep.like k5 rfl rfl rfl rfl

set_option maxRecDepth 100000 in
set_option maxHeartbeats 8000000 in
theorem put_n3 {w : World} {g base : Nat} {ob : Option Addr} {cb c : Nat} {x : G} (h : GAt w g base ob cb c x) (hx : Calm x) (v d q : Nat) (hv : Flt.nan v = false) (hv64 : v < 2 ^ 64)
    (hd : floatBits .sub .f64 v x.me = some d) (hq : floatBits .quo .f64 d (floatOfInt .f64 (x.n + 1)) = some q) (hs : floatBits .add .f64 x.me q = none) :
    Calls Try.prog 16 #[.pointer (some ⟨g, 0, none⟩), .float .f64 v] w fun e w' => e = .returned (.tuple #[]) ∧ GAt w' g base ob cb c (putG x v) ∧ Keep (fun b => b = g ∨ b = c) w w' := by
  obtain ⟨q0, q1, q2, q3, q4, q5, q6, q7⟩ := gcell_facts h
  have hzg := lt_of_block h.row
  have hzc := lt_of_block h.cls
  have hb : (FloatKind.f64.format.order v v != some .eq) = false := by rw [← hv, ← Flt.fnan_eq]; rfl
  have o1 : ∀ t w, (binOp .sub t (.float .f64 v) (.float .f64 x.me)).run Try.prog w = .ok (.float .f64 d) w := fun t w => run_float_arith w .sub t .f64 v x.me d hd
  have o2 : ∀ t w, (binOp .quo t (.float .f64 d) (.float .f64 (floatOfInt .f64 (x.n + 1)))).run Try.prog w = .ok (.float .f64 q) w := fun t w => run_float_arith w .quo t .f64 d _ q hq
  have o3 : ∀ t w, (binOp .add t (.float .f64 x.me) (.float .f64 q)).run Try.prog w = .ok (.float .f64 (nanW x.me q w)) w.drew := fun t w => run_arith_nan (Or.inl rfl) _ t _ _ hs w
  have o4 := can_nan
  obtain ⟨n0, n1, -, -, hcc, hbl⟩ := hx
  have hix : cellIx x.bs v < x.cs.length := by
    have := (srch_le (leF x.bs v) x.bs.length 0 x.bs.length (Nat.zero_le _)).2
    have := h.len
    show srch (leF x.bs v) x.bs.length 0 x.bs.length < _
    omega
  have HCELL : RowKit.Hid (∀ W, Below w.heap.size w W → Calls Try.prog 36 #[.pointer (some ⟨g, 0, none⟩), .float .f64 v] W fun e w' => e = .returned (.int .i64 (cellIx x.bs v : Nat)) ∧ Below W.heap.size W w') :=
    Lib.hid fun W k => cell_any (h.keep k) v hv64 hbl
  have hcv := hcc (cellIx x.bs v)
  have HG := Lib.hid (And.intro h hv64)
  have hcb : w.heap[c]? = some (.cells (i64s x.cs) 2 (0, 0)) := h.cls
  have HCB := Lib.hid (And.intro hcb (i64s_get x.cs (cellIx x.bs v) hix))
  have HPE : RowKit.Hid (putG x v = { widenS (bump x (cellIx x.bs v)) v v with n := x.n + 1, me := 9221120237041090561 }) := Lib.hid (by unfold putG meF; rw [opF_some hd, opF_some hq, opF_none hs, canon_nan nanC])
  have hl2 := hix
  generalize putG x v = R at *
  clear h hv hv64 hd hq hs hcc hbl hcb
  generalize cellIx x.bs v = ix at *
  generalize hcsl : x.cs.length = cl at *
  generalize hcx : x.cs.getD ix 0 = cx at *
  have hwr : IntKind.i64.wrap (cx + 1) = cx + 1 := IntWalk.i64_in _ ⟨by omega, by omega⟩
  go_enter Try.func16, Try.ntmps16
  go_wp2_with fail
  refine (there_any _ _ q0).mono ?_
  rintro e w' ⟨rfl, rfl⟩
  go_wp2_with fail
  go_region_with (go_at_call 36; refine (HCELL.out _ ?_).mono ?_; exact ⟨rfl, rfl, rfl, Nat.le_refl _, fun _ _ => rfl⟩; rintro e w2 ⟨rfl, hb2⟩; have hblk := (hb2.block c hzc).trans HCB.out.1; have r1 := (blk_cell hblk ix).trans HCB.out.2; have r2 := blk_free hblk ix; have r3 := (hb2.cell (p := ⟨g, 2, none⟩) hzg).trans q2; have hb3 : Below w.heap.size w w2 := (show Below w.heap.size w w.drew from ⟨rfl, rfl, rfl, Nat.le_refl _, fun _ _ => rfl⟩).trans hb2; have hgb := (HG.out.1.keep hb3).bump ix; rw [hcx] at hgb; have HB2 := Lib.hid (And.intro hb3 hgb); clear hb2 hblk hb3 hgb)
  all_goals go_wp2_with fail
  all_goals refine (widen_any HB2.out.2.1 v v HG.out.2 HG.out.2).mono ?_
  all_goals rintro e w3 ⟨rfl, hg3, k3⟩
  all_goals have p3 : w3.cell? ⟨g, 3, none⟩ = some (.int .i64 x.n) := (gcell_facts hg3).2.2.2.1
  all_goals have p7 : w3.cell? ⟨g, 7, none⟩ = some (.float .f64 x.me) := (gcell_facts hg3).2.2.2.2.2.2.2
  all_goals have pf3 := blk_free hg3.row 3
  all_goals have hw4 : (w3.setCell ⟨g, 3, none⟩ (.int .i64 (x.n + 1))).heap[g]? = some (.cells (gcells ob cb c { widenS (bump x ix) v v with n := x.n + 1 }) 64 (0, 0)) := blk_set hg3.row 3 _
  all_goals have s3 : (w3.setCell ⟨g, 3, none⟩ (.int .i64 (x.n + 1))).cell? ⟨g, 3, none⟩ = some (.int .i64 (x.n + 1)) := blk_cell hw4 3
  all_goals have s7 : (w3.setCell ⟨g, 3, none⟩ (.int .i64 (x.n + 1))).cell? ⟨g, 7, none⟩ = some (.float .f64 x.me) := blk_cell hw4 7
  all_goals have sf7 := blk_free hw4 7
  all_goals have k4 := Keep.setCell (bs := (· = g)) (Keep.refl _ w3) (p := ⟨g, 3, none⟩) (Or.inl rfl) (.int .i64 (x.n + 1))
  all_goals have hg4 := hg3.turn k4 hw4 rfl rfl hg3.le64 hg3.gr64
  all_goals have HK := Lib.hid (And.intro (((Keep.of_below HB2.out.1).mono (cs := fun b => b = g ∨ b = c) (fun _ _ h => h.elim)).trans (HB2.out.2.2.mono (cs := fun b => b = g ∨ b = c) (fun _ _ h => Or.inr h))) (And.intro (k3.trans k4) hg4))
  all_goals clear hg3 k3 hw4 k4 hg4 q0 q1 q2 q3 q4 q5 q6 q7 r1 r2 r3
  all_goals go_wp2_with fail
  all_goals go_region_with (go_at_call 29; refine (canon_any _ _).mono ?_; rintro e w' ⟨rfl, rfl⟩)
  all_goals go_wp2_with fail
  all_goals go_end0
  all_goals have k5 := Keep.setCell (bs := (· = g)) (Keep.refl _ (w3.setCell ⟨g, 3, none⟩ (.int .i64 (x.n + 1)))) (p := ⟨g, 7, none⟩) (Or.inl rfl) (.float .f64 9221120237041090561)
  all_goals
    refine ⟨rfl, ?_, ?_⟩
    · rw [HPE.out]
      refine HK.out.2.2.turn ?_ (blk_set HK.out.2.2.row 7 _) rfl rfl HK.out.2.2.le64 HK.out.2.2.gr64
      exact Keep.like k5 rfl rfl rfl rfl
    · refine HK.out.1.trans ?_
      refine Keep.mono (bs := (· = g)) ?_ (fun _ _ h => Or.inl h)
      refine HK.out.2.1.trans ?_
      exact Keep.like k5 rfl rfl rfl rfl

/-- A gauge that is told any number. -/
def putA (x : G) (v : Nat) : G := if Flt.nan v = true then { x with nn := x.nn + 1 } else putG x v

theorem put_any {w : World} {g base : Nat} {ob : Option Addr} {cb c : Nat} {x : G} (h : GAt w g base ob cb c x) (hx : Calm x) (v : Nat) (hv64 : v < 2 ^ 64) :
    Calls Try.prog 16 #[.pointer (some ⟨g, 0, none⟩), .float .f64 v] w fun e w' => e = .returned (.tuple #[]) ∧ GAt w' g base ob cb c (putA x v) ∧ Keep (fun b => b = g ∨ b = c) w w' := by
  unfold putA
  cases hv : Flt.nan v
  · rw [if_neg (by simp)]
    cases hd : floatBits .sub .f64 v x.me with
    | none => exact put_n1 h hx v 0 0 hv hv64 hd
    | some d =>
      cases hq : floatBits .quo .f64 d (floatOfInt .f64 (x.n + 1)) with
      | none => exact put_n2 h hx v d 0 hv hv64 hd hq
      | some q =>
        cases hs : floatBits .add .f64 x.me q with
        | none => exact put_n3 h hx v d q hv hv64 hd hq hs
        | some s =>
          have e : putS x v s = putG x v := by
            unfold putS putG meF
            rw [opF_some hd, opF_some hq, opF_some hs]
          rw [← e]
          exact put_ok h hx v d q s hv hv64 hd hq hs
  · rw [if_pos rfl]
    exact (put_nan h hx v hv).mono fun e w' ⟨h1, h2, h3⟩ => ⟨h1, h2, h3.mono fun _ _ h => Or.inl h⟩
end Go.Proofs.Ytdkcnbcjjlaidaa
