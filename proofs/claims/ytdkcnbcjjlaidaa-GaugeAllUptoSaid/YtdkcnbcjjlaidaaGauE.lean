/- A gauge is told a number: Put. By an AI agent. -/
import Derived.Test.YtdkcnbcjjlaidaaGauD
namespace Go.Proofs.Ytdkcnbcjjlaidaa
open Go.ChangeShapes Go.WideShapes Go.ChangeAt Go.RowKit
set_option linter.unusedVariables false

theorem i64s_get (cs : List Int) (i : Nat) (h : i < cs.length) : (i64s cs)[i]? = some (.int .i64 (cs.getD i 0)) := by
  simp [i64s, List.getD_eq_getElem?_getD, h]
theorem i64s_set (cs : List Int) (i : Nat) (v : Int) : (i64s cs).setIfInBounds i (.int .i64 v) = i64s (cs.set i v) := by
  simp [i64s, List.map_set]

/-- A cell has one more. -/
def bump (x : G) (i : Nat) : G := { x with cs := x.cs.set i (x.cs.getD i 0 + 1) }

theorem GAt.bump {w : World} {g base : Nat} {ob : Option Addr} {cb c : Nat} {x : G} (h : GAt w g base ob cb c x) (i : Nat) :
    GAt (w.setCell ⟨c, i, none⟩ (.int .i64 (x.cs.getD i 0 + 1))) g base ob cb c (bump x i) ∧ Keep (· = c) w (w.setCell ⟨c, i, none⟩ (.int .i64 (x.cs.getD i 0 + 1))) := by
  have k := Keep.setCell (bs := (· = c)) (Keep.refl _ w) (p := ⟨c, i, none⟩) (Or.inl rfl) (.int .i64 (x.cs.getD i 0 + 1))
  refine ⟨⟨?_, fls_keep' h.fls k (fun ad e => (h.apart ad e).2.2), ?_, h.gb, h.cbase, h.ne, h.apart, by simp [Proofs.Ytdkcnbcjjlaidaa.bump, h.len], h.lt, h.le64, h.gr64⟩, k⟩
  · have := k.same h.row h.ne
    simpa [gcells, Proofs.Ytdkcnbcjjlaidaa.bump] using this
  · have := blk_set h.cls i (.int .i64 (x.cs.getD i 0 + 1))
    rw [i64s_set] at this
    exact this

/-- What a Put makes of it; s: the new mean, not yet made canonical. -/
def putS (x : G) (v s : Nat) : G := { widenS (bump x (cellIx x.bs v)) v v with n := x.n + 1, me := canonF s }

/-- Within what a test can bring about. -/
structure Calm (x : G) : Prop where
  n0 : 0 ≤ x.n
  n1 : x.n ≤ 1099511627776
  m0 : 0 ≤ x.nn
  m1 : x.nn ≤ 1099511627776
  c : ∀ i, 0 ≤ x.cs.getD i 0 ∧ x.cs.getD i 0 ≤ 1099511627776
  b : x.bs.length ≤ 1000000

set_option maxHeartbeats 4000000 in
theorem put_nan {w : World} {g base : Nat} {ob : Option Addr} {cb c : Nat} {x : G} (h : GAt w g base ob cb c x) (hx : Calm x) (v : Nat) (hv : Flt.nan v = true) :
    Calls Try.prog 16 #[.pointer (some ⟨g, 0, none⟩), .float .f64 v] w fun e w' => e = .returned (.tuple #[]) ∧ GAt w' g base ob cb c { x with nn := x.nn + 1 } ∧ Keep (· = g) w w' := by
  obtain ⟨q0, q1, q2, q3, q4, q5, q6, q7⟩ := gcell_facts h
  have f4 := blk_free h.row 4
  have hz := lt_of_block h.row
  have hb : (FloatKind.f64.format.order v v != some .eq) = true := by rw [← hv, ← Flt.fnan_eq]; rfl
  have h0 := hx.m0
  have h1 := hx.m1
  have hw4 : (w.setCell ⟨g, 4, none⟩ (.int .i64 (x.nn + 1))).heap[g]? = some (.cells (gcells ob cb c { x with nn := x.nn + 1 }) 64 (0, 0)) := blk_set h.row 4 _
  have HG := Lib.hid (And.intro h hw4)
  clear h hx hv hw4
  go_enter Try.func16, Try.ntmps16
  go_wp2_with fail
  refine (there_any _ _ q0).mono ?_
  rintro e w' ⟨rfl, rfl⟩
  go_wp2_with fail
  (try simp only [Exit.inBlock, Exit.then])
  refine bodyPost_ret (results_none rfl _ _ _) rfl ?_
  have kk := Keep.setCell (bs := (· = g)) (Keep.refl _ w) (p := ⟨g, 4, none⟩) (Or.inl rfl) (.int .i64 (x.nn + 1))
  exact ⟨rfl, HG.out.1.turn kk HG.out.2 rfl rfl HG.out.1.le64 HG.out.1.gr64, kk⟩

set_option maxRecDepth 100000 in
set_option maxHeartbeats 8000000 in
theorem put_ok {w : World} {g base : Nat} {ob : Option Addr} {cb c : Nat} {x : G} (h : GAt w g base ob cb c x) (hx : Calm x) (v d q s : Nat) (hv : Flt.nan v = false) (hv64 : v < 2 ^ 64)
    (hd : floatBits .sub .f64 v x.me = some d) (hq : floatBits .quo .f64 d (floatOfInt .f64 (x.n + 1)) = some q) (hs : floatBits .add .f64 x.me q = some s) :
    Calls Try.prog 16 #[.pointer (some ⟨g, 0, none⟩), .float .f64 v] w fun e w' => e = .returned (.tuple #[]) ∧ GAt w' g base ob cb c (putS x v s) ∧ Keep (fun b => b = g ∨ b = c) w w' := by
  obtain ⟨q0, q1, q2, q3, q4, q5, q6, q7⟩ := gcell_facts h
  have hzg := lt_of_block h.row
  have hzc := lt_of_block h.cls
  have hb : (FloatKind.f64.format.order v v != some .eq) = false := by rw [← hv, ← Flt.fnan_eq]; rfl
  have o1 : ∀ t w, (binOp .sub t (.float .f64 v) (.float .f64 x.me)).run Try.prog w = .ok (.float .f64 d) w := fun t w => run_float_arith w .sub t .f64 v x.me d hd
  have o2 : ∀ t w, (binOp .quo t (.float .f64 d) (.float .f64 (floatOfInt .f64 (x.n + 1)))).run Try.prog w = .ok (.float .f64 q) w := fun t w => run_float_arith w .quo t .f64 d _ q hq
  have o3 : ∀ t w, (binOp .add t (.float .f64 x.me) (.float .f64 q)).run Try.prog w = .ok (.float .f64 s) w := fun t w => run_float_arith w .add t .f64 x.me q s hs
  obtain ⟨n0, n1, -, -, hcc, hbl⟩ := hx
  have hix : cellIx x.bs v < x.cs.length := by
    have := (srch_le (leF x.bs v) x.bs.length 0 x.bs.length (Nat.zero_le _)).2
    have := h.len
    show srch (leF x.bs v) x.bs.length 0 x.bs.length < _
    omega
  have HCELL : RowKit.Hid (∀ W, Below w.heap.size w W → Calls Try.prog 36 #[.pointer (some ⟨g, 0, none⟩), .float .f64 v] W fun e w' => e = .returned (.int .i64 (cellIx x.bs v : Nat)) ∧ Below W.heap.size W w') :=
    Lib.hid fun W k => cell_any (h.keep k) v hv64 hbl
  have hcv := hcc (cellIx x.bs v)
  have HG := Lib.hid (And.intro h hv64)
  have hcb : w.heap[c]? = some (.cells (i64s x.cs) 2 (0, 0)) := h.cls
  have HCB := Lib.hid (And.intro hcb (i64s_get x.cs (cellIx x.bs v) hix))
  have HPE : RowKit.Hid (putS x v s = { widenS (bump x (cellIx x.bs v)) v v with n := x.n + 1, me := canonF s }) := Lib.hid rfl
  have hl2 := hix
  generalize putS x v s = R at *
  clear h hv hv64 hd hq hs hcc hbl hcb
  generalize cellIx x.bs v = ix at *
  generalize hcsl : x.cs.length = cl at *
  generalize hcx : x.cs.getD ix 0 = cx at *
  have hwr : IntKind.i64.wrap (cx + 1) = cx + 1 := IntWalk.i64_in _ ⟨by omega, by omega⟩
  go_enter Try.func16, Try.ntmps16
  go_wp2_with fail
  refine (there_any _ _ q0).mono ?_
  rintro e w' ⟨rfl, rfl⟩
  go_wp2_with fail
  go_region_with (go_at_call 36; refine (HCELL.out _ ?_).mono ?_; exact ⟨rfl, rfl, rfl, Nat.le_refl _, fun _ _ => rfl⟩; rintro e w2 ⟨rfl, hb2⟩; have hblk := (hb2.block c hzc).trans HCB.out.1; have r1 := (blk_cell hblk ix).trans HCB.out.2; have r2 := blk_free hblk ix; have r3 := (hb2.cell (p := ⟨g, 2, none⟩) hzg).trans q2; have hb3 : Below w.heap.size w w2 := (show Below w.heap.size w w.drew from ⟨rfl, rfl, rfl, Nat.le_refl _, fun _ _ => rfl⟩).trans hb2; have hgb := (HG.out.1.keep hb3).bump ix; rw [hcx] at hgb; have HB2 := Lib.hid (And.intro hb3 hgb); clear hb2 hblk hb3 hgb)
  all_goals go_wp2_with fail
  all_goals refine (widen_any HB2.out.2.1 v v HG.out.2 HG.out.2).mono ?_
  all_goals rintro e w3 ⟨rfl, hg3, k3⟩
  all_goals have p3 : w3.cell? ⟨g, 3, none⟩ = some (.int .i64 x.n) := (gcell_facts hg3).2.2.2.1
  all_goals have p7 : w3.cell? ⟨g, 7, none⟩ = some (.float .f64 x.me) := (gcell_facts hg3).2.2.2.2.2.2.2
  all_goals have pf3 := blk_free hg3.row 3
  all_goals have hw4 : (w3.setCell ⟨g, 3, none⟩ (.int .i64 (x.n + 1))).heap[g]? = some (.cells (gcells ob cb c { widenS (bump x ix) v v with n := x.n + 1 }) 64 (0, 0)) := blk_set hg3.row 3 _
  all_goals have s3 : (w3.setCell ⟨g, 3, none⟩ (.int .i64 (x.n + 1))).cell? ⟨g, 3, none⟩ = some (.int .i64 (x.n + 1)) := blk_cell hw4 3
  all_goals have s7 : (w3.setCell ⟨g, 3, none⟩ (.int .i64 (x.n + 1))).cell? ⟨g, 7, none⟩ = some (.float .f64 x.me) := blk_cell hw4 7
  all_goals have sf7 := blk_free hw4 7
  all_goals have k4 := Keep.setCell (bs := (· = g)) (Keep.refl _ w3) (p := ⟨g, 3, none⟩) (Or.inl rfl) (.int .i64 (x.n + 1))
  all_goals have hg4 := hg3.turn k4 hw4 rfl rfl hg3.le64 hg3.gr64
  all_goals have HK := Lib.hid (And.intro (((Keep.of_below HB2.out.1).mono (cs := fun b => b = g ∨ b = c) (fun _ _ h => h.elim)).trans (HB2.out.2.2.mono (cs := fun b => b = g ∨ b = c) (fun _ _ h => Or.inr h))) (And.intro (k3.trans k4) hg4))
  all_goals clear hg3 k3 hw4 k4 hg4 q0 q1 q2 q3 q4 q5 q6 q7 r1 r2 r3
  all_goals go_wp2_with fail
  all_goals go_region_with (go_at_call 29; refine (canon_any _ _).mono ?_; rintro e w' ⟨rfl, rfl⟩)
  all_goals go_wp2_with fail
  all_goals go_end0
  all_goals have k5 : Keep (· = g) (w3.setCell ⟨g, 3, none⟩ (.int .i64 (x.n + 1))) (((w3.setCell ⟨g, 3, none⟩ (.int .i64 (x.n + 1))).setCell ⟨g, 7, none⟩ (.float .f64 (canonF s))).drew) := (Keep.setCell (bs := (· = g)) (Keep.refl _ _) (p := ⟨g, 7, none⟩) (Or.inl rfl) _).drew
  all_goals refine ⟨rfl, ?_, HK.out.1.trans ((HK.out.2.1.trans k5).mono fun _ _ h => Or.inl h)⟩
  all_goals rw [HPE.out]
  all_goals exact HK.out.2.2.turn k5 (blk_set HK.out.2.2.row 7 _) rfl rfl HK.out.2.2.le64 HK.out.2.2.gr64
end Go.Proofs.Ytdkcnbcjjlaidaa
