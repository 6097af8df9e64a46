/- Bytes put behind a row of the call's own, a buffer beside it; the text of a number, plainly. By an AI agent. -/
import Derived.Test.YtemjlkmlodmmfaaGreatDoorMg03
import Derived.Deep.Cut
import Derived.Lib.ItoaLen
import Derived.Lib.AppendIntMem
namespace Go.Proofs.YtemjlkmlodmmfaaGreatDoor.Us
set_option linter.unusedVariables false
/-- The exponent's text. -/
def expT (e : Int) : List Nat :=
  (if e < 0 then 45 else 43) :: (if e.natAbs < 10 then [48, e.natAbs + 48] else if e.natAbs < 100 then [e.natAbs / 10 + 48, e.natAbs % 10 + 48] else [e.natAbs / 100 + 48, e.natAbs / 10 % 10 + 48, e.natAbs % 10 + 48])
def fmtE (D : List Nat) (dp : Int) : List Nat := D.take 1 ++ (if 1 < D.length then 46 :: D.drop 1 else []) ++ 101 :: expT (dp - 1)
def fmtF (D : List Nat) (dp : Int) : List Nat :=
  if 0 < dp then D.take dp.toNat ++ List.replicate (dp.toNat - D.length) 48 ++ (if dp.toNat < D.length then 46 :: D.drop dp.toNat else [])
  else 48 :: 46 :: List.replicate (-dp).toNat 48 ++ D
/-- The text of a number with the digits D (none: nought), the point behind dp of them. -/
def fmtG (neg : Bool) (D : List Nat) (dp : Int) : List Nat :=
  (if neg then [45] else []) ++ (if D = [] then [48] else if dp - 1 < -4 ∨ 6 ≤ dp - 1 then fmtE D dp else fmtF D dp)
end Go.Proofs.YtemjlkmlodmmfaaGreatDoor.Us
namespace Go.Proofs.YtemjlkmlodmmfaaGreatDoor
open Go.ChangeShapes Go.WideShapes Go.ChangeAt Go.RowKit
open Bt
set_option linter.unusedVariables false

/-- A row of bytes of the call's own, as it grows; the block b is as it was. -/
structure Bu (W : World) (base b : Nat) (v : Value) (B : List Nat) (w : World) : Prop where
  own : w.ownsRow base 5 1 v B.length (u8s B)
  apart : v.ownBlock ≠ some b
  below : Below base W w
  base : base ≤ W.heap.size
  lt : b < W.heap.size
  cell : ∀ t, w.cell? ⟨b, t, none⟩ = W.cell? ⟨b, t, none⟩
theorem Bu.size {W w : World} {base b : Nat} {v : Value} {B : List Nat} (h : Bu W base b v B w) : W.heap.size ≤ w.heap.size := h.below.size
theorem Bu.drewN {W w : World} {base b : Nat} {v : Value} {B : List Nat} (h : Bu W base b v B w) (n : Nat) : Bu W base b v B (w.drewN n) := ⟨h.own, h.apart, below_drewN h.below n, h.base, h.lt, h.cell⟩
theorem Bu.alloc {W w : World} {base b : Nat} {v : Value} {B : List Nat} (h : Bu W base b v B w) (o : Obj) : Bu W base b v B (w.alloc o) :=
  ⟨h.own.alloc _, h.apart, h.below.alloc (Nat.le_trans h.base h.size) _, h.base, h.lt, fun t => by rw [World.cell?_alloc_past _ _ _ (Nat.lt_of_lt_of_le h.lt h.size)]; exact h.cell t⟩
theorem Bu.grown {W w w' : World} {base b : Nat} {v v' : Value} {B B' : List Nat} (h : Bu W base b v B w) (hown : w'.ownsRow base 5 1 v' B'.length (u8s B')) (hg : w.grownBy w' v.ownBlock) (hv : v'.ownBlock = v.ownBlock ∨ v'.ownBlock = some w.heap.size) : Bu W base b v' B' w' := by
  have hlt := Nat.lt_of_lt_of_le h.lt h.size
  refine ⟨hown, ?_, h.below.grown hg (Nat.le_trans h.base h.size) (fun k hk => (h.own.lt k hk).1), h.base, h.lt, fun t => ?_⟩
  · rcases hv with hv | hv
    · rw [hv]; exact h.apart
    · rw [hv]; intro e; injection e with e; omega
  · rw [← h.cell t]
    exact World.cell?_of_block (hg.block b hlt (fun e => h.apart e.symm))

theorem info8 : ∃ i, Tryz.prog.info? 5 = some i ∧ i.zero = some (.int .u8 0) ∧ i.size = 1 ∧ i.bytes = 1 := by
  obtain ⟨i0, hi, hz0, hz1, hz2⟩ := info_parts info_u8
  exact ⟨i0, hi, hz0, hz1, hz2⟩

/-- One byte more. -/
theorem put_one {W w : World} {base b : Nat} {v : Value} {B : List Nat} (hI : Bu W base b v B w) (hl : B.length ≤ 100000) {o' : Obj} (z : Int) (u : Nat) (hc : (w.alloc o').cell? ⟨w.heap.size, 0, none⟩ = some (.int .u8 z)) (hu : z = (u : Int))
    {ops : Array Oper} {rest : List Oper} {o : Oper} {a : Act} {Q : Exit → Act → World → Prop} (hgd : o.guard = none) (s x : Operand)
    (ho : o.op = .call { callee := .builtin .append, args := #[s, x], argTypes := #[72, 72] }) (hs : a.eval s = v) (hx : a.eval x = .slice (some ⟨w.heap.size, 0, none⟩) 1 1)
    (h : ∀ v' w', Bu W base b v' (B ++ [u]) w' → wpList Tryz.prog ops Q rest (a.put o.dst v') w') :
    wpList Tryz.prog ops Q (o :: rest) a (w.alloc o') := by
  subst hu
  obtain ⟨i0, hi, hz0, hz1, hz2⟩ := info8
  have hA := hI.alloc o'
  refine wpList_append_one (w.alloc o') hgd s x 72 ho base 5 i0 (.int .u8 0) 1 Tryz.underlying72 hi hz0 hz1 hz2 rfl v B.length _ hs hA.own ⟨w.heap.size, 0, none⟩ 1 (.int .u8 (u : Int)) hx hc rfl ?_ ?_ (Nat.le_trans hA.base hA.size) ?_
  · unfold maxLen; omega
  · omega
  · intro g cap w' hown hg hv hge
    refine h _ w' (hA.grown (B' := B ++ [u]) ?_ hg ?_)
    · rw [u8s_append, List.length_append]; exact hown
    · rcases hv with hv | hv
      · exact Or.inl hv.symm
      · right; show some g = _; rw [hv]

/-- Bytes more, of the buffer. -/
theorem put_cells {W w : World} {base b : Nat} {v : Value} {B : List Nat} (hI : Bu W base b v B w) (hl : B.length ≤ 100000) (off : Nat) (C : List Nat) (hC : ∀ t, t < C.length → W.cell? ⟨b, off + t, none⟩ = some (.int .u8 (C.getD t 0 : Nat))) (hn : C.length ≤ 100000) (m cap : Nat) (hm : C.length = m)
    {ops : Array Oper} {rest : List Oper} {o : Oper} {a : Act} {Q : Exit → Act → World → Prop} (hgd : o.guard = none) (s x : Operand)
    (ho : o.op = .call { callee := .builtin .append, args := #[s, x], argTypes := #[72, 72] }) (hs : a.eval s = v) (hx : a.eval x = .slice (some ⟨b, off, none⟩) m cap)
    (h : ∀ v' w', Bu W base b v' (B ++ C) w' → wpList Tryz.prog ops Q rest (a.put o.dst v') w') :
    wpList Tryz.prog ops Q (o :: rest) a w := by
  subst hm
  obtain ⟨i0, hi, hz0, hz1, hz2⟩ := info8
  refine wpList_append_sl w hgd s x 72 ho base 5 i0 (.int .u8 0) 1 Tryz.underlying72 hi hz0 hz1 hz2 rfl v B.length _ hs hI.own (some ⟨b, off, none⟩) C.length cap (u8s C) hx (u8s_length C) ?_ ?_ (fun e => by cases e) ?_ ?_ (Nat.le_trans hI.base hI.size) ?_
  · intro j u hj
    have hlt : j < C.length := by rw [← u8s_length C]; exact (List.getElem?_eq_some_iff.1 hj).1
    rw [u8s_get C j hlt] at hj
    cases hj
    refine ⟨_, rfl, ?_⟩
    rw [addr_add, hI.cell]
    exact hC j hlt
  · intro u hu
    obtain ⟨n, -, rfl⟩ := List.mem_map.1 hu
    rfl
  · unfold maxLen; omega
  · omega
  · intro v' w' hown hg hv
    refine h v' w' (hI.grown (B' := B ++ C) ?_ hg hv)
    rw [u8s_append, List.length_append]; exact hown

/-- Some bytes more, out of a new row. -/
theorem put_new {W w : World} {base b : Nat} {v : Value} {B : List Nat} (hI : Bu W base b v B w) (hl : B.length ≤ 100000) {o' : Obj} (C : List Nat) (hC : ∀ t, t < C.length → (w.alloc o').cell? ⟨w.heap.size, t, none⟩ = some (.int .u8 (C.getD t 0 : Nat))) (hn : C.length ≤ 100)
    {ops : Array Oper} {rest : List Oper} {o : Oper} {a : Act} {Q : Exit → Act → World → Prop} (hgd : o.guard = none) (s x : Operand)
    (ho : o.op = .call { callee := .builtin .append, args := #[s, x], argTypes := #[72, 72] }) (hs : a.eval s = v) (hx : a.eval x = .slice (some ⟨w.heap.size, 0, none⟩) C.length C.length)
    (h : ∀ v' w', Bu W base b v' (B ++ C) w' → wpList Tryz.prog ops Q rest (a.put o.dst v') w') :
    wpList Tryz.prog ops Q (o :: rest) a (w.alloc o') := by
  obtain ⟨i0, hi, hz0, hz1, hz2⟩ := info8
  have hA := hI.alloc o'
  refine wpList_append_sl (w.alloc o') hgd s x 72 ho base 5 i0 (.int .u8 0) 1 Tryz.underlying72 hi hz0 hz1 hz2 rfl v B.length _ hs hA.own (some ⟨w.heap.size, 0, none⟩) C.length C.length (u8s C) hx (u8s_length C) ?_ ?_ (fun e => by cases e) ?_ ?_ (Nat.le_trans hA.base hA.size) ?_
  · intro j u hj
    have hlt : j < C.length := by rw [← u8s_length C]; exact (List.getElem?_eq_some_iff.1 hj).1
    rw [u8s_get C j hlt] at hj
    cases hj
    refine ⟨_, rfl, ?_⟩
    rw [addr_add, Nat.zero_add]
    exact hC j hlt
  · intro u hu
    obtain ⟨n, -, rfl⟩ := List.mem_map.1 hu
    rfl
  · unfold maxLen; omega
  · omega
  · intro v' w' hown hg hv
    refine h v' w' (hA.grown (B' := B ++ C) ?_ hg hv)
    rw [u8s_append, List.length_append]; exact hown
theorem new_two (w : World) (x y : Nat) (t : TypeId) : ∀ j, j < [x, y].length → (w.alloc (.cells #[.int .u8 (x : Int), .int .u8 (y : Int)] t)).cell? ⟨w.heap.size, j, none⟩ = some (.int .u8 ([x, y].getD j 0 : Nat)) := by
  intro j hj
  rw [blk_cell (blk_new w _) j]
  match j, hj with
  | 0, _ => rfl
  | 1, _ => rfl
theorem new_three (w : World) (x y z : Nat) (t : TypeId) : ∀ j, j < [x, y, z].length → (w.alloc (.cells #[.int .u8 (x : Int), .int .u8 (y : Int), .int .u8 (z : Int)] t)).cell? ⟨w.heap.size, j, none⟩ = some (.int .u8 ([x, y, z].getD j 0 : Nat)) := by
  intro j hj
  rw [blk_cell (blk_new w _) j]
  match j, hj with
  | 0, _ => rfl
  | 1, _ => rfl
  | 2, _ => rfl
end Go.Proofs.YtemjlkmlodmmfaaGreatDoor

/- Contract of strconv's fmtEFG at the shortest form, with an exponent; printed by genFtF.py. By an AI agent. -/
namespace Go.Proofs.YtemjlkmlodmmfaaGreatDoor
open Go.ChangeShapes Go.WideShapes Go.ChangeAt Go.RowKit
open Bt
set_option linter.unusedVariables false

/-- The buffer's digits. -/
def Dgs (w : World) (b : Nat) (D : List Nat) : Prop := ∀ t, t < D.length → w.cell? ⟨b, t, none⟩ = some (.int .u8 (D.getD t 0 : Nat))

theorem Dgs.drop {w : World} {b : Nat} {D : List Nat} (h : Dgs w b D) (k m : Nat) (hm : m = D.length - k) : (D.drop k).length = m ∧ ∀ t, t < (D.drop k).length → w.cell? ⟨b, k + t, none⟩ = some (.int .u8 ((D.drop k).getD t 0 : Nat)) := by
  refine ⟨by rw [List.length_drop, hm], fun t ht => ?_⟩
  rw [List.length_drop] at ht
  rw [h (k + t) (by omega)]
  simp [List.getD_eq_getElem?_getD, List.getElem?_drop]

set_option maxRecDepth 100000 in
set_option maxHeartbeats 2000000 in
theorem fmtE_any (neg : Bool) (D : List Nat) (dp : Int) (b base : Nat) (v : Value) (w : World) (hI : Bu w base b v [] w) (hD : Dgs w b D) (h1 : 1 ≤ D.length) (h2 : D.length ≤ 20) (hd0 : -400 ≤ dp) (hd1 : dp ≤ 400) (hE : dp - 1 < -4 ∨ 6 ≤ dp - 1) :
    Calls Tryz.prog 56 #[v, .bool neg, .slice (some ⟨b, 0, none⟩) 32 32, .int .i64 dp, .int .i64 (D.length : Int), .int .i64 (D.length : Int), .int .u8 103, .bool true] w fun e w' => ∃ v', e = .returned v' ∧ Bu w base b v' (Us.fmtG neg D dp) w' := by
  have HI := Lib.hid (And.intro hI hD)
  clear hI hD
  obtain ⟨nd, hnd⟩ : ∃ nd, nd = D.length := ⟨_, rfl⟩
  rw [← hnd] at h1 h2 ⊢
  have hz : ((nd : Int) == 0) = false := by rw [beq_eq_false_iff_ne]; omega
  have HN := Lib.hid hnd
  obtain ⟨sg, hsg⟩ : ∃ sg : List Nat, sg = (if neg then [45] else []) := ⟨_, rfl⟩
  have hsl : sg.length ≤ 1 := by rw [hsg]; split <;> simp
  have HSG := Lib.hid hsg
  obtain ⟨c0, hcc⟩ : ∃ c0 : Nat, c0 = D.getD 0 0 := ⟨_, rfl⟩
  obtain ⟨dt, hdt⟩ : ∃ dt : List Nat, dt = D.drop 1 := ⟨_, rfl⟩
  obtain ⟨tl, htl⟩ : ∃ tl : List Nat, tl = (if 1 < nd then 46 :: dt else []) := ⟨_, rfl⟩
  have htn : tl.length ≤ 21 := by
    rw [htl]; split
    · rw [hdt]; simp; omega
    · simp
  have hDR := HI.out.2.drop 1 (nd - 1) (by omega)
  rw [← hdt] at hDR
  have HDR := Lib.hid hDR
  have hend : (if neg then [45] else []) ++ (D.take 1 ++ (if 1 < D.length then 46 :: D.drop 1 else []) ++ 101 :: Us.expT (dp - 1)) = Us.fmtG neg D dp := by
    unfold Us.fmtG Us.fmtE
    rw [if_neg (show ¬ D = [] from fun h => by rw [h] at hnd; simp at hnd; omega), if_pos hE]
  have ht1 : D.take 1 = [c0] := by
    cases D with
    | nil => simp at hnd; omega
    | cons y r => rw [hcc]; rfl
  rw [← hsg, ht1, ← hnd, ← hdt, ← htl] at hend
  have HEND := Lib.hid hend
  have HTL := Lib.hid htl
  have HC := Lib.hid hcc
  clear hnd hsg hcc hdt htl hDR hend ht1
  go_enter Tryz.func56, Tryz.ntmps56
  go_upto_if 36 with (fail)
  go_cut [5, 6] from 31 to 73 (fun s5 s6 wx => s5 = .int .i64 ((nd : Int) - 1) ∧ s6 = .int .u8 101 ∧ wx = w)
  case first =>
    rcases hE with hE | hE
    · have hA : decide (dp - 1 < -4) = true := decide_eq_true hE
      have hB : decide ((nd : Int) < dp) = false := by rw [decide_eq_false_iff_not]; omega
      go_wp2_with fail
      all_goals (go_meet; exact ⟨rfl, rfl, rfl⟩)
    · have hA : decide (dp - 1 < -4) = false := by rw [decide_eq_false_iff_not]; omega
      have hB : decide (6 ≤ dp - 1) = true := decide_eq_true hE
      go_wp2_with fail
      all_goals (go_meet; exact ⟨rfl, rfl, rfl⟩)
  case rest =>
    obtain ⟨rfl, rfl, hw⟩ := hcut
    obtain rfl : w = wc := hw.symm
    go_upto_if 78 with (fail)
    go_cut [0] from 79 to 81 (fun s0 wx => Hid (Bu w base b s0 sg wx))
    case first =>
      cases neg
      · have hsg : sg = [] := HSG.out
        subst hsg
        go_wp2_with fail
        go_meet
        exact HI.out.1
      · have hsg : sg = [45] := HSG.out
        subst hsg
        go_wp2_with (at_builtin; go_must (refine put_one HI.out.1 (by simp) (45) (45) ?_ ?_ rfl (.tmp 79) (.tmp 80) rfl rfl rfl ?_))
        try any_goals (first | with_reducible rfl | (show (_ : Int) = _; rfl) | exact cell_one_new _ _ _ 0 _ rfl)
        intro v1 w1 h'
        have H1 := Lib.hid h'
        clear h'
        go_wp2_with fail
        go_meet
        exact H1.out
    case rest =>
      have HS := Lib.hid hcut.out
      clear hcut
      have hc0 : wc.cell? ⟨b, 0, none⟩ = some (.int .u8 (c0 : Nat)) := by rw [HC.out]; exact (HS.out.cell 0).trans (HI.out.2 0 (by rw [← HN.out]; omega))
      go_wp2_with (at_builtin; go_must (refine put_one HS.out (by omega) (((c0 : Nat) : Int)) (c0) ?_ ?_ rfl (.tmp 87) (.tmp 89) rfl rfl rfl ?_))
      try any_goals (first | with_reducible rfl | (show (_ : Int) = _; rfl) | exact cell_one_new _ _ _ 0 _ rfl)
      intro v2 w2 h'
      generalize hB2 : sg ++ [c0] = B2 at h'
      have hl2 : B2.length ≤ 100 := by rw [← hB2]; simp; omega
      have H2 := Lib.hid h'
      have HB2 := Lib.hid hB2
      clear h' hB2
      clear hc0
      go_upto_if 92 with (fail)
      go_cut [0, 20, 21] from 91 to 119 (fun s0 _ _ wx => Hid (Bu w base b s0 (B2 ++ tl) wx))
      case first =>
        by_cases hn1 : 1 < nd
        · have hb : decide ((1 : Int) < (nd : Int)) = true := by rw [decide_eq_true_eq]; omega
          go_wp2_with (at_builtin; go_must (refine put_one H2.out (by omega) (46) (46) ?_ ?_ rfl (.tmp 93) (.tmp 94) rfl rfl rfl ?_))
          try any_goals (first | with_reducible rfl | (show (_ : Int) = _; rfl) | exact cell_one_new _ _ _ 0 _ rfl)
          intro v3 w3 h'
          generalize hB3 : B2 ++ [46] = B3 at h'
          have hl3 : B3.length ≤ 101 := by rw [← hB3]; simp; omega
          have H3 := Lib.hid h'
          have HB3 := Lib.hid hB3
          clear h' hB3
          go_wp2_with (at_builtin; go_must (refine put_cells H3.out (by omega) 1 (dt) HDR.out.2 (by rw [HDR.out.1]; omega) (nd - 1) 31 HDR.out.1 rfl (.tmp 103) (.tmp 107) rfl rfl rfl ?_))
          intro v4 w4 h'
          generalize hB4 : B3 ++ dt = B4 at h'
          have hl4 : B4.length ≤ 150 := by rw [← hB4, List.length_append, HDR.out.1]; omega
          have H4 := Lib.hid h'
          have HB4 := Lib.hid hB4
          clear h' hB4
          go_wp2_with fail
          have hfin : RowKit.Hid (B2 ++ tl = B4) := Lib.hid (by rw [HTL.out, if_pos hn1, ← HB4.out, ← HB3.out]; simp)
          go_loop [0, 114] (fun s i => s = v4 ∧ i = .int .i64 0) (fun _ _ => 0)
          case atStart => exact ⟨rfl, rfl⟩
          case round =>
            obtain ⟨rfl, rfl⟩ := hrel
            go_wp2_with fail
            go_meet
            rw [hfin.out]
            exact Lib.hid H4.out
        · have hb : decide ((1 : Int) < (nd : Int)) = false := by rw [decide_eq_false_iff_not]; omega
          have hnil : tl = [] := by rw [HTL.out, if_neg hn1]
          subst hnil
          go_wp2_with fail
          go_meet
          rw [List.append_nil]
          exact H2.out
      case rest =>
        have h5 := hcut.out
        clear hcut
        generalize hB5 : B2 ++ tl = B5 at h5
        have hl5 : B5.length ≤ 150 := by rw [← hB5]; simp; omega
        have H5 := Lib.hid h5
        have HB5 := Lib.hid hB5
        clear h5 hB5
        go_wp2_with (at_builtin; go_must (refine put_one H5.out (by omega) (101) (101) ?_ ?_ rfl (.tmp 120) (.tmp 122) rfl rfl rfl ?_))
        try any_goals (first | with_reducible rfl | (show (_ : Int) = _; rfl) | exact cell_one_new _ _ _ 0 _ rfl)
        intro v6 w6 h'
        generalize hB6 : B5 ++ [101] = B6 at h'
        have hl6 : B6.length ≤ 151 := by rw [← hB6]; simp; omega
        have H6 := Lib.hid h'
        have HB6 := Lib.hid hB6
        clear h' hB6
        obtain ⟨x, hx⟩ : ∃ x : Nat, x = (dp - 1).natAbs := ⟨_, rfl⟩
        have hx4 : x ≤ 401 := by omega
        obtain ⟨sb, hsb⟩ : ∃ sb : Nat, sb = (if dp - 1 < 0 then 45 else 43) := ⟨_, rfl⟩
        obtain ⟨xs, hxs⟩ : ∃ xs : List Nat, xs = (if x < 10 then [48, x + 48] else if x < 100 then [x / 10 + 48, x % 10 + 48] else [x / 100 + 48, x / 10 % 10 + 48, x % 10 + 48]) := ⟨_, rfl⟩
        have hfin : RowKit.Hid (∀ B8, B6 ++ [sb] = B8 → B8 ++ xs = Us.fmtG neg D dp) := Lib.hid (fun B8 h8 => by
          rw [← HEND.out, ← h8, ← HB6.out, ← HB5.out, ← HB2.out]
          unfold Us.expT
          rw [← hx, ← hsb, ← hxs]
          simp)
        have HX := Lib.hid (And.intro hx (And.intro hsb hxs))
        clear hx hsb hxs
        go_upto_if 129 with (fail)
        go_cut [19, 22] from 128 to 131 (fun s19 s22 wx => s19 = .int .u8 (sb : Int) ∧ s22 = .int .i64 (x : Int) ∧ wx = w6)
        case first =>
          by_cases hneg : dp - 1 < 0
          · have hb : decide (dp - 1 < 0) = true := decide_eq_true hneg
            have e1 : sb = 45 := by rw [HX.out.2.1, if_pos hneg]
            have e2 : RowKit.Hid (-(dp - 1) = (x : Int)) := Lib.hid (by have := HX.out.1; omega)
            subst e1
            go_wp2_with fail
            go_meet
            exact ⟨rfl, by rw [← e2.out], rfl⟩
          · have hb : decide (dp - 1 < 0) = false := by rw [decide_eq_false_iff_not]; exact hneg
            have e1 : sb = 43 := by rw [HX.out.2.1, if_neg hneg]
            have e2 : RowKit.Hid (dp - 1 = (x : Int)) := Lib.hid (by have := HX.out.1; omega)
            subst e1
            go_wp2_with fail
            go_meet
            exact ⟨rfl, by rw [← e2.out], rfl⟩
        case rest =>
          obtain ⟨rfl, rfl, hw⟩ := hcut
          obtain rfl : w6 = wc := hw.symm
          go_wp2_with (at_builtin; go_must (refine put_one H6.out (by omega) (((sb : Nat) : Int)) (sb) ?_ ?_ rfl (.tmp 132) (.tmp 134) rfl rfl rfl ?_))
          try any_goals (first | with_reducible rfl | (show (_ : Int) = _; rfl) | exact cell_one_new _ _ _ 0 _ rfl)
          intro v7 w7 h'
          generalize hB7 : B6 ++ [sb] = B7 at h'
          have hl7 : B7.length ≤ 152 := by rw [← hB7]; simp; omega
          have H7 := Lib.hid h'
          have HB7 := Lib.hid hB7
          clear h' hB7
          have HF7 := Lib.hid (hfin.out B7 HB7.out)
          by_cases c1 : x < 10
          · have hb : decide ((x : Int) < 10) = true := by rw [decide_eq_true_eq]; omega
            have e3 : xs = [48, x + 48] := by rw [HX.out.2.2, if_pos c1]
            subst e3
            go_wp2_with (at_builtin; go_must (refine put_new H7.out (by omega) [48, x + 48] ?_ (by simp) rfl (.tmp 155) (.tmp 159) rfl rfl rfl ?_))
            · exact new_two w7 48 (x + 48) _
            intro v8 w8 h'
            generalize hB8 : B7 ++ [48, x + 48] = B8 at h'
            have hl8 : B8.length ≤ 160 := by rw [← hB8]; simp; omega
            have H8 := Lib.hid h'
            have HB8 := Lib.hid hB8
            clear h' hB8
            go_wp2_with fail
            go_ret
            have h9 := HF7.out
            rw [HB8.out] at h9
            exact ⟨_, rfl, by rw [← h9]; exact H8.out⟩
          · have hb : decide ((x : Int) < 10) = false := by rw [decide_eq_false_iff_not]; omega
            by_cases c2 : x < 100
            · have hb2 : decide ((x : Int) < 100) = true := by rw [decide_eq_true_eq]; omega
              have e3 : xs = [x / 10 + 48, x % 10 + 48] := by rw [HX.out.2.2, if_neg c1, if_pos c2]
              subst e3
              go_wp2_with (at_builtin; go_must (refine put_new H7.out (by omega) [x / 10 + 48, x % 10 + 48] ?_ (by simp) rfl (.tmp 164) (.tmp 173) rfl rfl rfl ?_))
              · exact new_two w7 (x / 10 + 48) (x % 10 + 48) _
              intro v8 w8 h'
              generalize hB8 : B7 ++ [x / 10 + 48, x % 10 + 48] = B8 at h'
              have hl8 : B8.length ≤ 160 := by rw [← hB8]; simp; omega
              have H8 := Lib.hid h'
              have HB8 := Lib.hid hB8
              clear h' hB8
              go_wp2_with fail
              go_ret
              have h9 := HF7.out
              rw [HB8.out] at h9
              exact ⟨_, rfl, by rw [← h9]; exact H8.out⟩
            · have hb2 : decide ((x : Int) < 100) = false := by rw [decide_eq_false_iff_not]; omega
              have e3 : xs = [x / 100 + 48, x / 10 % 10 + 48, x % 10 + 48] := by rw [HX.out.2.2, if_neg c1, if_neg c2]
              subst e3
              go_wp2_with (at_builtin; go_must (refine put_new H7.out (by omega) [x / 100 + 48, x / 10 % 10 + 48, x % 10 + 48] ?_ (by simp) rfl (.tmp 136) (.tmp 150) rfl rfl rfl ?_))
              · exact new_three w7 (x / 100 + 48) (x / 10 % 10 + 48) (x % 10 + 48) _
              intro v8 w8 h'
              generalize hB8 : B7 ++ [x / 100 + 48, x / 10 % 10 + 48, x % 10 + 48] = B8 at h'
              have hl8 : B8.length ≤ 160 := by rw [← hB8]; simp; omega
              have H8 := Lib.hid h'
              have HB8 := Lib.hid hB8
              clear h' hB8
              go_wp2_with fail
              go_ret
              have h9 := HF7.out
              rw [HB8.out] at h9
              exact ⟨_, rfl, by rw [← h9]; exact H8.out⟩
end Go.Proofs.YtemjlkmlodmmfaaGreatDoor

/- Contract of strconv's fmtEFG at the shortest form, without an exponent; printed by genFtG.py. By an AI agent. -/
namespace Go.Proofs.YtemjlkmlodmmfaaGreatDoor
open Go.ChangeShapes Go.WideShapes Go.ChangeAt Go.RowKit
open Bt
set_option linter.unusedVariables false

set_option maxRecDepth 100000 in
set_option maxHeartbeats 2000000 in
theorem fmtF_int (neg : Bool) (D : List Nat) (b base : Nat) (v : Value) (w : World) (hI : Bu w base b v [] w) (hD : Dgs w b D) (h1 : 1 ≤ D.length) (h2 : D.length ≤ 20) (p : Nat) (hp0 : 1 ≤ p) (hp : p ≤ 6) (hnp : D.length ≤ p) :
    Calls Tryz.prog 56 #[v, .bool neg, .slice (some ⟨b, 0, none⟩) 32 32, .int .i64 (p : Int), .int .i64 (D.length : Int), .int .i64 (D.length : Int), .int .u8 103, .bool true] w fun e w' => ∃ v', e = .returned v' ∧ Bu w base b v' (Us.fmtG neg D (p : Int)) w' := by
  have HI := Lib.hid (And.intro hI hD)
  clear hI hD
  obtain ⟨nd, hnd⟩ : ∃ nd, nd = D.length := ⟨_, rfl⟩
  rw [← hnd] at h1 h2 hnp ⊢
  have hz : ((nd : Int) == 0) = false := by rw [beq_eq_false_iff_ne]; omega
  have HN := Lib.hid hnd
  obtain ⟨sg, hsg⟩ : ∃ sg : List Nat, sg = (if neg then [45] else []) := ⟨_, rfl⟩
  have hsl : sg.length ≤ 1 := by rw [hsg]; split <;> simp
  have HSG := Lib.hid hsg
  have hA : decide ((p : Int) - 1 < -4) = false := by rw [decide_eq_false_iff_not]; omega
  have hB : decide (6 ≤ (p : Int) - 1) = false := by rw [decide_eq_false_iff_not]; omega
  have hC : decide (p < nd) = false := by rw [decide_eq_false_iff_not]; omega
  have hP : decide (0 < (p : Int)) = true := by rw [decide_eq_true_eq]; omega
  obtain ⟨z, hz2⟩ : ∃ z : Nat, nd + z = p := ⟨p - nd, by omega⟩
  have hmin : min (nd : Int) (p : Int) = (nd : Int) := by omega
  have hsub : (p : Int) - (nd : Int) = (z : Int) := by omega
  have hend : sg ++ D ++ List.replicate z 48 = Us.fmtG neg D (p : Int) := by
    unfold Us.fmtG Us.fmtF
    rw [if_neg (show ¬ D = [] from fun h => by rw [h] at hnd; simp at hnd; omega), if_neg (show ¬ ((p : Int) - 1 < -4 ∨ 6 ≤ (p : Int) - 1) by omega), if_pos (show (0 : Int) < (p : Int) by omega), ← hsg, Int.toNat_natCast, ← hnd, if_neg (show ¬ p < nd by omega), show p - nd = z by omega, List.take_of_length_le (by omega)]
    simp
  have htd : D.take nd = D := List.take_of_length_le (by omega)
  have HEND := Lib.hid (And.intro hend htd)
  clear hend htd

  clear hnd hsg
  go_enter Tryz.func56, Tryz.ntmps56
  go_upto_if 36 with (fail)
  go_cut [5, 6] from 31 to 73 (fun s5 s6 wx => s5 = .int .i64 0 ∧ s6 = .int .u8 102 ∧ wx = w)
  case first =>
    go_wp2_with fail
    all_goals (go_meet; exact ⟨by go_num, rfl, rfl⟩)
  case rest =>
    obtain ⟨rfl, rfl, hw⟩ := hcut
    obtain rfl : w = wc := hw.symm
    go_upto_if 178 with (fail)
    go_cut [0] from 177 to 181 (fun s0 wx => Hid (Bu w base b s0 sg wx))
    case first =>
      cases neg
      · have hsg : sg = [] := HSG.out
        subst hsg
        go_wp2_with fail
        go_meet
        exact HI.out.1
      · have hsg : sg = [45] := HSG.out
        subst hsg
        go_wp2_with (at_builtin; go_must (refine put_one HI.out.1 (by simp) (45) (45) ?_ ?_ rfl (.tmp 179) (.tmp 180) rfl rfl rfl ?_))
        try any_goals (first | with_reducible rfl | (show (_ : Int) = _; rfl) | exact cell_one_new _ _ _ 0 _ rfl)
        intro v1 w1 h'
        have H1 := Lib.hid h'
        clear h'
        go_wp2_with fail
        go_meet
        exact H1.out
    case rest =>
      have HS := Lib.hid hcut.out
      clear hcut
      go_upto_if 183 with (fail)
      go_cut [0, 23, 25] from 182 to 208 (fun s0 _ _ wx => Hid (Bu w base b s0 (sg ++ D ++ List.replicate z 48) wx))
      case first =>
        go_wp2_with fail
        go_loopg [0, 191, 25] nd (fun g s0 i _ wx => ∃ k : Nat, g + k = nd ∧ i = .int .i64 (k : Int) ∧ RowKit.Hid (Bu w base b s0 (sg ++ D.take k) wx))
        case atStart => exact ⟨0, by omega, rfl, Lib.hid (by simpa using HS.out)⟩
        case round =>
          obtain ⟨k, hgk, rfl, HR⟩ := hrel
          by_cases hk : k < nd
          · have hcell : wr.cell? ⟨b, k, none⟩ = some (.int .u8 (D.getD k 0 : Nat)) := (HR.out.cell k).trans (HI.out.2 k (by rw [← HN.out]; omega))
            have htk : D.take (k + 1) = D.take k ++ [D.getD k 0] := take_succ_getD D k (by rw [← HN.out]; omega)
            have hlk : (sg ++ D.take k).length ≤ 100 := by rw [List.length_append, List.length_take]; omega
            obtain ⟨ck, hck⟩ : ∃ ck, ck = D.getD k 0 := ⟨_, rfl⟩
            rw [← hck] at hcell htk
            have HTK := Lib.hid htk
            clear htk hck
            obtain ⟨Bk, hBk⟩ : ∃ Bk, Bk = sg ++ D.take k := ⟨_, rfl⟩
            rw [← hBk] at HR hlk
            have HBk := Lib.hid hBk
            clear hBk
            go_wp2_with (at_builtin; go_must (refine put_one HR.out (by omega) ((ck : Nat) : Int) ck ?_ ?_ rfl (.tmp 195) (.tmp 197) rfl rfl rfl ?_))
            try any_goals (first | with_reducible rfl | (show (_ : Int) = _; rfl) | exact cell_one_new _ _ _ 0 _ rfl)
            intro v5 w5 h'
            have H5 := Lib.hid h'
            clear h'
            go_wp2_with fail
            go_roundg (gk - 1)
            case measure => omega
            case rel => exact ⟨k + 1, by omega, rfl, by rw [HTK.out, ← List.append_assoc, ← HBk.out]; exact H5⟩
          · obtain rfl : k = nd := by omega
            have HG := HR.out
            rw [HEND.out.2] at HG
            obtain ⟨BD, hBD⟩ : ∃ BD, BD = sg ++ D := ⟨_, rfl⟩
            rw [← hBD] at HG
            have hlD : BD.length ≤ 100 := by rw [hBD, List.length_append, ← HN.out]; omega
            have HBD := Lib.hid hBD
            clear hBD HR
            have HG := Lib.hid HG
            go_wp2_with fail
            go_loopg [0, 203] z (fun g s0 i wx => ∃ k : Nat, g + k = z ∧ i = .int .i64 (k : Int) ∧ RowKit.Hid (Bu w base b s0 (BD ++ List.replicate k 48) wx))
            case atStart => exact ⟨0, by omega, rfl, Lib.hid (by simpa using HG.out)⟩
            case round =>
              obtain ⟨k, hgk, rfl, HR⟩ := hrel
              by_cases hk : k < z
              · obtain ⟨Bk, hBk⟩ : ∃ Bk, Bk = BD ++ List.replicate k 48 := ⟨_, rfl⟩
                have hlk : (BD ++ List.replicate k 48).length ≤ 200 := by rw [List.length_append, List.length_replicate]; omega
                rw [← hBk] at HR hlk
                have HBk := Lib.hid hBk
                clear hBk
                go_wp2_with (at_builtin; go_must (refine put_one HR.out (by omega) (48) (48) ?_ ?_ rfl (.tmp 205) (.tmp 206) rfl rfl rfl ?_))
                try any_goals (first | with_reducible rfl | (show (_ : Int) = _; rfl) | exact cell_one_new _ _ _ 0 _ rfl)
                intro v5 w5 h'
                have H5 := Lib.hid h'
                clear h'
                go_wp2_with fail
                go_roundg (gk - 1)
                case measure => omega
                case rel => exact ⟨k + 1, by omega, rfl, by rw [List.replicate_succ', ← List.append_assoc, ← HBk.out]; exact H5⟩
              · obtain rfl : k = z := by omega
                go_wp2_with fail
                go_meet
                rw [← HBD.out]
                exact HR
      case rest =>
        have H9 := Lib.hid hcut.out
        clear hcut
        go_wp2_with fail
        go_ret
        exact ⟨_, rfl, by rw [← HEND.out.1]; exact H9.out⟩

set_option maxRecDepth 100000 in
set_option maxHeartbeats 2000000 in
theorem fmtF_mid (neg : Bool) (D : List Nat) (b base : Nat) (v : Value) (w : World) (hI : Bu w base b v [] w) (hD : Dgs w b D) (h1 : 1 ≤ D.length) (h2 : D.length ≤ 20) (p : Nat) (hp0 : 1 ≤ p) (hp : p ≤ 6) (hpn : p < D.length) :
    Calls Tryz.prog 56 #[v, .bool neg, .slice (some ⟨b, 0, none⟩) 32 32, .int .i64 (p : Int), .int .i64 (D.length : Int), .int .i64 (D.length : Int), .int .u8 103, .bool true] w fun e w' => ∃ v', e = .returned v' ∧ Bu w base b v' (Us.fmtG neg D (p : Int)) w' := by
  have HI := Lib.hid (And.intro hI hD)
  clear hI hD
  obtain ⟨nd, hnd⟩ : ∃ nd, nd = D.length := ⟨_, rfl⟩
  rw [← hnd] at h1 h2 hpn ⊢
  have hz : ((nd : Int) == 0) = false := by rw [beq_eq_false_iff_ne]; omega
  have HN := Lib.hid hnd
  obtain ⟨sg, hsg⟩ : ∃ sg : List Nat, sg = (if neg then [45] else []) := ⟨_, rfl⟩
  have hsl : sg.length ≤ 1 := by rw [hsg]; split <;> simp
  have HSG := Lib.hid hsg
  have hA : decide ((p : Int) - 1 < -4) = false := by rw [decide_eq_false_iff_not]; omega
  have hB : decide (6 ≤ (p : Int) - 1) = false := by rw [decide_eq_false_iff_not]; omega
  have hC : decide (p < nd) = true := by rw [decide_eq_true_eq]; omega
  have hP : decide (0 < (p : Int)) = true := by rw [decide_eq_true_eq]; omega
  obtain ⟨r, hr2⟩ : ∃ r : Nat, p + r = nd := ⟨nd - p, by omega⟩
  have hr1 : 1 ≤ r := by omega
  have hmin : min (nd : Int) (p : Int) = (p : Int) := by omega
  have hsub : (nd : Int) - (p : Int) = (r : Int) := by omega
  have hmx : max (r : Int) 0 = (r : Int) := by omega
  have hmx2 : max 0 (r : Int) = (r : Int) := by omega
  have hmx3 : max 0 (-(p : Int)) = 0 := by omega
  have hmn2 : min (r : Int) 0 = 0 := by omega
  have hPr : decide (0 < (r : Int)) = true := by rw [decide_eq_true_eq]; omega
  obtain ⟨E, hE⟩ : ∃ E, E = D.drop p := ⟨_, rfl⟩
  have hDR := HI.out.2.drop p r (by omega)
  rw [← hE] at hDR
  have hend : sg ++ D.take p ++ [46] ++ E = Us.fmtG neg D (p : Int) := by
    unfold Us.fmtG Us.fmtF
    rw [if_neg (show ¬ D = [] from fun h => by rw [h] at hnd; simp at hnd; omega), if_neg (show ¬ ((p : Int) - 1 < -4 ∨ 6 ≤ (p : Int) - 1) by omega), if_pos (show (0 : Int) < (p : Int) by omega), ← hsg, Int.toNat_natCast, ← hnd, if_pos (show p < nd by omega), show p - nd = 0 by omega, ← hE]
    simp
  have htd : E.take r = E := List.take_of_length_le (by omega)
  have HEND := Lib.hid (And.intro hend htd)
  have HDR := Lib.hid hDR
  clear hend htd hDR hE

  clear hnd hsg
  go_enter Tryz.func56, Tryz.ntmps56
  go_upto_if 36 with (fail)
  go_cut [5, 6] from 31 to 73 (fun s5 s6 wx => s5 = .int .i64 (r : Int) ∧ s6 = .int .u8 102 ∧ wx = w)
  case first =>
    go_wp2_with fail
    all_goals (go_meet; exact ⟨by go_num, rfl, rfl⟩)
  case rest =>
    obtain ⟨rfl, rfl, hw⟩ := hcut
    obtain rfl : w = wc := hw.symm
    go_upto_if 178 with (fail)
    go_cut [0] from 177 to 181 (fun s0 wx => Hid (Bu w base b s0 sg wx))
    case first =>
      cases neg
      · have hsg : sg = [] := HSG.out
        subst hsg
        go_wp2_with fail
        go_meet
        exact HI.out.1
      · have hsg : sg = [45] := HSG.out
        subst hsg
        go_wp2_with (at_builtin; go_must (refine put_one HI.out.1 (by simp) (45) (45) ?_ ?_ rfl (.tmp 179) (.tmp 180) rfl rfl rfl ?_))
        try any_goals (first | with_reducible rfl | (show (_ : Int) = _; rfl) | exact cell_one_new _ _ _ 0 _ rfl)
        intro v1 w1 h'
        have H1 := Lib.hid h'
        clear h'
        go_wp2_with fail
        go_meet
        exact H1.out
    case rest =>
      have HS := Lib.hid hcut.out
      clear hcut
      go_upto_if 183 with (fail)
      obtain ⟨BD, hBD⟩ : ∃ BD, BD = sg ++ D.take p := ⟨_, rfl⟩
      have hlD : BD.length ≤ 100 := by rw [hBD, List.length_append, List.length_take]; omega
      have HBD := Lib.hid hBD
      clear hBD
      go_cut [0, 23, 25] from 182 to 208 (fun s0 _ _ wx => Hid (Bu w base b s0 BD wx))
      case first =>
        go_wp2_with fail
        go_loopg [0, 191, 25] p (fun g s0 i _ wx => ∃ k : Nat, g + k = p ∧ i = .int .i64 (k : Int) ∧ RowKit.Hid (Bu w base b s0 (sg ++ D.take k) wx))
        case atStart => exact ⟨0, by omega, rfl, Lib.hid (by simpa using HS.out)⟩
        case round =>
          obtain ⟨k, hgk, rfl, HR⟩ := hrel
          by_cases hk : k < p
          · have hcell : wr.cell? ⟨b, k, none⟩ = some (.int .u8 (D.getD k 0 : Nat)) := (HR.out.cell k).trans (HI.out.2 k (by rw [← HN.out]; omega))
            have htk : D.take (k + 1) = D.take k ++ [D.getD k 0] := take_succ_getD D k (by rw [← HN.out]; omega)
            have hlk : (sg ++ D.take k).length ≤ 100 := by rw [List.length_append, List.length_take]; omega
            obtain ⟨ck, hck⟩ : ∃ ck, ck = D.getD k 0 := ⟨_, rfl⟩
            rw [← hck] at hcell htk
            have HTK := Lib.hid htk
            clear htk hck
            obtain ⟨Bk, hBk⟩ : ∃ Bk, Bk = sg ++ D.take k := ⟨_, rfl⟩
            rw [← hBk] at HR hlk
            have HBk := Lib.hid hBk
            clear hBk
            go_wp2_with (at_builtin; go_must (refine put_one HR.out (by omega) ((ck : Nat) : Int) ck ?_ ?_ rfl (.tmp 195) (.tmp 197) rfl rfl rfl ?_))
            try any_goals (first | with_reducible rfl | (show (_ : Int) = _; rfl) | exact cell_one_new _ _ _ 0 _ rfl)
            intro v5 w5 h'
            have H5 := Lib.hid h'
            clear h'
            go_wp2_with fail
            go_roundg (gk - 1)
            case measure => omega
            case rel => exact ⟨k + 1, by omega, rfl, by rw [HTK.out, ← List.append_assoc, ← HBk.out]; exact H5⟩
          · obtain rfl : k = p := by omega
            have HG := HR.out
            rw [← HBD.out] at HG
            have HG := Lib.hid HG
            clear HR
            go_wp2_with fail
            go_loopg [0, 203] 0 (fun g s0 i wx => i = .int .i64 0 ∧ RowKit.Hid (Bu w base b s0 (BD) wx))
            case atStart => exact ⟨rfl, Lib.hid HG.out⟩
            case round =>
              obtain ⟨rfl, HR⟩ := hrel
              have HG2 := Lib.hid HR.out
              go_wp2_with fail
              go_meet
              exact HG2
      case rest =>
        have HG := Lib.hid hcut.out
        clear hcut
        go_wp2_with (at_builtin; go_must (refine put_one HG.out (by omega) (46) (46) ?_ ?_ rfl (.tmp 214) (.tmp 215) rfl rfl rfl ?_))
        try any_goals (first | with_reducible rfl | (show (_ : Int) = _; rfl) | exact cell_one_new _ _ _ 0 _ rfl)
        intro v6 w6 h'
        generalize hB6 : BD ++ [46] = B6 at h'
        have hl6 : B6.length ≤ 101 := by rw [← hB6]; simp; omega
        have H6 := Lib.hid h'
        have HB6 := Lib.hid hB6
        clear h' hB6
        go_wp2_with fail
        have HG := Lib.hid H6.out
        go_loopg [0, 240] 0 (fun g s0 i wx => i = .int .i64 0 ∧ RowKit.Hid (Bu w base b s0 (B6) wx))
        case atStart => exact ⟨rfl, Lib.hid HG.out⟩
        case round =>
          obtain ⟨rfl, HR⟩ := hrel
          have HG2 := Lib.hid HR.out
          go_wp2_with fail
          go_loopg [0, 247, 30] r (fun g s0 i _ wx => ∃ k : Nat, g + k = r ∧ i = .int .i64 (k : Int) ∧ RowKit.Hid (Bu w base b s0 (B6 ++ E.take k) wx))
          case atStart => exact ⟨0, by omega, rfl, Lib.hid (by simpa using HG2.out)⟩
          case round =>
            obtain ⟨k, hgk, rfl, HR⟩ := hrel
            by_cases hk : k < r
            · have hcell : wr.cell? ⟨b, p + k, none⟩ = some (.int .u8 (E.getD k 0 : Nat)) := (HR.out.cell _).trans (HDR.out.2 k (by rw [HDR.out.1]; omega))
              have htk : E.take (k + 1) = E.take k ++ [E.getD k 0] := take_succ_getD E k (by rw [HDR.out.1]; omega)
              have hlk : (B6 ++ E.take k).length ≤ 150 := by rw [List.length_append, List.length_take]; omega
              obtain ⟨ck, hck⟩ : ∃ ck, ck = E.getD k 0 := ⟨_, rfl⟩
              rw [← hck] at hcell htk
              have HTK := Lib.hid htk
              clear htk hck
              obtain ⟨Bk, hBk⟩ : ∃ Bk, Bk = B6 ++ E.take k := ⟨_, rfl⟩
              rw [← hBk] at HR hlk
              have HBk := Lib.hid hBk
              clear hBk
              go_wp2_with (at_builtin; go_must (refine put_one HR.out (by omega) ((ck : Nat) : Int) ck ?_ ?_ rfl (.tmp 250) (.tmp 257) rfl rfl rfl ?_))
              try any_goals (first | with_reducible rfl | (show (_ : Int) = _; rfl) | exact cell_one_new _ _ _ 0 _ rfl)
              intro v5 w5 h'
              have H5 := Lib.hid h'
              clear h'
              go_wp2_with fail
              go_roundg (gk - 1)
              case measure => omega
              case rel => exact ⟨k + 1, by omega, rfl, by rw [HTK.out, ← List.append_assoc, ← HBk.out]; exact H5⟩
            · obtain rfl : k = r := by omega
              have HG := HR.out
              rw [HEND.out.2] at HG
              obtain ⟨B9, hB9⟩ : ∃ B9, B9 = B6 ++ E := ⟨_, rfl⟩
              rw [← hB9] at HG
              have HB9 := Lib.hid hB9
              have HG := Lib.hid HG
              clear hB9 HR
              go_wp2_with fail
              go_loopg [0, 261] 0 (fun g s0 i wx => i = .int .i64 0 ∧ RowKit.Hid (Bu w base b s0 (B9) wx))
              case atStart => exact ⟨rfl, Lib.hid HG.out⟩
              case round =>
                obtain ⟨rfl, HR⟩ := hrel
                have HG2 := Lib.hid HR.out
                go_wp2_with fail
                go_ret
                exact ⟨_, rfl, by rw [← HEND.out.1, ← HBD.out, HB6.out, ← HB9.out]; exact HG2.out⟩

set_option maxRecDepth 100000 in
set_option maxHeartbeats 2000000 in
theorem fmtF_low (neg : Bool) (D : List Nat) (b base : Nat) (v : Value) (w : World) (hI : Bu w base b v [] w) (hD : Dgs w b D) (h1 : 1 ≤ D.length) (h2 : D.length ≤ 20) (d : Int) (hd0 : -3 ≤ d) (hd1 : d ≤ 0) :
    Calls Tryz.prog 56 #[v, .bool neg, .slice (some ⟨b, 0, none⟩) 32 32, .int .i64 d, .int .i64 (D.length : Int), .int .i64 (D.length : Int), .int .u8 103, .bool true] w fun e w' => ∃ v', e = .returned v' ∧ Bu w base b v' (Us.fmtG neg D d) w' := by
  have HI := Lib.hid (And.intro hI hD)
  clear hI hD
  obtain ⟨nd, hnd⟩ : ∃ nd, nd = D.length := ⟨_, rfl⟩
  rw [← hnd] at h1 h2 ⊢
  have hz : ((nd : Int) == 0) = false := by rw [beq_eq_false_iff_ne]; omega
  have HN := Lib.hid hnd
  obtain ⟨sg, hsg⟩ : ∃ sg : List Nat, sg = (if neg then [45] else []) := ⟨_, rfl⟩
  have hsl : sg.length ≤ 1 := by rw [hsg]; split <;> simp
  have HSG := Lib.hid hsg
  obtain ⟨q, hq⟩ : ∃ q : Nat, -d = (q : Int) := ⟨(-d).toNat, by omega⟩
  obtain ⟨r, hr2⟩ : ∃ r : Nat, nd + q = r := ⟨_, rfl⟩
  have hA : decide (d - 1 < -4) = false := by rw [decide_eq_false_iff_not]; omega
  have hB : decide (6 ≤ d - 1) = false := by rw [decide_eq_false_iff_not]; omega
  have hC : decide (d < (nd : Int)) = true := by rw [decide_eq_true_eq]; omega
  have hP : decide (0 < d) = false := by rw [decide_eq_false_iff_not]; omega
  have hsub : (nd : Int) - d = (r : Int) := by omega
  have hmx : max (r : Int) 0 = (r : Int) := by omega
  have hmx2 : max 0 (nd : Int) = (nd : Int) := by omega
  have hmx3 : max 0 (q : Int) = (q : Int) := by omega
  have hmn2 : min (r : Int) (q : Int) = (q : Int) := by omega
  have hdq : d + (q : Int) = 0 := by omega
  have hrq : (r : Int) - (q : Int) = (nd : Int) := by omega
  have hPr : decide (0 < (r : Int)) = true := by rw [decide_eq_true_eq]; omega
  have hDR : D.length = nd ∧ ∀ t, t < D.length → w.cell? ⟨b, t, none⟩ = some (.int .u8 (D.getD t 0 : Nat)) := ⟨hnd.symm, HI.out.2⟩
  have hend : sg ++ [48] ++ [46] ++ List.replicate q 48 ++ D = Us.fmtG neg D d := by
    unfold Us.fmtG Us.fmtF
    rw [if_neg (show ¬ D = [] from fun h => by rw [h] at hnd; simp at hnd; omega), if_neg (show ¬ (d - 1 < -4 ∨ 6 ≤ d - 1) by omega), if_neg (show ¬ (0 < d) by omega), ← hsg, show (-d).toNat = q by omega]
    simp
  have htd : D.take nd = D := List.take_of_length_le (by omega)
  have HEND := Lib.hid (And.intro hend htd)
  have HDR := Lib.hid hDR
  clear hend htd hDR

  clear hnd hsg
  go_enter Tryz.func56, Tryz.ntmps56
  go_upto_if 36 with (fail)
  go_cut [5, 6] from 31 to 73 (fun s5 s6 wx => s5 = .int .i64 (r : Int) ∧ s6 = .int .u8 102 ∧ wx = w)
  case first =>
    go_wp2_with fail
    all_goals (go_meet; exact ⟨by go_num, rfl, rfl⟩)
  case rest =>
    obtain ⟨rfl, rfl, hw⟩ := hcut
    obtain rfl : w = wc := hw.symm
    go_upto_if 178 with (fail)
    go_cut [0] from 177 to 181 (fun s0 wx => Hid (Bu w base b s0 sg wx))
    case first =>
      cases neg
      · have hsg : sg = [] := HSG.out
        subst hsg
        go_wp2_with fail
        go_meet
        exact HI.out.1
      · have hsg : sg = [45] := HSG.out
        subst hsg
        go_wp2_with (at_builtin; go_must (refine put_one HI.out.1 (by simp) (45) (45) ?_ ?_ rfl (.tmp 179) (.tmp 180) rfl rfl rfl ?_))
        try any_goals (first | with_reducible rfl | (show (_ : Int) = _; rfl) | exact cell_one_new _ _ _ 0 _ rfl)
        intro v1 w1 h'
        have H1 := Lib.hid h'
        clear h'
        go_wp2_with fail
        go_meet
        exact H1.out
    case rest =>
      have HS := Lib.hid hcut.out
      clear hcut
      go_upto_if 183 with (fail)
      go_cut [0, 23, 25] from 182 to 211 (fun s0 _ _ wx => Hid (Bu w base b s0 (sg ++ [48]) wx))
      case first =>
        go_wp2_with (at_builtin; go_must (refine put_one HS.out (by omega) (48) (48) ?_ ?_ rfl (.tmp 209) (.tmp 210) rfl rfl rfl ?_))
        try any_goals (first | with_reducible rfl | (show (_ : Int) = _; rfl) | exact cell_one_new _ _ _ 0 _ rfl)
        intro v2 w2 h'
        generalize hB2 : sg ++ [48] = B2 at h'
        have hl2 : B2.length ≤ 100 := by rw [← hB2]; simp; omega
        have H2 := Lib.hid h'
        have HB2 := Lib.hid hB2
        clear h' hB2
        go_wp2_with fail
        go_meet
        rw [HB2.out]
        exact H2
      case rest =>
        have HG := Lib.hid hcut.out
        clear hcut
        obtain ⟨BD, hBD⟩ : ∃ BD, BD = sg ++ [48] := ⟨_, rfl⟩
        have hlD : BD.length ≤ 100 := by rw [hBD, List.length_append]; simp; omega
        rw [← hBD] at HG
        have HBD := Lib.hid hBD
        clear hBD
        go_wp2_with (at_builtin; go_must (refine put_one HG.out (by omega) (46) (46) ?_ ?_ rfl (.tmp 214) (.tmp 215) rfl rfl rfl ?_))
        try any_goals (first | with_reducible rfl | (show (_ : Int) = _; rfl) | exact cell_one_new _ _ _ 0 _ rfl)
        intro v6 w6 h'
        generalize hB6 : BD ++ [46] = B6 at h'
        have hl6 : B6.length ≤ 101 := by rw [← hB6]; simp; omega
        have H6 := Lib.hid h'
        have HB6 := Lib.hid hB6
        clear h' hB6
        go_wp2_with fail
        go_loopg [0, 240] q (fun g s0 i wx => ∃ k : Nat, g + k = q ∧ i = .int .i64 (k : Int) ∧ RowKit.Hid (Bu w base b s0 (B6 ++ List.replicate k 48) wx))
        case atStart => exact ⟨0, by omega, rfl, Lib.hid (by simpa using H6.out)⟩
        case round =>
          obtain ⟨k, hgk, rfl, HR⟩ := hrel
          by_cases hk : k < q
          · obtain ⟨Bk, hBk⟩ : ∃ Bk, Bk = B6 ++ List.replicate k 48 := ⟨_, rfl⟩
            have hlk : (B6 ++ List.replicate k 48).length ≤ 200 := by rw [List.length_append, List.length_replicate]; omega
            rw [← hBk] at HR hlk
            have HBk := Lib.hid hBk
            clear hBk
            go_wp2_with (at_builtin; go_must (refine put_one HR.out (by omega) (48) (48) ?_ ?_ rfl (.tmp 242) (.tmp 243) rfl rfl rfl ?_))
            try any_goals (first | with_reducible rfl | (show (_ : Int) = _; rfl) | exact cell_one_new _ _ _ 0 _ rfl)
            intro v5 w5 h'
            have H5 := Lib.hid h'
            clear h'
            go_wp2_with fail
            go_roundg (gk - 1)
            case measure => omega
            case rel => exact ⟨k + 1, by omega, rfl, by rw [List.replicate_succ', ← List.append_assoc, ← HBk.out]; exact H5⟩
          · obtain rfl : k = q := by omega
            obtain ⟨B8, hB8⟩ : ∃ B8, B8 = B6 ++ List.replicate k 48 := ⟨_, rfl⟩
            have hl8 : B8.length ≤ 120 := by rw [hB8, List.length_append, List.length_replicate]; omega
            have HG := HR.out
            rw [← hB8] at HG
            have HB8 := Lib.hid hB8
            have HG8 := Lib.hid HG
            clear HG HR hB8
            obtain ⟨q', hq'⟩ : ∃ q', q' = k := ⟨_, rfl⟩
            rw [← hq'] at *
            clear hgk hk
            go_wp2_with fail
            go_loopg [0, 247, 30] nd (fun g s0 i _ wx => ∃ k : Nat, g + k = nd ∧ i = .int .i64 (k : Int) ∧ RowKit.Hid (Bu w base b s0 (B8 ++ D.take k) wx))
            case atStart => exact ⟨0, by omega, rfl, Lib.hid (by simpa using HG8.out)⟩
            case round =>
              obtain ⟨k, hgk, rfl, HR⟩ := hrel
              by_cases hk : k < nd
              · have hcell : wr.cell? ⟨b, k, none⟩ = some (.int .u8 (D.getD k 0 : Nat)) := (HR.out.cell _).trans (HDR.out.2 k (by rw [HDR.out.1]; omega))
                have htk : D.take (k + 1) = D.take k ++ [D.getD k 0] := take_succ_getD D k (by rw [HDR.out.1]; omega)
                have hlk : (B8 ++ D.take k).length ≤ 150 := by rw [List.length_append, List.length_take]; omega
                obtain ⟨ck, hck⟩ : ∃ ck, ck = D.getD k 0 := ⟨_, rfl⟩
                rw [← hck] at hcell htk
                have HTK := Lib.hid htk
                clear htk hck
                obtain ⟨Bk, hBk⟩ : ∃ Bk, Bk = B8 ++ D.take k := ⟨_, rfl⟩
                rw [← hBk] at HR hlk
                have HBk := Lib.hid hBk
                clear hBk
                go_wp2_with (at_builtin; go_must (refine put_one HR.out (by omega) ((ck : Nat) : Int) ck ?_ ?_ rfl (.tmp 250) (.tmp 257) rfl rfl rfl ?_))
                try any_goals (first | with_reducible rfl | (show (_ : Int) = _; rfl) | exact cell_one_new _ _ _ 0 _ rfl)
                intro v5 w5 h'
                have H5 := Lib.hid h'
                clear h'
                go_wp2_with fail
                go_roundg (gk - 1)
                case measure => omega
                case rel => exact ⟨k + 1, by omega, rfl, by rw [HTK.out, ← List.append_assoc, ← HBk.out]; exact H5⟩
              · obtain rfl : k = nd := by omega
                have HG := HR.out
                rw [HEND.out.2] at HG
                obtain ⟨B9, hB9⟩ : ∃ B9, B9 = B8 ++ D := ⟨_, rfl⟩
                rw [← hB9] at HG
                have HB9 := Lib.hid hB9
                have HG := Lib.hid HG
                clear hB9 HR
                go_wp2_with fail
                go_loopg [0, 261] 0 (fun g s0 i wx => i = .int .i64 0 ∧ RowKit.Hid (Bu w base b s0 (B9) wx))
                case atStart => exact ⟨rfl, Lib.hid HG.out⟩
                case round =>
                  obtain ⟨rfl, HR⟩ := hrel
                  have HG2 := Lib.hid HR.out
                  go_wp2_with fail
                  go_ret
                  exact ⟨_, rfl, by rw [← HEND.out.1, ← HBD.out, HB6.out, ← HB8.out, ← HB9.out]; exact HG2.out⟩

set_option maxRecDepth 100000 in
set_option maxHeartbeats 2000000 in
theorem fmt_zero (neg : Bool) (b base : Nat) (v : Value) (w : World) (hI : Bu w base b v [] w) :
    Calls Tryz.prog 56 #[v, .bool neg, .slice none 0 0, .int .i64 0, .int .i64 0, .int .i64 (-1), .int .u8 103, .bool true] w fun e w' => ∃ v', e = .returned v' ∧ Bu w base b v' (Us.fmtG neg [] 0) w' := by
  have HI := Lib.hid hI
  clear hI
  cases neg
  · go_enter Tryz.func56, Tryz.ntmps56
    go_wp2_with (at_builtin; go_must (refine put_one HI.out (by simp) (48) (48) ?_ ?_ rfl (.tmp 209) (.tmp 210) rfl rfl rfl ?_))
    try any_goals (first | with_reducible rfl | (show (_ : Int) = _; rfl) | exact cell_one_new _ _ _ 0 _ rfl)
    intro v1 w1 h'
    have H1 := Lib.hid h'
    clear h'
    go_wp2_with fail
    go_ret
    exact ⟨_, rfl, H1.out⟩
  · go_enter Tryz.func56, Tryz.ntmps56
    go_wp2_with (at_builtin; go_must (refine put_one HI.out (by simp) (45) (45) ?_ ?_ rfl (.tmp 179) (.tmp 180) rfl rfl rfl ?_))
    try any_goals (first | with_reducible rfl | (show (_ : Int) = _; rfl) | exact cell_one_new _ _ _ 0 _ rfl)
    intro v1 w1 h'
    have H1 := Lib.hid h'
    clear h'
    go_wp2_with (at_builtin; go_must (refine put_one H1.out (by simp) (48) (48) ?_ ?_ rfl (.tmp 209) (.tmp 210) rfl rfl rfl ?_))
    try any_goals (first | with_reducible rfl | (show (_ : Int) = _; rfl) | exact cell_one_new _ _ _ 0 _ rfl)
    intro v2 w2 h'
    have H2 := Lib.hid h'
    clear h'
    go_wp2_with fail
    go_ret
    exact ⟨_, rfl, H2.out⟩

theorem fmt_any (neg : Bool) (D : List Nat) (dp : Int) (b base : Nat) (v : Value) (w : World) (hI : Bu w base b v [] w) (hD : Dgs w b D) (h1 : 1 ≤ D.length) (h2 : D.length ≤ 20) (hd0 : -400 ≤ dp) (hd1 : dp ≤ 400) :
    Calls Tryz.prog 56 #[v, .bool neg, .slice (some ⟨b, 0, none⟩) 32 32, .int .i64 dp, .int .i64 (D.length : Int), .int .i64 (D.length : Int), .int .u8 103, .bool true] w fun e w' => ∃ v', e = .returned v' ∧ Bu w base b v' (Us.fmtG neg D dp) w' := by
  by_cases hE : dp - 1 < -4 ∨ 6 ≤ dp - 1
  · exact fmtE_any neg D dp b base v w hI hD h1 h2 hd0 hd1 hE
  · by_cases hp : 0 < dp
    · obtain ⟨p, rfl⟩ : ∃ p : Nat, dp = (p : Int) := ⟨dp.toNat, by omega⟩
      by_cases hn : D.length ≤ p
      · exact fmtF_int neg D b base v w hI hD h1 h2 p (by omega) (by omega) hn
      · exact fmtF_mid neg D b base v w hI hD h1 h2 p (by omega) (by omega) (by omega)
    · exact fmtF_low neg D b base v w hI hD h1 h2 dp (by omega) (by omega)
end Go.Proofs.YtemjlkmlodmmfaaGreatDoor

/- The text of a float, plainly: its mantissa and exponent, its digits. By an AI agent. -/
namespace Go.Proofs.YtemjlkmlodmmfaaGreatDoor.Us
set_option linter.unusedVariables false

def exb (u : Nat) : Nat := u / 2 ^ 52 % 2048
/-- The mantissa shifted to the top, and the exponent that belongs to it. -/
def sh (u : Nat) : Nat := 64 - Lib.bitLen (Sm.mant u)
def mm (u : Nat) : Nat := Sm.mant u * 2 ^ sh u
def ee (u : Nat) : Int := (if exb u = 0 then -1022 else (exb u : Int) - 1023) - sh u - 52
def dd (u : Nat) : Nat := shD (mm u) (ee u)
def pq (u : Nat) : Int := shP (mm u) (ee u)
def nz (u : Nat) : Nat := trimN (dd u) (Lib.nDigits (dd u))
def digs (u : Nat) : List Nat := (List.range (nz u)).map (digit (dd u) (Lib.nDigits (dd u)))
/-- The text of a finite float, by its bits. -/
def textF (u : Nat) : List Nat := if Sm.mant u = 0 then fmtG (Sm.isNeg u) [] 0 else fmtG (Sm.isNeg u) (digs u) (Lib.nDigits (dd u) + pq u)

theorem bitLen_pos {x : Nat} (h0 : x ≠ 0) (hx : x < 18446744073709551616) : 2 ^ (Lib.bitLen x - 1) ≤ x ∧ x < 2 ^ Lib.bitLen x ∧ 1 ≤ Lib.bitLen x := by
  have h := Sm.bitLen_len x hx
  have h1 : 1 ≤ Lib.bitLen x := by
    refine Nat.succ_le_of_lt (Nat.pos_of_ne_zero fun e => ?_)
    have := h.1
    rw [e] at this
    simp at this
    exact h0 this
  exact ⟨h.2 h1, h.1, h1⟩

theorem ok_of (u : Nat) (hk : exb u < 2047) (hm : Sm.mant u ≠ 0) : Ok (mm u) (ee u) ∧ 11 ≤ sh u ∧ sh u ≤ 63 := by
  have hlt := Sm.mant_lt u
  obtain ⟨b1, b2, b3⟩ := bitLen_pos hm (by omega)
  have hl53 : Lib.bitLen (Sm.mant u) ≤ 53 := by
    refine Nat.le_of_not_lt fun h => ?_
    have : 2 ^ 53 ≤ 2 ^ (Lib.bitLen (Sm.mant u) - 1) := Nat.pow_le_pow_right (by omega) (by omega)
    omega
  have hsh : sh u + Lib.bitLen (Sm.mant u) = 64 := by unfold sh; omega
  have e63 : 2 ^ (Lib.bitLen (Sm.mant u) - 1) * 2 ^ sh u = 9223372036854775808 := by
    rw [← Nat.pow_add, show Lib.bitLen (Sm.mant u) - 1 + sh u = 63 by omega]
  have e64 : 2 ^ Lib.bitLen (Sm.mant u) * 2 ^ sh u = 18446744073709551616 := by
    rw [← Nat.pow_add, show Lib.bitLen (Sm.mant u) + sh u = 64 by omega]
  have hp := Nat.two_pow_pos (sh u)
  have hm1 : 9223372036854775808 ≤ mm u := by rw [← e63]; exact Nat.mul_le_mul_right _ b1
  have hm2 : mm u < 18446744073709551616 := by rw [← e64]; exact Nat.mul_lt_mul_of_pos_right b2 hp
  refine ⟨⟨hm1, hm2, ?_, ?_, ?_⟩, by omega, by omega⟩
  · unfold ee; split <;> omega
  · unfold ee; split <;> omega
  · have hz : zz (ee u) = sh u := by
      unfold zz ee
      by_cases h0 : exb u = 0
      · rw [if_pos h0]
        have hsub : Sm.mant u < 2 ^ 52 := by unfold Sm.mant; unfold exb at h0; rw [if_pos h0]; exact Nat.mod_lt _ (by decide)
        have hl52 : Lib.bitLen (Sm.mant u) ≤ 52 := by
          refine Nat.le_of_not_lt fun h => ?_
          have : 2 ^ 52 ≤ 2 ^ (Lib.bitLen (Sm.mant u) - 1) := Nat.pow_le_pow_right (by omega) (by omega)
          omega
        split <;> omega
      · rw [if_neg h0]
        have hnor : 2 ^ 52 ≤ Sm.mant u := by unfold Sm.mant; unfold exb at h0; rw [if_neg h0]; omega
        have hl : Lib.bitLen (Sm.mant u) = 53 := by
          refine Nat.le_antisymm hl53 (Nat.le_of_not_lt fun h => ?_)
          have : 2 ^ Lib.bitLen (Sm.mant u) ≤ 2 ^ 52 := Nat.pow_le_pow_right (by omega) (by omega)
          omega
        rw [if_pos (by omega)]
        omega
    rw [hz]
    unfold mm
    exact Nat.mul_mod_left _ _

theorem usc_six {x s hi lo : Nat} (hx : x < 18446744073709551616) (hx0 : 4611686018427387904 ≤ x) (hhi : hi < 18446744073709551616) (hhi0 : 9223372036854775808 ≤ hi) (h1 : s ≤ 58) : 6 ≤ usc x s hi lo := by
  have u1 : x * hi < 18446744073709551616 * 18446744073709551616 := Nat.mul_lt_mul'' hx hhi
  have u0 : 4611686018427387904 * 9223372036854775808 ≤ x * hi := Nat.mul_le_mul hx0 hhi0
  unfold usc
  have h1' : x * hi / 18446744073709551616 < 18446744073709551616 := by omega
  have h0' : 2305843009213693952 ≤ x * hi / 18446744073709551616 := by omega
  generalize x * hi / 18446744073709551616 = h at *
  generalize x * hi % 18446744073709551616 = m at *
  clear u1 u0
  have p58 : 2 ^ s ≤ 2 ^ 58 := Nat.pow_le_pow_right (by omega) h1
  have key : ∀ a, 2305843009213693951 ≤ a → ∀ b, 6 ≤ stk (a / 2 ^ s) b := by
    intro a a0 b
    have := stk_le (a / 2 ^ s) b
    have l2 : a / 2 ^ 58 ≤ a / 2 ^ s := Nat.div_le_div_left p58 (Nat.two_pow_pos s)
    have e2 : (2 : Nat) ^ 58 = 288230376151711744 := by decide
    rw [e2] at l2
    generalize a / 2 ^ s = q at *
    omega
  by_cases hr : h % 2 ^ s ≠ 0
  · simp only [if_pos hr]
    exact key h (by omega) _
  · simp only [if_neg hr]
    refine key _ ?_ _
    split <;> omega

theorem sh_pos {m : Nat} {e : Int} (h : Ok m e) : 1 ≤ shD m e ∧ shD m e < 18446744073709551616 ∧ -350 ≤ shP m e ∧ shP m e ≤ 350 := by
  have hp := pp_range (m := m) h.e0 h.e1
  have hz := zz_range h.e0 h.e1
  have hpm := pm_range (p := pp m e) (by omega) (by omega)
  have hs : sft m e ≤ 58 ∧ 5 ≤ sft m e := by unfold sft; omega
  have h1 := h.lo
  have h2 := h.hi
  have p62 : 2 ^ (zz e - 1) ≤ 2 ^ 62 := Nat.pow_le_pow_right (by omega) (by omega)
  have e62 : (2 : Nat) ^ 62 = 4611686018427387904 := by decide
  have hmn : 4611686018427387904 ≤ mnv m e ∧ mnv m e < 18446744073709551616 := by
    unfold mnv
    have := Nat.two_pow_pos (zz e - 1)
    have e9 : (2 : Nat) ^ 9 = 512 := by decide
    split <;> omega
  have u1 : 6 ≤ uu m e (mnv m e) := usc_six hmn.2 hmn.1 hpm.1 hpm.2.1 hs.1
  have u3 : 6 ≤ uu m e m := usc_six h2 (by omega) hpm.1 hpm.2.1 hs.1
  have b1 : uu m e (mnv m e) < 9223372036854775800 := (usc_range (lo := pmLo (pp m e)) hmn.2 hmn.1 hpm.1 hpm.2.1 hs.2 hs.1).2
  have b3 : uu m e m < 9223372036854775800 := (usc_range (lo := pmLo (pp m e)) h2 (by omega) hpm.1 hpm.2.1 hs.2 hs.1).2
  have hdm : 2 ≤ dmn m e := by unfold dmn; omega
  have hdm2 : dmn m e < 4611686018427387904 := by unfold dmn odd; omega
  have hr3 : 1 ≤ rnd (uu m e m) ∧ rnd (uu m e m) < 4611686018427387904 := by unfold rnd; omega
  have hmx : mxv m e < 18446744073709551616 * 2 := by unfold mxv; omega
  have hpr := hp
  unfold shD shP
  by_cases c1 : dmn m e ≤ dmx m e / 10 * 10
  · rw [if_pos c1, if_pos c1]
    refine ⟨?_, ?_, ?_, ?_⟩
    · omega
    · have b2 : uu m e (mxv m e) < 18446744073709551616 * 2 := by
        unfold uu usc
        have u1 : mxv m e * pmHi (pp m e) < 18446744073709551616 * 2 * 18446744073709551616 := Nat.mul_lt_mul'' hmx hpm.1
        have hq : mxv m e * pmHi (pp m e) / 18446744073709551616 < 18446744073709551616 * 2 := by omega
        generalize mxv m e * pmHi (pp m e) / 18446744073709551616 = hh at *
        have p5 : 2 ^ 1 ≤ 2 ^ sft m e := Nat.pow_le_pow_right (by omega) (by omega)
        have key : ∀ a, a < 18446744073709551616 * 2 → ∀ b, stk (a / 2 ^ sft m e) b < 18446744073709551616 * 2 := by
          intro a ha b
          have := stk_le (a / 2 ^ sft m e) b
          have l1 : a / 2 ^ sft m e ≤ a / 2 ^ 1 := Nat.div_le_div_left p5 (by decide)
          omega
        by_cases hr : hh % 2 ^ sft m e ≠ 0
        · simp only [if_pos hr]
          exact key _ hq _
        · simp only [if_neg hr]
          refine key _ ?_ _
          split <;> omega
      unfold dmx; omega
    · show -350 ≤ 1 - pp m e; omega
    · show 1 - pp m e ≤ 350; omega
  · rw [if_neg c1, if_neg c1]
    split
    · exact ⟨hr3.1, by omega, by omega, by omega⟩
    · exact ⟨by omega, by omega, by omega, by omega⟩

theorem trim_pos : ∀ (n u : Nat), u ≠ 0 → u < 10 ^ n → 1 ≤ trimN u n := by
  intro n
  induction n with
  | zero => intro u h0 h; simp at h; exact absurd h h0
  | succ n ih =>
    intro u h0 h
    rw [trimN_succ]
    split
    · refine ih _ ?_ ?_
      · omega
      · rw [Nat.pow_succ] at h; omega
    · omega
theorem dd_pos {u : Nat} (h : Ok (mm u) (ee u)) : 1 ≤ dd u ∧ dd u < 18446744073709551616 ∧ -350 ≤ pq u ∧ pq u ≤ 350 := by
  have h1 := sh_pos h
  have e1 : dd u = shD (mm u) (ee u) := rfl
  have e2 : pq u = shP (mm u) (ee u) := rfl
  rw [← e1, ← e2] at h1
  exact h1
theorem text_some {u : Nat} (hm : Sm.mant u ≠ 0) : textF u = fmtG (Sm.isNeg u) (digs u) (Lib.nDigits (dd u) + pq u) := by unfold textF; rw [if_neg hm]
theorem pq_sum {u : Nat} (h : Ok (mm u) (ee u)) (hn : Lib.nDigits (dd u) ≤ 20) : -1000 ≤ pq u ∧ pq u ≤ 1000 ∧ -400 ≤ (Lib.nDigits (dd u) : Int) + pq u ∧ (Lib.nDigits (dd u) : Int) + pq u ≤ 400 := by
  have h1 := dd_pos h
  generalize pq u = p at *
  generalize Lib.nDigits (dd u) = n at *
  omega
end Go.Proofs.YtemjlkmlodmmfaaGreatDoor.Us
