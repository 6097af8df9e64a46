/- Bytes put behind a row of the call's own, a buffer beside it; the text of a number, plainly. By an AI agent. -/
import Derived.Test.YtipkiiblghnoiaaGreatDoorFtD
import Derived.Test.YtipkiiblghnoiaaGreatDoorApp
namespace Go.Proofs.YtipkiiblghnoiaaGreatDoor.Us
set_option linter.unusedVariables false
/-- The exponent's text. -/
def expT (e : Int) : List Nat :=
  (if e < 0 then 45 else 43) :: (if e.natAbs < 10 then [48, e.natAbs + 48] else if e.natAbs < 100 then [e.natAbs / 10 + 48, e.natAbs % 10 + 48] else [e.natAbs / 100 + 48, e.natAbs / 10 % 10 + 48, e.natAbs % 10 + 48])
def fmtE (D : List Nat) (dp : Int) : List Nat := D.take 1 ++ (if 1 < D.length then 46 :: D.drop 1 else []) ++ 101 :: expT (dp - 1)
def fmtF (D : List Nat) (dp : Int) : List Nat :=
  if 0 < dp then D.take dp.toNat ++ List.replicate (dp.toNat - D.length) 48 ++ (if dp.toNat < D.length then 46 :: D.drop dp.toNat else [])
  else 48 :: 46 :: List.replicate (-dp).toNat 48 ++ D
/-- The text of a number with the digits D (none: nought), the point behind dp of them. -/
def fmtG (neg : Bool) (D : List Nat) (dp : Int) : List Nat :=
  (if neg then [45] else []) ++ (if D = [] then [48] else if dp - 1 < -4 ∨ 6 ≤ dp - 1 then fmtE D dp else fmtF D dp)
end Go.Proofs.YtipkiiblghnoiaaGreatDoor.Us
namespace Go.Proofs.YtipkiiblghnoiaaGreatDoor
open Go.ChangeShapes Go.WideShapes Go.ChangeAt Go.RowKit
open Bt
set_option linter.unusedVariables false

/-- A row of bytes of the call's own, as it grows; the block b is as it was. -/
structure Bu (W : World) (base b : Nat) (v : Value) (B : List Nat) (w : World) : Prop where
  own : w.ownsRow base 5 1 v B.length (u8s B)
  apart : v.ownBlock ≠ some b
  below : Below base W w
  base : base ≤ W.heap.size
  lt : b < W.heap.size
  cell : ∀ t, w.cell? ⟨b, t, none⟩ = W.cell? ⟨b, t, none⟩
theorem Bu.size {W w : World} {base b : Nat} {v : Value} {B : List Nat} (h : Bu W base b v B w) : W.heap.size ≤ w.heap.size := h.below.size
theorem Bu.drewN {W w : World} {base b : Nat} {v : Value} {B : List Nat} (h : Bu W base b v B w) (n : Nat) : Bu W base b v B (w.drewN n) := ⟨h.own, h.apart, below_drewN h.below n, h.base, h.lt, h.cell⟩
theorem Bu.alloc {W w : World} {base b : Nat} {v : Value} {B : List Nat} (h : Bu W base b v B w) (o : Obj) : Bu W base b v B (w.alloc o) :=
  ⟨h.own.alloc _, h.apart, h.below.alloc (Nat.le_trans h.base h.size) _, h.base, h.lt, fun t => by rw [World.cell?_alloc_past _ _ _ (Nat.lt_of_lt_of_le h.lt h.size)]; exact h.cell t⟩
theorem Bu.grown {W w w' : World} {base b : Nat} {v v' : Value} {B B' : List Nat} (h : Bu W base b v B w) (hown : w'.ownsRow base 5 1 v' B'.length (u8s B')) (hg : w.grownBy w' v.ownBlock) (hv : v'.ownBlock = v.ownBlock ∨ v'.ownBlock = some w.heap.size) : Bu W base b v' B' w' := by
  have hlt := Nat.lt_of_lt_of_le h.lt h.size
  refine ⟨hown, ?_, h.below.grown hg (Nat.le_trans h.base h.size) (fun k hk => (h.own.lt k hk).1), h.base, h.lt, fun t => ?_⟩
  · rcases hv with hv | hv
    · rw [hv]; exact h.apart
    · rw [hv]; intro e; injection e with e; omega
  · rw [← h.cell t]
    exact World.cell?_of_block (hg.block b hlt (fun e => h.apart e.symm))

theorem info8 : ∃ i, Tryz.prog.info? 5 = some i ∧ i.zero = some (.int .u8 0) ∧ i.size = 1 ∧ i.bytes = 1 := by
  obtain ⟨i0, hi, hz0, hz1, hz2⟩ := info_parts info_u8
  exact ⟨i0, hi, hz0, hz1, hz2⟩

/-- One byte more. -/
theorem put_one {W w : World} {base b : Nat} {v : Value} {B : List Nat} (hI : Bu W base b v B w) (hl : B.length ≤ 100000) {o' : Obj} (z : Int) (u : Nat) (hc : (w.alloc o').cell? ⟨w.heap.size, 0, none⟩ = some (.int .u8 z)) (hu : z = (u : Int))
    {ops : Array Oper} {rest : List Oper} {o : Oper} {a : Act} {Q : Exit → Act → World → Prop} (hgd : o.guard = none) (s x : Operand)
    (ho : o.op = .call { callee := .builtin .append, args := #[s, x], argTypes := #[96, 96] }) (hs : a.eval s = v) (hx : a.eval x = .slice (some ⟨w.heap.size, 0, none⟩) 1 1)
    (h : ∀ v' w', Bu W base b v' (B ++ [u]) w' → wpList Tryz.prog ops Q rest (a.put o.dst v') w') :
    wpList Tryz.prog ops Q (o :: rest) a (w.alloc o') := by
  subst hu
  obtain ⟨i0, hi, hz0, hz1, hz2⟩ := info8
  have hA := hI.alloc o'
  refine wpList_append_one (w.alloc o') hgd s x 96 ho base 5 i0 (.int .u8 0) 1 Tryz.underlying96 hi hz0 hz1 hz2 rfl v B.length _ hs hA.own ⟨w.heap.size, 0, none⟩ 1 (.int .u8 (u : Int)) hx hc rfl ?_ ?_ (Nat.le_trans hA.base hA.size) ?_
  · unfold maxLen; omega
  · omega
  · intro g cap w' hown hg hv hge
    refine h _ w' (hA.grown (B' := B ++ [u]) ?_ hg ?_)
    · rw [u8s_append, List.length_append]; exact hown
    · rcases hv with hv | hv
      · exact Or.inl hv.symm
      · right; show some g = _; rw [hv]

/-- Bytes more, of the buffer. -/
theorem put_cells {W w : World} {base b : Nat} {v : Value} {B : List Nat} (hI : Bu W base b v B w) (hl : B.length ≤ 100000) (off : Nat) (C : List Nat) (hC : ∀ t, t < C.length → W.cell? ⟨b, off + t, none⟩ = some (.int .u8 (C.getD t 0 : Nat))) (hn : C.length ≤ 100000) (m cap : Nat) (hm : C.length = m)
    {ops : Array Oper} {rest : List Oper} {o : Oper} {a : Act} {Q : Exit → Act → World → Prop} (hgd : o.guard = none) (s x : Operand)
    (ho : o.op = .call { callee := .builtin .append, args := #[s, x], argTypes := #[96, 96] }) (hs : a.eval s = v) (hx : a.eval x = .slice (some ⟨b, off, none⟩) m cap)
    (h : ∀ v' w', Bu W base b v' (B ++ C) w' → wpList Tryz.prog ops Q rest (a.put o.dst v') w') :
    wpList Tryz.prog ops Q (o :: rest) a w := by
  subst hm
  obtain ⟨i0, hi, hz0, hz1, hz2⟩ := info8
  refine wpList_append_sl w hgd s x 96 ho base 5 i0 (.int .u8 0) 1 Tryz.underlying96 hi hz0 hz1 hz2 rfl v B.length _ hs hI.own (some ⟨b, off, none⟩) C.length cap (u8s C) hx (u8s_length C) ?_ ?_ (fun e => by cases e) ?_ ?_ (Nat.le_trans hI.base hI.size) ?_
  · intro j u hj
    have hlt : j < C.length := by rw [← u8s_length C]; exact (List.getElem?_eq_some_iff.1 hj).1
    rw [u8s_get C j hlt] at hj
    cases hj
    refine ⟨_, rfl, ?_⟩
    rw [addr_add, hI.cell]
    exact hC j hlt
  · intro u hu
    obtain ⟨n, -, rfl⟩ := List.mem_map.1 hu
    rfl
  · unfold maxLen; omega
  · omega
  · intro v' w' hown hg hv
    refine h v' w' (hI.grown (B' := B ++ C) ?_ hg hv)
    rw [u8s_append, List.length_append]; exact hown

/-- Some bytes more, out of a new row. -/
theorem put_new {W w : World} {base b : Nat} {v : Value} {B : List Nat} (hI : Bu W base b v B w) (hl : B.length ≤ 100000) {o' : Obj} (C : List Nat) (hC : ∀ t, t < C.length → (w.alloc o').cell? ⟨w.heap.size, t, none⟩ = some (.int .u8 (C.getD t 0 : Nat))) (hn : C.length ≤ 100)
    {ops : Array Oper} {rest : List Oper} {o : Oper} {a : Act} {Q : Exit → Act → World → Prop} (hgd : o.guard = none) (s x : Operand)
    (ho : o.op = .call { callee := .builtin .append, args := #[s, x], argTypes := #[96, 96] }) (hs : a.eval s = v) (hx : a.eval x = .slice (some ⟨w.heap.size, 0, none⟩) C.length C.length)
    (h : ∀ v' w', Bu W base b v' (B ++ C) w' → wpList Tryz.prog ops Q rest (a.put o.dst v') w') :
    wpList Tryz.prog ops Q (o :: rest) a (w.alloc o') := by
  obtain ⟨i0, hi, hz0, hz1, hz2⟩ := info8
  have hA := hI.alloc o'
  refine wpList_append_sl (w.alloc o') hgd s x 96 ho base 5 i0 (.int .u8 0) 1 Tryz.underlying96 hi hz0 hz1 hz2 rfl v B.length _ hs hA.own (some ⟨w.heap.size, 0, none⟩) C.length C.length (u8s C) hx (u8s_length C) ?_ ?_ (fun e => by cases e) ?_ ?_ (Nat.le_trans hA.base hA.size) ?_
  · intro j u hj
    have hlt : j < C.length := by rw [← u8s_length C]; exact (List.getElem?_eq_some_iff.1 hj).1
    rw [u8s_get C j hlt] at hj
    cases hj
    refine ⟨_, rfl, ?_⟩
    rw [addr_add, Nat.zero_add]
    exact hC j hlt
  · intro u hu
    obtain ⟨n, -, rfl⟩ := List.mem_map.1 hu
    rfl
  · unfold maxLen; omega
  · omega
  · intro v' w' hown hg hv
    refine h v' w' (hA.grown (B' := B ++ C) ?_ hg hv)
    rw [u8s_append, List.length_append]; exact hown
theorem new_two (w : World) (x y : Nat) (t : TypeId) : ∀ j, j < [x, y].length → (w.alloc (.cells #[.int .u8 (x : Int), .int .u8 (y : Int)] t)).cell? ⟨w.heap.size, j, none⟩ = some (.int .u8 ([x, y].getD j 0 : Nat)) := by
  intro j hj
  rw [blk_cell (blk_new w _) j]
  match j, hj with
  | 0, _ => rfl
  | 1, _ => rfl
theorem new_three (w : World) (x y z : Nat) (t : TypeId) : ∀ j, j < [x, y, z].length → (w.alloc (.cells #[.int .u8 (x : Int), .int .u8 (y : Int), .int .u8 (z : Int)] t)).cell? ⟨w.heap.size, j, none⟩ = some (.int .u8 ([x, y, z].getD j 0 : Nat)) := by
  intro j hj
  rw [blk_cell (blk_new w _) j]
  match j, hj with
  | 0, _ => rfl
  | 1, _ => rfl
  | 2, _ => rfl
end Go.Proofs.YtipkiiblghnoiaaGreatDoor
