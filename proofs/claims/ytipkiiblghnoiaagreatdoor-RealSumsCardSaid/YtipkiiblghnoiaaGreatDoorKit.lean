/- Small words that the contracts share: what a call may have turned; blocks known whole; floats in cells. By an AI agent. -/
import Derived.Test.YtipkiiblghnoiaaGreatDoorLaw
import Derived.WalkKit
import Derived.ProofKit
import Derived.OpenShut
import Derived.WalkLawsBesides
import Derived.Outline
import Derived.Handy
import Derived.Deep.QuietTactic
import Derived.BigQuiet
import Derived.Lib.Hide
import Derived.RegionCalls
import Derived.Deep.RegionWith
import Derived.Deep.RegionHeld3
import Derived.Deep.DeepCutAuto
import Derived.Deep.CutBlock
import Derived.Deep.LoopGhost
import Derived.StillTailTactics
import Derived.Maps.AppendAt
namespace Go.Proofs.YtipkiiblghnoiaaGreatDoor
open Go.ChangeShapes Go.WideShapes Go.ChangeAt Go.RowKit
set_option linter.unusedVariables false

@[go_sem] theorem run_store_float (P : Program) (w : World) (a : Addr) (m : Mode) (k : FloatKind) (b : Nat) : (store a (.float k b) m).run P w = stored P w a (.float k b) m := run_store P w a _ m rfl

theorem ext_bits (x : Nat) (w : World) : (callFunc 50 #[.float .f64 x]).run Tryz.prog w = .ok (.value (.int .u64 x)) w := by kernel_rfl
theorem ext_from (x : Int) (w : World) : (callFunc 20 #[.int .u64 x]).run Tryz.prog w = .ok (.value (.float .f64 x.toNat)) w := by kernel_rfl

/-! ### what a call may have turned -/
/-- Of what was there only the blocks in 'bs' may have turned. -/
structure Keep (bs : Nat → Prop) (w w' : World) : Prop where
  os : w'.os = w.os
  tape : w'.tape = w.tape
  output : w'.output = w.output
  size : w.heap.size ≤ w'.heap.size
  block : ∀ k, k < w.heap.size → ¬ bs k → w'.heap[k]? = w.heap[k]?

theorem Keep.refl (bs : Nat → Prop) (w : World) : Keep bs w w := ⟨rfl, rfl, rfl, Nat.le_refl _, fun _ _ _ => rfl⟩
theorem Keep.trans {bs : Nat → Prop} {a b c : World} (h : Keep bs a b) (k : Keep bs b c) : Keep bs a c :=
  ⟨k.os.trans h.os, k.tape.trans h.tape, k.output.trans h.output, Nat.le_trans h.size k.size, fun i hi hn => (k.block i (Nat.lt_of_lt_of_le hi h.size) hn).trans (h.block i hi hn)⟩
theorem Keep.mono {bs cs : Nat → Prop} {w w' : World} (h : Keep bs w w') (hs : ∀ k, k < w.heap.size → bs k → cs k) : Keep cs w w' :=
  ⟨h.os, h.tape, h.output, h.size, fun k hk hn => h.block k hk fun hb => hn (hs k hk hb)⟩
theorem Keep.drewN {bs : Nat → Prop} {a w : World} (h : Keep bs a w) (n : Nat) : Keep bs a (w.drewN n) := h.trans ⟨rfl, rfl, rfl, Nat.le_refl _, fun _ _ _ => rfl⟩
theorem Keep.drew {bs : Nat → Prop} {a w : World} (h : Keep bs a w) : Keep bs a w.drew := h.trans ⟨rfl, rfl, rfl, Nat.le_refl _, fun _ _ _ => rfl⟩
theorem Keep.alloc {bs : Nat → Prop} {a w : World} (h : Keep bs a w) (o : Obj) : Keep bs a (w.alloc o) :=
  h.trans ⟨rfl, rfl, rfl, by simp, fun k hk _ => Below.heap_alloc _ _ _ hk⟩
theorem Keep.setCell {bs : Nat → Prop} {a w : World} (h : Keep bs a w) {p : Addr} (hp : bs p.block ∨ a.heap.size ≤ p.block) (u : Value) : Keep bs a (w.setCell p u) :=
  ⟨h.os, h.tape, h.output, by have := h.size; simpa [World.setCell] using this, fun k hk hn => (Below.heap_setCell _ _ _ _ (by rcases hp with hp | hp; (intro e; subst e; exact hn hp); omega)).trans (h.block k hk hn)⟩
theorem Keep.none {w w' : World} (h : Keep (fun _ => False) w w') : Below w.heap.size w w' := ⟨h.os, h.tape, h.output, h.size, fun k hk => h.block k hk id⟩
theorem Keep.below {bs : Nat → Prop} {B : Nat} {w w' : World} (h : Keep bs w w') (hB : B ≤ w.heap.size) (hs : ∀ k, bs k → B ≤ k) : Below B w w' :=
  ⟨h.os, h.tape, h.output, h.size, fun k hk => h.block k (by omega) fun hb => by have := hs k hb; omega⟩
theorem Keep.of_below {w w' : World} (h : Below w.heap.size w w') : Keep (fun _ => False) w w' := ⟨h.os, h.tape, h.output, h.size, fun k hk _ => h.block k hk⟩
theorem Keep.same {bs : Nat → Prop} {w w' : World} (h : Keep bs w w') {b : Nat} {o : Obj} (hb : w.heap[b]? = some o) (hn : ¬ bs b) : w'.heap[b]? = some o :=
  (h.block b (lt_of_block hb) hn).trans hb
theorem Keep.cell {bs : Nat → Prop} {w w' : World} (h : Keep bs w w') {p : Addr} (hp : p.block < w.heap.size) (hn : ¬ bs p.block) : w'.cell? p = w.cell? p := World.cell?_of_block (w := w) (h.block p.block hp hn)
theorem Keep.frozen {bs : Nat → Prop} {w w' : World} (h : Keep bs w w') {p : Addr} (hp : p.block < w.heap.size) (hn : ¬ bs p.block) : w'.frozen? p = w.frozen? p := World.frozen?_of_block (w := w) (h.block p.block hp hn)

/-- A block known whole: its cells; that they may be written; what it is behind a store. -/
theorem blk_cell {w : World} {b : Nat} {c : Array Value} {t : TypeId} (h : w.heap[b]? = some (.cells c t (0, 0))) (i : Nat) : w.cell? ⟨b, i, none⟩ = c[i]? := by simp [World.cell?, h]
theorem blk_free {w : World} {b : Nat} {c : Array Value} {t : TypeId} (h : w.heap[b]? = some (.cells c t (0, 0))) (i : Nat) : w.frozen? ⟨b, i, none⟩ = false := by simp [World.frozen?, h]
theorem blk_set {w : World} {b : Nat} {c : Array Value} {t : TypeId} (h : w.heap[b]? = some (.cells c t (0, 0))) (i : Nat) (u : Value) : (w.setCell ⟨b, i, none⟩ u).heap[b]? = some (.cells (c.setIfInBounds i u) t (0, 0)) := by
  have hlt := lt_of_block h
  have h' : w.heap[b] = .cells c t (0, 0) := by simpa [Array.getElem?_eq_getElem hlt] using h
  show (w.heap.modify b _)[b]? = _
  rw [Array.getElem?_eq_getElem (by simpa using hlt), Array.getElem_modify_self, h']
  rfl
theorem blk_new (w : World) (o : Obj) : (w.alloc o).heap[w.heap.size]? = some o := by
  show (w.heap.push o)[w.heap.size]? = _
  simp
theorem blk_alloc {w : World} {b : Nat} {x : Obj} (h : w.heap[b]? = some x) (o : Obj) : (w.alloc o).heap[b]? = some x := by
  rw [Below.heap_alloc _ _ _ (lt_of_block h)]; exact h

theorem blk_new_at (w : World) (o : Obj) {n : Nat} (h : w.heap.size = n) : (w.alloc o).heap[n]? = some o := by subst h; exact blk_new w o

/-- A new block of the call's own. -/
def NewAt (c : Array Value) (t : TypeId) (w : World) (e : Ending) (w' : World) : Prop :=
  ∃ b, e = .returned (.tuple #[.pointer (some ⟨b, 0, none⟩), .int .i64 0]) ∧ w.heap.size ≤ b ∧ w'.heap[b]? = some (.cells c t (0, 0)) ∧ Keep (fun _ => False) w w'

theorem past {w : World} {b i : Nat} {v : Value} (hz : b < w.heap.size) (h : w.cell? ⟨b, i, none⟩ = some v) (o : Obj) : (w.alloc o).cell? ⟨b, i, none⟩ = some v := by
  rw [World.cell?_alloc_past _ _ _ hz]; exact h

/-- What turned was the call's own. -/
theorem Keep.own {bs cs : Nat → Prop} {a b c : World} (h : Keep cs a b) (k : Keep bs b c) (hb : ∀ i, bs i → cs i ∨ a.heap.size ≤ i) : Keep cs a c :=
  ⟨k.os.trans h.os, k.tape.trans h.tape, k.output.trans h.output, Nat.le_trans h.size k.size, fun i hi hn => (k.block i (Nat.lt_of_lt_of_le hi h.size) (fun hx => by rcases hb i hx with h1 | h1; (exact hn h1); omega)).trans (h.block i hi hn)⟩

/-- 'append' of one value: the new slice is written out. -/
theorem wpList_append_one {P : Program} (w : World) {ops : Array Oper} {rest : List Oper} {o : Oper} {a : Act} {Q : Exit → Act → World → Prop} (hgd : o.guard = none) (s x : Operand) (t : TypeId)
    (ho : o.op = .call { callee := .builtin .append, args := #[s, x], argTypes := #[t, t] })
    (base : Nat) (e : TypeId) (i : TypeInfo) (z : Value) (bytes : Nat) (ht : P.underlying t = some (.slice e)) (hi : P.info? e = some i) (hz : i.zero = some z)
    (hsize : i.size = 1) (hby : i.bytes = bytes) (hzs : z.cells.size = 1)
    (v : Value) (n : Nat) (xs : List Value) (hs : a.eval s = v) (hown : w.ownsRow base e 1 v n xs)
    (ad : Addr) (c : Nat) (u : Value) (hx : a.eval x = .slice (some ad) 1 c) (hu : w.cell? ad = some u) (h1 : u.oneCell' = true)
    (h63 : n + 1 ≤ maxLen) (hbytes : (n + 1) * bytes ≤ 140737488355328) (hbase : base ≤ w.heap.size)
    (h : ∀ g cap w', w'.ownsRow base e 1 (.slice (some ⟨g, 0, none⟩) (n + 1) cap) (n + 1) (xs ++ [u]) → w.grownBy w' v.ownBlock → (v.ownBlock = some g ∨ g = w.heap.size) → base ≤ g → wpList P ops Q rest (a.put o.dst (.slice (some ⟨g, 0, none⟩) (n + 1) cap)) w') :
    wpList P ops Q (o :: rest) a w := by
  refine wpList_append_own_at (P := P) w hgd s x t ho base e i z 1 bytes ht hi hz hsize hby hzs (by omega) v n xs hs hown ad 1 c [u] hx rfl ?_ ?_ h63 hbytes hbase ?_
  · intro j u' hj
    cases j with
    | zero => simp at hj; subst hj; exact hu
    | succ j => simp at hj
  · intro u' hu'; simp at hu'; subst hu'; exact h1
  · intro v' w' h2 h3 _ h5
    rcases h2.2 with ⟨-, hz0⟩ | ⟨g, cap, cells, hv, hg, -⟩
    · omega
    · subst hv
      refine h g cap w' h2 h3 ?_ hg
      rcases h5 with h5 | h5
      · exact Or.inl (by rw [← h5]; rfl)
      · exact Or.inr (by simpa [Value.ownBlock] using h5)

theorem set_other {w : World} {p q : Addr} {u v : Value} (h : p ≠ q) (hc : w.cell? q = some v) : (w.setCell p u).cell? q = some v := by
  rw [World.cell?_setCell_other (h := h)]; exact hc
theorem set_same {w : World} {p : Addr} {u v : Value} (hc : w.cell? p = some v) : (w.setCell p u).cell? p = some u := World.cell?_setCell_same w p u hc
theorem set_free {w : World} {p q : Addr} {u : Value} (hc : w.frozen? q = false) : (w.setCell p u).frozen? q = false := by
  rw [World.frozen?_setCell]; exact hc
theorem keep_keep {w w' : World} (h : Keep (fun _ => False) w w') {b : Nat} {o : Obj} (hb : w.heap[b]? = some o) : w'.heap[b]? = some o := h.same hb id
theorem Keep.grown {bs : Nat → Prop} {a w w' : World} {row : Option Nat} (h : Keep bs a w) (hg : w.grownBy w' row) (hr : ∀ k, row = some k → bs k ∨ a.heap.size ≤ k) : Keep bs a w' :=
  ⟨hg.os.trans h.os, hg.tape.trans h.tape, hg.output.trans h.output, Nat.le_trans h.size hg.size, fun k hk hn => (hg.block k (by have := h.size; omega) (fun e => by rcases hr k e.symm with h1 | h1; (exact hn h1); omega)).trans (h.block k hk hn)⟩

end Go.Proofs.YtipkiiblghnoiaaGreatDoor
