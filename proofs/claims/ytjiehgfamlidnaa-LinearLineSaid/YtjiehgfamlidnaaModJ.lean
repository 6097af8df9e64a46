/- The model package: a copy is changed; what goes up is caught. By an AI agent. -/
import Derived.Test.YtjiehgfamlidnaaModI
import Derived.Laws.Tables
import Derived.Laws.Rows
namespace Go.Proofs.Ytjiehgfamlidnaa
open Go.ChangeShapes Go.WideShapes Go.ChangeAt Go.RowKit
set_option linter.unusedVariables false
namespace Md

def zS : S := ⟨0, 0, 0, 0, 0, false, false⟩
/-- The two results' variables. -/
def outAt (w : World) (b : Nat) (s : S) (rv : Value) : Prop := w.heap[b]? = some (.cells (cs s rv) 26 (0, 0))
def okAt (w : World) (b : Nat) (x : Bool) : Prop := w.heap[b]? = some (.cells #[.bool x] 4 (0, 0))

theorem cs_all (s : S) (o : Option Addr) (n c : Nat) : (cs s (.slice o n c)).all (·.oneCell') = true := by simp [cs, Value.oneCell']
theorem model_size : (Try.prog.info? 26).map (·.size) = some 8 := by kernel_rfl
theorem wpList_store_row {P : Program} {ops : Array Oper} {rest : List Oper} {o : Oper} {a : Act} {w : World} {Q : Exit → Act → World → Prop} (hgd : o.guard = none) (ty : TypeId) (x y : Operand) (ho : o.op = .store ty x y)
    (g : Nat) (cells : Array Value) (hx : a.eval x = .pointer (some ⟨g, 0, none⟩)) (hy : a.eval y = .agg cells)
    (t : TypeId) (old : Array Value) (hg : w.heap[g]? = some (.cells old t (0, 0))) (hi : (P.info? ty).map (·.size) = some cells.size)
    (hold : old.size = cells.size) (h1 : cells.all (·.oneCell') = true)
    (h : wpList P ops Q rest (a.put o.dst undef) (w.setRow g cells)) : wpList P ops Q (o :: rest) a w :=
  wpList_plain hgd fun _ hK => wp_store_row ty x y ho g cells hx hy t old hg hi hold h1 (hK _ _ h)
theorem store_guard {P : Program} {ops : Array Oper} {rest : List Oper} {o : Oper} {a : Act} {w : World} {Q : Exit → Act → World → Prop} (x y : Operand) (ty : TypeId) (ho : o.op = .store ty x y)
    (h : wpList P ops Q (o :: rest) a w) : wpList P ops Q (o :: rest) a w := h
theorem Keep.setRow {bs : Nat → Prop} {a w : World} (h : Keep bs a w) {g : Nat} (hg : bs g ∨ a.heap.size ≤ g) (c : Array Value) : Keep bs a (w.setRow g c) :=
  ⟨h.os, h.tape, h.output, by rw [size_setRow]; exact h.size, fun k hk hn => (setRow_other w g k c (by rcases hg with hg | hg; (intro e; subst e; exact hn hg); omega)).trans (h.block k hk hn)⟩

theorem assert_no (w : World) : (Instr.typeAssert (.iface 82 (.agg #[])) 20 82 true).run Try.prog w = .ok (.tuple #[.agg #[], .bool true]) w := by kernel_rfl

set_option maxRecDepth 100000 in
set_option maxHeartbeats 800000 in
theorem catch_any (bo bk : Nat) (s : S) (rv : Value) (x : Bool) (w : World) (ho : outAt w bo s rv) (hk : okAt w bk x) (hne : bk ≠ bo) :
    CallsD Try.prog 33 #[.pointer (some ⟨bo, 0, none⟩), .pointer (some ⟨bk, 0, none⟩)] (.panicking noP) w fun e u' w' =>
      e = .returned (.tuple #[]) ∧ u' = .panicking [{ v := .iface 82 (.agg #[]), recovered := true }] ∧ outAt w' bo zS (.slice none 0 0) ∧ okAt w' bk false ∧ Keep (fun b => b = bo ∨ b = bk) w w' := by
  refine callsD_of_wpS Try.func33 rfl fun c₀ fs hu => ?_
  unfold noP at hu
  apply wpS_seq
  apply wpS_region
  simp [wpOpsS, go_sem, recoverD, hu, Try.ntmps33, Exit.thenS]
  refine wpS_of_wp ?_
  have ta := assert_no
  change Code.wp _ _ _ { tmps := #[.pointer (some ⟨bo, 0, none⟩), .pointer (some ⟨bk, 0, none⟩), (.iface 82 (.agg #[])), undef, undef, (.iface 82 (.agg #[])), undef, undef, undef, undef, undef, undef, undef, undef, undef, undef, undef], defers := [] } w
  have ho2 := blk_alloc ho (.cells #[] 82)
  have hk2 := blk_alloc hk (.cells #[] 82)
  have HK0 := Lib.hid ((Keep.refl (fun b => b = bo ∨ b = bk) w).alloc (.cells #[] 82))
  have HO := Lib.hid (And.intro ho2 hk2)
  clear ho2 hk2 ho hk
  go_upto_region 5 with fail
  generalize w.alloc (.cells #[] 82) = w2 at *
  have hk3 : (w2.setRow bo (cs zS (.slice none 0 0))).heap[bk]? = some (.cells #[.bool x] 4 (0, 0)) := (setRow_other w2 bo bk _ hne).trans HO.out.2
  have k0 := blk_cell hk3 0
  have kz := blk_free hk3 0
  simp at k0
  have HL := Lib.hid hk3
  clear hk3
  go_wp2_with (refine store_guard (.tmp 0) (.tmp 16) 26 (by rfl) ?_; go_must (refine wpList_store_row rfl 26 (.tmp 0) (.tmp 16) rfl bo (cs zS (.slice none 0 0)) rfl rfl 26 (cs s rv) HO.out.1 model_size rfl (cs_all _ _ _ _) ?_))
  refine ⟨rfl, _, rfl, _, results_none rfl _ _ _, rfl, rfl, ?_, ?_, ?_⟩
  · show ((w2.setRow bo (cs zS (.slice none 0 0))).setCell ⟨bk, 0, none⟩ (.bool false)).heap[bo]? = _
    rw [Below.heap_setCell _ _ _ _ (fun e => hne e.symm)]
    exact setRow_heap w2 bo _ _ _ _ HO.out.1
  · exact blk_set HL.out 0 _
  · exact Keep.setCell (bs := fun b => b = bo ∨ b = bk) (Keep.setRow HK0.out (Or.inl (Or.inl rfl)) _) (p := ⟨bk, 0, none⟩) (Or.inl (Or.inr rfl)) _

theorem idle_any (p q : Addr) (w : World) :
    CallsD Try.prog 33 #[.pointer (some p), .pointer (some q)] .returning w fun e u' w' => e = .returned (.tuple #[]) ∧ u' = .returning ∧ w = w' := by
  refine callsD_of_wpS Try.func33 rfl fun c₀ fs hu => ?_
  apply wpS_seq
  apply wpS_region
  simp [wpOpsS, go_sem, recoverD, hu, Try.ntmps33, Exit.thenS]
  refine wpS_of_wp ?_
  change Code.wp _ _ _ { tmps := #[.pointer (some p), .pointer (some q), .nilIface, undef, undef, .nilIface, undef, undef, undef, undef, undef, undef, undef, undef, undef, undef, undef], defers := [] } w
  go_wp2_with fail
  cases c₀
  simp_all [bodyPostS, results, Try.results33]
end Md
end Go.Proofs.Ytjiehgfamlidnaa
