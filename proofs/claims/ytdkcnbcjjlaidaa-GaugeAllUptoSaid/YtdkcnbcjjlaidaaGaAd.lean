/- The reference's gauge turned; float operations by one law each. By an AI agent. -/
import Derived.Test.YtdkcnbcjjlaidaaGaAc
import Derived.Test.YtdkcnbcjjlaidaaGauP
import Derived.Test.YtdkcnbcjjlaidaaGauS
namespace Go.Proofs.Ytdkcnbcjjlaidaa
open Go.ChangeShapes Go.WideShapes Go.ChangeAt Go.RowKit
set_option linter.unusedVariables false

theorem RAt.turn {w w' : World} {g base : Nat} {ob : Option Addr} {cb c : Nat} {x x' : G} (h : RAt w g base ob cb c x) (k : Keep (· = g) w w') (hr : w'.heap[g]? = some (.cells (rcells ob cb c x') 69 (0, 0))) (hbs : x'.bs = x.bs) (hcs : x'.cs = x.cs) (h1 : x'.le < 2 ^ 64) (h2 : x'.gr < 2 ^ 64) : RAt w' g base ob cb c x' where
  row := hr
  fls := by rw [hbs]; exact fls_keep' h.fls k (fun ad e => (h.apart ad e).2.1)
  cls := by rw [hcs]; exact k.same h.cls (fun e => h.ne e.symm)
  gb := h.gb
  cbase := h.cbase
  ne := h.ne
  apart := h.apart
  len := by rw [hbs, hcs]; exact h.len
  lt := by rw [hbs]; exact h.lt
  le64 := h1
  gr64 := h2
theorem RAt.setC {w : World} {g base : Nat} {ob : Option Addr} {cb c : Nat} {x : G} (h : RAt w g base ob cb c x) (i : Nat) (v : Int) :
    RAt (w.setCell ⟨c, i, none⟩ (.int .i64 v)) g base ob cb c { x with cs := x.cs.set i v } ∧ Keep (· = c) w (w.setCell ⟨c, i, none⟩ (.int .i64 v)) := by
  have k := Keep.setCell (bs := (· = c)) (Keep.refl _ w) (p := ⟨c, i, none⟩) (Or.inl rfl) (.int .i64 v)
  refine ⟨⟨?_, fls_keep' h.fls k (fun ad e => (h.apart ad e).2.2), ?_, h.gb, h.cbase, h.ne, h.apart, by simp [h.len], h.lt, h.le64, h.gr64⟩, k⟩
  · have := k.same h.row h.ne
    simpa [rcells] using this
  · have := blk_set h.cls i (.int .i64 v)
    rw [i64s_set] at this
    exact this

/-- A float operation: its number, the world behind it. -/
def opW (op : BinOp) (a b : Nat) (w : World) : Nat × World := match floatBits op .f64 a b with
  | some r => (r, w)
  | none => (nanW a b w, w.drew)
theorem run_opW {op : BinOp} (hop : op = .add ∨ op = .sub ∨ op = .mul ∨ op = .quo) (P : Program) (t : TypeId) (a b : Nat) (w : World) :
    (binOp op t (.float .f64 a) (.float .f64 b)).run P w = .ok (.float .f64 (opW op a b w).1) (opW op a b w).2 := by
  unfold opW
  cases h : floatBits op .f64 a b with
  | some r => exact run_float_arith w op t .f64 a b r h
  | none => exact run_arith_nan hop P t a b h w
theorem opW_heap (op : BinOp) (a b : Nat) (w : World) : (opW op a b w).2.heap = w.heap := by
  unfold opW
  cases floatBits op .f64 a b <;> rfl
theorem opW_cell (op : BinOp) (a b : Nat) (w : World) (p : Addr) : (opW op a b w).2.cell? p = w.cell? p := by
  unfold opW
  cases floatBits op .f64 a b <;> rfl
theorem opW_frozen (op : BinOp) (a b : Nat) (w : World) (p : Addr) : (opW op a b w).2.frozen? p = w.frozen? p := by
  unfold opW
  cases floatBits op .f64 a b <;> rfl
theorem opW_keep (bs : Nat → Prop) (op : BinOp) (a b : Nat) (w : World) : Keep bs w (opW op a b w).2 := by
  unfold opW
  cases floatBits op .f64 a b
  · exact (Keep.refl _ w).drew
  · exact Keep.refl _ w
/-- Its number is the plain one, or both are NaNs. -/
theorem opW_val (op : BinOp) (a b : Nat) (w : World) : (opW op a b w).1 = opF op a b ∨ (Flt.nan (opW op a b w).1 = true ∧ Flt.nan (opF op a b) = true) := by
  unfold opW
  cases h : floatBits op .f64 a b with
  | some r => left; rw [opF_some h]
  | none => right; exact ⟨nanW_nan a b w, by rw [opF_none h]; exact nanC⟩

/-- The new mean, over whatever worlds. -/
theorem mean_chain (me v c : Nat) (w1 w2 w3 : World) : canonF (opW .add me (opW .quo (opW .sub v me w1).1 c w2).1 w3).1 = canonF (opF .add me (opF .quo (opF .sub v me) c)) := by
  have nanL : ∀ (op : BinOp) (a b : Nat) (w : World), Flt.nan a = true → Flt.nan (opW op a b w).1 = true := fun op a b w h => by
    unfold opW; rw [arith_nan (Or.inl h)]; exact nanW_nan a b w
  have nanR : ∀ (op : BinOp) (a b : Nat) (w : World), Flt.nan b = true → Flt.nan (opW op a b w).1 = true := fun op a b w h => by
    unfold opW; rw [arith_nan (Or.inr h)]; exact nanW_nan a b w
  have fL : ∀ (op : BinOp) (a b : Nat), Flt.nan a = true → Flt.nan (opF op a b) = true := fun op a b h => by rw [opF_none (arith_nan (Or.inl h))]; exact nanC
  have fR : ∀ (op : BinOp) (a b : Nat), Flt.nan b = true → Flt.nan (opF op a b) = true := fun op a b h => by rw [opF_none (arith_nan (Or.inr h))]; exact nanC
  have fin : ∀ a b : Nat, (a = b ∨ (Flt.nan a = true ∧ Flt.nan b = true)) → canonF a = canonF b := by
    intro a b h
    rcases h with rfl | ⟨h1, h2⟩
    · rfl
    · rw [canon_nan h1, canon_nan h2]
  apply fin
  rcases opW_val .sub v me w1 with h1 | ⟨h1, h1'⟩
  · rw [h1]
    rcases opW_val .quo (opF .sub v me) c w2 with h2 | ⟨h2, h2'⟩
    · rw [h2]
      exact opW_val .add me _ w3
    · exact Or.inr ⟨nanR _ _ _ _ h2, fR _ _ _ h2'⟩
  · exact Or.inr ⟨nanR _ _ _ _ (nanL _ _ _ _ h1), fR _ _ _ (fL _ _ _ h1')⟩
end Go.Proofs.Ytdkcnbcjjlaidaa
