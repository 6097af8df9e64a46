/- What the real numbers' texts share: bytes and floats in rows; flumelaw3.Of. By an AI agent. -/
import Derived.Test.YtipkiiblghnoiabGreatDoorKit
import Derived.Test.YtipkiiblghnoiabGreatDoorBits
import Derived.BigRegion
import Derived.Laws.BitsAllLaws
import Derived.Laws.Bits64
import Derived.WalkSpells
import Derived.Deep.AppendLies
import Derived.Deep.DeepMust
namespace Go.Proofs.YtipkiiblghnoiabGreatDoor
open Go.ChangeShapes Go.WideShapes Go.ChangeAt Go.RowKit
open Bt
set_option linter.unusedVariables false

/-- Bytes as cells. -/
def u8s (B : List Nat) : List Value := B.map fun n : Nat => Value.int .u8 (n : Int)
theorem u8s_length (B : List Nat) : (u8s B).length = B.length := by simp [u8s]
theorem u8s_append (A B : List Nat) : u8s (A ++ B) = u8s A ++ u8s B := by simp [u8s]
theorem u8s_get (B : List Nat) (i : Nat) (h : i < B.length) : (u8s B)[i]? = some (.int .u8 (B.getD i 0 : Nat)) := by
  simp [u8s, List.getD_eq_getElem?_getD, h]
theorem info_u8 : (Tryz.prog.info? 5).map (fun i => (i.zero, i.size, i.bytes)) = some (some (.int .u8 0), 1, 1) := by kernel_rfl

/-- A row of bytes of the call's own. -/
def Row (base : Nat) (B : List Nat) (w : World) (e : Ending) (w' : World) : Prop :=
  ∃ v, e = .returned v ∧ w'.ownsRow base 5 1 v B.length (u8s B) ∧ Below base w w'
theorem nil_row (w : World) (base : Nat) (e : TypeId) : w.ownsRow base e 1 (.slice none 0 0) 0 [] := ⟨rfl, Or.inl ⟨rfl, rfl⟩⟩

theorem cell_in {w : World} {a : Addr} {v : Value} (h : w.cell? a = some v) : a.block < w.heap.size := by
  refine Nat.lt_of_not_le fun hh => ?_
  unfold World.cell? at h
  rw [Array.getElem?_eq_none hh] at h
  simp at h

/-- A slice of floats, by their bits. -/
def Fls (w : World) (o : Option Addr) (us : List Nat) : Prop := ∀ i, i < us.length → ∃ ad, o = some ad ∧ w.cell? (ad.add i) = some (.float .f64 (us.getD i 0))

/-- Floats as cells. -/
def f64s (us : List Nat) : List Value := us.map fun u => Value.float .f64 u
theorem f64s_length (us : List Nat) : (f64s us).length = us.length := by simp [f64s]
theorem f64s_get (us : List Nat) (i : Nat) (h : i < us.length) : (f64s us)[i]? = some (.float .f64 (us.getD i 0)) := by
  simp [f64s, List.getD_eq_getElem?_getD, h]

theorem info_f64 : (Tryz.prog.info? 24).map (fun i => (i.zero, i.size, i.bytes)) = some (some (.float .f64 0), 1, 8) := by kernel_rfl

/-- A row of floats of somebody's own, as a slice. -/
theorem fls_of {w : World} {base : Nat} {v : Value} {us : List Nat} (h : w.ownsRow base 24 1 v us.length (f64s us)) : ∃ o cap, v = .slice o us.length cap ∧ Fls w o us := by
  rcases h.2 with ⟨h1, h2⟩ | ⟨g, cap, cells, rfl, -⟩
  · refine ⟨none, 0, by rw [h1, h2], fun i hi => absurd hi (by omega)⟩
  · refine ⟨_, cap, rfl, fun i hi => ⟨_, rfl, ?_⟩⟩
    exact h.cells rfl i _ (f64s_get us i hi)

/-- A slice of whole numbers. -/
def U64s (w : World) (o : Option Addr) (us : List Nat) : Prop := ∀ i, i < us.length → ∃ ad, o = some ad ∧ w.cell? (ad.add i) = some (.int .u64 (us.getD i 0 : Nat))

theorem take_succ_getD (us : List Nat) (i : Nat) (h : i < us.length) : us.take (i + 1) = us.take i ++ [us.getD i 0] := by
  rw [List.take_succ_eq_append_getElem h, List.getD_eq_getElem?_getD, List.getElem?_eq_getElem h]; rfl

end Go.Proofs.YtipkiiblghnoiabGreatDoor
