/- What the real numbers' texts share: bytes and floats in rows; flumelaw3.Of. By an AI agent. -/
import Derived.Test.YtipkiiblghnoiaaGreatDoorKit
import Derived.Test.YtipkiiblghnoiaaGreatDoorBits
import Derived.BigRegion
import Derived.Laws.BitsAllLaws
import Derived.Laws.Bits64
import Derived.WalkSpells
import Derived.Deep.AppendLies
import Derived.Deep.DeepMust
namespace Go.Proofs.YtipkiiblghnoiaaGreatDoor
open Go.ChangeShapes Go.WideShapes Go.ChangeAt Go.RowKit
open Bt
set_option linter.unusedVariables false

/-- Bytes as cells. -/
def u8s (B : List Nat) : List Value := B.map fun n : Nat => Value.int .u8 (n : Int)
theorem u8s_length (B : List Nat) : (u8s B).length = B.length := by simp [u8s]
theorem u8s_append (A B : List Nat) : u8s (A ++ B) = u8s A ++ u8s B := by simp [u8s]
theorem u8s_get (B : List Nat) (i : Nat) (h : i < B.length) : (u8s B)[i]? = some (.int .u8 (B.getD i 0 : Nat)) := by
  simp [u8s, List.getD_eq_getElem?_getD, h]
theorem info_u8 : (Tryz.prog.info? 5).map (fun i => (i.zero, i.size, i.bytes)) = some (some (.int .u8 0), 1, 1) := by kernel_rfl

/-- A row of bytes of the call's own. -/
def Row (base : Nat) (B : List Nat) (w : World) (e : Ending) (w' : World) : Prop :=
  ∃ v, e = .returned v ∧ w'.ownsRow base 5 1 v B.length (u8s B) ∧ Below base w w'
theorem nil_row (w : World) (base : Nat) (e : TypeId) : w.ownsRow base e 1 (.slice none 0 0) 0 [] := ⟨rfl, Or.inl ⟨rfl, rfl⟩⟩

theorem cell_in {w : World} {a : Addr} {v : Value} (h : w.cell? a = some v) : a.block < w.heap.size := by
  refine Nat.lt_of_not_le fun hh => ?_
  unfold World.cell? at h
  rw [Array.getElem?_eq_none hh] at h
  simp at h

/-- A slice of floats, by their bits. -/
def Fls (w : World) (o : Option Addr) (us : List Nat) : Prop := ∀ i, i < us.length → ∃ ad, o = some ad ∧ w.cell? (ad.add i) = some (.float .f64 (us.getD i 0))

/-- Floats as cells. -/
def f64s (us : List Nat) : List Value := us.map fun u => Value.float .f64 u
theorem f64s_length (us : List Nat) : (f64s us).length = us.length := by simp [f64s]
theorem f64s_get (us : List Nat) (i : Nat) (h : i < us.length) : (f64s us)[i]? = some (.float .f64 (us.getD i 0)) := by
  simp [f64s, List.getD_eq_getElem?_getD, h]

theorem info_f64 : (Tryz.prog.info? 26).map (fun i => (i.zero, i.size, i.bytes)) = some (some (.float .f64 0), 1, 8) := by kernel_rfl

/-- A row of floats of somebody's own, as a slice. -/
theorem fls_of {w : World} {base : Nat} {v : Value} {us : List Nat} (h : w.ownsRow base 26 1 v us.length (f64s us)) : ∃ o cap, v = .slice o us.length cap ∧ Fls w o us := by
  rcases h.2 with ⟨h1, h2⟩ | ⟨g, cap, cells, rfl, -⟩
  · refine ⟨none, 0, by rw [h1, h2], fun i hi => absurd hi (by omega)⟩
  · refine ⟨_, cap, rfl, fun i hi => ⟨_, rfl, ?_⟩⟩
    exact h.cells rfl i _ (f64s_get us i hi)

/-- A slice of whole numbers. -/
def U64s (w : World) (o : Option Addr) (us : List Nat) : Prop := ∀ i, i < us.length → ∃ ad, o = some ad ∧ w.cell? (ad.add i) = some (.int .u64 (us.getD i 0 : Nat))

theorem take_succ_getD (us : List Nat) (i : Nat) (h : i < us.length) : us.take (i + 1) = us.take i ++ [us.getD i 0] := by
  rw [List.take_succ_eq_append_getElem h, List.getD_eq_getElem?_getD, List.getElem?_eq_getElem h]; rfl

set_option maxRecDepth 100000 in
set_option maxHeartbeats 2000000 in
theorem of_any (o : Option Addr) (us : List Nat) (cap : Nat) (w : World) (hF : U64s w o us) (hn : us.length ≤ 2000000) :
    Calls Tryz.prog 10 #[.slice o us.length cap] w fun e w' => ∃ v, e = .returned v ∧ w'.ownsRow w.heap.size 26 1 v us.length (f64s us) ∧ Below w.heap.size w w' := by
  obtain ⟨i0, hi, hz0, hz1, hz2⟩ := info_parts info_f64
  have HF := Lib.hid hF
  clear hF
  generalize hlen : us.length = n at *
  have HLEN := Lib.hid hlen
  clear hlen
  go_enter Tryz.func10, Tryz.ntmps10
  go_wp2_with fail
  go_loopg [3, 4] n (fun g v i wr => ∃ k : Nat, g + k = n ∧ i = .int .i64 (k : Int) ∧ Hid (wr.ownsRow w.heap.size 26 1 v k (f64s (us.take k)) ∧ Below w.heap.size w wr))
  case atStart => exact ⟨0, by omega, rfl, ⟨⟨rfl, Or.inl ⟨rfl, rfl⟩⟩, Below.refl _ _⟩⟩
  case round =>
    obtain ⟨k, hgk, rfl, HR⟩ := hrel
    by_cases hk : k < n
    · obtain ⟨ad, rfl, hcell⟩ := HF.out k (by rw [HLEN.out]; exact hk)
      have hcz : wr.cell? (ad.add k) = some (.int .u64 (us.getD k 0 : Nat)) := by
        rw [← hcell]; exact HR.out.2.cell (by exact cell_in hcell)
      have htk := take_succ_getD us k (by rw [HLEN.out]; exact hk)
      generalize hU : us.getD k 0 = U at *
      have HTK := Lib.hid htk
      clear hU hcell htk
      have e1 := ext_from U
      go_wp2_with (at_builtin; go_must (refine wpList_append_one _ rfl (.tmp 11) (.tmp 17) 24 rfl w.heap.size 26 i0 (.float .f64 0) 8 Tryz.underlying24 hi hz0 hz1 hz2 rfl _ k _ rfl (HR.out.1.alloc _) ⟨wr.heap.size, 0, none⟩ 1 (.float .f64 U) rfl ?_ rfl ?_ ?_ ?_ ?_))
      · exact cell_one_new _ _ _ 0 _ rfl
      · unfold maxLen; omega
      · omega
      · exact Nat.le_trans HR.out.2.size (by simp)
      · intro g cap1 w1 hown hgr hblk hg
        have HO := Lib.hid hown
        have HB := Lib.hid ((HR.out.2.alloc HR.out.2.size _).grown hgr (Nat.le_trans HR.out.2.size (by simp)) (fun b hb => (HR.out.1.lt b hb).1))
        clear hown hgr hblk
        go_wp2_with fail
        go_roundg (gk - 1)
        case measure => omega
        case rel => exact ⟨k + 1, by omega, rfl, by
          have h := HO.out
          refine ⟨?_, HB.out⟩
          rw [HTK.out]
          simpa [f64s] using h⟩
    · go_wp2_with fail
      go_ret
      have hkn : k = n := by omega
      subst hkn
      have h := HR.out
      rw [List.take_of_length_le (by rw [HLEN.out]; exact Nat.le_refl _)] at h
      exact ⟨_, rfl, h⟩
end Go.Proofs.YtipkiiblghnoiaaGreatDoor
