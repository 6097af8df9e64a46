/- Contract of flumelaw3.Of: numbers of their bits. By an AI agent. -/
import Derived.Test.YtjlnicjnjnkdoaaDoorSerD
namespace Go.Proofs.YtjlnicjnjnkdoaaDoor
open Go.ChangeShapes Go.WideShapes Go.ChangeAt Go.RowKit
open Bt
set_option linter.unusedVariables false

/-- Floats as cells. -/
def f64s (us : List Nat) : List Value := us.map fun u => Value.float .f64 u
theorem f64s_length (us : List Nat) : (f64s us).length = us.length := by simp [f64s]
theorem f64s_get (us : List Nat) (i : Nat) (h : i < us.length) : (f64s us)[i]? = some (.float .f64 (us.getD i 0)) := by
  simp [f64s, List.getD_eq_getElem?_getD, h]

theorem info_f64 : (Tryd.prog.info? 26).map (fun i => (i.zero, i.size, i.bytes)) = some (some (.float .f64 0), 1, 8) := by kernel_rfl

/-- A row of floats of somebody's own, as a slice. -/
theorem fls_of {w : World} {base : Nat} {v : Value} {us : List Nat} (h : w.ownsRow base 26 1 v us.length (f64s us)) : ∃ o cap, v = .slice o us.length cap ∧ Fls w o us := by
  rcases h.2 with ⟨h1, h2⟩ | ⟨g, cap, cells, rfl, -⟩
  · refine ⟨none, 0, by rw [h1, h2], fun i hi => absurd hi (by omega)⟩
  · refine ⟨_, cap, rfl, fun i hi => ⟨_, rfl, ?_⟩⟩
    exact h.cells rfl i _ (f64s_get us i hi)

/-- A slice of whole numbers. -/
def U64s (w : World) (o : Option Addr) (us : List Nat) : Prop := ∀ i, i < us.length → ∃ ad, o = some ad ∧ w.cell? (ad.add i) = some (.int .u64 (us.getD i 0 : Nat))

theorem take_succ_getD (us : List Nat) (i : Nat) (h : i < us.length) : us.take (i + 1) = us.take i ++ [us.getD i 0] := by
  rw [List.take_succ_eq_append_getElem h, List.getD_eq_getElem?_getD, List.getElem?_eq_getElem h]; rfl

set_option maxRecDepth 100000 in
set_option maxHeartbeats 2000000 in
theorem of_any (o : Option Addr) (us : List Nat) (cap : Nat) (w : World) (hF : U64s w o us) (hn : us.length ≤ 2000000) :
    Calls Tryd.prog 5 #[.slice o us.length cap] w fun e w' => ∃ v, e = .returned v ∧ w'.ownsRow w.heap.size 26 1 v us.length (f64s us) ∧ Below w.heap.size w w' := by
  obtain ⟨i0, hi, hz0, hz1, hz2⟩ := info_parts info_f64
  have HF := Lib.hid hF
  clear hF
  generalize hlen : us.length = n at *
  have HLEN := Lib.hid hlen
  clear hlen
  go_enter Tryd.func5, Tryd.ntmps5
  go_wp2_with fail
  go_loopg [3, 4] n (fun g v i wr => ∃ k : Nat, g + k = n ∧ i = .int .i64 (k : Int) ∧ Hid (wr.ownsRow w.heap.size 26 1 v k (f64s (us.take k)) ∧ Below w.heap.size w wr))
  case atStart => exact ⟨0, by omega, rfl, ⟨⟨rfl, Or.inl ⟨rfl, rfl⟩⟩, Below.refl _ _⟩⟩
  case round =>
    obtain ⟨k, hgk, rfl, HR⟩ := hrel
    by_cases hk : k < n
    · obtain ⟨ad, rfl, hcell⟩ := HF.out k (by rw [HLEN.out]; exact hk)
      have hcz : wr.cell? (ad.add k) = some (.int .u64 (us.getD k 0 : Nat)) := by
        rw [← hcell]; exact HR.out.2.cell (by exact cell_in hcell)
      have htk := take_succ_getD us k (by rw [HLEN.out]; exact hk)
      generalize hU : us.getD k 0 = U at *
      have HTK := Lib.hid htk
      clear hU hcell htk
      have e1 := ext_from U
      go_wp2_with (at_builtin; go_must (refine wpList_append_one _ rfl (.tmp 11) (.tmp 17) 24 rfl w.heap.size 26 i0 (.float .f64 0) 8 Tryd.underlying24 hi hz0 hz1 hz2 rfl _ k _ rfl (HR.out.1.alloc _) ⟨wr.heap.size, 0, none⟩ 1 (.float .f64 U) rfl ?_ rfl ?_ ?_ ?_ ?_))
      · exact cell_one_new _ _ _ 0 _ rfl
      · unfold maxLen; omega
      · omega
      · exact Nat.le_trans HR.out.2.size (by simp)
      · intro g cap1 w1 hown hgr hblk hg
        have HO := Lib.hid hown
        have HB := Lib.hid ((HR.out.2.alloc HR.out.2.size _).grown hgr (Nat.le_trans HR.out.2.size (by simp)) (fun b hb => (HR.out.1.lt b hb).1))
        clear hown hgr hblk
        go_wp2_with fail
        go_roundg (gk - 1)
        case measure => omega
        case rel => exact ⟨k + 1, by omega, rfl, by
          have h := HO.out
          refine ⟨?_, HB.out⟩
          rw [HTK.out]
          simpa [f64s] using h⟩
    · go_wp2_with fail
      go_ret
      have hkn : k = n := by omega
      subst hkn
      have h := HR.out
      rw [List.take_of_length_le (by rw [HLEN.out]; exact Nat.le_refl _)] at h
      exact ⟨_, rfl, h⟩
end Go.Proofs.YtjlnicjnjnkdoaaDoor
