/- Contracts of wire.Varint (below 2^14) and series.Pack. By an AI agent. -/
import Derived.Test.YtjlnicjnjnkdoaaDoorSerB
import Derived.Laws.Bits64
namespace Go.Proofs.YtjlnicjnjnkdoaaDoor
open Go.ChangeShapes Go.WideShapes Go.ChangeAt Go.RowKit
open Bt
set_option linter.unusedVariables false

/-- A varint below 2^14. -/
def vnt (n : Nat) : List Nat := if n < 128 then [n] else [n % 128 + 128, n / 128]
theorem vnt_length (n : Nat) : 1 ≤ (vnt n).length ∧ (vnt n).length ≤ 2 := by unfold vnt; split <;> simp

/-- A row of bytes of the call's own. -/
def Row (base : Nat) (B : List Nat) (w : World) (e : Ending) (w' : World) : Prop :=
  ∃ v, e = .returned v ∧ w'.ownsRow base 5 1 v B.length (u8s B) ∧ Below base w w'

theorem or128 (a : Nat) (h : a < 256) : bits BinOp.or IntKind.u8 (a : Int) 128 = ((a % 128 + 128 : Nat) : Int) := by
  have h1 := u8_or_nat a 128 h (by omega)
  have h2 : ∀ x : Fin 256, x.val ||| 128 = x.val % 128 + 128 := by decide +kernel
  have h3 := h2 ⟨a, h⟩
  simp only at h3
  rw [h3] at h1
  exact h1

theorem nil_row (w : World) (base : Nat) (e : TypeId) : w.ownsRow base e 1 (.slice none 0 0) 0 [] := ⟨rfl, Or.inl ⟨rfl, rfl⟩⟩

set_option maxRecDepth 100000 in
set_option maxHeartbeats 1000000 in
theorem varint_small (n : Nat) (w : World) (h : n < 128) : Calls Tryd.prog 15 #[.int .u64 n] w (Row w.heap.size (vnt n) w) := by
  obtain ⟨i0, hi, hz0, hz1, hz2⟩ := info_parts info_u8
  have hv : vnt n = [n] := by unfold vnt; rw [if_pos h]
  have HV := Lib.hid hv
  clear hv
  go_enter Tryd.func15, Tryd.ntmps15
  go_wp2_with fail
  refine wp_loop_rounds 1 ?_
  rw [rounds_succ]
  go_wp2_with (at_builtin; refine wpList_append_one _ rfl (.tmp 14) (.tmp 17) 27 rfl w.heap.size 5 i0 (.int .u8 0) 1 Tryd.underlying27 hi hz0 hz1 hz2 rfl _ 0 [] rfl (nil_row _ _ _) ⟨w.heap.size, 0, none⟩ 1 (.int .u8 n) rfl ?_ rfl ?_ ?_ ?_ ?_)
  · exact cell_one_new _ _ _ 0 _ rfl
  · unfold maxLen; omega
  · omega
  · simp
  · intro g cap w1 hown hgr hblk hg
    have HO := Lib.hid hown
    have HB := Lib.hid (((Below.refl w.heap.size w).alloc (Nat.le_refl _) _).grown hgr (by simp) (by intro k hk; cases hk))
    clear hown hgr hblk
    go_wp2_with fail
    go_ret
    refine ⟨_, rfl, ?_, HB.out⟩
    rw [HV.out]
    exact HO.out

set_option maxRecDepth 100000 in
set_option maxHeartbeats 1000000 in
theorem varint_big (n : Nat) (w : World) (h : 128 ≤ n) (h2 : n < 16384) : Calls Tryd.prog 15 #[.int .u64 n] w (Row w.heap.size (vnt n) w) := by
  obtain ⟨i0, hi, hz0, hz1, hz2⟩ := info_parts info_u8
  have hv : vnt n = [n % 128 + 128, n / 128] := by unfold vnt; rw [if_neg (by omega)]
  have HV := Lib.hid hv
  have ho := or128 (n % 256) (by omega)
  rw [show n % 256 % 128 = n % 128 by omega] at ho
  have ho' : bits BinOp.or IntKind.u8 ((n : Int) % 256) 128 = ((n % 128 + 128 : Nat) : Int) := by
    rw [← ho]; congr 1
  clear hv ho
  have HO' := Lib.hid ho'
  clear ho'
  go_enter Tryd.func15, Tryd.ntmps15
  go_wp2_with fail
  refine wp_loop_rounds 2 ?_
  rw [rounds_succ]
  go_wp2_with first
    | (at_builtin; refine wpList_append_one _ rfl (.tmp 6) (.tmp 10) 27 rfl w.heap.size 5 i0 (.int .u8 0) 1 Tryd.underlying27 hi hz0 hz1 hz2 rfl _ 0 [] rfl (nil_row _ _ _) ⟨w.heap.size, 0, none⟩ 1 (.int .u8 ((n % 128 + 128 : Nat) : Int)) rfl ?_ rfl ?_ ?_ ?_ ?_)
    | rw [show bits BinOp.or IntKind.u8 ((n : Int) % 256) 128 = ((n % 128 + 128 : Nat) : Int) from HO'.out]
  · exact cell_one_new _ _ _ 0 _ rfl
  · unfold maxLen; omega
  · omega
  · simp
  · intro g cap w1 hown hgr hblk hg
    have HO := Lib.hid hown
    have HB := Lib.hid (((Below.refl w.heap.size w).alloc (Nat.le_refl _) _).grown hgr (by simp) (by intro k hk; cases hk))
    clear hown hgr hblk
    go_wp2_with fail
    have HG : Hid (∀ k, (Value.slice (some ⟨g, 0, none⟩) 1 cap).ownBlock = some k → w.heap.size ≤ k) := Lib.hid (by intro k hk; cases hk; exact hg)
    generalize Value.slice (some ⟨g, 0, none⟩) 1 cap = v0 at HO HG ⊢
    rw [rounds_succ]
    go_wp2_with (at_builtin; refine wpList_append_one _ rfl (.tmp 14) (.tmp 17) 27 rfl w.heap.size 5 i0 (.int .u8 0) 1 Tryd.underlying27 hi hz0 hz1 hz2 rfl _ 1 _ rfl (HO.out.alloc _) ⟨w1.heap.size, 0, none⟩ 1 (.int .u8 ((n : Int) / 128)) rfl ?_ rfl ?_ ?_ ?_ ?_)
    · exact cell_one_new _ _ _ 0 _ rfl
    · unfold maxLen; omega
    · omega
    · exact Nat.le_trans HB.out.size (by simp)
    · intro g2 cap2 w2 hown hgr hblk hg2
      have HO2 := Lib.hid hown
      have HB2 := Lib.hid ((HB.out.alloc HB.out.size _).grown hgr (Nat.le_trans HB.out.size (by simp)) HG.out)
      clear hown hgr hblk
      go_wp2_with fail
      go_ret
      refine ⟨_, rfl, ?_, HB2.out⟩
      rw [HV.out]
      exact HO2.out
end Go.Proofs.YtjlnicjnjnkdoaaDoor
