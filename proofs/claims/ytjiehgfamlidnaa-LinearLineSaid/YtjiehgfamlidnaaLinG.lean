/- Package linear: put. By an AI agent. -/
import Derived.Test.YtjiehgfamlidnaaLinF
namespace Go.Proofs.Ytjiehgfamlidnaa.Lin
open Go.ChangeShapes Go.WideShapes Go.ChangeAt Go.RowKit
open Md
set_option linter.unusedVariables false
set_option linter.unusedSimpArgs false

set_option maxRecDepth 100000 in
set_option maxHeartbeats 8000000 in
theorem put_any {w : World} {b : Nat} {o : Option Addr} {ps : List Past} {cap bb bt : Nat} {ov : Value} {most : Int} (hrow : w.heap[b]? = some (.cells (srow o ps cap bb bt ov most) 75 (0, 0))) (hbef : w.heap[bb]? = some (.cells (befs ps) 68 (0, 0))) (hP : Ps w o ps) (hn : ps.length ≤ 12)
    {bad : Nat → Prop} {v : Value} {m : St} {k : Key} (hm : Mv bad w v m) (hI : Inv m.1 m.2.length) (hml : m.2.length ≤ 1000000) (hk : k.lsns.length = 12) (hs : k.set < 4096) (i : Nat) (hi : i < ps.length) :
    Calls Try.prog 41 #[.pointer (some ⟨b, 0, none⟩), v, .agg (kcells k), .int .i64 (i : Int)] w (PutRes (putF ps ⟨m, k⟩ i) w) := by
  obtain ⟨vo, vc, rfl, hSB⟩ := hm
  obtain ⟨st, ls⟩ := k
  simp only at hk hs
  obtain ⟨l0, l1, l2, l3, l4, l5, l6, l7, l8, l9, l10, l11, rfl⟩ : ∃ l0 l1 l2 l3 l4 l5 l6 l7 l8 l9 l10 l11, ls = [l0, l1, l2, l3, l4, l5, l6, l7, l8, l9, l10, l11] := by
    match ls, hk with
    | [l0, l1, l2, l3, l4, l5, l6, l7, l8, l9, l10, l11], _ => exact ⟨_, _, _, _, _, _, _, _, _, _, _, _, rfl⟩
  have hbi := (blk_cell hbef i).trans (befs_get ps i hi)
  have hzb : b < w.heap.size := lt_of_block hrow
  have hzbb : bb < w.heap.size := lt_of_block hbef
  have r0 : w.cell? ⟨b, 0, none⟩ = some (.slice o ps.length cap) := blk_cell hrow 0
  have r2 : w.cell? ⟨b, 2, none⟩ = some (.slice (some ⟨bb, 0, none⟩) ps.length ps.length) := blk_cell hrow 2
  have hbl : befOf ps i < 18446744073709551616 := Nat.lt_of_lt_of_le (mask_lt _ _) (Nat.le_trans (Nat.pow_le_pow_right (by omega) hn) (by decide))
  have hst : st < 18446744073709551616 := by omega
  have HAN := Lib.hid (andnot_zero (befOf ps i) st hbl hst)
  have HB1 := Lib.hid (and_one st i hst)
  have HFR : RowKit.Hid (free ps ⟨st, [l0, l1, l2, l3, l4, l5, l6, l7, l8, l9, l10, l11]⟩ i ↔ (st.testBit i = false ∧ ∀ j, (befOf ps i).testBit j = true → st.testBit j = true)) := Lib.hid Iff.rfl
  have HO1 : RowKit.Hid (¬ free ps ⟨st, [l0, l1, l2, l3, l4, l5, l6, l7, l8, l9, l10, l11]⟩ i → putF ps ⟨m, ⟨st, [l0, l1, l2, l3, l4, l5, l6, l7, l8, l9, l10, l11]⟩⟩ i = none) := Lib.hid fun h => by unfold putF; rw [if_neg h]
  have HO2 : RowKit.Hid (free ps ⟨st, [l0, l1, l2, l3, l4, l5, l6, l7, l8, l9, l10, l11]⟩ i → putF ps ⟨m, ⟨st, [l0, l1, l2, l3, l4, l5, l6, l7, l8, l9, l10, l11]⟩⟩ i = (stepF m (ps.getD i zP)).map fun m' => ⟨m', keyOf' (ps.getD i zP) m.1.next m'.1.next ⟨st, [l0, l1, l2, l3, l4, l5, l6, l7, l8, l9, l10, l11]⟩ i⟩) := Lib.hid fun h => by unfold putF; rw [if_pos h]
  have HP := Lib.hid hP
  have HM := Lib.hid (show Mv bad w (.agg (cs m.1 (.slice vo m.2.length vc))) m from ⟨vo, vc, rfl, hSB⟩)
  have HI := Lib.hid (And.intro hI hml)
  clear hP hSB hI hml hbl hst hrow hbef
  generalize putF ps ⟨m, ⟨st, [l0, l1, l2, l3, l4, l5, l6, l7, l8, l9, l10, l11]⟩⟩ i = O at *
  generalize free ps ⟨st, [l0, l1, l2, l3, l4, l5, l6, l7, l8, l9, l10, l11]⟩ i = fr at *
  obtain ⟨s, bs⟩ := m
  have hkc : kcells ⟨st, [l0, l1, l2, l3, l4, l5, l6, l7, l8, l9, l10, l11]⟩ = #[.int .u64 (st : Int), .int .i64 l0, .int .i64 l1, .int .i64 l2, .int .i64 l3, .int .i64 l4, .int .i64 l5, .int .i64 l6, .int .i64 l7, .int .i64 l8, .int .i64 l9, .int .i64 l10, .int .i64 l11] := rfl
  rw [hkc]
  clear hkc
  unfold cs
  generalize hl : ps.length = n at *
  generalize hlb : bs.length = nb at *
  have HLN := Lib.hid hl
  have HLB := Lib.hid (show (s, bs).2.length = nb from hlb)
  clear hl hlb
  generalize befOf ps i = bi at *
  have i1 : ((i : Int)).toNat = i := by omega
  have n1 := fun a b c d => cell4 r0 a b c d
  have n2 := fun a b c d => cell4 r2 a b c d
  have n3 := fun a b c d => cell4 hbi a b c d
  by_cases hbit : st.testBit i = true
  · have d1 : (bits BinOp.and IntKind.u64 ((st : Int) / 2 ^ i) 1 == 1) = true := by rw [HB1.out, hbit]; rfl
    obtain rfl : O = none := HO1.out fun h => by have := (HFR.out.1 h).1; rw [hbit] at this; cases this
    clear hbit
    go_enter Try.func41, Try.ntmps41
    go_wp2_with fail
    go_quiet (fail)
    simp only [drewN_alloc]
    have hz0 : w.heap.size = (w.drewN nq).heap.size := rfl
    have hb0 : Below w.heap.size w (w.drewN nq) := ⟨rfl, rfl, rfl, Nat.le_refl _, fun _ _ => rfl⟩
    rw [hz0]
    generalize w.drewN nq = w0 at *
    go_wp2_with fail
    go_region
    all_goals go_wp2_with fail
    refine bodyPost_ret (results_put _ _ (w0.heap.size + 1 + 1) (w0.heap.size + 1 + 1 + 1) _ _ _ rfl rfl rfl (blk_alloc (blk_new_at _ _ (by simp)) _) (blk_new_at _ _ (by simp)) rfl rfl) rfl ?_
    exact ⟨⟨s, vo, nb, vc, ⟨st, [l0, l1, l2, l3, l4, l5, l6, l7, l8, l9, l10, l11]⟩, rfl, rfl⟩, below4 hb0⟩
  rw [Bool.not_eq_true] at hbit
  have d1 : (bits BinOp.and IntKind.u64 ((st : Int) / 2 ^ i) 1 == 1) = false := by rw [HB1.out, hbit]; rfl
  by_cases hbef : bits BinOp.andNot IntKind.u64 (bi : Int) (st : Int) = 0
  · have d2 : (bits BinOp.andNot IntKind.u64 (bi : Int) (st : Int) != 0) = false := by simpa using hbef
    have HOS := Lib.hid (HO2.out (HFR.out.2 ⟨hbit, HAN.out.1 hbef⟩))
    clear hbit hbef
    go_enter Try.func41, Try.ntmps41
    go_wp2_with fail
    go_quiet (fail)
    simp only [drewN_alloc]
    have hz0 : w.heap.size = (w.drewN nq).heap.size := rfl
    have hb0 : Below w.heap.size w (w.drewN nq) := ⟨rfl, rfl, rfl, Nat.le_refl _, fun _ _ => rfl⟩
    rw [hz0]
    generalize w.drewN nq = w0 at *
    go_wp2_with fail
    have hA : ((((w0.alloc (.cells #[.int .i64 s.base, .int .i64 s.first, .int .i64 s.durable, .int .i64 s.next, .int .i64 s.limit, .slice vo nb vc, .bool s.failed, .bool s.closed] 26)).alloc (.cells #[.int .u64 (st : Int), .int .i64 l0, .int .i64 l1, .int .i64 l2, .int .i64 l3, .int .i64 l4, .int .i64 l5, .int .i64 l6, .int .i64 l7, .int .i64 l8, .int .i64 l9, .int .i64 l10, .int .i64 l11] 71)).alloc (.cells #[.int .i64 0, .int .i64 0, .int .i64 0, .int .i64 0, .int .i64 0, .slice none 0 0, .bool false, .bool false] 26)).alloc (.cells #[.int .u64 0, .int .i64 0, .int .i64 0, .int .i64 0, .int .i64 0, .int .i64 0, .int .i64 0, .int .i64 0, .int .i64 0, .int .i64 0, .int .i64 0, .int .i64 0, .int .i64 0] 71)).heap[w0.heap.size]? = some (.cells #[.int .i64 s.base, .int .i64 s.first, .int .i64 s.durable, .int .i64 s.next, .int .i64 s.limit, .slice vo nb vc, .bool s.failed, .bool s.closed] 26 (0, 0)) := blk_alloc (blk_alloc (blk_alloc (blk_new w0 _) _) _) _
    have hB : ((((w0.alloc (.cells #[.int .i64 s.base, .int .i64 s.first, .int .i64 s.durable, .int .i64 s.next, .int .i64 s.limit, .slice vo nb vc, .bool s.failed, .bool s.closed] 26)).alloc (.cells #[.int .u64 (st : Int), .int .i64 l0, .int .i64 l1, .int .i64 l2, .int .i64 l3, .int .i64 l4, .int .i64 l5, .int .i64 l6, .int .i64 l7, .int .i64 l8, .int .i64 l9, .int .i64 l10, .int .i64 l11] 71)).alloc (.cells #[.int .i64 0, .int .i64 0, .int .i64 0, .int .i64 0, .int .i64 0, .slice none 0 0, .bool false, .bool false] 26)).alloc (.cells #[.int .u64 0, .int .i64 0, .int .i64 0, .int .i64 0, .int .i64 0, .int .i64 0, .int .i64 0, .int .i64 0, .int .i64 0, .int .i64 0, .int .i64 0, .int .i64 0, .int .i64 0] 71)).heap[w0.heap.size + 1]? = some (.cells #[.int .u64 (st : Int), .int .i64 l0, .int .i64 l1, .int .i64 l2, .int .i64 l3, .int .i64 l4, .int .i64 l5, .int .i64 l6, .int .i64 l7, .int .i64 l8, .int .i64 l9, .int .i64 l10, .int .i64 l11] 71 (0, 0)) := blk_alloc (blk_alloc (blk_new_at _ _ (by simp)) _) _
    have hC : ((((w0.alloc (.cells #[.int .i64 s.base, .int .i64 s.first, .int .i64 s.durable, .int .i64 s.next, .int .i64 s.limit, .slice vo nb vc, .bool s.failed, .bool s.closed] 26)).alloc (.cells #[.int .u64 (st : Int), .int .i64 l0, .int .i64 l1, .int .i64 l2, .int .i64 l3, .int .i64 l4, .int .i64 l5, .int .i64 l6, .int .i64 l7, .int .i64 l8, .int .i64 l9, .int .i64 l10, .int .i64 l11] 71)).alloc (.cells #[.int .i64 0, .int .i64 0, .int .i64 0, .int .i64 0, .int .i64 0, .slice none 0 0, .bool false, .bool false] 26)).alloc (.cells #[.int .u64 0, .int .i64 0, .int .i64 0, .int .i64 0, .int .i64 0, .int .i64 0, .int .i64 0, .int .i64 0, .int .i64 0, .int .i64 0, .int .i64 0, .int .i64 0, .int .i64 0] 71)).heap[w0.heap.size + 1 + 1]? = some (.cells #[.int .i64 0, .int .i64 0, .int .i64 0, .int .i64 0, .int .i64 0, .slice none 0 0, .bool false, .bool false] 26 (0, 0)) := blk_alloc (blk_new_at _ _ (by simp)) _
    have hD : ((((w0.alloc (.cells #[.int .i64 s.base, .int .i64 s.first, .int .i64 s.durable, .int .i64 s.next, .int .i64 s.limit, .slice vo nb vc, .bool s.failed, .bool s.closed] 26)).alloc (.cells #[.int .u64 (st : Int), .int .i64 l0, .int .i64 l1, .int .i64 l2, .int .i64 l3, .int .i64 l4, .int .i64 l5, .int .i64 l6, .int .i64 l7, .int .i64 l8, .int .i64 l9, .int .i64 l10, .int .i64 l11] 71)).alloc (.cells #[.int .i64 0, .int .i64 0, .int .i64 0, .int .i64 0, .int .i64 0, .slice none 0 0, .bool false, .bool false] 26)).alloc (.cells #[.int .u64 0, .int .i64 0, .int .i64 0, .int .i64 0, .int .i64 0, .int .i64 0, .int .i64 0, .int .i64 0, .int .i64 0, .int .i64 0, .int .i64 0, .int .i64 0, .int .i64 0] 71)).heap[w0.heap.size + 1 + 1 + 1]? = some (.cells #[.int .u64 0, .int .i64 0, .int .i64 0, .int .i64 0, .int .i64 0, .int .i64 0, .int .i64 0, .int .i64 0, .int .i64 0, .int .i64 0, .int .i64 0, .int .i64 0, .int .i64 0] 71 (0, 0)) := blk_new_at _ _ (by simp)
    have hK0 : Below w.heap.size w ((((w0.alloc (.cells #[.int .i64 s.base, .int .i64 s.first, .int .i64 s.durable, .int .i64 s.next, .int .i64 s.limit, .slice vo nb vc, .bool s.failed, .bool s.closed] 26)).alloc (.cells #[.int .u64 (st : Int), .int .i64 l0, .int .i64 l1, .int .i64 l2, .int .i64 l3, .int .i64 l4, .int .i64 l5, .int .i64 l6, .int .i64 l7, .int .i64 l8, .int .i64 l9, .int .i64 l10, .int .i64 l11] 71)).alloc (.cells #[.int .i64 0, .int .i64 0, .int .i64 0, .int .i64 0, .int .i64 0, .slice none 0 0, .bool false, .bool false] 26)).alloc (.cells #[.int .u64 0, .int .i64 0, .int .i64 0, .int .i64 0, .int .i64 0, .int .i64 0, .int .i64 0, .int .i64 0, .int .i64 0, .int .i64 0, .int .i64 0, .int .i64 0, .int .i64 0] 71)) := by have k := below4 (a := (.cells #[.int .i64 s.base, .int .i64 s.first, .int .i64 s.durable, .int .i64 s.next, .int .i64 s.limit, .slice vo nb vc, .bool s.failed, .bool s.closed] 26)) (b := (.cells #[.int .u64 (st : Int), .int .i64 l0, .int .i64 l1, .int .i64 l2, .int .i64 l3, .int .i64 l4, .int .i64 l5, .int .i64 l6, .int .i64 l7, .int .i64 l8, .int .i64 l9, .int .i64 l10, .int .i64 l11] 71)) (c := (.cells #[.int .i64 0, .int .i64 0, .int .i64 0, .int .i64 0, .int .i64 0, .slice none 0 0, .bool false, .bool false] 26)) (d := (.cells #[.int .u64 0, .int .i64 0, .int .i64 0, .int .i64 0, .int .i64 0, .int .i64 0, .int .i64 0, .int .i64 0, .int .i64 0, .int .i64 0, .int .i64 0, .int .i64 0, .int .i64 0] 71)) hb0; exact ⟨k.os, k.tape, k.output, k.size, k.block⟩
    have hz4 : ((((w0.alloc (.cells #[.int .i64 s.base, .int .i64 s.first, .int .i64 s.durable, .int .i64 s.next, .int .i64 s.limit, .slice vo nb vc, .bool s.failed, .bool s.closed] 26)).alloc (.cells #[.int .u64 (st : Int), .int .i64 l0, .int .i64 l1, .int .i64 l2, .int .i64 l3, .int .i64 l4, .int .i64 l5, .int .i64 l6, .int .i64 l7, .int .i64 l8, .int .i64 l9, .int .i64 l10, .int .i64 l11] 71)).alloc (.cells #[.int .i64 0, .int .i64 0, .int .i64 0, .int .i64 0, .int .i64 0, .slice none 0 0, .bool false, .bool false] 26)).alloc (.cells #[.int .u64 0, .int .i64 0, .int .i64 0, .int .i64 0, .int .i64 0, .int .i64 0, .int .i64 0, .int .i64 0, .int .i64 0, .int .i64 0, .int .i64 0, .int .i64 0, .int .i64 0] 71)).heap.size = w0.heap.size + 1 + 1 + 1 + 1 := by simp
    generalize ((((w0.alloc (.cells #[.int .i64 s.base, .int .i64 s.first, .int .i64 s.durable, .int .i64 s.next, .int .i64 s.limit, .slice vo nb vc, .bool s.failed, .bool s.closed] 26)).alloc (.cells #[.int .u64 (st : Int), .int .i64 l0, .int .i64 l1, .int .i64 l2, .int .i64 l3, .int .i64 l4, .int .i64 l5, .int .i64 l6, .int .i64 l7, .int .i64 l8, .int .i64 l9, .int .i64 l10, .int .i64 l11] 71)).alloc (.cells #[.int .i64 0, .int .i64 0, .int .i64 0, .int .i64 0, .int .i64 0, .slice none 0 0, .bool false, .bool false] 26)).alloc (.cells #[.int .u64 0, .int .i64 0, .int .i64 0, .int .i64 0, .int .i64 0, .int .i64 0, .int .i64 0, .int .i64 0, .int .i64 0, .int .i64 0, .int .i64 0, .int .i64 0, .int .i64 0] 71)) = W at *
    have HW := Lib.hid (And.intro hA (And.intro hB (And.intro hC (And.intro hD (And.intro hK0 (And.intro hz4 hb0))))))
    obtain ⟨a0, a1, a2, a3, a4, a5, a6, a7⟩ : W.cell? ⟨w0.heap.size, 0, none⟩ = some (.int .i64 s.base) ∧ W.cell? ⟨w0.heap.size, 1, none⟩ = some (.int .i64 s.first) ∧ W.cell? ⟨w0.heap.size, 2, none⟩ = some (.int .i64 s.durable) ∧ W.cell? ⟨w0.heap.size, 3, none⟩ = some (.int .i64 s.next) ∧ W.cell? ⟨w0.heap.size, 4, none⟩ = some (.int .i64 s.limit) ∧ W.cell? ⟨w0.heap.size, 5, none⟩ = some (.slice vo nb vc) ∧ W.cell? ⟨w0.heap.size, 6, none⟩ = some (.bool s.failed) ∧ W.cell? ⟨w0.heap.size, 7, none⟩ = some (.bool s.closed) := ⟨blk_cell hA 0, blk_cell hA 1, blk_cell hA 2, blk_cell hA 3, blk_cell hA 4, blk_cell hA 5, blk_cell hA 6, blk_cell hA 7⟩
    have R0 : W.cell? ⟨b, 0, none⟩ = some (.slice o n cap) := (hK0.cell (cell_in r0)).trans r0
    obtain ⟨ab, ao, rfl, od, cd, ord, crd, hps, q0, q1, q2, q3, q4, q5, q6, q7⟩ := (HP.out.keep hK0).at i (by rw [HLN.out]; exact hi)
    have HST := Lib.hid (fun (W' : World) (kW : Below W.heap.size W W') => (step_any (HM.out.grow (hK0.trans (kW.mono hK0.size))) (by rw [HLB.out]; exact HI.out.2) (by rw [HLB.out]; exact HI.out.1) (ps.getD i zP) od cd ord crd (hps.keep kW)).mono fun e w' h => step_x h)
    have HZB := Lib.hid (And.intro (show b < w0.heap.size from by have := hb0.size; omega) (show ∀ (x y : Nat), (⟨ab, ao, none⟩ : Addr) = ⟨x, y, none⟩ → x < w0.heap.size from fun x y e => by cases e; have := HP.out.lt i (by rw [HLN.out]; exact hi); have := hb0.size; omega))
    clear hA hB hC hD hK0 hps n1 n2 n3 r0 r2 hbi hzb hzbb hz4 hz0
    unfold pcells cs at HST
    generalize ps.getD i zP = p at *
    generalize stepF (s, bs) p = O2 at *
    generalize hsb : O2.isSome = sb at *
    have HSB := Lib.hid hsb
    clear hsb
    have hWd : Below W.heap.size W W.drew := ⟨rfl, rfl, rfl, Nat.le_refl _, fun _ _ => rfl⟩
    have HD1 := Lib.hid hWd
    have HD2 := Lib.hid (fun (O : Obj) => (show Below W.heap.size W (W.alloc O).drew from by have k := (Below.refl W.heap.size W).alloc (Nat.le_refl _) O; exact ⟨k.os, k.tape, k.output, k.size, k.block⟩))
    clear hWd
    have m1 := World.new_ne W _ a0
    have m2 := World.new_ne W _ R0
    have m3 := World.new_ne W _ q0
    have m4 : w0.heap.size < W.heap.size := cell_in a0
    have m5 : b < W.heap.size := cell_in R0
    have m6 : ab < W.heap.size := cell_in q0
    have m7 : ab ≠ W.heap.size := by omega
    go_upto_region 3 with fail
    go_cut [11, 12] (fun s11 s12 wx => ∃ (b11 : Nat) (s' : S) (o' : Option Addr) (n' c' : Nat), s12 = .bool sb ∧ s11 = .pointer (some ⟨b11, 0, none⟩) ∧ Hid (Reg3 O2 W.heap.size W wx b11 s' o' n' c'))
    case first =>
      go_region_with (first
        | (go_at_call 30
           refine (HST.out _ HD1.out).mono ?_
           intro e w5 h
           obtain ⟨s', o', n', c', rfl, hg, hb5⟩ := h
           have HB5 := Lib.hid (And.intro (HD1.out.trans hb5) hg)
           clear hg hb5)
        | (go_at_call 30
           refine (HST.out _ (HD2.out _)).mono ?_
           intro e w5 h
           obtain ⟨s', o', n', c', rfl, hg, hb5⟩ := h
           have HB5 := Lib.hid (And.intro ((HD2.out _).trans (hb5.mono (HD2.out _).size)) (And.intro hg (And.intro (hb5.block W.heap.size (by show W.heap.size < (W.alloc _).heap.size; simp)) hb5.size)))
           have hz5 : w5.heap[W.heap.size]? = some (.cells #[.int .i64 0, .int .i64 0, .int .i64 0, .int .i64 0, .int .i64 0, .slice none 0 0, .bool false, .bool false] 26 (0, 0)) := (hb5.block _ (by show W.heap.size < (W.alloc _).heap.size; simp)).trans (blk_new W _)
           have z0 : w5.cell? ⟨W.heap.size, 0, none⟩ = some (.int .i64 0) := blk_cell hz5 0
           have zf0 : w5.frozen? ⟨W.heap.size, 0, none⟩ = false := blk_free hz5 0
           have z1 : w5.cell? ⟨W.heap.size, 1, none⟩ = some (.int .i64 0) := blk_cell hz5 1
           have zf1 : w5.frozen? ⟨W.heap.size, 1, none⟩ = false := blk_free hz5 1
           have z2 : w5.cell? ⟨W.heap.size, 2, none⟩ = some (.int .i64 0) := blk_cell hz5 2
           have zf2 : w5.frozen? ⟨W.heap.size, 2, none⟩ = false := blk_free hz5 2
           have z3 : w5.cell? ⟨W.heap.size, 3, none⟩ = some (.int .i64 0) := blk_cell hz5 3
           have zf3 : w5.frozen? ⟨W.heap.size, 3, none⟩ = false := blk_free hz5 3
           have z4 : w5.cell? ⟨W.heap.size, 4, none⟩ = some (.int .i64 0) := blk_cell hz5 4
           have zf4 : w5.frozen? ⟨W.heap.size, 4, none⟩ = false := blk_free hz5 4
           have z5 : w5.cell? ⟨W.heap.size, 5, none⟩ = some (.slice none 0 0) := blk_cell hz5 5
           have zf5 : w5.frozen? ⟨W.heap.size, 5, none⟩ = false := blk_free hz5 5
           have z6 : w5.cell? ⟨W.heap.size, 6, none⟩ = some (.bool false) := blk_cell hz5 6
           have zf6 : w5.frozen? ⟨W.heap.size, 6, none⟩ = false := blk_free hz5 6
           have z7 : w5.cell? ⟨W.heap.size, 7, none⟩ = some (.bool false) := blk_cell hz5 7
           have zf7 : w5.frozen? ⟨W.heap.size, 7, none⟩ = false := blk_free hz5 7
           have HZ5 := Lib.hid hz5
           clear hg hb5 hz5))
      all_goals (go_wp2_with fail; go_meet)
      all_goals first
        | (have hr := reg3B (c' := c') (q := [.int .i64 0, .int .i64 0, .int .i64 0, .int .i64 0, .int .i64 0, .slice none 0 0, .bool false, .bool false]) HZ5.out rfl HB5.out
           simp only [setC] at hr
           exact ⟨_, s', o', n', c', rfl, rfl, Lib.hid hr⟩)
        | (have hr := reg3A (c' := c') HB5.out
           unfold cs at hr
           exact ⟨_, s', o', n', c', rfl, rfl, Lib.hid hr⟩)
    case rest =>
      obtain ⟨b11, s', o', n', c', rfl, rfl, HC⟩ := hcut
      clear HST HD1 HD2 a0 a1 a2 a3 a4 a5 a6 a7 q0 q1 q2 q3 q4 q5 q6
      have R0' : wc.cell? ⟨b, 0, none⟩ = some (.slice (some ⟨ab, ao, none⟩) n cap) := (HC.out.keep.cell m5).trans R0
      have Q7' : wc.cell? ⟨ab, ao + i * 8 + 7, none⟩ = some (.int .i64 p.en) := (HC.out.keep.cell m6).trans q7
      have x4 : W.heap.size = w0.heap.size + 1 + 1 + 1 + 1 := HW.out.2.2.2.2.2.1
      have hA : wc.heap[w0.heap.size]? = some (.cells #[.int .i64 s.base, .int .i64 s.first, .int .i64 s.durable, .int .i64 s.next, .int .i64 s.limit, .slice vo nb vc, .bool s.failed, .bool s.closed] 26 (0, 0)) := (HC.out.keep.block _ (by omega)).trans HW.out.1
      have hB : wc.heap[w0.heap.size + 1]? = some (.cells (kcells ⟨st, [l0, l1, l2, l3, l4, l5, l6, l7, l8, l9, l10, l11]⟩) 71 (0, 0)) := (HC.out.keep.block _ (by omega)).trans HW.out.2.1
      have hC : wc.heap[w0.heap.size + 1 + 1]? = some (.cells #[.int .i64 0, .int .i64 0, .int .i64 0, .int .i64 0, .int .i64 0, .slice none 0 0, .bool false, .bool false] 26 (0, 0)) := (HC.out.keep.block _ (by omega)).trans HW.out.2.2.1
      have hD : wc.heap[w0.heap.size + 1 + 1 + 1]? = some (.cells #[.int .u64 0, .int .i64 0, .int .i64 0, .int .i64 0, .int .i64 0, .int .i64 0, .int .i64 0, .int .i64 0, .int .i64 0, .int .i64 0, .int .i64 0, .int .i64 0, .int .i64 0] 71 (0, 0)) := (HC.out.keep.block _ (by omega)).trans HW.out.2.2.2.1
      have k0 : wc.cell? ⟨w0.heap.size + 1, 0, none⟩ = some (.int .u64 (st : Int)) := blk_cell hB 0
      have kf : wc.frozen? ⟨w0.heap.size + 1, 0, none⟩ = false := blk_free hB 0
      have HF := Lib.hid (And.intro hA (And.intro hB (And.intro hC hD)))
      clear R0 q7 m1 m2 m3 m7 x4 hA hB hC hD
      go_wp2_with fail
      go_region
      rw [or_bit st i hs (by omega)]
      have hB4 : (wc.setCell ⟨w0.heap.size + 1, 0, none⟩ (.int .u64 ((st ||| 2 ^ i : Nat) : Int))).heap[w0.heap.size + 1]? = some (.cells (kcells ⟨st ||| 2 ^ i, [l0, l1, l2, l3, l4, l5, l6, l7, l8, l9, l10, l11]⟩) 71 (0, 0)) := blk_set HF.out.2.1 0 _
      have kk4 : Keep (· = w0.heap.size + 1) wc (wc.setCell ⟨w0.heap.size + 1, 0, none⟩ (.int .u64 ((st ||| 2 ^ i : Nat) : Int))) := Keep.setCell (bs := (· = w0.heap.size + 1)) (Keep.refl _ wc) (p := ⟨w0.heap.size + 1, 0, none⟩) (Or.inl rfl) _
      generalize wc.setCell ⟨w0.heap.size + 1, 0, none⟩ (.int .u64 ((st ||| 2 ^ i : Nat) : Int)) = W4 at *
      have x4 : W.heap.size = w0.heap.size + 1 + 1 + 1 + 1 := HW.out.2.2.2.2.2.1
      have hbw : b < w0.heap.size := HZB.out.1
      have habw : ab < w0.heap.size := by have := HZB.out.2 ab ao rfl; omega
      have hwc := HC.out.keep.size
      have R0 : W4.cell? ⟨b, 0, none⟩ = some (.slice (some ⟨ab, ao, none⟩) n cap) := (kk4.cell (by simp only; omega) (by simp only; omega)).trans R0'
      have q7 : W4.cell? ⟨ab, ao + i * 8 + 7, none⟩ = some (.int .i64 p.en) := (kk4.cell (by simp only; omega) (by simp only; omega)).trans Q7'
      have hA4 := kk4.same HF.out.1 (by omega)
      have hC4 := kk4.same HF.out.2.2.1 (by omega)
      have hD4 := kk4.same HF.out.2.2.2 (by omega)
      have hX4 := kk4.same HC.out.box (by have := HC.out.new; omega)
      have a3 : W4.cell? ⟨w0.heap.size, 3, none⟩ = some (.int .i64 s.next) := blk_cell hA4 3
      have c3 : W4.cell? ⟨b11, 3, none⟩ = some (.int .i64 s'.next) := blk_cell hX4 3
      have H4 := Lib.hid (And.intro hA4 (And.intro hB4 (And.intro hC4 (And.intro hD4 (And.intro hX4 kk4)))))
      clear hA4 hB4 hC4 hD4 hX4 kk4 R0' Q7' k0 kf HF hwc x4
      have HFIN : RowKit.Hid (∀ (ls' : List Int), ls'.length = 12 → (⟨st ||| 2 ^ i, ls'⟩ : Key) = keyOf' p s.next s'.next ⟨st, [l0, l1, l2, l3, l4, l5, l6, l7, l8, l9, l10, l11]⟩ i → ∀ wf : World, Keep (fun x => x = w0.heap.size + 1 ∨ x = w0.heap.size + 1 + 1 ∨ x = w0.heap.size + 1 + 1 + 1) W4 wf → PutRes O w (.returned (.tuple #[.agg (cs s' (.slice o' n' c')), .agg (kcells ⟨st ||| 2 ^ i, ls'⟩), .bool sb])) wf) := by
        refine Lib.hid fun ls' hl' hkey wf kf => ?_
        have hsz := HW.out.2.2.2.2.2.1
        have hs0 := hb0.size
        have kk := ((H4.out.2.2.2.2.2).mono (cs := fun x => x = w0.heap.size + 1 ∨ x = w0.heap.size + 1 + 1 ∨ x = w0.heap.size + 1 + 1 + 1) (fun x _ hx => Or.inl hx)).trans kf
        have hwc := HC.out.keep.size
        refine ⟨?_, HW.out.2.2.2.2.1.trans ((HC.out.keep.mono HW.out.2.2.2.2.1.size).trans (kk.below (by omega) (fun x hx => by omega)))⟩
        have hsb := HSB.out
        rcases O2 with _ | m'
        · obtain rfl : O = none := HOS.out
          subst hsb
          exact ⟨s', o', n', c', _, rfl, hl'⟩
        · obtain ⟨rfl, rfl, e3⟩ := HC.out.good m' rfl
          obtain rfl : O = _ := HOS.out
          subst hsb
          refine ⟨_, ?_, o', c', rfl, ?_⟩
          · simp only [Option.map_some]
            rw [hkey]; rfl
          · exact (e3.keep kk (fun x _ hx => by omega)).sub (fun x _ hx => by omega)
      by_cases he : p.en = 0
      · have e0 : (p.en == 0) = true := by simp [he]
        have HE := Lib.hid he
        clear he
        by_cases hx : s.next < s'.next
        · have d3 : decide (s'.next > s.next) = true := by simpa using hx
          have hci : W4.cell? ⟨w0.heap.size + 1, 1 + i, none⟩ = some (.int .i64 ([l0, l1, l2, l3, l4, l5, l6, l7, l8, l9, l10, l11].getD i 0)) := (blk_cell H4.out.2.1 (1 + i)).trans (kcells_get ⟨st ||| 2 ^ i, [l0, l1, l2, l3, l4, l5, l6, l7, l8, l9, l10, l11]⟩ i (by simp only [List.length_cons, List.length_nil]; omega))
          have hfi : W4.frozen? ⟨w0.heap.size + 1, 1 + i, none⟩ = false := blk_free H4.out.2.1 (1 + i)
          go_wp2_with fail
          obtain ⟨ls', hls, hkey, hW6⟩ : ∃ ls' : List Int, ls'.length = 12 ∧ (⟨st ||| 2 ^ i, ls'⟩ : Key) = keyOf' p s.next s'.next ⟨st, [l0, l1, l2, l3, l4, l5, l6, l7, l8, l9, l10, l11]⟩ i ∧ (W4.setCell ⟨w0.heap.size + 1, 1 + i, none⟩ (.int .i64 s.next)).heap[w0.heap.size + 1]? = some (.cells (kcells ⟨st ||| 2 ^ i, ls'⟩) 71 (0, 0)) := by
            refine ⟨[l0, l1, l2, l3, l4, l5, l6, l7, l8, l9, l10, l11].set i s.next, by simp, ?_, ?_⟩
            · unfold keyOf'; rw [if_pos ⟨HE.out, hx⟩]
            · have := blk_set H4.out.2.1 (1 + i) (.int .i64 s.next)
              rw [kcells_set] at this
              exact this
          have k6 : Keep (· = w0.heap.size + 1) W4 (W4.setCell ⟨w0.heap.size + 1, 1 + i, none⟩ (.int .i64 s.next)) := Keep.setCell (bs := (· = w0.heap.size + 1)) (Keep.refl _ W4) (p := ⟨w0.heap.size + 1, 1 + i, none⟩) (Or.inl rfl) _
          generalize W4.setCell ⟨w0.heap.size + 1, 1 + i, none⟩ (.int .i64 s.next) = W6 at *
          clear hci hfi
          obtain ⟨m0, m1, m2, m3, m4, m5, m6, m7, m8, m9, m10, m11, rfl⟩ : ∃ m0 m1 m2 m3 m4 m5 m6 m7 m8 m9 m10 m11, ls' = [m0, m1, m2, m3, m4, m5, m6, m7, m8, m9, m10, m11] := by
            match ls', hls with
            | [m0, m1, m2, m3, m4, m5, m6, m7, m8, m9, m10, m11], _ => exact ⟨_, _, _, _, _, _, _, _, _, _, _, _, rfl⟩
          have hb11 := HC.out.new
          have hsz11 := HW.out.2.2.2.2.2.1
          have hC6 := k6.same H4.out.2.2.1 (by omega)
          have hD6 := k6.same H4.out.2.2.2.1 (by omega)
          have hX6 := k6.same H4.out.2.2.2.2.1 (by omega)
          clear hb11 hsz11
          have bk0 := blk_cell hW6 0
          have bk1 := blk_cell hW6 1
          have bk2 := blk_cell hW6 2
          have bk3 := blk_cell hW6 3
          have bk4 := blk_cell hW6 4
          have bk5 := blk_cell hW6 5
          have bk6 := blk_cell hW6 6
          have bk7 := blk_cell hW6 7
          have bk8 := blk_cell hW6 8
          have bk9 := blk_cell hW6 9
          have bk10 := blk_cell hW6 10
          have bk11 := blk_cell hW6 11
          have bk12 := blk_cell hW6 12
          simp only [kcells, cs, List.map_cons, List.map_nil, List.getElem?_toArray, List.getElem?_cons_zero, List.getElem?_cons_succ] at bk0 bk1 bk2 bk3 bk4 bk5 bk6 bk7 bk8 bk9 bk10 bk11 bk12
          have bo0 := blk_cell hC6 0
          have bof0 := blk_free hC6 0
          have bo1 := blk_cell hC6 1
          have bof1 := blk_free hC6 1
          have bo2 := blk_cell hC6 2
          have bof2 := blk_free hC6 2
          have bo3 := blk_cell hC6 3
          have bof3 := blk_free hC6 3
          have bo4 := blk_cell hC6 4
          have bof4 := blk_free hC6 4
          have bo5 := blk_cell hC6 5
          have bof5 := blk_free hC6 5
          have bo6 := blk_cell hC6 6
          have bof6 := blk_free hC6 6
          have bo7 := blk_cell hC6 7
          have bof7 := blk_free hC6 7
          have bn0 := blk_cell hD6 0
          have bnf0 := blk_free hD6 0
          have bn1 := blk_cell hD6 1
          have bnf1 := blk_free hD6 1
          have bn2 := blk_cell hD6 2
          have bnf2 := blk_free hD6 2
          have bn3 := blk_cell hD6 3
          have bnf3 := blk_free hD6 3
          have bn4 := blk_cell hD6 4
          have bnf4 := blk_free hD6 4
          have bn5 := blk_cell hD6 5
          have bnf5 := blk_free hD6 5
          have bn6 := blk_cell hD6 6
          have bnf6 := blk_free hD6 6
          have bn7 := blk_cell hD6 7
          have bnf7 := blk_free hD6 7
          have bn8 := blk_cell hD6 8
          have bnf8 := blk_free hD6 8
          have bn9 := blk_cell hD6 9
          have bnf9 := blk_free hD6 9
          have bn10 := blk_cell hD6 10
          have bnf10 := blk_free hD6 10
          have bn11 := blk_cell hD6 11
          have bnf11 := blk_free hD6 11
          have bn12 := blk_cell hD6 12
          have bnf12 := blk_free hD6 12
          have bx0 := blk_cell hX6 0
          have bx1 := blk_cell hX6 1
          have bx2 := blk_cell hX6 2
          have bx3 := blk_cell hX6 3
          have bx4 := blk_cell hX6 4
          have bx5 := blk_cell hX6 5
          have bx6 := blk_cell hX6 6
          have bx7 := blk_cell hX6 7
          simp only [kcells, cs, List.map_cons, List.map_nil, List.getElem?_toArray, List.getElem?_cons_zero, List.getElem?_cons_succ] at bx0 bx1 bx2 bx3 bx4 bx5 bx6 bx7
          have HX := Lib.hid (And.intro hC6 (And.intro hD6 (And.intro k6 hkey)))
          clear hC6 hD6 hX6 hW6 k6 hkey a3 c3 R0 q7
          go_region
          all_goals go_wp2_with fail
          have E := setC_two (c1 := [.int .i64 0, .int .i64 0, .int .i64 0, .int .i64 0, .int .i64 0, .slice none 0 0, .bool false, .bool false]) (c2 := [.int .u64 0, .int .i64 0, .int .i64 0, .int .i64 0, .int .i64 0, .int .i64 0, .int .i64 0, .int .i64 0, .int .i64 0, .int .i64 0, .int .i64 0, .int .i64 0, .int .i64 0]) (v1 := [.int .i64 s'.base, .int .i64 s'.first, .int .i64 s'.durable, .int .i64 s'.next, .int .i64 s'.limit, .slice o' n' c', .bool s'.failed, .bool s'.closed]) (v2 := [.int .u64 ((st ||| 2 ^ i : Nat) : Int), .int .i64 m0, .int .i64 m1, .int .i64 m2, .int .i64 m3, .int .i64 m4, .int .i64 m5, .int .i64 m6, .int .i64 m7, .int .i64 m8, .int .i64 m9, .int .i64 m10, .int .i64 m11]) HX.out.1 HX.out.2.1 (by omega) rfl rfl
          simp only [setC] at E
          refine bodyPost_ret (results_put _ _ (w0.heap.size + 1 + 1) (w0.heap.size + 1 + 1 + 1) (cs s' (.slice o' n' c')) (kcells ⟨st ||| 2 ^ i, [m0, m1, m2, m3, m4, m5, m6, m7, m8, m9, m10, m11]⟩) (.bool sb) rfl rfl rfl ?_ ?_ rfl rfl) rfl ?_
          · rw [heap_drew2]; exact E.1
          · rw [heap_drew2]; exact E.2.1
          · exact HFIN.out _ rfl HX.out.2.2.2 _ ((HX.out.2.2.1.mono (fun x _ hx => Or.inl hx)).trans (E.2.2.drew.drew.mono (fun x _ hx => Or.inr hx)))
        · have d3 : decide (s'.next > s.next) = false := by simpa using hx
          go_wp2_with fail
          obtain ⟨ls', hls, hkey, hW6⟩ : ∃ ls' : List Int, ls'.length = 12 ∧ (⟨st ||| 2 ^ i, ls'⟩ : Key) = keyOf' p s.next s'.next ⟨st, [l0, l1, l2, l3, l4, l5, l6, l7, l8, l9, l10, l11]⟩ i ∧ W4.heap[w0.heap.size + 1]? = some (.cells (kcells ⟨st ||| 2 ^ i, ls'⟩) 71 (0, 0)) := by
            refine ⟨[l0, l1, l2, l3, l4, l5, l6, l7, l8, l9, l10, l11], rfl, ?_, H4.out.2.1⟩
            unfold keyOf'; rw [if_neg (fun h => by have := h.2; omega)]
          have k6 : Keep (· = w0.heap.size + 1) W4 W4 := Keep.refl _ W4
          obtain ⟨m0, m1, m2, m3, m4, m5, m6, m7, m8, m9, m10, m11, rfl⟩ : ∃ m0 m1 m2 m3 m4 m5 m6 m7 m8 m9 m10 m11, ls' = [m0, m1, m2, m3, m4, m5, m6, m7, m8, m9, m10, m11] := by
            match ls', hls with
            | [m0, m1, m2, m3, m4, m5, m6, m7, m8, m9, m10, m11], _ => exact ⟨_, _, _, _, _, _, _, _, _, _, _, _, rfl⟩
          have hb11 := HC.out.new
          have hsz11 := HW.out.2.2.2.2.2.1
          have hC6 := k6.same H4.out.2.2.1 (by omega)
          have hD6 := k6.same H4.out.2.2.2.1 (by omega)
          have hX6 := k6.same H4.out.2.2.2.2.1 (by omega)
          clear hb11 hsz11
          have bk0 := blk_cell hW6 0
          have bk1 := blk_cell hW6 1
          have bk2 := blk_cell hW6 2
          have bk3 := blk_cell hW6 3
          have bk4 := blk_cell hW6 4
          have bk5 := blk_cell hW6 5
          have bk6 := blk_cell hW6 6
          have bk7 := blk_cell hW6 7
          have bk8 := blk_cell hW6 8
          have bk9 := blk_cell hW6 9
          have bk10 := blk_cell hW6 10
          have bk11 := blk_cell hW6 11
          have bk12 := blk_cell hW6 12
          simp only [kcells, cs, List.map_cons, List.map_nil, List.getElem?_toArray, List.getElem?_cons_zero, List.getElem?_cons_succ] at bk0 bk1 bk2 bk3 bk4 bk5 bk6 bk7 bk8 bk9 bk10 bk11 bk12
          have bo0 := blk_cell hC6 0
          have bof0 := blk_free hC6 0
          have bo1 := blk_cell hC6 1
          have bof1 := blk_free hC6 1
          have bo2 := blk_cell hC6 2
          have bof2 := blk_free hC6 2
          have bo3 := blk_cell hC6 3
          have bof3 := blk_free hC6 3
          have bo4 := blk_cell hC6 4
          have bof4 := blk_free hC6 4
          have bo5 := blk_cell hC6 5
          have bof5 := blk_free hC6 5
          have bo6 := blk_cell hC6 6
          have bof6 := blk_free hC6 6
          have bo7 := blk_cell hC6 7
          have bof7 := blk_free hC6 7
          have bn0 := blk_cell hD6 0
          have bnf0 := blk_free hD6 0
          have bn1 := blk_cell hD6 1
          have bnf1 := blk_free hD6 1
          have bn2 := blk_cell hD6 2
          have bnf2 := blk_free hD6 2
          have bn3 := blk_cell hD6 3
          have bnf3 := blk_free hD6 3
          have bn4 := blk_cell hD6 4
          have bnf4 := blk_free hD6 4
          have bn5 := blk_cell hD6 5
          have bnf5 := blk_free hD6 5
          have bn6 := blk_cell hD6 6
          have bnf6 := blk_free hD6 6
          have bn7 := blk_cell hD6 7
          have bnf7 := blk_free hD6 7
          have bn8 := blk_cell hD6 8
          have bnf8 := blk_free hD6 8
          have bn9 := blk_cell hD6 9
          have bnf9 := blk_free hD6 9
          have bn10 := blk_cell hD6 10
          have bnf10 := blk_free hD6 10
          have bn11 := blk_cell hD6 11
          have bnf11 := blk_free hD6 11
          have bn12 := blk_cell hD6 12
          have bnf12 := blk_free hD6 12
          have bx0 := blk_cell hX6 0
          have bx1 := blk_cell hX6 1
          have bx2 := blk_cell hX6 2
          have bx3 := blk_cell hX6 3
          have bx4 := blk_cell hX6 4
          have bx5 := blk_cell hX6 5
          have bx6 := blk_cell hX6 6
          have bx7 := blk_cell hX6 7
          simp only [kcells, cs, List.map_cons, List.map_nil, List.getElem?_toArray, List.getElem?_cons_zero, List.getElem?_cons_succ] at bx0 bx1 bx2 bx3 bx4 bx5 bx6 bx7
          have HX := Lib.hid (And.intro hC6 (And.intro hD6 (And.intro k6 hkey)))
          clear hC6 hD6 hX6 hW6 k6 hkey a3 c3 R0 q7
          go_region
          all_goals go_wp2_with fail
          have E := setC_two (c1 := [.int .i64 0, .int .i64 0, .int .i64 0, .int .i64 0, .int .i64 0, .slice none 0 0, .bool false, .bool false]) (c2 := [.int .u64 0, .int .i64 0, .int .i64 0, .int .i64 0, .int .i64 0, .int .i64 0, .int .i64 0, .int .i64 0, .int .i64 0, .int .i64 0, .int .i64 0, .int .i64 0, .int .i64 0]) (v1 := [.int .i64 s'.base, .int .i64 s'.first, .int .i64 s'.durable, .int .i64 s'.next, .int .i64 s'.limit, .slice o' n' c', .bool s'.failed, .bool s'.closed]) (v2 := [.int .u64 ((st ||| 2 ^ i : Nat) : Int), .int .i64 m0, .int .i64 m1, .int .i64 m2, .int .i64 m3, .int .i64 m4, .int .i64 m5, .int .i64 m6, .int .i64 m7, .int .i64 m8, .int .i64 m9, .int .i64 m10, .int .i64 m11]) HX.out.1 HX.out.2.1 (by omega) rfl rfl
          simp only [setC] at E
          refine bodyPost_ret (results_put _ _ (w0.heap.size + 1 + 1) (w0.heap.size + 1 + 1 + 1) (cs s' (.slice o' n' c')) (kcells ⟨st ||| 2 ^ i, [m0, m1, m2, m3, m4, m5, m6, m7, m8, m9, m10, m11]⟩) (.bool sb) rfl rfl rfl ?_ ?_ rfl rfl) rfl ?_
          · rw [heap_drew2]; exact E.1
          · rw [heap_drew2]; exact E.2.1
          · exact HFIN.out _ rfl HX.out.2.2.2 _ ((HX.out.2.2.1.mono (fun x _ hx => Or.inl hx)).trans (E.2.2.drew.drew.mono (fun x _ hx => Or.inr hx)))
      · have e0 : (p.en == 0) = false := by simp [he]
        have HE := Lib.hid he
        clear he
        go_wp2_with fail
        obtain ⟨ls', hls, hkey, hW6⟩ : ∃ ls' : List Int, ls'.length = 12 ∧ (⟨st ||| 2 ^ i, ls'⟩ : Key) = keyOf' p s.next s'.next ⟨st, [l0, l1, l2, l3, l4, l5, l6, l7, l8, l9, l10, l11]⟩ i ∧ W4.heap[w0.heap.size + 1]? = some (.cells (kcells ⟨st ||| 2 ^ i, ls'⟩) 71 (0, 0)) := by
          refine ⟨[l0, l1, l2, l3, l4, l5, l6, l7, l8, l9, l10, l11], rfl, ?_, H4.out.2.1⟩
          unfold keyOf'; rw [if_neg (fun h => HE.out h.1)]
        have k6 : Keep (· = w0.heap.size + 1) W4 W4 := Keep.refl _ W4
        obtain ⟨m0, m1, m2, m3, m4, m5, m6, m7, m8, m9, m10, m11, rfl⟩ : ∃ m0 m1 m2 m3 m4 m5 m6 m7 m8 m9 m10 m11, ls' = [m0, m1, m2, m3, m4, m5, m6, m7, m8, m9, m10, m11] := by
          match ls', hls with
          | [m0, m1, m2, m3, m4, m5, m6, m7, m8, m9, m10, m11], _ => exact ⟨_, _, _, _, _, _, _, _, _, _, _, _, rfl⟩
        have hb11 := HC.out.new
        have hsz11 := HW.out.2.2.2.2.2.1
        have hC6 := k6.same H4.out.2.2.1 (by omega)
        have hD6 := k6.same H4.out.2.2.2.1 (by omega)
        have hX6 := k6.same H4.out.2.2.2.2.1 (by omega)
        clear hb11 hsz11
        have bk0 := blk_cell hW6 0
        have bk1 := blk_cell hW6 1
        have bk2 := blk_cell hW6 2
        have bk3 := blk_cell hW6 3
        have bk4 := blk_cell hW6 4
        have bk5 := blk_cell hW6 5
        have bk6 := blk_cell hW6 6
        have bk7 := blk_cell hW6 7
        have bk8 := blk_cell hW6 8
        have bk9 := blk_cell hW6 9
        have bk10 := blk_cell hW6 10
        have bk11 := blk_cell hW6 11
        have bk12 := blk_cell hW6 12
        simp only [kcells, cs, List.map_cons, List.map_nil, List.getElem?_toArray, List.getElem?_cons_zero, List.getElem?_cons_succ] at bk0 bk1 bk2 bk3 bk4 bk5 bk6 bk7 bk8 bk9 bk10 bk11 bk12
        have bo0 := blk_cell hC6 0
        have bof0 := blk_free hC6 0
        have bo1 := blk_cell hC6 1
        have bof1 := blk_free hC6 1
        have bo2 := blk_cell hC6 2
        have bof2 := blk_free hC6 2
        have bo3 := blk_cell hC6 3
        have bof3 := blk_free hC6 3
        have bo4 := blk_cell hC6 4
        have bof4 := blk_free hC6 4
        have bo5 := blk_cell hC6 5
        have bof5 := blk_free hC6 5
        have bo6 := blk_cell hC6 6
        have bof6 := blk_free hC6 6
        have bo7 := blk_cell hC6 7
        have bof7 := blk_free hC6 7
        have bn0 := blk_cell hD6 0
        have bnf0 := blk_free hD6 0
        have bn1 := blk_cell hD6 1
        have bnf1 := blk_free hD6 1
        have bn2 := blk_cell hD6 2
        have bnf2 := blk_free hD6 2
        have bn3 := blk_cell hD6 3
        have bnf3 := blk_free hD6 3
        have bn4 := blk_cell hD6 4
        have bnf4 := blk_free hD6 4
        have bn5 := blk_cell hD6 5
        have bnf5 := blk_free hD6 5
        have bn6 := blk_cell hD6 6
        have bnf6 := blk_free hD6 6
        have bn7 := blk_cell hD6 7
        have bnf7 := blk_free hD6 7
        have bn8 := blk_cell hD6 8
        have bnf8 := blk_free hD6 8
        have bn9 := blk_cell hD6 9
        have bnf9 := blk_free hD6 9
        have bn10 := blk_cell hD6 10
        have bnf10 := blk_free hD6 10
        have bn11 := blk_cell hD6 11
        have bnf11 := blk_free hD6 11
        have bn12 := blk_cell hD6 12
        have bnf12 := blk_free hD6 12
        have bx0 := blk_cell hX6 0
        have bx1 := blk_cell hX6 1
        have bx2 := blk_cell hX6 2
        have bx3 := blk_cell hX6 3
        have bx4 := blk_cell hX6 4
        have bx5 := blk_cell hX6 5
        have bx6 := blk_cell hX6 6
        have bx7 := blk_cell hX6 7
        simp only [kcells, cs, List.map_cons, List.map_nil, List.getElem?_toArray, List.getElem?_cons_zero, List.getElem?_cons_succ] at bx0 bx1 bx2 bx3 bx4 bx5 bx6 bx7
        have HX := Lib.hid (And.intro hC6 (And.intro hD6 (And.intro k6 hkey)))
        clear hC6 hD6 hX6 hW6 k6 hkey a3 c3 R0 q7
        go_region
        all_goals go_wp2_with fail
        have E := setC_two (c1 := [.int .i64 0, .int .i64 0, .int .i64 0, .int .i64 0, .int .i64 0, .slice none 0 0, .bool false, .bool false]) (c2 := [.int .u64 0, .int .i64 0, .int .i64 0, .int .i64 0, .int .i64 0, .int .i64 0, .int .i64 0, .int .i64 0, .int .i64 0, .int .i64 0, .int .i64 0, .int .i64 0, .int .i64 0]) (v1 := [.int .i64 s'.base, .int .i64 s'.first, .int .i64 s'.durable, .int .i64 s'.next, .int .i64 s'.limit, .slice o' n' c', .bool s'.failed, .bool s'.closed]) (v2 := [.int .u64 ((st ||| 2 ^ i : Nat) : Int), .int .i64 m0, .int .i64 m1, .int .i64 m2, .int .i64 m3, .int .i64 m4, .int .i64 m5, .int .i64 m6, .int .i64 m7, .int .i64 m8, .int .i64 m9, .int .i64 m10, .int .i64 m11]) HX.out.1 HX.out.2.1 (by omega) rfl rfl
        simp only [setC] at E
        refine bodyPost_ret (results_put _ _ (w0.heap.size + 1 + 1) (w0.heap.size + 1 + 1 + 1) (cs s' (.slice o' n' c')) (kcells ⟨st ||| 2 ^ i, [m0, m1, m2, m3, m4, m5, m6, m7, m8, m9, m10, m11]⟩) (.bool sb) rfl rfl rfl ?_ ?_ rfl rfl) rfl ?_
        · rw [heap_drew2]; exact E.1
        · rw [heap_drew2]; exact E.2.1
        · exact HFIN.out _ rfl HX.out.2.2.2 _ ((HX.out.2.2.1.mono (fun x _ hx => Or.inl hx)).trans (E.2.2.drew.drew.mono (fun x _ hx => Or.inr hx)))
  · have d2 : (bits BinOp.andNot IntKind.u64 (bi : Int) (st : Int) != 0) = true := by simpa using hbef
    obtain rfl : O = none := HO1.out fun h => hbef (HAN.out.2 (HFR.out.1 h).2)
    clear hbit hbef
    go_enter Try.func41, Try.ntmps41
    go_wp2_with fail
    go_quiet (fail)
    simp only [drewN_alloc]
    have hz0 : w.heap.size = (w.drewN nq).heap.size := rfl
    have hb0 : Below w.heap.size w (w.drewN nq) := ⟨rfl, rfl, rfl, Nat.le_refl _, fun _ _ => rfl⟩
    rw [hz0]
    generalize w.drewN nq = w0 at *
    go_wp2_with fail
    go_region
    all_goals go_wp2_with fail
    refine bodyPost_ret (results_put _ _ (w0.heap.size + 1 + 1) (w0.heap.size + 1 + 1 + 1) _ _ _ rfl rfl rfl (blk_alloc (blk_new_at _ _ (by simp)) _) (blk_new_at _ _ (by simp)) rfl rfl) rfl ?_
    exact ⟨⟨s, vo, nb, vc, ⟨st, [l0, l1, l2, l3, l4, l5, l6, l7, l8, l9, l10, l11]⟩, rfl, rfl⟩, below4 hb0⟩
end Go.Proofs.Ytjiehgfamlidnaa.Lin
