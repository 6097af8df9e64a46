/- A part of the proof of ScriptBlanks: nothing is assumed. By an AI agent. -/
import Derived.Test.YtkkecpamnnojoaaGreatDoorBq16
import Derived.Lib.AppendStr
import Derived.Deep.RegionLaw
namespace Go.Proofs.YtkkecpamnnojoaaGreatDoor
open Go.ChangeShapes Go.WideShapes Go.ChangeAt Go.RowKit Go.Shelf
open Bt Dc By
set_option linter.unusedVariables false
attribute [local go_sem] Oper.semAt_some
namespace Sc

theorem PI.low {w0 : World} {q : Nat} {pre : List Str} {W : World} {own : Nat → Option T} {m : M} (h : PI w0 q pre W own m) {g : Nat} (hg : own g ≠ none) : g = q + 1 + 1 + 1 ∨ q + 8 < g := by
 by_cases h1 : g = q + 1 + 1 + 1
 ·exact Or.inl h1
 ·right
  apply Nat.lt_of_not_le
  intro h2
  exact hg (h.no g h2 h1)
theorem nxt_two {st : Nat} {k : Int} (h0 : ¬ st ≤ 1) (h5 : st ≤ 5) (hk : k = 1 ∨ k = 2) : nxt st k = 6 := by
 obtain rfl | rfl | rfl | rfl : st = 2 ∨ st = 3 ∨ st = 4 ∨ st = 5 := by omega
 all_goals (rcases hk with rfl | rfl <;> rfl)
theorem PAt.leave {w : World} {own : Nat → Option T} {pb : Nat} {m : M} (h : PAt w own pb m) : LAt w (fun g => if g = pb then none else own g) m := by
 have ho : ∀ g (t : T), t.1 ≠ 0 → own g = some t → (if g = pb then none else own g) = some t := fun g t h1 h2 => by
  rw [if_neg]
  ·exact h2
  ·intro e
   subst e
   rw [h.tag] at h2
   cases h2
   exact h1 rfl
 have k := Keep.refl (fun _ => False) w
 refine ⟨fun g hg => ?_, h.fs.move k (fun _ _ => id) fun g => ho g _ (by decide), h.ts.move k (fun _ _ => id) fun g => ho g _ (by decide), fun i t ht => (h.calls i t ht).move k (fun _ _ _ _ _ => id) fun g n j hn => ho g _ (by show n ≠ 0; omega),
  h.ps.move k (fun _ _ => id) fun g => ho g _ (by decide), h.es.move k (fun _ _ => id) fun g => ho g _ (by decide), fun i e he => (h.ends i e he).move k (fun _ _ _ _ _ => id) fun g n j hn => ho g _ (by show n ≠ 0; omega)⟩
 by_cases e : g = pb
 ·simp [e] at hg
 ·rw [if_neg e] at hg; exact h.low g hg
theorem pi_start {w W : World} {q : Nat} (hq : w.heap.size = q)
  (b0 : W.heap[q]? = some (.cells m0.val 40 (0, 0))) (b1 : W.heap[q + 1]? = some (.cells #[.int .i64 0] 3 (0, 0))) (b2 : W.heap[q + 1 + 1]? = some (.cells #[.int .i64 0] 41 (0, 0)))
  (b3 : W.heap[q + 1 + 1 + 1]? = some (.cells m0.cells 61 (0, 0))) (b4 : W.heap[q + 1 + 1 + 1 + 1]? = some (.cells #[.pointer (some ⟨q + 1 + 1 + 1, 0, none⟩)] 57 (0, 0)))
  (b5 : W.heap[q + 1 + 1 + 1 + 1 + 1]? = some (.cells #[.int .i64 0] 3 (0, 0))) (k : Keep (fun _ => False) w W) : ∃ own m, PI w q [] W own m := by
 refine ⟨fun g => if g = q + 1 + 1 + 1 then some (0, 0, 0) else none, m0, rfl, ⟨?_, b3, by simp, RowT.nil _ _ _ _ _, RowT.nil _ _ _ _ _, ?_, RowT.nil _ _ _ _ _, RowT.nil _ _ _ _ _, ?_⟩, ?_, few0, by decide, b0, b1, b2, b4, b5, k⟩
 ·intro g hg
  by_cases h : g = q + 1 + 1 + 1
  ·subst h; exact lt_of_block b3
  ·simp [h] at hg
 ·intro i t h; simp [m0] at h
 ·intro i t h; simp [m0] at h
 ·intro g _ h; simp only [if_neg h]
set_option maxHeartbeats 2000000 in
theorem fin_world (V : World) (q : Nat) (n c : Int) (x y : Int) (v0 v1 v2 v3 v4 v5 v6 v7 v8 v9 v10 v11 v12 v13 : Value) (r0 : V.heap[q]? = some (.cells m0.val 40 (0, 0))) (r1 : V.heap[q + 1]? = some (.cells #[.int .i64 x] 3 (0, 0))) (r2 : V.heap[q + 1 + 1]? = some (.cells #[.int .i64 y] 41 (0, 0))) :
  ∃ W, (((((((((((((((V.setCell ⟨q, 0, none⟩ v0).setCell ⟨q, 1, none⟩ v1).setCell ⟨q, 2, none⟩ v2).setCell ⟨q, 3, none⟩ v3).setCell ⟨q, 4, none⟩ v4).setCell ⟨q, 5, none⟩ v5).setCell ⟨q, 6, none⟩ v6).setCell ⟨q, 7, none⟩ v7).setCell ⟨q, 8, none⟩ v8).setCell ⟨q, 9, none⟩ v9).setCell ⟨q, 10, none⟩ v10).setCell ⟨q, 11, none⟩ v11).setCell ⟨q, 12, none⟩ v12).setCell ⟨q, 13, none⟩ v13).setCell ⟨q + 1, 0, none⟩ (.int .i64 n)).setCell ⟨q + 1 + 1, 0, none⟩ (.int .i64 c) = W ∧ W.heap[q]? = some (.cells #[v0, v1, v2, v3, v4, v5, v6, v7, v8, v9, v10, v11, v12, v13] 40 (0, 0)) ∧ W.heap[q + 1]? = some (.cells #[.int .i64 n] 3 (0, 0)) ∧ W.heap[q + 1 + 1]? = some (.cells #[.int .i64 c] 41 (0, 0)) ∧ Keep (fun g => g = q ∨ g = q + 1 ∨ g = q + 1 + 1) V W := by
 obtain ⟨W, hW⟩ : ∃ W, ((((((((((((((V.setCell ⟨q, 0, none⟩ v0).setCell ⟨q, 1, none⟩ v1).setCell ⟨q, 2, none⟩ v2).setCell ⟨q, 3, none⟩ v3).setCell ⟨q, 4, none⟩ v4).setCell ⟨q, 5, none⟩ v5).setCell ⟨q, 6, none⟩ v6).setCell ⟨q, 7, none⟩ v7).setCell ⟨q, 8, none⟩ v8).setCell ⟨q, 9, none⟩ v9).setCell ⟨q, 10, none⟩ v10).setCell ⟨q, 11, none⟩ v11).setCell ⟨q, 12, none⟩ v12).setCell ⟨q, 13, none⟩ v13) = W := ⟨_, rfl⟩
 have k : Keep (fun g => g = q) V W := by
  rw [← hW]
  exact (((((((((((((((Keep.refl (fun g => g = q) V).setCell (p := ⟨q, 0, none⟩) (Or.inl rfl) _).setCell (p := ⟨q, 1, none⟩) (Or.inl rfl) _).setCell (p := ⟨q, 2, none⟩) (Or.inl rfl) _).setCell (p := ⟨q, 3, none⟩) (Or.inl rfl) _).setCell (p := ⟨q, 4, none⟩) (Or.inl rfl) _).setCell (p := ⟨q, 5, none⟩) (Or.inl rfl) _).setCell (p := ⟨q, 6, none⟩) (Or.inl rfl) _).setCell (p := ⟨q, 7, none⟩) (Or.inl rfl) _).setCell (p := ⟨q, 8, none⟩) (Or.inl rfl) _).setCell (p := ⟨q, 9, none⟩) (Or.inl rfl) _).setCell (p := ⟨q, 10, none⟩) (Or.inl rfl) _).setCell (p := ⟨q, 11, none⟩) (Or.inl rfl) _).setCell (p := ⟨q, 12, none⟩) (Or.inl rfl) _).setCell (p := ⟨q, 13, none⟩) (Or.inl rfl) _)
 have b : W.heap[q]? = some (.cells #[v0, v1, v2, v3, v4, v5, v6, v7, v8, v9, v10, v11, v12, v13] 40 (0, 0)) := by
  rw [← hW]
  have h := r0
  simp only [m0, M.val] at h
  replace h := blk_set h 0 v0
  replace h := blk_set h 1 v1
  replace h := blk_set h 2 v2
  replace h := blk_set h 3 v3
  replace h := blk_set h 4 v4
  replace h := blk_set h 5 v5
  replace h := blk_set h 6 v6
  replace h := blk_set h 7 v7
  replace h := blk_set h 8 v8
  replace h := blk_set h 9 v9
  replace h := blk_set h 10 v10
  replace h := blk_set h 11 v11
  replace h := blk_set h 12 v12
  replace h := blk_set h 13 v13
  simp only [List.setIfInBounds_toArray, List.set_cons_zero, List.set_cons_succ] at h
  exact h
 have b1 := k.same r1 (by omega)
 have b2 := k.same r2 (by omega)
 rw [hW]
 refine ⟨_, rfl, ?_, ?_, ?_, ?_⟩
 ·exact blk_other (blk_other b (by omega) _ _) (by omega) _ _
 ·exact blk_other (blk_set b1 0 _) (by omega) _ _
 ·exact blk_set (blk_other b2 (by omega) _ _) 0 _
 ·have k' : Keep (fun g => g = q ∨ g = q + 1 ∨ g = q + 1 + 1) V W := k.mono fun _ _ h => Or.inl h
  exact (k'.setCell (p := ⟨q + 1, 0, none⟩) (Or.inl (Or.inr (Or.inl rfl))) _).setCell (p := ⟨q + 1 + 1, 0, none⟩) (Or.inl (Or.inr (Or.inr rfl))) _
theorem fin_drew (V : World) (q : Nat) (n c : Int) (x y : Int) (v0 v1 v2 v3 v4 v5 v6 v7 v8 v9 v10 v11 v12 v13 : Value) (r0 : V.heap[q]? = some (.cells m0.val 40 (0, 0))) (r1 : V.heap[q + 1]? = some (.cells #[.int .i64 x] 3 (0, 0))) (r2 : V.heap[q + 1 + 1]? = some (.cells #[.int .i64 y] 41 (0, 0))) :
  ∃ W, ((((((((((((((((V.setCell ⟨q, 0, none⟩ v0).setCell ⟨q, 1, none⟩ v1).setCell ⟨q, 2, none⟩ v2).setCell ⟨q, 3, none⟩ v3).setCell ⟨q, 4, none⟩ v4).setCell ⟨q, 5, none⟩ v5).setCell ⟨q, 6, none⟩ v6).setCell ⟨q, 7, none⟩ v7).setCell ⟨q, 8, none⟩ v8).setCell ⟨q, 9, none⟩ v9).setCell ⟨q, 10, none⟩ v10).setCell ⟨q, 11, none⟩ v11).setCell ⟨q, 12, none⟩ v12).setCell ⟨q, 13, none⟩ v13).setCell ⟨q + 1, 0, none⟩ (.int .i64 n)).setCell ⟨q + 1 + 1, 0, none⟩ (.int .i64 c)).drew = W ∧ W.heap[q]? = some (.cells #[v0, v1, v2, v3, v4, v5, v6, v7, v8, v9, v10, v11, v12, v13] 40 (0, 0)) ∧ W.heap[q + 1]? = some (.cells #[.int .i64 n] 3 (0, 0)) ∧ W.heap[q + 1 + 1]? = some (.cells #[.int .i64 c] 41 (0, 0)) ∧ Keep (fun g => g = q ∨ g = q + 1 ∨ g = q + 1 + 1) V W := by
 obtain ⟨W, hW, h0, h1, h2, k⟩ := fin_world V q n c x y v0 v1 v2 v3 v4 v5 v6 v7 v8 v9 v10 v11 v12 v13 r0 r1 r2
 rw [hW]
 exact ⟨_, rfl, h0, h1, h2, k.drewN 1⟩
set_option maxRecDepth 100000 in
set_option maxHeartbeats 16000000 in
theorem parse_any (s : Str) (w : World) (hE : Ev w.heap.size w) : Calls Tryz.prog 8 #[.string (strB s)] w (ParseR s w) := by
 have HE := Lib.hid hE
 have hz : ((strB s).size : Int) = (s.length : Int) := by rw [strB_size]
 obtain ⟨q, hq⟩ : ∃ q, w.heap.size = q := ⟨_, rfl⟩
 refine (callsIn_wide (n := 4)).1 ?_
 refine callsIn_of_wp_marks Tryz.func8 rfl trivial ?_ rfl
 simp only [Tryz.ntmps8, List.size_toArray, List.length_cons, List.length_nil, Nat.reduceAdd, Nat.reduceSub, Array.replicate_succ, Array.replicate_zero, List.push_toArray, List.append_toArray, List.nil_append, List.cons_append]
 rcases Nat.lt_or_ge 65536 s.length with hl | hl
 ·have hl1 : (65536 : Int) < (s.length : Int) := by omega
  have hP : parseF s = (play0, 0, 3) := by unfold parseF; rw [if_pos hl]
  clear hE
  gi_wp2
  refine ⟨_, results_parse _ _ q m0.val 0 3 rfl rfl rfl (blk_alloc (blk_alloc (blk_new_at w _ hq) _) _) rfl (blk_alloc (blk_new_at _ _ (by simp [hq])) _) (blk_new_at _ _ (by simp [hq])), ?_⟩
  exact ⟨m0, fun _ => none, 0, 3, rfl, by rw [hP]; rfl, LAt.zero _, fun g h => absurd rfl h, (((Keep.refl _ w).alloc _).alloc _).alloc _⟩
 ·have hl1 : ¬ (65536 : Int) < (s.length : Int) := by omega
  have hfl : Fence.wide.fn 18 := trivial
  have HLM := Lib.hid (lines_made (strB s))
  have HL := Lib.hid hl
  clear hE hl
  gi_wp2_with (gi_at_call 18; refine (callsIn_wide.2 (HLM.out _)).mono ?_; rintro e w' ⟨rfl, rfl⟩)
  obtain ⟨W, hW, b0, b1, b2, b3, b4, b5, b6, hsz, kW⟩ := seven w (.cells #[.int .i64 0, .int .i64 0, .int .i64 0, .int .i64 0, .int .i64 0, .int .i64 0, .int .i64 0, .float .f64 0, .float .f64 0, .slice none 0 0, .slice none 0 0, .slice none 0 0, .int .i64 0, .slice none 0 0] 40) (.cells #[.int .i64 0] 3) (.cells #[.int .i64 0] 41)
   (.cells #[.int .i64 0, .int .i64 0, .int .i64 0, .int .i64 0, .int .i64 0, .int .i64 0, .int .i64 0, .float .f64 0, .float .f64 0, .slice none 0 0, .slice none 0 0, .slice none 0 0, .int .i64 0, .slice none 0 0, .func (.func 17) #[] #[]] 61) (.cells #[.pointer (some ⟨q + 1 + 1 + 1, 0, none⟩)] 57) (.cells #[.int .i64 0] 3) (.cells #[.string (strB s)] 9)
  rw [hW]
  rw [hq] at b0 b1 b2 b3 b4 b5 b6 hsz
  clear hW
  have HI0 := Lib.hid (pi_start hq b0 b1 b2 b3 b4 b5 kW)
  have hsz7 : W.heap.size = q + 7 := by omega
  have HLG := Lib.hid (lines_gives 3 q (q + 1 + 1 + 1 + 1 + 1 + 1) s W (by omega) (by omega) (by rw [← hq]; exact HE.out.kept kW.none) b6 (by have := HL.out; omega))
  clear b0 b1 b2 b3 b4 b5 b6 kW hsz
  refine It.range_st rfl (by omega) (gf := 40) (lb := #[.pointer (some ⟨q + 1 + 1 + 1 + 1 + 1 + 1, 0, none⟩)]) rfl trivial (enters_of Tryz.func40 (by kernel_rfl) rfl) (encs := fun x : Str => #[.string (strB x)]) (fun _ => rfl) q (q + 1 + 1 + 1 + 1 + 1 + 1) (by omega) (by omega) (linesOf s) HLG.out
   (fun pre A => ∃ own m, PI w q pre A own m) (fun pre A => ∃ c, PX w q pre A c)
   ?hIg ?hIb ?hIl ?hIxl ?h0 (fun x : Str => { tmps := #[.string (strB s), undef, .pointer (some ⟨q, 0, none⟩), .pointer (some ⟨q + 1, 0, none⟩), .pointer (some ⟨q + 1 + 1, 0, none⟩), .pointer (some ⟨q + 1 + 1 + 1 + 1, 0, none⟩), .pointer (some ⟨q + 1 + 1 + 1 + 1 + 1, 0, none⟩), .string (strB x), undef, .string (strB s), .int .i64 (s.length : Int), .bool false, undef, .agg #[.int .i64 0, .int .i64 0, .int .i64 0, .int .i64 0, .int .i64 0, .int .i64 0, .int .i64 0, .float .f64 0, .float .f64 0, .slice none 0 0, .slice none 0 0, .slice none 0 0, .int .i64 0, .slice none 0 0, .func (.func 17) #[] #[]], .pointer (some ⟨q + 1 + 1 + 1, 0, none⟩), .string (strB s), .func (.func 40) #[] #[.pointer (some ⟨q + 1 + 1 + 1 + 1 + 1 + 1, 0, none⟩)], .string (strB x), undef, undef, undef, undef, undef, undef, undef, undef, undef, undef, undef, undef, undef, undef, undef, undef, undef, undef, undef, undef, undef, undef, undef, undef, undef, undef, undef, undef, undef], defers := [] }) ?assign ?body ?done ?stop
  case hIg =>
   rintro pre A A' ⟨own, m, h⟩ hg
   exact ⟨own, m, h.keep hq (⟨hg.os, hg.tape, hg.output, hg.size, fun i hi _ => hg.block i hi (by simp)⟩ : Keep (fun _ => False) A A') fun _ h => h.elim⟩
  case hIb =>
   rintro pre A v ⟨own, m, h⟩
   refine ⟨own, m, h.keep hq ((Keep.refl (fun g => g = q + 1 + 1 + 1 + 1 + 1 + 1) A).setCell (p := ⟨q + 1 + 1 + 1 + 1 + 1 + 1, 0, none⟩) (Or.inl rfl) v) ?_⟩
   rintro g rfl
   exact ⟨by omega, h.no _ (by omega) (by omega)⟩
  case hIl =>
   rintro pre A o lp ⟨own, m, h⟩ hl
   rw [hsz7] at hl ⊢
   refine ⟨own, m, h.keep hq (bs := fun g => g = q + 7 + 1) ⟨rfl, rfl, rfl, by simp, fun i _ hn => World.putObj_heap_other hn⟩ ?_⟩
   rintro g rfl
   exact ⟨by omega, h.no _ (by omega) (by omega)⟩
  case hIxl =>
   rintro pre A o lp ⟨c, h⟩ hl
   rw [hsz7] at hl ⊢
   refine ⟨c, h.keep hq (bs := fun g => g = q + 7 + 1) ⟨rfl, rfl, rfl, by simp, fun i _ hn => World.putObj_heap_other hn⟩ ?_⟩
   rintro g rfl
   omega
  case h0 => exact HI0.out
  case assign =>
   intro l x W K hK
   gi_wp2
   exact hK
  case body =>
   rintro l pre x W hpre hD ⟨lp, hLp⟩ ⟨own, m, hPI⟩
   rw [hsz7] at hD hLp ⊢
   have hxs : x ∈ linesOf s := by
    obtain ⟨t, ht⟩ := hpre
    rw [← ht]; simp
   have hx : x.length ≤ 65536 := Nat.le_trans (lines_mem s x hxs) HL.out
   have hlen : pre.length + 1 ≤ 65536 := by
    have h1 := hpre.length_le
    have h2 := lines_len s
    have h3 := HL.out
    simp at h1
    omega
   have hPA : parseFrom ⟨play0, 0⟩ 0 (pre ++ [x]) = (match lineF m.ps_ x with | .error e => .error (pre.length + 1, e) | .ok σ' => .ok σ') := by
    rw [parseFrom_app, hPI.read]
    simp only []
    rw [parseFrom]
    cases lineF m.ps_ x with
    | error e => simp
    | ok σ' => rfl
   have c5 := blk_cell hPI.bx 0
   have cn := blk_cell hPI.bn 0
   have fn_ := blk_free hPI.bn 0
   simp at c5 cn
   have HH := Lib.hid (And.intro hPI (And.intro hD (And.intro hLp (And.intro hx (And.intro hPA hlen)))))
   have hm : (pre.length : Int) + 1 ≤ 65536 := by omega
   have hm0 : (0 : Int) ≤ (pre.length : Int) := by omega
   have hfn : Fence.wide.fn 19 := trivial
   generalize hN : (pre.length : Int) = N at *
   clear hPI hD hLp hx hPA hlen hxs hpre
   gi_wp2
   obtain ⟨V1, hV1⟩ : ∃ V1, W.setCell ⟨q + 1 + 1 + 1 + 1 + 1, 0, none⟩ (.int .i64 (N + 1)) = V1 := ⟨_, rfl⟩
   rw [hV1]
   have k1 : Keep (fun g => g = q + 1 + 1 + 1 + 1 + 1) W V1 := by rw [← hV1]; exact (Keep.refl (fun g => g = q + 1 + 1 + 1 + 1 + 1) W).setCell (p := ⟨q + 1 + 1 + 1 + 1 + 1, 0, none⟩) (Or.inl rfl) _
   have bn1 : V1.heap[q + 1 + 1 + 1 + 1 + 1]? = some (.cells #[.int .i64 (N + 1)] 3 (0, 0)) := by rw [← hV1]; exact blk_set HH.out.1.bn 0 _
   have hp1 : PAt V1 own (q + 1 + 1 + 1) m := HH.out.1.pat.keep k1 (fun g hg e => by subst e; have := HH.out.1.low hg; omega)
   have kw1 : Keep (fun _ => False) w V1 := HH.out.1.k.own k1 (fun i e => Or.inr (by omega))
   have hev : Ev q V1 := by rw [← hq]; exact HE.out.on (kw1.none)
   have HL1 := Lib.hid (line_any q x hp1 hev HH.out.2.2.2.1 (fun g hg => by have := HH.out.1.low hg; omega) HH.out.1.few HH.out.1.st)
   have HK := Lib.hid (And.intro k1 (And.intro bn1 (And.intro kw1 hp1)))
   clear k1 bn1 kw1 hp1 hev hV1
   refine (CallsIn.inRound l (callsIn_wide.2 HL1.out)).mono ?_
   clear HL1
   rintro e V2 (⟨own', m', hr, rfl, hp2, hto⟩ | ⟨c, hr, hc0, rfl, k2⟩)
   ·have HR := Lib.hid (And.intro hr (And.intro hp2 hto))
    clear hr hp2 hto
    gi_wp2
    have k02 : Keep (fun g => own g ≠ none ∨ g = q + 1 + 1 + 1 + 1 + 1) W V2 := (HK.out.1.mono fun _ _ h => Or.inr h).trans (HR.out.2.2.keep.mono fun _ _ h => Or.inl h)
    have hPI2 : PI w q (pre ++ [x]) V2 own' m' := by
     have hno : ∀ g, g ≤ q + 8 → g ≠ q + 1 + 1 + 1 → g ≠ q + 1 + 1 + 1 + 1 + 1 → ¬ (own g ≠ none ∨ g = q + 1 + 1 + 1 + 1 + 1) := fun g h1 h2 h3 h => by
      rcases h with h | h
      ·exact h (HH.out.1.no g h1 h2)
      ·exact h3 h
     have hf := few_line (σ := m.ps_) HH.out.1.few HH.out.1.st HR.out.1
     have hs1 : q + 8 < V1.heap.size := Nat.lt_of_lt_of_le (by have := lt_of_block HH.out.2.2.1; omega) HK.out.1.size
     exact {
      read := by rw [HH.out.2.2.2.2.1, HR.out.1]
      pat := HR.out.2.1
      no := fun g h1 h2 => HR.out.2.2.old g (by omega) (HH.out.1.no g h1 h2)
      few := hf.1
      st := hf.2
      r0 := k02.same HH.out.1.r0 (hno _ (by omega) (by omega) (by omega))
      r1 := k02.same HH.out.1.r1 (hno _ (by omega) (by omega) (by omega))
      r2 := k02.same HH.out.1.r2 (hno _ (by omega) (by omega) (by omega))
      bx := k02.same HH.out.1.bx (hno _ (by omega) (by omega) (by omega))
      bn := by
       have h := HR.out.2.2.keep.same HK.out.2.1 (fun h => h (HH.out.1.no _ (by omega) (by omega)))
       rw [h, ← hN]
       simp
      k := HH.out.1.k.own k02 fun i hi => Or.inr (by
       rcases hi with hi | hi
       ·have := HH.out.1.low hi; omega
       ·omega) }
    refine ⟨⟨k02.block _ (by have := lt_of_block HH.out.2.1; omega) ?_, k02.block _ (by have := lt_of_block HH.out.2.2.1; omega) ?_⟩, ⟨k02.below (by have := lt_of_block HH.out.2.1; omega) ?_, k02.block _ (by have := lt_of_block HH.out.2.1; omega) ?_⟩, own', m', hPI2⟩
    ·rintro (h | h)
     ·exact h (HH.out.1.no _ (by omega) (by omega))
     ·omega
    ·rintro (h | h)
     ·exact h (HH.out.1.no _ (by omega) (by omega))
     ·omega
    ·rintro i (h | h)
     ·have := HH.out.1.low h; omega
     ·omega
    ·rintro (h | h)
     ·exact h (HH.out.1.no _ (by omega) (by omega))
     ·omega
   ·have HR := Lib.hid (And.intro hr (And.intro hc0 k2))
    have hcb : (c != 0) = true := by simpa using hc0
    have k02 : Keep (fun g => own g ≠ none ∨ g = q + 1 + 1 + 1 + 1 + 1) W V2 := (HK.out.1.mono fun _ _ h => Or.inr h).trans (HR.out.2.2.mono fun _ _ h => Or.inl h)
    have hno : ∀ g, g ≤ q + 8 → g ≠ q + 1 + 1 + 1 → g ≠ q + 1 + 1 + 1 + 1 + 1 → ¬ (own g ≠ none ∨ g = q + 1 + 1 + 1 + 1 + 1) := fun g h1 h2 h3 h => by
     rcases h with h | h
     ·exact h (HH.out.1.no g h1 h2)
     ·exact h3 h
    have r0 := k02.same HH.out.1.r0 (hno _ (by omega) (by omega) (by omega))
    have r1 := k02.same HH.out.1.r1 (hno _ (by omega) (by omega) (by omega))
    have r2 := k02.same HH.out.1.r2 (hno _ (by omega) (by omega) (by omega))
    have bn2 := HR.out.2.2.same HK.out.2.1 (fun h => h (HH.out.1.no _ (by omega) (by omega)))
    have HB := Lib.hid (And.intro r0 (And.intro r1 (And.intro r2 (And.intro k02 hno))))
    have cn := blk_cell bn2 0
    have c0 := blk_cell r0
    have c1 := blk_cell r1 0
    have c2 := blk_cell r2 0
    have f0 := blk_free r0
    have f1 := blk_free r1 0
    have f2 := blk_free r2 0
    simp at cn c1 c2
    simp only [m0, M.val] at c0
    have c00 := c0 0
    have c01 := c0 1
    have c02 := c0 2
    have c03 := c0 3
    have c04 := c0 4
    have c05 := c0 5
    have c06 := c0 6
    have c07 := c0 7
    have c08 := c0 8
    have c09 := c0 9
    have c010 := c0 10
    have c011 := c0 11
    have c012 := c0 12
    have c013 := c0 13
    simp at c00 c01 c02 c03 c04 c05 c06 c07 c08 c09 c010 c011 c012 c013
    clear hr hc0 k2 r0 r1 r2 bn2 c0 hno k02
    gi_wp2
    obtain ⟨V3, hV3, q0, q1, q2, k3⟩ := fin_drew V2 q (N + 1) c _ _ (.int .i64 0) (.int .i64 0) (.int .i64 0) (.int .i64 0) (.int .i64 0) (.int .i64 0) (.int .i64 0) (.float .f64 0) (.float .f64 0) (.slice none 0 0) (.slice none 0 0) (.slice none 0 0) (.int .i64 0) (.slice none 0 0) HB.out.1 HB.out.2.1 HB.out.2.2.1
    have HZ := Lib.hid (And.intro q0 (And.intro q1 (And.intro q2 k3)))
    clear q0 q1 q2 k3
    gi_region
    all_goals
     try rw [hV3]
     clear hV3
     gi_wp2
     refine ⟨⟨(HZ.out.2.2.2.block _ (by have := lt_of_block HH.out.2.1; have := HB.out.2.2.2.1.size; omega) (by omega)).trans (HB.out.2.2.2.1.block _ (lt_of_block HH.out.2.1) (HB.out.2.2.2.2 _ (by omega) (by omega) (by omega))), (HZ.out.2.2.2.block _ (by have := lt_of_block HH.out.2.2.1; have := HB.out.2.2.2.1.size; omega) (by omega)).trans (HB.out.2.2.2.1.block _ (lt_of_block HH.out.2.2.1) (HB.out.2.2.2.2 _ (by omega) (by omega) (by omega)))⟩, c, ?_, HZ.out.1, ?_, HZ.out.2.2.1, ?_⟩
     ·rw [HH.out.2.2.2.2.1, HR.out.1]; simp
     ·rw [HZ.out.2.1, ← hN]; simp
     ·refine (HH.out.1.k.own HB.out.2.2.2.1 fun i hi => Or.inr ?_).own HZ.out.2.2.2 fun i hi => Or.inr (by omega)
      rcases hi with hi | hi
      ·have := HH.out.1.low hi; omega
      ·omega
  case done =>
   rintro W ⟨own, m, hPI⟩ hD
   rw [hsz7] at hD ⊢
   clear HI0 HLG hsz7
   have hPF : parseF s = (if m.st ≤ 1 then (play0, 0, 63) else (m.play, 0, 0)) := by
    unfold parseF
    rw [if_neg (by have := HL.out; omega), hPI.read]
    rfl
   have HH := Lib.hid (And.intro hPI (And.intro hD hPF))
   have heg := enters_st hPI.st
   have HS1 := Lib.hid (state_any m.st hPI.st 1 W)
   have HS2 := Lib.hid (state_any m.st hPI.st 2 W)
   have c5 := blk_cell hPI.bx 0
   have hb := hPI.pat.blk
   unfold M.cells at hb
   rw [stV_lt hPI.st] at hb
   generalize stF m.st = K1 at *
   have c14 := blk_cell hb 14
   simp at c5 c14
   have q1 := neq_func
   have q2 := neq_nil
   clear hPI hD hPF
   have c0 := blk_cell HH.out.1.r0
   have c1 := blk_cell HH.out.1.r1 0
   have c2 := blk_cell HH.out.1.r2 0
   have f0 := blk_free HH.out.1.r0
   have f1 := blk_free HH.out.1.r1 0
   have f2 := blk_free HH.out.1.r2 0
   simp at c1 c2
   simp only [m0, M.val] at c0
   have c00 := c0 0
   have c01 := c0 1
   have c02 := c0 2
   have c03 := c0 3
   have c04 := c0 4
   have c05 := c0 5
   have c06 := c0 6
   have c07 := c0 7
   have c08 := c0 8
   have c09 := c0 9
   have c010 := c0 10
   have c011 := c0 11
   have c012 := c0 12
   have c013 := c0 13
   simp at c00 c01 c02 c03 c04 c05 c06 c07 c08 c09 c010 c011 c012 c013
   by_cases h0 : m.st ≤ 1
   ·have HX := Lib.hid (show parseF s = (play0, 0, 63) from by rw [HH.out.2.2, if_pos h0])
    obtain ⟨V3, hV3, g0, g1, g2, k3⟩ := fin_world W q 0 63 _ _ (.int .i64 0) (.int .i64 0) (.int .i64 0) (.int .i64 0) (.int .i64 0) (.int .i64 0) (.int .i64 0) (.float .f64 0) (.float .f64 0) (.slice none 0 0) (.slice none 0 0) (.slice none 0 0) (.int .i64 0) (.slice none 0 0) HH.out.1.r0 HH.out.1.r1 HH.out.1.r2
    have hd3 := (k3.block _ (lt_of_block HH.out.2.1) (by omega)).trans HH.out.2.1
    have HG := Lib.hid (And.intro g0 (And.intro g1 (And.intro g2 (And.intro k3 hd3))))
    clear g0 g1 g2 k3 hd3
    rcases (show m.st = 0 ∨ m.st = 1 by omega) with h | h
    ·rw [h] at HS1
     clear HS2 h0 h
     rw [show nxt 0 1 = 1 from rfl, show stV 1 = .func (.func (stF 1)) #[] #[] from rfl] at HS1
     generalize stF 1 = K2 at *
     gi_wp2
     refine ⟨trivial, (callsIn_wide.2 HS1.out).mono ?_⟩
     rintro e w' ⟨rfl, hw⟩
     obtain rfl : W = w' := hw.symm
     gi_wp2
     refine ⟨fun _ h => (by cases h), ?_⟩
     gi_wp2
     refine ⟨by simp, .inl ⟨_, _, rfl, run_takeDeferred HG.out.2.2.2.2, ?_⟩⟩
     have kp : Keep (fun g => g = q + 7) V3 (V3.putObj (q + 7) (.deferred none)) := ⟨rfl, rfl, rfl, by simp, fun i _ hn => World.putObj_heap_other hn⟩
     refine ⟨_, results_parse _ _ q _ 0 63 rfl rfl rfl (kp.same HG.out.1 (by omega)) rfl (kp.same HG.out.2.1 (by omega)) (kp.same HG.out.2.2.1 (by omega)), ?_⟩
     exact ⟨m0, fun _ => none, 0, 63, rfl, by rw [HX.out]; rfl, LAt.zero _, fun g h => absurd rfl h, (HH.out.1.k.own HG.out.2.2.2.1 fun i hi => Or.inr (by omega)).own kp fun i hi => Or.inr (by omega)⟩
    ·rw [h] at HS1 HS2
     clear h0 h
     rw [show nxt 1 1 = 6 from rfl, show stV 6 = .nilFunc from rfl] at HS1
     rw [show nxt 1 2 = 2 from rfl, show stV 2 = .func (.func (stF 2)) #[] #[] from rfl] at HS2
     generalize stF 2 = K2 at *
     gi_wp2
     refine ⟨trivial, (callsIn_wide.2 HS1.out).mono ?_⟩
     rintro e w' ⟨rfl, hw⟩
     obtain rfl : W = w' := hw.symm
     gi_wp2
     refine ⟨trivial, (callsIn_wide.2 HS2.out).mono ?_⟩
     rintro e w' ⟨rfl, hw⟩
     obtain rfl : W = w' := hw.symm
     gi_wp2
     refine ⟨by simp, .inl ⟨_, _, rfl, run_takeDeferred HG.out.2.2.2.2, ?_⟩⟩
     have kp : Keep (fun g => g = q + 7) V3 (V3.putObj (q + 7) (.deferred none)) := ⟨rfl, rfl, rfl, by simp, fun i _ hn => World.putObj_heap_other hn⟩
     refine ⟨_, results_parse _ _ q _ 0 63 rfl rfl rfl (kp.same HG.out.1 (by omega)) rfl (kp.same HG.out.2.1 (by omega)) (kp.same HG.out.2.2.1 (by omega)), ?_⟩
     exact ⟨m0, fun _ => none, 0, 63, rfl, by rw [HX.out]; rfl, LAt.zero _, fun g h => absurd rfl h, (HH.out.1.k.own HG.out.2.2.2.1 fun i hi => Or.inr (by omega)).own kp fun i hi => Or.inr (by omega)⟩
   ·have HX := Lib.hid (show parseF s = (m.play, 0, 0) from by rw [HH.out.2.2, if_neg h0])
    obtain ⟨o1, p1, hv1⟩ := HH.out.1.pat.fs.len
    obtain ⟨o2, p2, hv2⟩ := HH.out.1.pat.ts.len
    obtain ⟨o3, p3, hv3⟩ := HH.out.1.pat.ps.len
    obtain ⟨o4, p4, hv4⟩ := HH.out.1.pat.es.len
    obtain ⟨V3, hV3, g0, g1, g2, k3⟩ := fin_world W q 0 0 _ _ (.int .i64 m.disk) (.int .i64 m.segMax) (.int .i64 m.base) (.int .i64 m.qcap) (.int .i64 m.qbytes) (.int .i64 m.pmost) (.int .i64 m.pbytes) (.float .f64 m.linger) (.float .f64 m.alpha) (.slice o1 m.fs.length p1) (.slice o2 m.ts.length p2) (.slice o3 m.ps.length p3) (.int .i64 m.most) (.slice o4 m.es.length p4) HH.out.1.r0 HH.out.1.r1 HH.out.1.r2
    have hd3 := (k3.block _ (lt_of_block HH.out.2.1) (by omega)).trans HH.out.2.1
    have HG := Lib.hid (And.intro g0 (And.intro g1 (And.intro g2 (And.intro k3 hd3))))
    clear g0 g1 g2 k3 hd3
    have hx1 : nxt m.st 1 = 6 := nxt_two h0 HH.out.1.st (Or.inl rfl)
    have hx2 : nxt m.st 2 = 6 := nxt_two h0 HH.out.1.st (Or.inr rfl)
    rw [hx1, show stV 6 = .nilFunc from rfl] at HS1
    rw [hx2, show stV 6 = .nilFunc from rfl] at HS2
    clear h0 hx1 hx2
    gi_wp2
    refine ⟨trivial, (callsIn_wide.2 HS1.out).mono ?_⟩
    rintro e w' ⟨rfl, hw⟩
    obtain rfl : W = w' := hw.symm
    gi_wp2
    refine ⟨trivial, (callsIn_wide.2 HS2.out).mono ?_⟩
    rintro e w' ⟨rfl, hw⟩
    obtain rfl : W = w' := hw.symm
    have e0 := blk_cell hb 0
    have e1 := blk_cell hb 1
    have e2 := blk_cell hb 2
    have e3 := blk_cell hb 3
    have e4 := blk_cell hb 4
    have e5 := blk_cell hb 5
    have e6 := blk_cell hb 6
    have e7 := blk_cell hb 7
    have e8 := blk_cell hb 8
    have e9 := blk_cell hb 9
    have e10 := blk_cell hb 10
    have e11 := blk_cell hb 11
    have e12 := blk_cell hb 12
    have e13 := blk_cell hb 13
    rw [hv1, hv2, hv3, hv4] at e0 e1 e2 e3 e4 e5 e6 e7 e8 e9 e10 e11 e12 e13
    have HF := Lib.hid (show #[.int .i64 m.disk, .int .i64 m.segMax, .int .i64 m.base, .int .i64 m.qcap, .int .i64 m.qbytes, .int .i64 m.pmost, .int .i64 m.pbytes, .float .f64 m.linger, .float .f64 m.alpha, .slice o1 m.fs.length p1, .slice o2 m.ts.length p2, .slice o3 m.ps.length p3, .int .i64 m.most, .slice o4 m.es.length p4] = m.val from by unfold M.val; rw [hv1, hv2, hv3, hv4])
    clear hv1 hv2 hv3 hv4
    simp at e0 e1 e2 e3 e4 e5 e6 e7 e8 e9 e10 e11 e12 e13
    clear hb
    gi_wp2
    refine ⟨by simp, .inl ⟨_, _, rfl, run_takeDeferred HG.out.2.2.2.2, ?_⟩⟩
    have kp : Keep (fun g => g = q + 7) V3 (V3.putObj (q + 7) (.deferred none)) := ⟨rfl, rfl, rfl, by simp, fun i _ hn => World.putObj_heap_other hn⟩
    refine ⟨_, results_parse _ _ q _ 0 0 rfl rfl rfl (kp.same HG.out.1 (by omega)) rfl (kp.same HG.out.2.1 (by omega)) (kp.same HG.out.2.2.1 (by omega)), ?_⟩
    refine ⟨m, fun g => if g = q + 1 + 1 + 1 then none else own g, 0, 0, by rw [HF.out], by rw [HX.out]; rfl, ?_, ?_, (HH.out.1.k.own HG.out.2.2.2.1 fun i hi => Or.inr (by omega)).own kp fun i hi => Or.inr (by omega)⟩
    ·have hno : ∀ g, (if g = q + 1 + 1 + 1 then none else own g) ≠ none → q + 8 < g := fun g hg => by
      split at hg
      ·exact absurd rfl hg
      ·have := HH.out.1.low hg; omega
     exact ((HH.out.1.pat.leave.keep HG.out.2.2.2.1 fun g hg => by have := hno g hg; omega).keep kp fun g hg => by have := hno g hg; omega)
    ·intro g hg
     simp only [] at hg
     split at hg
     ·exact absurd rfl hg
     ·have := HH.out.1.low hg; omega
  case stop =>
   rintro pre x W hpre ⟨c, hPX⟩ hD
   rw [hsz7] at hD ⊢
   have hPF : parseF s = (play0, (pre ++ [x]).length, c) := by
    obtain ⟨t, ht⟩ := hpre
    unfold parseF
    rw [if_neg (by have := HL.out; omega), ← ht, parseFrom_app, hPX.read]
   clear HI0 HLG hsz7
   gi_wp2
   refine ⟨by simp, .inl ⟨_, _, rfl, run_takeDeferred hD, ?_⟩⟩
   have kp : Keep (fun g => g = q + 7) W (W.putObj (q + 7) (.deferred none)) := ⟨rfl, rfl, rfl, by simp, fun i _ hn => World.putObj_heap_other hn⟩
   refine ⟨_, results_parse _ _ q _ ((pre ++ [x]).length : Int) c rfl rfl rfl (kp.same hPX.r0 (by omega)) rfl (kp.same hPX.r1 (by omega)) (kp.same hPX.r2 (by omega)), ?_⟩
   exact ⟨m0, fun _ => none, ((pre ++ [x]).length : Int), c, rfl, by rw [hPF]; rfl, LAt.zero _, fun g h => absurd rfl h, hPX.k.own kp fun i hi => Or.inr (by omega)⟩

theorem strCells_u8v (s : Str) : Lib.strCells (strB s) = u8v s := by unfold Lib.strCells u8v; rw [strB_list]
theorem run_append_str_k {P : Program} (w : World) (t u ty e : TypeId) (i : TypeInfo) (ht : P.underlying t = some (.slice e)) (hu : P.underlying u = some .string) (hi : P.info? e = some i) (hz : i.zero = some (.int .u8 0)) (hsize : i.size = 1) (hby : i.bytes = 1)
  (v : Value) (n : Nat) (xs : List Value) (hown : w.ownsRow 0 e 1 v n xs) (s : Str) (hn : n + s.length ≤ 1099511627776) :
  ∃ v' w', (Builtin.append_ #[t, u] ty #[v, .string (strB s)]).run P w = .ok v' w' ∧ w'.ownsRow 0 e 1 v' (n + s.length) (xs ++ u8v s) ∧ w.grownBy w' v.ownBlock ∧ (v'.ownBlock = v.ownBlock ∨ ∃ g, v'.ownBlock = some g ∧ w.heap.size ≤ g) := by
 have hs : (strB s).size = s.length := strB_size s
 have h63 : n + (strB s).size ≤ maxLen := by rw [hs]; unfold maxLen; omega
 have hbt : n + (strB s).size ≤ 140737488355328 := by rw [hs]; omega
 rcases hown.2 with ⟨hv, h0⟩ | ⟨g, cap, cur, hv, -, hg, hnc, hcm, hcs, htake⟩
 ·obtain ⟨v', w', hr, h1, h2, -⟩ := Lib.run_append_own_string (P := P) w w.heap.size t u ty e i ht hu hi hz hsize hby v n xs ⟨hown.1, Or.inl ⟨hv, h0⟩⟩ (strB s) h63 hbt (Nat.le_refl _)
  rw [hs, strCells_u8v] at h1
  refine ⟨v', w', hr, row_base h1 (fun g _ => Nat.zero_le _), h2, ?_⟩
  rcases h1.2 with ⟨h3, -⟩ | ⟨g, cap, cur, h3, h4, -⟩
  ·left; rw [h3, hv]
  ·right; exact ⟨g, by rw [h3]; rfl, h4⟩
 ·obtain ⟨v', w', hr, h1, h2, -⟩ := Lib.run_append_own_string (P := P) w 0 t u ty e i ht hu hi hz hsize hby v n xs hown (strB s) h63 hbt (Nat.zero_le _)
  rw [hs, strCells_u8v] at h1
  refine ⟨v', w', hr, h1, h2, ?_⟩
  subst hv
  have hcells : ∀ j u, xs[j]? = some u → w.cell? ((⟨g, 0, none⟩ : Addr).add j) = some u := hown.cells (g := g) rfl
  by_cases hroom : n + (strB s).size ≤ cap
  ·have hr2 := Lib.run_append_room_string (P := P) w t u ty e i ht hu hi hsize g n cap cur hg (strB s) hroom (by omega)
   rw [hr] at hr2
   cases hr2
   exact Or.inl rfl
  ·have hr2 := Lib.run_append_grow_string (P := P) w t u ty e i (.int .u8 0) ht hu hi hz ⟨g, 0, none⟩ n cap xs (by rw [hsize]; simpa using hown.1) hcells (strB s) (by omega) (by rw [hs] at h63 ⊢; unfold maxLen at h63; omega) (by rw [hby]; exact growslice_fits (by omega) (by omega))
   rw [hr] at hr2
   cases hr2
   exact Or.inr ⟨_, rfl, Nat.le_refl _⟩
theorem wpList_append_str_k {P : Program} (w : World) {ops : Array Oper} {rest : List Oper} {o : Oper} {a : Act} {Q : Exit → Act → World → Prop} (hgd : o.guard = none) (sl x : Operand) (t u : TypeId)
  (ho : o.op = .call { callee := .builtin .append, args := #[sl, x], argTypes := #[t, u] }) (e : TypeId) (i : TypeInfo) (ht : P.underlying t = some (.slice e)) (hu : P.underlying u = some .string) (hi : P.info? e = some i) (hz : i.zero = some (.int .u8 0)) (hsize : i.size = 1) (hby : i.bytes = 1)
  (v : Value) (n : Nat) (xs : List Value) (hs : a.eval sl = v) (hown : w.ownsRow 0 e 1 v n xs) (s : Str) (hx : a.eval x = .string (strB s)) (hn : n + s.length ≤ 1099511627776)
  (h : ∀ v' w', w'.ownsRow 0 e 1 v' (n + s.length) (xs ++ u8v s) → w.grownBy w' v.ownBlock → (v'.ownBlock = v.ownBlock ∨ ∃ g, v'.ownBlock = some g ∧ w.heap.size ≤ g) → wpList P ops Q rest (a.put o.dst v') w') : wpList P ops Q (o :: rest) a w := by
 refine wpList_plain hgd fun K hK => ?_
 obtain ⟨v', w', hr, h2, h3, h4⟩ := run_append_str_k (P := P) w t u o.type e i ht hu hi hz hsize hby v n xs hown s hn
 unfold Oper.wp execOp
 simp only [ho, resolve, invoke, builtin, Sem.run_bind, Sem.run_pure, Result.andThen_ok, List.map_toArray, List.map_cons, List.map_nil, hs, hx, hr]
 exact hK _ _ (h v' w' h2 h3 h4)

structure Pr (w : World) (own : Nat → Option T) (xb : Nat) (v : Value) (B : Str) : Prop where
 low : ∀ g, own g ≠ none → g < w.heap.size
 blk : w.heap[xb]? = some (.cells #[v] 89 (0, 0))
 tag : own xb = some (0, 0, 0)
 row : RowT w own (1, 0, 0) 5 1 v B.length (u8v B)
theorem Pr.keep {w w' : World} {own : Nat → Option T} {xb : Nat} {v : Value} {B : Str} {bs : Nat → Prop} (h : Pr w own xb v B) (k : Keep bs w w') (hn : ∀ g, own g ≠ none → ¬ bs g) : Pr w' own xb v B :=
 ⟨fun g hg => Nat.lt_of_lt_of_le (h.low g hg) k.size, k.same h.blk (hn xb (by rw [h.tag]; simp)), h.tag, h.row.move k (fun g hg => hn g (by rw [hg]; simp)) (fun g hg => hg)⟩
theorem Pr.kept {w w' : World} {own : Nat → Option T} {xb : Nat} {v : Value} {B : Str} (h : Pr w own xb v B) (k : Keep (fun _ => False) w w') : Pr w' own xb v B := h.keep k fun _ _ => id
theorem u8v_app (A B : Str) : u8v (A ++ B) = u8v A ++ u8v B := by simp [u8v]
theorem info8k : ∃ i, Tryz.prog.info? 5 = some i ∧ i.zero = some (.int .u8 0) ∧ i.size = 1 ∧ i.bytes = 1 := info8
theorem Pr.more {w w4 : World} {own : Nat → Option T} {xb : Nat} {v v' : Value} {B C : Str} (h : Pr w own xb v B) (hrow : w4.ownsRow 0 5 1 v' (B ++ C).length (u8v (B ++ C))) (k : Keep (fun g => v.ownBlock = some g) w w4)
  (hb : v'.ownBlock = v.ownBlock ∨ ∃ g, v'.ownBlock = some g ∧ w.heap.size ≤ g) : Pr (w4.setCell ⟨xb, 0, none⟩ v') (put own v' (1, 0, 0)) xb v' (B ++ C) ∧ To own (put own v' (1, 0, 0)) w (w4.setCell ⟨xb, 0, none⟩ v') := by
 have G := grown_put (i := 0) v' h.low h.row hrow k hb h.tag
 have hx : v'.ownBlock ≠ some xb := by
  intro e
  rcases hb with hb | ⟨g, hb, hl⟩
  ·have := h.row.tag xb (by rw [← hb]; exact e)
   rw [h.tag] at this
   cases this
  ·rw [e] at hb
   cases hb
   have := h.low xb (by rw [h.tag]; simp)
   omega
 have hbx : w4.heap[xb]? = some (.cells #[v] 89 (0, 0)) := k.same h.blk (fun e => by have := h.row.tag xb e; rw [h.tag] at this; cases this)
 refine ⟨⟨G.low, ?_, G.old _ _ h.tag, row_keep hrow ((Keep.refl (fun g => g = xb) w4).setCell (p := ⟨xb, 0, none⟩) (Or.inl rfl) v') (fun g hg e => hx (by rw [hg, e])), ?_⟩, G.to⟩
 ·have := blk_set hbx 0 v'
  rw [this]
  rfl
 ·intro g hg
  show (if v'.ownBlock = some g then some (1, 0, 0) else own g) = _
  rw [if_pos hg]
def Puts (w : World) (own : Nat → Option T) (xb : Nat) (B : Str) (w' : World) : Prop := ∃ own' v', Pr w' own' xb v' B ∧ To own own' w w'

def bod : List Str → Str
 | [] => []
 | w :: ws => w ++ ws.flatMap (fun x => 32 :: x)
def putL (ws : List Str) : Str := bod ws ++ [10]
theorem bod_snoc (ws : List Str) (k : Nat) (h : k < ws.length) : bod (ws.take (k + 1)) = bod (ws.take k) ++ ((if k = 0 then [] else [32]) ++ ws.getD k []) := by
 have e1 : ws.take (k + 1) = ws.take k ++ [ws.getD k []] := by
  rw [List.take_add_one, List.getElem?_eq_getElem h, List.getD_eq_getElem?_getD, List.getElem?_eq_getElem h]
  rfl
 rw [e1]
 cases k with
 | zero => simp [bod]
 | succ k =>
  cases ws with
  | nil => simp at h
  | cons w r => simp [bod]
theorem bod_le (ws : List Str) (k : Nat) : (bod (ws.take k)).length ≤ (bod ws).length := by
 rcases Nat.lt_or_ge k ws.length with h | h
 ·cases ws with
  | nil => simp at h
  | cons w r =>
   cases k with
   | zero => simp [bod]
   | succ k =>
    simp only [List.take_succ_cons, bod, List.length_append]
    have : r.flatMap (fun x => 32 :: x) = (r.take k).flatMap (fun x => 32 :: x) ++ (r.drop k).flatMap (fun x => 32 :: x) := by rw [← List.flatMap_append, List.take_append_drop]
    rw [this, List.length_append]
    omega
 ·rw [List.take_of_length_le h]; exact Nat.le_refl _
theorem more_x {w w4 : World} {own : Nat → Option T} {xb : Nat} {v v' : Value} {B C : Str} {L : Nat} (h : Pr w own xb v B) (hL : B.length = L) (hrow : w4.ownsRow 0 5 1 v' (L + C.length) (u8v B ++ u8v C)) (hg : w.grownBy w4 v.ownBlock)
  (hb : v'.ownBlock = v.ownBlock ∨ ∃ g, v'.ownBlock = some g ∧ w.heap.size ≤ g) : ∃ o2 L2 p2, v' = .slice o2 L2 p2 ∧ Pr (w4.setCell ⟨xb, 0, none⟩ (.slice o2 L2 p2)) (put own v' (1, 0, 0)) xb (.slice o2 L2 p2) (B ++ C) ∧ To own (put own v' (1, 0, 0)) w (w4.setCell ⟨xb, 0, none⟩ (.slice o2 L2 p2)) ∧ (B ++ C).length = L2 ∧ (w4.setCell ⟨xb, 0, none⟩ (.slice o2 L2 p2)).ownsRow 0 5 1 (.slice o2 L2 p2) L2 (u8v (B ++ C)) ∧ L2 = L + C.length := by
 have hm := h.more (C := C) (by rw [List.length_append, hL, u8v_app]; exact hrow) (keep_grown hg) hb
 obtain ⟨o2, p2, hv2⟩ := hm.1.row.len
 rw [hv2] at hm
 exact ⟨o2, _, p2, hv2, by rw [← hv2] at hm ⊢; exact hm.1, by rw [← hv2] at hm ⊢; exact hm.2, rfl, by have := hm.1.row.row; exact this, by rw [List.length_append, hL]⟩
theorem more_ne {w : World} {own : Nat → Option T} {xb : Nat} {v : Value} {B : Str} (h : Pr w own xb v B) : ¬ v.ownBlock = some xb := fun e => by
 have h1 := h.row.tag xb e
 rw [h.tag] at h1
 cases h1
theorem more_c {w w4 : World} {own : Nat → Option T} {xb : Nat} {v u : Value} {B : Str} (h : Pr w own xb v B) (hg : w.grownBy w4 v.ownBlock) (hc : w.cell? ⟨xb, 0, none⟩ = some u) : w4.cell? ⟨xb, 0, none⟩ = some u :=
 ((keep_grown hg).cell (p := ⟨xb, 0, none⟩) (lt_of_block h.blk) (more_ne h)).trans hc
theorem more_f {w w4 : World} {own : Nat → Option T} {xb : Nat} {v : Value} {B : Str} (h : Pr w own xb v B) (hg : w.grownBy w4 v.ownBlock) (hc : w.frozen? ⟨xb, 0, none⟩ = false) : w4.frozen? ⟨xb, 0, none⟩ = false :=
 ((keep_grown hg).frozen (p := ⟨xb, 0, none⟩) (lt_of_block h.blk) (more_ne h)).trans hc
theorem more_y {w w4 : World} {own : Nat → Option T} {xb : Nat} {v v' : Value} {B : Str} {L : Nat} {o : Obj} {c : UInt8} (h : Pr w own xb v B) (hL : B.length = L) (hrow : w4.ownsRow 0 5 1 v' (L + 1) (u8v B ++ [.int .u8 (c.toNat : Int)])) (hg : (w.alloc o).grownBy w4 v.ownBlock)
  (hb : v'.ownBlock = v.ownBlock ∨ v'.ownBlock = some (w.alloc o).heap.size) : ∃ o2 L2 p2, v' = .slice o2 L2 p2 ∧ Pr (w4.setCell ⟨xb, 0, none⟩ (.slice o2 L2 p2)) (put own v' (1, 0, 0)) xb (.slice o2 L2 p2) (B ++ [c]) ∧ To own (put own v' (1, 0, 0)) w (w4.setCell ⟨xb, 0, none⟩ (.slice o2 L2 p2)) ∧ (B ++ [c]).length = L2 ∧ (w4.setCell ⟨xb, 0, none⟩ (.slice o2 L2 p2)).ownsRow 0 5 1 (.slice o2 L2 p2) L2 (u8v (B ++ [c])) ∧ L2 = L + 1 := by
 have hm := h.more (C := [c]) (by rw [List.length_append, hL, u8v_app]; exact hrow) (((Keep.refl (fun q => v.ownBlock = some q) w).alloc o).trans (keep_grown hg)) (by
  rcases hb with hb | hb
  ·exact Or.inl hb
  ·exact Or.inr ⟨_, hb, by simp⟩)
 obtain ⟨o2, p2, hv2⟩ := hm.1.row.len
 rw [hv2] at hm
 exact ⟨o2, _, p2, hv2, by rw [← hv2] at hm ⊢; exact hm.1, by rw [← hv2] at hm ⊢; exact hm.2, rfl, by have := hm.1.row.row; exact this, by rw [List.length_append, hL]; rfl⟩
theorem more_cy {w w4 : World} {own : Nat → Option T} {xb : Nat} {v u : Value} {B : Str} {o : Obj} (h : Pr w own xb v B) (hg : (w.alloc o).grownBy w4 v.ownBlock) (hc : w.cell? ⟨xb, 0, none⟩ = some u) : w4.cell? ⟨xb, 0, none⟩ = some u :=
 ((((Keep.refl (fun q => v.ownBlock = some q) w).alloc o).trans (keep_grown hg)).cell (p := ⟨xb, 0, none⟩) (lt_of_block h.blk) (more_ne h)).trans hc
theorem more_fy {w w4 : World} {own : Nat → Option T} {xb : Nat} {v : Value} {B : Str} {o : Obj} (h : Pr w own xb v B) (hg : (w.alloc o).grownBy w4 v.ownBlock) (hc : w.frozen? ⟨xb, 0, none⟩ = false) : w4.frozen? ⟨xb, 0, none⟩ = false :=
 ((((Keep.refl (fun q => v.ownBlock = some q) w).alloc o).trans (keep_grown hg)).frozen (p := ⟨xb, 0, none⟩) (lt_of_block h.blk) (more_ne h)).trans hc
set_option maxRecDepth 100000 in
set_option maxHeartbeats 8000000 in
theorem put_any {w : World} {own : Nat → Option T} {xb : Nat} {v : Value} {B : Str} (g f cap : Nat) (ws : List Str) (h : Pr w own xb v B) (hws : WsAt w (some ⟨g, f, none⟩) ws) (hg : own g = none) (hcap : ws.length ≤ cap) (hn : ws.length ≤ 1073741824) (hb : (B ++ putL ws).length ≤ 1099511627776) :
  Calls Tryz.prog 61 #[.pointer (some ⟨xb, 0, none⟩), .slice (some ⟨g, f, none⟩) ws.length cap] w fun e w' => e = .returned (.tuple #[]) ∧ Puts w own xb (B ++ putL ws) w' := by
 obtain ⟨N, hN⟩ : ∃ N, ws.length = N := ⟨_, rfl⟩
 have HB := Lib.hid hb
 have HH := Lib.hid (And.intro h (And.intro hws hg))
 have HN := Lib.hid hN
 have HLE := Lib.hid (bod_le ws)
 have HSN := Lib.hid (bod_snoc ws)
 obtain ⟨i0, hi0, hz0, hz1, hz2⟩ := info8k
 have HI := Lib.hid (And.intro hi0 (And.intro hz0 (And.intro hz1 hz2)))
 clear hi0 hz0 hz1 hz2
 rw [hN] at hn hcap ⊢
 clear h hws hg hN hb
 go_enter Tryz.func61, Tryz.ntmps61
 go_wp2_with fail
 go_loopg [4, 5, 8] N (fun gq s4 s5 s8 wr => ∃ k : Nat, gq + k = N ∧ s8 = .int .i64 (k : Int) ∧ Hid (∃ own' v', Pr wr own' xb v' (B ++ bod (ws.take k)) ∧ To own own' w wr))
 case atStart => exact ⟨0, by omega, rfl, own, v, by simpa [bod] using HH.out.1, To.refl _ _⟩
 case round =>
  obtain ⟨k, hgk, rfl, HK⟩ := hrel
  obtain ⟨own', v', hp, hto⟩ := HK
  have hlen := HLE.out k
  have hB := HB.out
  have hs10 : (putL ws).length = (bod ws).length + 1 := by unfold putL; simp
  by_cases hk : k < N
  ·have hkI : (k : Int) < (N : Int) := by omega
   have hk0 : (0 : Int) ≤ (k : Int) := by omega
   obtain ⟨g', f', e, hc, hl⟩ := HH.out.2.1 k (by rw [HN.out]; exact hk)
   cases e
   have hgo : own' g = none := hto.old g hl HH.out.2.2
   have cg : wr.cell? ⟨g, f + k, none⟩ = some (encS (ws.getD k [])) := (hto.keep.cell (p := ⟨g, f + k, none⟩) hl (by rw [HH.out.2.2]; simp)).trans hc
   unfold encS at cg
   have HS := HSN.out k (by rw [HN.out]; exact hk)
   have hlen2 := HLE.out (k + 1)
   rw [HS] at hlen2
   obtain ⟨x, hx⟩ : ∃ x, ws.getD k [] = x := ⟨_, rfl⟩
   rw [hx] at cg HS hlen2
   have HX := Lib.hid HS
   simp only [List.length_append] at hlen2 hB
   have c0 := blk_cell hp.blk 0
   have f0 := blk_free hp.blk 0
   simp at c0
   obtain ⟨o, p, hv⟩ := hp.row.len
   have hrw := hp.row.row
   rw [hv] at hrw
   obtain ⟨L, hL⟩ : ∃ L, (B ++ bod (ws.take k)).length = L := ⟨_, rfl⟩
   have HL := Lib.hid hL
   rw [hL] at hv hrw
   by_cases hkz : k = 0
   ·have hkc : ¬ (0 : Int) < (k : Int) := by omega
    rw [if_pos hkz] at HX hlen2
    have hsz : L + x.length ≤ 1099511627776 := by rw [← hL, List.length_append]; simp at hlen2; omega
    have HP := Lib.hid (And.intro hp (And.intro hto (And.intro hv (And.intro hsz hrw))))
    rw [hv] at c0
    clear hp hto hv hrw hL hsz hlen hlen2 HS hc hl hgo hkz hx
    go_wp2_with (at_builtin; refine wpList_append_str_k _ rfl (.tmp 28) (.tmp 29) 53 9 rfl 5 i0 Tryz.underlying53 Tryz.underlying9 HI.out.1 HI.out.2.1 HI.out.2.2.1 HI.out.2.2.2 _ _ _ rfl HP.out.2.2.2.2 x rfl HP.out.2.2.2.1 ?_; intro v2 w4 hrow hgr hblk; rw [← HP.out.2.2.1] at hgr hblk; obtain ⟨o2, L2, p2, hv2, hm⟩ := more_x HP.out.1 HL.out hrow hgr hblk; have c4 := more_c HP.out.1 hgr c0; have f4 := more_f HP.out.1 hgr f0; have HM := Lib.hid hm; rw [hv2]; clear hrow hgr hblk hm hv2)
    go_roundg (gk - 1)
    all_goals first | omega | skip
    case rel =>
     refine ⟨k + 1, by omega, by simp, ?_⟩
     refine ⟨_, .slice o2 L2 p2, ?_, HP.out.2.1.trans HM.out.2.1⟩
     rw [HX.out, ← List.append_assoc]
     simpa using HM.out.1
   ·have hkc : (0 : Int) < (k : Int) := by omega
    rw [if_neg hkz] at HX hlen2
    have hsz : L + 1 + x.length ≤ 1099511627776 := by rw [← hL, List.length_append]; simp at hlen2; omega
    have HP := Lib.hid (And.intro hp (And.intro hto (And.intro hv (And.intro hsz hrw))))
    rw [hv] at c0
    clear hp hto hv hrw hL hsz hlen hlen2 HS hc hl hgo hkz hx
    go_wp2_with (first
     | (at_builtin; refine wpList_append_own_at _ rfl (.tmp 19) (.tmp 20) 53 rfl 0 5 i0 (.int .u8 0) 1 1 Tryz.underlying53 HI.out.1 HI.out.2.1 HI.out.2.2.1 HI.out.2.2.2 rfl (by decide) _ _ _ rfl (row_keep HP.out.2.2.2.2 ((Keep.refl (fun _ => False) wr).alloc _) fun _ _ => id) ⟨wr.heap.size, 0, none⟩ 1 1 [.int .u8 32] rfl rfl (cell_one_new _ _ _) (by simp [Value.oneCell']) (by have := HP.out.2.2.2.1; unfold maxLen; omega) (by have := HP.out.2.2.2.1; omega) (Nat.zero_le _) ?_; intro v2 w4 hrow hgr _ hblk; rw [← HP.out.2.2.1] at hgr hblk; obtain ⟨o2, L2, p2, hv2, hm⟩ := more_y (c := 32) HP.out.1 HL.out hrow hgr hblk; have c4 := more_cy HP.out.1 hgr c0; have f4 := more_fy HP.out.1 hgr f0; have HM := Lib.hid hm; rw [hv2]; clear hrow hgr hblk hm hv2)
     | (at_builtin; refine wpList_append_str_k _ rfl (.tmp 28) (.tmp 29) 53 9 rfl 5 i0 Tryz.underlying53 Tryz.underlying9 HI.out.1 HI.out.2.1 HI.out.2.2.1 HI.out.2.2.2 _ _ _ rfl HM.out.2.2.2.1 x rfl (by have := HM.out.2.2.2.2; have := HP.out.2.2.2.1; omega) ?_; intro v3 w5 hrow hgr hblk; obtain ⟨o3, L3, p3, hv3, hm⟩ := more_x HM.out.1 HM.out.2.2.1 hrow hgr hblk; have c5 := more_c HM.out.1 hgr (blk_cell HM.out.1.blk 0); have f5 := more_f HM.out.1 hgr (blk_free HM.out.1.blk 0); simp at c5; have HM2 := Lib.hid hm; rw [hv3]; clear hrow hgr hblk hm hv3))
    go_roundg (gk - 1)
    all_goals first | omega | skip
    case rel =>
     refine ⟨k + 1, by omega, by simp, ?_⟩
     refine ⟨_, .slice o3 L3 p3, ?_, (HP.out.2.1.trans HM.out.2.1).trans HM2.out.2.1⟩
     rw [HX.out, ← List.append_assoc, ← List.append_assoc]
     exact HM2.out.1
  ·obtain rfl : k = N := by omega
   have htk : ws.take k = ws := List.take_of_length_le (by rw [HN.out]; exact Nat.le_refl _)
   rw [htk] at hp
   have hkI : ¬ (k : Int) < (k : Int) := by omega
   have c0 := blk_cell hp.blk 0
   have f0 := blk_free hp.blk 0
   simp at c0
   obtain ⟨o, p, hv⟩ := hp.row.len
   have hrw := hp.row.row
   rw [hv] at hrw
   obtain ⟨L, hL⟩ : ∃ L, (B ++ bod ws).length = L := ⟨_, rfl⟩
   have HL := Lib.hid hL
   rw [hL] at hv hrw
   have hsz : L + 1 ≤ 1099511627776 := by
    rw [← hL]
    have := hB
    unfold putL at this
    simp only [List.length_append, List.length_cons, List.length_nil] at this ⊢
    omega
   have HP := Lib.hid (And.intro hp (And.intro hto (And.intro hv (And.intro hsz hrw))))
   rw [hv] at c0
   clear hp hto hv hrw hL hsz hlen hs10 hB htk
   go_wp2_with (at_builtin; refine wpList_append_own_at _ rfl (.tmp 38) (.tmp 39) 53 rfl 0 5 i0 (.int .u8 0) 1 1 Tryz.underlying53 HI.out.1 HI.out.2.1 HI.out.2.2.1 HI.out.2.2.2 rfl (by decide) _ _ _ rfl (row_keep HP.out.2.2.2.2 ((Keep.refl (fun _ => False) wr).alloc _) fun _ _ => id) ⟨wr.heap.size, 0, none⟩ 1 1 [.int .u8 10] rfl rfl (cell_one_new _ _ _) (by simp [Value.oneCell']) (by have := HP.out.2.2.2.1; unfold maxLen; omega) (by have := HP.out.2.2.2.1; omega) (Nat.zero_le _) ?_; intro v2 w4 hrow hgr _ hblk; rw [← HP.out.2.2.1] at hgr hblk; obtain ⟨o2, L2, p2, hv2, hm⟩ := more_y (c := 10) HP.out.1 HL.out hrow hgr hblk; have c4 := more_cy HP.out.1 hgr c0; have f4 := more_fy HP.out.1 hgr f0; have HM := Lib.hid hm; rw [hv2]; clear hrow hgr hblk hm hv2)
   go_end0
   refine ⟨rfl, _, .slice o2 L2 p2, ?_, HP.out.2.1.trans HM.out.2.1⟩
   unfold putL
   rw [← List.append_assoc]
   exact HM.out.1

theorem keep_of_below {w w' : World} (h : Below w.heap.size w w') : Keep (fun _ => False) w w' := ⟨h.os, h.tape, h.output, h.size, fun i hi _ => h.block i hi⟩
def IsI (n : Int) : Prop := -9223372036854775808 ≤ n ∧ n ≤ 9223372036854775807
def decS (n : Int) : Str := Lib.itoa n
def CsAt (w : World) (o : Option Addr) (xs : List Value) : Prop := ∀ i, i < xs.length → ∃ g f, o = some ⟨g, f, none⟩ ∧ w.cell? ⟨g, f + i, none⟩ = xs[i]? ∧ g < w.heap.size
theorem CsAt.kept {w w' : World} {o : Option Addr} {xs : List Value} (h : CsAt w o xs) (k : Keep (fun _ => False) w w') : CsAt w' o xs := fun i hi => by
 obtain ⟨g, f, h1, h2, h3⟩ := h i hi
 exact ⟨g, f, h1, (k.cell (p := ⟨g, f + i, none⟩) h3 id).trans h2, Nat.lt_of_lt_of_le h3 k.size⟩
set_option maxRecDepth 100000 in
set_option maxHeartbeats 4000000 in
theorem dec_any (n : Int) (B : Nat) (w : World) (hE : Ev B w) (hn : IsI n) : Calls Tryz.prog 62 #[.int .i64 n] w fun e w' => e = .returned (.string (strB (decS n))) ∧ Keep (fun _ => False) w w' := by
 have HF := Lib.hid (Tryz.strconv_FormatInt_10 n hn.1 hn.2 w (hE.tb.tens w (Below.refl _ _)))
 clear hE
 go_enter Tryz.func62, Tryz.ntmps62
 go_wp2_with (go_at_call 91; refine HF.out.mono ?_; rintro e w' ⟨rfl, k, os, rfl⟩; rw [show (⟨(Lib.itoa n).toArray⟩ : ByteArray) = strB (decS n) from rfl])
 go_ret
 exact ⟨rfl, keep_of_below (Lib.below_grow _ _ (Nat.le_refl _) k os)⟩
set_option maxRecDepth 100000 in
set_option maxHeartbeats 4000000 in
theorem dec64_any (n : Int) (B : Nat) (w : World) (hE : Ev B w) (hn : IsI n) : Calls Tryz.prog 63 #[.int .i64 n] w fun e w' => e = .returned (.string (strB (decS n))) ∧ Keep (fun _ => False) w w' := by
 have HF := Lib.hid (Tryz.strconv_FormatInt_10 n hn.1 hn.2 w (hE.tb.tens w (Below.refl _ _)))
 clear hE
 go_enter Tryz.func63, Tryz.ntmps63
 go_wp2_with (go_at_call 91; refine HF.out.mono ?_; rintro e w' ⟨rfl, k, os, rfl⟩; rw [show (⟨(Lib.itoa n).toArray⟩ : ByteArray) = strB (decS n) from rfl])
 go_ret
 exact ⟨rfl, keep_of_below (Lib.below_grow _ _ (Nat.le_refl _) k os)⟩
set_option maxRecDepth 100000 in
set_option maxHeartbeats 4000000 in
theorem long_any {w : World} {own : Nat → Option T} {xb : Nat} {v : Value} {B : Str} (h : Pr w own xb v B) : Calls Tryz.prog 31 #[.pointer (some ⟨xb, 0, none⟩)] w fun e w' => e = .returned (.bool (decide (65536 < B.length))) ∧ w' = w := by
 have c0 := blk_cell h.blk 0
 simp at c0
 obtain ⟨o, p, hv⟩ := h.row.len
 rw [hv] at c0
 obtain ⟨L, hL⟩ : ∃ L, B.length = L := ⟨_, rfl⟩
 rw [hL] at c0 ⊢
 have HL := Lib.hid hL
 clear hv h hL
 by_cases hl : 65536 < L
 ·have hl1 : (65536 : Int) < (L : Int) := by omega
  rw [decide_eq_true hl]
  go_enter Tryz.func31, Tryz.ntmps31
  go_wp2_with fail
  go_ret
  exact ⟨rfl, rfl⟩
 ·have hl1 : ¬ (65536 : Int) < (L : Int) := by omega
  rw [decide_eq_false hl]
  go_enter Tryz.func31, Tryz.ntmps31
  go_wp2_with fail
  go_ret
  exact ⟨rfl, rfl⟩
theorem strOfNums_u8 (s : Str) : strOfNums (s.map fun b => (b.toNat : Int)) = strB s := by
 unfold strOfNums strB
 simp only [List.map_map]
 congr 2
 induction s with
 | nil => rfl
 | cons c s ih => rw [List.map_cons, ih]; simp
theorem conv_str {base n : Nat} {v : Value} {s : Str} {w : World} (h : w.ownsRow base 5 1 v n (u8v s)) : (convert 53 9 v).run Tryz.prog w = .ok (.string (strB s)) w := by
 have hl : s.length = n := by have := h.1; rw [u8v_len] at this; omega
 rcases h.2 with ⟨rfl, h2⟩ | ⟨g, cap, cells, rfl, -⟩
 ·have : s = [] := List.length_eq_zero_iff.1 (by rw [hl]; exact h2)
  subst this
  exact run_convert_bytes_nil w 53 5 Tryz.underlying53 Tryz.underlying5 0 0 9 Tryz.underlying9
 ·rw [← strOfNums_u8]
  refine run_convert_bytes_arg w 53 5 Tryz.underlying53 Tryz.underlying5 g 0 _ cap _ (by simpa using hl) (fun i hi => ?_) 9 Tryz.underlying9
  have hi' : i < s.length := by omega
  have hc := h.cells rfl i (.int .u8 (s[i].toNat : Int)) (by unfold u8v; rw [List.getElem?_map, List.getElem?_eq_getElem hi']; rfl)
  rw [addr_add, Nat.zero_add] at hc
  rw [Nat.zero_add, hc, List.getD_eq_getElem?_getD, List.getElem?_map, List.getElem?_eq_getElem hi']
  rfl
def hexD (c : Nat) : UInt8 := (digits.getD c 0)
def two16 (c : UInt8) : Str := [hexD (c.toNat / 16), hexD (c.toNat % 16)]
theorem and15 (m : Nat) (h : m < 256) : bits BinOp.and IntKind.u8 (m : Int) 15 = ((m % 16 : Nat) : Int) := by
 have : ∀ n : Fin 256, bits BinOp.and IntKind.u8 (n.val : Int) 15 = ((n.val % 16 : Nat) : Int) := by decide +kernel
 exact this ⟨m, h⟩
theorem dig_at (P : Nat) (h : P < 16) : ch ⟨#[48, 49, 50, 51, 52, 53, 54, 55, 56, 57, 97, 98, 99, 100, 101, 102]⟩ (P : Int) = (hexD P).toNat := by
 have : ∀ n : Fin 16, ch ⟨#[48, 49, 50, 51, 52, 53, 54, 55, 56, 57, 97, 98, 99, 100, 101, 102]⟩ ((n.val : Nat) : Int) = (hexD n.val).toNat := by decide +kernel
 exact this ⟨P, h⟩
theorem two_snoc (b : Str) (k : Nat) (h : k < b.length) : (b.take (k + 1)).flatMap two16 = (b.take k).flatMap two16 ++ two16 (b.getD k 0) := by
 have e1 : b.take (k + 1) = b.take k ++ [b.getD k 0] := by
  rw [List.take_add_one, List.getElem?_eq_getElem h, List.getD_eq_getElem?_getD, List.getElem?_eq_getElem h]
  rfl
 rw [e1, List.flatMap_append]
 simp
def pairsS (b : Str) : Str := if b = [] then [45] else b.flatMap two16
set_option maxRecDepth 100000 in
set_option maxHeartbeats 8000000 in
theorem pairs_any (o : Option Addr) (cap : Nat) (b : Str) (w : World) (h : CsAt w o (u8v b)) (hn : b.length ≤ 1073741824) :
    Calls Tryz.prog 94 #[.slice o b.length cap] w fun e w' => e = .returned (.string (strB (pairsS b))) ∧ Keep (fun _ => False) w w' := by
  obtain ⟨N, hN⟩ : ∃ N, b.length = N := ⟨_, rfl⟩
  by_cases h0 : b = []
  · subst h0
    rw [show (([] : Str).length) = 0 from rfl]
    go_enter Tryz.func94, Tryz.ntmps94
    go_wp2_with fail
    go_ret
    exact ⟨rfl, Keep.refl _ _⟩
  · have HX := Lib.hid (show pairsS b = b.flatMap two16 from by unfold pairsS; rw [if_neg h0])
    have hpos : 0 < N := by rw [← hN]; exact List.length_pos_iff.2 h0
    have hz : ((N : Int) == 0) = false := by rw [beq_eq_false_iff_ne]; omega
    have HC := Lib.hid (And.intro h hN)
    rw [hN] at hn ⊢
    clear h0 h hN
    go_enter Tryz.func94, Tryz.ntmps94
    go_wp2_with fail
    go_loopg [3, 5, 11] N (fun gq s3 s5 s11 wr => ∃ k : Nat, gq + k = N ∧ s11 = .int .i64 (k : Int) ∧ Hid (wr.ownsRow w.heap.size 5 1 s3 (2 * k) (u8v ((b.take k).flatMap two16)) ∧ Keep (fun _ => False) w wr))
    case atStart => exact ⟨0, by omega, rfl, row_nil _ _ _ _, Keep.refl _ _⟩
    case round =>
      obtain ⟨k, hgk, rfl, HK⟩ := hrel
      by_cases hk : k < N
      · have hkI : (k : Int) < (N : Int) := by omega
        have hk0 : (0 : Int) ≤ (k : Int) := by omega
        obtain ⟨g, f, rfl, hc, hl⟩ := HC.out.1 k (by rw [u8v_len, HC.out.2]; exact hk)
        have cg : wr.cell? ⟨g, f + k, none⟩ = some (.int .u8 ((b.getD k 0).toNat : Int)) := by
          have := (HK.out.2.cell (p := ⟨g, f + k, none⟩) hl id).trans hc
          rw [this]
          unfold u8v
          rw [List.getElem?_map, List.getElem?_eq_getElem (by rw [HC.out.2]; exact hk), List.getD_eq_getElem?_getD, List.getElem?_eq_getElem (by rw [HC.out.2]; exact hk)]
          rfl
        obtain ⟨c, hcc⟩ : ∃ c, b.getD k 0 = c := ⟨_, rfl⟩
        have hcl := c.toNat_lt
        rw [hcc] at cg
        obtain ⟨m, hm⟩ : ∃ m, c.toNat = m := ⟨_, rfl⟩
        rw [hm] at cg hcl
        have HM := Lib.hid (And.intro hcc hm)
        have HKK := Lib.hid HK.out
        clear hc hcc hm
        go_wp2_with fail
        obtain ⟨P, hP⟩ : ∃ P, m / 16 = P := ⟨_, rfl⟩
        obtain ⟨Q, hQ⟩ : ∃ Q, m % 16 = Q := ⟨_, rfl⟩
        have hp : (m : Int) / 16 = (P : Int) := by omega
        have hq : bits BinOp.and IntKind.u8 (m : Int) 15 = (Q : Int) := by rw [and15 m hcl, hQ]
        have hp0 : (0 : Int) ≤ (P : Int) := by omega
        have hp1 : (P : Int) < 16 := by omega
        have hq0 : (0 : Int) ≤ (Q : Int) := by omega
        have hq1 : (Q : Int) < 16 := by omega
        obtain ⟨A, hA⟩ : ∃ A, ch ⟨#[48, 49, 50, 51, 52, 53, 54, 55, 56, 57, 97, 98, 99, 100, 101, 102]⟩ (P : Int) = A := ⟨_, rfl⟩
        obtain ⟨C, hC⟩ : ∃ C, ch ⟨#[48, 49, 50, 51, 52, 53, 54, 55, 56, 57, 97, 98, 99, 100, 101, 102]⟩ (Q : Int) = C := ⟨_, rfl⟩
        have HPQ := Lib.hid (And.intro (show A = (hexD (m / 16)).toNat from by rw [← hA, dig_at P (by omega), hP]) (show C = (hexD (m % 16)).toNat from by rw [← hC, dig_at Q (by omega), hQ]))
        obtain ⟨i0, hi0, hz0, hz1, hz2⟩ := info8k
        clear hP hQ
        go_region_law (first
          | (refine step_append_k rfl (.tmp 15) (.tmp 22) 53 rfl w.heap.size 5 i0 (.int .u8 0) 1 1 Tryz.underlying53 hi0 hz0 hz1 hz2 rfl (by decide) u3 (2 * k) _ rfl (row_keep HKK.out.1 (((Keep.refl (fun _ => False) wr).drew).alloc _) fun _ _ => id) ⟨wr.heap.size, 0, none⟩ 2 2 [.int .u8 (A : Int), .int .u8 (C : Int)] rfl rfl (new_cells _ _ _) (by intro u hu; simp at hu; rcases hu with rfl | rfl <;> rfl) (by unfold maxLen; omega) (by omega) (by have := HKK.out.2.size; simp [World.drew]; omega) ?_
             intro v4 w4 hown hgr hblk
             have k4 : Keep (fun q => u3.ownBlock = some q) wr w4 := ((Keep.refl (fun q => u3.ownBlock = some q) wr).drew.alloc _).trans (keep_grown hgr)
             have H4 := Lib.hid (And.intro hown k4)
             clear hown hgr hblk k4))
        all_goals go_wp2_with fail
        all_goals go_roundg (gk - 1)
        all_goals first | omega | skip
        all_goals
          refine ⟨k + 1, by omega, by simp, ?_, ?_⟩
          · have h := H4.out.1
            rw [two_snoc b k (by rw [HC.out.2]; exact hk), u8v_app]
            unfold two16
            rw [HM.out.1, HM.out.2]
            simp only [u8v, List.map_cons, List.map_nil]
            rw [← HPQ.out.1, ← HPQ.out.2]
            exact h
          · refine HKK.out.2.own H4.out.2 fun i hi => Or.inr ?_
            rcases HKK.out.1.2 with ⟨h1, -⟩ | ⟨g2, c2, cur, h1, h2, -⟩
            · rw [h1] at hi; cases hi
            · rw [h1] at hi; cases hi; exact h2
      · obtain rfl : k = N := by omega
        have hkI : ¬ (k : Int) < (k : Int) := by omega
        have htk : b.take k = b := List.take_of_length_le (by rw [HC.out.2]; exact Nat.le_refl _)
        have h1 := HK.out.1
        rw [htk, ← HX.out] at h1
        have hcv := conv_str h1
        have HB := Lib.hid HK.out.2
        clear HK h1
        go_wp2_with fail
        go_ret
        exact ⟨rfl, HB.out⟩

def SlAt (w : World) (v : Value) (n : Nat) (xs : List Value) : Prop := ∃ o cap, v = .slice o n cap ∧ n ≤ cap ∧ CsAt w o xs ∧ (o = none → cap = 0)
theorem SlAt.kept {w w' : World} {v : Value} {n : Nat} {xs : List Value} (h : SlAt w v n xs) (k : Keep (fun _ => False) w w') : SlAt w' v n xs := by
 obtain ⟨o, cap, h1, h2, h3, h4⟩ := h
 exact ⟨o, cap, h1, h2, h3.kept k, h4⟩
structure TaskS (w : World) (t : MT) : Prop where
 row : SlAt w t.v t.l.length (t.l.flatMap MC.cells)
 data : ∀ c ∈ t.l, SlAt w c.d c.c.data.length (u8v c.c.data)
structure EndS (w : World) (e : ME) : Prop where
 keeps : SlAt w e.kv e.ks.length (e.ks.flatMap MK.cells)
 junk : ∀ k ∈ e.ks, SlAt w k.d k.k.junk.length (u8v k.k.junk)
 faults : SlAt w e.fv e.fs.length (fsv e.fs)
structure Seen (w : World) (m : M) : Prop where
 fs : SlAt w m.fv m.fs.length (fsv m.fs)
 ts : SlAt w m.tv m.ts.length (m.ts.map (·.v))
 calls : ∀ t ∈ m.ts, TaskS w t
 ps : SlAt w m.pv m.ps.length (m.ps.map (Value.int .i64))
 es : SlAt w m.ev m.es.length (m.es.flatMap ME.cells)
 ends : ∀ e ∈ m.es, EndS w e
theorem TaskS.kept {w w' : World} {t : MT} (h : TaskS w t) (k : Keep (fun _ => False) w w') : TaskS w' t := ⟨h.row.kept k, fun c hc => (h.data c hc).kept k⟩
theorem EndS.kept {w w' : World} {e : ME} (h : EndS w e) (k : Keep (fun _ => False) w w') : EndS w' e := ⟨h.keeps.kept k, fun c hc => (h.junk c hc).kept k, h.faults.kept k⟩
theorem Seen.kept {w w' : World} {m : M} (h : Seen w m) (k : Keep (fun _ => False) w w') : Seen w' m :=
 ⟨h.fs.kept k, h.ts.kept k, fun t ht => (h.calls t ht).kept k, h.ps.kept k, h.es.kept k, fun e he => (h.ends e he).kept k⟩
theorem SlAt.of_row {w : World} {base sz n : Nat} {e : TypeId} {v : Value} {xs : List Value} (h : w.ownsRow base e sz v n xs) : SlAt w v n xs := by
 rcases h.2 with ⟨rfl, h0⟩ | ⟨g, cap, cur, rfl, -, hg, hnc, -⟩
 ·have : xs = [] := List.length_eq_zero_iff.1 (by have := h.1; rw [h0] at this; simpa using this)
  subst this
  exact ⟨none, 0, by rw [h0], by omega, fun i hi => absurd hi (by simp), fun _ => rfl⟩
 ·refine ⟨_, cap, rfl, hnc, fun i hi => ⟨g, 0, rfl, ?_, lt_of_block hg⟩, fun e => nomatch e⟩
  have hc := h.cells rfl i _ (List.getElem?_eq_getElem hi)
  rw [addr_add, Nat.zero_add] at hc
  rw [Nat.zero_add, hc, List.getElem?_eq_getElem hi]
theorem LAt.seen {w : World} {own : Nat → Option T} {m : M} (h : LAt w own m) : Seen w m where
 fs := .of_row h.fs.row
 ts := .of_row h.ts.row
 calls := fun t ht => by
  obtain ⟨i, hi, rfl⟩ := List.getElem_of_mem ht
  have H := h.calls i _ (List.getElem?_eq_getElem hi)
  refine ⟨.of_row H.row.row, fun c hc => ?_⟩
  obtain ⟨j, hj, rfl⟩ := List.getElem_of_mem hc
  exact .of_row (H.data j _ (List.getElem?_eq_getElem hj)).row
 ps := .of_row h.ps.row
 es := .of_row h.es.row
 ends := fun e he => by
  obtain ⟨i, hi, rfl⟩ := List.getElem_of_mem he
  have H := h.ends i _ (List.getElem?_eq_getElem hi)
  refine ⟨.of_row H.keeps.row, fun c hc => ?_, .of_row H.faults.row⟩
  obtain ⟨j, hj, rfl⟩ := List.getElem_of_mem hc
  exact .of_row (H.junk j _ (List.getElem?_eq_getElem hj)).row
theorem flatc_get {α : Type} (f : α → List Value) (k : Nat) (hf : ∀ x, (f x).length = k) : ∀ (l : List α) (i : Nat) (x : α), l[i]? = some x → ∀ j, j < k → (l.flatMap f)[k * i + j]? = (f x)[j]?
 | [], i, x, h, j, hj => by simp at h
 | y :: l, 0, x, h, j, hj => by
  simp at h
  subst h
  rw [List.flatMap_cons, Nat.mul_zero, Nat.zero_add, List.getElem?_append_left (by rw [hf]; exact hj)]
 | y :: l, i + 1, x, h, j, hj => by
  rw [List.flatMap_cons, List.getElem?_append_right (by rw [hf]; rw [Nat.mul_succ]; omega), hf, show k * (i + 1) + j - k = k * i + j by rw [Nat.mul_succ]; omega]
  exact flatc_get f k hf l i x (by simpa using h) j hj
theorem flatc_len {α : Type} (f : α → List Value) (k : Nat) (hf : ∀ x, (f x).length = k) (l : List α) : (l.flatMap f).length = k * l.length := by
 induction l with
 | nil => simp
 | cons y l ih => rw [List.flatMap_cons, List.length_append, hf, ih, List.length_cons, Nat.mul_succ]; omega
theorem CsAt.get {α : Type} {w : World} {g fo : Nat} {f : α → List Value} {l : List α} (k : Nat) (h : CsAt w (some ⟨g, fo, none⟩) (l.flatMap f)) (hf : ∀ x, (f x).length = k) {i : Nat} {x : α} (hi : l[i]? = some x) (j : Nat) (hj : j < k) : w.cell? ⟨g, fo + i * k + j, none⟩ = (f x)[j]? := by
 have hl : i < l.length := (List.getElem?_eq_some_iff.1 hi).1
 obtain ⟨g', f', e, hc, -⟩ := h (k * i + j) (by rw [flatc_len f k hf]; calc k * i + j < k * i + k := by omega
   _ = k * (i + 1) := by rw [Nat.mul_succ]
   _ ≤ k * l.length := Nat.mul_le_mul_left _ hl)
 cases e
 rw [show fo + i * k + j = fo + (k * i + j) by rw [Nat.mul_comm]; omega, hc, flatc_get f k hf l i x hi j hj]
theorem CsAt.some {w : World} {o : Option Addr} {xs : List Value} (h : CsAt w o xs) (hx : 0 < xs.length) : ∃ g f, o = some ⟨g, f, none⟩ ∧ g < w.heap.size := by
 obtain ⟨g, f, e, -, hl⟩ := h 0 hx
 exact ⟨g, f, e, hl⟩
def manyF (p : Play) : Bool := decide (64 < p.faults.length ∨ 16 < p.tasks.length ∨ 65536 < p.picks.length ∨ 16 < p.ends.length) || p.tasks.any (fun l => decide (256 < l.length)) || p.ends.any (fun x => decide (64 < x.faults.length ∨ 256 < x.keeps.length))
end Sc
end Go.Proofs.YtkkecpamnnojoaaGreatDoor
