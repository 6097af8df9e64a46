/- Package real: exact sums: size. By an AI agent. -/
import Derived.Test.YtipkiiblghnoiaaGreatDoorSumC
import Derived.Laws.Tables
import Derived.Laws.Rows
import Derived.Deep.DeepMust
import Derived.BigQuiet
namespace Go.Proofs.YtipkiiblghnoiaaGreatDoor.Sm
open Go.ChangeShapes Go.WideShapes Go.ChangeAt Go.RowKit
set_option linter.unusedVariables false
set_option linter.unusedSimpArgs false

theorem wA_all (n : Nat) (f : Nat → Nat) : (wA n f).all (·.oneCell') = true := by
  rw [Array.all_eq_true]
  intro i hi
  have : (wA n f)[i]? = some ((wA n f)[i]) := Array.getElem?_eq_getElem hi
  have h2 : i < n := by simpa [wA] using hi
  rw [wA_get n f i h2] at this
  have e := Option.some.inj this
  rw [← e]
  rfl
theorem wA_size (n : Nat) (f : Nat → Nat) : (wA n f).size = n := by simp [wA]
theorem ex_size : (Tryz.prog.info? 58).map (·.size) = some 36 := by kernel_rfl

/-- Without its sign: what is left of 2^2304. -/
def compW (f : Nat → Nat) : Nat → Nat := fun j => 18446744073709551615 - f j
theorem comp_val {f : Nat → Nat} (hf : ∀ j, f j < 18446744073709551616) (n : Nat) : wv 18446744073709551616 (compW f) n + wv 18446744073709551616 f n + 1 = 18446744073709551616 ^ n := by
  induction n with
  | zero => rfl
  | succ n ih =>
    show wv 18446744073709551616 (compW f) n + compW f n * 18446744073709551616 ^ n + (wv 18446744073709551616 f n + f n * 18446744073709551616 ^ n) + 1 = _
    have h := hf n
    have e : compW f n + f n + 1 = 18446744073709551616 := by unfold compW; omega
    rw [Nat.pow_succ]
    generalize 18446744073709551616 ^ n = P at *
    have e2 := congrArg (· * P) e
    simp only [Nat.add_mul, Nat.one_mul] at e2
    rw [Nat.mul_comm P]
    omega
/-- What size tells, of the words. -/
def SizeRel (f g : Nat → Nat) : Prop := (∀ j, g j < 18446744073709551616) ∧ (f 35 < 2 ^ 63 → V36 g = V36 f) ∧ (2 ^ 63 ≤ f 35 → V36 g + V36 f = 18446744073709551616 ^ 36)

theorem xor_max (a : Nat) (h : a < 18446744073709551616) : bits BinOp.xor IntKind.u64 IntKind.u64.max (a : Int) = ((18446744073709551615 - a : Nat) : Int) := by
  have h1 : BitVec.ofInt 64 IntKind.u64.max = BitVec.allOnes 64 := by decide
  have h2 : (BitVec.ofInt 64 (a : Int)).toNat = a := by rw [BitVec.ofInt_natCast, BitVec.toNat_ofNat]; omega
  show IntKind.u64.wrap ((BitVec.ofInt 64 IntKind.u64.max ^^^ BitVec.ofInt 64 (a : Int)).toNat : Int) = _
  rw [h1, BitVec.allOnes_xor, BitVec.toNat_not, h2, IntKind.wrap_u64]
  omega
def Z36 : Array Value := #[Value.int .u64 0, Value.int .u64 0, Value.int .u64 0, Value.int .u64 0, Value.int .u64 0, Value.int .u64 0, Value.int .u64 0, Value.int .u64 0, Value.int .u64 0, Value.int .u64 0, Value.int .u64 0, Value.int .u64 0, Value.int .u64 0, Value.int .u64 0, Value.int .u64 0, Value.int .u64 0, Value.int .u64 0, Value.int .u64 0, Value.int .u64 0, Value.int .u64 0, Value.int .u64 0, Value.int .u64 0, Value.int .u64 0, Value.int .u64 0, Value.int .u64 0, Value.int .u64 0, Value.int .u64 0, Value.int .u64 0, Value.int .u64 0, Value.int .u64 0, Value.int .u64 0, Value.int .u64 0, Value.int .u64 0, Value.int .u64 0, Value.int .u64 0, Value.int .u64 0]
theorem z36 : Z36 = wA 36 (fun _ => 0) := by rfl
theorem Keep.setRow {bs : Nat → Prop} {a w : World} (h : Keep bs a w) {g : Nat} (hg : bs g ∨ a.heap.size ≤ g) (c : Array Value) : Keep bs a (w.setRow g c) :=
  ⟨h.os, h.tape, h.output, by rw [size_setRow]; exact h.size, fun k hk hn => (setRow_other w g k c (by rcases hg with hg | hg; (intro e; subst e; exact hn hg); omega)).trans (h.block k hk hn)⟩
theorem results_size (tmps : Array Value) (w : World) (bo : Nat) (g : Nat → Nat) (h2 : tmps.getD 2 undef = .pointer (some ⟨bo, 0, none⟩)) (ho : ExAt w bo g) :
    (results Tryz.f47 tmps).run Tryz.prog w = .ok (.agg (wA 36 g)) w := by
  have h1 := run_loadVar_row (P := Tryz.prog) w bo 58 58 (wA 36 g) (0, 0) _ ho Tryz.underlying58 rfl (by rw [ex_size, wA_size])
  have e2 : tmps[2]?.getD undef = .pointer (some ⟨bo, 0, none⟩) := by simpa using h2
  simp [results, Tryz.results47, e2, asAddr, h1]
theorem store_guard {P : Program} {ops : Array Oper} {rest : List Oper} {o : Oper} {a : Act} {w : World} {Q : Exit → Act → World → Prop} (x y : Operand) (ty : TypeId) (ho : o.op = .store ty x y)
    (h : wpList P ops Q (o :: rest) a w) : wpList P ops Q (o :: rest) a w := h
theorem load_guard {P : Program} {ops : Array Oper} {rest : List Oper} {o : Oper} {a : Act} {w : World} {Q : Exit → Act → World → Prop} (x : Operand) (ty : TypeId) (ho : o.op = .load ty x)
    (h : wpList P ops Q (o :: rest) a w) : wpList P ops Q (o :: rest) a w := h

set_option maxRecDepth 100000 in
set_option maxHeartbeats 4000000 in
theorem size_any {w : World} {b : Nat} {f : Nat → Nat} (h : ExAt w b f) (hf : ∀ j, f j < 18446744073709551616) :
    Calls Tryz.prog 47 #[.pointer (some ⟨b, 0, none⟩)] w fun e w' => ∃ g, e = .returned (.agg (wA 36 g)) ∧ SizeRel f g ∧ Below w.heap.size w w' := by
  have HF := Lib.hid (And.intro h hf)
  clear h hf
  go_enter Tryz.func47, Tryz.ntmps47
  go_wp2_with fail
  have hw1 : ∃ W, W = (w.alloc (.cells Z36 58)) := ⟨_, rfl⟩
  obtain ⟨W1, hW1⟩ := hw1
  have hx1 : ExAt W1 w.heap.size (fun _ => 0) := by rw [hW1, z36]; exact blk_new w _
  have hk1 : Below w.heap.size w W1 := by rw [hW1]; exact (Below.refl _ w).alloc (Nat.le_refl _) _
  have hs1 : W1.heap.size = w.heap.size + 1 := by rw [hW1]; simp
  have hf1 : ExAt W1 b f := (hk1.block _ (lt_of_block HF.out.1)).trans HF.out.1
  have hbb : b < w.heap.size := lt_of_block HF.out.1
  unfold Z36 at hW1
  rw [← hW1]
  clear hW1
  have H1 := Lib.hid (And.intro hx1 (And.intro hk1 (And.intro hs1 (And.intro hf1 hbb))))
  clear hx1 hk1 hs1 hf1 hbb
  refine (below_any H1.out.2.2.2.1).mono ?_
  rintro e w2 ⟨rfl, rfl⟩
  by_cases hs : 2 ^ 63 ≤ f 35
  · rw [decide_eq_true hs]
    have HS := Lib.hid hs
    clear hs
    go_wp2_with fail
    have hw3 : ∃ W, W = (w2.alloc (.cells Z36 58)) := ⟨_, rfl⟩
    obtain ⟨W3, hW3⟩ := hw3
    have hk3 : Below w2.heap.size w2 W3 := by rw [hW3]; exact (Below.refl _ w2).alloc (Nat.le_refl _) _
    have hx3 : ExAt W3 w2.heap.size (fun _ => 0) := by rw [hW3, z36]; exact blk_new w2 _
    have H3 := Lib.hid (And.intro hk3 (And.intro hx3 (And.intro ((hk3.block _ (lt_of_block H1.out.1)).trans H1.out.1) ((hk3.block _ (lt_of_block H1.out.2.2.2.1)).trans H1.out.2.2.2.1))))
    unfold Z36 at hW3
    rw [← hW3]
    clear hW3 hk3 hx3
    go_loopg [4, 14] 36 (fun gq s4 s14 wx => ∃ (i c : Nat) (g : Nat → Nat), gq + i = 36 ∧ s4 = .int .u64 (c : Int) ∧ s14 = .int .i64 (i : Int) ∧ Hid (ExAt wx w2.heap.size g ∧ Keep (· = w2.heap.size) W3 wx ∧ (∀ j, g j < 18446744073709551616) ∧ c ≤ 1 ∧ wv 18446744073709551616 g i + c * 18446744073709551616 ^ i = wv 18446744073709551616 (compW f) i + 1))
    case atStart => exact ⟨0, 1, fun _ => 0, by omega, rfl, rfl, H3.out.2.1, Keep.refl _ _, fun _ => (by decide : (0 : Nat) < 18446744073709551616), by decide, rfl⟩
    case round =>
      obtain ⟨i, c, g, hgi, rfl, rfl, HI⟩ := hrel
      have hbs : b < w2.heap.size := by have := H1.out.2.2.2.2; have := H1.out.2.2.1; omega
      by_cases hi : i < 36
      · have hfx : ExAt wr b f := HI.out.2.1.same H3.out.2.2.2 (by omega)
        have c0 := hfx.cell hi
        have f0 := HI.out.1.free i
        have c1 := HI.out.1.cell hi
        have hcx : bits BinOp.xor IntKind.u64 IntKind.u64.max ((f i : Nat) : Int) = ((compW f i : Nat) : Int) := xor_max (f i) (HF.out.2 i)
        have hst := ext_add (compW f i) 0 c HI.out.2.2.2.1
        rw [show ((0 : Nat) : Int) = 0 from rfl] at hst
        have hcw : compW f i < 18446744073709551616 := by unfold compW; omega
        have HNX : RowKit.Hid (wv 18446744073709551616 (upd g i (stepS false (compW f i) 0 c)) (i + 1) + stepC false (compW f i) 0 c * 18446744073709551616 ^ (i + 1) = wv 18446744073709551616 (compW f) (i + 1) + 1) := Lib.hid (by
          have e0 := HI.out.2.2.2.2
          have e1 : wv 18446744073709551616 (upd g i (stepS false (compW f i) 0 c)) i = wv 18446744073709551616 g i := wv_congr (fun j hj => upd_other (by omega))
          show wv 18446744073709551616 (upd g i (stepS false (compW f i) 0 c)) i + upd g i (stepS false (compW f i) 0 c) i * 18446744073709551616 ^ i + _ = wv 18446744073709551616 (compW f) i + compW f i * 18446744073709551616 ^ i + 1
          rw [e1, upd_same, Nat.pow_succ, Nat.mul_comm (18446744073709551616 ^ i) 18446744073709551616, ← Nat.mul_assoc]
          have e : stepS false (compW f i) 0 c + stepC false (compW f i) 0 c * 18446744073709551616 = compW f i + 0 + c := by unfold stepS stepC; simp only [Bool.false_eq_true, if_false]; omega
          generalize 18446744073709551616 ^ i = P at *
          have e2 := congrArg (· * P) e
          simp only [Nat.add_mul, Nat.zero_mul] at e2
          omega)
        have HC := Lib.hid (And.intro (stepS_lt false (compW f i) 0 c) (stepC_le (neg := false) (y := 0) hcw (by decide) HI.out.2.2.2.1))
        generalize stepS false (compW f i) 0 c = s at *
        generalize stepC false (compW f i) 0 c = c' at *
        generalize compW f i = cf at *
        clear hfx hcw hbs
        go_wp2_with fail
        go_quiet (fail)
        go_wp2_with fail
        go_roundg (gk - 1)
        all_goals first | omega | skip
        case rel =>
          refine ⟨i + 1, c', upd g i s, by omega, rfl, rfl, HI.out.1.set i s, HI.out.2.1.trans ?_, upd_lt HI.out.2.2.1 HC.out.1, HC.out.2, HNX.out⟩
          exact Keep.setCell (bs := (· = w2.heap.size)) ((Keep.refl _ wr).drewN nq) (p := ⟨w2.heap.size, i, none⟩) (Or.inl rfl) _
      · obtain rfl : i = 36 := by omega
        have hz : ExAt wr w.heap.size (fun _ => 0) := HI.out.2.1.same H3.out.2.2.1 (by have := H1.out.2.2.1; omega)
        have HZ := Lib.hid (And.intro hz HI.out.1)
        have hsz := HI.out.2.1.size
        have hsz3 := H3.out.1.size
        have HSR : RowKit.Hid (SizeRel f g) := Lib.hid (by
          refine ⟨HI.out.2.2.1, fun h => absurd HS.out (by omega), fun _ => ?_⟩
          have e1 := HI.out.2.2.2.2
          have e2 := comp_val HF.out.2 36
          have e3 : 18446744073709551616 ^ 35 ≤ V36 f := by
            show _ ≤ wv 18446744073709551616 f 35 + f 35 * 18446744073709551616 ^ 35
            have := HS.out
            have h1 : 1 * 18446744073709551616 ^ 35 ≤ f 35 * 18446744073709551616 ^ 35 := Nat.mul_le_mul_right _ (by omega)
            rw [Nat.one_mul] at h1
            exact Nat.le_trans h1 (Nat.le_add_left _ _)
          have e4 : 0 < (18446744073709551616 : Nat) ^ 35 := Nat.pow_pos (by decide)
          have e5 := wv_lt (B := 18446744073709551616) (f := g) (by decide) (n := 36) (fun j _ => HI.out.2.2.1 j)
          have hc := HI.out.2.2.2.1
          unfold V36 at e3 ⊢
          generalize (18446744073709551616 : Nat) ^ 35 = P35 at *
          generalize (18446744073709551616 : Nat) ^ 36 = P36 at *
          generalize wv 18446744073709551616 g 36 = a at *
          generalize wv 18446744073709551616 f 36 = b at *
          generalize wv 18446744073709551616 (compW f) 36 = d at *
          rcases (show c = 0 ∨ c = 1 by omega) with rfl | rfl
          · omega
          · omega)
        clear hz
        go_wp2_with (first
          | (refine load_guard (.tmp 3) 58 (by rfl) ?_
             go_must (refine wpList_load_row rfl 58 (.tmp 3) rfl w2.heap.size rfl 58 (wA 36 g) (0, 0) _ HZ.out.2 Tryz.underlying58 rfl (by rw [ex_size, wA_size]) ?_))
          | (refine store_guard (.tmp 2) (.tmp 30) 58 (by rfl) ?_
             go_must (refine wpList_store_row rfl 58 (.tmp 2) (.tmp 30) rfl w.heap.size (wA 36 g) rfl rfl 58 _ HZ.out.1 (by rw [ex_size, wA_size]) (by rw [wA_size, wA_size]) (wA_all _ _) ?_)))
        refine bodyPost_ret (results_size _ _ w.heap.size g rfl (setRow_heap wr _ _ _ _ _ HZ.out.1)) rfl ?_
        have k1 := H1.out.2.1.trans (H3.out.1.mono H1.out.2.1.size)
        have k2 := k1.trans (HI.out.2.1.below k1.size (fun x hx => by have := H1.out.2.2.1; omega))
        exact ⟨g, rfl, HSR.out, k2.trans ((Keep.setRow (bs := (· = w.heap.size)) (Keep.refl _ wr) (Or.inl rfl) _).below k2.size (fun x hx => by omega))⟩
  · rw [decide_eq_false hs]
    have HS := Lib.hid hs
    clear hs
    go_wp2_with (first
      | (refine load_guard (.tmp 11) 58 (by rfl) ?_
         go_must (refine wpList_load_row rfl 58 (.tmp 11) rfl b rfl 58 (wA 36 f) (0, 0) _ H1.out.2.2.2.1 Tryz.underlying58 rfl (by rw [ex_size, wA_size]) ?_))
      | (refine store_guard (.tmp 2) (.tmp 12) 58 (by rfl) ?_
         go_must (refine wpList_store_row rfl 58 (.tmp 2) (.tmp 12) rfl w.heap.size (wA 36 f) rfl rfl 58 _ H1.out.1 (by rw [ex_size, wA_size]) (by rw [wA_size, wA_size]) (wA_all _ _) ?_)))
    refine bodyPost_ret (results_size _ _ w.heap.size f rfl (setRow_heap w2 _ _ _ _ _ H1.out.1)) rfl ?_
    exact ⟨f, rfl, ⟨HF.out.2, fun _ => rfl, fun h => absurd h HS.out⟩, H1.out.2.1.trans ((Keep.setRow (bs := (· = w.heap.size)) (Keep.refl _ w2) (Or.inl rfl) _).below H1.out.2.1.size (fun x hx => by omega))⟩
end Go.Proofs.YtipkiiblghnoiaaGreatDoor.Sm
