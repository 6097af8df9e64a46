/- Package real: exact sums: size. By an AI agent. -/
import Derived.Test.YtemjlkmlodmmfaaGreatDoorMg02
import Derived.Laws.Tables
import Derived.Laws.Rows
import Derived.Deep.DeepMust
import Derived.BigQuiet
import Derived.Test.YtemjlkmlodmmfaaGreatDoorMg05
import Derived.Test.YtemjlkmlodmmfaaGreatDoorMg00
import Derived.Test.YtemjlkmlodmmfaaGreatDoorMg06
namespace Go.Proofs.YtemjlkmlodmmfaaGreatDoor.Sm
open Go.ChangeShapes Go.WideShapes Go.ChangeAt Go.RowKit
set_option linter.unusedVariables false
set_option linter.unusedSimpArgs false

theorem wA_all (n : Nat) (f : Nat → Nat) : (wA n f).all (·.oneCell') = true := by
  rw [Array.all_eq_true]
  intro i hi
  have : (wA n f)[i]? = some ((wA n f)[i]) := Array.getElem?_eq_getElem hi
  have h2 : i < n := by simpa [wA] using hi
  rw [wA_get n f i h2] at this
  have e := Option.some.inj this
  rw [← e]
  rfl
theorem wA_size (n : Nat) (f : Nat → Nat) : (wA n f).size = n := by simp [wA]
theorem ex_size : (Tryz.prog.info? 54).map (·.size) = some 36 := by kernel_rfl

/-- Without its sign: what is left of 2^2304. -/
def compW (f : Nat → Nat) : Nat → Nat := fun j => 18446744073709551615 - f j
theorem comp_val {f : Nat → Nat} (hf : ∀ j, f j < 18446744073709551616) (n : Nat) : wv 18446744073709551616 (compW f) n + wv 18446744073709551616 f n + 1 = 18446744073709551616 ^ n := by
  induction n with
  | zero => rfl
  | succ n ih =>
    show wv 18446744073709551616 (compW f) n + compW f n * 18446744073709551616 ^ n + (wv 18446744073709551616 f n + f n * 18446744073709551616 ^ n) + 1 = _
    have h := hf n
    have e : compW f n + f n + 1 = 18446744073709551616 := by unfold compW; omega
    rw [Nat.pow_succ]
    generalize 18446744073709551616 ^ n = P at *
    have e2 := congrArg (· * P) e
    simp only [Nat.add_mul, Nat.one_mul] at e2
    rw [Nat.mul_comm P]
    omega
/-- What size tells, of the words. -/
def SizeRel (f g : Nat → Nat) : Prop := (∀ j, g j < 18446744073709551616) ∧ (f 35 < 2 ^ 63 → V36 g = V36 f) ∧ (2 ^ 63 ≤ f 35 → V36 g + V36 f = 18446744073709551616 ^ 36)

theorem xor_max (a : Nat) (h : a < 18446744073709551616) : bits BinOp.xor IntKind.u64 IntKind.u64.max (a : Int) = ((18446744073709551615 - a : Nat) : Int) := by
  have h1 : BitVec.ofInt 64 IntKind.u64.max = BitVec.allOnes 64 := by decide
  have h2 : (BitVec.ofInt 64 (a : Int)).toNat = a := by rw [BitVec.ofInt_natCast, BitVec.toNat_ofNat]; omega
  show IntKind.u64.wrap ((BitVec.ofInt 64 IntKind.u64.max ^^^ BitVec.ofInt 64 (a : Int)).toNat : Int) = _
  rw [h1, BitVec.allOnes_xor, BitVec.toNat_not, h2, IntKind.wrap_u64]
  omega
def Z36 : Array Value := #[Value.int .u64 0, Value.int .u64 0, Value.int .u64 0, Value.int .u64 0, Value.int .u64 0, Value.int .u64 0, Value.int .u64 0, Value.int .u64 0, Value.int .u64 0, Value.int .u64 0, Value.int .u64 0, Value.int .u64 0, Value.int .u64 0, Value.int .u64 0, Value.int .u64 0, Value.int .u64 0, Value.int .u64 0, Value.int .u64 0, Value.int .u64 0, Value.int .u64 0, Value.int .u64 0, Value.int .u64 0, Value.int .u64 0, Value.int .u64 0, Value.int .u64 0, Value.int .u64 0, Value.int .u64 0, Value.int .u64 0, Value.int .u64 0, Value.int .u64 0, Value.int .u64 0, Value.int .u64 0, Value.int .u64 0, Value.int .u64 0, Value.int .u64 0, Value.int .u64 0]
theorem z36 : Z36 = wA 36 (fun _ => 0) := by rfl
theorem Keep.setRow {bs : Nat → Prop} {a w : World} (h : Keep bs a w) {g : Nat} (hg : bs g ∨ a.heap.size ≤ g) (c : Array Value) : Keep bs a (w.setRow g c) :=
  ⟨h.os, h.tape, h.output, by rw [size_setRow]; exact h.size, fun k hk hn => (setRow_other w g k c (by rcases hg with hg | hg; (intro e; subst e; exact hn hg); omega)).trans (h.block k hk hn)⟩
theorem results_size (tmps : Array Value) (w : World) (bo : Nat) (g : Nat → Nat) (h2 : tmps.getD 2 undef = .pointer (some ⟨bo, 0, none⟩)) (ho : ExAt w bo g) :
    (results Tryz.f30 tmps).run Tryz.prog w = .ok (.agg (wA 36 g)) w := by
  have h1 := run_loadVar_row (P := Tryz.prog) w bo 54 54 (wA 36 g) (0, 0) _ ho Tryz.underlying54 rfl (by rw [ex_size, wA_size])
  have e2 : tmps[2]?.getD undef = .pointer (some ⟨bo, 0, none⟩) := by simpa using h2
  simp [results, Tryz.results30, e2, asAddr, h1]
theorem store_guard {P : Program} {ops : Array Oper} {rest : List Oper} {o : Oper} {a : Act} {w : World} {Q : Exit → Act → World → Prop} (x y : Operand) (ty : TypeId) (ho : o.op = .store ty x y)
    (h : wpList P ops Q (o :: rest) a w) : wpList P ops Q (o :: rest) a w := h
theorem load_guard {P : Program} {ops : Array Oper} {rest : List Oper} {o : Oper} {a : Act} {w : World} {Q : Exit → Act → World → Prop} (x : Operand) (ty : TypeId) (ho : o.op = .load ty x)
    (h : wpList P ops Q (o :: rest) a w) : wpList P ops Q (o :: rest) a w := h

set_option maxRecDepth 100000 in
set_option maxHeartbeats 4000000 in
theorem size_any {w : World} {b : Nat} {f : Nat → Nat} (h : ExAt w b f) (hf : ∀ j, f j < 18446744073709551616) :
    Calls Tryz.prog 30 #[.pointer (some ⟨b, 0, none⟩)] w fun e w' => ∃ g, e = .returned (.agg (wA 36 g)) ∧ SizeRel f g ∧ Below w.heap.size w w' := by
  have HF := Lib.hid (And.intro h hf)
  clear h hf
  go_enter Tryz.func30, Tryz.ntmps30
  go_wp2_with fail
  have hw1 : ∃ W, W = (w.alloc (.cells Z36 54)) := ⟨_, rfl⟩
  obtain ⟨W1, hW1⟩ := hw1
  have hx1 : ExAt W1 w.heap.size (fun _ => 0) := by rw [hW1, z36]; exact blk_new w _
  have hk1 : Below w.heap.size w W1 := by rw [hW1]; exact (Below.refl _ w).alloc (Nat.le_refl _) _
  have hs1 : W1.heap.size = w.heap.size + 1 := by rw [hW1]; simp
  have hf1 : ExAt W1 b f := (hk1.block _ (lt_of_block HF.out.1)).trans HF.out.1
  have hbb : b < w.heap.size := lt_of_block HF.out.1
  unfold Z36 at hW1
  rw [← hW1]
  clear hW1
  have H1 := Lib.hid (And.intro hx1 (And.intro hk1 (And.intro hs1 (And.intro hf1 hbb))))
  clear hx1 hk1 hs1 hf1 hbb
  refine (below_any H1.out.2.2.2.1).mono ?_
  rintro e w2 ⟨rfl, rfl⟩
  by_cases hs : 2 ^ 63 ≤ f 35
  · rw [decide_eq_true hs]
    have HS := Lib.hid hs
    clear hs
    go_wp2_with fail
    have hw3 : ∃ W, W = (w2.alloc (.cells Z36 54)) := ⟨_, rfl⟩
    obtain ⟨W3, hW3⟩ := hw3
    have hk3 : Below w2.heap.size w2 W3 := by rw [hW3]; exact (Below.refl _ w2).alloc (Nat.le_refl _) _
    have hx3 : ExAt W3 w2.heap.size (fun _ => 0) := by rw [hW3, z36]; exact blk_new w2 _
    have H3 := Lib.hid (And.intro hk3 (And.intro hx3 (And.intro ((hk3.block _ (lt_of_block H1.out.1)).trans H1.out.1) ((hk3.block _ (lt_of_block H1.out.2.2.2.1)).trans H1.out.2.2.2.1))))
    unfold Z36 at hW3
    rw [← hW3]
    clear hW3 hk3 hx3
    go_loopg [4, 14] 36 (fun gq s4 s14 wx => ∃ (i c : Nat) (g : Nat → Nat), gq + i = 36 ∧ s4 = .int .u64 (c : Int) ∧ s14 = .int .i64 (i : Int) ∧ Hid (ExAt wx w2.heap.size g ∧ Keep (· = w2.heap.size) W3 wx ∧ (∀ j, g j < 18446744073709551616) ∧ c ≤ 1 ∧ wv 18446744073709551616 g i + c * 18446744073709551616 ^ i = wv 18446744073709551616 (compW f) i + 1))
    case atStart => exact ⟨0, 1, fun _ => 0, by omega, rfl, rfl, H3.out.2.1, Keep.refl _ _, fun _ => (by decide : (0 : Nat) < 18446744073709551616), by decide, rfl⟩
    case round =>
      obtain ⟨i, c, g, hgi, rfl, rfl, HI⟩ := hrel
      have hbs : b < w2.heap.size := by have := H1.out.2.2.2.2; have := H1.out.2.2.1; omega
      by_cases hi : i < 36
      · have hfx : ExAt wr b f := HI.out.2.1.same H3.out.2.2.2 (by omega)
        have c0 := hfx.cell hi
        have f0 := HI.out.1.free i
        have c1 := HI.out.1.cell hi
        have hcx : bits BinOp.xor IntKind.u64 IntKind.u64.max ((f i : Nat) : Int) = ((compW f i : Nat) : Int) := xor_max (f i) (HF.out.2 i)
        have hst := ext_add (compW f i) 0 c HI.out.2.2.2.1
        rw [show ((0 : Nat) : Int) = 0 from rfl] at hst
        have hcw : compW f i < 18446744073709551616 := by unfold compW; omega
        have HNX : RowKit.Hid (wv 18446744073709551616 (upd g i (stepS false (compW f i) 0 c)) (i + 1) + stepC false (compW f i) 0 c * 18446744073709551616 ^ (i + 1) = wv 18446744073709551616 (compW f) (i + 1) + 1) := Lib.hid (by
          have e0 := HI.out.2.2.2.2
          have e1 : wv 18446744073709551616 (upd g i (stepS false (compW f i) 0 c)) i = wv 18446744073709551616 g i := wv_congr (fun j hj => upd_other (by omega))
          show wv 18446744073709551616 (upd g i (stepS false (compW f i) 0 c)) i + upd g i (stepS false (compW f i) 0 c) i * 18446744073709551616 ^ i + _ = wv 18446744073709551616 (compW f) i + compW f i * 18446744073709551616 ^ i + 1
          rw [e1, upd_same, Nat.pow_succ, Nat.mul_comm (18446744073709551616 ^ i) 18446744073709551616, ← Nat.mul_assoc]
          have e : stepS false (compW f i) 0 c + stepC false (compW f i) 0 c * 18446744073709551616 = compW f i + 0 + c := by unfold stepS stepC; simp only [Bool.false_eq_true, if_false]; omega
          generalize 18446744073709551616 ^ i = P at *
          have e2 := congrArg (· * P) e
          simp only [Nat.add_mul, Nat.zero_mul] at e2
          omega)
        have HC := Lib.hid (And.intro (stepS_lt false (compW f i) 0 c) (stepC_le (neg := false) (y := 0) hcw (by decide) HI.out.2.2.2.1))
        generalize stepS false (compW f i) 0 c = s at *
        generalize stepC false (compW f i) 0 c = c' at *
        generalize compW f i = cf at *
        clear hfx hcw hbs
        go_wp2_with fail
        go_quiet (fail)
        go_wp2_with fail
        go_roundg (gk - 1)
        all_goals first | omega | skip
        case rel =>
          refine ⟨i + 1, c', upd g i s, by omega, rfl, rfl, HI.out.1.set i s, HI.out.2.1.trans ?_, upd_lt HI.out.2.2.1 HC.out.1, HC.out.2, HNX.out⟩
          exact Keep.setCell (bs := (· = w2.heap.size)) ((Keep.refl _ wr).drewN nq) (p := ⟨w2.heap.size, i, none⟩) (Or.inl rfl) _
      · obtain rfl : i = 36 := by omega
        have hz : ExAt wr w.heap.size (fun _ => 0) := HI.out.2.1.same H3.out.2.2.1 (by have := H1.out.2.2.1; omega)
        have HZ := Lib.hid (And.intro hz HI.out.1)
        have hsz := HI.out.2.1.size
        have hsz3 := H3.out.1.size
        have HSR : RowKit.Hid (SizeRel f g) := Lib.hid (by
          refine ⟨HI.out.2.2.1, fun h => absurd HS.out (by omega), fun _ => ?_⟩
          have e1 := HI.out.2.2.2.2
          have e2 := comp_val HF.out.2 36
          have e3 : 18446744073709551616 ^ 35 ≤ V36 f := by
            show _ ≤ wv 18446744073709551616 f 35 + f 35 * 18446744073709551616 ^ 35
            have := HS.out
            have h1 : 1 * 18446744073709551616 ^ 35 ≤ f 35 * 18446744073709551616 ^ 35 := Nat.mul_le_mul_right _ (by omega)
            rw [Nat.one_mul] at h1
            exact Nat.le_trans h1 (Nat.le_add_left _ _)
          have e4 : 0 < (18446744073709551616 : Nat) ^ 35 := Nat.pow_pos (by decide)
          have e5 := wv_lt (B := 18446744073709551616) (f := g) (by decide) (n := 36) (fun j _ => HI.out.2.2.1 j)
          have hc := HI.out.2.2.2.1
          unfold V36 at e3 ⊢
          generalize (18446744073709551616 : Nat) ^ 35 = P35 at *
          generalize (18446744073709551616 : Nat) ^ 36 = P36 at *
          generalize wv 18446744073709551616 g 36 = a at *
          generalize wv 18446744073709551616 f 36 = b at *
          generalize wv 18446744073709551616 (compW f) 36 = d at *
          rcases (show c = 0 ∨ c = 1 by omega) with rfl | rfl
          · omega
          · omega)
        clear hz
        go_wp2_with (first
          | (refine load_guard (.tmp 3) 54 (by rfl) ?_
             go_must (refine wpList_load_row rfl 54 (.tmp 3) rfl w2.heap.size rfl 54 (wA 36 g) (0, 0) _ HZ.out.2 Tryz.underlying54 rfl (by rw [ex_size, wA_size]) ?_))
          | (refine store_guard (.tmp 2) (.tmp 30) 54 (by rfl) ?_
             go_must (refine wpList_store_row rfl 54 (.tmp 2) (.tmp 30) rfl w.heap.size (wA 36 g) rfl rfl 54 _ HZ.out.1 (by rw [ex_size, wA_size]) (by rw [wA_size, wA_size]) (wA_all _ _) ?_)))
        refine bodyPost_ret (results_size _ _ w.heap.size g rfl (setRow_heap wr _ _ _ _ _ HZ.out.1)) rfl ?_
        have k1 := H1.out.2.1.trans (H3.out.1.mono H1.out.2.1.size)
        have k2 := k1.trans (HI.out.2.1.below k1.size (fun x hx => by have := H1.out.2.2.1; omega))
        exact ⟨g, rfl, HSR.out, k2.trans ((Keep.setRow (bs := (· = w.heap.size)) (Keep.refl _ wr) (Or.inl rfl) _).below k2.size (fun x hx => by omega))⟩
  · rw [decide_eq_false hs]
    have HS := Lib.hid hs
    clear hs
    go_wp2_with (first
      | (refine load_guard (.tmp 11) 54 (by rfl) ?_
         go_must (refine wpList_load_row rfl 54 (.tmp 11) rfl b rfl 54 (wA 36 f) (0, 0) _ H1.out.2.2.2.1 Tryz.underlying54 rfl (by rw [ex_size, wA_size]) ?_))
      | (refine store_guard (.tmp 2) (.tmp 12) 54 (by rfl) ?_
         go_must (refine wpList_store_row rfl 54 (.tmp 2) (.tmp 12) rfl w.heap.size (wA 36 f) rfl rfl 54 _ H1.out.1 (by rw [ex_size, wA_size]) (by rw [wA_size, wA_size]) (wA_all _ _) ?_)))
    refine bodyPost_ret (results_size _ _ w.heap.size f rfl (setRow_heap w2 _ _ _ _ _ H1.out.1)) rfl ?_
    exact ⟨f, rfl, ⟨HF.out.2, fun _ => rfl, fun h => absurd h HS.out⟩, H1.out.2.1.trans ((Keep.setRow (bs := (· = w.heap.size)) (Keep.refl _ w2) (Or.inl rfl) _).below H1.out.2.1.size (fun x hx => by omega))⟩
end Go.Proofs.YtemjlkmlodmmfaaGreatDoor.Sm

/- Package real: Sum. By an AI agent. -/
namespace Go.Proofs.YtemjlkmlodmmfaaGreatDoor.Sm
open Go.ChangeShapes Go.WideShapes Go.ChangeAt Go.RowKit
set_option linter.unusedVariables false
set_option linter.unusedSimpArgs false

/-! ### what a sum is -/
def cntK (us : List Nat) (k : Nat) : Sn := (us.take k).foldl bump ⟨0, 0, 0, 0, 0⟩
def sumStep (a : Int) (u : Nat) : Int := if kind u = 4 then a + fin u else a
def sumK (us : List Nat) (k : Nat) : Int := (us.take k).foldl sumStep 0
/-- The bits of an exact sum's nearest number. -/
def sgnR (S : Int) : Nat := if S < 0 then roundB S.natAbs + 9223372036854775808 else roundB S.natAbs
def sumW (us : List Nat) : Nat :=
  let s := cntK us us.length
  if 0 < s.n ∨ (0 < s.l ∧ 0 < s.g) then 9221120237041090561 else if 0 < s.l then 18442240474082181120 else if 0 < s.g then 9218868437227405312 else if s.o = 0 ∧ 0 < s.m then 9223372036854775808 else sgnR (sumK us us.length)
theorem take_next {us : List Nat} {k : Nat} (h : k < us.length) : us.take (k + 1) = us.take k ++ [us.getD k 0] := by
  rw [List.take_succ_eq_append_getElem h, List.getD_eq_getElem?_getD, List.getElem?_eq_getElem h]; rfl
theorem cntK_succ {us : List Nat} {k : Nat} (h : k < us.length) : cntK us (k + 1) = bump (cntK us k) (us.getD k 0) := by
  unfold cntK; rw [take_next h, List.foldl_append]; rfl
theorem sumK_succ {us : List Nat} {k : Nat} (h : k < us.length) : sumK us (k + 1) = sumStep (sumK us k) (us.getD k 0) := by
  unfold sumK; rw [take_next h, List.foldl_append]; rfl
theorem cntK_few (us : List Nat) : ∀ k, k ≤ us.length → (cntK us k).few k
  | 0, _ => ⟨Nat.le_refl _, Nat.le_refl _, Nat.le_refl _, Nat.le_refl _, Nat.le_refl _⟩
  | k + 1, h => by rw [cntK_succ (by omega)]; exact bump_few (cntK_few us k (by omega)) _
theorem kind4 {u : Nat} (hu : u < 18446744073709551616) (h : kind u = 4) : u / 2 ^ 52 % 2048 < 2047 := by
  unfold kind at h
  by_cases h1 : 9218868437227405312 < u % 9223372036854775808
  · rw [if_pos h1] at h; cases h
  · rw [if_neg h1] at h
    by_cases h2 : u % 9223372036854775808 = 9218868437227405312
    · rw [if_pos h2] at h; split at h <;> cases h
    · omega
/-- A great number: no finite one is beyond it. -/
def big : Nat := 2 ^ 53 * (2 ^ 61 * (2 ^ 64) ^ 31)
theorem fin_abs {u : Nat} (hu : u < 18446744073709551616) (h : kind u = 4) : (fin u).natAbs ≤ big := by
  have := fin_lt (kind4 hu h)
  unfold fin
  unfold big
  generalize mant u * 2 ^ shft u = a at *
  generalize 2 ^ 53 * (2 ^ 61 * (2 ^ 64) ^ 31) = X at *
  split <;> omega
theorem sum_abs {us : List Nat} (hu : ∀ i, us.getD i 0 < 18446744073709551616) : ∀ k, k ≤ us.length → (sumK us k).natAbs ≤ k * big
  | 0, _ => by simp [sumK]
  | k + 1, h => by
    have ih := sum_abs hu k (by omega)
    rw [sumK_succ (by omega), Nat.succ_mul]
    unfold sumStep
    by_cases h4 : kind (us.getD k 0) = 4
    · rw [if_pos h4]
      have := fin_abs (hu k) h4
      omega
    · rw [if_neg h4]; omega
theorem big_lt {k : Nat} (h : k ≤ 1000000000) : k * big < 9223372036854775808 * 18446744073709551616 ^ 35 := by
  have h1 : k * big ≤ 1000000000 * big := Nat.mul_le_mul_right _ h
  have h2 : 1000000000 * big < 9223372036854775808 * 18446744073709551616 ^ 35 := by decide
  exact Nat.lt_of_le_of_lt h1 h2

/-- The words hold S, but for what they can't hold. -/
def Mod (V : Nat) (S : Int) : Prop := ∃ q : Int, (V : Int) = S + q * ((18446744073709551616 ^ 36 : Nat) : Int)
theorem mod_add {V V' d c : Nat} {S : Int} {u : Nat} (h : Mod V S) (hd : d = mant u * 2 ^ shft u) (hr : Rel (isNeg u) V V' d c 36) : Mod V' (S + fin u) := by
  obtain ⟨q, hq⟩ := h
  unfold Rel at hr
  unfold Mod
  unfold fin
  rw [← hd]
  generalize 18446744073709551616 ^ 36 = M at *
  have e1 : (q + (c : Int)) * (M : Int) = q * (M : Int) + ((c * M : Nat) : Int) := by rw [Int.add_mul]; push_cast; rfl
  have e2 : (q - (c : Int)) * (M : Int) = q * (M : Int) - ((c * M : Nat) : Int) := by rw [Int.sub_mul]; push_cast; rfl
  cases hn : isNeg u
  · rw [hn] at hr
    simp only [Bool.false_eq_true, if_false] at hr ⊢
    refine ⟨q - c, ?_⟩
    rw [e2]
    generalize c * M = cM at *
    generalize q * (M : Int) = qM at *
    omega
  · rw [hn] at hr
    simp only [if_true] at hr ⊢
    refine ⟨q + c, ?_⟩
    rw [e1]
    generalize c * M = cM at *
    generalize q * (M : Int) = qM at *
    omega
/-- Read as a number with a sign, the words are S. -/
theorem mod_read {f g : Nat → Nat} {S : Int} (hf : ∀ j, f j < 18446744073709551616) (hm : Mod (V36 f) S) (hb : S.natAbs < 9223372036854775808 * 18446744073709551616 ^ 35) (hs : SizeRel f g) : (S < 0 ↔ 2 ^ 63 ≤ f 35) ∧ V36 g = S.natAbs := by
  obtain ⟨q, hq⟩ := hm
  have hlt : V36 f < 18446744073709551616 ^ 36 := v_lt hf
  have hv : V36 f = wv 18446744073709551616 f 35 + f 35 * 18446744073709551616 ^ 35 := rfl
  have hl := wv_lt (B := 18446744073709551616) (f := f) (by decide) (n := 35) (fun i _ => hf i)
  have hf35 := hf 35
  have eM : (18446744073709551616 : Nat) ^ 36 = 18446744073709551616 * 18446744073709551616 ^ 35 := by rw [Nat.pow_succ, Nat.mul_comm]
  obtain ⟨-, h1, h2⟩ := hs
  rw [eM] at hq hlt h2
  have hP : 0 < (18446744073709551616 : Nat) ^ 35 := Nat.pow_pos (by decide)
  generalize (18446744073709551616 : Nat) ^ 35 = P at *
  generalize wv 18446744073709551616 f 35 = lo at *
  generalize hV : V36 f = V at *
  generalize V36 g = G at *
  have hM : ((18446744073709551616 * P : Nat) : Int) = 18446744073709551616 * (P : Int) := by omega
  rw [hM] at hq
  have hq2 : q = 0 ∨ q = 1 := by
    rcases Int.lt_trichotomy q 0 with hn | hz | hp
    · exfalso
      have : q * (18446744073709551616 * (P : Int)) ≤ -1 * (18446744073709551616 * (P : Int)) := Int.mul_le_mul_of_nonneg_right (by omega) (by omega)
      omega
    · exact Or.inl hz
    · right
      rcases Int.lt_or_le 1 q with h | h
      · exfalso
        have : 2 * (18446744073709551616 * (P : Int)) ≤ q * (18446744073709551616 * (P : Int)) := Int.mul_le_mul_of_nonneg_right (by omega) (by omega)
        omega
      · omega
  rcases hq2 with rfl | rfl
  · rw [Int.zero_mul, Int.add_zero] at hq
    have hS : ¬ S < 0 := by omega
    have hF : ¬ 2 ^ 63 ≤ f 35 := by
      intro hc
      have : 2 ^ 63 * P ≤ f 35 * P := Nat.mul_le_mul_right _ hc
      omega
    refine ⟨⟨fun h => absurd h hS, fun h => absurd h hF⟩, ?_⟩
    rw [h1 (by omega)]
    omega
  · rw [Int.one_mul] at hq
    have hS : S < 0 := by omega
    have hF : 2 ^ 63 ≤ f 35 := by
      rcases Nat.lt_or_ge (f 35) (2 ^ 63) with hc | hc
      · exfalso
        have : (f 35 + 1) * P ≤ 2 ^ 63 * P := Nat.mul_le_mul_right _ hc
        rw [Nat.add_mul, Nat.one_mul] at this
        omega
      · exact hc
    refine ⟨⟨fun _ => hF, fun _ => hS⟩, ?_⟩
    have := h2 hF
    omega
theorem roundB_lt (V : Nat) : roundB V < 9223372036854775808 := by
  by_cases hs : lenN V ≤ 53
  · rw [round_small rfl hs]
    exact Nat.lt_of_lt_of_le (lenN_len V).1 (Nat.le_trans (Nat.pow_le_pow_right (by decide) hs) (by decide))
  · have hr := digR_range (lenN_len V) (by omega)
    rw [round_parts rfl (by omega)]
    generalize digR V (lenN V - 53) = d at *
    generalize lenN V - 53 = b at *
    simp only
    by_cases hd : d = 9007199254740992
    · simp only [if_pos hd]
      by_cases ho : b + 1 + 1 ≥ 2047
      · rw [if_pos ho]; decide
      · rw [if_neg ho]; omega
    · simp only [if_neg hd]
      by_cases ho : b + 1 ≥ 2047
      · rw [if_pos ho]; decide
      · rw [if_neg ho]; omega

theorem none_any (w : World) : Calls Tryz.prog 21 #[] w fun e w' => e = .returned (.float .f64 9221120237041090561) ∧ w' = w := by
  have e1 := ext_from
  go_enter Tryz.func21, Tryz.ntmps21
  go_wp2_with fail
  go_ret
  exact ⟨rfl, rfl⟩
theorem inf_up (w : World) : Calls Tryz.prog 22 #[.int .i64 1] w fun e w' => e = .returned (.float .f64 9218868437227405312) ∧ w' = w := by
  have e1 := ext_from
  go_enter Tryz.func22, Tryz.ntmps22
  go_wp2_with fail
  go_ret
  exact ⟨rfl, rfl⟩
theorem inf_down (w : World) : Calls Tryz.prog 22 #[.int .i64 (-1)] w fun e w' => e = .returned (.float .f64 18442240474082181120) ∧ w' = w := by
  have e1 := ext_from
  go_enter Tryz.func22, Tryz.ntmps22
  go_wp2_with fail
  go_ret
  exact ⟨rfl, rfl⟩
theorem sign_zero (w : World) : Calls Tryz.prog 16 #[.float .f64 0, .float .f64 13830554455654793216] w fun e w' => e = .returned (.float .f64 9223372036854775808) ∧ w' = w := by
  have e1 := ext_from
  have e2 := ext_bits
  have h1 : bits BinOp.andNot IntKind.u64 0 9223372036854775808 = 0 := by decide
  have h2 : bits BinOp.and IntKind.u64 13830554455654793216 9223372036854775808 = 9223372036854775808 := by decide
  have h3 : bits BinOp.or IntKind.u64 0 9223372036854775808 = 9223372036854775808 := by decide
  go_enter Tryz.func16, Tryz.ntmps16
  go_wp2_with fail
  go_ret
  exact ⟨rfl, rfl⟩
end Go.Proofs.YtemjlkmlodmmfaaGreatDoor.Sm

/- The least and the greatest of a list. By an AI agent. -/
namespace Go.Proofs.YtemjlkmlodmmfaaGreatDoor.Sm
open Go.ChangeShapes Go.WideShapes Go.ChangeAt Go.RowKit
set_option linter.unusedVariables false
set_option linter.unusedSimpArgs false

def outStep (side : Int) (st : Nat × Bool) (u : Nat) : Nat × Bool := if Flt.nan u = true then st else if st.2 = true ∧ cmpF u st.1 ≠ side then st else (u, true)
def outK (side : Int) (us : List Nat) (k : Nat) : Nat × Bool := (us.take k).foldl (outStep side) (9221120237041090561, false)
def outW (side : Int) (us : List Nat) : Nat := if us.length = 0 then 0 else (outK side us us.length).1
def outB (us : List Nat) : Bool := decide (us.length ≠ 0)
theorem outK_succ {side : Int} {us : List Nat} {k : Nat} (h : k < us.length) : outK side us (k + 1) = outStep side (outK side us k) (us.getD k 0) := by
  unfold outK; rw [take_next h, List.foldl_append]; rfl
theorem outK_lt {side : Int} {us : List Nat} (hu : ∀ i, us.getD i 0 < 18446744073709551616) : ∀ k, k ≤ us.length → (outK side us k).1 < 2 ^ 64
  | 0, _ => (by decide : (9221120237041090561 : Nat) < 2 ^ 64)
  | k + 1, h => by
    rw [outK_succ (by omega)]
    have ih := outK_lt (side := side) hu k (by omega)
    unfold outStep
    split
    · exact ih
    · split
      · exact ih
      · exact hu k
theorem out_nan {side : Int} {st : Nat × Bool} {u : Nat} (h : Flt.nan u = true) : outStep side st u = st := by unfold outStep; rw [if_pos h]
theorem out_first {side : Int} {b u : Nat} (h : Flt.nan u = false) : outStep side (b, false) u = (u, true) := by unfold outStep; rw [if_neg (by rw [h]; simp), if_neg (by simp)]
theorem out_cmp {side : Int} {b u : Nat} (h : Flt.nan u = false) : outStep side (b, true) u = if cmpF u b = side then (u, true) else (b, true) := by
  unfold outStep
  rw [if_neg (by rw [h]; simp)]
  by_cases hc : cmpF u b = side
  · rw [if_pos hc, if_neg (by simp [hc])]
  · rw [if_neg hc, if_pos ⟨rfl, hc⟩]

set_option maxRecDepth 100000 in
set_option maxHeartbeats 8000000 in
theorem outmin_any (o : Option Addr) (us : List Nat) (cap : Nat) (w : World) (hF : Fls w o us) (hu : ∀ i, us.getD i 0 < 18446744073709551616) (hn : us.length ≤ 1000000000) :
    Calls Tryz.prog 26 #[.int .i64 (-1), .slice o us.length cap] w fun e w' => e = .returned (.tuple #[.float .f64 (outW (-1) us), .bool (outB us)]) ∧ w' = w := by
  have HF := Lib.hid (And.intro hF hu)
  clear hF hu
  have HW : RowKit.Hid (outW (-1) us = (if us.length = 0 then 0 else (outK (-1) us us.length).1) ∧ outB us = decide (us.length ≠ 0)) := Lib.hid ⟨rfl, rfl⟩
  generalize outW (-1) us = ow at *
  generalize outB us = ob at *
  refine (show ∀ Q : Ending → World → Prop, (∀ e w', (e = .returned (.tuple #[.float .f64 ow, .bool ob]) ∧ w' = w) → Q e w') → Calls Tryz.prog 26 #[.int .i64 (-1), .slice o us.length cap] w Q from ?_) _ (fun _ _ h => h)
  intro Q hQ
  have HQ := Lib.hid hQ
  clear hQ
  generalize hl : us.length = n at *
  have HL := Lib.hid hl
  clear hl
  have ext := ext_from
  by_cases hn0 : n = 0
  · subst hn0
    have hw := HW.out
    rw [if_pos rfl] at hw
    obtain ⟨rfl, rfl⟩ := hw
    go_enter Tryz.func26, Tryz.ntmps26
    go_wp2_with fail
    exact HQ.out _ _ ⟨rfl, rfl⟩
  · have hw := HW.out
    rw [if_neg hn0, decide_eq_true hn0] at hw
    obtain ⟨hw1, rfl⟩ := hw
    have HW1 := Lib.hid hw1
    have d0 : ((n : Int) == 0) = false := by rw [beq_eq_false_iff_ne]; omega
    have d0' : (n == 0) = false := by rw [beq_eq_false_iff_ne]; omega
    clear hw1 hn0
    go_enter Tryz.func26, Tryz.ntmps26
    go_wp2_with (go_at_call 21
                 refine (none_any _).mono ?_
                 rintro e w3 ⟨rfl, h3⟩
                 obtain rfl : w = w3 := h3.symm)
    go_loopg [6, 7, 16] n (fun gq s6 s7 s16 wx => ∃ (k b : Nat) (th : Bool), gq + k = n ∧ s6 = .float .f64 b ∧ s7 = .bool th ∧ s16 = .int .i64 (k : Int) ∧ w = wx ∧ Hid (outK (-1) us k = (b, th) ∧ b < 2 ^ 64))
    case atStart => exact ⟨0, 9221120237041090561, false, by omega, rfl, rfl, rfl, rfl, rfl, by decide⟩
    case round =>
      obtain ⟨k, b, th, hgk, rfl, rfl, rfl, rfl, HK⟩ := hrel
      by_cases hk : k < n
      · have hk' : k < us.length := by rw [HL.out]; exact hk
        obtain ⟨ad, rfl, c0⟩ := HF.out.1 k hk'
        have HU := Lib.hid (HF.out.2 k)
        have hon := outK_succ (side := (-1)) hk'
        rw [HK.out.1] at hon
        have HON := Lib.hid hon
        clear hk' hon
        generalize us.getD k 0 = u at *
        cases hnu : Flt.nan u
        · have hb : (FloatKind.f64.format.order u u != some .eq) = false := by rw [← hnu, ← Flt.fnan_eq]; rfl
          have HN := Lib.hid hnu
          clear hnu
          rcases th with _ | _
          · go_wp2_with fail
            go_roundg (gk - 1)
            all_goals first | omega | skip
            case rel =>
              exact ⟨k + 1, u, true, by omega, rfl, rfl, rfl, rfl, Lib.hid ⟨by rw [HON.out]; exact out_first HN.out, HU.out⟩⟩
          · have HCMP := Lib.hid (compare_any u b HU.out HK.out.2 w)
            have hcr := cmp_range u b
            have HOC := Lib.hid (out_cmp (side := (-1)) (b := b) HN.out)
            generalize cmpF u b = c at *
            rcases (show c = -1 ∨ c = 0 ∨ c = 1 by omega) with rfl | rfl | rfl
            · clear hcr
              go_wp2_with (first
                | (go_at_call 15
                   refine HCMP.out.mono ?_
                   rintro e w3 ⟨rfl, h3⟩
                   obtain rfl := h3))
              go_roundg (gk - 1)
              all_goals first | omega | skip
              case rel =>
                exact ⟨k + 1, u, true, by omega, rfl, rfl, rfl, rfl, Lib.hid ⟨by rw [HON.out]; exact HOC.out.trans (if_pos (by decide)), HU.out⟩⟩
            · clear hcr
              go_wp2_with (first
                | (go_at_call 15
                   refine HCMP.out.mono ?_
                   rintro e w3 ⟨rfl, h3⟩
                   obtain rfl := h3))
              go_roundg (gk - 1)
              all_goals first | omega | skip
              case rel =>
                exact ⟨k + 1, b, true, by omega, rfl, rfl, rfl, rfl, Lib.hid ⟨by rw [HON.out]; exact HOC.out.trans (if_neg (by decide)), HK.out.2⟩⟩
            · clear hcr
              go_wp2_with (first
                | (go_at_call 15
                   refine HCMP.out.mono ?_
                   rintro e w3 ⟨rfl, h3⟩
                   obtain rfl := h3))
              go_roundg (gk - 1)
              all_goals first | omega | skip
              case rel =>
                exact ⟨k + 1, b, true, by omega, rfl, rfl, rfl, rfl, Lib.hid ⟨by rw [HON.out]; exact HOC.out.trans (if_neg (by decide)), HK.out.2⟩⟩
        · have hb : (FloatKind.f64.format.order u u != some .eq) = true := by rw [← hnu, ← Flt.fnan_eq]; rfl
          have HN := Lib.hid hnu
          clear hnu
          go_wp2_with fail
          go_roundg (gk - 1)
          all_goals first | omega | skip
          case rel =>
            exact ⟨k + 1, b, th, by omega, rfl, rfl, rfl, rfl, Lib.hid ⟨by rw [HON.out]; exact out_nan HN.out, HK.out.2⟩⟩
      · obtain rfl : k = n := by omega
        go_wp2_with fail
        exact HQ.out _ _ ⟨by rw [HW1.out, HK.out.1]; rfl, rfl⟩

set_option maxRecDepth 100000 in
set_option maxHeartbeats 8000000 in
theorem outmax_any (o : Option Addr) (us : List Nat) (cap : Nat) (w : World) (hF : Fls w o us) (hu : ∀ i, us.getD i 0 < 18446744073709551616) (hn : us.length ≤ 1000000000) :
    Calls Tryz.prog 26 #[.int .i64 1, .slice o us.length cap] w fun e w' => e = .returned (.tuple #[.float .f64 (outW 1 us), .bool (outB us)]) ∧ w' = w := by
  have HF := Lib.hid (And.intro hF hu)
  clear hF hu
  have HW : RowKit.Hid (outW 1 us = (if us.length = 0 then 0 else (outK 1 us us.length).1) ∧ outB us = decide (us.length ≠ 0)) := Lib.hid ⟨rfl, rfl⟩
  generalize outW 1 us = ow at *
  generalize outB us = ob at *
  refine (show ∀ Q : Ending → World → Prop, (∀ e w', (e = .returned (.tuple #[.float .f64 ow, .bool ob]) ∧ w' = w) → Q e w') → Calls Tryz.prog 26 #[.int .i64 1, .slice o us.length cap] w Q from ?_) _ (fun _ _ h => h)
  intro Q hQ
  have HQ := Lib.hid hQ
  clear hQ
  generalize hl : us.length = n at *
  have HL := Lib.hid hl
  clear hl
  have ext := ext_from
  by_cases hn0 : n = 0
  · subst hn0
    have hw := HW.out
    rw [if_pos rfl] at hw
    obtain ⟨rfl, rfl⟩ := hw
    go_enter Tryz.func26, Tryz.ntmps26
    go_wp2_with fail
    exact HQ.out _ _ ⟨rfl, rfl⟩
  · have hw := HW.out
    rw [if_neg hn0, decide_eq_true hn0] at hw
    obtain ⟨hw1, rfl⟩ := hw
    have HW1 := Lib.hid hw1
    have d0 : ((n : Int) == 0) = false := by rw [beq_eq_false_iff_ne]; omega
    have d0' : (n == 0) = false := by rw [beq_eq_false_iff_ne]; omega
    clear hw1 hn0
    go_enter Tryz.func26, Tryz.ntmps26
    go_wp2_with (go_at_call 21
                 refine (none_any _).mono ?_
                 rintro e w3 ⟨rfl, h3⟩
                 obtain rfl : w = w3 := h3.symm)
    go_loopg [6, 7, 16] n (fun gq s6 s7 s16 wx => ∃ (k b : Nat) (th : Bool), gq + k = n ∧ s6 = .float .f64 b ∧ s7 = .bool th ∧ s16 = .int .i64 (k : Int) ∧ w = wx ∧ Hid (outK 1 us k = (b, th) ∧ b < 2 ^ 64))
    case atStart => exact ⟨0, 9221120237041090561, false, by omega, rfl, rfl, rfl, rfl, rfl, by decide⟩
    case round =>
      obtain ⟨k, b, th, hgk, rfl, rfl, rfl, rfl, HK⟩ := hrel
      by_cases hk : k < n
      · have hk' : k < us.length := by rw [HL.out]; exact hk
        obtain ⟨ad, rfl, c0⟩ := HF.out.1 k hk'
        have HU := Lib.hid (HF.out.2 k)
        have hon := outK_succ (side := 1) hk'
        rw [HK.out.1] at hon
        have HON := Lib.hid hon
        clear hk' hon
        generalize us.getD k 0 = u at *
        cases hnu : Flt.nan u
        · have hb : (FloatKind.f64.format.order u u != some .eq) = false := by rw [← hnu, ← Flt.fnan_eq]; rfl
          have HN := Lib.hid hnu
          clear hnu
          rcases th with _ | _
          · go_wp2_with fail
            go_roundg (gk - 1)
            all_goals first | omega | skip
            case rel =>
              exact ⟨k + 1, u, true, by omega, rfl, rfl, rfl, rfl, Lib.hid ⟨by rw [HON.out]; exact out_first HN.out, HU.out⟩⟩
          · have HCMP := Lib.hid (compare_any u b HU.out HK.out.2 w)
            have hcr := cmp_range u b
            have HOC := Lib.hid (out_cmp (side := 1) (b := b) HN.out)
            generalize cmpF u b = c at *
            rcases (show c = -1 ∨ c = 0 ∨ c = 1 by omega) with rfl | rfl | rfl
            · clear hcr
              go_wp2_with (first
                | (go_at_call 15
                   refine HCMP.out.mono ?_
                   rintro e w3 ⟨rfl, h3⟩
                   obtain rfl := h3))
              go_roundg (gk - 1)
              all_goals first | omega | skip
              case rel =>
                exact ⟨k + 1, b, true, by omega, rfl, rfl, rfl, rfl, Lib.hid ⟨by rw [HON.out]; exact HOC.out.trans (if_neg (by decide)), HK.out.2⟩⟩
            · clear hcr
              go_wp2_with (first
                | (go_at_call 15
                   refine HCMP.out.mono ?_
                   rintro e w3 ⟨rfl, h3⟩
                   obtain rfl := h3))
              go_roundg (gk - 1)
              all_goals first | omega | skip
              case rel =>
                exact ⟨k + 1, b, true, by omega, rfl, rfl, rfl, rfl, Lib.hid ⟨by rw [HON.out]; exact HOC.out.trans (if_neg (by decide)), HK.out.2⟩⟩
            · clear hcr
              go_wp2_with (first
                | (go_at_call 15
                   refine HCMP.out.mono ?_
                   rintro e w3 ⟨rfl, h3⟩
                   obtain rfl := h3))
              go_roundg (gk - 1)
              all_goals first | omega | skip
              case rel =>
                exact ⟨k + 1, u, true, by omega, rfl, rfl, rfl, rfl, Lib.hid ⟨by rw [HON.out]; exact HOC.out.trans (if_pos (by decide)), HU.out⟩⟩
        · have hb : (FloatKind.f64.format.order u u != some .eq) = true := by rw [← hnu, ← Flt.fnan_eq]; rfl
          have HN := Lib.hid hnu
          clear hnu
          go_wp2_with fail
          go_roundg (gk - 1)
          all_goals first | omega | skip
          case rel =>
            exact ⟨k + 1, b, th, by omega, rfl, rfl, rfl, rfl, Lib.hid ⟨by rw [HON.out]; exact out_nan HN.out, HK.out.2⟩⟩
      · obtain rfl : k = n := by omega
        go_wp2_with fail
        exact HQ.out _ _ ⟨by rw [HW1.out, HK.out.1]; rfl, rfl⟩

theorem min_any (o : Option Addr) (us : List Nat) (cap : Nat) (w : World) (hF : Fls w o us) (hu : ∀ i, us.getD i 0 < 18446744073709551616) (hn : us.length ≤ 1000000000) :
    Calls Tryz.prog 12 #[.slice o us.length cap] w fun e w' => e = .returned (.tuple #[.float .f64 (outW (-1) us), .bool (outB us)]) ∧ w' = w := by
  have HC := Lib.hid (outmin_any o us cap w hF hu hn)
  clear hF hu
  generalize us.length = n at *
  generalize outW (-1) us = ow at *
  generalize outB us = ob at *
  go_enter Tryz.func12, Tryz.ntmps12
  go_wp2_with (go_at_call 26
               refine HC.out.mono ?_
               rintro e w3 ⟨rfl, h3⟩
               obtain rfl : w = w3 := h3.symm)
  go_ret2
  exact ⟨rfl, rfl⟩

end Go.Proofs.YtemjlkmlodmmfaaGreatDoor.Sm

/- Package real: Sum, its walk. By an AI agent. -/
namespace Go.Proofs.YtemjlkmlodmmfaaGreatDoor.Sm
open Go.ChangeShapes Go.WideShapes Go.ChangeAt Go.RowKit
set_option linter.unusedVariables false
set_option linter.unusedSimpArgs false

/-- Behind k numbers. -/
structure SK (us : List Nat) (b1 b2 : Nat) (w0 wx : World) (k : Nat) (f : Nat → Nat) : Prop where
  ex : ExAt wx b1 f
  sn : SnAt wx b2 (cntK us k)
  lt : ∀ j, f j < 18446744073709551616
  keep : Keep (fun x => x = b1 ∨ x = b2) w0 wx
  mod : Mod (V36 f) (sumK us k)

theorem or_sign (x : Nat) (h : x < 9223372036854775808) : bits BinOp.or IntKind.u64 (x : Int) 9223372036854775808 = ((x + 9223372036854775808 : Nat) : Int) := by
  have h1 : (BitVec.ofInt 64 (x : Int)).toNat = x := by rw [BitVec.ofInt_natCast, BitVec.toNat_ofNat]; omega
  have h2 : (BitVec.ofInt 64 9223372036854775808).toNat = 2 ^ 63 := by decide
  show IntKind.u64.wrap ((BitVec.ofInt 64 (x : Int) ||| BitVec.ofInt 64 9223372036854775808).toNat : Int) = _
  have h3 : x ||| 2 ^ 63 = x + 2 ^ 63 := by
    rw [Nat.or_comm, Nat.add_comm]
    have := Nat.two_pow_add_eq_or_of_lt (i := 63) (b := x) (by omega) 1
    simpa using this.symm
  rw [BitVec.toNat_or, h1, h2, h3, IntKind.wrap_u64]
  omega
theorem kind_not {u : Nat} {b : Bool} (h : decide (kind u = 4) = b) : (kind u = 4 ↔ b = true) := by rw [← h, decide_eq_true_eq]

set_option maxRecDepth 100000 in
set_option maxHeartbeats 8000000 in
theorem sum_any (o : Option Addr) (us : List Nat) (cap : Nat) (w : World) (hF : Fls w o us) (hu : ∀ i, us.getD i 0 < 18446744073709551616) (hn : us.length ≤ 1000000000) :
    Calls Tryz.prog 17 #[.slice o us.length cap] w fun e w' => e = .returned (.float .f64 (sumW us)) ∧ Below w.heap.size w w' := by
  have HF := Lib.hid (And.intro hF hu)
  clear hF hu
  have HSW : RowKit.Hid (sumW us = if 0 < (cntK us us.length).n ∨ (0 < (cntK us us.length).l ∧ 0 < (cntK us us.length).g) then 9221120237041090561 else if 0 < (cntK us us.length).l then 18442240474082181120 else if 0 < (cntK us us.length).g then 9218868437227405312 else if (cntK us us.length).o = 0 ∧ 0 < (cntK us us.length).m then 9223372036854775808 else sgnR (sumK us us.length)) := Lib.hid rfl
  generalize hsw : sumW us = sw at *
  clear hsw
  refine (show ∀ Q : Ending → World → Prop, (∀ e w', (e = .returned (.float .f64 sw) ∧ Below w.heap.size w w') → Q e w') → Calls Tryz.prog 17 #[.slice o us.length cap] w Q from ?_) _ (fun _ _ h => h)
  intro Q hQ
  have HQ := Lib.hid hQ
  clear hQ
  generalize hl : us.length = n at *
  have HL := Lib.hid hl
  clear hl
  go_enter Tryz.func17, Tryz.ntmps17
  go_wp2_with fail
  have hw1 : ∃ W, W = ((w.alloc (.cells Z36 54)).alloc (.cells #[.int .i64 0, .int .i64 0, .int .i64 0, .int .i64 0, .int .i64 0] 56)) := ⟨_, rfl⟩
  obtain ⟨W1, hW1⟩ := hw1
  have hx1 : ExAt W1 w.heap.size (fun _ => 0) := by rw [hW1, z36]; exact blk_alloc (blk_new w _) _
  have hs1 : SnAt W1 (w.heap.size + 1) ⟨0, 0, 0, 0, 0⟩ := by rw [hW1]; exact blk_new_at _ _ (by simp)
  have hk1 : Below w.heap.size w W1 := by rw [hW1]; exact ((Below.refl _ w).alloc (Nat.le_refl _) _).alloc (by simp) _
  have hz1 : W1.heap.size = w.heap.size + 2 := by rw [hW1]; simp
  unfold Z36 at hW1
  rw [← hW1]
  clear hW1
  have H1 := Lib.hid (And.intro hx1 (And.intro hs1 (And.intro hk1 hz1)))
  clear hx1 hs1 hk1 hz1
  go_loopg [11] n (fun gq s11 wx => ∃ (k : Nat) (f : Nat → Nat), gq + k = n ∧ s11 = .int .i64 (k : Int) ∧ Hid (SK us w.heap.size (w.heap.size + 1) W1 wx k f))
  case atStart =>
    refine ⟨0, fun _ => 0, by omega, rfl, H1.out.1, H1.out.2.1, fun _ => (by decide : (0 : Nat) < 18446744073709551616), Keep.refl _ _, 0, ?_⟩
    have : V36 (fun _ => 0) = 0 := wv_zero _ _
    rw [this, Int.zero_mul]
    rfl
  case round =>
    obtain ⟨k, f, hgk, rfl, HK⟩ := hrel
    have hlw := H1.out.2.2.1.trans (HK.out.keep.below H1.out.2.2.1.size (fun x hx => by omega))
    have HLW := Lib.hid hlw
    clear hlw
    by_cases hk : k < n
    · have hk' : k < us.length := by rw [HL.out]; exact hk
      obtain ⟨ad, rfl, c0'⟩ := HF.out.1 k hk'
      have c0 := (HLW.out.cell (cell_in c0')).trans c0'
      have HU := Lib.hid (HF.out.2 k)
      have hfew : (cntK us k).few 1000000000 := by
        have := cntK_few us k (by omega)
        obtain ⟨a1, a2, a3, a4, a5⟩ := this
        exact ⟨by omega, by omega, by omega, by omega, by omega⟩
      have HCNT := Lib.hid (count_any HK.out.sn hfew (Nat.le_refl _) (us.getD k 0) HU.out)
      have hcs := cntK_succ hk'
      have hss := sumK_succ hk'
      have HN := Lib.hid (And.intro hcs hss)
      clear hcs hss hfew c0' hk'
      generalize us.getD k 0 = u at *
      rcases hkd : decide (kind u = 4) with _ | _
      · rw [hkd] at HCNT
        have hk4 : ¬ kind u = 4 := of_decide_eq_false hkd
        have hst : sumK us (k + 1) = sumK us k := by rw [HN.out.2]; unfold sumStep; rw [if_neg hk4]
        have HST := Lib.hid hst
        clear hkd hk4 hst
        go_wp2_with (go_at_call 28
                     refine HCNT.out.mono ?_
                     rintro e w3 ⟨rfl, h3⟩
                     have H3 := Lib.hid h3.out
                     clear h3)
        go_roundg (gk - 1)
        all_goals first | omega | skip
        case rel =>
          refine ⟨k + 1, f, by omega, rfl, H3.out.2.same HK.out.ex (by omega), ?_, HK.out.lt, HK.out.keep.trans (H3.out.2.mono (fun x _ hx => Or.inr hx)), ?_⟩
          · rw [HN.out.1]; exact H3.out.1
          · rw [HST.out]; exact HK.out.mod
      · rw [hkd] at HCNT
        have hk4 : kind u = 4 := of_decide_eq_true hkd
        have hst : sumK us (k + 1) = sumK us k + fin u := by rw [HN.out.2]; unfold sumStep; rw [if_pos hk4]
        have HST := Lib.hid (And.intro hst hk4)
        clear hkd hk4 hst
        go_wp2_with (first
          | (go_at_call 28
             refine HCNT.out.mono ?_
             rintro e w3 ⟨rfl, h3⟩
             have H3 := Lib.hid h3.out
             have HADD := Lib.hid (add_any (H3.out.2.same HK.out.ex (by omega)) HK.out.lt u HU.out (kind4 HU.out HST.out.2))
             clear h3)
          | (go_at_call 29
             refine HADD.out.mono ?_
             rintro e w4 ⟨rfl, h4⟩
             have H4 := Lib.hid h4.out
             clear h4))
        go_roundg (gk - 1)
        all_goals first | omega | skip
        case rel =>
          obtain ⟨f', c, a1, a2, a3, a4, a5⟩ := H4.out
          refine ⟨k + 1, f', by omega, rfl, a1, ?_, a2, (HK.out.keep.trans (H3.out.2.mono (fun x _ hx => Or.inr hx))).trans (a4.mono (fun x _ hx => Or.inl hx)), ?_⟩
          · rw [HN.out.1]; exact a4.same H3.out.1 (by omega)
          · rw [HST.out.1]; exact mod_add HK.out.mod rfl a5
    · obtain rfl : k = n := by omega
      have hfew : (cntK us k).few k := by rw [← HL.out]; exact cntK_few us _ (Nat.le_refl _)
      have hsn := HK.out.sn
      have c0 : wr.cell? ⟨w.heap.size + 1, 0, none⟩ = some (.int .i64 ((cntK us k).n : Int)) := blk_cell hsn 0
      have c1 : wr.cell? ⟨w.heap.size + 1, 1, none⟩ = some (.int .i64 ((cntK us k).l : Int)) := blk_cell hsn 1
      have c2 : wr.cell? ⟨w.heap.size + 1, 2, none⟩ = some (.int .i64 ((cntK us k).g : Int)) := blk_cell hsn 2
      have c3 : wr.cell? ⟨w.heap.size + 1, 3, none⟩ = some (.int .i64 ((cntK us k).o : Int)) := blk_cell hsn 3
      have c4 : wr.cell? ⟨w.heap.size + 1, 4, none⟩ = some (.int .i64 ((cntK us k).m : Int)) := blk_cell hsn 4
      have HSB := Lib.hid (sum_abs (us := us) HF.out.2 k (by rw [HL.out]; exact Nat.le_refl _))
      clear hsn hfew
      generalize (cntK us k).n = cn at *
      generalize (cntK us k).l = cl at *
      generalize (cntK us k).g = cg at *
      generalize (cntK us k).o = co at *
      generalize (cntK us k).m = cm at *
      by_cases h1 : 0 < cn
      · have p_cn : decide ((cn : Int) > 0) = true := by rw [decide_eq_true_eq]; omega
        have q_cn : decide (0 < cn) = true := by rw [decide_eq_true_eq]; omega
        have hv : sw = 9221120237041090561 := by
          have h := HSW.out
          rw [if_pos (Or.inl h1)] at h
          exact h
        have HV := Lib.hid hv
        clear hv
        go_wp2_with (go_at_call 21
                     refine (none_any _).mono ?_
                     rintro e w3 ⟨rfl, rfl⟩)
        exact HQ.out _ _ ⟨by rw [HV.out]; rfl, HLW.out⟩
      · have p_cn : decide ((cn : Int) > 0) = false := by rw [decide_eq_false_iff_not]; omega
        have q_cn : decide (0 < cn) = false := by rw [decide_eq_false_iff_not]; omega
        by_cases h2 : 0 < cl
        · have p_cl : decide ((cl : Int) > 0) = true := by rw [decide_eq_true_eq]; omega
          have q_cl : decide (0 < cl) = true := by rw [decide_eq_true_eq]; omega
          by_cases h3 : 0 < cg
          · have p_cg : decide ((cg : Int) > 0) = true := by rw [decide_eq_true_eq]; omega
            have q_cg : decide (0 < cg) = true := by rw [decide_eq_true_eq]; omega
            have hv : sw = 9221120237041090561 := by
              have h := HSW.out
              rw [if_pos (Or.inr ⟨h2, h3⟩)] at h
              exact h
            have HV := Lib.hid hv
            clear hv
            go_wp2_with (go_at_call 21
                         refine (none_any _).mono ?_
                         rintro e w3 ⟨rfl, rfl⟩)
            exact HQ.out _ _ ⟨by rw [HV.out]; rfl, HLW.out⟩
          · have p_cg : decide ((cg : Int) > 0) = false := by rw [decide_eq_false_iff_not]; omega
            have q_cg : decide (0 < cg) = false := by rw [decide_eq_false_iff_not]; omega
            have hv : sw = 18442240474082181120 := by
              have h := HSW.out
              rw [if_neg (show ¬ (0 < cn ∨ (0 < cl ∧ 0 < cg)) by omega), if_pos h2] at h
              exact h
            have HV := Lib.hid hv
            clear hv
            go_wp2_with (go_at_call 22
                         refine (inf_down _).mono ?_
                         rintro e w3 ⟨rfl, rfl⟩)
            exact HQ.out _ _ ⟨by rw [HV.out]; rfl, HLW.out⟩
        · have p_cl : decide ((cl : Int) > 0) = false := by rw [decide_eq_false_iff_not]; omega
          have q_cl : decide (0 < cl) = false := by rw [decide_eq_false_iff_not]; omega
          by_cases h3 : 0 < cg
          · have p_cg : decide ((cg : Int) > 0) = true := by rw [decide_eq_true_eq]; omega
            have q_cg : decide (0 < cg) = true := by rw [decide_eq_true_eq]; omega
            have hv : sw = 9218868437227405312 := by
              have h := HSW.out
              rw [if_neg (show ¬ (0 < cn ∨ (0 < cl ∧ 0 < cg)) by omega), if_neg h2, if_pos h3] at h
              exact h
            have HV := Lib.hid hv
            clear hv
            go_wp2_with (go_at_call 22
                         refine (inf_up _).mono ?_
                         rintro e w3 ⟨rfl, rfl⟩)
            exact HQ.out _ _ ⟨by rw [HV.out]; rfl, HLW.out⟩
          · have p_cg : decide ((cg : Int) > 0) = false := by rw [decide_eq_false_iff_not]; omega
            have q_cg : decide (0 < cg) = false := by rw [decide_eq_false_iff_not]; omega
            by_cases h4 : co = 0
            · have p_co : ((co : Int) == 0) = true := by rw [beq_iff_eq]; omega
              have q_co : (co == 0) = true := by rw [beq_iff_eq]; omega
              by_cases h5 : 0 < cm
              · have p_cm : decide ((cm : Int) > 0) = true := by rw [decide_eq_true_eq]; omega
                have q_cm : decide (0 < cm) = true := by rw [decide_eq_true_eq]; omega
                have hv : sw = 9223372036854775808 := by
                  have h := HSW.out
                  rw [if_neg (show ¬ (0 < cn ∨ (0 < cl ∧ 0 < cg)) by omega), if_neg h2, if_neg h3, if_pos ⟨h4, h5⟩] at h
                  exact h
                have HV := Lib.hid hv
                clear hv
                go_wp2_with (go_at_call 16
                             refine (sign_zero _).mono ?_
                             rintro e w3 ⟨rfl, rfl⟩)
                exact HQ.out _ _ ⟨by rw [HV.out]; rfl, HLW.out⟩
              · have p_cm : decide ((cm : Int) > 0) = false := by rw [decide_eq_false_iff_not]; omega
                have q_cm : decide (0 < cm) = false := by rw [decide_eq_false_iff_not]; omega
                have hv : sw = sgnR (sumK us k) := by
                  have h := HSW.out
                  rw [if_neg (show ¬ (0 < cn ∨ (0 < cl ∧ 0 < cg)) by omega), if_neg h2, if_neg h3, if_neg (fun h => h5 h.2)] at h
                  exact h
                have HV := Lib.hid hv
                have HSZ := Lib.hid (size_any HK.out.ex HK.out.lt)
                clear hv
                go_wp2_with (first
                  | (go_at_call 30
                     refine HSZ.out.mono ?_
                     intro e w3 h3
                     obtain ⟨g, rfl, hg, hb3⟩ := h3
                     have H3 := Lib.hid (And.intro hg hb3)
                     have hbb := blk_new w3 (.cells Z36 54)
                     unfold Z36 at hbb
                     have HBB := Lib.hid hbb
                     clear hg hb3 hbb)
                  | (refine store_guard (.tmp 7) (.tmp 55) 54 (by rfl) ?_
                     go_must (refine wpList_store_row rfl 54 (.tmp 7) (.tmp 55) rfl w3.heap.size (wA 36 g) rfl rfl 54 _ HBB.out (by rw [ex_size, wA_size]) (by rw [wA_size]; rfl) (wA_all _ _) ?_)))
                have hw7 : ∃ W, W = ((w3.alloc (.cells Z36 54)).setRow w3.heap.size (wA 36 g)) := ⟨_, rfl⟩
                obtain ⟨W7, hW7⟩ := hw7
                have hx7 : ExAt W7 w3.heap.size g := by rw [hW7]; exact setRow_heap _ _ _ _ _ _ (blk_new w3 _)
                have hk7 : Below w3.heap.size w3 W7 := by
                  rw [hW7]
                  exact ((Below.refl _ w3).alloc (Nat.le_refl _) _).trans (((Keep.setRow (bs := (· = w3.heap.size)) (Keep.refl _ (w3.alloc (.cells Z36 54))) (Or.inl rfl) (wA 36 g))).below (by simp) (fun x hx => by omega))
                have hf7 : ExAt W7 w.heap.size f := (hk7.block _ (by have := lt_of_block HK.out.ex; have := H3.out.2.size; omega)).trans ((H3.out.2.block _ (lt_of_block HK.out.ex)).trans HK.out.ex)
                have hlw7 : Below w.heap.size w W7 := HLW.out.trans ((H3.out.2.trans (hk7.mono H3.out.2.size)).mono HLW.out.size)
                unfold Z36 at hW7
                rw [← hW7]
                clear hW7
                obtain ⟨hr1, hr2⟩ := mod_read HK.out.lt HK.out.mod (Nat.lt_of_le_of_lt HSB.out (big_lt hn)) H3.out.1
                have HNR := Lib.hid (nearest_any hx7 H3.out.1.1)
                rw [hr2] at HNR
                have HBE := Lib.hid (below_any hf7)
                have H7 := Lib.hid hlw7
                have hrl := roundB_lt (sumK us k).natAbs
                have hor := or_sign _ hrl
                have HOR := Lib.hid hor
                clear hx7 hk7 hf7 hlw7 hr2 hor
                by_cases hsn : sumK us k < 0
                · rw [decide_eq_true (hr1.1 hsn)] at HBE
                  have hv2 : sw = roundB (sumK us k).natAbs + 9223372036854775808 := by rw [HV.out]; unfold sgnR; rw [if_pos hsn]
                  have HV2 := Lib.hid hv2
                  clear hr1 hsn hv2
                  generalize roundB (sumK us k).natAbs = rb at *
                  have ext := ext_from
                  go_wp2_with (first
                    | (go_at_call 31
                       refine HNR.out.mono ?_
                       rintro e w8 ⟨rfl, rfl⟩)
                    | (go_at_call 32
                       refine HBE.out.mono ?_
                       rintro e w9 ⟨rfl, rfl⟩))
                  exact HQ.out _ _ ⟨by rw [HV2.out]; show Ending.returned (Value.float .f64 (Int.toNat _)) = _; rw [HOR.out]; rfl, H7.out⟩
                · rw [decide_eq_false (fun h => hsn (hr1.2 h))] at HBE
                  have hv2 : sw = roundB (sumK us k).natAbs := by rw [HV.out]; unfold sgnR; rw [if_neg hsn]
                  have HV2 := Lib.hid hv2
                  clear hr1 hsn hv2
                  generalize roundB (sumK us k).natAbs = rb at *
                  have ext := ext_from
                  go_wp2_with (first
                    | (go_at_call 31
                       refine HNR.out.mono ?_
                       rintro e w8 ⟨rfl, rfl⟩)
                    | (go_at_call 32
                       refine HBE.out.mono ?_
                       rintro e w9 ⟨rfl, rfl⟩))
                  exact HQ.out _ _ ⟨by rw [HV2.out]; rfl, H7.out⟩
            · have p_co : ((co : Int) == 0) = false := by rw [beq_eq_false_iff_ne]; omega
              have q_co : (co == 0) = false := by rw [beq_eq_false_iff_ne]; omega
              have hv : sw = sgnR (sumK us k) := by
                have h := HSW.out
                rw [if_neg (show ¬ (0 < cn ∨ (0 < cl ∧ 0 < cg)) by omega), if_neg h2, if_neg h3, if_neg (fun h => h4 h.1)] at h
                exact h
              have HV := Lib.hid hv
              have HSZ := Lib.hid (size_any HK.out.ex HK.out.lt)
              clear hv
              go_wp2_with (first
                | (go_at_call 30
                   refine HSZ.out.mono ?_
                   intro e w3 h3
                   obtain ⟨g, rfl, hg, hb3⟩ := h3
                   have H3 := Lib.hid (And.intro hg hb3)
                   have hbb := blk_new w3 (.cells Z36 54)
                   unfold Z36 at hbb
                   have HBB := Lib.hid hbb
                   clear hg hb3 hbb)
                | (refine store_guard (.tmp 7) (.tmp 55) 54 (by rfl) ?_
                   go_must (refine wpList_store_row rfl 54 (.tmp 7) (.tmp 55) rfl w3.heap.size (wA 36 g) rfl rfl 54 _ HBB.out (by rw [ex_size, wA_size]) (by rw [wA_size]; rfl) (wA_all _ _) ?_)))
              have hw7 : ∃ W, W = ((w3.alloc (.cells Z36 54)).setRow w3.heap.size (wA 36 g)) := ⟨_, rfl⟩
              obtain ⟨W7, hW7⟩ := hw7
              have hx7 : ExAt W7 w3.heap.size g := by rw [hW7]; exact setRow_heap _ _ _ _ _ _ (blk_new w3 _)
              have hk7 : Below w3.heap.size w3 W7 := by
                rw [hW7]
                exact ((Below.refl _ w3).alloc (Nat.le_refl _) _).trans (((Keep.setRow (bs := (· = w3.heap.size)) (Keep.refl _ (w3.alloc (.cells Z36 54))) (Or.inl rfl) (wA 36 g))).below (by simp) (fun x hx => by omega))
              have hf7 : ExAt W7 w.heap.size f := (hk7.block _ (by have := lt_of_block HK.out.ex; have := H3.out.2.size; omega)).trans ((H3.out.2.block _ (lt_of_block HK.out.ex)).trans HK.out.ex)
              have hlw7 : Below w.heap.size w W7 := HLW.out.trans ((H3.out.2.trans (hk7.mono H3.out.2.size)).mono HLW.out.size)
              unfold Z36 at hW7
              rw [← hW7]
              clear hW7
              obtain ⟨hr1, hr2⟩ := mod_read HK.out.lt HK.out.mod (Nat.lt_of_le_of_lt HSB.out (big_lt hn)) H3.out.1
              have HNR := Lib.hid (nearest_any hx7 H3.out.1.1)
              rw [hr2] at HNR
              have HBE := Lib.hid (below_any hf7)
              have H7 := Lib.hid hlw7
              have hrl := roundB_lt (sumK us k).natAbs
              have hor := or_sign _ hrl
              have HOR := Lib.hid hor
              clear hx7 hk7 hf7 hlw7 hr2 hor
              by_cases hsn : sumK us k < 0
              · rw [decide_eq_true (hr1.1 hsn)] at HBE
                have hv2 : sw = roundB (sumK us k).natAbs + 9223372036854775808 := by rw [HV.out]; unfold sgnR; rw [if_pos hsn]
                have HV2 := Lib.hid hv2
                clear hr1 hsn hv2
                generalize roundB (sumK us k).natAbs = rb at *
                have ext := ext_from
                go_wp2_with (first
                  | (go_at_call 31
                     refine HNR.out.mono ?_
                     rintro e w8 ⟨rfl, rfl⟩)
                  | (go_at_call 32
                     refine HBE.out.mono ?_
                     rintro e w9 ⟨rfl, rfl⟩))
                exact HQ.out _ _ ⟨by rw [HV2.out]; show Ending.returned (Value.float .f64 (Int.toNat _)) = _; rw [HOR.out]; rfl, H7.out⟩
              · rw [decide_eq_false (fun h => hsn (hr1.2 h))] at HBE
                have hv2 : sw = roundB (sumK us k).natAbs := by rw [HV.out]; unfold sgnR; rw [if_neg hsn]
                have HV2 := Lib.hid hv2
                clear hr1 hsn hv2
                generalize roundB (sumK us k).natAbs = rb at *
                have ext := ext_from
                go_wp2_with (first
                  | (go_at_call 31
                     refine HNR.out.mono ?_
                     rintro e w8 ⟨rfl, rfl⟩)
                  | (go_at_call 32
                     refine HBE.out.mono ?_
                     rintro e w9 ⟨rfl, rfl⟩))
                exact HQ.out _ _ ⟨by rw [HV2.out]; rfl, H7.out⟩
end Go.Proofs.YtemjlkmlodmmfaaGreatDoor.Sm
