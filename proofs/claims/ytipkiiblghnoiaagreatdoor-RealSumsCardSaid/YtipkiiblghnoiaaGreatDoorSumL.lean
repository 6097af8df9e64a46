/- The reference's Sum. By an AI agent. -/
import Derived.Test.YtipkiiblghnoiaaGreatDoorSumK
import Derived.Test.YtipkiiblghnoiaaGreatDoorSumH
namespace Go.Proofs.YtipkiiblghnoiaaGreatDoor.Sm
open Go.ChangeShapes Go.WideShapes Go.ChangeAt Go.RowKit
set_option linter.unusedVariables false
set_option linter.unusedSimpArgs false

def posStep (a u : Nat) : Nat := if kind u = 4 ∧ isNeg u = false then a + mant u * 2 ^ shft u else a
def negStep (a u : Nat) : Nat := if kind u = 4 ∧ isNeg u = true then a + mant u * 2 ^ shft u else a
def posK (us : List Nat) (k : Nat) : Nat := (us.take k).foldl posStep 0
def negK (us : List Nat) (k : Nat) : Nat := (us.take k).foldl negStep 0
theorem posK_succ {us : List Nat} {k : Nat} (h : k < us.length) : posK us (k + 1) = posStep (posK us k) (us.getD k 0) := by
  unfold posK; rw [take_next h, List.foldl_append]; rfl
theorem negK_succ {us : List Nat} {k : Nat} (h : k < us.length) : negK us (k + 1) = negStep (negK us k) (us.getD k 0) := by
  unfold negK; rw [take_next h, List.foldl_append]; rfl
theorem sum_parts (us : List Nat) : ∀ k, k ≤ us.length → sumK us k = (posK us k : Int) - (negK us k : Int)
  | 0, _ => rfl
  | k + 1, h => by
    rw [sumK_succ (by omega), posK_succ (by omega), negK_succ (by omega)]
    have ih := sum_parts us k (by omega)
    unfold sumStep posStep negStep fin
    by_cases h4 : kind (us.getD k 0) = 4
    · cases hn : isNeg (us.getD k 0)
      · simp only [h4, if_true, true_and, Bool.false_eq_true, if_false]
        generalize mant (us.getD k 0) * 2 ^ shft (us.getD k 0) = d
        omega
      · simp only [h4, if_true, true_and, Bool.true_eq_false, if_false]
        generalize mant (us.getD k 0) * 2 ^ shft (us.getD k 0) = d
        omega
    · simp only [h4, if_false, false_and]
      exact ih
theorem pos_le {us : List Nat} (hu : ∀ i, us.getD i 0 < 18446744073709551616) : ∀ k, k ≤ us.length → posK us k ≤ k * big ∧ negK us k ≤ k * big
  | 0, _ => ⟨Nat.zero_le _, Nat.zero_le _⟩
  | k + 1, h => by
    have ih := pos_le hu k (by omega)
    rw [posK_succ (by omega), negK_succ (by omega), Nat.succ_mul]
    have hb : kind (us.getD k 0) = 4 → mant (us.getD k 0) * 2 ^ shft (us.getD k 0) ≤ big := fun h4 => Nat.le_of_lt (fin_lt (kind4 (hu k) h4))
    unfold posStep negStep
    generalize mant (us.getD k 0) * 2 ^ shft (us.getD k 0) = d at *
    generalize big = B at *
    generalize k * B = kB at *
    constructor
    · split
      · rename_i hc
        have := hb hc.1
        omega
      · omega
    · split
      · rename_i hc
        have := hb hc.1
        omega
      · omega
theorem big_lt3 {k : Nat} (h : k ≤ 1000000000) : k * big + big < 4294967296 ^ 70 := by
  have h1 : k * big ≤ 1000000000 * big := Nat.mul_le_mul_right _ h
  have h2 : 1000000000 * big + big < 4294967296 ^ 70 := by decide
  exact Nat.lt_of_le_of_lt (Nat.add_le_add_right h1 _) h2
theorem run_neg (x : Nat) (w : World) : (Op.unary UnOp.neg (.float .f64 x)).run Tryz.prog w = .ok (.float .f64 (Op.negFloat .f64 x)) w := rfl
theorem neg_bits {x : Nat} (h : x < 9223372036854775808) : Op.negFloat .f64 x = x + 9223372036854775808 := by
  have h1 : Op.negFloat .f64 x = x ^^^ 2 ^ 63 := rfl
  have h3 : x ||| 2 ^ 63 = x + 2 ^ 63 := by
    rw [Nat.or_comm, Nat.add_comm]
    have := Nat.two_pow_add_eq_or_of_lt (i := 63) (b := x) (by omega) 1
    simpa using this.symm
  have h4 : x ^^^ 2 ^ 63 = x ||| 2 ^ 63 := by
    apply Nat.eq_of_testBit_eq
    intro j
    rw [Nat.testBit_xor, Nat.testBit_or, Nat.testBit_two_pow]
    by_cases hj : 63 = j
    · subst hj
      have : x.testBit 63 = false := Nat.testBit_lt_two_pow (by omega)
      simp [this]
    · simp [hj]
  rw [h1, h4, h3]
def Sn.all (s : Sn) : Nat := s.n + s.l + s.g + s.o + s.m
theorem bump_all (s : Sn) (u : Nat) : (bump s u).all = s.all + 1 := by
  unfold bump Sn.all
  split
  · simp only; omega
  · split
    · simp only; omega
    · split
      · simp only; omega
      · split
        · simp only; omega
        · simp only; omega
theorem cnt_all (us : List Nat) : ∀ k, k ≤ us.length → (cntK us k).all = k
  | 0, _ => rfl
  | k + 1, h => by rw [cntK_succ (by omega), bump_all, cnt_all us k (by omega)]

theorem low63 (u : Nat) (hu : u < 18446744073709551616) : bits BinOp.and IntKind.u64 (u : Int) 9223372036854775807 = ((u % 9223372036854775808 : Nat) : Int) := by
  have h1 : (BitVec.ofInt 64 (u : Int)).toNat = u := by rw [BitVec.ofInt_natCast, BitVec.toNat_ofNat]; omega
  have h2 : (BitVec.ofInt 64 9223372036854775807).toNat = 2 ^ 63 - 1 := by decide
  show IntKind.u64.wrap ((BitVec.ofInt 64 (u : Int) &&& BitVec.ofInt 64 9223372036854775807).toNat : Int) = _
  rw [BitVec.toNat_and, h1, h2, Nat.and_two_pow_sub_one_eq_mod, IntKind.wrap_u64]
  omega
set_option maxHeartbeats 2000000 in
theorem nan_any (u : Nat) (hu : u < 18446744073709551616) (w : World) :
    Calls Tryz.prog 51 #[.float .f64 u] w fun e w' => e = .returned (.bool (decide (kind u = 0))) ∧ w' = w := by
  have e1 := ext_bits
  have e2 := low63 u hu
  have hk : decide (kind u = 0) = decide (9218868437227405312 < u % 9223372036854775808) := by
    unfold kind
    by_cases h : 9218868437227405312 < u % 9223372036854775808
    · rw [if_pos h, decide_eq_true h]; rfl
    · rw [if_neg h, decide_eq_false h]
      by_cases h2 : u % 9223372036854775808 = 9218868437227405312
      · rw [if_pos h2]; split <;> rfl
      · rw [if_neg h2]; split <;> rfl
  rw [hk]
  clear hk hu
  generalize u % 9223372036854775808 = s at *
  go_enter Tryz.func51, Tryz.ntmps51
  go_wp2_with fail
  go_ret
  refine ⟨?_, rfl⟩
  by_cases h : 9218868437227405312 < s
  · have h2 : (9218868437227405312 : Int) < (s : Int) := by omega
    rw [decide_eq_true h]
    refine congrArg (fun x => Ending.returned (Value.bool x)) (?_ : _ = _)
    simp
    omega
  · rw [decide_eq_false h]
    refine congrArg (fun x => Ending.returned (Value.bool x)) (?_ : _ = _)
    simp
    omega
theorem and_powu (u : Nat) (hu : u < 18446744073709551616) : bits BinOp.and IntKind.u64 ((u : Int) / 4503599627370496) 2047 = ((u / 2 ^ 52 % 2048 : Nat) : Int) := by
  have e : ((u : Int) / 4503599627370496) = ((u / 2 ^ 52 : Nat) : Int) := by omega
  have hq : u / 2 ^ 52 < 4096 := by omega
  rw [e]
  generalize u / 2 ^ 52 = q at *
  have h1 : (BitVec.ofInt 64 (q : Int)).toNat = q := by rw [BitVec.ofInt_natCast, BitVec.toNat_ofNat]; omega
  have h2 : (BitVec.ofInt 64 2047).toNat = 2 ^ 11 - 1 := by decide
  show IntKind.u64.wrap ((BitVec.ofInt 64 (q : Int) &&& BitVec.ofInt 64 2047).toNat : Int) = _
  rw [BitVec.toNat_and, h1, h2, Nat.and_two_pow_sub_one_eq_mod, IntKind.wrap_u64]
  omega
/-- What a kind says of the bits. -/
theorem kind_says {u : Nat} (hu : u < 18446744073709551616) : (kind u = 1 → u / 2 ^ 52 % 2048 = 2047 ∧ 9223372036854775808 ≤ u) ∧ (kind u = 2 → u / 2 ^ 52 % 2048 = 2047 ∧ u < 9223372036854775808) ∧ (kind u = 3 → u = 9223372036854775808) ∧ (kind u = 4 → u / 2 ^ 52 % 2048 < 2047 ∧ u ≠ 9223372036854775808) ∧ kind u ≤ 4 := by
  unfold kind
  by_cases h1 : 9218868437227405312 < u % 9223372036854775808
  · simp only [if_pos h1]; simp
  · simp only [if_neg h1]
    by_cases h2 : u % 9223372036854775808 = 9218868437227405312
    · simp only [if_pos h2]
      by_cases h3 : u < 9223372036854775808
      · simp only [if_pos h3]
        refine ⟨by simp, fun _ => ⟨by omega, h3⟩, by simp, by simp, by simp⟩
      · simp only [if_neg h3]
        refine ⟨fun _ => ⟨by omega, by omega⟩, by simp, by simp, by simp, by simp⟩
    · simp only [if_neg h2]
      by_cases h5 : u = 9223372036854775808
      · simp only [if_pos h5]
        refine ⟨by simp, by simp, fun _ => h5, by simp, by simp⟩
      · simp only [if_neg h5]
        refine ⟨by simp, by simp, by simp, fun _ => ⟨by omega, h5⟩, by simp⟩

/-- Behind k numbers. -/
structure RK (us : List Nat) (b1 b2 : Nat) (w0 wx : World) (k : Nat) (fa fb : Nat → Nat) : Prop where
  a : WdAt wx b1 fa
  b : WdAt wx b2 fb
  la : ∀ j, fa j < 4294967296
  lb : ∀ j, fb j < 4294967296
  va : V70 fa = posK us k
  vb : V70 fb = negK us k
  keep : Keep (fun x => x = b1 ∨ x = b2) w0 wx
theorem z70 : Tryz.zeroCells66 = wA 70 (fun _ => 0) := by rfl

set_option maxRecDepth 100000 in
set_option maxHeartbeats 8000000 in
theorem sum3_any (o : Option Addr) (us : List Nat) (cap : Nat) (w : World) (hF : Fls w o us) (hu : ∀ i, us.getD i 0 < 18446744073709551616) (hn : us.length ≤ 1000000000) :
    Calls Tryz.prog 17 #[.slice o us.length cap] w fun e w' => e = .returned (.float .f64 (sumW us)) ∧ Below w.heap.size w w' := by
  have HF := Lib.hid (And.intro hF hu)
  clear hF hu
  have HSW : RowKit.Hid (sumW us = if 0 < (cntK us us.length).n ∨ (0 < (cntK us us.length).l ∧ 0 < (cntK us us.length).g) then 9221120237041090561 else if 0 < (cntK us us.length).l then 18442240474082181120 else if 0 < (cntK us us.length).g then 9218868437227405312 else if (cntK us us.length).o = 0 ∧ 0 < (cntK us us.length).m then 9223372036854775808 else sgnR (sumK us us.length)) := Lib.hid rfl
  generalize hsw : sumW us = sw at *
  clear hsw
  refine (show ∀ Q : Ending → World → Prop, (∀ e w', (e = .returned (.float .f64 sw) ∧ Below w.heap.size w w') → Q e w') → Calls Tryz.prog 17 #[.slice o us.length cap] w Q from ?_) _ (fun _ _ h => h)
  intro Q hQ
  have HQ := Lib.hid hQ
  clear hQ
  generalize hl : us.length = n at *
  have HL := Lib.hid hl
  clear hl
  go_enter Tryz.func17, Tryz.ntmps17
  go_wp2_with fail
  have hw1 : ∃ W, W = ((w.alloc (.cells Tryz.zeroCells66 66)).alloc (.cells Tryz.zeroCells66 66)) := ⟨_, rfl⟩
  obtain ⟨W1, hW1⟩ := hw1
  have hx1 : WdAt W1 w.heap.size (fun _ => 0) := by rw [hW1, z70]; exact blk_alloc (blk_new w _) _
  have hs1 : WdAt W1 (w.heap.size + 1) (fun _ => 0) := by rw [hW1, z70]; exact blk_new_at _ _ (by simp)
  have hk1 : Below w.heap.size w W1 := by rw [hW1]; exact ((Below.refl _ w).alloc (Nat.le_refl _) _).alloc (by simp) _
  have hz1 : W1.heap.size = w.heap.size + 2 := by rw [hW1]; simp
  rw [← hW1]
  clear hW1
  have H1 := Lib.hid (And.intro hx1 (And.intro hs1 (And.intro hk1 hz1)))
  clear hx1 hs1 hk1 hz1
  go_loopg [3, 4, 5, 6, 9] n (fun gq s3 s4 s5 s6 s9 wx => ∃ (k : Nat) (fa fb : Nat → Nat), gq + k = n ∧ s9 = .int .i64 (k : Int) ∧ s3 = .bool (decide (0 < (cntK us k).g)) ∧ s4 = .bool (decide (0 < (cntK us k).l)) ∧ s5 = .bool (decide (0 < (cntK us k).n)) ∧ s6 = .int .i64 ((cntK us k).m : Int) ∧ Hid (RK us w.heap.size (w.heap.size + 1) W1 wx k fa fb))
  case atStart =>
    have hv0 : V70 (fun _ => 0) = 0 := wv_zero _ _
    exact ⟨0, fun _ => 0, fun _ => 0, by omega, rfl, rfl, rfl, rfl, rfl, H1.out.1, H1.out.2.1, fun _ => (by decide : (0 : Nat) < 4294967296), fun _ => (by decide : (0 : Nat) < 4294967296), hv0, hv0, Keep.refl _ _⟩
  case round =>
    obtain ⟨k, fa, fb, hgk, rfl, rfl, rfl, rfl, rfl, HK⟩ := hrel
    have hlw := H1.out.2.2.1.trans (HK.out.keep.below H1.out.2.2.1.size (fun x hx => by omega))
    have HLW := Lib.hid hlw
    clear hlw
    by_cases hk : k < n
    · have hk' : k < us.length := by rw [HL.out]; exact hk
      obtain ⟨ad, rfl, c0'⟩ := HF.out.1 k hk'
      have c0 := (HLW.out.cell (cell_in c0')).trans c0'
      have HU := Lib.hid (HF.out.2 k)
      have HCN := Lib.hid (cntK_succ hk')
      have HPN := Lib.hid (And.intro (posK_succ hk') (negK_succ hk'))
      have hple := pos_le (us := us) HF.out.2 k (by omega)
      have hbig := big_lt3 (k := k) (by omega)
      have HBG := Lib.hid (And.intro hple hbig)
      have hmf : (cntK us k).m ≤ k := (cntK_few us k (by omega)).2.2.2.2
      clear c0' hk' hple hbig
      generalize us.getD k 0 = u at *
      have HNAN := Lib.hid (nan_any u HU.out wr)
      have hks := kind_says HU.out
      have e1 := ext_bits
      have e2 := and_powu u HU.out
      have e3 := and_frac u HU.out
      have hp2 : u / 2 ^ 52 % 2048 < 2048 := by omega
      have hfr : u % 2 ^ 52 < 4503599627370496 := by omega
      have HM : RowKit.Hid (mant u = (if u / 2 ^ 52 % 2048 = 0 then u % 2 ^ 52 else u % 2 ^ 52 + 2 ^ 52) ∧ shft u = u / 2 ^ 52 % 2048 - 1) := Lib.hid ⟨rfl, rfl⟩
      have HNG : RowKit.Hid (isNeg u = true ↔ 9223372036854775808 ≤ u) := Lib.hid (by unfold isNeg; rw [decide_eq_true_eq])
      have HPU : RowKit.Hid (u = 9223372036854775808 → u / 2 ^ 52 % 2048 = 0) := Lib.hid (by intro h; rw [h])
      generalize u / 2 ^ 52 % 2048 = p at *
      generalize u % 2 ^ 52 = fr at *
      obtain ⟨hk1', hk2', hk3', hk4', hk5'⟩ := hks
      rcases (show kind u = 0 ∨ kind u = 1 ∨ kind u = 2 ∨ kind u = 3 ∨ kind u = 4 by omega) with hkd | hkd | hkd | hkd | hkd
      · rw [hkd, show decide ((0 : Nat) = 0) = true from rfl] at HNAN
        have hps : posStep (posK us k) u = posK us k := by unfold posStep; rw [if_neg (by rw [hkd]; simp)]
        have hns : negStep (negK us k) u = negK us k := by unfold negStep; rw [if_neg (by rw [hkd]; simp)]
        have hbs : cntK us (k + 1) = { cntK us k with n := (cntK us k).n + 1 } := by
          rw [HCN.out]
          unfold bump
          rw [hkd]
          rfl
        have HB := Lib.hid (And.intro hbs (And.intro hps hns))
        clear hk1' hk2' hk3' hk4' hk5' hkd hps hns hbs
        go_wp2_with (first
          | (go_at_call 51
             refine HNAN.out.mono ?_
             rintro e w3 ⟨rfl, h3⟩
             obtain rfl : wr = w3 := h3.symm)
          | (go_at_call 52
             refine HADD.out.mono ?_
             rintro e w4 ⟨rfl, h4⟩
             have H4 := Lib.hid h4.out
             clear h4))
        go_roundg (gk - 1)
        all_goals first | omega | skip
        case rel =>
          refine ⟨k + 1, fa, fb, by omega, rfl, ?_, ?_, ?_, ?_, HK.out.a, HK.out.b, HK.out.la, HK.out.lb, ?_, ?_, HK.out.keep⟩
          · rw [HB.out.1]
          · rw [HB.out.1]
          · rw [HB.out.1]; simp
          · rw [HB.out.1]
          · rw [HPN.out.1, HB.out.2.1]; exact HK.out.va
          · rw [HPN.out.2, HB.out.2.2]; exact HK.out.vb
      · rw [hkd, show decide ((1 : Nat) = 0) = false from rfl] at HNAN
        have hps : posStep (posK us k) u = posK us k := by unfold posStep; rw [if_neg (by rw [hkd]; simp)]
        have hns : negStep (negK us k) u = negK us k := by unfold negStep; rw [if_neg (by rw [hkd]; simp)]
        have hbs : cntK us (k + 1) = { cntK us k with l := (cntK us k).l + 1 } := by
          rw [HCN.out]
          unfold bump
          rw [hkd]
          rfl
        obtain ⟨hpv, huv⟩ := hk1' hkd
        subst hpv
        have d1 : decide ((u : Int) ≥ 9223372036854775808) = true := by rw [decide_eq_true_eq]; omega
        have d1' : decide (9223372036854775808 ≤ u) = true := by rw [decide_eq_true_eq]; omega
        have HB := Lib.hid (And.intro hbs (And.intro hps hns))
        clear hk1' hk2' hk3' hk4' hk5' hkd hps hns hbs huv
        rw [show ((2047 : Nat) : Int) = 2047 from rfl] at e2
        go_wp2_with (first
          | (go_at_call 51
             refine HNAN.out.mono ?_
             rintro e w3 ⟨rfl, h3⟩
             obtain rfl : wr = w3 := h3.symm)
          | (go_at_call 52
             refine HADD.out.mono ?_
             rintro e w4 ⟨rfl, h4⟩
             have H4 := Lib.hid h4.out
             clear h4))
        go_roundg (gk - 1)
        all_goals first | omega | skip
        case rel =>
          refine ⟨k + 1, fa, fb, by omega, rfl, ?_, ?_, ?_, ?_, HK.out.a, HK.out.b, HK.out.la, HK.out.lb, ?_, ?_, HK.out.keep⟩
          · rw [HB.out.1]
          · rw [HB.out.1]; simp
          · rw [HB.out.1]
          · rw [HB.out.1]
          · rw [HPN.out.1, HB.out.2.1]; exact HK.out.va
          · rw [HPN.out.2, HB.out.2.2]; exact HK.out.vb
      · rw [hkd, show decide ((2 : Nat) = 0) = false from rfl] at HNAN
        have hps : posStep (posK us k) u = posK us k := by unfold posStep; rw [if_neg (by rw [hkd]; simp)]
        have hns : negStep (negK us k) u = negK us k := by unfold negStep; rw [if_neg (by rw [hkd]; simp)]
        have hbs : cntK us (k + 1) = { cntK us k with g := (cntK us k).g + 1 } := by
          rw [HCN.out]
          unfold bump
          rw [hkd]
          rfl
        obtain ⟨hpv, huv⟩ := hk2' hkd
        subst hpv
        have d1 : decide ((u : Int) ≥ 9223372036854775808) = false := by rw [decide_eq_false_iff_not]; omega
        have d1' : decide (9223372036854775808 ≤ u) = false := by rw [decide_eq_false_iff_not]; omega
        have HB := Lib.hid (And.intro hbs (And.intro hps hns))
        clear hk1' hk2' hk3' hk4' hk5' hkd hps hns hbs huv
        rw [show ((2047 : Nat) : Int) = 2047 from rfl] at e2
        go_wp2_with (first
          | (go_at_call 51
             refine HNAN.out.mono ?_
             rintro e w3 ⟨rfl, h3⟩
             obtain rfl : wr = w3 := h3.symm)
          | (go_at_call 52
             refine HADD.out.mono ?_
             rintro e w4 ⟨rfl, h4⟩
             have H4 := Lib.hid h4.out
             clear h4))
        go_roundg (gk - 1)
        all_goals first | omega | skip
        case rel =>
          refine ⟨k + 1, fa, fb, by omega, rfl, ?_, ?_, ?_, ?_, HK.out.a, HK.out.b, HK.out.la, HK.out.lb, ?_, ?_, HK.out.keep⟩
          · rw [HB.out.1]; simp
          · rw [HB.out.1]
          · rw [HB.out.1]
          · rw [HB.out.1]
          · rw [HPN.out.1, HB.out.2.1]; exact HK.out.va
          · rw [HPN.out.2, HB.out.2.2]; exact HK.out.vb
      · rw [hkd, show decide ((3 : Nat) = 0) = false from rfl] at HNAN
        have hps : posStep (posK us k) u = posK us k := by unfold posStep; rw [if_neg (by rw [hkd]; simp)]
        have hns : negStep (negK us k) u = negK us k := by unfold negStep; rw [if_neg (by rw [hkd]; simp)]
        have hbs : cntK us (k + 1) = { cntK us k with m := (cntK us k).m + 1 } := by
          rw [HCN.out]
          unfold bump
          rw [hkd]
          rfl
        have huv := hk3' hkd
        have d1 : decide ((u : Int) ≥ 9223372036854775808) = true := by rw [decide_eq_true_eq]; omega
        have d1' : decide (9223372036854775808 ≤ u) = true := by rw [decide_eq_true_eq]; omega
        have hp0 : p = 0 := HPU.out huv
        subst hp0
        have d4 : ((u : Int) == 9223372036854775808) = true := by rw [beq_iff_eq]; omega
        have d4' : (u == 9223372036854775808) = true := by rw [beq_iff_eq]; omega
        have HB := Lib.hid (And.intro hbs (And.intro hps hns))
        clear hk1' hk2' hk3' hk4' hk5' hkd hps hns hbs huv
        rw [show ((0 : Nat) : Int) = 0 from rfl] at e2
        go_wp2_with (first
          | (go_at_call 51
             refine HNAN.out.mono ?_
             rintro e w3 ⟨rfl, h3⟩
             obtain rfl : wr = w3 := h3.symm)
          | (go_at_call 52
             refine HADD.out.mono ?_
             rintro e w4 ⟨rfl, h4⟩
             have H4 := Lib.hid h4.out
             clear h4))
        go_roundg (gk - 1)
        all_goals first | omega | skip
        case rel =>
          refine ⟨k + 1, fa, fb, by omega, rfl, ?_, ?_, ?_, ?_, HK.out.a, HK.out.b, HK.out.la, HK.out.lb, ?_, ?_, HK.out.keep⟩
          · rw [HB.out.1]
          · rw [HB.out.1]
          · rw [HB.out.1]
          · rw [HB.out.1]; congr 1
          · rw [HPN.out.1, HB.out.2.1]; exact HK.out.va
          · rw [HPN.out.2, HB.out.2.2]; exact HK.out.vb
      · rw [hkd, show decide ((4 : Nat) = 0) = false from rfl] at HNAN
        have hbs : cntK us (k + 1) = { cntK us k with o := (cntK us k).o + 1 } := by
          rw [HCN.out]
          unfold bump
          rw [hkd]
          rfl
        obtain ⟨hpl, hut⟩ := hk4' hkd
        have hpb := HBG.out
        have d4 : ((u : Int) == 9223372036854775808) = false := by rw [beq_eq_false_iff_ne]; omega
        have d4' : (u == 9223372036854775808) = false := by rw [beq_eq_false_iff_ne]; exact hut
        have d5 : ((p : Int) == 2047) = false := by rw [beq_eq_false_iff_ne]; omega
        have d5' : (p == 2047) = false := by rw [beq_eq_false_iff_ne]; omega
        have hdl : mant u * 2 ^ shft u ≤ big := Nat.le_of_lt (fin_lt (kind4 HU.out hkd))
        have hml := mant_lt u
        have hsl : shft u ≤ 2045 := by have := HM.out.2; omega
        by_cases hs : 9223372036854775808 ≤ u
        · have hng : isNeg u = true := HNG.out.2 hs
          have d1 : decide ((u : Int) ≥ 9223372036854775808) = true := by rw [decide_eq_true_eq]; omega
          have d1' : decide (9223372036854775808 ≤ u) = true := by rw [decide_eq_true_eq]; exact hs
          have hps : posStep (posK us k) u = posK us k := by unfold posStep; rw [if_neg (by rw [hng]; simp)]
          have hns : negStep (negK us k) u = negK us k + mant u * 2 ^ shft u := by unfold negStep; rw [if_pos ⟨hkd, hng⟩]
          have HADD := Lib.hid (add3_any HK.out.b HK.out.lb (mant u) (shft u) hml hsl (by rw [HK.out.vb]; exact Nat.lt_of_le_of_lt (Nat.add_le_add hpb.1.2 hdl) hpb.2))
          have HB := Lib.hid (And.intro hbs (And.intro hps hns))
          clear hps hns hbs hng hs
          have hmm := HM.out
          have hkk : kind u = 4 := hkd
          clear hpb hdl hml hsl hk1' hk2' hk3' hk4' hk5' hkd hkk hut
          generalize mant u = mn at *
          generalize shft u = sh at *
          by_cases h0 : p = 0
          · subst h0
            rw [if_pos rfl] at hmm
            obtain ⟨rfl, rfl⟩ := hmm
            rw [show ((0 : Nat) : Int) = 0 from rfl] at e2
            rw [show ((0 - 1 : Nat) : Int) = 0 from rfl] at HADD
            go_wp2_with (first
              | (go_at_call 51
                 refine HNAN.out.mono ?_
                 rintro e w3 ⟨rfl, h3⟩
                 obtain rfl : wr = w3 := h3.symm)
              | (go_at_call 52
                 refine HADD.out.mono ?_
                 rintro e w4 ⟨rfl, h4⟩
                 have H4 := Lib.hid h4.out
                 clear h4))
            go_roundg (gk - 1)
            all_goals first | omega | skip
            case rel =>
              obtain ⟨f', a1, a2, a3, a4⟩ := H4.out
              refine ⟨k + 1, fa, f', by omega, rfl, ?_, ?_, ?_, ?_, a4.same HK.out.a (by omega), a1, HK.out.la, a2, ?_, ?_, HK.out.keep.trans (a4.mono (fun x _ hx => Or.inr hx))⟩
              · rw [HB.out.1]
              · rw [HB.out.1]
              · rw [HB.out.1]
              · rw [HB.out.1]
              · rw [HPN.out.1, HB.out.2.1]; exact HK.out.va
              · rw [HPN.out.2, HB.out.2.2, a3, HK.out.vb]
          · rw [if_neg h0] at hmm
            obtain ⟨hm1, hm2⟩ := hmm
            have d6 : decide ((p : Int) > 0) = true := by rw [decide_eq_true_eq]; omega
            have d6' : decide (0 < p) = true := by rw [decide_eq_true_eq]; omega
            have e4 : (fr : Int) + 4503599627370496 = (mn : Int) := by omega
            have e5 : IntKind.u64.wrap (mn : Int) = (mn : Int) := by rw [IntKind.wrap_u64]; omega
            have e6 : (p : Int) - 1 = (sh : Int) := by omega
            have e7 : IntKind.i64.wrap (sh : Int) = (sh : Int) := by rw [IntKind.wrap_i64]; omega
            clear hm1 hm2
            go_wp2_with (first
              | (go_at_call 51
                 refine HNAN.out.mono ?_
                 rintro e w3 ⟨rfl, h3⟩
                 obtain rfl : wr = w3 := h3.symm)
              | (go_at_call 52
                 refine HADD.out.mono ?_
                 rintro e w4 ⟨rfl, h4⟩
                 have H4 := Lib.hid h4.out
                 clear h4))
            go_roundg (gk - 1)
            all_goals first | omega | skip
            case rel =>
              obtain ⟨f', a1, a2, a3, a4⟩ := H4.out
              refine ⟨k + 1, fa, f', by omega, rfl, ?_, ?_, ?_, ?_, a4.same HK.out.a (by omega), a1, HK.out.la, a2, ?_, ?_, HK.out.keep.trans (a4.mono (fun x _ hx => Or.inr hx))⟩
              · rw [HB.out.1]
              · rw [HB.out.1]
              · rw [HB.out.1]
              · rw [HB.out.1]
              · rw [HPN.out.1, HB.out.2.1]; exact HK.out.va
              · rw [HPN.out.2, HB.out.2.2, a3, HK.out.vb]
        · have hng : isNeg u = false := by rw [Bool.eq_false_iff]; exact fun h => hs (HNG.out.1 h)
          have d1 : decide ((u : Int) ≥ 9223372036854775808) = false := by rw [decide_eq_false_iff_not]; omega
          have d1' : decide (9223372036854775808 ≤ u) = false := by rw [decide_eq_false_iff_not]; exact hs
          have hns : negStep (negK us k) u = negK us k := by unfold negStep; rw [if_neg (by rw [hng]; simp)]
          have hps : posStep (posK us k) u = posK us k + mant u * 2 ^ shft u := by unfold posStep; rw [if_pos ⟨hkd, hng⟩]
          have HADD := Lib.hid (add3_any HK.out.a HK.out.la (mant u) (shft u) hml hsl (by rw [HK.out.va]; exact Nat.lt_of_le_of_lt (Nat.add_le_add hpb.1.1 hdl) hpb.2))
          have HB := Lib.hid (And.intro hbs (And.intro hps hns))
          clear hps hns hbs hng hs
          have hmm := HM.out
          have hkk : kind u = 4 := hkd
          clear hpb hdl hml hsl hk1' hk2' hk3' hk4' hk5' hkd hkk hut
          generalize mant u = mn at *
          generalize shft u = sh at *
          by_cases h0 : p = 0
          · subst h0
            rw [if_pos rfl] at hmm
            obtain ⟨rfl, rfl⟩ := hmm
            rw [show ((0 : Nat) : Int) = 0 from rfl] at e2
            rw [show ((0 - 1 : Nat) : Int) = 0 from rfl] at HADD
            go_wp2_with (first
              | (go_at_call 51
                 refine HNAN.out.mono ?_
                 rintro e w3 ⟨rfl, h3⟩
                 obtain rfl : wr = w3 := h3.symm)
              | (go_at_call 52
                 refine HADD.out.mono ?_
                 rintro e w4 ⟨rfl, h4⟩
                 have H4 := Lib.hid h4.out
                 clear h4))
            go_roundg (gk - 1)
            all_goals first | omega | skip
            case rel =>
              obtain ⟨f', a1, a2, a3, a4⟩ := H4.out
              refine ⟨k + 1, f', fb, by omega, rfl, ?_, ?_, ?_, ?_, a1, a4.same HK.out.b (by omega), a2, HK.out.lb, ?_, ?_, HK.out.keep.trans (a4.mono (fun x _ hx => Or.inl hx))⟩
              · rw [HB.out.1]
              · rw [HB.out.1]
              · rw [HB.out.1]
              · rw [HB.out.1]
              · rw [HPN.out.1, HB.out.2.1, a3, HK.out.va]
              · rw [HPN.out.2, HB.out.2.2]; exact HK.out.vb
          · rw [if_neg h0] at hmm
            obtain ⟨hm1, hm2⟩ := hmm
            have d6 : decide ((p : Int) > 0) = true := by rw [decide_eq_true_eq]; omega
            have d6' : decide (0 < p) = true := by rw [decide_eq_true_eq]; omega
            have e4 : (fr : Int) + 4503599627370496 = (mn : Int) := by omega
            have e5 : IntKind.u64.wrap (mn : Int) = (mn : Int) := by rw [IntKind.wrap_u64]; omega
            have e6 : (p : Int) - 1 = (sh : Int) := by omega
            have e7 : IntKind.i64.wrap (sh : Int) = (sh : Int) := by rw [IntKind.wrap_i64]; omega
            clear hm1 hm2
            go_wp2_with (first
              | (go_at_call 51
                 refine HNAN.out.mono ?_
                 rintro e w3 ⟨rfl, h3⟩
                 obtain rfl : wr = w3 := h3.symm)
              | (go_at_call 52
                 refine HADD.out.mono ?_
                 rintro e w4 ⟨rfl, h4⟩
                 have H4 := Lib.hid h4.out
                 clear h4))
            go_roundg (gk - 1)
            all_goals first | omega | skip
            case rel =>
              obtain ⟨f', a1, a2, a3, a4⟩ := H4.out
              refine ⟨k + 1, f', fb, by omega, rfl, ?_, ?_, ?_, ?_, a1, a4.same HK.out.b (by omega), a2, HK.out.lb, ?_, ?_, HK.out.keep.trans (a4.mono (fun x _ hx => Or.inl hx))⟩
              · rw [HB.out.1]
              · rw [HB.out.1]
              · rw [HB.out.1]
              · rw [HB.out.1]
              · rw [HPN.out.1, HB.out.2.1, a3, HK.out.va]
              · rw [HPN.out.2, HB.out.2.2]; exact HK.out.vb
    · obtain rfl : k = n := by omega
      have hall : (cntK us k).n + (cntK us k).l + (cntK us k).g + (cntK us k).o + (cntK us k).m = k := by
        have := cnt_all us k (by rw [HL.out]; exact Nat.le_refl _)
        exact this
      generalize (cntK us k).n = cn at *
      generalize (cntK us k).l = cl at *
      generalize (cntK us k).g = cg at *
      generalize (cntK us k).o = co at *
      generalize (cntK us k).m = cm at *
      by_cases h1 : 0 < cn
      · have p_cn : decide ((cn : Int) > 0) = true := by rw [decide_eq_true_eq]; omega
        have q_cn : decide (0 < cn) = true := by rw [decide_eq_true_eq]; omega
        have hv : sw = 9221120237041090561 := by
          have h := HSW.out
          rw [if_pos (Or.inl h1)] at h
          exact h
        have HV := Lib.hid hv
        clear hv hall
        have ext := ext_from
        go_wp2_with fail
        exact HQ.out _ _ ⟨by (rw [HV.out]; try rfl), HLW.out⟩
      · have p_cn : decide ((cn : Int) > 0) = false := by rw [decide_eq_false_iff_not]; omega
        have q_cn : decide (0 < cn) = false := by rw [decide_eq_false_iff_not]; omega
        by_cases h2 : 0 < cl
        · have p_cl : decide ((cl : Int) > 0) = true := by rw [decide_eq_true_eq]; omega
          have q_cl : decide (0 < cl) = true := by rw [decide_eq_true_eq]; omega
          by_cases h3 : 0 < cg
          · have p_cg : decide ((cg : Int) > 0) = true := by rw [decide_eq_true_eq]; omega
            have q_cg : decide (0 < cg) = true := by rw [decide_eq_true_eq]; omega
            have hv : sw = 9221120237041090561 := by
              have h := HSW.out
              rw [if_pos (Or.inr ⟨h2, h3⟩)] at h
              exact h
            have HV := Lib.hid hv
            clear hv hall
            have ext := ext_from
            go_wp2_with fail
            exact HQ.out _ _ ⟨by (rw [HV.out]; try rfl), HLW.out⟩
          · have p_cg : decide ((cg : Int) > 0) = false := by rw [decide_eq_false_iff_not]; omega
            have q_cg : decide (0 < cg) = false := by rw [decide_eq_false_iff_not]; omega
            have hv : sw = 18442240474082181120 := by
              have h := HSW.out
              rw [if_neg (show ¬ (0 < cn ∨ (0 < cl ∧ 0 < cg)) by omega), if_pos h2] at h
              exact h
            have HV := Lib.hid hv
            clear hv hall
            have ext := ext_from
            go_wp2_with (go_at_call 46
                         refine (inf_down _).mono ?_
                         rintro e w3 ⟨rfl, h3⟩
                         obtain rfl : wr = w3 := h3.symm)
            exact HQ.out _ _ ⟨by (rw [HV.out]; try rfl), HLW.out⟩
        · have p_cl : decide ((cl : Int) > 0) = false := by rw [decide_eq_false_iff_not]; omega
          have q_cl : decide (0 < cl) = false := by rw [decide_eq_false_iff_not]; omega
          by_cases h3 : 0 < cg
          · have p_cg : decide ((cg : Int) > 0) = true := by rw [decide_eq_true_eq]; omega
            have q_cg : decide (0 < cg) = true := by rw [decide_eq_true_eq]; omega
            have hv : sw = 9218868437227405312 := by
              have h := HSW.out
              rw [if_neg (show ¬ (0 < cn ∨ (0 < cl ∧ 0 < cg)) by omega), if_neg h2, if_pos h3] at h
              exact h
            have HV := Lib.hid hv
            clear hv hall
            have ext := ext_from
            go_wp2_with (go_at_call 46
                         refine (inf_up _).mono ?_
                         rintro e w3 ⟨rfl, h3⟩
                         obtain rfl : wr = w3 := h3.symm)
            exact HQ.out _ _ ⟨by (rw [HV.out]; try rfl), HLW.out⟩
          · have p_cg : decide ((cg : Int) > 0) = false := by rw [decide_eq_false_iff_not]; omega
            have q_cg : decide (0 < cg) = false := by rw [decide_eq_false_iff_not]; omega
            by_cases h5 : 0 < cm
            · have p_cm : decide ((cm : Int) > 0) = true := by rw [decide_eq_true_eq]; omega
              have q_cm : decide (0 < cm) = true := by rw [decide_eq_true_eq]; omega
              by_cases h4 : co = 0
              · have p_k : ((cm : Int) == (k : Int)) = true := by rw [beq_iff_eq]; omega
                have q_k : (cm == k) = true := by rw [beq_iff_eq]; omega
                have hv : sw = 9223372036854775808 := by
                  have h := HSW.out
                  rw [if_neg (show ¬ (0 < cn ∨ (0 < cl ∧ 0 < cg)) by omega), if_neg h2, if_neg h3, if_pos ⟨h4, h5⟩] at h
                  exact h
                have HV := Lib.hid hv
                clear hv hall
                have ext := ext_from
                go_wp2_with fail
                exact HQ.out _ _ ⟨by (rw [HV.out]; try rfl), HLW.out⟩
              · have p_k : ((cm : Int) == (k : Int)) = false := by rw [beq_eq_false_iff_ne]; omega
                have q_k : (cm == k) = false := by rw [beq_eq_false_iff_ne]; omega
                have hv : sw = sgnR (sumK us k) := by
                  have h := HSW.out
                  rw [if_neg (show ¬ (0 < cn ∨ (0 < cl ∧ 0 < cg)) by omega), if_neg h2, if_neg h3, if_neg (fun h => h4 h.1)] at h
                  exact h
                have HV := Lib.hid hv
                clear hv hall
                have hsp := sum_parts us k (by rw [HL.out]; exact Nat.le_refl _)
                have HSP := Lib.hid hsp
                clear hsp
                have HLE := Lib.hid (less_any HK.out.a HK.out.b HK.out.la HK.out.lb)
                have hne12 : w.heap.size ≠ w.heap.size + 1 := by omega
                by_cases hs : V70 fa < V70 fb
                · rw [decide_eq_true hs] at HLE
                  have HS := Lib.hid hs
                  clear hs
                  have hv2 : sw = roundB (V70 fb - V70 fa) + 9223372036854775808 := by
                    have h1 := HS.out
                    have h2 := HK.out.va
                    have h3 := HK.out.vb
                    rw [HV.out]
                    unfold sgnR
                    rw [if_pos (by rw [HSP.out]; omega)]
                    congr 2
                    rw [HSP.out]
                    omega
                  have HV2 := Lib.hid hv2
                  have hng := run_neg
                  clear hv2
                  go_wp2_with (first
                    | (go_at_call 53
                       refine HLE.out.mono ?_
                       rintro e w3 ⟨rfl, h3⟩
                       have H3 := Lib.hid h3
                       have HSU := Lib.hid (sub_any ((h3.block _ (lt_of_block HK.out.b)).trans HK.out.b) ((h3.block _ (lt_of_block HK.out.a)).trans HK.out.a) (fun e => hne12 e.symm) HK.out.lb HK.out.la (Nat.le_of_lt HS.out))
                       clear h3)
                    | (go_at_call 54
                       refine HSU.out.mono ?_
                       rintro e w4 ⟨rfl, h4⟩
                       obtain ⟨f', a1, a2, a3, a4⟩ := h4.out
                       have hro := round_any a1 a2
                       rw [a3] at hro
                       have HRO := Lib.hid hro
                       have H4 := Lib.hid a4
                       clear h4 a1 a2 a3 a4 hro)
                    | (go_at_call 55
                       refine HRO.out.mono ?_
                       rintro e w5 ⟨rfl, h5⟩
                       obtain rfl : w4 = w5 := h5.symm))
                  refine HQ.out _ _ ⟨?_, (HLW.out.trans (H3.out.mono HLW.out.size)).trans (H4.out.below (Nat.le_trans HLW.out.size H3.out.size) (fun x hx => by omega))⟩
                  rw [HV2.out]
                  refine congrArg (fun x => Ending.returned (Value.float FloatKind.f64 x)) (?_ : _ = _)
                  exact neg_bits (roundB_lt _)
                · rw [decide_eq_false hs] at HLE
                  have HS := Lib.hid hs
                  clear hs
                  have hv2 : sw = roundB (V70 fa - V70 fb) := by
                    have h1 := HS.out
                    have h2 := HK.out.va
                    have h3 := HK.out.vb
                    rw [HV.out]
                    unfold sgnR
                    rw [if_neg (by rw [HSP.out]; omega)]
                    congr 1
                    rw [HSP.out]
                    omega
                  have HV2 := Lib.hid hv2
                  clear hv2
                  go_wp2_with (first
                    | (go_at_call 53
                       refine HLE.out.mono ?_
                       rintro e w3 ⟨rfl, h3⟩
                       have H3 := Lib.hid h3
                       have HSU := Lib.hid (sub_any ((h3.block _ (lt_of_block HK.out.a)).trans HK.out.a) ((h3.block _ (lt_of_block HK.out.b)).trans HK.out.b) hne12 HK.out.la HK.out.lb (Nat.le_of_not_lt HS.out))
                       clear h3)
                    | (go_at_call 54
                       refine HSU.out.mono ?_
                       rintro e w4 ⟨rfl, h4⟩
                       obtain ⟨f', a1, a2, a3, a4⟩ := h4.out
                       have hro := round_any a1 a2
                       rw [a3] at hro
                       have HRO := Lib.hid hro
                       have H4 := Lib.hid a4
                       clear h4 a1 a2 a3 a4 hro)
                    | (go_at_call 55
                       refine HRO.out.mono ?_
                       rintro e w5 ⟨rfl, h5⟩
                       obtain rfl : w4 = w5 := h5.symm))
                  exact HQ.out _ _ ⟨by rw [HV2.out]; rfl, (HLW.out.trans (H3.out.mono HLW.out.size)).trans (H4.out.below (Nat.le_trans HLW.out.size H3.out.size) (fun x hx => by omega))⟩
            · have p_cm : decide ((cm : Int) > 0) = false := by rw [decide_eq_false_iff_not]; omega
              have q_cm : decide (0 < cm) = false := by rw [decide_eq_false_iff_not]; omega
              have hv : sw = sgnR (sumK us k) := by
                have h := HSW.out
                rw [if_neg (show ¬ (0 < cn ∨ (0 < cl ∧ 0 < cg)) by omega), if_neg h2, if_neg h3, if_neg (fun h => h5 h.2)] at h
                exact h
              have HV := Lib.hid hv
              clear hv hall
              have hsp := sum_parts us k (by rw [HL.out]; exact Nat.le_refl _)
              have HSP := Lib.hid hsp
              clear hsp
              have HLE := Lib.hid (less_any HK.out.a HK.out.b HK.out.la HK.out.lb)
              have hne12 : w.heap.size ≠ w.heap.size + 1 := by omega
              by_cases hs : V70 fa < V70 fb
              · rw [decide_eq_true hs] at HLE
                have HS := Lib.hid hs
                clear hs
                have hv2 : sw = roundB (V70 fb - V70 fa) + 9223372036854775808 := by
                  have h1 := HS.out
                  have h2 := HK.out.va
                  have h3 := HK.out.vb
                  rw [HV.out]
                  unfold sgnR
                  rw [if_pos (by rw [HSP.out]; omega)]
                  congr 2
                  rw [HSP.out]
                  omega
                have HV2 := Lib.hid hv2
                have hng := run_neg
                clear hv2
                go_wp2_with (first
                  | (go_at_call 53
                     refine HLE.out.mono ?_
                     rintro e w3 ⟨rfl, h3⟩
                     have H3 := Lib.hid h3
                     have HSU := Lib.hid (sub_any ((h3.block _ (lt_of_block HK.out.b)).trans HK.out.b) ((h3.block _ (lt_of_block HK.out.a)).trans HK.out.a) (fun e => hne12 e.symm) HK.out.lb HK.out.la (Nat.le_of_lt HS.out))
                     clear h3)
                  | (go_at_call 54
                     refine HSU.out.mono ?_
                     rintro e w4 ⟨rfl, h4⟩
                     obtain ⟨f', a1, a2, a3, a4⟩ := h4.out
                     have hro := round_any a1 a2
                     rw [a3] at hro
                     have HRO := Lib.hid hro
                     have H4 := Lib.hid a4
                     clear h4 a1 a2 a3 a4 hro)
                  | (go_at_call 55
                     refine HRO.out.mono ?_
                     rintro e w5 ⟨rfl, h5⟩
                     obtain rfl : w4 = w5 := h5.symm))
                refine HQ.out _ _ ⟨?_, (HLW.out.trans (H3.out.mono HLW.out.size)).trans (H4.out.below (Nat.le_trans HLW.out.size H3.out.size) (fun x hx => by omega))⟩
                rw [HV2.out]
                refine congrArg (fun x => Ending.returned (Value.float FloatKind.f64 x)) (?_ : _ = _)
                exact neg_bits (roundB_lt _)
              · rw [decide_eq_false hs] at HLE
                have HS := Lib.hid hs
                clear hs
                have hv2 : sw = roundB (V70 fa - V70 fb) := by
                  have h1 := HS.out
                  have h2 := HK.out.va
                  have h3 := HK.out.vb
                  rw [HV.out]
                  unfold sgnR
                  rw [if_neg (by rw [HSP.out]; omega)]
                  congr 1
                  rw [HSP.out]
                  omega
                have HV2 := Lib.hid hv2
                clear hv2
                go_wp2_with (first
                  | (go_at_call 53
                     refine HLE.out.mono ?_
                     rintro e w3 ⟨rfl, h3⟩
                     have H3 := Lib.hid h3
                     have HSU := Lib.hid (sub_any ((h3.block _ (lt_of_block HK.out.a)).trans HK.out.a) ((h3.block _ (lt_of_block HK.out.b)).trans HK.out.b) hne12 HK.out.la HK.out.lb (Nat.le_of_not_lt HS.out))
                     clear h3)
                  | (go_at_call 54
                     refine HSU.out.mono ?_
                     rintro e w4 ⟨rfl, h4⟩
                     obtain ⟨f', a1, a2, a3, a4⟩ := h4.out
                     have hro := round_any a1 a2
                     rw [a3] at hro
                     have HRO := Lib.hid hro
                     have H4 := Lib.hid a4
                     clear h4 a1 a2 a3 a4 hro)
                  | (go_at_call 55
                     refine HRO.out.mono ?_
                     rintro e w5 ⟨rfl, h5⟩
                     obtain rfl : w4 = w5 := h5.symm))
                exact HQ.out _ _ ⟨by rw [HV2.out]; rfl, (HLW.out.trans (H3.out.mono HLW.out.size)).trans (H4.out.below (Nat.le_trans HLW.out.size H3.out.size) (fun x hx => by omega))⟩
end Go.Proofs.YtipkiiblghnoiaaGreatDoor.Sm
