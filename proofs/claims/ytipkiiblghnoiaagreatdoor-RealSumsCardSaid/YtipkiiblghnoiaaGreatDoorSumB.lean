/- Package real: exact sums in memory: below, add. By an AI agent. -/
import Derived.Test.YtipkiiblghnoiaaGreatDoorSumA
import Derived.Test.YtipkiiblghnoiaaGreatDoorKit
import Derived.Test.YtipkiiblghnoiaaGreatDoorBits
import Derived.BigQuiet
import Derived.Deep.QuietTactic
import Derived.Deep.RegionWith
import Derived.Deep.CutBlock
import Derived.Deep.CutRange
import Derived.Lib.Hide
import Derived.Laws.BitsAllLaws
namespace Go.Proofs.YtipkiiblghnoiaaGreatDoor.Sm
open Go.ChangeShapes Go.WideShapes Go.ChangeAt Go.RowKit
set_option linter.unusedVariables false
set_option linter.unusedSimpArgs false

/-- Words as cells. -/
def wA (n : Nat) (f : Nat → Nat) : Array Value := ((List.range n).map fun i => Value.int .u64 ((f i : Nat) : Int)).toArray
theorem wA_get (n : Nat) (f : Nat → Nat) (i : Nat) (h : i < n) : (wA n f)[i]? = some (.int .u64 ((f i : Nat) : Int)) := by simp [wA, h]
theorem wA_set (n : Nat) (f : Nat → Nat) (i v : Nat) : (wA n f).setIfInBounds i (.int .u64 (v : Int)) = wA n (upd f i v) := by
  apply Array.ext_getElem?
  intro j
  rw [Array.getElem?_setIfInBounds]
  by_cases hj : j < n
  · by_cases hij : i = j
    · subst hij
      simp [wA, hj, upd]
    · have : ¬ j = i := fun e => hij e.symm
      simp [wA, hj, hij, upd, this]
  · by_cases hij : i = j
    · subst hij; simp [wA, hj]
    · simp [wA, hj, hij]
/-- An exact number in memory. -/
def ExAt (w : World) (b : Nat) (f : Nat → Nat) : Prop := w.heap[b]? = some (.cells (wA 36 f) 58 (0, 0))
theorem ExAt.cell {w : World} {b : Nat} {f : Nat → Nat} (h : ExAt w b f) {i : Nat} (hi : i < 36) : w.cell? ⟨b, i, none⟩ = some (.int .u64 ((f i : Nat) : Int)) := (blk_cell h i).trans (wA_get 36 f i hi)
theorem ExAt.free {w : World} {b : Nat} {f : Nat → Nat} (h : ExAt w b f) (i : Nat) : w.frozen? ⟨b, i, none⟩ = false := blk_free h i
theorem ExAt.set {w : World} {b : Nat} {f : Nat → Nat} (h : ExAt w b f) (i v : Nat) : ExAt (w.setCell ⟨b, i, none⟩ (.int .u64 (v : Int))) b (upd f i v) := by
  have := blk_set h i (.int .u64 (v : Int))
  rw [wA_set] at this
  exact this

set_option maxHeartbeats 2000000 in
theorem below_any {w : World} {b : Nat} {f : Nat → Nat} (h : ExAt w b f) :
    Calls Tryz.prog 49 #[.pointer (some ⟨b, 0, none⟩)] w fun e w' => e = .returned (.bool (decide (2 ^ 63 ≤ f 35))) ∧ w' = w := by
  have c := h.cell (i := 35) (by omega)
  clear h
  go_enter Tryz.func49, Tryz.ntmps49
  go_wp2_with fail
  go_ret
  refine ⟨?_, rfl⟩
  congr 2
  by_cases hx : 2 ^ 63 ≤ f 35
  · have h2 : ((f 35 : Nat) : Int) ≥ 9223372036854775808 := by omega
    rw [decide_eq_true hx, decide_eq_true h2]
    rfl
  · have h2 : ¬ ((f 35 : Nat) : Int) ≥ 9223372036854775808 := by omega
    rw [decide_eq_false hx, decide_eq_false h2]
    rfl

theorem wrap64_id (x : Int) (h1 : -9223372036854775808 ≤ x) (h2 : x ≤ 9223372036854775807) : wrap64 x = x := by
  unfold wrap64
  omega
theorem and_pow (u : Nat) (hu : u < 2 ^ 64) : bits BinOp.and IntKind.i64 (wrap64 ((u : Int) / 4503599627370496)) 2047 = ((u / 2 ^ 52 % 2048 : Nat) : Int) := by
  have e : ((u : Int) / 4503599627370496) = ((u / 2 ^ 52 : Nat) : Int) := by omega
  have hq : u / 2 ^ 52 < 4096 := by omega
  rw [e, wrap64_id _ (by omega) (by omega)]
  generalize u / 2 ^ 52 = q at *
  have h1 : (BitVec.ofInt 64 (q : Int)).toNat = q := by rw [BitVec.ofInt_natCast, BitVec.toNat_ofNat]; omega
  have h2 : (BitVec.ofInt 64 2047).toNat = 2 ^ 11 - 1 := by decide
  show IntKind.i64.wrap ((BitVec.ofInt 64 (q : Int) &&& BitVec.ofInt 64 2047).toNat : Int) = _
  rw [BitVec.toNat_and, h1, h2, Nat.and_two_pow_sub_one_eq_mod]
  rw [IntKind.wrap_i64]
  omega
theorem and_frac (u : Nat) (hu : u < 2 ^ 64) : bits BinOp.and IntKind.u64 (u : Int) 4503599627370495 = ((u % 2 ^ 52 : Nat) : Int) := by
  have h1 : (BitVec.ofInt 64 (u : Int)).toNat = u := by rw [BitVec.ofInt_natCast, BitVec.toNat_ofNat]; omega
  have h2 : (BitVec.ofInt 64 4503599627370495).toNat = 2 ^ 52 - 1 := by decide
  show IntKind.u64.wrap ((BitVec.ofInt 64 (u : Int) &&& BitVec.ofInt 64 4503599627370495).toNat : Int) = _
  rw [BitVec.toNat_and, h1, h2, Nat.and_two_pow_sub_one_eq_mod, IntKind.wrap_u64]
  omega
theorem or_norm (a : Nat) (h : a < 4503599627370496) : bits BinOp.or IntKind.u64 (a : Int) 4503599627370496 = ((a + 4503599627370496 : Nat) : Int) := by
  have h1 : (BitVec.ofInt 64 (a : Int)).toNat = a := by rw [BitVec.ofInt_natCast, BitVec.toNat_ofNat]; omega
  have h2 : (BitVec.ofInt 64 4503599627370496).toNat = 2 ^ 52 := by decide
  show IntKind.u64.wrap ((BitVec.ofInt 64 (a : Int) ||| BitVec.ofInt 64 4503599627370496).toNat : Int) = _
  have h3 : a ||| 2 ^ 52 = a + 2 ^ 52 := by
    rw [Nat.or_comm, Nat.add_comm]
    have := Nat.two_pow_add_eq_or_of_lt (i := 52) (b := a) (by omega) 1
    simpa using this.symm
  rw [BitVec.toNat_or, h1, h2, h3, IntKind.wrap_u64]
  omega

/-- bits.Add64, bits.Sub64. -/
def subS (x y c : Nat) : Nat := (x + Extern.MathBitsCarry.m64 - y - c) % Extern.MathBitsCarry.m64
def subC (x y c : Nat) : Nat := if x < y + c then 1 else 0
def stepS (neg : Bool) (x y c : Nat) : Nat := if neg = true then (x + 18446744073709551616 - y - c) % 18446744073709551616 else (x + y + c) % 18446744073709551616
def stepC (neg : Bool) (x y c : Nat) : Nat := if neg = true then (if x < y + c then 1 else 0) else (x + y + c) / 18446744073709551616
theorem ext_add0 (x y : Nat) (w : World) : (callFunc 60 #[.int .u64 (x : Int), .int .u64 (y : Int), .int .u64 ((0 : Nat) : Int)]).run Tryz.prog w = .ok (.value (.tuple #[.int .u64 ((stepS false x y 0 : Nat) : Int), .int .u64 ((stepC false x y 0 : Nat) : Int)])) w := by kernel_rfl
theorem ext_add1 (x y : Nat) (w : World) : (callFunc 60 #[.int .u64 (x : Int), .int .u64 (y : Int), .int .u64 ((1 : Nat) : Int)]).run Tryz.prog w = .ok (.value (.tuple #[.int .u64 ((stepS false x y 1 : Nat) : Int), .int .u64 ((stepC false x y 1 : Nat) : Int)])) w := by kernel_rfl
theorem ext_add (x y c : Nat) (hc : c ≤ 1) (w : World) : (callFunc 60 #[.int .u64 (x : Int), .int .u64 (y : Int), .int .u64 (c : Int)]).run Tryz.prog w = .ok (.value (.tuple #[.int .u64 ((stepS false x y c : Nat) : Int), .int .u64 ((stepC false x y c : Nat) : Int)])) w := by
  have : c = 0 ∨ c = 1 := by omega
  rcases this with rfl | rfl
  · exact ext_add0 x y w
  · exact ext_add1 x y w
theorem ext_sub0 (x y : Nat) (w : World) : (callFunc 61 #[.int .u64 (x : Int), .int .u64 (y : Int), .int .u64 ((0 : Nat) : Int)]).run Tryz.prog w = .ok (.value (.tuple #[.int .u64 ((subS x y 0 : Nat) : Int), .int .u64 ((subC x y 0 : Nat) : Int)])) w := by kernel_rfl
theorem ext_sub1 (x y : Nat) (w : World) : (callFunc 61 #[.int .u64 (x : Int), .int .u64 (y : Int), .int .u64 ((1 : Nat) : Int)]).run Tryz.prog w = .ok (.value (.tuple #[.int .u64 ((subS x y 1 : Nat) : Int), .int .u64 ((subC x y 1 : Nat) : Int)])) w := by kernel_rfl
theorem subS_eq (x y c : Nat) : subS x y c = stepS true x y c := by
  have : Extern.MathBitsCarry.m64 = 18446744073709551616 := by decide
  unfold subS stepS
  rw [this, if_pos rfl]
theorem subC_eq (x y c : Nat) : subC x y c = stepC true x y c := by
  unfold subC stepC
  rw [if_pos (rfl : true = true)]
theorem ext_sub (x y c : Nat) (hc : c ≤ 1) (w : World) : (callFunc 61 #[.int .u64 (x : Int), .int .u64 (y : Int), .int .u64 (c : Int)]).run Tryz.prog w = .ok (.value (.tuple #[.int .u64 ((stepS true x y c : Nat) : Int), .int .u64 ((stepC true x y c : Nat) : Int)])) w := by
  have : c = 0 ∨ c = 1 := by omega
  rcases this with rfl | rfl
  · rw [← subS_eq, ← subC_eq]; exact ext_sub0 x y w
  · rw [← subS_eq, ← subC_eq]; exact ext_sub1 x y w
theorem stepS_lt (neg : Bool) (x y c : Nat) : stepS neg x y c < 18446744073709551616 := by
  unfold stepS; split <;> omega
theorem stepC_le {neg : Bool} {x y c : Nat} (hx : x < 18446744073709551616) (hy : y < 18446744073709551616) (hc : c ≤ 1) : stepC neg x y c ≤ 1 := by
  unfold stepC; split
  · split <;> omega
  · omega
/-- How far a sum, or a difference, has come: a carry is left at word j. -/
def Rel (neg : Bool) (V V' d c j : Nat) : Prop := if neg = true then V' + d = V + c * 18446744073709551616 ^ j else V' + c * 18446744073709551616 ^ j = V + d
theorem rel_step {neg : Bool} {f : Nat → Nat} {V d y c j : Nat} (h : Rel neg V (wv 18446744073709551616 f 36) d c j) (hj : j < 36) (hf : f j < 18446744073709551616) (hy : y < 18446744073709551616) (hc : c ≤ 1) :
    Rel neg V (wv 18446744073709551616 (upd f j (stepS neg (f j) y c)) 36) (d + y * 18446744073709551616 ^ j) (stepC neg (f j) y c) (j + 1) := by
  have hu := wv_upd (B := 18446744073709551616) (f := f) (i := j) (x := stepS neg (f j) y c) (n := 36) hj
  unfold Rel at h ⊢
  rw [Nat.pow_succ, Nat.mul_comm _ 18446744073709551616, ← Nat.mul_assoc]
  generalize 18446744073709551616 ^ j = P at *
  generalize wv 18446744073709551616 (upd f j (stepS neg (f j) y c)) 36 = V2 at *
  generalize wv 18446744073709551616 f 36 = V1 at *
  cases neg
  · simp only [Bool.false_eq_true, if_false] at h ⊢
    have e : stepS false (f j) y c + stepC false (f j) y c * 18446744073709551616 = f j + y + c := by unfold stepS stepC; simp only [Bool.false_eq_true, if_false]; omega
    have e2 := congrArg (· * P) e
    simp only [Nat.add_mul] at e2
    omega
  · simp only [if_true] at h ⊢
    have e : stepS true (f j) y c + y + c = f j + stepC true (f j) y c * 18446744073709551616 := by unfold stepS stepC; simp only [if_true]; split <;> omega
    have e2 := congrArg (· * P) e
    simp only [Nat.add_mul] at e2
    omega
theorem rel_start (neg : Bool) (V j : Nat) : Rel neg V V 0 0 j := by
  unfold Rel; cases neg <;> simp
/-- Which of both: by a name that the walk does not open. -/
structure Step (K : Nat) (neg : Bool) : Prop where
  run : ∀ (x y c : Nat), c ≤ 1 → ∀ w, (callFunc K #[.int .u64 (x : Int), .int .u64 (y : Int), .int .u64 (c : Int)]).run Tryz.prog w = .ok (.value (.tuple #[.int .u64 ((stepS neg x y c : Nat) : Int), .int .u64 ((stepC neg x y c : Nat) : Int)])) w

theorem pow_word (a i : Nat) : 2 ^ (a + 64 * i) = 2 ^ a * 18446744073709551616 ^ i := by
  have h : (2 : Nat) ^ 64 = 18446744073709551616 := by decide
  rw [Nat.pow_add, Nat.pow_mul, h]
theorem rel_zero {neg : Bool} {V V' d j k : Nat} (h : Rel neg V V' d 0 j) : Rel neg V V' d 0 k := by
  unfold Rel at h ⊢
  rw [Nat.zero_mul] at h ⊢
  exact h

set_option maxRecDepth 100000 in
set_option maxHeartbeats 4000000 in
theorem add_any {w : World} {b : Nat} {f : Nat → Nat} (h : ExAt w b f) (hf : ∀ i, f i < 2 ^ 64) (u : Nat) (hu : u < 2 ^ 64) (he : u / 2 ^ 52 % 2048 < 2047) :
    Calls Tryz.prog 44 #[.pointer (some ⟨b, 0, none⟩), .float .f64 u] w fun e w' => e = .returned (.tuple #[]) ∧ Hid (∃ (f' : Nat → Nat) (c : Nat), ExAt w' b f' ∧ (∀ j, f' j < 18446744073709551616) ∧ c ≤ 1 ∧ Keep (· = b) w w' ∧ Rel (isNeg u) (wv 18446744073709551616 f 36) (wv 18446744073709551616 f' 36) (mant u * 2 ^ shft u) c 36) := by
  have HF := Lib.hid (And.intro h (And.intro hf (And.intro hu he)))
  clear h hf hu he
  refine (show ∀ Q : Ending → World → Prop, (∀ e w', (e = .returned (.tuple #[]) ∧ Hid (∃ (f' : Nat → Nat) (c : Nat), ExAt w' b f' ∧ (∀ j, f' j < 18446744073709551616) ∧ c ≤ 1 ∧ Keep (· = b) w w' ∧ Rel (isNeg u) (wv 18446744073709551616 f 36) (wv 18446744073709551616 f' 36) (mant u * 2 ^ shft u) c 36)) → Q e w') → Calls Tryz.prog 44 #[.pointer (some ⟨b, 0, none⟩), .float .f64 u] w Q from ?_) _ (fun _ _ h => h)
  intro Q hQ
  have HQ := Lib.hid hQ
  clear hQ
  have e1 := ext_bits
  go_enter Tryz.func44, Tryz.ntmps44
  have hp2 : bits BinOp.and IntKind.i64 (wrap64 ((u : Int) / 4503599627370496)) 2047 = ((u / 2 ^ 52 % 2048 : Nat) : Int) := and_pow u HF.out.2.2.1
  have hp3 : bits BinOp.and IntKind.u64 (u : Int) 4503599627370495 = ((u % 2 ^ 52 : Nat) : Int) := and_frac u HF.out.2.2.1
  have hfr : u % 2 ^ 52 < 4503599627370496 := by omega
  have hpp : u / 2 ^ 52 % 2048 < 2047 := HF.out.2.2.2
  have HM : RowKit.Hid (mant u = (if u / 2 ^ 52 % 2048 = 0 then u % 2 ^ 52 else u % 2 ^ 52 + 2 ^ 52) ∧ shft u = u / 2 ^ 52 % 2048 - 1) := Lib.hid ⟨rfl, rfl⟩
  generalize u / 2 ^ 52 % 2048 = p at *
  generalize u % 2 ^ 52 = fr at *
  have hp4 : bits BinOp.or IntKind.u64 (fr : Int) 4503599627370496 = ((fr + 4503599627370496 : Nat) : Int) := or_norm fr hfr
  go_upto_if 22 with fail
  go_cut [5, 6] from 23 (fun s5 s6 wx => s5 = .int .i64 ((shft u : Nat) : Int) ∧ s6 = .int .u64 ((mant u : Nat) : Int) ∧ w = wx)
  case first =>
    by_cases h0 : p = 0
    · subst h0
      have hm := HM.out
      rw [if_pos rfl] at hm
      go_wp2_with fail
      go_meet
      refine ⟨?_, ?_, rfl⟩
      · rw [hm.2]; rfl
      · rw [hm.1]
    · have hm := HM.out
      rw [if_neg h0] at hm
      have hp : 0 < p := by omega
      have hw : wrap64 ((p : Int) - 1) = ((p - 1 : Nat) : Int) := by rw [wrap64_id] <;> omega
      go_wp2_with fail
      go_meet
      refine ⟨?_, ?_, rfl⟩
      · rw [hm.2]
        congr 1
        omega
      · rw [hm.1]; rfl
  case rest =>
    obtain ⟨rfl, rfl, rfl⟩ := hcut
    have hsh : shft u < 2046 := by have := HM.out.2; omega
    have hmn : mant u < 9007199254740992 := mant_lt u
    have HU := Lib.hid (And.intro hp2 (And.intro hp3 hp4))
    clear hp2 hp3 hp4
    generalize shft u = sh at *
    generalize mant u = mn at *
    obtain ⟨i, hi⟩ : ∃ i, i = sh / 64 := ⟨_, rfl⟩
    obtain ⟨by_, hby⟩ : ∃ x, x = sh % 64 := ⟨_, rfl⟩
    have hs : sh = 64 * i + by_ := by omega
    have hi31 : i < 32 := by omega
    have hb64 : by_ < 64 := by omega
    have t1 : ((sh : Int)).tdiv 64 = (i : Int) := by rw [hi, Int.tdiv_eq_ediv_of_nonneg (by omega)]; omega
    have t2 : ((sh : Int)).tmod 64 = (by_ : Int) := by rw [hby, Int.tmod_eq_emod_of_nonneg (by omega)]; omega
    clear hi hby
    have HS := Lib.hid hs
    clear hs
    go_upto_region 7 with fail
    go_cut [9, 10] from 31 to 37 (fun s9 s10 wx => ∃ lo hi : Nat, s9 = .int .u64 (lo : Int) ∧ s10 = .int .u64 (hi : Int) ∧ Hid (Keep (fun _ => False) w wx ∧ lo < 18446744073709551616 ∧ hi < 18446744073709551616 ∧ lo + hi * 18446744073709551616 = mn * 2 ^ by_))
    case first =>
      go_quiet (fail)
      go_wp2_with fail
      go_meet
      have hp : (2 : Nat) ^ 64 = 2 ^ (64 - by_) * 2 ^ by_ := by rw [← Nat.pow_add]; congr 1; omega
      have h64 : (18446744073709551616 : Nat) = 2 ^ 64 := by decide
      have hpos : 0 < 2 ^ by_ := Nat.pow_pos (by decide)
      have hdv : mn / 2 ^ (64 - by_) = (mn * 2 ^ by_) / 18446744073709551616 := by rw [h64, hp, Nat.mul_div_mul_right _ _ hpos]
      have hle : mn / 2 ^ (64 - by_) ≤ mn := Nat.div_le_self _ _
      refine ⟨(mn * 2 ^ by_) % 18446744073709551616, mn / 2 ^ (64 - by_), ?_, ?_, ((Keep.refl _ w).drewN nq), by omega, by omega, ?_⟩
      · have e0 : ((mn * 2 ^ by_ : Nat) : Int) = (mn : Int) * 2 ^ by_ := by push_cast; rfl
        rw [IntKind.wrap_u64, ← e0]
        generalize mn * 2 ^ by_ = X
        congr 1
      · have e0 : ((mn / 2 ^ (64 - by_) : Nat) : Int) = (mn : Int) / 2 ^ (64 - by_) := by push_cast; rfl
        rw [e0]
      · rw [hdv]; omega
    case rest =>
      obtain ⟨lo, hi, rfl, rfl, HLH⟩ := hcut
      obtain ⟨w1, hw1⟩ : ∃ w1, w1 = wc := ⟨_, rfl⟩
      subst hw1
      have hul : u < 18446744073709551616 := HF.out.2.2.1
      have E1 := Lib.hid e1
      clear e1
      go_upto_if 39 with fail
      go_cut [12] from 38 to 39 (fun s12 wx => ∃ K : Nat, s12 = .func (.func K) #[] #[] ∧ w1 = wx ∧ Hid (Step K (isNeg u)))
      case first =>
        by_cases hneg : 2 ^ 63 ≤ u
        · have d1 : decide (9223372036854775808 ≤ (u : Int)) = true := by rw [decide_eq_true_eq]; omega
          rw [d1]
          clear d1
          have hng : isNeg u = true := decide_eq_true hneg
          have HN := Lib.hid hng
          clear hneg hng hul
          go_wp2_with fail
          go_meet
          exact ⟨61, rfl, rfl, Lib.hid ⟨fun x y c hc w => by rw [HN.out]; exact ext_sub x y c hc w⟩⟩
        · have d1 : decide (9223372036854775808 ≤ (u : Int)) = false := by rw [decide_eq_false_iff_not]; omega
          rw [d1]
          clear d1
          have hng : isNeg u = false := decide_eq_false hneg
          have HN := Lib.hid hng
          clear hneg hng hul
          go_wp2_with fail
          go_meet
          exact ⟨60, rfl, rfl, Lib.hid ⟨fun x y c hc w => by rw [HN.out]; exact ext_add x y c hc w⟩⟩
      case rest =>
        obtain ⟨K, rfl, rfl, HK⟩ := hcut
        generalize isNeg u = neg at *
        have hx1 : ExAt w1 b f := HLH.out.1.same HF.out.1 (fun h => h)
        have HX1 := Lib.hid (And.intro hx1 (fun j => (show f j < 18446744073709551616 from HF.out.2.1 j)))
        clear hx1
        go_upto_region 12 with fail
        go_cut [11] from 40 to 54 (fun s11 wx => ∃ (f1 : Nat → Nat) (c : Nat), s11 = .int .u64 (c : Int) ∧ Hid (ExAt wx b f1 ∧ (∀ j, f1 j < 18446744073709551616) ∧ c ≤ 1 ∧ Keep (· = b) w1 wx ∧ Rel neg (wv 18446744073709551616 f 36) (wv 18446744073709551616 f1 36) (0 + lo * 18446744073709551616 ^ i) c (i + 1)))
        case first =>
          have c0 := HX1.out.1.cell (show i < 36 by omega)
          have f0 := HX1.out.1.free i
          have hst : ∀ w, (callFunc K #[.int .u64 (f i : Int), .int .u64 (lo : Int), .int .u64 (0 : Int)]).run Tryz.prog w = .ok (.value (.tuple #[.int .u64 ((stepS neg (f i) lo 0 : Nat) : Int), .int .u64 ((stepC neg (f i) lo 0 : Nat) : Int)])) w := HK.out.run (f i) lo 0 (by omega)
          have HR := Lib.hid (rel_step (rel_start neg (wv 18446744073709551616 f 36) i) (show i < 36 by omega) (HX1.out.2 i) HLH.out.2.1 (show 0 ≤ 1 by omega))
          have HC := Lib.hid (And.intro (stepS_lt neg (f i) lo 0) (stepC_le (neg := neg) (HX1.out.2 i) HLH.out.2.1 (show 0 ≤ 1 by omega)))
          generalize stepS neg (f i) lo 0 = s at *
          generalize stepC neg (f i) lo 0 = c1 at *
          go_region_with fail
          all_goals (go_wp2_with fail; go_meet)
          all_goals exact ⟨upd f i s, c1, rfl, Lib.hid ⟨HX1.out.1.set i s, upd_lt HX1.out.2 HC.out.1, HC.out.2, (Keep.setCell (bs := (· = b)) (Keep.refl _ w1) (p := ⟨b, i, none⟩) (Or.inl rfl) _).drew, HR.out⟩⟩
        case rest =>
          obtain ⟨f1, c1, rfl, H1⟩ := hcut
          obtain ⟨w2, hw2⟩ : ∃ w2, w2 = wc := ⟨_, rfl⟩
          subst hw2
          obtain ⟨i1, hi1⟩ : ∃ i1, i1 = i + 1 := ⟨_, rfl⟩
          have hi36 : i1 < 36 := by omega
          have ei1 : (i : Int) + 1 = (i1 : Int) := by omega
          have ew1 : IntKind.i64.wrap (i1 : Int) = (i1 : Int) := by rw [IntKind.wrap_i64]; omega
          have HH1 := H1.out
          rw [← hi1] at HH1
          have H1 := Lib.hid HH1
          clear HH1
          have HI1 := Lib.hid hi1
          clear hi1
          go_upto_region 13 with fail
          go_cut [11] from 55 to 72 (fun s11 wx => ∃ (f2 : Nat → Nat) (c : Nat), s11 = .int .u64 (c : Int) ∧ Hid (ExAt wx b f2 ∧ (∀ j, f2 j < 18446744073709551616) ∧ c ≤ 1 ∧ Keep (· = b) w1 wx ∧ Rel neg (wv 18446744073709551616 f 36) (wv 18446744073709551616 f2 36) (0 + lo * 18446744073709551616 ^ i + hi * 18446744073709551616 ^ i1) c (i1 + 1)))
          case first =>
            have c0 := H1.out.1.cell (show i1 < 36 from hi36)
            have f0 := H1.out.1.free i1
            have hst : ∀ w, (callFunc K #[.int .u64 (f1 i1 : Int), .int .u64 (hi : Int), .int .u64 (c1 : Int)]).run Tryz.prog w = .ok (.value (.tuple #[.int .u64 ((stepS neg (f1 i1) hi c1 : Nat) : Int), .int .u64 ((stepC neg (f1 i1) hi c1 : Nat) : Int)])) w := HK.out.run (f1 i1) hi c1 H1.out.2.2.1
            have HR := Lib.hid (rel_step H1.out.2.2.2.2 (show i1 < 36 from hi36) (H1.out.2.1 i1) HLH.out.2.2.1 H1.out.2.2.1)
            have HC := Lib.hid (And.intro (stepS_lt neg (f1 i1) hi c1) (stepC_le (neg := neg) (H1.out.2.1 i1) HLH.out.2.2.1 H1.out.2.2.1))
            generalize stepS neg (f1 i1) hi c1 = s at *
            generalize stepC neg (f1 i1) hi c1 = c2 at *
            generalize f1 i1 = x1 at *
            go_region_with fail
            all_goals (go_wp2_with fail; go_meet)
            all_goals exact ⟨upd f1 i1 s, c2, rfl, Lib.hid ⟨H1.out.1.set i1 s, upd_lt H1.out.2.1 HC.out.1, HC.out.2, H1.out.2.2.2.1.trans ((Keep.setCell (bs := (· = b)) (Keep.refl _ w2) (p := ⟨b, i1, none⟩) (Or.inl rfl) _).drew), HR.out⟩⟩
          case rest =>
            obtain ⟨f2, c2, rfl, H2⟩ := hcut
            obtain ⟨w3, hw3⟩ : ∃ w3, w3 = wc := ⟨_, rfl⟩
            subst hw3
            have hD : 0 + lo * 18446744073709551616 ^ i + hi * 18446744073709551616 ^ i1 = mn * 2 ^ sh := by
              have e1 := HLH.out.2.2.2
              have e2 : sh = by_ + 64 * i := by have := HS.out; omega
              have e4 : 2 ^ sh = 2 ^ by_ * 18446744073709551616 ^ i := by
                rw [e2, pow_word]
              rw [e4, HI1.out, Nat.pow_succ, ← Nat.mul_assoc mn, ← e1]
              generalize 18446744073709551616 ^ i = P
              rw [Nat.zero_add, Nat.add_mul, Nat.mul_assoc hi, Nat.mul_comm 18446744073709551616 P]
            have HH2 := H2.out
            rw [hD] at HH2
            have H3 := Lib.hid HH2
            clear hD HH2 H2
            go_wp2_with fail
            go_loopg [7, 11] (34 - i) (fun gq s7 s11 wx => ∃ (j c : Nat) (f3 : Nat → Nat), gq + j = 36 ∧ s7 = .int .i64 (j : Int) ∧ s11 = .int .u64 (c : Int) ∧ Hid (ExAt wx b f3 ∧ (∀ j, f3 j < 18446744073709551616) ∧ c ≤ 1 ∧ Keep (· = b) w1 wx ∧ Rel neg (wv 18446744073709551616 f 36) (wv 18446744073709551616 f3 36) (mn * 2 ^ sh) c j))
            case atStart =>
              refine ⟨i1 + 1, c2, f2, by have := HI1.out; omega, ?_, rfl, H3.out⟩
              have := HI1.out
              congr 1
              omega
            case round =>
              obtain ⟨j, c, f3, hgj, rfl, rfl, HJ⟩ := hrel
              have HEND : RowKit.Hid (c = 0 ∨ j = 36 → ∀ wf : World, wf.heap = wr.heap → Keep (fun _ => False) wr wf → ∃ (f' : Nat → Nat) (c : Nat), ExAt wf b f' ∧ (∀ j, f' j < 18446744073709551616) ∧ c ≤ 1 ∧ Keep (· = b) w wf ∧ Rel neg (wv 18446744073709551616 f 36) (wv 18446744073709551616 f' 36) (mn * 2 ^ sh) c 36) := Lib.hid fun hz wf hh kf => by
                refine ⟨f3, c, kf.same HJ.out.1 (fun h => h), HJ.out.2.1, HJ.out.2.2.1, ((HLH.out.1.mono (fun _ _ h => h.elim)).trans HJ.out.2.2.2.1).trans (kf.mono (fun _ _ h => h.elim)), ?_⟩
                rcases hz with rfl | rfl
                · exact rel_zero HJ.out.2.2.2.2
                · exact HJ.out.2.2.2.2
              have hc1 := HJ.out.2.2.1
              rcases (show c = 0 ∨ c = 1 by omega) with rfl | rfl
              · clear hc1
                by_cases hj : j < 36
                · go_wp2_with fail
                  go_end0
                  exact HQ.out _ _ ⟨rfl, HEND.out (by simp) _ rfl (Keep.refl _ _)⟩
                · obtain rfl : j = 36 := by omega
                  go_wp2_with fail
                  go_end0
                  exact HQ.out _ _ ⟨rfl, HEND.out (by simp) _ rfl (Keep.refl _ _)⟩
              · clear hc1
                by_cases hj : j < 36
                · have c0 := HJ.out.1.cell hj
                  have f0 := HJ.out.1.free j
                  have hst : ∀ w, (callFunc K #[.int .u64 (f3 j : Int), .int .u64 (0 : Int), .int .u64 (1 : Int)]).run Tryz.prog w = .ok (.value (.tuple #[.int .u64 ((stepS neg (f3 j) 0 1 : Nat) : Int), .int .u64 ((stepC neg (f3 j) 0 1 : Nat) : Int)])) w := HK.out.run (f3 j) 0 1 (by omega)
                  have hr := rel_step HJ.out.2.2.2.2 hj (HJ.out.2.1 j) (show 0 < 18446744073709551616 by omega) (show 1 ≤ 1 by omega)
                  rw [Nat.zero_mul, Nat.add_zero] at hr
                  have HR := Lib.hid hr
                  have HC := Lib.hid (And.intro (stepS_lt neg (f3 j) 0 1) (stepC_le (neg := neg) (y := 0) (c := 1) (HJ.out.2.1 j) (by omega) (by omega)))
                  clear hr
                  generalize stepS neg (f3 j) 0 1 = s at *
                  generalize stepC neg (f3 j) 0 1 = c3 at *
                  go_wp2_with fail
                  go_region_with fail
                  all_goals go_wp2_with fail
                  all_goals go_roundg (gk - 1)
                  all_goals first | omega | exact ⟨j + 1, c3, upd f3 j s, by omega, rfl, rfl, Lib.hid ⟨HJ.out.1.set j s, upd_lt HJ.out.2.1 HC.out.1, HC.out.2, HJ.out.2.2.2.1.trans ((Keep.setCell (bs := (· = b)) (Keep.refl _ wr) (p := ⟨b, j, none⟩) (Or.inl rfl) _).drew), HR.out⟩⟩
                · obtain rfl : j = 36 := by omega
                  go_wp2_with fail
                  go_end0
                  exact HQ.out _ _ ⟨rfl, HEND.out (by simp) _ rfl (Keep.refl _ _)⟩
end Go.Proofs.YtipkiiblghnoiaaGreatDoor.Sm
