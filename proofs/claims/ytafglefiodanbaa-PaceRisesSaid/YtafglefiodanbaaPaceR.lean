/- PaceRises: proved: for every input the law returns true. No condition. By an AI agent. -/
import Derived.Test.YtafglefiodanbaaPaceE
import Derived.Test.YtafglefiodanbaaLaw
import Derived.Deep.DeepCutAuto
import Derived.Deep.LoopGhost
import Derived.Lib.SmallJoins
import Derived.Deep.CutBlock
namespace Go.Proofs.Ytafglefiodanbaa.paceRises
open Go.ChangeShapes Go.WideShapes Go.ChangeAt Go.RowKit
open Flt (U fv ceilW mag rung)
set_option linter.unusedVariables false

/-! ### the plain law -/
theorem want_range {most : Int} {s : Nat} (h : Flt.Fin s) (h1 : 1 ≤ most) : 1 ≤ wantV most s ∧ wantV most s ≤ most := by
  obtain ⟨-, N, hN, -, -⟩ := Flt.ceil_fin h
  have hU := Flt.U_pos
  have le : ∀ a b : Int, a ≤ b → a * U ≤ b * U := fun a b hab => Int.mul_le_mul_of_nonneg_right hab (by omega)
  unfold wantV
  rw [hN]
  by_cases k1 : most * U ≤ N * U
  · rw [if_pos k1]; omega
  · rw [if_neg k1]
    by_cases k2 : (U : Int) ≤ N * U
    · rw [if_pos k2, Int.mul_ediv_cancel _ (by omega)]
      constructor
      · refine Int.not_lt.1 fun hx => ?_
        have := le N 0 (by omega)
        omega
      · refine Int.not_lt.1 fun hx => ?_
        have := le most N (by omega)
        omega
    · rw [if_neg k2]; omega

theorem tiny : 0 < fv 1 := by decide +kernel
theorem tiny_fin : Flt.Fin 1 := fin_lit (by omega)

/-- What waits, waits a time above 0 and at most the linger, or the least. -/
theorem wait_range {most bytes n m : Int} {linger s a : Nat} (hl : Flt.Fin linger) (h : planG most bytes linger s n m a = false) :
    ∃ T, planW most bytes linger s n m a = T ∧ Flt.Fin T ∧ 0 < fv T ∧ (fv T ≤ fv linger ∨ T = 1) := by
  have hg := h
  unfold planG at hg
  simp only [Bool.or_eq_false_iff] at hg
  obtain ⟨h1, h2, d, hd⟩ := sub_ok hl (Bool.or_eq_false_iff.2 hg.1.2)
  refine ⟨_, rfl, ?_⟩
  have e : planW most bytes linger s n m a = waitV d := by unfold planW; rw [h, hd]; rfl
  rw [e]
  obtain ⟨d', hd', nd⟩ := Flt.sub_near hl h2
  have : d = d' := Option.some.inj (hd.symm.trans hd')
  subst this
  have ha := age_not_nan a
  have mdl : (fv linger).natAbs = mag (rung linger) := Flt.sv_abs _ _
  have hR : rung d ≤ rung linger := by
    refine nd.le ?_
    rw [Nat.sub_self, Nat.pow_zero, Nat.mul_one]
    omega
  have hF : Flt.Fin d := by unfold Flt.Fin at *; omega
  have hm := Flt.mag_le hR
  have md : (fv d).natAbs = mag (rung d) := Flt.sv_abs _ _
  unfold waitV
  cases hx : (FloatKind.f64.format.order d 0 == some .gt)
  · refine ⟨fin_lit (by simp), ?_, Or.inr (by simp)⟩
    simpa using tiny
  · have := Flt.gt_yes hx
    rw [Flt.zero_fin.2] at this
    simp
    exact ⟨hF, this.2.2, Or.inl (by omega)⟩

theorem ge_trans {a b c : Nat} (h : (FloatKind.f64.format.order a b == some .gt || FloatKind.f64.format.order a b == some .eq) = true) (hc : Flt.nan c = false) (h2 : fv a ≤ fv c) :
    (FloatKind.f64.format.order c b == some .gt || FloatKind.f64.format.order c b == some .eq) = true := by
  have := Flt.ge_yes h
  rw [Flt.t_ge hc this.2.1]
  exact decide_eq_true (by omega)

/-- More records, more bytes, a greater age: what goes, goes. -/
theorem plan_rises {most bytes n m N M : Int} {linger s x y : Nat} (hN : 0 ≤ N) (hM : 0 ≤ M)
    (hy : (FloatKind.f64.format.order y x == some .gt || FloatKind.f64.format.order y x == some .eq) = true) (h : planG most bytes linger s n m x = true) : planG most bytes linger s (n + N) (m + M) y = true := by
  have hxy := Flt.ge_yes hy
  unfold planG at *
  simp only [Bool.or_eq_true, decide_eq_true_eq, Bool.and_eq_true] at h ⊢
  rcases h with ((h | h) | h) | h
  · exact Or.inl (Or.inl (Or.inl (by omega)))
  · exact Or.inl (Or.inl (Or.inr (by omega)))
  · refine Or.inl (Or.inr ?_)
    rw [← Bool.or_eq_true] at h ⊢
    refine ge_trans h (age_not_nan y).1 ?_
    have ha := (age_not_nan y).2
    unfold ageV at ha ⊢
    rw [Flt.t_gt hxy.2.1 Flt.zero_fin.1.not_nan, Flt.t_gt hxy.1 Flt.zero_fin.1.not_nan, Flt.zero_fin.2] at *
    by_cases h0 : 0 < fv x
    · have h1 : 0 < fv y := by omega
      simp [h0, h1]; omega
    · simp only [h0, decide_false]
      simp only [Bool.false_eq_true, if_false, Flt.zero_fin.2]
      exact ha
  · exact Or.inr ⟨by omega, by omega⟩
theorem plan_rises_nan {most bytes n m N M : Int} {linger s x : Nat} (hN : 0 ≤ N) (hM : 0 ≤ M) (hx : Flt.nan x = true) (h : planG most bytes linger s n m x = true) : planG most bytes linger s (n + N) (m + M) 0 = true := by
  have ha : ageV x = ageV 0 := by
    unfold ageV
    rw [Flt.order_nan (Or.inl hx)]
    simp
  unfold planG at *
  rw [ha] at h
  simp only [Bool.or_eq_true, decide_eq_true_eq, Bool.and_eq_true] at h ⊢
  rcases h with ((h | h) | h) | h
  · exact Or.inl (Or.inl (Or.inl (by omega)))
  · exact Or.inl (Or.inl (Or.inr (by omega)))
  · exact Or.inl (Or.inr h)
  · exact Or.inr ⟨by omega, by omega⟩


theorem max_any {l : Nat} (hl : Flt.Fin l) : ∃ M, (∀ (ts : Array TypeId) (t : TypeId) (w : World), (Builtin.max_ ts t #[.float .f64 l, .float .f64 1]).run Try.prog w = .ok (.float .f64 M) w) ∧ Flt.Fin M ∧ fv l ≤ fv M ∧ fv 1 ≤ fv M := by
  have ho : FloatKind.f64.format.order l 1 = some (compare (fv l) (fv 1)) := by
    show Ieee.double.order l 1 = _
    rw [Flt.order_eq, hl.not_nan, tiny_fin.not_nan]
    rfl
  rw [Flt.compare_int] at ho
  by_cases h1 : fv l < fv 1
  · rw [if_pos h1] at ho
    exact ⟨1, fun ts t w => by simp [Builtin.max_, Builtin.max2, ho], tiny_fin, by omega, by omega⟩
  · rw [if_neg h1] at ho
    by_cases h2 : fv l = fv 1
    · rw [if_pos h2] at ho
      refine ⟨if (FloatKind.f64.decode l).neg then 1 else l, fun ts t w => by simp [Builtin.max_, Builtin.max2, ho], ?_⟩
      split
      · exact ⟨tiny_fin, by omega, by omega⟩
      · exact ⟨hl, by omega, by omega⟩
    · rw [if_neg h2] at ho
      exact ⟨l, fun ts t w => by simp [Builtin.max_, Builtin.max2, ho], hl, by omega, by omega⟩

theorem fld (x y : Value) (w : World) : (Instr.field 39 (.agg #[x, y]) 0).run Try.prog w = .ok x w := by kernel_rfl

/-- The seen numbers as they lie. -/
def SeenAt (w : World) (B off len : Nat) (sn : Nat → Int) : Prop := ∀ i, i < len → w.cell? ⟨B, off + i, none⟩ = some (.int .i64 (sn i))

def Inv (most bytes : Int) (linger al : Nat) (b : Nat) (W : World) (k : Nat) (wr : World) : Prop :=
  ∃ S, Flt.Fin S ∧ mag (rung S) ≤ 2 ^ (8 + 2 * k) * U ∧ wr.heap[b]? = some (.cells (pcells most bytes (rung linger) al S) 53 (0, 0)) ∧ Keep (fun _ => False) W wr

theorem one_bound : mag (rung 4607182418800017408) ≤ 2 ^ (8 + 2 * 0) * U := by
  have h1 : (fv 4607182418800017408).natAbs = mag (rung 4607182418800017408) := Flt.sv_abs _ _
  rw [Flt.one_fin.2.1, Int.natAbs_natCast] at h1
  rw [← h1]
  exact Nat.le_mul_of_pos_left U (Nat.two_pow_pos _)

theorem walk_bad (most bytes : Int) (linger al : Nat) (sl : Value) (o0 o1 o2 o3 n m age : Int) (w : World) (h : ¬ OkP most bytes linger al) :
    Calls Try.prog 4 #[.int .i64 most, .int .i64 bytes, .int .u64 linger, .int .u64 al, sl, .agg #[.int .i64 o0, .int .i64 o1, .int .i64 o2, .int .u64 o3], .int .i64 n, .int .i64 m, .int .u64 age] w fun e w' => e = .returned (.bool true) ∧ Keep (fun _ => False) w w' := by
  have H := Lib.hid h
  clear h
  go_enter Try.func4, Try.ntmps4
  go_wp2_with fail
  refine (begun_any _).mono ?_
  rintro e w1 ⟨rfl, hk1⟩
  have HK1 := Lib.hid (((Keep.refl (fun _ => False) w).alloc _).trans hk1)
  clear hk1
  go_wp2_with fail
  refine of_any.mono ?_
  rintro e w2 ⟨rfl, hk2⟩
  have HK2 := Lib.hid (HK1.out.trans hk2)
  clear hk2 HK1
  go_wp2_with fail
  refine (new_bad H.out _).mono ?_
  rintro e w3 ⟨rfl, hk3⟩
  have HK3 := Lib.hid ((HK2.out.alloc _).trans hk3)
  clear hk3 HK2
  go_wp2_with fail
  go_ret
  exact ⟨rfl, HK3.out⟩

/-- The ways through the tests. -/
theorem cases15 (n m o1 o2 : Int) (x y : Nat) : False ∨ n < 0 ∨ (0 ≤ n ∧ m < 0) ∨ (0 ≤ n ∧ 0 ≤ m ∧ 1099511627776 < n) ∨ (0 ≤ n ∧ 0 ≤ m ∧ n ≤ 1099511627776 ∧ 1099511627776 < m) ∨
    (0 ≤ n ∧ 0 ≤ m ∧ n ≤ 1099511627776 ∧ m ≤ 1099511627776 ∧ 1099511627776 < o1) ∨ (0 ≤ n ∧ 0 ≤ m ∧ n ≤ 1099511627776 ∧ m ≤ 1099511627776 ∧ o1 ≤ 1099511627776 ∧ 1099511627776 < o2) ∨
    (0 ≤ n ∧ 0 ≤ m ∧ n ≤ 1099511627776 ∧ m ≤ 1099511627776 ∧ o1 ≤ 1099511627776 ∧ o2 ≤ 1099511627776 ∧ (FloatKind.f64.format.order y x == some .gt || FloatKind.f64.format.order y x == some .eq) = false ∧ (FloatKind.f64.format.order x x == some .eq) = true) ∨
    (0 ≤ n ∧ 0 ≤ m ∧ n ≤ 1099511627776 ∧ m ≤ 1099511627776 ∧ o1 ≤ 1099511627776 ∧ o2 ≤ 1099511627776 ∧ (FloatKind.f64.format.order y x == some .gt || FloatKind.f64.format.order y x == some .eq) = true) ∨
    (0 ≤ n ∧ 0 ≤ m ∧ n ≤ 1099511627776 ∧ m ≤ 1099511627776 ∧ o1 ≤ 1099511627776 ∧ o2 ≤ 1099511627776 ∧ (FloatKind.f64.format.order y x == some .gt || FloatKind.f64.format.order y x == some .eq) = false ∧ (FloatKind.f64.format.order x x == some .eq) = false) := by
  cases h1 : (FloatKind.f64.format.order y x == some .gt || FloatKind.f64.format.order y x == some .eq) <;> cases h2 : (FloatKind.f64.format.order x x == some .eq) <;> simp <;> omega

set_option maxRecDepth 100000 in
set_option maxHeartbeats 4000000 in
theorem walk_loop (most bytes : Int) (linger al : Nat) (sl : Value) (B off len : Nat) (sn : Nat → Int) (o0 o1 o2 o3 n m age : Int) (w : World) (h : OkP most bytes linger al) (h64 : linger < 2 ^ 64) (ho1 : -9223372036854775808 ≤ o1) (ho2 : -9223372036854775808 ≤ o2) (hlen : len ≤ 9223372036854775807) (hsl : ∀ w, (Builtin.len_ #[46] 3 #[sl]).run Try.prog w = .ok (.int .i64 len) w) (hsi : ∀ (k : Nat) w, k < len → (Instr.indexAt 46 sl (.int .i64 k)).run Try.prog w = .ok (.pointer (some ⟨B, off + k, none⟩)) w) (hops : SeenAt w B off len sn) :
    Calls Try.prog 4 #[.int .i64 most, .int .i64 bytes, .int .u64 linger, .int .u64 al, sl, .agg #[.int .i64 o0, .int .i64 o1, .int .i64 o2, .int .u64 o3], .int .i64 n, .int .i64 m, .int .u64 age] w fun e w' => e = .returned (.bool true) ∧ Keep (fun _ => False) w w' := by
  have H := Lib.hid h
  have HO := Lib.hid hops
  have HSI := Lib.hid hsi
  clear h hops hsi
  go_enter Try.func4, Try.ntmps4
  go_wp2_with fail
  refine (begun_any _).mono ?_
  rintro e w1 ⟨rfl, hk1⟩
  have HK1 := Lib.hid (((Keep.refl (fun _ => False) w).alloc _).trans hk1)
  have HP1 := Lib.hid (keep_keep hk1 (blk_new w (.cells #[.int .i64 o0, .int .i64 o1, .int .i64 o2, .int .u64 o3] 42)))
  clear hk1
  go_wp2_with fail
  refine of_any.mono ?_
  rintro e w2 ⟨rfl, hk2⟩
  have HK2 := Lib.hid (HK1.out.trans hk2)
  have HP2 := Lib.hid (keep_keep hk2 HP1.out)
  clear hk2 HK1 HP1
  go_wp2_with fail
  refine (new_ok H.out _).mono ?_
  rintro e w3 ⟨b, rfl, hb1, hb2, hk3⟩
  simp at hb1
  have hzb : w.heap.size + 1 ≤ b := by have := lt_of_block HP2.out; omega
  have HK3 := Lib.hid ((HK2.out.alloc _).trans hk3)
  have HP3 := Lib.hid (keep_keep hk3 (blk_alloc HP2.out _))
  have HQ3 := Lib.hid (keep_keep hk3 (blk_new w2 (.cells #[.int .i64 most, .int .i64 bytes, .float .f64 linger, .float .f64 al] 27)))
  have hzq : w2.heap.size < b := by omega
  have HI : Hid (Inv most bytes linger al b w 0 w3) := ⟨_, Flt.one_fin.1, one_bound, hb2, HK3.out⟩
  clear hk3 HK2 hb2 hb1 HP2 HK3
  go_upto_block 0 with (fail)
  go_cut [22] (fun s22 wx => ∃ k : Nat, k ≤ 50 ∧ Inv most bytes linger al b w k wx ∧ Keep (· = b) w3 wx)
  case first =>
    go_wp2_with fail
    go_loopg [22] (min len 50) (fun g i wr => ∃ k : Nat, k + g = min len 50 ∧ i = .int .i64 k ∧ Hid (Inv most bytes linger al b w k wr) ∧ Hid (Keep (· = b) w3 wr))
    case atStart => exact ⟨0, by omega, rfl, HI.out, Keep.refl _ _⟩
    case round =>
      obtain ⟨k, hk, rfl, HI, HW⟩ := hrel
      by_cases k1 : k < len
      · by_cases k2 : k < 50
        · obtain ⟨S, s1, s2, s3, s5⟩ := HI.out
          have o1 := HO.out k k1
          have hsi := fun w => HSI.out k w k1
          have hBw : B < w.heap.size := by
            refine Nat.lt_of_not_le fun hx => ?_
            simp [World.cell?, Array.getElem?_eq_none hx] at o1
          rw [← s5.cell (p := ⟨B, off + k, none⟩) hBw id] at o1
          obtain ⟨S', q1, q2, q3, q4⟩ := seen_both H.out s1 s2 (by omega) (by omega) (sn k)
          have Q1 := Lib.hid q1
          have Q2 := Lib.hid q2
          have Q3 := Lib.hid q3
          have S3 := Lib.hid s3
          have S5 := Lib.hid s5
          clear q1 q2 q3 q4 s1 s2 s3 s5
          go_wp2_with fail
          refine (Q3.out _ _ b _ S3.out).mono ?_
          rintro e w5 ⟨rfl, hk5, hb5⟩
          have HK5 := Lib.hid (S5.out.own hk5 (fun i hi => Or.inr (by omega)))
          have HW5 := Lib.hid (HW.out.trans hk5)
          have HB5 := Lib.hid hb5
          clear hk5 hb5 S3 S5 o1
          go_wp2_with fail
          go_roundg (gk - 1)
          case measure => omega
          case rel => exact ⟨k + 1, by omega, by go_num, ⟨S', Q1.out, by have := Q2.out; rwa [show 8 + 2 * k + 2 = 8 + 2 * (k + 1) by omega] at this, HB5.out, HK5.out⟩, HW5.out⟩
        · go_wp2_with fail
          go_meet
          exact ⟨k, by omega, HI.out, HW.out⟩
      · go_wp2_with fail
        go_meet
        exact ⟨k, by omega, HI.out, HW.out⟩
  case rest =>
    obtain ⟨k, hk, ⟨S, s1, -, s3, s5⟩, hkw⟩ := hcut
    obtain ⟨w4, hw4⟩ : ∃ w4 : World, w4 = wc := ⟨_, rfl⟩
    subst hw4
    have hp4 := hkw.same HP3.out (by omega)
    have hq4 := hkw.same HQ3.out (by omega)
    have p0 := blk_cell hp4 0
    have p1 := blk_cell hp4 1
    have p2 := blk_cell hp4 2
    have p3 := blk_cell hp4 3
    simp at p0 p1 p2 p3
    have HP4 := Lib.hid hp4
    have HQ4 := Lib.hid hq4
    have HB4 := Lib.hid s3
    have HK4 := Lib.hid s5
    have HS := Lib.hid s1
    clear hp4 hq4 s3 s5 s1 hkw HP3 HQ3 HI
    have ef := ext_from
    have okl := okp_linger H.out
    have rf := rung_fin okl.1 okl.2.1
    have RF := Lib.hid rf.1
    clear okl rf
    have hw := want_range HS.out H.out.m1
    obtain ⟨hw1, hw2⟩ := hw
    have q00 : (FloatKind.f64.format.order 0 0 != some .eq) = false := by decide +kernel
    have E := cases15 n m o1 o2 o3.toNat age.toNat
    cases hG : planG most bytes (rung linger) S o1 o2 o3.toNat
    · obtain ⟨T, hT, T1, T2, T3⟩ := wait_range RF.out hG
      have P := plan_any (n := o1) (m := o2) (a := o3.toNat) HB4.out HS.out RF.out H.out.m1 H.out.m2
      rw [hG, hT] at P
      have P' := Lib.hid P
      obtain ⟨M, m1, m2, m3, m4⟩ := max_any (okp_linger H.out).1
      have hrl := rung_fin (okp_linger H.out).1 (okp_linger H.out).2.1
      have t1 : (FloatKind.f64.format.order T 0 == some .gt) = true := by
        rw [Flt.t_gt T1.not_nan Flt.zero_fin.1.not_nan, Flt.zero_fin.2]
        exact decide_eq_true T2
      have t2 : (FloatKind.f64.format.order T M == some .lt || FloatKind.f64.format.order T M == some .eq) = true := by
        rw [Flt.t_le T1.not_nan m2.not_nan]
        refine decide_eq_true ?_
        rcases T3 with T3 | T3
        · rw [hrl.2] at T3; omega
        · subst T3; exact m4
      clear m2 m3 m4 hrl T1 T2 T3 hT hG P
      go_wp2_with fail
      refine P'.out.mono ?_
      rintro e w5 ⟨rfl, hk5⟩
      have hz5 := Nat.lt_of_lt_of_le (lt_of_block HP4.out) hk5.size
      have hp5 := keep_keep hk5 HP4.out
      have hq5 := keep_keep hk5 HQ4.out
      have hb5 := keep_keep hk5 HB4.out
      have p1 := blk_cell hp5 1
      have p2 := blk_cell hp5 2
      have l2 := blk_cell hq5 2
      have z1 := lt_of_block hp5
      have z2 := lt_of_block hq5
      have z3 := lt_of_block hb5
      have b0 := blk_cell hb5 0
      have b1 := blk_cell hb5 1
      have b5 := blk_cell hb5 5
      simp at p1 p2 l2 b0 b1 b5
      have HK5 := Lib.hid (HK4.out.trans hk5)
      clear hk5 hp5 hq5 hb5 HP4 HQ4 HB4 HK4 p0 p3
      rcases E with E | E | ⟨E1, E⟩ | ⟨E1, E2, E⟩ | ⟨E1, E2, E3, E⟩ | ⟨E1, E2, E3, E4, E⟩ | ⟨E1, E2, E3, E4, E5, E⟩ | ⟨E1, E2, E3, E4, E5, E6, E7, E8⟩ | ⟨E1, E2, E3, E4, E5, E6, E7⟩ | ⟨E1, E2, E3, E4, E5, E6, E7, E8⟩
      · cases E
      all_goals
        go_wp2_with (first
          | (go_at_call 11; refine (want_ok (past z3 b0 _) (past z3 b1 _) (past z3 b5 _) HS.out H.out.m1 H.out.m2).mono ?_; rintro e w' ⟨rfl, rfl⟩)
          | (go_at_call 18; refine (isnan_any _ _).mono ?_; rintro e w' ⟨rfl, rfl⟩))
      all_goals (go_ret; exact ⟨rfl, HK5.out.alloc _⟩)
    · have P := plan_any (n := o1) (m := o2) (a := o3.toNat) HB4.out HS.out RF.out H.out.m1 H.out.m2
      have hT : planW most bytes (rung linger) S o1 o2 o3.toNat = 0 := by unfold planW; rw [hG]; rfl
      rw [hG, hT] at P
      have P' := Lib.hid P
      have HG := Lib.hid hG
      have fl := fld
      clear P hG hT
      go_wp2_with fail
      refine P'.out.mono ?_
      rintro e w5 ⟨rfl, hk5⟩
      have hz5 := Nat.lt_of_lt_of_le (lt_of_block HP4.out) hk5.size
      have hp5 := keep_keep hk5 HP4.out
      have hb5 := keep_keep hk5 HB4.out
      have p1 := blk_cell hp5 1
      have p2 := blk_cell hp5 2
      have z1 := lt_of_block hp5
      have z3 := lt_of_block hb5
      have b0 := blk_cell hb5 0
      have b1 := blk_cell hb5 1
      have b5 := blk_cell hb5 5
      simp at p1 p2 b0 b1 b5
      have HB5 := Lib.hid hb5
      have HK5 := Lib.hid (HK4.out.trans hk5)
      clear hk5 hp5 hb5 HP4 HQ4 HB4 HK4 p0 p3
      rcases E with E | E | ⟨E1, E⟩ | ⟨E1, E2, E⟩ | ⟨E1, E2, E3, E⟩ | ⟨E1, E2, E3, E4, E⟩ | ⟨E1, E2, E3, E4, E5, E⟩ | ⟨E1, E2, E3, E4, E5, E6, E7, E8⟩ | ⟨E1, E2, E3, E4, E5, E6, E7⟩ | ⟨E1, E2, E3, E4, E5, E6, E7, E8⟩
      · cases E
      all_goals
        go_wp2_with (first
          | (go_at_call 11; refine (want_ok (past z3 b0 _) (past z3 b1 _) (past z3 b5 _) HS.out H.out.m1 H.out.m2).mono ?_; rintro e w' ⟨rfl, rfl⟩))
      iterate 7 (go_ret; exact ⟨rfl, HK5.out.alloc _⟩)
      · have hxy := Flt.ge_yes E7
        refine (isnan_any _ _).mono ?_
        rw [hxy.2.1]
        rintro e w' ⟨rfl, rfl⟩
        have R := Lib.hid (plan_rises E1 E2 E7 HG.out)
        clear hxy E7
        go_wp2_with fail
        refine (plan_any (blk_alloc HB5.out _) HS.out RF.out H.out.m1 H.out.m2).mono ?_
        rw [R.out]
        rintro e w6 ⟨rfl, hk6⟩
        have HK6 := Lib.hid ((HK5.out.alloc _).trans hk6)
        clear hk6
        go_wp2_with fail
        go_ret
        exact ⟨rfl, HK6.out⟩
      · have hx : Flt.nan o3.toNat = true := by
          cases hx : Flt.nan o3.toNat
          · rw [Flt.t_eq hx hx] at E8; simp at E8
          · rfl
        refine (isnan_any _ _).mono ?_
        rw [hx]
        rintro e w' ⟨rfl, rfl⟩
        have R := Lib.hid (plan_rises_nan E1 E2 hx HG.out)
        clear hx E7 E8
        go_wp2_with fail
        refine (plan_any (blk_alloc HB5.out _) HS.out RF.out H.out.m1 H.out.m2).mono ?_
        rw [R.out]
        rintro e w6 ⟨rfl, hk6⟩
        have HK6 := Lib.hid ((HK5.out.alloc _).trans hk6)
        clear hk6
        go_wp2_with fail
        go_ret
        exact ⟨rfl, HK6.out⟩

theorem slice_len (a : Option Addr) (len cap : Nat) (w : World) : (Builtin.len_ #[46] 3 #[.slice a len cap]).run Try.prog w = .ok (.int .i64 len) w := by
  simp [go_sem]
theorem slice_at (B off len cap k : Nat) (w : World) (h : k < len) : (Instr.indexAt 46 (.slice (some ⟨B, off, none⟩) len cap) (.int .i64 k)).run Try.prog w = .ok (.pointer (some ⟨B, off + k, none⟩)) w := by
  go_simp

theorem own : ownKnob Try.prog.godebug = none := by kernel_rfl
section
variable {H : Type} {enc : TypeId × Value → H}
theorem open_seen {W : World} {v : Value} {d : DataW H} {p : List MemPlace} {base : Nat} (hv : Value.okWide Try.prog W .any base 46 v) (h : DataW.Trod enc Try.prog W 0 (fun _ => true) true 46 v d p) :
    ∃ B off len sn, len ≤ 9223372036854775807 ∧ (∀ w, (Builtin.len_ #[46] 3 #[v]).run Try.prog w = .ok (.int .i64 (len : Nat)) w) ∧ (∀ (k : Nat) w, k < len → (Instr.indexAt 46 v (.int .i64 k)).run Try.prog w = .ok (.pointer (some ⟨B, off + k, none⟩)) w) ∧ SeenAt W B off len sn := by
  rcases open_ones Try.underlying46 (by kernel_rfl) hv h with ⟨a, cap, rfl⟩ | ⟨B, off, len, cap, rfl, h0, h1, h2, hf⟩
  · exact ⟨0, 0, 0, fun _ => 0, by omega, fun w => slice_len a 0 cap w, fun k w hk => by omega, fun i hi => by omega⟩
  · refine ⟨B, off, len, fun i => intOf ((W.cell? ⟨B, off + i, none⟩).getD undef), by unfold maxLen at h2; omega, fun w => slice_len _ _ _ w, fun k w hk => slice_at B off len cap k w hk, fun i hi => ?_⟩
    obtain ⟨x0, y0, n0, c0, t0⟩ := hf i hi
    obtain ⟨u0, e0, -, -⟩ := DataW.trod_int Try.underlying3 t0
    simp only [List.cons.injEq, and_true] at e0
    subst e0
    simp only [c0]; rfl
end

set_option maxRecDepth 100000 in
theorem lifted (os : Os) (started : os.Started) (H : Type) (enc : TypeId × Value → H) :
    ReturnsInHanded {} Try.checked os 4 .any (Rows.paceRisesSpec.pre6 enc Try.prog Try.f4 Rows.paceRisesRow.domain false) (Rows.paceRisesSpec.post enc Try.prog Try.f4 false true false false) := by
  refine returnsInHanded_of_change (C := Try.checked) own started (by kernel_rfl) Try.func4
    (ChangeSpec.witness6 (enc := enc) (C := Try.checked) false ⟨#[], #[.int .i64 0, .int .i64 0, .int .u64 0, .int .u64 0, .slice none 0 0, .agg #[.int .i64 0, .int .i64 0, .int .i64 0, .int .u64 0], .int .i64 0, .int .i64 0, .int .u64 0], []⟩ 8 (by kernel_rfl) (by kernel_rfl) (by kernel_rfl) (by kernel_rfl)) ?_
  intro W base args ds gs before hval0 hW hcnd _
  have hval : ∀ (j : Nat) t v, Try.f4.params[j]? = some t → args[j]? = some v → Value.okWide Try.prog W .any base t v := hval0
  have hW' := hW
  obtain ⟨p, q, hA0, hV, rfl, hfz, hnd⟩ := hW
  have hA : DataW.TrodAll enc Try.prog W 0 (fun _ => true) true Try.f4.params.toList args.toList ds p := hA0
  rw [Try.params4] at hA hval
  obtain ⟨v0, vs0, d0, ds0, p0, q0, hargs, rfl, rfl, h0, r0⟩ := trodAll_cons hA
  obtain ⟨v1, vs1, d1, ds1, p1, q1, rfl, rfl, rfl, h1, r1⟩ := trodAll_cons r0
  obtain ⟨v2, vs2, d2, ds2, p2, q2, rfl, rfl, rfl, h2, r2⟩ := trodAll_cons r1
  obtain ⟨v3, vs3, d3, ds3, p3, q3, rfl, rfl, rfl, h3, r3⟩ := trodAll_cons r2
  obtain ⟨v4, vs4, d4, ds4, p4, q4, rfl, rfl, rfl, h4, r4⟩ := trodAll_cons r3
  obtain ⟨v5, vs5, d5, ds5, p5, q5, rfl, rfl, rfl, h5, r5⟩ := trodAll_cons r4
  obtain ⟨v6, vs6, d6, ds6, p6, q6, rfl, rfl, rfl, h6, r6⟩ := trodAll_cons r5
  obtain ⟨v7, vs7, d7, ds7, p7, q7, rfl, rfl, rfl, h7, r7⟩ := trodAll_cons r6
  obtain ⟨v8, vs8, d8, ds8, p8, q8, rfl, rfl, rfl, h8, r8⟩ := trodAll_cons r7
  obtain ⟨rfl, rfl, rfl⟩ := trodAll_nil r8
  obtain rfl : args = #[v0, v1, v2, v3, v4, v5, v6, v7, v8] := by cases args; simp_all
  obtain ⟨a0, rfl, rfl, rfl, w0⟩ := open_int Try.underlying3 (hval 0 3 v0 rfl rfl) h0
  obtain ⟨a1, rfl, rfl, rfl, w1⟩ := open_int Try.underlying3 (hval 1 3 v1 rfl rfl) h1
  obtain ⟨a2, rfl, rfl, rfl, w2⟩ := open_int Try.underlying22 (hval 2 22 v2 rfl rfl) h2
  obtain ⟨a3, rfl, rfl, rfl, w3⟩ := open_int Try.underlying22 (hval 3 22 v3 rfl rfl) h3
  obtain ⟨a6, rfl, rfl, rfl, w6⟩ := open_int Try.underlying3 (hval 6 3 v6 rfl rfl) h6
  obtain ⟨a7, rfl, rfl, rfl, w7⟩ := open_int Try.underlying3 (hval 7 3 v7 rfl rfl) h7
  obtain ⟨a8, rfl, rfl, rfl, w8⟩ := open_int Try.underlying22 (hval 8 22 v8 rfl rfl) h8
  have cells42 : Try.prog.cellsOf 42 = 4 := by kernel_rfl
  obtain ⟨x0, x1, x2, x3, y0, y1, y2, y3, mm, rfl, rfl, rfl, hy0, hy1, hy2, hy3⟩ := Joins.open_agg4 Try.underlying42 (by kernel_rfl) cells42 (hval 5 42 v5 rfl rfl) h5
  obtain ⟨b0, e0, -, bw0⟩ := DataW.trod_int Try.underlying3 hy0
  obtain ⟨b1, e1, -, bw1⟩ := DataW.trod_int Try.underlying3 hy1
  obtain ⟨b2, e2, -, bw2⟩ := DataW.trod_int Try.underlying3 hy2
  obtain ⟨b3, e3, -, bw3⟩ := DataW.trod_int Try.underlying22 hy3
  simp only [List.cons.injEq, and_true] at e0 e1 e2 e3
  subst e0 e1 e2 e3
  have g2 : 0 ≤ a2 ∧ a2 ≤ 18446744073709551615 := by simpa [Lit.wf, IntKind.min, IntKind.max, IntKind.signed, IntKind.bits] using w2
  have g3 : 0 ≤ a3 ∧ a3 ≤ 18446744073709551615 := by simpa [Lit.wf, IntKind.min, IntKind.max, IntKind.signed, IntKind.bits] using w3
  have gb1 : -9223372036854775808 ≤ b1 ∧ b1 ≤ 9223372036854775807 := by simpa [Lit.wf, IntKind.min, IntKind.max, IntKind.signed, IntKind.bits] using bw1
  have gb2 : -9223372036854775808 ≤ b2 ∧ b2 ≤ 9223372036854775807 := by simpa [Lit.wf, IntKind.min, IntKind.max, IntKind.signed, IntKind.bits] using bw2
  obtain ⟨L, rfl⟩ := Int.eq_ofNat_of_zero_le g2.1
  obtain ⟨A, rfl⟩ := Int.eq_ofNat_of_zero_le g3.1
  have fin : Calls Try.prog 4 #[.int .i64 a0, .int .i64 a1, .int .u64 L, .int .u64 A, v4, .agg #[.int .i64 b0, .int .i64 b1, .int .i64 b2, .int .u64 b3], .int .i64 a6, .int .i64 a7, .int .u64 a8] W fun e w' => e = .returned (.bool true) ∧ Keep (fun _ => False) W w' := by
    by_cases hok : OkP a0 a1 L A
    · obtain ⟨B, off, len, sn, k1, k2, k3, k4⟩ := open_seen (hval 4 46 v4 rfl rfl) h4
      exact walk_loop a0 a1 L A v4 B off len sn b0 b1 b2 b3 a6 a7 a8 W hok (by omega) gb1.1 gb2.1 k1 k2 k3 k4
    · exact walk_bad a0 a1 L A v4 b0 b1 b2 b3 a6 a7 a8 W hok
  refine fin.mono fun e W' ⟨he, hk⟩ => ?_
  subst he
  exact ⟨_, rfl, law_post (by kernel_rfl) (T := 4) (hts_of (by kernel_rfl)) hW' rfl rfl rfl Try.underlying4 hk.none⟩

theorem over : Rows.paceRisesRow.holds Try.pinned (OpenSpec.ofChange Rows.paceRisesSpec) :=
  OpenClaim.holds_of_wide 4 Try.f4 rfl rfl rfl rfl rfl rfl rfl ⟨rfl, rfl, rfl, rfl, rfl⟩ rfl rfl rfl rfl rfl (by kernel_rfl) Try.func4 (by kernel_rfl)
    (of_decide_eq_true (by kernel_rfl)) (by unfold Func.isWrapper; first | (rw [if_pos (by decide +kernel)]; kernel_rfl) | (rw [if_neg (by decide +kernel)]; exact ⟨rfl, rfl⟩))
    (fun os started H enc _ => lifted os started H enc)

theorem proved : Rows.PaceRisesSaid :=
  over
end Go.Proofs.Ytafglefiodanbaa.paceRises
