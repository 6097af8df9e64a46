/- Contracts of pace.New, the reference's, Want and Plan, over this program. By an AI agent. -/
import Derived.Test.YtafglefiodanbaaPaceA
namespace Go.Proofs.Ytafglefiodanbaa
open Go.ChangeShapes Go.WideShapes Go.ChangeAt Go.RowKit
set_option linter.unusedVariables false

/-- P18.1's params, in the walk's own tests. -/
structure OkP (most bytes : Int) (linger al : Nat) : Prop where
  m1 : 1 ≤ most
  m2 : most ≤ 256
  b1 : 1 ≤ bytes
  b2 : bytes ≤ 1048576
  l1 : (FloatKind.f64.format.order linger 0 == some .gt || FloatKind.f64.format.order linger 0 == some .eq) = true
  l2 : (FloatKind.f64.format.order linger 4697254411347427328 == some .lt || FloatKind.f64.format.order linger 4697254411347427328 == some .eq) = true
  a1 : (FloatKind.f64.format.order al 0 == some .gt) = true
  a2 : (FloatKind.f64.format.order al 4607182418800017408 == some .lt || FloatKind.f64.format.order al 4607182418800017408 == some .eq) = true

/-- The ways in which params are none. -/
theorem not_ok {most bytes : Int} {linger al : Nat} (h : ¬ OkP most bytes linger al) {C : Prop}
    (k1 : most < 1 → C) (k2 : 1 ≤ most → 256 < most → C) (k3 : 1 ≤ most → most ≤ 256 → bytes < 1 → C) (k4 : 1 ≤ most → most ≤ 256 → 1 ≤ bytes → 1048576 < bytes → C)
    (k5 : 1 ≤ most → most ≤ 256 → 1 ≤ bytes → bytes ≤ 1048576 → (FloatKind.f64.format.order linger 0 == some .gt || FloatKind.f64.format.order linger 0 == some .eq) = false → C)
    (k6 : 1 ≤ most → most ≤ 256 → 1 ≤ bytes → bytes ≤ 1048576 → (FloatKind.f64.format.order linger 0 == some .gt || FloatKind.f64.format.order linger 0 == some .eq) = true → (FloatKind.f64.format.order linger 4697254411347427328 == some .lt || FloatKind.f64.format.order linger 4697254411347427328 == some .eq) = false → C)
    (k7 : 1 ≤ most → most ≤ 256 → 1 ≤ bytes → bytes ≤ 1048576 → (FloatKind.f64.format.order linger 0 == some .gt || FloatKind.f64.format.order linger 0 == some .eq) = true → (FloatKind.f64.format.order linger 4697254411347427328 == some .lt || FloatKind.f64.format.order linger 4697254411347427328 == some .eq) = true → (FloatKind.f64.format.order al 0 == some .gt) = false → C)
    (k8 : 1 ≤ most → most ≤ 256 → 1 ≤ bytes → bytes ≤ 1048576 → (FloatKind.f64.format.order linger 0 == some .gt || FloatKind.f64.format.order linger 0 == some .eq) = true → (FloatKind.f64.format.order linger 4697254411347427328 == some .lt || FloatKind.f64.format.order linger 4697254411347427328 == some .eq) = true → (FloatKind.f64.format.order al 0 == some .gt) = true → (FloatKind.f64.format.order al 4607182418800017408 == some .lt || FloatKind.f64.format.order al 4607182418800017408 == some .eq) = false → C) : C := by
  by_cases m1 : 1 ≤ most
  · by_cases m2 : most ≤ 256
    · by_cases b1 : 1 ≤ bytes
      · by_cases b2 : bytes ≤ 1048576
        · cases l1 : (FloatKind.f64.format.order linger 0 == some .gt || FloatKind.f64.format.order linger 0 == some .eq)
          · exact k5 m1 m2 b1 b2 l1
          · cases l2 : (FloatKind.f64.format.order linger 4697254411347427328 == some .lt || FloatKind.f64.format.order linger 4697254411347427328 == some .eq)
            · exact k6 m1 m2 b1 b2 l1 l2
            · cases a1 : (FloatKind.f64.format.order al 0 == some .gt)
              · exact k7 m1 m2 b1 b2 l1 l2 a1
              · cases a2 : (FloatKind.f64.format.order al 4607182418800017408 == some .lt || FloatKind.f64.format.order al 4607182418800017408 == some .eq)
                · exact k8 m1 m2 b1 b2 l1 l2 a1 a2
                · exact absurd ⟨m1, m2, b1, b2, l1, l2, a1, a2⟩ h
        · exact k4 m1 m2 b1 (by omega)
      · exact k3 m1 m2 (by omega)
    · exact k2 m1 (by omega)
  · exact k1 (by omega)

abbrev params (most bytes : Int) (linger al : Nat) : Value := .agg #[.int .i64 most, .int .i64 bytes, .float .f64 linger, .float .f64 al]

theorem new_bad {most bytes : Int} {linger al : Nat} (h : ¬ OkP most bytes linger al) (w : World) :
    Calls Try.prog 8 #[params most bytes linger al] w fun e w' => e = .returned (.tuple #[.pointer none, .int .i64 1]) ∧ Keep (fun _ => False) w w' := by
  refine not_ok h ?_ ?_ ?_ ?_ ?_ ?_ ?_ ?_
  all_goals
    clear h; intros
    go_enter Try.func8, Try.ntmps8
    go_wp2_with fail
    go_ret2
    exact ⟨rfl, (Keep.refl _ _).alloc _⟩

theorem may_bad {most bytes : Int} {linger al : Nat} (h : ¬ OkP most bytes linger al) (w : World) :
    Calls Try.prog 20 #[params most bytes linger al] w fun e w' => e = .returned (.bool false) ∧ Keep (fun _ => False) w w' := by
  refine not_ok h ?_ ?_ ?_ ?_ ?_ ?_ ?_ ?_
  all_goals
    clear h; intros
    go_enter Try.func20, Try.ntmps20
    go_wp2_with fail
    go_ret
    exact ⟨rfl, (Keep.refl _ _).alloc _⟩
theorem may_ok {most bytes : Int} {linger al : Nat} (h : OkP most bytes linger al) (w : World) :
    Calls Try.prog 20 #[params most bytes linger al] w fun e w' => e = .returned (.bool true) ∧ Keep (fun _ => False) w w' := by
  obtain ⟨m1, m2, b1, b2, l1, l2, a1, a2⟩ := h
  go_enter Try.func20, Try.ntmps20
  go_wp2_with fail
  go_ret
  exact ⟨rfl, (Keep.refl _ _).alloc _⟩

theorem blk_new_at (w : World) (o : Obj) {n : Nat} (h : w.heap.size = n) : (w.alloc o).heap[n]? = some o := by subst h; exact blk_new w o

/-- A new block of the call's own. -/
def NewAt (c : Array Value) (t : TypeId) (w : World) (e : Ending) (w' : World) : Prop :=
  ∃ b, e = .returned (.tuple #[.pointer (some ⟨b, 0, none⟩), .int .i64 0]) ∧ w.heap.size ≤ b ∧ w'.heap[b]? = some (.cells c t (0, 0)) ∧ Keep (fun _ => False) w w'

theorem new_ok {most bytes : Int} {linger al : Nat} (h : OkP most bytes linger al) (w : World) :
    Calls Try.prog 8 #[params most bytes linger al] w (NewAt (pcells most bytes (Flt.rung linger) al 4607182418800017408) 53 w) := by
  obtain ⟨m1, m2, b1, b2, l1, l2, a1, a2⟩ := h
  go_enter Try.func8, Try.ntmps8
  go_wp2_with (go_at_call 19; refine (abs_any _ _).mono ?_; rintro e w' ⟨rfl, rfl⟩)
  go_ret2
  exact ⟨w.heap.size + 1, rfl, by omega, blk_new_at _ _ (by simp), ((Keep.refl _ _).alloc _).alloc _⟩

theorem keep_keep {w w' : World} (h : Keep (fun _ => False) w w') {b : Nat} {o : Obj} (hb : w.heap[b]? = some o) : w'.heap[b]? = some o := h.same hb id

theorem new3_ok {most bytes : Int} {linger al : Nat} (h : OkP most bytes linger al) (w : World) :
    Calls Try.prog 9 #[params most bytes linger al] w (NewAt (rcells most bytes linger al 4607182418800017408) 56 w) := by
  have H := Lib.hid h
  clear h
  go_enter Try.func9, Try.ntmps9
  go_wp2_with fail
  refine (may_ok H.out _).mono ?_
  rintro e w1 ⟨rfl, hk⟩
  have hb := hk.same (b := w.heap.size) (o := .cells #[.int .i64 most, .int .i64 bytes, .float .f64 linger, .float .f64 al] 27 (0, 0)) (blk_new _ _) id
  have hz := hk.size
  simp at hz
  have c0 := blk_cell hb 0
  have c1 := blk_cell hb 1
  have c2 := blk_cell hb 2
  have c3 := blk_cell hb 3
  simp at c0 c1 c2 c3
  clear hb
  have HK := Lib.hid hk
  clear hk
  go_wp2_with fail
  go_ret2
  exact ⟨w1.heap.size, rfl, by omega, blk_new _ _, ((((Keep.refl _ w).alloc _).trans HK.out).alloc _)⟩

theorem new3_bad {most bytes : Int} {linger al : Nat} (h : ¬ OkP most bytes linger al) (w : World) :
    Calls Try.prog 9 #[params most bytes linger al] w fun e w' => e = .returned (.tuple #[.pointer none, .int .i64 1]) ∧ Keep (fun _ => False) w w' := by
  have H := Lib.hid h
  clear h
  go_enter Try.func9, Try.ntmps9
  go_wp2_with fail
  refine (may_bad H.out _).mono ?_
  rintro e w1 ⟨rfl, hk⟩
  have HK := Lib.hid hk
  clear hk
  go_wp2_with fail
  go_ret2
  exact ⟨rfl, ((Keep.refl _ w).alloc _).trans HK.out⟩

/-! ### Want -/
open Flt (U fv ceilW)
def wantV (most : Int) (s : Nat) : Int := if most * U ≤ fv (ceilW s) then most else if (U : Int) ≤ fv (ceilW s) then fv (ceilW s) / U else 1

theorem ext_ceil {x : Nat} (h : Flt.Fin x) (w : World) : (callFunc 27 #[.float .f64 x]).run Try.prog w = .ok (.value (.float .f64 (ceilW x))) w := by
  have h1 : (callFunc 27 #[.float .f64 x]).run Try.prog w = ((Extern.MathFloor.toIntegral "math.archCeil" .up #[.float .f64 x]).run Try.prog w).andThen fun v w' => .ok (.value v) w' := by
    refine run_callFunc_extern (fn := Try.f27) Try.func27 (by kernel_rfl) (by kernel_rfl) (by kernel_rfl) ?_ _ _
    kernel_rfl
  rw [h1]
  obtain ⟨m, e, h2, -, -⟩ := Flt.read_num h
  have h3 : FloatKind.f64.decode x = .number (Flt.neg x) m e := h2
  have h4 : Extern.MathFloor.toIntegral "math.archCeil" .up #[.float .f64 x] = Extern.MathFloor.toIntegral.match_1 (fun _ => Sem Value) (FloatKind.f64.decode x) (fun s t => _) (fun d => _) := rfl
  rw [h4, h3]
  unfold ceilW
  rw [h2]
  rfl

theorem ceil_any {x : Nat} (h : Flt.Fin x) (w : World) :
    Calls Try.prog 23 #[.float .f64 x] w fun e w' => e = .returned (.float .f64 (ceilW x)) ∧ w = w' := by
  have e1 := ext_ceil h
  clear h
  go_enter Try.func23, Try.ntmps23
  go_wp2
  go_ret
  exact ⟨rfl, rfl⟩

theorem want_ok {b : Nat} {most : Int} {s : Nat} {w : World} (c0 : w.cell? ⟨b, 0, none⟩ = some (.bool true)) (c1 : w.cell? ⟨b, 1, none⟩ = some (.int .i64 most)) (c5 : w.cell? ⟨b, 5, none⟩ = some (.float .f64 s))
    (h : Flt.Fin s) (h1 : 1 ≤ most) (h2 : most ≤ 256) :
    Calls Try.prog 11 #[.pointer (some ⟨b, 0, none⟩)] w fun e w' => e = .returned (.int .i64 (wantV most s)) ∧ w = w' := by
  obtain ⟨M, rfl⟩ := Int.eq_ofNat_of_zero_le (show 0 ≤ most by omega)
  have hm := Flt.ofInt_fin (n := M) (by omega)
  obtain ⟨hc, N, hN, -, -⟩ := Flt.ceil_fin h
  have H := Lib.hid h
  have t1 := Flt.t_ge hc.not_nan hm.1.not_nan
  have t2 := Flt.t_ge hc.not_nan Flt.one_fin.1.not_nan
  rw [hm.2.1] at t1
  rw [Flt.one_fin.2.1] at t2
  have hU := Flt.U_pos
  by_cases k1 : (M : Int) * U ≤ fv (ceilW s)
  · have HV : Hid (wantV M s = M) := by unfold wantV; exact if_pos k1
    rw [decide_eq_true k1] at t1
    clear hm hc hN t2 k1 h hU
    go_enter Try.func11, Try.ntmps11
    go_wp2_with (first | (go_at_call 21; refine (there_any _ _ (by assumption)).mono ?_; rintro e w' ⟨rfl, rfl⟩) | (go_at_call 23; refine (ceil_any H.out _).mono ?_; rintro e w' ⟨rfl, rfl⟩))
    go_ret
    exact ⟨by rw [HV.out]; rfl, rfl⟩
  · rw [decide_eq_false k1] at t1
    by_cases k2 : (U : Int) ≤ fv (ceilW s)
    · rw [decide_eq_true k2] at t2
      have hN1 : 1 ≤ N := by
        refine Int.not_lt.1 fun hx => ?_
        have := Int.mul_le_mul_of_nonneg_right (show N ≤ 0 by omega) (show (0 : Int) ≤ U by omega)
        omega
      have hN2 : N < M := by
        refine Int.not_le.1 fun hx => ?_
        have := Int.mul_le_mul_of_nonneg_right hx (show (0 : Int) ≤ U by omega)
        omega
      have hi := Flt.toInt_of hc hN (by omega) (by omega)
      have HV : Hid (wantV M s = N) := by
        unfold wantV
        rw [if_neg k1, if_pos k2, hN]
        exact Int.mul_ediv_cancel _ (by omega)
      have hcv : ∀ w, (convert 25 3 (.float .f64 (ceilW s))).run Try.prog w = .ok (.int .i64 N) w := fun w => run_convert_float_int w 25 3 .f64 .i64 (ceilW s) N (by rw [Try.underlying25]; rfl) Try.underlying3 hi
      clear hm hc hN k1 h hU k2 hi hN1 hN2
      go_enter Try.func11, Try.ntmps11
      go_wp2_with (first | (go_at_call 21; refine (there_any _ _ (by assumption)).mono ?_; rintro e w' ⟨rfl, rfl⟩) | (go_at_call 23; refine (ceil_any H.out _).mono ?_; rintro e w' ⟨rfl, rfl⟩))
      go_ret
      exact ⟨by rw [HV.out]; rfl, rfl⟩
    · rw [decide_eq_false k2] at t2
      have HV : Hid (wantV M s = 1) := by
        unfold wantV
        rw [if_neg k1, if_neg k2]
        rfl
      clear hm hc hN k1 h hU k2
      go_enter Try.func11, Try.ntmps11
      go_wp2_with (first | (go_at_call 21; refine (there_any _ _ (by assumption)).mono ?_; rintro e w' ⟨rfl, rfl⟩) | (go_at_call 23; refine (ceil_any H.out _).mono ?_; rintro e w' ⟨rfl, rfl⟩))
      go_ret
      exact ⟨by rw [HV.out]; rfl, rfl⟩

/-- The reference's loop stops just there. -/
theorem want_at {M : Nat} {k : Nat} {s : Nat} (h : Flt.Fin s) (h1 : 1 ≤ k) (h2 : k < M) (ha : fv s ≤ (k : Int) * U) (hb : k = 1 ∨ ((k : Int) - 1) * U < fv s) : wantV M s = k := by
  obtain ⟨-, N, hN, h3, h4⟩ := Flt.ceil_fin h
  have hU := Flt.U_pos
  have le : ∀ a b : Int, a ≤ b → a * U ≤ b * U := fun a b hab => Int.mul_le_mul_of_nonneg_right hab (by omega)
  have kk : N ≤ k := by
    refine Int.not_lt.1 fun hx => ?_
    have := le (k + 1) N (by omega)
    rw [Int.add_mul] at this
    omega
  unfold wantV
  rw [hN]
  have n1 : ¬ (M : Int) * U ≤ N * U := by
    intro hx
    have := le (N + 1) M (by omega)
    rw [Int.add_mul] at this
    omega
  rw [if_neg n1]
  rcases hb with hb | hb
  · subst hb
    by_cases n2 : (U : Int) ≤ N * U
    · rw [if_pos n2, Int.mul_ediv_cancel _ (by omega)]
      have : ¬ N ≤ 0 := by
        intro hx
        have := le N 0 hx
        omega
      omega
    · rw [if_neg n2]; rfl
  · have : (k : Int) - 1 < N := by
      refine Int.not_le.1 fun hx => ?_
      have := le N (k - 1) hx
      omega
    have hk : N = k := by omega
    subst hk
    have n2 : (U : Int) ≤ (k : Int) * U := by have := le 1 k (by omega); omega
    rw [if_pos n2, Int.mul_ediv_cancel _ (by omega)]
theorem want_end {M : Nat} {s : Nat} (h : Flt.Fin s) (h1 : 1 ≤ M) (hb : M = 1 ∨ ((M : Int) - 1) * U < fv s) : wantV M s = M := by
  obtain ⟨-, N, hN, h3, h4⟩ := Flt.ceil_fin h
  have hU := Flt.U_pos
  have le : ∀ a b : Int, a ≤ b → a * U ≤ b * U := fun a b hab => Int.mul_le_mul_of_nonneg_right hab (by omega)
  unfold wantV
  rw [hN]
  by_cases n1 : (M : Int) * U ≤ N * U
  · rw [if_pos n1]
  · rw [if_neg n1]
    rcases hb with hb | hb
    · subst hb
      rw [if_neg (by simpa using n1)]; rfl
    · exfalso
      have : (M : Int) - 1 < N := by
        refine Int.not_le.1 fun hx => ?_
        have := le N (M - 1) hx
        omega
      have := le M N (by omega)
      omega

theorem want3_ok {b : Nat} {most : Int} {s : Nat} {w : World} (c0 : w.cell? ⟨b, 0, none⟩ = some (.int .i64 most)) (c4 : w.cell? ⟨b, 4, none⟩ = some (.float .f64 s))
    (h : Flt.Fin s) (h1 : 1 ≤ most) (h2 : most ≤ 256) :
    Calls Try.prog 16 #[.pointer (some ⟨b, 0, none⟩)] w fun e w' => e = .returned (.int .i64 (wantV most s)) ∧ w = w' := by
  obtain ⟨M, rfl⟩ := Int.eq_ofNat_of_zero_le (show 0 ≤ most by omega)
  have H := Lib.hid h
  clear h
  go_enter Try.func16, Try.ntmps16
  go_wp2_with fail
  go_loop [3] (fun i => ∃ k : Nat, 1 ≤ k ∧ k ≤ M ∧ i = .int .i64 k ∧ Hid (k = 1 ∨ ((k : Int) - 1) * U < fv s)) (fun i => M - (intOf i).toNat)
  case atStart => exact ⟨1, by omega, by omega, rfl, Or.inl rfl⟩
  case round =>
    obtain ⟨k, hk1, hk2, rfl, hq⟩ := hrel
    by_cases hlt : k < M
    · have hf := Flt.ofInt_fin (n := k) (by omega)
      have t1 := Flt.t_ge hf.1.not_nan H.out.not_nan
      rw [hf.2.1] at t1
      clear hf
      by_cases ht : fv s ≤ (k : Int) * U
      · have HV := Lib.hid (want_at H.out hk1 hlt ht hq.out)
        rw [decide_eq_true ht] at t1
        clear ht
        go_wp2_with fail
        go_ret
        exact ⟨by rw [HV.out]; rfl, rfl⟩
      · rw [decide_eq_false ht] at t1
        have HT := Lib.hid ht
        clear ht
        go_wp2_with fail
        go_round
        case rel => exact ⟨k + 1, by omega, by omega, by go_num, Or.inr (by have := HT.out; rw [show ((k + 1 : Nat) : Int) - 1 = k by omega]; omega)⟩
        case measure => simp [intOf]; omega
    · obtain rfl : k = M := by omega
      have HV := Lib.hid (want_end H.out hk1 hq.out)
      go_wp2_with fail
      go_ret
      exact ⟨by rw [HV.out]; rfl, rfl⟩
end Go.Proofs.Ytafglefiodanbaa
