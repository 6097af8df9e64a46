/- Smooth of any numbers, and the reference's. By an AI agent. -/
import Derived.Test.YtdkcnbcjjlaidaaGauG
namespace Go.Proofs.Ytdkcnbcjjlaidaa
open Go.ChangeShapes Go.WideShapes Go.ChangeAt Go.RowKit
set_option linter.unusedVariables false

def opF (op : BinOp) (a b : Nat) : Nat := (floatBits op .f64 a b).getD 9221120237041090561
theorem nanC : Flt.nan 9221120237041090561 = true := by decide +kernel
theorem canon_nan {a : Nat} (h : Flt.nan a = true) : canonF a = 9221120237041090561 := by unfold canonF; rw [if_pos h]
theorem opF_some {op : BinOp} {a b r : Nat} (h : floatBits op .f64 a b = some r) : opF op a b = r := by unfold opF; rw [h]; rfl
theorem opF_none {op : BinOp} {a b : Nat} (h : floatBits op .f64 a b = none) : opF op a b = 9221120237041090561 := by unfold opF; rw [h]; rfl
theorem opF_nan {op : BinOp} {a : Nat} : opF op a 9221120237041090561 = 9221120237041090561 := opF_none (arith_nan (Or.inr nanC))

def okA1 (al : Nat) : Bool := FloatKind.f64.format.order al 0 == some .gt
def okA2 (al : Nat) : Bool := FloatKind.f64.format.order al 4607182418800017408 == some .lt || FloatKind.f64.format.order al 4607182418800017408 == some .eq
/-- What Smooth answers: the number, the error. -/
def smV (v x al : Nat) : Nat := if okA1 al && okA2 al then (if Flt.nan x then canonF v else if Flt.nan v then x else canonF (opF .add v (opF .mul al (opF .sub x v)))) else 0
def smE (al : Nat) : Int := if okA1 al && okA2 al then 0 else 1

set_option maxHeartbeats 2000000 in
theorem smooth_any (v x al : Nat) (w : World) :
    Calls Try.prog 10 #[.float .f64 v, .float .f64 x, .float .f64 al] w fun e w' => e = .returned (.tuple #[.float .f64 (smV v x al), .int .i64 (smE al)]) ∧ Below w.heap.size w w' := by
  cases g1 : okA1 al
  · skip
    have HV : RowKit.Hid (smV v x al = 0) := Lib.hid (by simp [smV, g1])
    have HE : RowKit.Hid (smE al = 1) := Lib.hid (by simp [smE, g1])
    have k1 : (FloatKind.f64.format.order al 0 == some .gt) = false := g1
    go_enter Try.func10, Try.ntmps10
    go_wp2_with (go_at_call 29; refine (canon_any _ _).mono ?_; rintro e w' ⟨rfl, rfl⟩)
    go_ret2
    exact ⟨by rw [HV.out, HE.out]; rfl, (Keep.refl (fun _ => False) w).none⟩
  · cases g2 : okA2 al
    · skip
      have HV : RowKit.Hid (smV v x al = 0) := Lib.hid (by simp [smV, g1, g2])
      have HE : RowKit.Hid (smE al = 1) := Lib.hid (by simp [smE, g1, g2])
      have k1 : (FloatKind.f64.format.order al 0 == some .gt) = true := g1
      have k2 : (FloatKind.f64.format.order al 4607182418800017408 == some .lt || FloatKind.f64.format.order al 4607182418800017408 == some .eq) = false := g2
      go_enter Try.func10, Try.ntmps10
      go_wp2_with (go_at_call 29; refine (canon_any _ _).mono ?_; rintro e w' ⟨rfl, rfl⟩)
      go_ret2
      exact ⟨by rw [HV.out, HE.out]; rfl, (Keep.refl (fun _ => False) w).none⟩
    · cases hx : Flt.nan x
      · cases hv : Flt.nan v
        · skip
          cases hd : floatBits .sub .f64 x v with
          | none =>
            have HV : RowKit.Hid (smV v x al = 9221120237041090561) := Lib.hid (by simp [smV, g1, g2, hx, hv, opF_none hd, opF_nan, canon_nan nanC])
            have HE : RowKit.Hid (smE al = 0) := Lib.hid (by simp [smE, g1, g2])
            have k1 : (FloatKind.f64.format.order al 0 == some .gt) = true := g1
            have k2 : (FloatKind.f64.format.order al 4607182418800017408 == some .lt || FloatKind.f64.format.order al 4607182418800017408 == some .eq) = true := g2
            have v1 : (FloatKind.f64.format.order v v != some .eq) = false := by rw [← hv, ← Flt.fnan_eq]; rfl
            have x1 : (FloatKind.f64.format.order x x != some .eq) = false := by rw [← hx, ← Flt.fnan_eq]; rfl
            have o1 : ∀ t w, (binOp .sub t (.float .f64 x) (.float .f64 v)).run Try.prog w = .ok (.float .f64 (nanW x v w)) w.drew := fun t w => run_arith_nan (Or.inr (Or.inl rfl)) _ t x v hd w
            have o2 : ∀ t w w', (binOp .mul t (.float .f64 al) (.float .f64 (nanW x v w'))).run Try.prog w = .ok (.float .f64 (nanW al (nanW x v w') w)) w.drew := fun t w w' => run_arith_nan (Or.inr (Or.inr (Or.inl rfl))) _ t al _ (arith_nan (Or.inr (nanW_nan _ _ _))) w
            have o3 : ∀ t w a w', (binOp .add t (.float .f64 v) (.float .f64 (nanW al a w'))).run Try.prog w = .ok (.float .f64 (nanW v (nanW al a w') w)) w.drew := fun t w a w' => run_arith_nan (Or.inl rfl) _ t v _ (arith_nan (Or.inr (nanW_nan _ _ _))) w
            have o4 : ∀ a b w, canonF (nanW a b w) = 9221120237041090561 := fun a b w => canon_nan (nanW_nan a b w)
            clear hd
            go_enter Try.func10, Try.ntmps10
            go_wp2_with (go_at_call 29; refine (canon_any _ _).mono ?_; rintro e w' ⟨rfl, rfl⟩)
            go_ret2
            refine ⟨by rw [HV.out, HE.out]; first | rfl | (rw [o4]; rfl), ?_⟩
            exact ⟨rfl, rfl, rfl, Nat.le_refl _, fun _ _ => rfl⟩
          | some d =>
            cases hy : floatBits .mul .f64 al d with
            | none =>
              have HV : RowKit.Hid (smV v x al = 9221120237041090561) := Lib.hid (by simp [smV, g1, g2, hx, hv, opF_some hd, opF_none hy, opF_nan, canon_nan nanC])
              have HE : RowKit.Hid (smE al = 0) := Lib.hid (by simp [smE, g1, g2])
              have k1 : (FloatKind.f64.format.order al 0 == some .gt) = true := g1
              have k2 : (FloatKind.f64.format.order al 4607182418800017408 == some .lt || FloatKind.f64.format.order al 4607182418800017408 == some .eq) = true := g2
              have v1 : (FloatKind.f64.format.order v v != some .eq) = false := by rw [← hv, ← Flt.fnan_eq]; rfl
              have x1 : (FloatKind.f64.format.order x x != some .eq) = false := by rw [← hx, ← Flt.fnan_eq]; rfl
              have o1 : ∀ t w, (binOp .sub t (.float .f64 x) (.float .f64 v)).run Try.prog w = .ok (.float .f64 d) w := fun t w => run_float_arith w .sub t .f64 x v d hd
              have o2 : ∀ t w, (binOp .mul t (.float .f64 al) (.float .f64 d)).run Try.prog w = .ok (.float .f64 (nanW al d w)) w.drew := fun t w => run_arith_nan (Or.inr (Or.inr (Or.inl rfl))) _ t al d hy w
              have o3 : ∀ t w a w', (binOp .add t (.float .f64 v) (.float .f64 (nanW al a w'))).run Try.prog w = .ok (.float .f64 (nanW v (nanW al a w') w)) w.drew := fun t w a w' => run_arith_nan (Or.inl rfl) _ t v _ (arith_nan (Or.inr (nanW_nan _ _ _))) w
              have o4 : ∀ a b w, canonF (nanW a b w) = 9221120237041090561 := fun a b w => canon_nan (nanW_nan a b w)
              clear hd hy
              go_enter Try.func10, Try.ntmps10
              go_wp2_with (go_at_call 29; refine (canon_any _ _).mono ?_; rintro e w' ⟨rfl, rfl⟩)
              go_ret2
              refine ⟨by rw [HV.out, HE.out]; first | rfl | (rw [o4]; rfl), ?_⟩
              exact ⟨rfl, rfl, rfl, Nat.le_refl _, fun _ _ => rfl⟩
            | some y =>
              cases hs : floatBits .add .f64 v y with
              | none =>
                have HV : RowKit.Hid (smV v x al = 9221120237041090561) := Lib.hid (by simp [smV, g1, g2, hx, hv, opF_some hd, opF_some hy, opF_none hs, canon_nan nanC])
                have HE : RowKit.Hid (smE al = 0) := Lib.hid (by simp [smE, g1, g2])
                have k1 : (FloatKind.f64.format.order al 0 == some .gt) = true := g1
                have k2 : (FloatKind.f64.format.order al 4607182418800017408 == some .lt || FloatKind.f64.format.order al 4607182418800017408 == some .eq) = true := g2
                have v1 : (FloatKind.f64.format.order v v != some .eq) = false := by rw [← hv, ← Flt.fnan_eq]; rfl
                have x1 : (FloatKind.f64.format.order x x != some .eq) = false := by rw [← hx, ← Flt.fnan_eq]; rfl
                have o1 : ∀ t w, (binOp .sub t (.float .f64 x) (.float .f64 v)).run Try.prog w = .ok (.float .f64 d) w := fun t w => run_float_arith w .sub t .f64 x v d hd
                have o2 : ∀ t w, (binOp .mul t (.float .f64 al) (.float .f64 d)).run Try.prog w = .ok (.float .f64 y) w := fun t w => run_float_arith w .mul t .f64 al d y hy
                have o3 : ∀ t w, (binOp .add t (.float .f64 v) (.float .f64 y)).run Try.prog w = .ok (.float .f64 (nanW v y w)) w.drew := fun t w => run_arith_nan (Or.inl rfl) _ t v y hs w
                have o4 : ∀ a b w, canonF (nanW a b w) = 9221120237041090561 := fun a b w => canon_nan (nanW_nan a b w)
                clear hd hy hs
                go_enter Try.func10, Try.ntmps10
                go_wp2_with (go_at_call 29; refine (canon_any _ _).mono ?_; rintro e w' ⟨rfl, rfl⟩)
                go_ret2
                refine ⟨by rw [HV.out, HE.out]; first | rfl | (rw [o4]; rfl), ?_⟩
                exact ⟨rfl, rfl, rfl, Nat.le_refl _, fun _ _ => rfl⟩
              | some s =>
                have HV : RowKit.Hid (smV v x al = canonF s) := Lib.hid (by simp [smV, g1, g2, hx, hv, opF_some hd, opF_some hy, opF_some hs])
                have HE : RowKit.Hid (smE al = 0) := Lib.hid (by simp [smE, g1, g2])
                have k1 : (FloatKind.f64.format.order al 0 == some .gt) = true := g1
                have k2 : (FloatKind.f64.format.order al 4607182418800017408 == some .lt || FloatKind.f64.format.order al 4607182418800017408 == some .eq) = true := g2
                have v1 : (FloatKind.f64.format.order v v != some .eq) = false := by rw [← hv, ← Flt.fnan_eq]; rfl
                have x1 : (FloatKind.f64.format.order x x != some .eq) = false := by rw [← hx, ← Flt.fnan_eq]; rfl
                have o1 : ∀ t w, (binOp .sub t (.float .f64 x) (.float .f64 v)).run Try.prog w = .ok (.float .f64 d) w := fun t w => run_float_arith w .sub t .f64 x v d hd
                have o2 : ∀ t w, (binOp .mul t (.float .f64 al) (.float .f64 d)).run Try.prog w = .ok (.float .f64 y) w := fun t w => run_float_arith w .mul t .f64 al d y hy
                have o3 : ∀ t w, (binOp .add t (.float .f64 v) (.float .f64 y)).run Try.prog w = .ok (.float .f64 s) w := fun t w => run_float_arith w .add t .f64 v y s hs
                clear hd hy hs
                go_enter Try.func10, Try.ntmps10
                go_wp2_with (go_at_call 29; refine (canon_any _ _).mono ?_; rintro e w' ⟨rfl, rfl⟩)
                go_ret2
                refine ⟨by rw [HV.out, HE.out]; rfl, ?_⟩
                exact ⟨rfl, rfl, rfl, Nat.le_refl _, fun _ _ => rfl⟩
        · skip
          have HV : RowKit.Hid (smV v x al = x) := Lib.hid (by simp [smV, g1, g2, hx, hv])
          have HE : RowKit.Hid (smE al = 0) := Lib.hid (by simp [smE, g1, g2])
          have k1 : (FloatKind.f64.format.order al 0 == some .gt) = true := g1
          have k2 : (FloatKind.f64.format.order al 4607182418800017408 == some .lt || FloatKind.f64.format.order al 4607182418800017408 == some .eq) = true := g2
          have v1 : (FloatKind.f64.format.order v v != some .eq) = true := by rw [← hv, ← Flt.fnan_eq]; rfl
          have x1 : (FloatKind.f64.format.order x x != some .eq) = false := by rw [← hx, ← Flt.fnan_eq]; rfl
          go_enter Try.func10, Try.ntmps10
          go_wp2_with (go_at_call 29; refine (canon_any _ _).mono ?_; rintro e w' ⟨rfl, rfl⟩)
          go_ret2
          exact ⟨by rw [HV.out, HE.out]; rfl, (Keep.refl (fun _ => False) w).none⟩
      · skip
        have HV : RowKit.Hid (smV v x al = canonF v) := Lib.hid (by simp [smV, g1, g2, hx])
        have HE : RowKit.Hid (smE al = 0) := Lib.hid (by simp [smE, g1, g2])
        have k1 : (FloatKind.f64.format.order al 0 == some .gt) = true := g1
        have k2 : (FloatKind.f64.format.order al 4607182418800017408 == some .lt || FloatKind.f64.format.order al 4607182418800017408 == some .eq) = true := g2
        have x1 : (FloatKind.f64.format.order x x != some .eq) = true := by rw [← hx, ← Flt.fnan_eq]; rfl
        go_enter Try.func10, Try.ntmps10
        go_wp2_with (go_at_call 29; refine (canon_any _ _).mono ?_; rintro e w' ⟨rfl, rfl⟩)
        go_ret2
        exact ⟨by rw [HV.out, HE.out]; rfl, (Keep.refl (fun _ => False) w).none⟩

set_option maxHeartbeats 2000000 in
theorem smooth3_any (v x al : Nat) (w : World) :
    Calls Try.prog 11 #[.float .f64 v, .float .f64 x, .float .f64 al] w fun e w' => e = .returned (.tuple #[.float .f64 (smV v x al), .int .i64 (smE al)]) ∧ Below w.heap.size w w' := by
  cases g1 : okA1 al
  · skip
    have HV : RowKit.Hid (smV v x al = 0) := Lib.hid (by simp [smV, g1])
    have HE : RowKit.Hid (smE al = 1) := Lib.hid (by simp [smE, g1])
    have k1 : (FloatKind.f64.format.order al 0 == some .gt) = false := g1
    go_enter Try.func11, Try.ntmps11
    go_wp2_with (first | (go_at_call 30; refine (nan3_any _ _).mono ?_; rintro e w' ⟨rfl, rfl⟩) | (go_at_call 31; refine (canon3_any _ _).mono ?_; rintro e w' ⟨rfl, rfl⟩))
    go_ret2
    exact ⟨by rw [HV.out, HE.out]; rfl, (Keep.refl (fun _ => False) w).none⟩
  · cases g2 : okA2 al
    · skip
      have HV : RowKit.Hid (smV v x al = 0) := Lib.hid (by simp [smV, g1, g2])
      have HE : RowKit.Hid (smE al = 1) := Lib.hid (by simp [smE, g1, g2])
      have k1 : (FloatKind.f64.format.order al 0 == some .gt) = true := g1
      have k2 : (FloatKind.f64.format.order al 4607182418800017408 == some .lt || FloatKind.f64.format.order al 4607182418800017408 == some .eq) = false := g2
      go_enter Try.func11, Try.ntmps11
      go_wp2_with (first | (go_at_call 30; refine (nan3_any _ _).mono ?_; rintro e w' ⟨rfl, rfl⟩) | (go_at_call 31; refine (canon3_any _ _).mono ?_; rintro e w' ⟨rfl, rfl⟩))
      go_ret2
      exact ⟨by rw [HV.out, HE.out]; rfl, (Keep.refl (fun _ => False) w).none⟩
    · cases hx : Flt.nan x
      · cases hv : Flt.nan v
        · skip
          cases hd : floatBits .sub .f64 x v with
          | none =>
            have HV : RowKit.Hid (smV v x al = 9221120237041090561) := Lib.hid (by simp [smV, g1, g2, hx, hv, opF_none hd, opF_nan, canon_nan nanC])
            have HE : RowKit.Hid (smE al = 0) := Lib.hid (by simp [smE, g1, g2])
            have k1 : (FloatKind.f64.format.order al 0 == some .gt) = true := g1
            have k2 : (FloatKind.f64.format.order al 4607182418800017408 == some .lt || FloatKind.f64.format.order al 4607182418800017408 == some .eq) = true := g2
            have v1 : (FloatKind.f64.format.order v v != some .eq) = false := by rw [← hv, ← Flt.fnan_eq]; rfl
            have x1 : (FloatKind.f64.format.order x x != some .eq) = false := by rw [← hx, ← Flt.fnan_eq]; rfl
            have o1 : ∀ t w, (binOp .sub t (.float .f64 x) (.float .f64 v)).run Try.prog w = .ok (.float .f64 (nanW x v w)) w.drew := fun t w => run_arith_nan (Or.inr (Or.inl rfl)) _ t x v hd w
            have o2 : ∀ t w w', (binOp .mul t (.float .f64 al) (.float .f64 (nanW x v w'))).run Try.prog w = .ok (.float .f64 (nanW al (nanW x v w') w)) w.drew := fun t w w' => run_arith_nan (Or.inr (Or.inr (Or.inl rfl))) _ t al _ (arith_nan (Or.inr (nanW_nan _ _ _))) w
            have o3 : ∀ t w a w', (binOp .add t (.float .f64 v) (.float .f64 (nanW al a w'))).run Try.prog w = .ok (.float .f64 (nanW v (nanW al a w') w)) w.drew := fun t w a w' => run_arith_nan (Or.inl rfl) _ t v _ (arith_nan (Or.inr (nanW_nan _ _ _))) w
            have o4 : ∀ a b w, canonF (nanW a b w) = 9221120237041090561 := fun a b w => canon_nan (nanW_nan a b w)
            clear hd
            go_enter Try.func11, Try.ntmps11
            go_wp2_with (first | (go_at_call 30; refine (nan3_any _ _).mono ?_; rintro e w' ⟨rfl, rfl⟩) | (go_at_call 31; refine (canon3_any _ _).mono ?_; rintro e w' ⟨rfl, rfl⟩))
            go_ret2
            refine ⟨by rw [HV.out, HE.out]; first | rfl | (rw [o4]; rfl), ?_⟩
            exact ⟨rfl, rfl, rfl, Nat.le_refl _, fun _ _ => rfl⟩
          | some d =>
            cases hy : floatBits .mul .f64 al d with
            | none =>
              have HV : RowKit.Hid (smV v x al = 9221120237041090561) := Lib.hid (by simp [smV, g1, g2, hx, hv, opF_some hd, opF_none hy, opF_nan, canon_nan nanC])
              have HE : RowKit.Hid (smE al = 0) := Lib.hid (by simp [smE, g1, g2])
              have k1 : (FloatKind.f64.format.order al 0 == some .gt) = true := g1
              have k2 : (FloatKind.f64.format.order al 4607182418800017408 == some .lt || FloatKind.f64.format.order al 4607182418800017408 == some .eq) = true := g2
              have v1 : (FloatKind.f64.format.order v v != some .eq) = false := by rw [← hv, ← Flt.fnan_eq]; rfl
              have x1 : (FloatKind.f64.format.order x x != some .eq) = false := by rw [← hx, ← Flt.fnan_eq]; rfl
              have o1 : ∀ t w, (binOp .sub t (.float .f64 x) (.float .f64 v)).run Try.prog w = .ok (.float .f64 d) w := fun t w => run_float_arith w .sub t .f64 x v d hd
              have o2 : ∀ t w, (binOp .mul t (.float .f64 al) (.float .f64 d)).run Try.prog w = .ok (.float .f64 (nanW al d w)) w.drew := fun t w => run_arith_nan (Or.inr (Or.inr (Or.inl rfl))) _ t al d hy w
              have o3 : ∀ t w a w', (binOp .add t (.float .f64 v) (.float .f64 (nanW al a w'))).run Try.prog w = .ok (.float .f64 (nanW v (nanW al a w') w)) w.drew := fun t w a w' => run_arith_nan (Or.inl rfl) _ t v _ (arith_nan (Or.inr (nanW_nan _ _ _))) w
              have o4 : ∀ a b w, canonF (nanW a b w) = 9221120237041090561 := fun a b w => canon_nan (nanW_nan a b w)
              clear hd hy
              go_enter Try.func11, Try.ntmps11
              go_wp2_with (first | (go_at_call 30; refine (nan3_any _ _).mono ?_; rintro e w' ⟨rfl, rfl⟩) | (go_at_call 31; refine (canon3_any _ _).mono ?_; rintro e w' ⟨rfl, rfl⟩))
              go_ret2
              refine ⟨by rw [HV.out, HE.out]; first | rfl | (rw [o4]; rfl), ?_⟩
              exact ⟨rfl, rfl, rfl, Nat.le_refl _, fun _ _ => rfl⟩
            | some y =>
              cases hs : floatBits .add .f64 v y with
              | none =>
                have HV : RowKit.Hid (smV v x al = 9221120237041090561) := Lib.hid (by simp [smV, g1, g2, hx, hv, opF_some hd, opF_some hy, opF_none hs, canon_nan nanC])
                have HE : RowKit.Hid (smE al = 0) := Lib.hid (by simp [smE, g1, g2])
                have k1 : (FloatKind.f64.format.order al 0 == some .gt) = true := g1
                have k2 : (FloatKind.f64.format.order al 4607182418800017408 == some .lt || FloatKind.f64.format.order al 4607182418800017408 == some .eq) = true := g2
                have v1 : (FloatKind.f64.format.order v v != some .eq) = false := by rw [← hv, ← Flt.fnan_eq]; rfl
                have x1 : (FloatKind.f64.format.order x x != some .eq) = false := by rw [← hx, ← Flt.fnan_eq]; rfl
                have o1 : ∀ t w, (binOp .sub t (.float .f64 x) (.float .f64 v)).run Try.prog w = .ok (.float .f64 d) w := fun t w => run_float_arith w .sub t .f64 x v d hd
                have o2 : ∀ t w, (binOp .mul t (.float .f64 al) (.float .f64 d)).run Try.prog w = .ok (.float .f64 y) w := fun t w => run_float_arith w .mul t .f64 al d y hy
                have o3 : ∀ t w, (binOp .add t (.float .f64 v) (.float .f64 y)).run Try.prog w = .ok (.float .f64 (nanW v y w)) w.drew := fun t w => run_arith_nan (Or.inl rfl) _ t v y hs w
                have o4 : ∀ a b w, canonF (nanW a b w) = 9221120237041090561 := fun a b w => canon_nan (nanW_nan a b w)
                clear hd hy hs
                go_enter Try.func11, Try.ntmps11
                go_wp2_with (first | (go_at_call 30; refine (nan3_any _ _).mono ?_; rintro e w' ⟨rfl, rfl⟩) | (go_at_call 31; refine (canon3_any _ _).mono ?_; rintro e w' ⟨rfl, rfl⟩))
                go_ret2
                refine ⟨by rw [HV.out, HE.out]; first | rfl | (rw [o4]; rfl), ?_⟩
                exact ⟨rfl, rfl, rfl, Nat.le_refl _, fun _ _ => rfl⟩
              | some s =>
                have HV : RowKit.Hid (smV v x al = canonF s) := Lib.hid (by simp [smV, g1, g2, hx, hv, opF_some hd, opF_some hy, opF_some hs])
                have HE : RowKit.Hid (smE al = 0) := Lib.hid (by simp [smE, g1, g2])
                have k1 : (FloatKind.f64.format.order al 0 == some .gt) = true := g1
                have k2 : (FloatKind.f64.format.order al 4607182418800017408 == some .lt || FloatKind.f64.format.order al 4607182418800017408 == some .eq) = true := g2
                have v1 : (FloatKind.f64.format.order v v != some .eq) = false := by rw [← hv, ← Flt.fnan_eq]; rfl
                have x1 : (FloatKind.f64.format.order x x != some .eq) = false := by rw [← hx, ← Flt.fnan_eq]; rfl
                have o1 : ∀ t w, (binOp .sub t (.float .f64 x) (.float .f64 v)).run Try.prog w = .ok (.float .f64 d) w := fun t w => run_float_arith w .sub t .f64 x v d hd
                have o2 : ∀ t w, (binOp .mul t (.float .f64 al) (.float .f64 d)).run Try.prog w = .ok (.float .f64 y) w := fun t w => run_float_arith w .mul t .f64 al d y hy
                have o3 : ∀ t w, (binOp .add t (.float .f64 v) (.float .f64 y)).run Try.prog w = .ok (.float .f64 s) w := fun t w => run_float_arith w .add t .f64 v y s hs
                clear hd hy hs
                go_enter Try.func11, Try.ntmps11
                go_wp2_with (first | (go_at_call 30; refine (nan3_any _ _).mono ?_; rintro e w' ⟨rfl, rfl⟩) | (go_at_call 31; refine (canon3_any _ _).mono ?_; rintro e w' ⟨rfl, rfl⟩))
                go_ret2
                refine ⟨by rw [HV.out, HE.out]; rfl, ?_⟩
                exact ⟨rfl, rfl, rfl, Nat.le_refl _, fun _ _ => rfl⟩
        · skip
          have HV : RowKit.Hid (smV v x al = x) := Lib.hid (by simp [smV, g1, g2, hx, hv])
          have HE : RowKit.Hid (smE al = 0) := Lib.hid (by simp [smE, g1, g2])
          have k1 : (FloatKind.f64.format.order al 0 == some .gt) = true := g1
          have k2 : (FloatKind.f64.format.order al 4607182418800017408 == some .lt || FloatKind.f64.format.order al 4607182418800017408 == some .eq) = true := g2
          have v1 : (FloatKind.f64.format.order v v != some .eq) = true := by rw [← hv, ← Flt.fnan_eq]; rfl
          have x1 : (FloatKind.f64.format.order x x != some .eq) = false := by rw [← hx, ← Flt.fnan_eq]; rfl
          go_enter Try.func11, Try.ntmps11
          go_wp2_with (first | (go_at_call 30; refine (nan3_any _ _).mono ?_; rintro e w' ⟨rfl, rfl⟩) | (go_at_call 31; refine (canon3_any _ _).mono ?_; rintro e w' ⟨rfl, rfl⟩))
          go_ret2
          exact ⟨by rw [HV.out, HE.out]; rfl, (Keep.refl (fun _ => False) w).none⟩
      · skip
        have HV : RowKit.Hid (smV v x al = canonF v) := Lib.hid (by simp [smV, g1, g2, hx])
        have HE : RowKit.Hid (smE al = 0) := Lib.hid (by simp [smE, g1, g2])
        have k1 : (FloatKind.f64.format.order al 0 == some .gt) = true := g1
        have k2 : (FloatKind.f64.format.order al 4607182418800017408 == some .lt || FloatKind.f64.format.order al 4607182418800017408 == some .eq) = true := g2
        have x1 : (FloatKind.f64.format.order x x != some .eq) = true := by rw [← hx, ← Flt.fnan_eq]; rfl
        go_enter Try.func11, Try.ntmps11
        go_wp2_with (first | (go_at_call 30; refine (nan3_any _ _).mono ?_; rintro e w' ⟨rfl, rfl⟩) | (go_at_call 31; refine (canon3_any _ _).mono ?_; rintro e w' ⟨rfl, rfl⟩))
        go_ret2
        exact ⟨by rw [HV.out, HE.out]; rfl, (Keep.refl (fun _ => False) w).none⟩

end Go.Proofs.Ytdkcnbcjjlaidaa
