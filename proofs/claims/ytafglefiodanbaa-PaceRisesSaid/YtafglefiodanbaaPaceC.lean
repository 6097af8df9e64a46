/- Contracts of Plan, the program's and the reference's. By an AI agent. -/
import Derived.Test.YtafglefiodanbaaPaceB
namespace Go.Proofs.Ytafglefiodanbaa
open Go.ChangeShapes Go.WideShapes Go.ChangeAt Go.RowKit
open Flt (U fv ceilW)
set_option linter.unusedVariables false

/-- The age as it counts. -/
def ageV (a : Nat) : Nat := if (FloatKind.f64.format.order a 0 == some .gt) then a else 0

/-- The ways in which a batch goes. -/
theorem go_ways' {most bytes want n m : Int} {linger a : Nat} {C : Prop}
    (h : most ≤ n ∨ bytes ≤ m ∨ (FloatKind.f64.format.order (ageV a) linger == some .gt || FloatKind.f64.format.order (ageV a) linger == some .eq) = true ∨ (0 < n ∧ want ≤ n))
    (k : ∀ x, ageV a = x → ((FloatKind.f64.format.order a 0 == some .gt) = true ∧ x = a ∨ (FloatKind.f64.format.order a 0 == some .gt) = false ∧ x = 0) →
      (most ≤ n ∨ n < most ∧ bytes ≤ m ∨ n < most ∧ m < bytes ∧ (FloatKind.f64.format.order x linger == some .gt || FloatKind.f64.format.order x linger == some .eq) = true ∨
        n < most ∧ m < bytes ∧ (FloatKind.f64.format.order x linger == some .gt || FloatKind.f64.format.order x linger == some .eq) = false ∧ 0 < n ∧ want ≤ n) → C) : C := by
  refine k (ageV a) rfl ?_ ?_
  · unfold ageV
    cases h1 : (FloatKind.f64.format.order a 0 == some .gt)
    · exact Or.inr ⟨rfl, by simp⟩
    · exact Or.inl ⟨rfl, by simp⟩
  · by_cases h1 : most ≤ n
    · exact Or.inl h1
    · by_cases h2 : bytes ≤ m
      · exact Or.inr (Or.inl ⟨by omega, h2⟩)
      · cases h3 : (FloatKind.f64.format.order (ageV a) linger == some .gt || FloatKind.f64.format.order (ageV a) linger == some .eq)
        · rw [h3] at h
          have : 0 < n ∧ want ≤ n := by
            rcases h with h | h | h | h
            · omega
            · omega
            · cases h
            · exact h
          exact Or.inr (Or.inr (Or.inr ⟨by omega, by omega, rfl, this⟩))
        · exact Or.inr (Or.inr (Or.inl ⟨by omega, by omega, rfl⟩))

theorem past {w : World} {b i : Nat} {v : Value} (hz : b < w.heap.size) (h : w.cell? ⟨b, i, none⟩ = some v) (o : Obj) : (w.alloc o).cell? ⟨b, i, none⟩ = some v := by
  rw [World.cell?_alloc_past _ _ _ hz]; exact h

set_option maxHeartbeats 4000000 in
theorem plan_go {b : Nat} {most bytes n m : Int} {linger al a s : Nat} {w : World} (hb : w.heap[b]? = some (.cells (pcells most bytes linger al s) 53 (0, 0)))
    (hs : Flt.Fin s) (h1 : 1 ≤ most) (h2 : most ≤ 256)
    (h : most ≤ n ∨ bytes ≤ m ∨ (FloatKind.f64.format.order (ageV a) linger == some .gt || FloatKind.f64.format.order (ageV a) linger == some .eq) = true ∨ (0 < n ∧ wantV most s ≤ n)) :
    Calls Try.prog 12 #[.pointer (some ⟨b, 0, none⟩), .int .i64 n, .int .i64 m, .float .f64 a] w fun e w' => e = .returned (.agg #[.bool true, .float .f64 0]) ∧ Keep (fun _ => False) w w' := by
  have c0 := blk_cell hb 0
  have c1 := blk_cell hb 1
  have c2 := blk_cell hb 2
  have c3 := blk_cell hb 3
  have c5 := blk_cell hb 5
  have hz := lt_of_block hb
  simp at c0 c1 c2 c3 c5
  have HS := Lib.hid hs
  clear hb hs
  refine go_ways' h ?_
  clear h
  intro x hx
  clear hx
  rintro (⟨t1, rfl⟩ | ⟨t1, rfl⟩) (h | ⟨h, h'⟩ | ⟨h, h', h''⟩ | ⟨h, h', h'', h3, h4⟩)
  all_goals
    go_enter Try.func12, Try.ntmps12
    go_wp2_with (first | (go_at_call 21; refine (there_any b _ (past hz c0 _)).mono ?_; rintro e w' ⟨rfl, rfl⟩) | (go_at_call 11; refine (want_ok (b := b) (past hz c0 _) (past hz c1 _) (past hz c5 _) HS.out h1 h2).mono ?_; rintro e w' ⟨rfl, rfl⟩))
    exact bodyPost_ret (v := .agg #[.bool true, .float .f64 0]) (by simp [results, Try.results12, go_sem]) rfl ⟨rfl, (Keep.refl _ _).alloc _⟩

set_option maxHeartbeats 4000000 in
theorem plan3_go {b : Nat} {most bytes n m : Int} {linger al a s : Nat} {w : World} (hb : w.heap[b]? = some (.cells (rcells most bytes linger al s) 56 (0, 0)))
    (hs : Flt.Fin s) (h1 : 1 ≤ most) (h2 : most ≤ 256)
    (h : most ≤ n ∨ bytes ≤ m ∨ (FloatKind.f64.format.order (ageV a) linger == some .gt || FloatKind.f64.format.order (ageV a) linger == some .eq) = true ∨ (0 < n ∧ wantV most s ≤ n)) :
    Calls Try.prog 15 #[.pointer (some ⟨b, 0, none⟩), .int .i64 n, .int .i64 m, .float .f64 a] w fun e w' => e = .returned (.agg #[.bool true, .float .f64 0]) ∧ Keep (fun _ => False) w w' := by
  have c0 := blk_cell hb 0
  have c1 := blk_cell hb 1
  have c2 := blk_cell hb 2
  have c4 := blk_cell hb 4
  have hz := lt_of_block hb
  simp at c0 c1 c2 c4
  have HS := Lib.hid hs
  clear hb hs
  refine go_ways' h ?_
  clear h
  intro x hx
  clear hx
  rintro (⟨t1, rfl⟩ | ⟨t1, rfl⟩) (h | ⟨h, h'⟩ | ⟨h, h', h''⟩ | ⟨h, h', h'', h3, h4⟩)
  all_goals
    go_enter Try.func15, Try.ntmps15
    go_wp2_with (go_at_call 16; refine (want3_ok (b := b) (past hz c0 _) (past hz c4 _) HS.out h1 h2).mono ?_; rintro e w' ⟨rfl, rfl⟩)
    exact bodyPost_ret (v := .agg #[.bool true, .float .f64 0]) (by simp [results, Try.results15, go_sem]) rfl ⟨rfl, (Keep.refl _ _).alloc _⟩

/-- The ways in which it waits. -/
theorem wait_ways {most bytes want n m : Int} {linger a d : Nat} {C : Prop}
    (h1 : n < most) (h2 : m < bytes) (h3 : (FloatKind.f64.format.order (ageV a) linger == some .gt || FloatKind.f64.format.order (ageV a) linger == some .eq) = false) (h4 : n ≤ 0 ∨ n < want)
    (hd : floatBits .sub .f64 linger (ageV a) = some d)
    (k : ∀ x z, ((FloatKind.f64.format.order a 0 == some .gt) = true ∧ x = a ∨ (FloatKind.f64.format.order a 0 == some .gt) = false ∧ x = 0) →
      (FloatKind.f64.format.order x linger == some .gt || FloatKind.f64.format.order x linger == some .eq) = false → floatBits .sub .f64 linger x = some d →
      (n ≤ 0 ∨ 0 < n ∧ n < want) → ((FloatKind.f64.format.order d 0 == some .gt) = true ∧ z = d ∨ (FloatKind.f64.format.order d 0 == some .gt) = false ∧ z = 1) → z = (if (FloatKind.f64.format.order d 0 == some .gt) then d else 1) → C) : C := by
  refine k (ageV a) _ ?_ h3 hd (by omega) ?_ rfl
  · unfold ageV
    cases h1 : (FloatKind.f64.format.order a 0 == some .gt)
    · exact Or.inr ⟨rfl, by simp⟩
    · exact Or.inl ⟨rfl, by simp⟩
  · cases h1 : (FloatKind.f64.format.order d 0 == some .gt)
    · exact Or.inr ⟨rfl, by simp⟩
    · exact Or.inl ⟨rfl, by simp⟩

/-- How long it waits. -/
def waitV (d : Nat) : Nat := if (FloatKind.f64.format.order d 0 == some .gt) then d else 1

set_option maxHeartbeats 4000000 in
theorem plan_wait {b : Nat} {most bytes n m : Int} {linger al a s d : Nat} {w : World} (hb : w.heap[b]? = some (.cells (pcells most bytes linger al s) 53 (0, 0)))
    (hs : Flt.Fin s) (h1 : 1 ≤ most) (h2 : most ≤ 256) (k1 : n < most) (k2 : m < bytes)
    (k3 : (FloatKind.f64.format.order (ageV a) linger == some .gt || FloatKind.f64.format.order (ageV a) linger == some .eq) = false) (k4 : n ≤ 0 ∨ n < wantV most s) (hd : floatBits .sub .f64 linger (ageV a) = some d) :
    Calls Try.prog 12 #[.pointer (some ⟨b, 0, none⟩), .int .i64 n, .int .i64 m, .float .f64 a] w fun e w' => e = .returned (.agg #[.bool false, .float .f64 (waitV d)]) ∧ Keep (fun _ => False) w w' := by
  have c0 := blk_cell hb 0
  have c1 := blk_cell hb 1
  have c2 := blk_cell hb 2
  have c3 := blk_cell hb 3
  have c5 := blk_cell hb 5
  have hz := lt_of_block hb
  simp at c0 c1 c2 c3 c5
  have HS := Lib.hid hs
  clear hb hs
  refine wait_ways k1 k2 k3 k4 hd ?_
  clear k3 k4 hd
  intro x z hx k3 hd k4 hz1 hz2
  have HZ : Hid (waitV d = z) := hz2.symm
  clear hz2
  have o1 : ∀ t w, (binOp .sub t (.float .f64 linger) (.float .f64 x)).run Try.prog w = .ok (.float .f64 d) w := fun t w => run_float_arith w .sub t .f64 linger x d hd
  clear hd
  rcases hx with ⟨t1, rfl⟩ | ⟨t1, rfl⟩ <;> rcases k4 with k4 | ⟨k4, k5⟩ <;> rcases hz1 with ⟨t2, rfl⟩ | ⟨t2, rfl⟩
  all_goals
    go_enter Try.func12, Try.ntmps12
    go_wp2_with (first | (go_at_call 21; refine (there_any b _ (past hz c0 _)).mono ?_; rintro e w' ⟨rfl, rfl⟩) | (go_at_call 11; refine (want_ok (b := b) (past hz c0 _) (past hz c1 _) (past hz c5 _) HS.out h1 h2).mono ?_; rintro e w' ⟨rfl, rfl⟩))
    rw [HZ.out]
    exact bodyPost_ret (v := .agg #[.bool false, .float .f64 _]) (by simp [results, Try.results12, go_sem]) rfl ⟨rfl, (Keep.refl _ _).alloc _⟩

set_option maxHeartbeats 4000000 in
theorem plan3_wait {b : Nat} {most bytes n m : Int} {linger al a s d : Nat} {w : World} (hb : w.heap[b]? = some (.cells (rcells most bytes linger al s) 56 (0, 0)))
    (hs : Flt.Fin s) (h1 : 1 ≤ most) (h2 : most ≤ 256) (k1 : n < most) (k2 : m < bytes)
    (k3 : (FloatKind.f64.format.order (ageV a) linger == some .gt || FloatKind.f64.format.order (ageV a) linger == some .eq) = false) (k4 : n ≤ 0 ∨ n < wantV most s) (hd : floatBits .sub .f64 linger (ageV a) = some d) :
    Calls Try.prog 15 #[.pointer (some ⟨b, 0, none⟩), .int .i64 n, .int .i64 m, .float .f64 a] w fun e w' => e = .returned (.agg #[.bool false, .float .f64 (waitV d)]) ∧ Keep (fun _ => False) w w' := by
  have c0 := blk_cell hb 0
  have c1 := blk_cell hb 1
  have c2 := blk_cell hb 2
  have c4 := blk_cell hb 4
  have hz := lt_of_block hb
  simp at c0 c1 c2 c4
  have HS := Lib.hid hs
  clear hb hs
  refine wait_ways k1 k2 k3 k4 hd ?_
  clear k3 k4 hd
  intro x z hx k3 hd k4 hz1 hz2
  have HZ : Hid (waitV d = z) := hz2.symm
  clear hz2
  have o1 : ∀ t w, (binOp .sub t (.float .f64 linger) (.float .f64 x)).run Try.prog w = .ok (.float .f64 d) w := fun t w => run_float_arith w .sub t .f64 linger x d hd
  clear hd
  have e2 := ext_from
  rcases hx with ⟨t1, rfl⟩ | ⟨t1, rfl⟩ <;> rcases k4 with k4 | ⟨k4, k5⟩ <;> rcases hz1 with ⟨t2, rfl⟩ | ⟨t2, rfl⟩
  all_goals
    go_enter Try.func15, Try.ntmps15
    go_wp2_with (go_at_call 16; refine (want3_ok (b := b) (past hz c0 _) (past hz c4 _) HS.out h1 h2).mono ?_; rintro e w' ⟨rfl, rfl⟩)
    rw [HZ.out]
    exact bodyPost_ret (v := .agg #[.bool false, .float .f64 _]) (by simp [results, Try.results15, go_sem]) rfl ⟨rfl, (Keep.refl _ _).alloc _⟩

theorem plan_nil {n m : Int} {a : Nat} {w : World} :
    Calls Try.prog 12 #[.pointer none, .int .i64 n, .int .i64 m, .float .f64 a] w fun e w' => e = .returned (.agg #[.bool true, .float .f64 0]) ∧ Keep (fun _ => False) w w' := by
  go_enter Try.func12, Try.ntmps12
  go_wp2_with (go_at_call 21; refine (there_nil _).mono ?_; rintro e w' ⟨rfl, rfl⟩)
  exact bodyPost_ret (v := .agg #[.bool true, .float .f64 0]) (by simp [results, Try.results12, go_sem]) rfl ⟨rfl, (Keep.refl _ _).alloc _⟩
theorem want_nil {w : World} :
    Calls Try.prog 11 #[.pointer none] w fun e w' => e = .returned (.int .i64 1) ∧ w = w' := by
  go_enter Try.func11, Try.ntmps11
  go_wp2_with (go_at_call 21; refine (there_nil _).mono ?_; rintro e w' ⟨rfl, rfl⟩)
  go_ret
  exact ⟨rfl, rfl⟩
theorem of_any {most bytes : Int} {linger al : Nat} {w : World} :
    Calls Try.prog 7 #[.int .i64 most, .int .i64 bytes, .int .u64 linger, .int .u64 al] w fun e w' => e = .returned (params most bytes linger al) ∧ Keep (fun _ => False) w w' := by
  have e2 := ext_from
  go_enter Try.func7, Try.ntmps7
  go_wp2_with fail
  exact bodyPost_ret (v := params most bytes linger al) (by simp [results, Try.results7, go_sem]) rfl ⟨rfl, (Keep.refl _ _).alloc _⟩
end Go.Proofs.Ytafglefiodanbaa
