/- Contracts of the small functions of pace, gauge.Smooth and the references, over this program. By an AI agent. -/
import Derived.Test.YtafglefiodanbaaRows
import Derived.Test.YtafglefiodanbaaFlt
import Derived.WalkKit
import Derived.ProofKit
import Derived.OpenShut
import Derived.WalkLawsBesides
import Derived.Outline
import Derived.Handy
import Derived.Deep.QuietTactic
import Derived.BigQuiet
import Derived.Lib.Hide
import Derived.RegionCalls
import Derived.Deep.RegionWith
namespace Go.Proofs.Ytafglefiodanbaa
open Go.ChangeShapes Go.WideShapes Go.ChangeAt Go.RowKit
set_option linter.unusedVariables false

@[go_sem] theorem run_store_float (P : Program) (w : World) (a : Addr) (m : Mode) (k : FloatKind) (b : Nat) : (store a (.float k b) m).run P w = stored P w a (.float k b) m := run_store P w a _ m rfl

theorem ext_bits (x : Nat) (w : World) : (callFunc 25 #[.float .f64 x]).run Try.prog w = .ok (.value (.int .u64 x)) w := by kernel_rfl
theorem ext_from (x : Int) (w : World) : (callFunc 14 #[.int .u64 x]).run Try.prog w = .ok (.value (.float .f64 x.toNat)) w := by kernel_rfl

theorem bits_any (a b : Nat) (w : World) :
    Calls Try.prog 17 #[.float .f64 a, .float .f64 b] w fun e w' => e = .returned (.bool (decide (a = b))) ∧ w = w' := by
  have e1 := ext_bits
  go_enter Try.func17, Try.ntmps17
  go_wp2
  go_ret
  refine ⟨?_, rfl⟩
  congr 2
  by_cases h : a = b <;> simp [h]
  omega

theorem isnan_any (a : Nat) (w : World) :
    Calls Try.prog 18 #[.float .f64 a] w fun e w' => e = .returned (.bool (Flt.nan a)) ∧ w = w' := by
  go_enter Try.func18, Try.ntmps18
  go_wp2
  go_ret
  exact ⟨by rw [← Flt.fnan_eq]; rfl, rfl⟩

def canonF (a : Nat) : Nat := if Flt.nan a then 9221120237041090561 else a

theorem canon_any (a : Nat) (w : World) :
    Calls Try.prog 26 #[.float .f64 a] w fun e w' => e = .returned (.float .f64 (canonF a)) ∧ w = w' := by
  have e1 := ext_from
  cases hn : Flt.nan a
  · have hb : (FloatKind.f64.format.order a a != some .eq) = false := by rw [← hn, ← Flt.fnan_eq]; rfl
    have hc : canonF a = a := by unfold canonF; rw [hn]; rfl
    go_enter Try.func26, Try.ntmps26
    go_wp2
    go_ret
    exact ⟨by rw [hc]; rfl, rfl⟩
  · have hb : (FloatKind.f64.format.order a a != some .eq) = true := by rw [← hn, ← Flt.fnan_eq]; rfl
    have hc : canonF a = 9221120237041090561 := by unfold canonF; rw [hn]; rfl
    go_enter Try.func26, Try.ntmps26
    go_wp2
    go_ret
    exact ⟨by rw [hc]; rfl, rfl⟩

theorem and_low (a : Nat) : bits BinOp.and IntKind.u64 (a : Int) 9223372036854775807 = (Flt.rung a : Int) := by
  have h1 : (BitVec.ofInt 64 (a : Int)).toNat = a % 2 ^ 64 := by rw [BitVec.ofInt_natCast, BitVec.toNat_ofNat]
  have h2 : (BitVec.ofInt 64 9223372036854775807).toNat = 2 ^ 63 - 1 := by decide
  show IntKind.u64.wrap ((BitVec.ofInt 64 (a : Int) &&& BitVec.ofInt 64 9223372036854775807).toNat : Int) = _
  rw [BitVec.toNat_and, h1, h2, Nat.and_two_pow_sub_one_eq_mod, IntKind.wrap_u64]
  unfold Flt.rung
  omega

theorem andNot_top (a : Nat) : bits BinOp.andNot IntKind.u64 (a : Int) 9223372036854775808 = (Flt.rung a : Int) := by
  have h1 : (BitVec.ofInt 64 (a : Int)).toNat = a % 2 ^ 64 := by rw [BitVec.ofInt_natCast, BitVec.toNat_ofNat]
  have h2 : (~~~ (BitVec.ofInt 64 9223372036854775808)).toNat = 2 ^ 63 - 1 := by decide
  show IntKind.u64.wrap ((BitVec.ofInt 64 (a : Int) &&& ~~~ (BitVec.ofInt 64 9223372036854775808)).toNat : Int) = _
  rw [BitVec.toNat_and, h1, h2, Nat.and_two_pow_sub_one_eq_mod, IntKind.wrap_u64]
  unfold Flt.rung
  omega

theorem nan_dec (a : Nat) : decide (9218868437227405312 < bits BinOp.and IntKind.u64 (a : Int) 9223372036854775807) = Flt.nan a := by
  rw [and_low]
  unfold Flt.nan
  by_cases h : 2047 * 2 ^ 52 < Flt.rung a
  · have : (9218868437227405312 : Int) < (Flt.rung a : Int) := by omega
    simp [this, h]
  · have : ¬ (9218868437227405312 : Int) < (Flt.rung a : Int) := by omega
    simp [this, h]

theorem nan3_any (a : Nat) (w : World) :
    Calls Try.prog 29 #[.float .f64 a] w fun e w' => e = .returned (.bool (Flt.nan a)) ∧ w = w' := by
  have e1 := ext_bits
  go_enter Try.func29, Try.ntmps29
  go_wp2
  go_ret
  exact ⟨by rw [← nan_dec]; rfl, rfl⟩
theorem canon3_any (a : Nat) (w : World) :
    Calls Try.prog 30 #[.float .f64 a] w fun e w' => e = .returned (.float .f64 (canonF a)) ∧ w = w' := by
  have e2 := ext_from
  cases hn : Flt.nan a
  · have hc : canonF a = a := by unfold canonF; rw [hn]; rfl
    go_enter Try.func30, Try.ntmps30
    go_wp2_with (go_at_call 29; refine (nan3_any _ _).mono ?_; rintro e w' ⟨rfl, rfl⟩)
    go_ret
    exact ⟨by rw [hc]; rfl, rfl⟩
  · have hc : canonF a = 9221120237041090561 := by unfold canonF; rw [hn]; rfl
    go_enter Try.func30, Try.ntmps30
    go_wp2_with (go_at_call 29; refine (nan3_any _ _).mono ?_; rintro e w' ⟨rfl, rfl⟩)
    go_ret
    exact ⟨by rw [hc]; rfl, rfl⟩

theorem abs_any (a : Nat) (w : World) :
    Calls Try.prog 19 #[.float .f64 a] w fun e w' => e = .returned (.float .f64 (Flt.rung a)) ∧ w = w' := by
  have e1 := ext_bits
  have e2 := ext_from
  have e3 := andNot_top
  go_enter Try.func19, Try.ntmps19
  go_wp2
  go_ret
  exact ⟨rfl, rfl⟩

/-! ### what a call may have turned -/
/-- Of what was there only the blocks in 'bs' may have turned. -/
structure Keep (bs : Nat → Prop) (w w' : World) : Prop where
  os : w'.os = w.os
  tape : w'.tape = w.tape
  output : w'.output = w.output
  size : w.heap.size ≤ w'.heap.size
  block : ∀ k, k < w.heap.size → ¬ bs k → w'.heap[k]? = w.heap[k]?

theorem Keep.refl (bs : Nat → Prop) (w : World) : Keep bs w w := ⟨rfl, rfl, rfl, Nat.le_refl _, fun _ _ _ => rfl⟩
theorem Keep.trans {bs : Nat → Prop} {a b c : World} (h : Keep bs a b) (k : Keep bs b c) : Keep bs a c :=
  ⟨k.os.trans h.os, k.tape.trans h.tape, k.output.trans h.output, Nat.le_trans h.size k.size, fun i hi hn => (k.block i (Nat.lt_of_lt_of_le hi h.size) hn).trans (h.block i hi hn)⟩
theorem Keep.mono {bs cs : Nat → Prop} {w w' : World} (h : Keep bs w w') (hs : ∀ k, k < w.heap.size → bs k → cs k) : Keep cs w w' :=
  ⟨h.os, h.tape, h.output, h.size, fun k hk hn => h.block k hk fun hb => hn (hs k hk hb)⟩
theorem Keep.drewN {bs : Nat → Prop} {a w : World} (h : Keep bs a w) (n : Nat) : Keep bs a (w.drewN n) := h.trans ⟨rfl, rfl, rfl, Nat.le_refl _, fun _ _ _ => rfl⟩
theorem Keep.drew {bs : Nat → Prop} {a w : World} (h : Keep bs a w) : Keep bs a w.drew := h.trans ⟨rfl, rfl, rfl, Nat.le_refl _, fun _ _ _ => rfl⟩
theorem Keep.alloc {bs : Nat → Prop} {a w : World} (h : Keep bs a w) (o : Obj) : Keep bs a (w.alloc o) :=
  h.trans ⟨rfl, rfl, rfl, by simp, fun k hk _ => Below.heap_alloc _ _ _ hk⟩
theorem Keep.setCell {bs : Nat → Prop} {a w : World} (h : Keep bs a w) {p : Addr} (hp : bs p.block ∨ a.heap.size ≤ p.block) (u : Value) : Keep bs a (w.setCell p u) :=
  ⟨h.os, h.tape, h.output, by have := h.size; simpa [World.setCell] using this, fun k hk hn => (Below.heap_setCell _ _ _ _ (by rcases hp with hp | hp; (intro e; subst e; exact hn hp); omega)).trans (h.block k hk hn)⟩
theorem Keep.none {w w' : World} (h : Keep (fun _ => False) w w') : Below w.heap.size w w' := ⟨h.os, h.tape, h.output, h.size, fun k hk => h.block k hk id⟩
theorem Keep.below {bs : Nat → Prop} {B : Nat} {w w' : World} (h : Keep bs w w') (hB : B ≤ w.heap.size) (hs : ∀ k, bs k → B ≤ k) : Below B w w' :=
  ⟨h.os, h.tape, h.output, h.size, fun k hk => h.block k (by omega) fun hb => by have := hs k hb; omega⟩
theorem Keep.of_below {w w' : World} (h : Below w.heap.size w w') : Keep (fun _ => False) w w' := ⟨h.os, h.tape, h.output, h.size, fun k hk _ => h.block k hk⟩
theorem Keep.same {bs : Nat → Prop} {w w' : World} (h : Keep bs w w') {b : Nat} {o : Obj} (hb : w.heap[b]? = some o) (hn : ¬ bs b) : w'.heap[b]? = some o :=
  (h.block b (lt_of_block hb) hn).trans hb
theorem Keep.cell {bs : Nat → Prop} {w w' : World} (h : Keep bs w w') {p : Addr} (hp : p.block < w.heap.size) (hn : ¬ bs p.block) : w'.cell? p = w.cell? p := World.cell?_of_block (w := w) (h.block p.block hp hn)
theorem Keep.frozen {bs : Nat → Prop} {w w' : World} (h : Keep bs w w') {p : Addr} (hp : p.block < w.heap.size) (hn : ¬ bs p.block) : w'.frozen? p = w.frozen? p := World.frozen?_of_block (w := w) (h.block p.block hp hn)

/-- A block known whole: its cells; that they may be written; what it is behind a store. -/
theorem blk_cell {w : World} {b : Nat} {c : Array Value} {t : TypeId} (h : w.heap[b]? = some (.cells c t (0, 0))) (i : Nat) : w.cell? ⟨b, i, none⟩ = c[i]? := by simp [World.cell?, h]
theorem blk_free {w : World} {b : Nat} {c : Array Value} {t : TypeId} (h : w.heap[b]? = some (.cells c t (0, 0))) (i : Nat) : w.frozen? ⟨b, i, none⟩ = false := by simp [World.frozen?, h]
theorem blk_set {w : World} {b : Nat} {c : Array Value} {t : TypeId} (h : w.heap[b]? = some (.cells c t (0, 0))) (i : Nat) (u : Value) : (w.setCell ⟨b, i, none⟩ u).heap[b]? = some (.cells (c.setIfInBounds i u) t (0, 0)) := by
  have hlt := lt_of_block h
  have h' : w.heap[b] = .cells c t (0, 0) := by simpa [Array.getElem?_eq_getElem hlt] using h
  show (w.heap.modify b _)[b]? = _
  rw [Array.getElem?_eq_getElem (by simpa using hlt), Array.getElem_modify_self, h']
  rfl
theorem blk_new (w : World) (o : Obj) : (w.alloc o).heap[w.heap.size]? = some o := by
  show (w.heap.push o)[w.heap.size]? = _
  simp
theorem blk_alloc {w : World} {b : Nat} {x : Obj} (h : w.heap[b]? = some x) (o : Obj) : (w.alloc o).heap[b]? = some x := by
  rw [Below.heap_alloc _ _ _ (lt_of_block h)]; exact h

/-! ### gauge.Smooth and the reference's: the same steps -/
/-- What a step of smoothing asks: the shares that are let, plain numbers, valid operations. -/
structure Smo (v x al d y s : Nat) : Prop where
  h1 : (FloatKind.f64.format.order al 0 == some .gt) = true
  h2 : (FloatKind.f64.format.order al 4607182418800017408 == some .lt || FloatKind.f64.format.order al 4607182418800017408 == some .eq) = true
  hv : Flt.nan v = false
  hx : Flt.nan x = false
  hd : floatBits .sub .f64 x v = some d
  hy : floatBits .mul .f64 al d = some y
  hs : floatBits .add .f64 v y = some s

theorem smooth_ok {v x al d y s : Nat} (h : Smo v x al d y s) (w : World) :
    Calls Try.prog 22 #[.float .f64 v, .float .f64 x, .float .f64 al] w fun e w' => e = .returned (.tuple #[.float .f64 (canonF s), .int .i64 0]) ∧ w = w' := by
  obtain ⟨h1, h2, hv, hx, hd, hy, hs⟩ := h
  have o1 : ∀ t w, (binOp .sub t (.float .f64 x) (.float .f64 v)).run Try.prog w = .ok (.float .f64 d) w := fun t w => run_float_arith w .sub t .f64 x v d hd
  have o2 : ∀ t w, (binOp .mul t (.float .f64 al) (.float .f64 d)).run Try.prog w = .ok (.float .f64 y) w := fun t w => run_float_arith w .mul t .f64 al d y hy
  have o3 : ∀ t w, (binOp .add t (.float .f64 v) (.float .f64 y)).run Try.prog w = .ok (.float .f64 s) w := fun t w => run_float_arith w .add t .f64 v y s hs
  have v1 : (FloatKind.f64.format.order v v != some .eq) = false := by rw [← hv, ← Flt.fnan_eq]; rfl
  have x1 : (FloatKind.f64.format.order x x != some .eq) = false := by rw [← hx, ← Flt.fnan_eq]; rfl
  clear hv hx hd hy hs
  go_enter Try.func22, Try.ntmps22
  go_wp2_with (go_at_call 26; refine (canon_any _ _).mono ?_; rintro e w' ⟨rfl, rfl⟩)
  go_ret2
  exact ⟨rfl, rfl⟩

theorem smooth3_ok {v x al d y s : Nat} (h : Smo v x al d y s) (w : World) :
    Calls Try.prog 24 #[.float .f64 v, .float .f64 x, .float .f64 al] w fun e w' => e = .returned (.tuple #[.float .f64 (canonF s), .int .i64 0]) ∧ w = w' := by
  obtain ⟨h1, h2, hv, hx, hd, hy, hs⟩ := h
  have o1 : ∀ t w, (binOp .sub t (.float .f64 x) (.float .f64 v)).run Try.prog w = .ok (.float .f64 d) w := fun t w => run_float_arith w .sub t .f64 x v d hd
  have o2 : ∀ t w, (binOp .mul t (.float .f64 al) (.float .f64 d)).run Try.prog w = .ok (.float .f64 y) w := fun t w => run_float_arith w .mul t .f64 al d y hy
  have o3 : ∀ t w, (binOp .add t (.float .f64 v) (.float .f64 y)).run Try.prog w = .ok (.float .f64 s) w := fun t w => run_float_arith w .add t .f64 v y s hs
  clear hd hy hs
  go_enter Try.func24, Try.ntmps24
  go_wp2_with (first | (go_at_call 29; refine (nan3_any _ _).mono ?_; rintro e w' ⟨rfl, rfl⟩) | (go_at_call 30; refine (canon3_any _ _).mono ?_; rintro e w' ⟨rfl, rfl⟩))
  go_ret2
  exact ⟨rfl, rfl⟩

/-! ### a pace -/
abbrev pcells (most bytes : Int) (linger al want : Nat) : Array Value := #[.bool true, .int .i64 most, .int .i64 bytes, .float .f64 linger, .float .f64 al, .float .f64 want]
abbrev rcells (most bytes : Int) (linger al want : Nat) : Array Value := #[.int .i64 most, .int .i64 bytes, .float .f64 linger, .float .f64 al, .float .f64 want]

theorem there_any (b : Nat) (w : World) (hc : w.cell? ⟨b, 0, none⟩ = some (.bool true)) :
    Calls Try.prog 21 #[.pointer (some ⟨b, 0, none⟩)] w fun e w' => e = .returned (.bool true) ∧ w = w' := by
  go_enter Try.func21, Try.ntmps21
  go_wp2
  go_ret
  exact ⟨rfl, rfl⟩
theorem there_nil (w : World) :
    Calls Try.prog 21 #[.pointer none] w fun e w' => e = .returned (.bool false) ∧ w = w' := by
  go_enter Try.func21, Try.ntmps21
  go_wp2
  go_ret
  exact ⟨rfl, rfl⟩

theorem seen_ok {b : Nat} {most bytes n : Int} {linger al v d y s : Nat} {w : World} (hb : w.heap[b]? = some (.cells (pcells most bytes linger al v) 53 (0, 0)))
    (h1 : 1 ≤ n) (h2 : n ≤ most) (h : Smo v (floatOfInt .f64 n) al d y s) :
    Calls Try.prog 10 #[.pointer (some ⟨b, 0, none⟩), .int .i64 n] w fun e w' => e = .returned (.tuple #[]) ∧ Keep (· = b) w w' ∧ w'.heap[b]? = some (.cells (pcells most bytes linger al (canonF s)) 53 (0, 0)) := by
  have c0 := blk_cell hb 0
  have c1 := blk_cell hb 1
  have c4 := blk_cell hb 4
  have c5 := blk_cell hb 5
  have f5 := blk_free hb 5
  simp at c0 c1 c4 c5
  have H := Lib.hid h
  have HB := Lib.hid hb
  clear h hb
  go_enter Try.func10, Try.ntmps10
  go_wp2_with (go_at_call 21; refine (there_any _ _ (by assumption)).mono ?_; rintro e w' ⟨rfl, rfl⟩)
  go_quiet ((go_at_call 22; exact Calls.quiet_of_same ((smooth_ok H.out _).mono fun _ _ ⟨he, hw⟩ => ⟨he, hw.symm⟩)))
  go_wp2
  refine bodyPost_end (results_none rfl _ _ _) rfl ?_
  refine ⟨rfl, ((Keep.refl (· = b) w).drewN nq).setCell (p := ⟨b, 5, none⟩) (Or.inl rfl) _, ?_⟩
  exact blk_set (w := w.drewN nq) HB.out 5 _

theorem seen_out {b : Nat} {most n : Int} {w : World} (c0 : w.cell? ⟨b, 0, none⟩ = some (.bool true)) (c1 : w.cell? ⟨b, 1, none⟩ = some (.int .i64 most)) (h : n < 1 ∨ most < n) :
    Calls Try.prog 10 #[.pointer (some ⟨b, 0, none⟩), .int .i64 n] w fun e w' => e = .returned (.tuple #[]) ∧ w = w' := by
  by_cases h1 : n < 1
  · clear h
    go_enter Try.func10, Try.ntmps10
    go_wp2_with (go_at_call 21; refine (there_any _ _ (by assumption)).mono ?_; rintro e w' ⟨rfl, rfl⟩)
    refine bodyPost_ret (results_none rfl _ _ _) rfl ?_
    exact ⟨rfl, rfl⟩
  · have h2 : most < n := by omega
    clear h
    go_enter Try.func10, Try.ntmps10
    go_wp2_with (go_at_call 21; refine (there_any _ _ (by assumption)).mono ?_; rintro e w' ⟨rfl, rfl⟩)
    refine bodyPost_ret (results_none rfl _ _ _) rfl ?_
    exact ⟨rfl, rfl⟩
theorem seen_nil {n : Int} {w : World} :
    Calls Try.prog 10 #[.pointer none, .int .i64 n] w fun e w' => e = .returned (.tuple #[]) ∧ w = w' := by
  go_enter Try.func10, Try.ntmps10
  go_wp2_with (go_at_call 21; refine (there_nil _).mono ?_; rintro e w' ⟨rfl, rfl⟩)
  refine bodyPost_ret (results_none rfl _ _ _) rfl ?_
  exact ⟨rfl, rfl⟩

theorem seen3_ok {b : Nat} {most bytes n : Int} {linger al v d y s : Nat} {w : World} (hb : w.heap[b]? = some (.cells (rcells most bytes linger al v) 56 (0, 0)))
    (h1 : 1 ≤ n) (h2 : n ≤ most) (h : Smo v (floatOfInt .f64 n) al d y s) :
    Calls Try.prog 13 #[.pointer (some ⟨b, 0, none⟩), .int .i64 n] w fun e w' => e = .returned (.tuple #[]) ∧ Keep (· = b) w w' ∧ w'.heap[b]? = some (.cells (rcells most bytes linger al (canonF s)) 56 (0, 0)) := by
  have c0 := blk_cell hb 0
  have c3 := blk_cell hb 3
  have c4 := blk_cell hb 4
  have f4 := blk_free hb 4
  simp at c0 c3 c4
  have H := Lib.hid h
  have HB := Lib.hid hb
  clear h hb
  go_enter Try.func13, Try.ntmps13
  go_wp2_with fail
  go_region_with (go_at_call 24; refine (smooth3_ok H.out _).mono ?_; rintro e w' ⟨rfl, rfl⟩)
  all_goals
    go_wp2
    refine bodyPost_end (results_none rfl _ _ _) rfl ?_
    refine ⟨rfl, ((Keep.refl (· = b) w).setCell (p := ⟨b, 4, none⟩) (Or.inl rfl) _).drew, ?_⟩
    exact blk_set (w := w) HB.out 4 _
theorem seen3_out {b : Nat} {most n : Int} {w : World} (c0 : w.cell? ⟨b, 0, none⟩ = some (.int .i64 most)) (h : n < 1 ∨ most < n) :
    Calls Try.prog 13 #[.pointer (some ⟨b, 0, none⟩), .int .i64 n] w fun e w' => e = .returned (.tuple #[]) ∧ w = w' := by
  by_cases h1 : n < 1
  · clear h
    go_enter Try.func13, Try.ntmps13
    go_wp2_with fail
    refine bodyPost_end (results_none rfl _ _ _) rfl ?_
    exact ⟨rfl, rfl⟩
  · have h2 : most < n := by omega
    clear h
    go_enter Try.func13, Try.ntmps13
    go_wp2_with fail
    refine bodyPost_end (results_none rfl _ _ _) rfl ?_
    exact ⟨rfl, rfl⟩
end Go.Proofs.Ytafglefiodanbaa
