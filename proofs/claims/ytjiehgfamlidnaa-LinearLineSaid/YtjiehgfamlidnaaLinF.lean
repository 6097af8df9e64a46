/- Package linear: the search in memory. By an AI agent. -/
import Derived.Test.YtjiehgfamlidnaaLinE
import Derived.BigQuiet
import Derived.Deep.QuietTactic
import Derived.Deep.RegionHeld3
namespace Go.Proofs.Ytjiehgfamlidnaa.Lin
open Go.ChangeShapes Go.WideShapes Go.ChangeAt Go.RowKit
open Md
set_option linter.unusedVariables false
set_option linter.unusedSimpArgs false

def kcells (k : Key) : Array Value := (Value.int .u64 (k.set : Nat) :: k.lsns.map fun l => Value.int .i64 l).toArray
def befs (ps : List Past) : Array Value := ((List.range ps.length).map fun i => Value.int .u64 ((befOf ps i : Nat) : Int)).toArray
/-- The search's own block. -/
def srow (o : Option Addr) (ps : List Past) (cap bb bt : Nat) (ov : Value) (most : Int) : Array Value :=
  #[.slice o ps.length cap, .int .u64 ((allOf ps : Nat) : Int), .slice (some ⟨bb, 0, none⟩) ps.length ps.length, .map (some bt), ov, .int .i64 most]

def PutRes (O : Option Nd) (w : World) (e : Ending) (w' : World) : Prop :=
  (match O with
    | some d' => ∃ v', e = .returned (.tuple #[v', .agg (kcells d'.k), .bool true]) ∧ Mv (fun x => x < w.heap.size) w' v' d'.m
    | none => ∃ s o n c k', e = .returned (.tuple #[.agg (cs s (.slice o n c)), .agg (kcells k'), .bool false]) ∧ k'.lsns.length = 12) ∧ Below w.heap.size w w'

theorem befs_get (ps : List Past) (i : Nat) (h : i < ps.length) : (befs ps)[i]? = some (.int .u64 ((befOf ps i : Nat) : Int)) := by
  simp [befs, h]

theorem drewN_alloc (w : World) (o : Obj) (n : Nat) : (w.alloc o).drewN n = (w.drewN n).alloc o := rfl
theorem and_one (x m : Nat) (hx : x < 18446744073709551616) : bits BinOp.and IntKind.u64 ((x : Int) / 2 ^ m) 1 = ((x.testBit m).toNat : Int) := by
  have e : ((x : Int) / 2 ^ m) = ((x / 2 ^ m : Nat) : Int) := by push_cast; rfl
  have h := bits_and_u64_nat (x / 2 ^ m) 1 (Nat.lt_of_le_of_lt (Nat.div_le_self _ _) hx) (by omega)
  rw [e, show ((1 : Int)) = ((1 : Nat) : Int) from rfl, h, Nat.and_one_is_mod, Nat.toNat_testBit]
theorem andnot_zero (a b : Nat) (ha : a < 18446744073709551616) (hb : b < 18446744073709551616) : (bits BinOp.andNot IntKind.u64 (a : Int) (b : Int) = 0) ↔ ∀ j, a.testBit j = true → b.testBit j = true := by
  have h1 : (BitVec.ofInt 64 (a : Int)) = BitVec.ofNat 64 a := by rw [BitVec.ofInt_natCast]
  have h2 : (BitVec.ofInt 64 (b : Int)) = BitVec.ofNat 64 b := by rw [BitVec.ofInt_natCast]
  have hv : bits BinOp.andNot IntKind.u64 (a : Int) (b : Int) = ((BitVec.ofNat 64 a &&& ~~~ BitVec.ofNat 64 b).toNat : Int) := by
    show IntKind.u64.wrap ((BitVec.ofInt 64 (a : Int) &&& ~~~ BitVec.ofInt 64 (b : Int)).toNat : Int) = _
    rw [h1, h2, IntKind.wrap_u64]
    have := (BitVec.ofNat 64 a &&& ~~~ BitVec.ofNat 64 b).isLt
    omega
  rw [hv]
  constructor
  · intro h j hj
    have h0 : (BitVec.ofNat 64 a &&& ~~~ BitVec.ofNat 64 b) = 0#64 := by
      apply BitVec.eq_of_toNat_eq
      simpa using h
    have hj64 : j < 64 := by
      rcases Nat.lt_or_ge j 64 with h | h
      · exact h
      · have : a.testBit j = false := Nat.testBit_lt_two_pow (Nat.lt_of_lt_of_le ha (Nat.le_trans (by decide) (Nat.pow_le_pow_right (n := 2) (by omega) h)))
        rw [this] at hj; cases hj
    have h3 := congrArg (fun v => v.getLsbD j) h0
    simp only [BitVec.getLsbD_and, BitVec.getLsbD_not, BitVec.getLsbD_ofNat, hj64, hj, BitVec.getLsbD_zero, decide_true, Bool.true_and] at h3
    simpa using h3
  · intro h
    have h0 : (BitVec.ofNat 64 a &&& ~~~ BitVec.ofNat 64 b) = 0#64 := by
      apply BitVec.eq_of_getLsbD_eq
      intro j hj
      simp only [BitVec.getLsbD_and, BitVec.getLsbD_not, BitVec.getLsbD_ofNat, hj, BitVec.getLsbD_zero, decide_true, Bool.true_and]
      cases ha' : a.testBit j
      · simp
      · rw [h j ha']; simp
    rw [h0]; rfl

theorem made_size : (Try.prog.info? 71).map (·.size) = some 13 := by kernel_rfl
theorem results_put (tmps : Array Value) (w : World) (bo bk : Nat) (cm ck : Array Value) (v : Value) (h8 : tmps.getD 8 undef = .pointer (some ⟨bo, 0, none⟩)) (h9 : tmps.getD 9 undef = .pointer (some ⟨bk, 0, none⟩)) (h10 : tmps.getD 10 undef = v)
    (ho : w.heap[bo]? = some (.cells cm 26 (0, 0))) (hk : w.heap[bk]? = some (.cells ck 71 (0, 0))) (hc : cm.size = 8) (hc' : ck.size = 13) :
    (results Try.f41 tmps).run Try.prog w = .ok (.tuple #[.agg cm, .agg ck, v]) w := by
  have h1 := run_loadVar_row (P := Try.prog) w bo 26 26 cm (0, 0) _ ho Try.underlying26 rfl (by rw [model_size, hc])
  have h2 := run_loadVar_row (P := Try.prog) w bk 71 71 ck (0, 0) _ hk Try.underlying71 rfl (by rw [made_size, hc'])
  have e8 : tmps[8]?.getD undef = .pointer (some ⟨bo, 0, none⟩) := by simpa using h8
  have e9 : tmps[9]?.getD undef = .pointer (some ⟨bk, 0, none⟩) := by simpa using h9
  have e10 : tmps[10]?.getD undef = v := by simpa using h10
  simp [results, Try.results41, e8, e9, e10, asAddr, h1, h2]
theorem cell4 {w : World} {p : Addr} {v : Value} (h : w.cell? p = some v) (a b c d : Obj) : ((((w.alloc a).alloc b).alloc c).alloc d).cell? p = some v := by
  have k : Below w.heap.size w ((((w.alloc a).alloc b).alloc c).alloc d) := ((((Below.refl _ w).alloc (Nat.le_refl _) _).alloc (by simp) _).alloc (by simp; omega) _).alloc (by simp; omega) _
  exact (k.cell (cell_in h)).trans h
theorem below4 {w w0 : World} {a b c d : Obj} (h : Below w.heap.size w w0) : Below w.heap.size w ((((w0.alloc a).alloc b).alloc c).alloc d).drew := by
  have hz := h.size
  have k := (((h.alloc hz a).alloc (by simp; omega) b).alloc (by simp; omega) c).alloc (by simp; omega) d
  exact ⟨k.os, k.tape, k.output, k.size, k.block⟩

/-- Behind the step: its answer in a box. -/
structure Reg3 (O : Option St) (nW : Nat) (W wx : World) (b11 : Nat) (s' : S) (o' : Option Addr) (n' c' : Nat) : Prop where
  box : wx.heap[b11]? = some (.cells (cs s' (.slice o' n' c')) 26 (0, 0))
  new : nW ≤ b11
  keep : Below nW W wx
  good : ∀ m', O = some m' → s' = m'.1 ∧ n' = m'.2.length ∧ SrcB (fun x => x < nW) wx o' m'.2 

theorem heap_drew2 (w : World) : w.drew.drew.heap = w.heap := rfl
/-- Stores, one behind the other. -/
def setC (w : World) (b : Nat) : Nat → List Value → World
  | _, [] => w
  | i, v :: vs => setC (w.setCell ⟨b, i, none⟩ v) b (i + 1) vs
theorem setC_at {b : Nat} {t : TypeId} : ∀ (vs pre q : List Value) (w : World), q.length = vs.length → w.heap[b]? = some (.cells (pre ++ q).toArray t (0, 0)) → (setC w b pre.length vs).heap[b]? = some (.cells (pre ++ vs).toArray t (0, 0))
  | [], pre, q, w, h, hw => by
    have : q = [] := List.length_eq_zero_iff.1 h
    rw [this] at hw
    exact hw
  | v :: vs, pre, [], w, h, hw => by simp at h
  | v :: vs, pre, x :: q, w, h, hw => by
    have h1 := blk_set hw pre.length v
    have h2 : ((pre ++ x :: q).toArray.setIfInBounds pre.length v) = ((pre ++ [v]) ++ q).toArray := by
      rw [List.setIfInBounds_toArray, List.set_append]
      simp
    rw [h2] at h1
    have h3 := setC_at vs (pre ++ [v]) q _ (by simpa using h) h1
    simp only [List.length_append, List.length_cons, List.length_nil, Nat.zero_add, List.append_assoc, List.cons_append, List.nil_append] at h3
    exact h3
theorem setC_keep {b : Nat} : ∀ (vs : List Value) (i : Nat) (w : World), Keep (· = b) w (setC w b i vs)
  | [], _, w => Keep.refl _ w
  | v :: vs, i, w => (Keep.setCell (bs := (· = b)) (Keep.refl _ w) (p := ⟨b, i, none⟩) (Or.inl rfl) v).trans (setC_keep vs (i + 1) _)
/-- Two boxes written. -/
theorem setC_two {w : World} {b1 b2 : Nat} {t1 t2 : TypeId} {c1 c2 v1 v2 : List Value} (h1 : w.heap[b1]? = some (.cells c1.toArray t1 (0, 0))) (h2 : w.heap[b2]? = some (.cells c2.toArray t2 (0, 0))) (hn : b1 ≠ b2) (l1 : c1.length = v1.length) (l2 : c2.length = v2.length) :
    (setC (setC w b1 0 v1) b2 0 v2).heap[b1]? = some (.cells v1.toArray t1 (0, 0)) ∧ (setC (setC w b1 0 v1) b2 0 v2).heap[b2]? = some (.cells v2.toArray t2 (0, 0)) ∧ Keep (fun x => x = b1 ∨ x = b2) w (setC (setC w b1 0 v1) b2 0 v2) := by
  have a1 := setC_at v1 [] c1 w l1 h1
  have k1 := setC_keep (b := b1) v1 0 w
  have a2 := setC_at v2 [] c2 (setC w b1 0 v1) l2 (k1.same h2 (fun e => hn e.symm))
  have k2 := setC_keep (b := b2) v2 0 (setC w b1 0 v1)
  exact ⟨k2.same a1 hn, a2, (k1.mono (fun x _ h => Or.inl h)).trans (k2.mono (fun x _ h => Or.inr h))⟩
theorem kcells_get (k : Key) (i : Nat) (h : i < k.lsns.length) : (kcells k)[1 + i]? = some (.int .i64 (k.lsns.getD i 0)) := by
  rw [Nat.add_comm]
  simp [kcells, List.getD_eq_getElem?_getD, h]
theorem kcells_set (k : Key) (i : Nat) (v : Int) : (kcells k).setIfInBounds (1 + i) (.int .i64 v) = kcells ⟨k.set, k.lsns.set i v⟩ := by
  rw [Nat.add_comm]
  simp [kcells, List.map_set]
theorem or_bit (st i : Nat) (hs : st < 4096) (hi : i < 12) : bits BinOp.or IntKind.u64 (st : Int) (IntKind.u64.wrap (2 ^ i)) = ((st ||| 2 ^ i : Nat) : Int) := by
  have h2 : (2 : Nat) ^ i < 4096 := Nat.pow_lt_pow_right (m := i) (n := 12) (by omega) hi
  have h3 : (2 : Int) ^ i = ((2 ^ i : Nat) : Int) := by push_cast; rfl
  rw [h3]
  generalize (2 : Nat) ^ i = P at *
  have e : IntKind.u64.wrap (P : Int) = (P : Int) := by rw [IntKind.wrap_u64]; omega
  rw [e, bits_or_u64_nat st P (by omega) (by omega)]
theorem or_lt (st i : Nat) (hs : st < 4096) (hi : i < 12) : st ||| 2 ^ i < 4096 := Nat.or_lt_two_pow (n := 12) hs (Nat.pow_lt_pow_right (by omega) hi)
theorem reg3A {O : Option St} {W w5 : World} {s' : S} {o' : Option Addr} {n' c' : Nat} (h : Below W.heap.size W w5 ∧ ∀ m', O = some m' → s' = m'.1 ∧ n' = m'.2.length ∧ SrcB (fun x => x < W.drew.heap.size) w5 o' m'.2) :
    Reg3 O W.heap.size W (w5.alloc (.cells (cs s' (.slice o' n' c')) 26)) w5.heap.size s' o' n' c' := by
  obtain ⟨hb, hg⟩ := h
  refine ⟨blk_new w5 _, hb.size, hb.alloc hb.size _, fun m' hm => ?_⟩
  obtain ⟨e1, e2, e3⟩ := hg m' hm
  exact ⟨e1, e2, e3.keep (bad2 := fun _ => False) ((Keep.refl _ w5).alloc _) (fun _ _ h => h.elim)⟩
theorem reg3B {O : Option St} {W w5 : World} {X : Obj} {s' : S} {o' : Option Addr} {n' c' : Nat} {q : List Value} {Q : Prop} (hz : w5.heap[W.heap.size]? = some (.cells q.toArray 26 (0, 0))) (hq : q.length = 8)
    (h : Below W.heap.size W w5 ∧ (∀ m', O = some m' → s' = m'.1 ∧ n' = m'.2.length ∧ SrcB (fun x => x < (W.alloc X).drew.heap.size) w5 o' m'.2) ∧ Q) :
    Reg3 O W.heap.size W (setC w5 W.heap.size 0 [.int .i64 s'.base, .int .i64 s'.first, .int .i64 s'.durable, .int .i64 s'.next, .int .i64 s'.limit, .slice o' n' c', .bool s'.failed, .bool s'.closed]) W.heap.size s' o' n' c' := by
  obtain ⟨hb, hg, -⟩ := h
  have h7 := setC_at [.int .i64 s'.base, .int .i64 s'.first, .int .i64 s'.durable, .int .i64 s'.next, .int .i64 s'.limit, .slice o' n' c', .bool s'.failed, .bool s'.closed] [] q w5 hq hz
  have k := setC_keep (b := W.heap.size) [.int .i64 s'.base, .int .i64 s'.first, .int .i64 s'.durable, .int .i64 s'.next, .int .i64 s'.limit, .slice o' n' c', .bool s'.failed, .bool s'.closed] 0 w5
  refine ⟨h7, Nat.le_refl _, hb.trans (k.below hb.size (fun x hx => by omega)), fun m' hm => ?_⟩
  obtain ⟨e1, e2, e3⟩ := hg m' hm
  have hsz : (W.alloc X).drew.heap.size = W.heap.size + 1 := by show (W.alloc X).heap.size = _; simp
  exact ⟨e1, e2, (e3.keep k (fun x _ hx => by rw [hsz]; omega)).sub (fun x _ hx => by rw [hsz]; omega)⟩
theorem Ps.lt {w : World} {ab ao : Nat} {ps : List Past} (h : Ps w (some ⟨ab, ao, none⟩) ps) (i : Nat) (hi : i < ps.length) : ab < w.heap.size := by
  obtain ⟨ab', ao', e, od, cd, ord, crd, -, q0, -⟩ := h.at i hi
  cases e
  exact cell_in q0

theorem step_x {O : Option St} {w : World} {e : Ending} {w' : World} (h : StepRes O w e w') : ∃ (s' : S) (o' : Option Addr) (n' c' : Nat), e = .returned (.tuple #[.agg (cs s' (.slice o' n' c')), .bool O.isSome]) ∧ (∀ m', O = some m' → s' = m'.1 ∧ n' = m'.2.length ∧ SrcB (fun x => x < w.heap.size) w' o' m'.2) ∧ Below w.heap.size w w' := by
  obtain ⟨h, hb⟩ := h
  rcases O with _ | m'
  · exact ⟨zS, none, 0, 0, h, (fun m' h => by cases h), hb⟩
  · obtain ⟨v', rfl, o', c', rfl, hsb⟩ := h
    exact ⟨m'.1, o', m'.2.length, c', rfl, (fun m2 h2 => by cases h2; exact ⟨rfl, rfl, hsb⟩), hb⟩

end Go.Proofs.Ytjiehgfamlidnaa.Lin
