/- Package linear: finds. By an AI agent. -/
import Derived.Test.YtjiehgfamlidnaaLinG
import Derived.Test.YtjiehgfamlidnaaLinS
import Derived.Test.YtjiehgfamlidnaaLinP
namespace Go.Proofs.Ytjiehgfamlidnaa.Lin
open Go.ChangeShapes Go.WideShapes Go.ChangeAt Go.RowKit
open Md
set_option linter.unusedVariables false
set_option linter.unusedSimpArgs false

/-- Blocks that the search writes. -/
def MB (b bt : Nat) (ov : Value) (x : Nat) : Prop := x = b ∨ x = bt ∨ ov.ownBlock = some x

def ints (l : List Nat) : List Value := l.map fun (i : Nat) => Value.int .i64 (i : Int)
/-- The search in memory. -/
structure SM (w0 : World) (ps : List Past) (o : Option Addr) (cap b bb bt : Nat) (w : World) (ov : Value) (ord : List Nat) (most : Int) (n : Nat) (T : Key → Prop) : Prop where
  row : w.heap[b]? = some (.cells (srow o ps cap bb bt ov most) 75 (0, 0))
  bef : w.heap[bb]? = some (.cells (befs ps) 68 (0, 0))
  low : Below w0.heap.size w0 w
  hb : w0.heap.size ≤ b
  hbb : w0.heap.size ≤ bb
  hbt : w0.heap.size ≤ bt
  own : w.ownsRow w0.heap.size 3 1 ov ord.length (ints ord)
  tried : TM w bt n T

theorem own_at {w : World} {base n : Nat} {ov : Value} {L : List Value} {g : Nat} {e : TypeId} (h : w.ownsRow base e 1 ov n L) (hg : ov.ownBlock = some g) : base ≤ g ∧ ∃ cur, w.heap[g]? = some (.cells cur e (0, 0)) := by
  rcases h.2 with ⟨rfl, -⟩ | ⟨g', cap, cur, rfl, h1, h2, -⟩
  · cases hg
  · cases hg
    exact ⟨h1, cur, h2⟩
theorem SM.ne {w0 : World} {ps : List Past} {o : Option Addr} {cap b bb bt : Nat} {w : World} {ov : Value} {ord : List Nat} {most : Int} {n : Nat} {T : Key → Prop} (h : SM w0 ps o cap b bb bt w ov ord most n T) {g : Nat} (hg : ov.ownBlock = some g) : w0.heap.size ≤ g ∧ g < w.heap.size ∧ g ≠ b ∧ g ≠ bb ∧ g ≠ bt := by
  obtain ⟨h1, cur, h2⟩ := own_at h.own hg
  refine ⟨h1, lt_of_block h2, fun e => ?_, fun e => ?_, fun e => ?_⟩
  · rw [e, h.row] at h2; cases h2
  · rw [e, h.bef] at h2; cases h2
  · obtain ⟨D, ⟨es, clock, hb2, r⟩, _⟩ := h.tried
    rw [e, hb2] at h2; cases h2
theorem SM.apart {w0 : World} {ps : List Past} {o : Option Addr} {cap b bb bt : Nat} {w : World} {ov : Value} {ord : List Nat} {most : Int} {n : Nat} {T : Key → Prop} (h : SM w0 ps o cap b bb bt w ov ord most n T) : b ≠ bb ∧ b ≠ bt ∧ bb ≠ bt ∧ b < w.heap.size ∧ bb < w.heap.size ∧ bt < w.heap.size := by
  obtain ⟨D, ⟨es, clock, hb2, r⟩, _⟩ := h.tried
  refine ⟨fun e => ?_, fun e => ?_, fun e => ?_, lt_of_block h.row, lt_of_block h.bef, h.tried.lt⟩
  · have := h.row
    rw [e, h.bef] at this
    have h2 : (68 : TypeId) = 75 := congrArg (fun o => match o with | some (Obj.cells _ t _) => t | _ => 0) this
    exact absurd h2 (by decide)
  · have := h.row; rw [e, hb2] at this; cases this
  · have := h.bef; rw [e, hb2] at this; cases this
theorem SM.grow {w0 : World} {ps : List Past} {o : Option Addr} {cap b bb bt : Nat} {w w' : World} {ov : Value} {ord : List Nat} {most : Int} {n : Nat} {T : Key → Prop} (h : SM w0 ps o cap b bb bt w ov ord most n T) (k : Below w.heap.size w w') : SM w0 ps o cap b bb bt w' ov ord most n T :=
  ⟨(k.block _ (lt_of_block h.row)).trans h.row, (k.block _ (lt_of_block h.bef)).trans h.bef, h.low.trans (k.mono h.low.size), h.hb, h.hbb, h.hbt, row_below h.own k, tm_kept h.tried (Keep.of_below k) id⟩
theorem SM.seen {w0 : World} {ps : List Past} {o : Option Addr} {cap b bb bt : Nat} {w w' : World} {ov : Value} {ord : List Nat} {most : Int} {n n' : Nat} {T T' : Key → Prop} (h : SM w0 ps o cap b bb bt w ov ord most n T) (k : Keep (· = bt) w w') (t : TM w' bt n' T') : SM w0 ps o cap b bb bt w' ov ord most n' T' := by
  obtain ⟨a1, a2, a3, a4, a5, a6⟩ := h.apart
  refine ⟨k.same h.row a2, k.same h.bef a3, h.low.trans (k.below h.low.size (fun x hx => by have := h.hbt; omega)), h.hb, h.hbb, h.hbt, ?_, t⟩
  rcases hq : ov.ownBlock with _ | g
  · rcases h.own.2 with ⟨rfl, h0⟩ | ⟨g', cap, cur, rfl, h1, h2, -⟩
    · exact ⟨h.own.1, Or.inl ⟨rfl, h0⟩⟩
    · cases hq
  · have hne := h.ne hq
    have := h.own
    rcases this.2 with ⟨rfl, -⟩ | ⟨g', cap, cur, rfl, h1, h2, h3⟩
    · cases hq
    · cases hq
      exact ⟨this.1, Or.inr ⟨_, cap, cur, rfl, h1, k.same h2 hne.2.2.2.2, h3⟩⟩
/-- Where the order lies now: as before, or in a new block. -/
def Moved (w : World) (ov ov' : Value) : Prop := ov'.ownBlock = ov.ownBlock ∨ ∃ g, ov'.ownBlock = some g ∧ w.heap.size ≤ g

structure FP (w0 : World) (ps : List Past) (o : Option Addr) (cap b bb bt : Nat) (base most : Int) (w w' : World) (ov : Value) (ord : List Nat) (d : Nd) (n N : Nat) (T : Key → Prop) (ov' : Value) (ord' : List Nat) (n' : Nat) (T' : Key → Prop) : Prop where
  sm : SM w0 ps o cap b bb bt w' ov' ord' most n' T'
  cnt : n' ≤ n + N
  keep : Keep (MB b bt ov) w w'
  moved : Moved w ov ov'
  yes : fB ps d = true → ∃ l2 d2, ord' = ord ++ l2 ∧ Chain ps d l2 d2 ∧ Done ps d2 ∧ Best ps d l2
  no : fB ps d = false → ord' = ord ∧ ∀ x, T' x → T x ∨ DeadK ps base x

def cst : Nat → Nat
  | 0 => 0
  | h + 1 => 13 ^ h
theorem cst_le (h k : Nat) (hk : k ≤ 12) : 1 + k * cst h ≤ 13 ^ h := by
  cases h with
  | zero => simp [cst]
  | succ h =>
    have : 1 ≤ 13 ^ h := Nat.one_le_pow _ _ (by omega)
    have h2 : k * 13 ^ h ≤ 12 * 13 ^ h := Nat.mul_le_mul_right _ hk
    show 1 + k * 13 ^ h ≤ 13 ^ (h + 1)
    rw [Nat.pow_succ]
    omega
theorem cst_mul {h k j : Nat} (hk : k < j) : k * cst h + cst h ≤ j * cst h := by
  have : (k + 1) * cst h ≤ j * cst h := Nat.mul_le_mul_right _ hk
  rw [Nat.succ_mul] at this
  exact this

structure LI (w0 : World) (ps : List Past) (o : Option Addr) (cap b bb bt : Nat) (base most : Int) (W wr : World) (ov0 : Value) (ord : List Nat) (d : Nd) (n0 c k : Nat) (T : Key → Prop) (vo : Option Addr) (ov : Value) (n' : Nat) (T' : Key → Prop) : Prop where
  sm : SM w0 ps o cap b bb bt wr ov ord most n' T'
  cnt : n' ≤ n0 + k * c
  keep : Keep (MB b bt ov0) W wr
  moved : Moved W ov0 ov
  val : SrcB (MB b bt ov) wr vo d.m.2
  tr : ∀ x, T' x → T x ∨ x = d.k ∨ DeadK ps base x
  dead : ∀ j, j < k → ∀ dj, putF ps d j = some dj → Dead ps dj

theorem srcb_grow {bad : Nat → Prop} {w w' : World} {o : Option Addr} {bs : List (List Nat)} (h : SrcB bad w o bs) (k : Below w.heap.size w w') : SrcB bad w' o bs := h.keep (Keep.of_below k) (fun _ _ h => h.elim)
theorem LI.grow {w0 : World} {ps : List Past} {o : Option Addr} {cap b bb bt : Nat} {base most : Int} {W wr wr' : World} {ov0 : Value} {ord : List Nat} {d : Nd} {n0 c k : Nat} {T : Key → Prop} {vo : Option Addr} {ov : Value} {n' : Nat} {T' : Key → Prop} (h : LI w0 ps o cap b bb bt base most W wr ov0 ord d n0 c k T vo ov n' T') (g : Below wr.heap.size wr wr') : LI w0 ps o cap b bb bt base most W wr' ov0 ord d n0 c k T vo ov n' T' :=
  ⟨h.sm.grow g, h.cnt, h.keep.trans ((Keep.of_below g).mono (fun _ _ h => h.elim)), h.moved, srcb_grow h.val g, h.tr, h.dead⟩
theorem LI.none {w0 : World} {ps : List Past} {o : Option Addr} {cap b bb bt : Nat} {base most : Int} {W wr : World} {ov0 : Value} {ord : List Nat} {d : Nd} {n0 c k : Nat} {T : Key → Prop} {vo : Option Addr} {ov : Value} {n' : Nat} {T' : Key → Prop} (h : LI w0 ps o cap b bb bt base most W wr ov0 ord d n0 c k T vo ov n' T') (hq : putF ps d k = none) : LI w0 ps o cap b bb bt base most W wr ov0 ord d n0 c (k + 1) T vo ov n' T' :=
  ⟨h.sm, Nat.le_trans h.cnt (Nat.add_le_add_left (Nat.mul_le_mul_right _ (Nat.le_succ _)) _), h.keep, h.moved, h.val, h.tr, fun j hj dj hdj => by
    rcases Nat.lt_succ_iff_lt_or_eq.1 hj with h' | rfl
    · exact h.dead j h' dj hdj
    · rw [hq] at hdj; cases hdj⟩
theorem LI.done {w0 : World} {ps : List Past} {o : Option Addr} {cap b bb bt : Nat} {base most : Int} {w W wr : World} {ov0 : Value} {ord l : List Nat} {d : Nd} {n h : Nat} {T : Key → Prop} {vo : Option Addr} {ov : Value} {n' : Nat} {T' : Key → Prop} (hL : LI w0 ps o cap b bb bt base most W wr ov0 ord d (n + 1) (cst h) ps.length T vo ov n' T')
    (hn : ps.length ≤ 12) (h1 : 1 ≤ base) (h2 : base ≤ topN) (hc : Chain ps (nd0 base) l d) (hnd : ¬ Done ps d) (k : Keep (MB b bt ov0) w W) : fB ps d = false ∧ FP w0 ps o cap b bb bt base most w wr ov0 ord d n (13 ^ h) T ov ord n' T' := by
  have hdead : Dead ps d := dead_all hnd fun j hj dj hdj => hL.dead j hj dj hdj
  have hf := fB_false.2 hdead
  refine ⟨hf, hL.sm, ?_, k.trans hL.keep, ?_, (fun h => by rw [hf] at h; cases h), fun _ => ⟨rfl, fun x hx => ?_⟩⟩
  · have := cst_le h ps.length hn
    have := hL.cnt
    omega
  · rcases hL.moved with h | ⟨g, h1, h2⟩
    · exact Or.inl h
    · exact Or.inr ⟨g, h1, Nat.le_trans k.size h2⟩
  · rcases hL.tr x hx with h | rfl | h
    · exact Or.inl h
    · exact Or.inr (dead_key h1 h2 hn hc hdead)
    · exact Or.inr h
theorem MB.moved {w : World} {b bt : Nat} {ov ov' : Value} (h : Moved w ov ov') {x : Nat} (hx : MB b bt ov' x) : MB b bt ov x ∨ w.heap.size ≤ x := by
  rcases hx with rfl | rfl | hx
  · exact Or.inl (Or.inl rfl)
  · exact Or.inl (Or.inr (Or.inl rfl))
  · rcases h with h | ⟨g, h1, h2⟩
    · exact Or.inl (Or.inr (Or.inr (by rw [← h]; exact hx)))
    · rw [h1] at hx; cases hx; exact Or.inr h2
theorem Moved.trans {w w' : World} {a b c : Value} (h : Moved w a b) (h' : Moved w' b c) (hs : w.heap.size ≤ w'.heap.size) : Moved w a c := by
  rcases h' with h' | ⟨g, h1, h2⟩
  · rcases h with h | ⟨g, h1, h2⟩
    · exact Or.inl (h'.trans h)
    · exact Or.inr ⟨g, h'.trans h1, h2⟩
  · exact Or.inr ⟨g, h1, Nat.le_trans hs h2⟩
theorem Moved.mono {w w' : World} {a b : Value} (h : Moved w' a b) (hs : w.heap.size ≤ w'.heap.size) : Moved w a b := Moved.trans (Or.inl rfl : Moved w a a) h hs
theorem SM.mb_lt {w0 : World} {ps : List Past} {o : Option Addr} {cap b bb bt : Nat} {most : Int} {w : World} {ov : Value} {ord : List Nat} {n : Nat} {T : Key → Prop} (h : SM w0 ps o cap b bb bt w ov ord most n T) {x : Nat} (hx : MB b bt ov x) : x < w.heap.size := by
  have ha := h.apart
  rcases hx with rfl | rfl | hx
  · exact ha.2.2.2.1
  · exact ha.2.2.2.2.2
  · exact (h.ne hx).2.1
theorem SrcB.keep2 {bad bad2 : Nat → Prop} {w w' : World} {o : Option Addr} {bs : List (List Nat)} (h : SrcB bad w o bs) (k : Keep bad2 w w') (hs : ∀ x, bad2 x → bad x ∨ w.heap.size ≤ x) : SrcB bad w' o bs :=
  h.keep k (fun x hx hb => (hs x hb).elim id (fun h => by omega))
theorem SrcB.widen {bad bad2 : Nat → Prop} {w : World} {o : Option Addr} {bs : List (List Nat)} (h : SrcB bad w o bs) (hs : ∀ x, bad2 x → bad x ∨ w.heap.size ≤ x) : SrcB bad2 w o bs :=
  h.sub (fun x hx hb => (hs x hb).elim id (fun h => by omega))
/-- The order's slice is written anew. -/
theorem SM.set4 {w0 : World} {ps : List Past} {o : Option Addr} {cap b bb bt : Nat} {most : Int} {w w' : World} {ov ov2 : Value} {ord ord2 : List Nat} {n : Nat} {T : Key → Prop} (h : SM w0 ps o cap b bb bt w ov ord most n T) (k : Keep (fun x => ov.ownBlock = some x) w w') (hown : w'.ownsRow w0.heap.size 3 1 ov2 ord2.length (ints ord2)) :
    SM w0 ps o cap b bb bt (w'.setCell ⟨b, 4, none⟩ ov2) ov2 ord2 most n T ∧ Keep (MB b bt ov) w (w'.setCell ⟨b, 4, none⟩ ov2) := by
  have ha := h.apart
  have hrow : w'.heap[b]? = _ := k.same h.row (fun e => (h.ne e).2.2.1 rfl)
  have hbef : w'.heap[bb]? = _ := k.same h.bef (fun e => (h.ne e).2.2.2.1 rfl)
  have hkk : Keep (MB b bt ov) w (w'.setCell ⟨b, 4, none⟩ ov2) := Keep.setCell (bs := MB b bt ov) (k.mono (cs := MB b bt ov) (fun x _ hx => Or.inr (Or.inr hx))) (p := ⟨b, 4, none⟩) (Or.inl (Or.inl rfl)) _
  have k4 : Keep (· = b) w' (w'.setCell ⟨b, 4, none⟩ ov2) := Keep.setCell (bs := (· = b)) (Keep.refl _ w') (p := ⟨b, 4, none⟩) (Or.inl rfl) _
  refine ⟨⟨?_, k4.same hbef (fun e => ha.1 e.symm), h.low.trans (hkk.below h.low.size (fun x hx => ?_)), h.hb, h.hbb, h.hbt, ?_, ?_⟩, hkk⟩
  · have := blk_set hrow 4 ov2
    exact this
  · rcases hx with rfl | rfl | hx
    · exact h.hb
    · exact h.hbt
    · exact (h.ne hx).1
  · rcases hown.2 with ⟨rfl, h0⟩ | ⟨g', cap', cur, rfl, h1, h2, h3⟩
    · exact ⟨hown.1, Or.inl ⟨rfl, h0⟩⟩
    · refine ⟨hown.1, Or.inr ⟨g', cap', cur, rfl, h1, k4.same h2 (fun e => ?_), h3⟩⟩
      rw [e, hrow] at h2
      cases h2
  · exact tm_kept (tm_kept h.tried k (fun e => (h.ne e).2.2.2.2 rfl)) k4 (fun e => ha.2.1 e.symm)

structure Push (w0 : World) (ps : List Past) (o : Option Addr) (cap b bb bt : Nat) (most : Int) (wr w5 w6 : World) (OA OB : Obj) (ov' ov6 : Value) (ord2 : List Nat) (n' : Nat) (T' : Key → Prop) : Prop where
  sm : SM w0 ps o cap b bb bt (w6.setCell ⟨b, 4, none⟩ ov6) ov6 ord2 most n' T'
  keep : Keep (MB b bt ov') wr (w6.setCell ⟨b, 4, none⟩ ov6)
  boxA : (w6.setCell ⟨b, 4, none⟩ ov6).heap[w5.heap.size]? = some OA
  boxB : (w6.setCell ⟨b, 4, none⟩ ov6).heap[w5.heap.size + 1]? = some OB
  cell : w6.cell? ⟨b, 4, none⟩ = some ov'
  free : w6.frozen? ⟨b, 4, none⟩ = false
  src : ∀ o5 bs1, SrcB (fun x => x < wr.heap.size) w5 o5 bs1 → SrcB (MB b bt ov6) (w6.setCell ⟨b, 4, none⟩ ov6) o5 bs1
  moved : Moved wr ov' ov6

theorem push {w0 : World} {ps : List Past} {o : Option Addr} {cap b bb bt : Nat} {most : Int} {wr w5 w6 : World} {OA OB OC : Obj} {ov' : Value} {ord : List Nat} {n' k g cap' : Nat} {T' : Key → Prop} (hS : SM w0 ps o cap b bb bt wr ov' ord most n' T') (hb5 : Below wr.heap.size wr w5)
    (hown6 : w6.ownsRow w0.heap.size 3 1 (.slice (some ⟨g, 0, none⟩) (ord.length + 1) cap') (ord.length + 1) (ints ord ++ [.int .i64 (k : Int)])) (hgr6 : (((w5.alloc OA).alloc OB).alloc OC).grownBy w6 ov'.ownBlock)
    (hblk6 : ov'.ownBlock = some g ∨ g = w5.heap.size + 1 + 1 + 1) :
    Push w0 ps o cap b bb bt most wr w5 w6 OA OB ov' (.slice (some ⟨g, 0, none⟩) (ord.length + 1) cap') (ord ++ [k]) n' T' := by
  have hsz := hb5.size
  have hc3 : (((w5.alloc OA).alloc OB).alloc OC).heap.size = w5.heap.size + 1 + 1 + 1 := by simp
  have hbc : Below wr.heap.size wr (((w5.alloc OA).alloc OB).alloc OC) := ((hb5.alloc hsz _).alloc (by simp; omega) _).alloc (by simp; omega) _
  have hSc := hS.grow hbc
  have hkc : Keep (fun x => ov'.ownBlock = some x) (((w5.alloc OA).alloc OB).alloc OC) w6 := (Keep.refl _ _).grown hgr6 (fun x hx => Or.inl hx)
  have hown' : w6.ownsRow w0.heap.size 3 1 (.slice (some ⟨g, 0, none⟩) (ord.length + 1) cap') (ord ++ [k]).length (ints (ord ++ [k])) := by
    rw [List.length_append]
    unfold ints at hown6 ⊢
    rw [List.map_append]
    exact hown6
  obtain ⟨hsm, hkk⟩ := hSc.set4 hkc hown'
  have hkw : Keep (MB b bt ov') wr (w6.setCell ⟨b, 4, none⟩ (.slice (some ⟨g, 0, none⟩) (ord.length + 1) cap')) := ((Keep.of_below hbc).mono (fun _ _ h => h.elim)).trans hkk
  have hA : (((w5.alloc OA).alloc OB).alloc OC).heap[w5.heap.size]? = some OA := blk_alloc (blk_alloc (blk_new w5 _) _) _
  have hB : (((w5.alloc OA).alloc OB).alloc OC).heap[w5.heap.size + 1]? = some OB := blk_alloc (blk_new_at _ _ (by simp)) _
  have hlt : ∀ x, MB b bt ov' x → x < wr.heap.size := fun x hx => hS.mb_lt hx
  have hrow6 := hkc.same hSc.row (fun e => (hSc.ne e).2.2.1 rfl)
  have hmv : Moved w5 ov' (.slice (some ⟨g, 0, none⟩) (ord.length + 1) cap') := by
    rcases hblk6 with h | h
    · exact Or.inl h.symm
    · exact Or.inr ⟨g, rfl, by omega⟩
  refine ⟨hsm, hkw, hkk.same hA (fun hx => by have := hlt _ hx; omega), hkk.same hB (fun hx => by have := hlt _ hx; omega), blk_cell hrow6 4, blk_free hrow6 4, fun o5 bs1 hs => ?_, hmv.mono hsz⟩
  have e1 : SrcB (fun x => x < wr.heap.size ∨ w5.heap.size ≤ x) w5 o5 bs1 := hs.widen (fun x hx => hx)
  have e2 := e1.keep2 (Keep.of_below (((Below.refl w5.heap.size w5).alloc (Nat.le_refl _) OA).alloc (by simp) OB |>.alloc (by simp; omega) OC)) (fun x hx => hx.elim)
  have e3 := e2.keep2 hkk (fun x hx => Or.inl (Or.inl (hlt x hx)))
  exact e3.widen (fun x hx => by
    rcases MB.moved hmv hx with h | h
    · exact Or.inl (Or.inl (hlt x h))
    · exact Or.inl (Or.inr h))

theorem pop {w0 : World} {ps : List Past} {o : Option Addr} {cap b bb bt : Nat} {base most : Int} {W wr w5 w6 w7 : World} {OA OB : Obj} {ov0 ov' ov6 ov7 : Value} {ord ord7 : List Nat} {d d1 : Nd} {n0 n' n7 h k : Nat} {T T' T7 : Key → Prop} {vo : Option Addr} (hL : LI w0 ps o cap b bb bt base most W wr ov0 ord d n0 (13 ^ h) k T vo ov' n' T')
    (hp : Push w0 ps o cap b bb bt most wr w5 w6 OA OB ov' ov6 (ord ++ [k]) n' T') (hF : FP w0 ps o cap b bb bt base most (w6.setCell ⟨b, 4, none⟩ ov6) w7 ov6 (ord ++ [k]) d1 n' (13 ^ h) T' ov7 ord7 n7 T7) (hf : fB ps d1 = false) (hq : putF ps d k = some d1) :
    ∃ g7 cap7, ov7 = .slice (some ⟨g7, 0, none⟩) (ord.length + 1) cap7 ∧ w7.cell? ⟨b, 4, none⟩ = some (.slice (some ⟨g7, 0, none⟩) (ord.length + 1) cap7) ∧ w7.frozen? ⟨b, 4, none⟩ = false ∧ ord.length + 1 ≤ cap7 ∧
      LI w0 ps o cap b bb bt base most W (w7.setCell ⟨b, 4, none⟩ (.slice (some ⟨g7, 0, none⟩) ord.length cap7)) ov0 ord d n0 (13 ^ h) (k + 1) T vo (.slice (some ⟨g7, 0, none⟩) ord.length cap7) n7 T7 := by
  obtain ⟨rfl, hT7⟩ := hF.no hf
  obtain ⟨g7, cap7, rfl, hc7⟩ : ∃ g7 cap7, ov7 = .slice (some ⟨g7, 0, none⟩) (ord.length + 1) cap7 ∧ ord.length + 1 ≤ cap7 := by
    rcases hF.sm.own.2 with ⟨-, h0⟩ | ⟨g', cap', cur, e, h1, h2, h3, -⟩
    · simp at h0
    · exact ⟨g', cap', by rw [e]; simp, by simpa using h3⟩
  have hown : w7.ownsRow w0.heap.size 3 1 (.slice (some ⟨g7, 0, none⟩) ord.length cap7) ord.length (ints ord) := by
    have := hF.sm.own
    rw [List.length_append] at this
    unfold ints at this ⊢
    rw [List.map_append] at this
    exact ownsRow_pop (by simp) this
  obtain ⟨hsm, hkk⟩ := hF.sm.set4 (Keep.refl _ w7) hown
  have hm1 : Moved wr ov' (.slice (some ⟨g7, 0, none⟩) ord.length cap7) := hp.moved.trans (hF.moved) hp.keep.size
  have hkeep : Keep (fun x => MB b bt ov' x ∨ wr.heap.size ≤ x) wr (w7.setCell ⟨b, 4, none⟩ (.slice (some ⟨g7, 0, none⟩) ord.length cap7)) := by
    refine ((hp.keep.mono (fun x _ hx => Or.inl hx)).trans ((hF.keep).mono (fun x _ hx => MB.moved hp.moved hx))).trans (hkk.mono (fun x _ hx => ?_))
    rcases hx with rfl | rfl | hx
    · exact Or.inl (Or.inl rfl)
    · exact Or.inl (Or.inr (Or.inl rfl))
    · exact MB.moved hm1 (Or.inr (Or.inr hx))
  refine ⟨g7, cap7, rfl, blk_cell hF.sm.row 4, blk_free hF.sm.row 4, hc7, hsm, ?_, ?_, hL.moved.trans hm1 hL.keep.size, ?_, fun x hx => ?_, fun j hj dj hdj => ?_⟩
  · have := hF.cnt
    have := hL.cnt
    rw [Nat.succ_mul]
    omega
  · exact hL.keep.own hkeep (fun x hx => by
      rcases hx with hx | hx
      · exact MB.moved hL.moved hx
      · exact Or.inr (Nat.le_trans hL.keep.size hx))
  · have e1 : SrcB (fun x => MB b bt ov' x ∨ wr.heap.size ≤ x) wr vo d.m.2 := hL.val.widen (fun x hx => hx)
    exact (e1.keep2 hkeep (fun x hx => Or.inl hx)).widen (fun x hx => Or.inl (MB.moved hm1 hx))
  · rcases hT7 x hx with h | h
    · exact hL.tr x h
    · exact Or.inr (Or.inr h)
  · rcases Nat.lt_succ_iff_lt_or_eq.1 hj with h' | rfl
    · exact hL.dead j h' dj hdj
    · rw [hq] at hdj
      cases hdj
      exact fB_false.1 hf

theorem found {w0 : World} {ps : List Past} {o : Option Addr} {cap b bb bt : Nat} {base most : Int} {w W wr w5 w6 w7 : World} {OA OB : Obj} {ov0 ov' ov6 ov7 : Value} {ord ord7 : List Nat} {d d1 : Nd} {n n' n7 h k : Nat} {T T' T7 : Key → Prop} {vo : Option Addr} (hL : LI w0 ps o cap b bb bt base most W wr ov0 ord d (n + 1) (13 ^ h) k T vo ov' n' T')
    (hp : Push w0 ps o cap b bb bt most wr w5 w6 OA OB ov' ov6 (ord ++ [k]) n' T') (hF : FP w0 ps o cap b bb bt base most (w6.setCell ⟨b, 4, none⟩ ov6) w7 ov6 (ord ++ [k]) d1 n' (13 ^ h) T' ov7 ord7 n7 T7) (hf : fB ps d1 = true) (hq : putF ps d k = some d1)
    (hk : k < 12) (hkp : k < ps.length) (hnd : ¬ Done ps d) (kk : Keep (MB b bt ov0) w W) : fB ps d = true ∧ FP w0 ps o cap b bb bt base most w w7 ov0 ord d n (13 ^ (h + 1)) T ov7 ord7 n7 T7 := by
  obtain ⟨l2, d2, rfl, hc2, hd2, hb2⟩ := hF.yes hf
  have hf' : fB ps d = true := fB_true.2 fun hdead => hdead (k :: l2) d2 (Chain.cons hkp hq hc2) hd2
  have hm1 : Moved wr ov' ov7 := hp.moved.trans hF.moved hp.keep.size
  have hkeep : Keep (fun x => MB b bt ov' x ∨ wr.heap.size ≤ x) wr w7 := (hp.keep.mono (fun x _ hx => Or.inl hx)).trans ((hF.keep).mono (fun x _ hx => MB.moved hp.moved hx))
  refine ⟨hf', hF.sm, ?_, ?_, (hL.moved.trans hm1 hL.keep.size).mono kk.size, fun _ => ⟨k :: l2, d2, by simp, Chain.cons hkp hq hc2, hd2, best_cons hnd hL.dead hq hb2⟩, (fun h => by rw [hf'] at h; cases h)⟩
  · have e1 := hF.cnt
    have e2 := hL.cnt
    have e3 := cst_mul (h := h + 1) hk
    have e4 := cst_le (h + 1) 12 (Nat.le_refl _)
    have e5 : cst (h + 1) = 13 ^ h := rfl
    rw [e5] at e3 e4
    omega
  · exact kk.trans (hL.keep.own hkeep (fun x hx => by
      rcases hx with hx | hx
      · exact MB.moved hL.moved hx
      · exact Or.inr (Nat.le_trans hL.keep.size hx)))

theorem info_int : (Try.prog.info? 3).map (fun i => (i.zero, i.size, i.bytes)) = some (some (.int .i64 0), 1, 8) := by kernel_rfl
theorem len12 {ls : List Int} (h : ls.length = 12) : ∃ l0 l1 l2 l3 l4 l5 l6 l7 l8 l9 l10 l11, ls = [l0, l1, l2, l3, l4, l5, l6, l7, l8, l9, l10, l11] := by
  match ls, h with
  | [l0, l1, l2, l3, l4, l5, l6, l7, l8, l9, l10, l11], _ => exact ⟨_, _, _, _, _, _, _, _, _, _, _, _, rfl⟩
theorem kc12 (st : Nat) (l0 l1 l2 l3 l4 l5 l6 l7 l8 l9 l10 l11 : Int) : kcells ⟨st, [l0, l1, l2, l3, l4, l5, l6, l7, l8, l9, l10, l11]⟩ = #[.int .u64 (st : Int), .int .i64 l0, .int .i64 l1, .int .i64 l2, .int .i64 l3, .int .i64 l4, .int .i64 l5, .int .i64 l6, .int .i64 l7, .int .i64 l8, .int .i64 l9, .int .i64 l10, .int .i64 l11] := rfl
theorem blk_keep {w w' : World} {b : Nat} {o : Obj} (k : Below w.heap.size w w') (h : w.heap[b]? = some o) : w'.heap[b]? = some o := (k.block _ (lt_of_block h)).trans h
theorem and_all (st al : Nat) (hs : st < 4096) (ha : al < 4096) : (bits BinOp.and IntKind.u64 (st : Int) (al : Int) = (al : Int)) ↔ ∀ j, al.testBit j = true → st.testBit j = true := by
  rw [bits_and_u64_nat st al (by omega) (by omega)]
  constructor
  · intro h j hj
    have h1 : st &&& al = al := by exact_mod_cast h
    have := congrArg (fun x => x.testBit j) h1
    simp [Nat.testBit_and, hj] at this
    exact this
  · intro h
    have : st &&& al = al := by
      apply Nat.eq_of_testBit_eq
      intro j
      rw [Nat.testBit_and]
      cases hj : al.testBit j
      · simp
      · simp [h j hj]
    rw [this]

theorem kok {ps : List Past} {base : Int} {l : List Nat} {d : Nd} (h1 : 1 ≤ base) (h2 : base ≤ topN) (h12 : ps.length ≤ 12) (h : Chain ps (nd0 base) l d) : KOk d.k ∧ d.k.set < 4096 ∧ d.m.2.length ≤ 12 := by
  have hs := h.set_lt h12
  have hg := good_of h1 h2 h12 h
  have hl := h.len
  refine ⟨⟨by omega, hg.lens, fun x hx => ?_⟩, hs, ?_⟩
  · have := h.nums (inv_new base h1 h2) (by
      intro y hy
      simp only [nd0, List.mem_replicate] at hy
      rw [hy.2]; decide) x hx
    simp only [Lit.wf, IntKind.min, IntKind.max, IntKind.signed, IntKind.bits, Bool.and_eq_true, decide_eq_true_eq, if_true, Bool.false_eq_true, if_false]
    unfold topN at this
    omega
  · rw [hg.count]
    have := List.countP_le_length (p := fun i => effA (ps.getD i zP)) (l := l)
    omega

set_option maxRecDepth 100000 in
set_option maxHeartbeats 16000000 in
theorem finds_any {w0 : World} {ps : List Past} {o : Option Addr} {cap b bb bt : Nat} {base most : Int} (hP : Ps w0 o ps) (hn : ps.length ≤ 12) (h1 : 1 ≤ base) (h2 : base ≤ topN) : ∀ (h : Nat) (l : List Nat) (d : Nd), l.length + h = 12 → Chain ps (nd0 base) l d → ∀ (w : World) (ov : Value) (ord : List Nat) (n : Nat) (T : Key → Prop) (v : Value), SM w0 ps o cap b bb bt w ov ord most n T → Mv (MB b bt ov) w v d.m → TInv ps base T d.k.set → ord.length + h ≤ 12 → n + 13 ^ h ≤ 4611686018427387904 →
    Calls Try.prog 27 #[.pointer (some ⟨b, 0, none⟩), v, .agg (kcells d.k)] w fun e w' => e = .returned (.bool (fB ps d)) ∧ RowKit.Hid (∃ ov' ord' n' T', FP w0 ps o cap b bb bt base most w w' ov ord d n (13 ^ h) T ov' ord' n' T') := by
  intro h
  induction h using Nat.strongRecOn with
  | _ h ih =>
  intro l d hl hc w ov ord n T v hS hm hT hord hcnt
  obtain ⟨hK, hset, hml⟩ := kok h1 h2 hn hc
  have hInv := (good_of h1 h2 hn hc).inv
  have HIH := Lib.hid ih
  have HC := Lib.hid (And.intro hP (And.intro hn (And.intro h1 (And.intro h2 (And.intro hl (And.intro hc (And.intro hT (And.intro hord (And.intro hcnt (And.intro hK (And.intro hset (And.intro hml hInv))))))))))))
  have HD := Lib.hid (and_all d.k.set (allOf ps) hset (Nat.lt_of_lt_of_le (mask_lt _ _) (Nat.le_trans (Nat.pow_le_pow_right (by omega) hn) (by decide))))
  refine (show ∀ Q : Ending → World → Prop, (∀ e w', (e = .returned (.bool (fB ps d)) ∧ RowKit.Hid (∃ ov' ord' n' T', FP w0 ps o cap b bb bt base most w w' ov ord d n (13 ^ h) T ov' ord' n' T')) → Q e w') → Calls Try.prog 27 #[.pointer (some ⟨b, 0, none⟩), v, .agg (kcells d.k)] w Q from ?_) _ (fun _ _ h => h)
  intro Q hQ
  have HQ := Lib.hid hQ
  clear hQ
  obtain ⟨vo, vc, rfl, hSB⟩ := hm
  have HSB := Lib.hid hSB
  have HS := Lib.hid hS
  have hKl := hK.2.1
  obtain ⟨⟨s, bs⟩, ⟨st, ls⟩⟩ := d
  simp only at hKl
  obtain ⟨l0, l1, l2, l3, l4, l5, l6, l7, l8, l9, l10, l11, rfl⟩ : ∃ l0 l1 l2 l3 l4 l5 l6 l7 l8 l9 l10 l11, ls = [l0, l1, l2, l3, l4, l5, l6, l7, l8, l9, l10, l11] := by
    match ls, hKl with
    | [l0, l1, l2, l3, l4, l5, l6, l7, l8, l9, l10, l11], _ => exact ⟨_, _, _, _, _, _, _, _, _, _, _, _, rfl⟩
  clear ih hP hn h1 h2 hl hc hT hord hcnt hK hset hml hInv hSB hS hKl
  show Calls Try.prog 27 #[.pointer (some ⟨b, 0, none⟩), .agg (cs s (.slice vo bs.length vc)), .agg #[.int .u64 (st : Int), .int .i64 l0, .int .i64 l1, .int .i64 l2, .int .i64 l3, .int .i64 l4, .int .i64 l5, .int .i64 l6, .int .i64 l7, .int .i64 l8, .int .i64 l9, .int .i64 l10, .int .i64 l11]] w Q
  simp only at HD HSB
  generalize hd : (⟨(s, bs), ⟨st, [l0, l1, l2, l3, l4, l5, l6, l7, l8, l9, l10, l11]⟩⟩ : Nd) = d at HC HQ
  have HDD := Lib.hid hd
  clear hd
  generalize hlb : bs.length = nb at *
  have HLB := Lib.hid hlb
  clear hlb
  unfold cs
  have hb2 : ∀ a b : Obj, Below w.heap.size w ((w.alloc a).alloc b) := fun a b => ((Below.refl _ w).alloc (Nat.le_refl _) a).alloc (by simp) b
  have HB2 := Lib.hid hb2
  clear hb2
  go_enter Try.func27, Try.ntmps27
  go_wp2_with fail
  obtain ⟨W, hW⟩ : ∃ W, W = (w.alloc (.cells #[.int .i64 s.base, .int .i64 s.first, .int .i64 s.durable, .int .i64 s.next, .int .i64 s.limit, .slice vo nb vc, .bool s.failed, .bool s.closed] 26)).alloc (.cells #[.int .u64 (st : Int), .int .i64 l0, .int .i64 l1, .int .i64 l2, .int .i64 l3, .int .i64 l4, .int .i64 l5, .int .i64 l6, .int .i64 l7, .int .i64 l8, .int .i64 l9, .int .i64 l10, .int .i64 l11] 71) := ⟨_, rfl⟩
  rw [← hW]
  have hKW : Below w.heap.size w W := by rw [hW]; exact HB2.out _ _
  have hA : W.heap[w.heap.size]? = some (.cells #[.int .i64 s.base, .int .i64 s.first, .int .i64 s.durable, .int .i64 s.next, .int .i64 s.limit, .slice vo nb vc, .bool s.failed, .bool s.closed] 26 (0, 0)) := by rw [hW]; exact blk_alloc (blk_new w _) _
  have hB : W.heap[w.heap.size + 1]? = some (.cells #[.int .u64 (st : Int), .int .i64 l0, .int .i64 l1, .int .i64 l2, .int .i64 l3, .int .i64 l4, .int .i64 l5, .int .i64 l6, .int .i64 l7, .int .i64 l8, .int .i64 l9, .int .i64 l10, .int .i64 l11] 71 (0, 0)) := by rw [hW]; exact blk_new_at _ _ (by simp)
  clear hW
  have k0 : W.cell? ⟨w.heap.size + 1, 0, none⟩ = some (.int .u64 (st : Int)) := blk_cell hB 0
  have r1 : W.cell? ⟨b, 1, none⟩ = some (.int .u64 ((allOf ps : Nat) : Int)) := blk_cell (HS.out.grow hKW).row 1
  have HW := Lib.hid (And.intro hKW (And.intro hA hB))
  clear hKW hA hB
  generalize hal : allOf ps = al at r1 HD
  have HAL := Lib.hid hal
  clear hal
  by_cases hdn : bits BinOp.and IntKind.u64 (st : Int) (al : Int) = (al : Int)
  · have d1 : (bits BinOp.and IntKind.u64 (st : Int) (al : Int) == (al : Int)) = true := by simp [hdn]
    have HN := Lib.hid (HD.out.1 hdn)
    clear hdn
    go_region
    go_wp2_with fail
    have hdone : Done ps d := by
      intro j hj
      rw [HAL.out] at hj
      rw [← HDD.out]
      exact HN.out j hj
    have hf : fB ps d = true := fB_true.2 fun hdead => hdead [] d (Chain.nil d) hdone
    refine HQ.out _ _ ⟨by rw [hf]; rfl, Lib.hid ⟨ov, ord, n, T, (HS.out.grow HW.out.1).grow ⟨rfl, rfl, rfl, Nat.le_refl _, fun _ _ => rfl⟩, Nat.le_add_right _ _, ?_, Or.inl rfl, fun _ => ⟨[], d, (List.append_nil _).symm, Chain.nil d, hdone, best_nil ps d⟩, (fun h => by rw [hf] at h; cases h)⟩⟩
    exact ((Keep.of_below HW.out.1).mono (fun _ _ h => h.elim)).drew
  · have d1 : (bits BinOp.and IntKind.u64 (st : Int) (al : Int) == (al : Int)) = false := by simpa using hdn
    have HN := Lib.hid (fun h => hdn (HD.out.2 h))
    clear hdn
    go_region
    have hWd : Below W.heap.size W W.drew := ⟨rfl, rfl, rfl, Nat.le_refl _, fun _ _ => rfl⟩
    have hS1 := (HS.out.grow HW.out.1).grow hWd
    have r3 : W.drew.cell? ⟨b, 3, none⟩ = some (.map (some bt)) := blk_cell hS1.row 3
    have HSE := Lib.hid (seen_any d.k r3 hS1.tried HC.out.2.2.2.2.2.2.2.2.2.1 (Nat.lt_of_lt_of_le (Nat.lt_add_of_pos_right (Nat.pow_pos (by omega))) HC.out.2.2.2.2.2.2.2.2.1))
    have HS1 := Lib.hid hS1
    have HKK : RowKit.Hid (.agg (kCells d.k.set d.k.lsns).toArray = Value.agg #[.int .u64 (st : Int), .int .i64 l0, .int .i64 l1, .int .i64 l2, .int .i64 l3, .int .i64 l4, .int .i64 l5, .int .i64 l6, .int .i64 l7, .int .i64 l8, .int .i64 l9, .int .i64 l10, .int .i64 l11]) := Lib.hid (by rw [← HDD.out]; rfl)
    rw [HKK.out] at HSE
    have HBO := Lib.hid (And.intro (blk_keep hWd HW.out.2.1) (And.intro (blk_keep hWd HW.out.2.2) (HW.out.1.trans (hWd.mono HW.out.1.size))))
    clear hWd hS1 r3 r1 k0 d1
    generalize W.drew = W1 at *
    have c0 := fun j => blk_cell HBO.out.2.1 j
    obtain ⟨k0, k1, k2, k3, k4, k5, k6, k7, k8, k9, k10, k11, k12⟩ : W1.cell? ⟨w.heap.size + 1, 0, none⟩ = some (.int .u64 (st : Int)) ∧ W1.cell? ⟨w.heap.size + 1, 1, none⟩ = some (.int .i64 l0) ∧ W1.cell? ⟨w.heap.size + 1, 2, none⟩ = some (.int .i64 l1) ∧ W1.cell? ⟨w.heap.size + 1, 3, none⟩ = some (.int .i64 l2) ∧ W1.cell? ⟨w.heap.size + 1, 4, none⟩ = some (.int .i64 l3) ∧ W1.cell? ⟨w.heap.size + 1, 5, none⟩ = some (.int .i64 l4) ∧ W1.cell? ⟨w.heap.size + 1, 6, none⟩ = some (.int .i64 l5) ∧ W1.cell? ⟨w.heap.size + 1, 7, none⟩ = some (.int .i64 l6) ∧ W1.cell? ⟨w.heap.size + 1, 8, none⟩ = some (.int .i64 l7) ∧ W1.cell? ⟨w.heap.size + 1, 9, none⟩ = some (.int .i64 l8) ∧ W1.cell? ⟨w.heap.size + 1, 10, none⟩ = some (.int .i64 l9) ∧ W1.cell? ⟨w.heap.size + 1, 11, none⟩ = some (.int .i64 l10) ∧ W1.cell? ⟨w.heap.size + 1, 12, none⟩ = some (.int .i64 l11) := ⟨c0 0, c0 1, c0 2, c0 3, c0 4, c0 5, c0 6, c0 7, c0 8, c0 9, c0 10, c0 11, c0 12⟩
    clear c0
    rcases hq : tB T d.k with _ | _
    · rw [hq] at HSE
      have HNT := Lib.hid hq
      clear hq
      go_wp2_with (go_at_call 40; refine HSE.out.mono ?_; intro e w2 h2; obtain ⟨rfl, ht2, hk2⟩ := h2; have R0 : w2.cell? ⟨b, 0, none⟩ = some (.slice o ps.length cap) := blk_cell (HS1.out.seen hk2 ht2).row 0; have H2 := Lib.hid (And.intro (HS1.out.seen hk2 ht2) (And.intro hk2 (And.intro (hk2.same HBO.out.1 (fun e => by have := HS.out.apart; omega)) (hk2.same HBO.out.2.1 (fun e => by have := HS.out.apart; omega))))); clear ht2 hk2)
      have hSB2 : SrcB (MB b bt ov) w2 vo bs := (HSB.out.keep (Keep.of_below HBO.out.2.2) (fun _ _ h => h.elim)).keep H2.out.2.1 (fun x _ hx => Or.inr (Or.inl hx))
      have hap := HS.out.apart
      have HTM : RowKit.Hid (∀ x, MB b bt ov x → x < w.heap.size) := Lib.hid fun x hx => by
        rcases hx with rfl | rfl | hx
        · exact hap.2.2.2.1
        · exact hap.2.2.2.2.2
        · exact (HS.out.ne hx).2.1
      have hst : LI w0 ps o cap b bb bt base most w2 w2 ov ord d (n + 1) (cst h) 0 T vo ov (n + 1) (fun k' => T k' ∨ k' = d.k) := ⟨H2.out.1, by omega, Keep.refl _ _, Or.inl rfl, by rw [← HDD.out]; exact hSB2, fun x hx => hx.elim Or.inl (fun h => Or.inr (Or.inl h)), fun j hj => absurd hj (by omega)⟩
      have HST := Lib.hid hst
      have HW12 := Lib.hid (show w.heap.size + 2 ≤ w2.heap.size from by have := H2.out.2.1.size; have := lt_of_block HBO.out.2.1; omega)
      clear hSB2 hap hst k0 k1 k2 k3 k4 k5 k6 k7 k8 k9 k10 k11 k12 HSE
      generalize hnp : ps.length = np at R0 ⊢
      have HNP := Lib.hid hnp
      have hnp12 : np ≤ 12 := by rw [← hnp]; exact HC.out.2.1
      clear hnp R0
      go_wp2_with fail
      go_loopg [31] np (fun gq i wr => ∃ k : Nat, gq + k = np ∧ i = .int .i64 (k : Int) ∧ Hid (∃ ov' n' T', LI w0 ps o cap b bb bt base most w2 wr ov ord d (n + 1) (cst h) k T vo ov' n' T'))
      case atStart => exact ⟨0, by omega, rfl, _, _, _, HST.out⟩
      case round =>
        obtain ⟨k, hgk, rfl, HK⟩ := hrel
        by_cases hk : k < np
        · obtain ⟨ov', n', T', hL⟩ := HK.out
          have HL := Lib.hid hL
          have hA : wr.heap[w.heap.size]? = some (.cells #[.int .i64 s.base, .int .i64 s.first, .int .i64 s.durable, .int .i64 s.next, .int .i64 s.limit, .slice vo nb vc, .bool s.failed, .bool s.closed] 26 (0, 0)) := HL.out.keep.same H2.out.2.2.1 (fun hx => by have := HTM.out _ hx; omega)
          have hB : wr.heap[w.heap.size + 1]? = some (.cells #[.int .u64 (st : Int), .int .i64 l0, .int .i64 l1, .int .i64 l2, .int .i64 l3, .int .i64 l4, .int .i64 l5, .int .i64 l6, .int .i64 l7, .int .i64 l8, .int .i64 l9, .int .i64 l10, .int .i64 l11] 71 (0, 0)) := HL.out.keep.same H2.out.2.2.2 (fun hx => by have := HTM.out _ hx; omega)
          have HAB := Lib.hid (And.intro hA hB)
          have c0 := fun j => blk_cell HAB.out.2 j
          have e0 := fun j => blk_cell HAB.out.1 j
          obtain ⟨k0, k1, k2, k3, k4, k5, k6, k7, k8, k9, k10, k11, k12⟩ : wr.cell? ⟨w.heap.size + 1, 0, none⟩ = some (.int .u64 (st : Int)) ∧ wr.cell? ⟨w.heap.size + 1, 1, none⟩ = some (.int .i64 l0) ∧ wr.cell? ⟨w.heap.size + 1, 2, none⟩ = some (.int .i64 l1) ∧ wr.cell? ⟨w.heap.size + 1, 3, none⟩ = some (.int .i64 l2) ∧ wr.cell? ⟨w.heap.size + 1, 4, none⟩ = some (.int .i64 l3) ∧ wr.cell? ⟨w.heap.size + 1, 5, none⟩ = some (.int .i64 l4) ∧ wr.cell? ⟨w.heap.size + 1, 6, none⟩ = some (.int .i64 l5) ∧ wr.cell? ⟨w.heap.size + 1, 7, none⟩ = some (.int .i64 l6) ∧ wr.cell? ⟨w.heap.size + 1, 8, none⟩ = some (.int .i64 l7) ∧ wr.cell? ⟨w.heap.size + 1, 9, none⟩ = some (.int .i64 l8) ∧ wr.cell? ⟨w.heap.size + 1, 10, none⟩ = some (.int .i64 l9) ∧ wr.cell? ⟨w.heap.size + 1, 11, none⟩ = some (.int .i64 l10) ∧ wr.cell? ⟨w.heap.size + 1, 12, none⟩ = some (.int .i64 l11) := ⟨c0 0, c0 1, c0 2, c0 3, c0 4, c0 5, c0 6, c0 7, c0 8, c0 9, c0 10, c0 11, c0 12⟩
          obtain ⟨a0, a1, a2, a3, a4, a5, a6, a7⟩ : wr.cell? ⟨w.heap.size, 0, none⟩ = some (.int .i64 s.base) ∧ wr.cell? ⟨w.heap.size, 1, none⟩ = some (.int .i64 s.first) ∧ wr.cell? ⟨w.heap.size, 2, none⟩ = some (.int .i64 s.durable) ∧ wr.cell? ⟨w.heap.size, 3, none⟩ = some (.int .i64 s.next) ∧ wr.cell? ⟨w.heap.size, 4, none⟩ = some (.int .i64 s.limit) ∧ wr.cell? ⟨w.heap.size, 5, none⟩ = some (.slice vo nb vc) ∧ wr.cell? ⟨w.heap.size, 6, none⟩ = some (.bool s.failed) ∧ wr.cell? ⟨w.heap.size, 7, none⟩ = some (.bool s.closed) := ⟨e0 0, e0 1, e0 2, e0 3, e0 4, e0 5, e0 6, e0 7⟩
          have hv : SrcB (MB b bt ov') wr vo bs := by have := HL.out.val; rw [← HDD.out] at this; exact this
          have hC := HC.out
          have hpu := put_any (v := .agg (cs s (.slice vo nb vc))) (m := (s, bs)) (k := ⟨st, [l0, l1, l2, l3, l4, l5, l6, l7, l8, l9, l10, l11]⟩) HL.out.sm.row HL.out.sm.bef (hC.1.keep HL.out.sm.low) hC.2.1 ⟨vo, vc, by rw [HLB.out], hv⟩ (by have := hC.2.2.2.2.2.2.2.2.2.2.2.2; rw [← HDD.out] at this; exact this) (by have := hC.2.2.2.2.2.2.2.2.2.2.2.1; rw [← HDD.out] at this; exact Nat.le_trans this (by omega)) rfl (by have := hC.2.2.2.2.2.2.2.2.2.2.1; rw [← HDD.out] at this; exact this) k (by rw [HNP.out]; exact hk)
          rw [HDD.out] at hpu
          unfold cs at hpu
          rw [show (kcells ⟨st, [l0, l1, l2, l3, l4, l5, l6, l7, l8, l9, l10, l11]⟩) = #[.int .u64 (st : Int), .int .i64 l0, .int .i64 l1, .int .i64 l2, .int .i64 l3, .int .i64 l4, .int .i64 l5, .int .i64 l6, .int .i64 l7, .int .i64 l8, .int .i64 l9, .int .i64 l10, .int .i64 l11] from rfl] at hpu
          have HPU := Lib.hid hpu
          clear hpu hC hv hL hA hB c0 e0
          rcases hq : putF ps d k with _ | d1
          · rw [hq] at HPU
            have HQN := Lib.hid hq
            clear hq
            go_wp2_with (go_at_call 41; refine HPU.out.mono ?_; intro e w5 h5; obtain ⟨⟨s5, o5, n5, c5, ⟨st5, ls5⟩, rfl, hl5⟩, hb5⟩ := h5; obtain ⟨m0, m1, m2, m3, m4, m5, m6, m7, m8, m9, m10, m11, rfl⟩ := len12 hl5; have H5 := Lib.hid hb5; clear hb5 hl5; rw [kc12]; unfold cs)
            go_roundg (gk - 1)
            case measure => omega
            case rel => exact ⟨k + 1, by omega, rfl, ov', n', T', (HL.out.none HQN.out).grow (((H5.out).alloc H5.out.size _).alloc (by have := H5.out.size; simp; omega) _)⟩
          · rw [hq] at HPU
            obtain ⟨⟨s1, bs1⟩, ⟨st1, ls1⟩⟩ := d1
            have hc1 : Chain ps (nd0 base) (l ++ [k]) ⟨(s1, bs1), ⟨st1, ls1⟩⟩ := HC.out.2.2.2.2.2.1.snoc (by rw [HNP.out]; exact hk) hq
            have hk1 := kok HC.out.2.2.1 HC.out.2.2.2.1 HC.out.2.1 hc1
            obtain ⟨m0, m1, m2, m3, m4, m5, m6, m7, m8, m9, m10, m11, rfl⟩ := len12 hk1.1.2.1
            have hpu2 : Calls Try.prog 41 _ wr fun e w' => ∃ o5 c5, e = .returned (.tuple #[.agg (cs s1 (.slice o5 bs1.length c5)), .agg #[.int .u64 (st1 : Int), .int .i64 m0, .int .i64 m1, .int .i64 m2, .int .i64 m3, .int .i64 m4, .int .i64 m5, .int .i64 m6, .int .i64 m7, .int .i64 m8, .int .i64 m9, .int .i64 m10, .int .i64 m11], .bool true]) ∧ RowKit.Hid (SrcB (fun x => x < wr.heap.size) w' o5 bs1 ∧ Below wr.heap.size wr w') := HPU.out.mono fun e w' h5 => by
              obtain ⟨⟨v5, rfl, o5, c5, rfl, hsb5⟩, hb5⟩ := h5
              exact ⟨o5, c5, rfl, Lib.hid ⟨hsb5, hb5⟩⟩
            have HPU2 := Lib.hid hpu2
            clear HPU hpu2
            generalize hd1 : (⟨(s1, bs1), ⟨st1, [m0, m1, m2, m3, m4, m5, m6, m7, m8, m9, m10, m11]⟩⟩ : Nd) = d1 at *
            have HD1 := Lib.hid hd1
            have HQN := Lib.hid (And.intro hq (And.intro hc1 hk1))
            clear hd1 hq hc1 hk1
            generalize hlb1 : bs1.length = nb1 at *
            have HLB1 := Lib.hid hlb1
            clear hlb1
            unfold cs at HPU2
            obtain ⟨h', rfl⟩ : ∃ h', h = h' + 1 := ⟨h - 1, by have := HQN.out.2.1.len; have := HC.out.2.2.2.2.1; have := HC.out.2.1; simp only [List.length_append, List.length_cons, List.length_nil] at *; omega⟩
            have HAP := Lib.hid HL.out.sm.apart
            obtain ⟨i0, hi0, hz0, hz1, hz2⟩ := info_parts info_int
            have HI0 := Lib.hid (And.intro hi0 (And.intro hz0 (And.intro hz1 hz2)))
            clear hi0 hz0 hz1 hz2
            generalize hno : ord.length = no at *
            have HNO := Lib.hid hno
            have hno12 : no ≤ 12 := by rw [← hno]; have := HC.out.2.2.2.2.2.2.2.1; omega
            clear hno
            rcases hf : fB ps d1 with _ | _
            · have HF1 := Lib.hid hf
              clear hf
              go_wp2_with (first
                | (go_at_call 41
                   refine HPU2.out.mono ?_
                   intro e w5 h5
                   obtain ⟨o5, c5, rfl, hh5⟩ := h5
                   have H5 := Lib.hid hh5.out
                   clear hh5
                   have HO5 := Lib.hid (fun (A B C : Obj) => (show (((w5.alloc A).alloc B).alloc C).ownsRow w0.heap.size 3 1 ov' no (ints ord) from by have := HL.out.sm.own; rw [HNO.out] at this; exact row_below this (((H5.out.2.alloc H5.out.2.size _).alloc (by have := H5.out.2.size; simp; omega) _).alloc (by have := H5.out.2.size; simp; omega) _)))
                   have R4 : ∀ A B : Obj, ((w5.alloc A).alloc B).cell? ⟨b, 4, none⟩ = some ov' := fun A B => blk_cell (HL.out.sm.grow ((H5.out.2.alloc H5.out.2.size _).alloc (by have := H5.out.2.size; simp; omega) _)).row 4)
                | (at_builtin
                   go_must (refine wpList_append_one _ rfl (.tmp 49) (.tmp 51) 44 rfl w0.heap.size 3 i0 (.int .i64 0) 8 Try.underlying44 HI0.out.1 HI0.out.2.1 HI0.out.2.2.1 HI0.out.2.2.2 rfl ov' no (ints ord) rfl (HO5.out _ _ _) ⟨w5.heap.size + 1 + 1, 0, none⟩ 1 (.int .i64 (k : Int)) rfl ?_ rfl ?_ ?_ ?_ ?_)))
              · exact blk_cell (blk_new_at _ _ (by simp)) 0
              · unfold maxLen; omega
              · omega
              · have := HL.out.sm.low.size
                have := H5.out.2.size
                simp
                omega
              · intro g cap' w6 hown6 hgr6 hblk6 hbase6
                have hP6 := push HL.out.sm H5.out.2 (by rw [HNO.out]; exact hown6) hgr6 hblk6
                rw [HNO.out] at hP6
                clear hown6 hgr6 hblk6 hbase6
                have HP6 := Lib.hid hP6
                have R46 := hP6.cell
                have F46 := hP6.free
                have y0 := fun j => blk_cell hP6.boxA j
                have y1 := fun j => blk_cell hP6.boxB j
                obtain ⟨q0, q1, q2, q3, q4, q5, q6, q7⟩ := And.intro (y0 0) (And.intro (y0 1) (And.intro (y0 2) (And.intro (y0 3) (And.intro (y0 4) (And.intro (y0 5) (And.intro (y0 6) (y0 7)))))))
                obtain ⟨p0, p1, p2, p3, p4, p5, p6, p7, p8, p9, p10, p11, p12⟩ := And.intro (y1 0) (And.intro (y1 1) (And.intro (y1 2) (And.intro (y1 3) (And.intro (y1 4) (And.intro (y1 5) (And.intro (y1 6) (And.intro (y1 7) (And.intro (y1 8) (And.intro (y1 9) (And.intro (y1 10) (And.intro (y1 11) (y1 12))))))))))))
                simp only [List.getElem?_toArray, List.getElem?_cons_zero, List.getElem?_cons_succ] at q0 q1 q2 q3 q4 q5 q6 q7 p0 p1 p2 p3 p4 p5 p6 p7 p8 p9 p10 p11 p12
                clear y0 y1
                have hC := HC.out
                have hL := HL.out
                have hcnt1 : n' + 13 ^ h' ≤ 4611686018427387904 := by
                  have e1 := cst_mul (h := h' + 1) (show k < 12 by omega)
                  have e2 := cst_le (h' + 1) 12 (Nat.le_refl _)
                  have e3 := hL.cnt
                  have e4 := hC.2.2.2.2.2.2.2.2.1
                  have e5 : cst (h' + 1) = 13 ^ h' := rfl
                  rw [e5] at e1 e2 e3
                  omega
                have hti : TInv ps base T' d1.k.set := fun x hx => by
                  rcases hL.tr x hx with h | rfl | h
                  · rcases hC.2.2.2.2.2.2.1 x h with h | h
                    · exact Or.inl h
                    · exact Or.inr (Nat.lt_trans h (put_lt HQN.out.1))
                  · exact Or.inr (put_lt HQN.out.1)
                  · exact Or.inl h
                have hmv : Mv (MB b bt (.slice (some ⟨g, 0, none⟩) (no + 1) cap')) (w6.setCell ⟨b, 4, none⟩ (.slice (some ⟨g, 0, none⟩) (no + 1) cap')) (.agg (cs s1 (.slice o5 nb1 c5))) d1.m := by
                  refine ⟨o5, c5, ?_, ?_⟩
                  · rw [← HD1.out]; simp only; rw [HLB1.out]
                  · have := HP6.out.src o5 bs1 H5.out.1
                    rw [← HD1.out]; exact this
                have hcall := HIH.out h' (by omega) (l ++ [k]) d1 (by have := hC.2.2.2.2.1; simp only [List.length_append, List.length_cons, List.length_nil]; omega) HQN.out.2.1 _ _ _ _ _ _ hP6.sm hmv hti (by have := hC.2.2.2.2.2.2.2.1; have := HNO.out; simp only [List.length_append, List.length_cons, List.length_nil]; omega) hcnt1
                unfold cs at hcall
                rw [HF1.out, show kcells d1.k = #[.int .u64 (st1 : Int), .int .i64 m0, .int .i64 m1, .int .i64 m2, .int .i64 m3, .int .i64 m4, .int .i64 m5, .int .i64 m6, .int .i64 m7, .int .i64 m8, .int .i64 m9, .int .i64 m10, .int .i64 m11] from by rw [← HD1.out]; rfl] at hcall
                have HCALL := Lib.hid hcall
                clear hcall hmv hti hcnt1 hC hL hP6
                go_wp2_with (go_at_call 27; refine HCALL.out.mono ?_; intro e w7 h7; obtain ⟨rfl, h7⟩ := h7; have H7 := Lib.hid h7.out; clear h7)
                obtain ⟨ov7, ord7, n7, T7, hF7⟩ := H7.out
                obtain ⟨g7, cap7, rfl, R7, F7, hc7, hL7⟩ := pop HL.out HP6.out hF7 HF1.out HQN.out.1
                rw [HNO.out] at R7 hL7 hc7
                have HL7 := Lib.hid hL7
                clear hL7 hF7 R46 F46 q0 q1 q2 q3 q4 q5 q6 q7 p0 p1 p2 p3 p4 p5 p6 p7 p8 p9 p10 p11 p12 HCALL H7
                go_region
                go_wp2_with fail
                go_roundg (gk - 1)
                case measure => omega
                case rel => exact ⟨k + 1, by omega, rfl, _, n7, T7, HL7.out.grow ⟨rfl, rfl, rfl, Nat.le_refl _, fun _ _ => rfl⟩⟩
            · have HF1 := Lib.hid hf
              clear hf
              go_wp2_with (first
                | (go_at_call 41
                   refine HPU2.out.mono ?_
                   intro e w5 h5
                   obtain ⟨o5, c5, rfl, hh5⟩ := h5
                   have H5 := Lib.hid hh5.out
                   clear hh5
                   have HO5 := Lib.hid (fun (A B C : Obj) => (show (((w5.alloc A).alloc B).alloc C).ownsRow w0.heap.size 3 1 ov' no (ints ord) from by have := HL.out.sm.own; rw [HNO.out] at this; exact row_below this (((H5.out.2.alloc H5.out.2.size _).alloc (by have := H5.out.2.size; simp; omega) _).alloc (by have := H5.out.2.size; simp; omega) _)))
                   have R4 : ∀ A B : Obj, ((w5.alloc A).alloc B).cell? ⟨b, 4, none⟩ = some ov' := fun A B => blk_cell (HL.out.sm.grow ((H5.out.2.alloc H5.out.2.size _).alloc (by have := H5.out.2.size; simp; omega) _)).row 4)
                | (at_builtin
                   go_must (refine wpList_append_one _ rfl (.tmp 49) (.tmp 51) 44 rfl w0.heap.size 3 i0 (.int .i64 0) 8 Try.underlying44 HI0.out.1 HI0.out.2.1 HI0.out.2.2.1 HI0.out.2.2.2 rfl ov' no (ints ord) rfl (HO5.out _ _ _) ⟨w5.heap.size + 1 + 1, 0, none⟩ 1 (.int .i64 (k : Int)) rfl ?_ rfl ?_ ?_ ?_ ?_)))
              · exact blk_cell (blk_new_at _ _ (by simp)) 0
              · unfold maxLen; omega
              · omega
              · have := HL.out.sm.low.size
                have := H5.out.2.size
                simp
                omega
              · intro g cap' w6 hown6 hgr6 hblk6 hbase6
                have hP6 := push HL.out.sm H5.out.2 (by rw [HNO.out]; exact hown6) hgr6 hblk6
                rw [HNO.out] at hP6
                clear hown6 hgr6 hblk6 hbase6
                have HP6 := Lib.hid hP6
                have R46 := hP6.cell
                have F46 := hP6.free
                have y0 := fun j => blk_cell hP6.boxA j
                have y1 := fun j => blk_cell hP6.boxB j
                obtain ⟨q0, q1, q2, q3, q4, q5, q6, q7⟩ := And.intro (y0 0) (And.intro (y0 1) (And.intro (y0 2) (And.intro (y0 3) (And.intro (y0 4) (And.intro (y0 5) (And.intro (y0 6) (y0 7)))))))
                obtain ⟨p0, p1, p2, p3, p4, p5, p6, p7, p8, p9, p10, p11, p12⟩ := And.intro (y1 0) (And.intro (y1 1) (And.intro (y1 2) (And.intro (y1 3) (And.intro (y1 4) (And.intro (y1 5) (And.intro (y1 6) (And.intro (y1 7) (And.intro (y1 8) (And.intro (y1 9) (And.intro (y1 10) (And.intro (y1 11) (y1 12))))))))))))
                simp only [List.getElem?_toArray, List.getElem?_cons_zero, List.getElem?_cons_succ] at q0 q1 q2 q3 q4 q5 q6 q7 p0 p1 p2 p3 p4 p5 p6 p7 p8 p9 p10 p11 p12
                clear y0 y1
                have hC := HC.out
                have hL := HL.out
                have hcnt1 : n' + 13 ^ h' ≤ 4611686018427387904 := by
                  have e1 := cst_mul (h := h' + 1) (show k < 12 by omega)
                  have e2 := cst_le (h' + 1) 12 (Nat.le_refl _)
                  have e3 := hL.cnt
                  have e4 := hC.2.2.2.2.2.2.2.2.1
                  have e5 : cst (h' + 1) = 13 ^ h' := rfl
                  rw [e5] at e1 e2 e3
                  omega
                have hti : TInv ps base T' d1.k.set := fun x hx => by
                  rcases hL.tr x hx with h | rfl | h
                  · rcases hC.2.2.2.2.2.2.1 x h with h | h
                    · exact Or.inl h
                    · exact Or.inr (Nat.lt_trans h (put_lt HQN.out.1))
                  · exact Or.inr (put_lt HQN.out.1)
                  · exact Or.inl h
                have hmv : Mv (MB b bt (.slice (some ⟨g, 0, none⟩) (no + 1) cap')) (w6.setCell ⟨b, 4, none⟩ (.slice (some ⟨g, 0, none⟩) (no + 1) cap')) (.agg (cs s1 (.slice o5 nb1 c5))) d1.m := by
                  refine ⟨o5, c5, ?_, ?_⟩
                  · rw [← HD1.out]; simp only; rw [HLB1.out]
                  · have := HP6.out.src o5 bs1 H5.out.1
                    rw [← HD1.out]; exact this
                have hcall := HIH.out h' (by omega) (l ++ [k]) d1 (by have := hC.2.2.2.2.1; simp only [List.length_append, List.length_cons, List.length_nil]; omega) HQN.out.2.1 _ _ _ _ _ _ hP6.sm hmv hti (by have := hC.2.2.2.2.2.2.2.1; have := HNO.out; simp only [List.length_append, List.length_cons, List.length_nil]; omega) hcnt1
                unfold cs at hcall
                rw [HF1.out, show kcells d1.k = #[.int .u64 (st1 : Int), .int .i64 m0, .int .i64 m1, .int .i64 m2, .int .i64 m3, .int .i64 m4, .int .i64 m5, .int .i64 m6, .int .i64 m7, .int .i64 m8, .int .i64 m9, .int .i64 m10, .int .i64 m11] from by rw [← HD1.out]; rfl] at hcall
                have HCALL := Lib.hid hcall
                clear hcall hmv hti hcnt1 hC hL hP6
                go_wp2_with (go_at_call 27; refine HCALL.out.mono ?_; intro e w7 h7; obtain ⟨rfl, h7⟩ := h7; have H7 := Lib.hid h7.out; clear h7)
                obtain ⟨ov7, ord7, n7, T7, hF7⟩ := H7.out
                obtain ⟨hf', hFP⟩ := found HL.out HP6.out hF7 HF1.out HQN.out.1 (by omega) (by rw [HNP.out]; exact hk) (by
                  intro hdone
                  refine HN.out fun j hj => ?_
                  have := hdone j (by rw [HAL.out]; exact hj)
                  rw [← HDD.out] at this
                  exact this) (((Keep.of_below HBO.out.2.2).mono (fun _ _ h => h.elim)).trans (H2.out.2.1.mono (fun x _ hx => Or.inr (Or.inl hx))))
                exact HQ.out _ _ ⟨by rw [hf']; rfl, Lib.hid ⟨ov7, ord7, n7, T7, hFP⟩⟩
        · obtain rfl : k = np := by omega
          obtain ⟨ov', n', T', hL⟩ := HK.out
          have HL := Lib.hid hL
          clear hL
          go_wp2_with fail
          have hC := HC.out
          rw [← HNP.out] at HL
          obtain ⟨hf, hFP⟩ := HL.out.done hC.2.1 hC.2.2.1 hC.2.2.2.1 hC.2.2.2.2.2.1 (by
            intro hdone
            refine HN.out fun j hj => ?_
            have := hdone j (by rw [HAL.out]; exact hj)
            rw [← HDD.out] at this
            exact this) (((Keep.of_below HBO.out.2.2).mono (fun _ _ h => h.elim)).trans (H2.out.2.1.mono (fun x _ hx => Or.inr (Or.inl hx))))
          exact HQ.out _ _ ⟨by rw [hf]; rfl, Lib.hid ⟨ov', ord, n', T', hFP⟩⟩
    · rw [hq] at HSE
      have HNT := Lib.hid hq
      clear hq
      go_wp2_with (go_at_call 40; refine HSE.out.mono ?_; intro e w2 h2; obtain ⟨rfl, ht2, hk2⟩ := h2; have H2 := Lib.hid (And.intro (HS1.out.seen hk2 ht2) hk2); clear ht2 hk2)
      have htk : T d.k := (tB_iff T d.k).1 HNT.out
      have hdk : DeadK ps base d.k := by
        rcases HC.out.2.2.2.2.2.2.1 d.k htk with h | h
        · exact h
        · omega
      have hdead : Dead ps d := hdk _ _ HC.out.2.2.2.2.2.1 rfl
      have hf : fB ps d = false := fB_false.2 hdead
      refine HQ.out _ _ ⟨by rw [hf]; rfl, Lib.hid ⟨ov, ord, n + 1, _, H2.out.1, Nat.add_le_add_left (Nat.one_le_pow _ _ (by omega)) n, ?_, Or.inl rfl, (fun h => by rw [hf] at h; cases h), fun _ => ⟨rfl, fun x hx => ?_⟩⟩⟩
      · exact ((Keep.of_below HBO.out.2.2).mono (fun _ _ h => h.elim)).trans (H2.out.2.mono (fun x _ hx => Or.inr (Or.inl hx)))
      · rcases hx with hx | rfl
        · exact Or.inl hx
        · exact Or.inl htk
end Go.Proofs.Ytjiehgfamlidnaa.Lin
