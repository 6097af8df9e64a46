/- Package linear: goes. By an AI agent. -/
import Derived.Test.YtjiehgfamlidnaaLinT
namespace Go.Proofs.Ytjiehgfamlidnaa.Lin
open Go.ChangeShapes Go.WideShapes Go.ChangeAt Go.RowKit
open Md
set_option linter.unusedVariables false
set_option linter.unusedSimpArgs false

theorem key_len {ps : List Past} {base : Int} {l1 l2 : List Nat} {d1 d2 : Nd} (c1 : Chain ps (nd0 base) l1 d1) (c2 : Chain ps (nd0 base) l2 d2) (hk : d1.k = d2.k) : l1.length = l2.length := by
  have b1 := c1.bits
  have b2 := c2.bits
  have hp : l1.Perm l2 := (List.perm_ext_iff_of_nodup b1.2.1 b2.2.1).2 fun j => by
    have e1 := b1.1 j
    have e2 := b2.1 j
    rw [hk, e2] at e1
    simp [nd0] at e1
    exact e1.symm
  exact hp.length_eq
/-- No chain that came to a noted key is longer than the most. -/
def LenOK (ps : List Past) (base : Int) (T : Key → Prop) (most : Int) : Prop := ∀ l d, Chain ps (nd0 base) l d → T d.k → (l.length : Int) ≤ most
theorem SM.set5 {w0 : World} {ps : List Past} {o : Option Addr} {cap b bb bt : Nat} {most : Int} {w : World} {n : Nat} {T : Key → Prop} (h : SM w0 ps o cap b bb bt w (.slice none 0 0) [] most n T) (m2 : Int) :
    SM w0 ps o cap b bb bt (w.setCell ⟨b, 5, none⟩ (.int .i64 m2)) (.slice none 0 0) [] m2 n T ∧ Keep (MB b bt (.slice none 0 0)) w (w.setCell ⟨b, 5, none⟩ (.int .i64 m2)) := by
  have ha := h.apart
  have k4 : Keep (· = b) w (w.setCell ⟨b, 5, none⟩ (.int .i64 m2)) := Keep.setCell (bs := (· = b)) (Keep.refl _ w) (p := ⟨b, 5, none⟩) (Or.inl rfl) _
  refine ⟨⟨?_, k4.same h.bef (fun e => ha.1 e.symm), h.low.trans (k4.below h.low.size (fun x hx => by have := h.hb; omega)), h.hb, h.hbb, h.hbt, ⟨rfl, Or.inl ⟨rfl, rfl⟩⟩, tm_kept h.tried k4 (fun e => ha.2.1 e.symm)⟩, k4.mono (fun x _ hx => Or.inl hx)⟩
  have := blk_set h.row 5 (.int .i64 m2)
  exact this

structure GP (w0 : World) (ps : List Past) (o : Option Addr) (cap b bb bt : Nat) (base most : Int) (w w' : World) (d : Nd) (n N : Nat) (T : Key → Prop) (most' : Int) (n' : Nat) (T' : Key → Prop) : Prop where
  sm : SM w0 ps o cap b bb bt w' (.slice none 0 0) [] most' n' T'
  cnt : n' ≤ n + N
  keep : Keep (MB b bt (.slice none 0 0)) w w'
  up : most ≤ most'
  top : most' ≤ max most (ps.length : Int)
  sub : ∀ x, T x → T' x
  mine : T' d.k
  clo : ∀ x, T' x → T x ∨ Clo ps base T' x
  len : LenOK ps base T' most'

structure GL (w0 : World) (ps : List Past) (o : Option Addr) (cap b bb bt : Nat) (base most : Int) (W wr : World) (d : Nd) (n0 c k : Nat) (T : Key → Prop) (vo : Option Addr) (most' : Int) (n' : Nat) (T' : Key → Prop) : Prop where
  sm : SM w0 ps o cap b bb bt wr (.slice none 0 0) [] most' n' T'
  cnt : n' ≤ n0 + k * c
  keep : Keep (MB b bt (.slice none 0 0)) W wr
  up : most ≤ most'
  top : most' ≤ max most (ps.length : Int)
  sub : ∀ x, T x ∨ x = d.k → T' x
  clo : ∀ x, T' x → T x ∨ x = d.k ∨ Clo ps base T' x
  kids : ∀ j, j < k → ∀ dj, putF ps d j = some dj → T' dj.k
  len : LenOK ps base T' most'
  val : SrcB (MB b bt (.slice none 0 0)) wr vo d.m.2

variable {w0 : World} {ps : List Past} {o : Option Addr} {cap b bb bt : Nat} {base most most' : Int} {W wr wr' : World} {d : Nd} {n n0 c k h : Nat} {T T' : Key → Prop} {vo : Option Addr} {n' : Nat}
theorem GL.grow (hL : GL w0 ps o cap b bb bt base most W wr d n0 c k T vo most' n' T') (g : Below wr.heap.size wr wr') : GL w0 ps o cap b bb bt base most W wr' d n0 c k T vo most' n' T' :=
  ⟨hL.sm.grow g, hL.cnt, hL.keep.trans ((Keep.of_below g).mono (fun _ _ h => h.elim)), hL.up, hL.top, hL.sub, hL.clo, hL.kids, hL.len, srcb_grow hL.val g⟩
theorem GL.skip (hL : GL w0 ps o cap b bb bt base most W wr d n0 c k T vo most' n' T') (hq : putF ps d k = none) : GL w0 ps o cap b bb bt base most W wr d n0 c (k + 1) T vo most' n' T' :=
  ⟨hL.sm, Nat.le_trans hL.cnt (Nat.add_le_add_left (Nat.mul_le_mul_right _ (Nat.le_succ _)) _), hL.keep, hL.up, hL.top, hL.sub, hL.clo, (fun j hj dj hdj => by
    rcases Nat.lt_succ_iff_lt_or_eq.1 hj with h' | rfl
    · exact hL.kids j h' dj hdj
    · rw [hq] at hdj; cases hdj), hL.len, hL.val⟩
theorem GL.next {w5 w7 : World} {d1 : Nd} {m7 : Int} {n7 : Nat} {T7 : Key → Prop} (hL : GL w0 ps o cap b bb bt base most W wr d n0 (13 ^ h) k T vo most' n' T') (g : Below wr.heap.size wr w5) (hq : putF ps d k = some d1)
    (hG : GP w0 ps o cap b bb bt base most' w5 w7 d1 n' (13 ^ h) T' m7 n7 T7) : GL w0 ps o cap b bb bt base most W w7 d n0 (13 ^ h) (k + 1) T vo m7 n7 T7 := by
  have kk := hL.keep.trans (((Keep.of_below g).mono (fun _ _ h => h.elim)).trans hG.keep)
  refine ⟨hG.sm, ?_, kk, Int.le_trans hL.up hG.up, ?_, fun x hx => hG.sub x (hL.sub x hx), fun x hx => ?_, fun j hj dj hdj => ?_, hG.len, ?_⟩
  · have := hG.cnt
    have := hL.cnt
    rw [Nat.succ_mul]
    omega
  · have := hG.top
    have := hL.top
    omega
  · rcases hG.clo x hx with h | h
    · rcases hL.clo x h with h | h | h
      · exact Or.inl h
      · exact Or.inr (Or.inl h)
      · exact Or.inr (Or.inr (h.mono hG.sub))
    · exact Or.inr (Or.inr h)
  · rcases Nat.lt_succ_iff_lt_or_eq.1 hj with h' | rfl
    · exact hG.sub _ (hL.kids j h' dj hdj)
    · rw [hq] at hdj
      cases hdj
      exact hG.mine
  · exact (srcb_grow hL.val g).keep hG.keep (fun x _ hx => hx)
theorem GL.done {w : World} {l : List Nat} {m0 : Int} (hL : GL w0 ps o cap b bb bt base m0 W wr d (n + 1) (cst h) ps.length T vo most' n' T') (hn : ps.length ≤ 12) (h1 : 1 ≤ base) (h2 : base ≤ topN) (hc : Chain ps (nd0 base) l d) (k : Keep (MB b bt (.slice none 0 0)) w W) (hm : m0 = max most (l.length : Int)) :
    GP w0 ps o cap b bb bt base most w wr d n (13 ^ h) T most' n' T' := by
  have hl := hc.len
  refine ⟨hL.sm, ?_, k.trans hL.keep, by have := hL.up; omega, by have := hL.top; omega, fun x hx => hL.sub x (Or.inl hx), hL.sub _ (Or.inr rfl), fun x hx => ?_, hL.len⟩
  · have := cst_le h ps.length hn
    have := hL.cnt
    omega
  · rcases hL.clo x hx with h | rfl | h
    · exact Or.inl h
    · refine Or.inr fun l' d' c' e i hi di hdi => ?_
      have := key_state h1 h2 hn c' hc e
      rw [this] at hdi
      exact hL.kids i hi di hdi
    · exact Or.inr h

set_option maxRecDepth 100000 in
set_option maxHeartbeats 16000000 in
theorem goes_any {w0 : World} {ps : List Past} {o : Option Addr} {cap b bb bt : Nat} {base : Int} (hP : Ps w0 o ps) (hn : ps.length ≤ 12) (h1 : 1 ≤ base) (h2 : base ≤ topN) : ∀ (hh : Nat) (l : List Nat) (d : Nd), l.length + hh = 12 → Chain ps (nd0 base) l d → ∀ (w : World) (n : Nat) (T : Key → Prop) (most : Int) (v : Value), SM w0 ps o cap b bb bt w (.slice none 0 0) [] most n T → Mv (MB b bt (.slice none 0 0)) w v d.m → LenOK ps base T most → 0 ≤ most → n + 13 ^ hh ≤ 4611686018427387904 →
    Calls Try.prog 31 #[.pointer (some ⟨b, 0, none⟩), v, .agg (kcells d.k), .int .i64 (l.length : Int)] w fun e w' => e = .returned (.tuple #[]) ∧ RowKit.Hid (∃ most' n' T', GP w0 ps o cap b bb bt base most w w' d n (13 ^ hh) T most' n' T') := by
  intro hh
  induction hh using Nat.strongRecOn with
  | _ hh ih =>
  intro l d hl hc w n T most v hS hm hT hmo hcnt
  obtain ⟨hK, hset, hml⟩ := kok h1 h2 hn hc
  have hInv := (good_of h1 h2 hn hc).inv
  have HIH := Lib.hid ih
  have HC := Lib.hid (And.intro hP (And.intro hn (And.intro h1 (And.intro h2 (And.intro hl (And.intro hc (And.intro hT (And.intro hmo (And.intro hcnt (And.intro hK (And.intro hset (And.intro hml hInv))))))))))))
  refine (show ∀ Q : Ending → World → Prop, (∀ e w', (e = .returned (.tuple #[]) ∧ RowKit.Hid (∃ most' n' T', GP w0 ps o cap b bb bt base most w w' d n (13 ^ hh) T most' n' T')) → Q e w') → Calls Try.prog 31 #[.pointer (some ⟨b, 0, none⟩), v, .agg (kcells d.k), .int .i64 (l.length : Int)] w Q from ?_) _ (fun _ _ hh => hh)
  intro Q hQ
  have HQ := Lib.hid hQ
  clear hQ
  obtain ⟨vo, vc, rfl, hSB⟩ := hm
  have HSB := Lib.hid hSB
  have HS := Lib.hid hS
  have hKl := hK.2.1
  obtain ⟨⟨s, bs⟩, ⟨st, ls⟩⟩ := d
  simp only at hKl
  obtain ⟨l0, l1, l2, l3, l4, l5, l6, l7, l8, l9, l10, l11, rfl⟩ : ∃ l0 l1 l2 l3 l4 l5 l6 l7 l8 l9 l10 l11, ls = [l0, l1, l2, l3, l4, l5, l6, l7, l8, l9, l10, l11] := by
    match ls, hKl with
    | [l0, l1, l2, l3, l4, l5, l6, l7, l8, l9, l10, l11], _ => exact ⟨_, _, _, _, _, _, _, _, _, _, _, _, rfl⟩
  clear ih hP hn h1 h2 hl hc hT hmo hcnt hK hset hml hInv hSB hS hKl
  show Calls Try.prog 31 #[.pointer (some ⟨b, 0, none⟩), .agg (cs s (.slice vo bs.length vc)), .agg #[.int .u64 (st : Int), .int .i64 l0, .int .i64 l1, .int .i64 l2, .int .i64 l3, .int .i64 l4, .int .i64 l5, .int .i64 l6, .int .i64 l7, .int .i64 l8, .int .i64 l9, .int .i64 l10, .int .i64 l11], .int .i64 (l.length : Int)] w Q
  simp only at HSB
  generalize hd : (⟨(s, bs), ⟨st, [l0, l1, l2, l3, l4, l5, l6, l7, l8, l9, l10, l11]⟩⟩ : Nd) = d at HC HQ
  have HDD := Lib.hid hd
  clear hd
  generalize hlb : bs.length = nb at *
  have HLB := Lib.hid hlb
  clear hlb
  unfold cs
  have hb2 : ∀ a b : Obj, Below w.heap.size w ((w.alloc a).alloc b) := fun a b => ((Below.refl _ w).alloc (Nat.le_refl _) a).alloc (by simp) b
  have HB2 := Lib.hid hb2
  clear hb2
  generalize hll : l.length = ll at *
  have HLL := Lib.hid hll
  have hll12 : ll ≤ 12 := by have := HC.out.2.2.2.2.1; omega
  clear hll
  go_enter Try.func31, Try.ntmps31
  have HSE := Lib.hid (fun (W : World) (kW : Below w.heap.size w W) => seen_any d.k (blk_cell (HS.out.grow kW).row 3) (HS.out.grow kW).tried HC.out.2.2.2.2.2.2.2.2.2.1 (Nat.lt_of_lt_of_le (Nat.lt_add_of_pos_right (Nat.pow_pos (by omega))) HC.out.2.2.2.2.2.2.2.2.1))
  have HKK : RowKit.Hid (.agg (kCells d.k.set d.k.lsns).toArray = Value.agg #[.int .u64 (st : Int), .int .i64 l0, .int .i64 l1, .int .i64 l2, .int .i64 l3, .int .i64 l4, .int .i64 l5, .int .i64 l6, .int .i64 l7, .int .i64 l8, .int .i64 l9, .int .i64 l10, .int .i64 l11]) := Lib.hid (by rw [← HDD.out]; rfl)
  rw [HKK.out] at HSE
  rcases hq : tB T d.k with _ | _
  · rw [hq] at HSE
    have HNT := Lib.hid hq
    clear hq
    go_wp2_with (go_at_call 40
                 refine (HSE.out _ (HB2.out _ _)).mono ?_
                 intro e w2 h2
                 obtain ⟨rfl, ht2, hk2⟩ := h2
                 have hS2 := (HS.out.grow (HB2.out (.cells #[.int .i64 s.base, .int .i64 s.first, .int .i64 s.durable, .int .i64 s.next, .int .i64 s.limit, .slice vo nb vc, .bool s.failed, .bool s.closed] 26) (.cells #[.int .u64 (st : Int), .int .i64 l0, .int .i64 l1, .int .i64 l2, .int .i64 l3, .int .i64 l4, .int .i64 l5, .int .i64 l6, .int .i64 l7, .int .i64 l8, .int .i64 l9, .int .i64 l10, .int .i64 l11] 71))).seen hk2 ht2
                 have R0 : w2.cell? ⟨b, 0, none⟩ = some (.slice o ps.length cap) := blk_cell hS2.row 0
                 have R5 : w2.cell? ⟨b, 5, none⟩ = some (.int .i64 most) := blk_cell hS2.row 5
                 have F5 : w2.frozen? ⟨b, 5, none⟩ = false := blk_free hS2.row 5
                 have H2 := Lib.hid (And.intro hS2 (And.intro hk2 (HB2.out (.cells #[.int .i64 s.base, .int .i64 s.first, .int .i64 s.durable, .int .i64 s.next, .int .i64 s.limit, .slice vo nb vc, .bool s.failed, .bool s.closed] 26) (.cells #[.int .u64 (st : Int), .int .i64 l0, .int .i64 l1, .int .i64 l2, .int .i64 l3, .int .i64 l4, .int .i64 l5, .int .i64 l6, .int .i64 l7, .int .i64 l8, .int .i64 l9, .int .i64 l10, .int .i64 l11] 71))))
                 clear ht2 hk2 hS2)
    case inl =>
      obtain ⟨hS3, hk3⟩ := H2.out.1.set5 (ll : Int)
      have hmax : (ll : Int) = max most (ll : Int) := by omega
      have hk23 : Keep (MB b bt (.slice none 0 0)) w (w2.setCell ⟨b, 5, none⟩ (.int .i64 (ll : Int))) := (((Keep.of_below H2.out.2.2).mono (fun _ _ hh => hh.elim)).trans (H2.out.2.1.mono (fun x _ hx => Or.inr (Or.inl hx)))).trans hk3
      have hSB3 : SrcB (MB b bt (.slice none 0 0)) (w2.setCell ⟨b, 5, none⟩ (.int .i64 (ll : Int))) vo bs := HSB.out.keep hk23 (fun x _ hx => hx)
      have hT3 : LenOK ps base (fun k' => T k' ∨ k' = d.k) (max most (ll : Int)) := fun l' d' c' hx => by
        rcases hx with hx | hx
        · have := HC.out.2.2.2.2.2.2.1 l' d' c' hx; omega
        · have := key_len c' HC.out.2.2.2.2.2.1 hx; have := HLL.out; omega
      have hst : GL w0 ps o cap b bb bt base (max most (ll : Int)) (w2.setCell ⟨b, 5, none⟩ (.int .i64 (ll : Int))) (w2.setCell ⟨b, 5, none⟩ (.int .i64 (ll : Int))) d (n + 1) (cst hh) 0 T vo (max most (ll : Int)) (n + 1) (fun k' => T k' ∨ k' = d.k) := ⟨by rw [← hmax]; exact hS3, by omega, Keep.refl _ _, Int.le_refl _, by omega, fun x hx => hx, fun x hx => hx.elim Or.inl (fun hh => Or.inr (Or.inl hh)), fun j hj => absurd hj (by omega), hT3, by rw [← HDD.out]; exact hSB3⟩
      have hA3 : (w2.setCell ⟨b, 5, none⟩ (.int .i64 (ll : Int))).heap[w.heap.size]? = some (.cells #[.int .i64 s.base, .int .i64 s.first, .int .i64 s.durable, .int .i64 s.next, .int .i64 s.limit, .slice vo nb vc, .bool s.failed, .bool s.closed] 26 (0, 0)) := hk3.same (H2.out.2.1.same (blk_alloc (blk_new w _) _) (fun e => by have := HS.out.apart; omega)) (fun hx => by have := HS.out.mb_lt hx; omega)
      have hB3 : (w2.setCell ⟨b, 5, none⟩ (.int .i64 (ll : Int))).heap[w.heap.size + 1]? = some (.cells #[.int .u64 (st : Int), .int .i64 l0, .int .i64 l1, .int .i64 l2, .int .i64 l3, .int .i64 l4, .int .i64 l5, .int .i64 l6, .int .i64 l7, .int .i64 l8, .int .i64 l9, .int .i64 l10, .int .i64 l11] 71 (0, 0)) := hk3.same (H2.out.2.1.same (blk_new_at _ _ (by simp)) (fun e => by have := HS.out.apart; omega)) (fun hx => by have := HS.out.mb_lt hx; omega)
      have HST := Lib.hid (And.intro hst (And.intro hA3 (And.intro hB3 hk23)))
      clear hS3 hk3 hmax hk23 hSB3 hT3 hst hA3 hB3 R0 R5 F5 HSE HNT H2
      generalize w2.setCell ⟨b, 5, none⟩ (.int .i64 (ll : Int)) = w3 at *
      generalize hnp : ps.length = np
      have HNP := Lib.hid hnp
      have hnp12 : np ≤ 12 := by rw [← hnp]; exact HC.out.2.1
      clear hnp
      go_loopg [29] np (fun gq i wr => ∃ k : Nat, gq + k = np ∧ i = .int .i64 (k : Int) ∧ Hid (∃ most' n' T', GL w0 ps o cap b bb bt base (max most (ll : Int)) w3 wr d (n + 1) (cst hh) k T vo most' n' T'))
      case atStart => exact ⟨0, by omega, rfl, _, _, _, HST.out.1⟩
      case round =>
        obtain ⟨k, hgk, rfl, HK⟩ := hrel
        by_cases hk : k < np
        · obtain ⟨most', n', T', hL⟩ := HK.out
          have HL := Lib.hid hL
          have hA : wr.heap[w.heap.size]? = some (.cells #[.int .i64 s.base, .int .i64 s.first, .int .i64 s.durable, .int .i64 s.next, .int .i64 s.limit, .slice vo nb vc, .bool s.failed, .bool s.closed] 26 (0, 0)) := HL.out.keep.same HST.out.2.1 (fun hx => by have := HS.out.mb_lt hx; omega)
          have hB : wr.heap[w.heap.size + 1]? = some (.cells #[.int .u64 (st : Int), .int .i64 l0, .int .i64 l1, .int .i64 l2, .int .i64 l3, .int .i64 l4, .int .i64 l5, .int .i64 l6, .int .i64 l7, .int .i64 l8, .int .i64 l9, .int .i64 l10, .int .i64 l11] 71 (0, 0)) := HL.out.keep.same HST.out.2.2.1 (fun hx => by have := HS.out.mb_lt hx; omega)
          have HAB := Lib.hid (And.intro hA hB)
          have c0 := fun j => blk_cell HAB.out.2 j
          have e0 := fun j => blk_cell HAB.out.1 j
          obtain ⟨k0, k1, k2, k3, k4, k5, k6, k7, k8, k9, k10, k11, k12⟩ : wr.cell? ⟨w.heap.size + 1, 0, none⟩ = some (.int .u64 (st : Int)) ∧ wr.cell? ⟨w.heap.size + 1, 1, none⟩ = some (.int .i64 l0) ∧ wr.cell? ⟨w.heap.size + 1, 2, none⟩ = some (.int .i64 l1) ∧ wr.cell? ⟨w.heap.size + 1, 3, none⟩ = some (.int .i64 l2) ∧ wr.cell? ⟨w.heap.size + 1, 4, none⟩ = some (.int .i64 l3) ∧ wr.cell? ⟨w.heap.size + 1, 5, none⟩ = some (.int .i64 l4) ∧ wr.cell? ⟨w.heap.size + 1, 6, none⟩ = some (.int .i64 l5) ∧ wr.cell? ⟨w.heap.size + 1, 7, none⟩ = some (.int .i64 l6) ∧ wr.cell? ⟨w.heap.size + 1, 8, none⟩ = some (.int .i64 l7) ∧ wr.cell? ⟨w.heap.size + 1, 9, none⟩ = some (.int .i64 l8) ∧ wr.cell? ⟨w.heap.size + 1, 10, none⟩ = some (.int .i64 l9) ∧ wr.cell? ⟨w.heap.size + 1, 11, none⟩ = some (.int .i64 l10) ∧ wr.cell? ⟨w.heap.size + 1, 12, none⟩ = some (.int .i64 l11) := ⟨c0 0, c0 1, c0 2, c0 3, c0 4, c0 5, c0 6, c0 7, c0 8, c0 9, c0 10, c0 11, c0 12⟩
          obtain ⟨a0, a1, a2, a3, a4, a5, a6, a7⟩ : wr.cell? ⟨w.heap.size, 0, none⟩ = some (.int .i64 s.base) ∧ wr.cell? ⟨w.heap.size, 1, none⟩ = some (.int .i64 s.first) ∧ wr.cell? ⟨w.heap.size, 2, none⟩ = some (.int .i64 s.durable) ∧ wr.cell? ⟨w.heap.size, 3, none⟩ = some (.int .i64 s.next) ∧ wr.cell? ⟨w.heap.size, 4, none⟩ = some (.int .i64 s.limit) ∧ wr.cell? ⟨w.heap.size, 5, none⟩ = some (.slice vo nb vc) ∧ wr.cell? ⟨w.heap.size, 6, none⟩ = some (.bool s.failed) ∧ wr.cell? ⟨w.heap.size, 7, none⟩ = some (.bool s.closed) := ⟨e0 0, e0 1, e0 2, e0 3, e0 4, e0 5, e0 6, e0 7⟩
          have hv : SrcB (MB b bt (.slice none 0 0)) wr vo bs := by have := HL.out.val; rw [← HDD.out] at this; exact this
          have hC := HC.out
          have hpu := put_any (v := .agg (cs s (.slice vo nb vc))) (m := (s, bs)) (k := ⟨st, [l0, l1, l2, l3, l4, l5, l6, l7, l8, l9, l10, l11]⟩) HL.out.sm.row HL.out.sm.bef (hC.1.keep HL.out.sm.low) hC.2.1 ⟨vo, vc, by rw [HLB.out], hv⟩ (by have := hC.2.2.2.2.2.2.2.2.2.2.2.2; rw [← HDD.out] at this; exact this) (by have := hC.2.2.2.2.2.2.2.2.2.2.2.1; rw [← HDD.out] at this; exact Nat.le_trans this (by omega)) rfl (by have := hC.2.2.2.2.2.2.2.2.2.2.1; rw [← HDD.out] at this; exact this) k (by rw [HNP.out]; exact hk)
          rw [HDD.out] at hpu
          unfold cs at hpu
          rw [show (kcells ⟨st, [l0, l1, l2, l3, l4, l5, l6, l7, l8, l9, l10, l11]⟩) = #[.int .u64 (st : Int), .int .i64 l0, .int .i64 l1, .int .i64 l2, .int .i64 l3, .int .i64 l4, .int .i64 l5, .int .i64 l6, .int .i64 l7, .int .i64 l8, .int .i64 l9, .int .i64 l10, .int .i64 l11] from rfl] at hpu
          have HPU := Lib.hid hpu
          clear hpu hC hv hL hA hB c0 e0
          rcases hq : putF ps d k with _ | d1
          · rw [hq] at HPU
            have HQN := Lib.hid hq
            clear hq
            go_wp2_with (go_at_call 41; refine HPU.out.mono ?_; intro e w5 h5; obtain ⟨⟨s5, o5, n5, c5, ⟨st5, ls5⟩, rfl, hl5⟩, hb5⟩ := h5; obtain ⟨m0, m1, m2, m3, m4, m5, m6, m7, m8, m9, m10, m11, rfl⟩ := len12 hl5; have H5 := Lib.hid hb5; clear hb5 hl5; rw [kc12]; unfold cs)
            go_roundg (gk - 1)
            case measure => omega
            case rel => exact ⟨k + 1, by omega, rfl, most', n', T', (HL.out.skip HQN.out).grow (((H5.out).alloc H5.out.size _).alloc (by have := H5.out.size; simp; omega) _)⟩
          · rw [hq] at HPU
            obtain ⟨⟨s1, bs1⟩, ⟨st1, ls1⟩⟩ := d1
            have hc1 : Chain ps (nd0 base) (l ++ [k]) ⟨(s1, bs1), ⟨st1, ls1⟩⟩ := HC.out.2.2.2.2.2.1.snoc (by rw [HNP.out]; exact hk) hq
            have hk1 := kok HC.out.2.2.1 HC.out.2.2.2.1 HC.out.2.1 hc1
            obtain ⟨m0, m1, m2, m3, m4, m5, m6, m7, m8, m9, m10, m11, rfl⟩ := len12 hk1.1.2.1
            have hpu2 : Calls Try.prog 41 _ wr fun e w' => ∃ o5 c5, e = .returned (.tuple #[.agg (cs s1 (.slice o5 bs1.length c5)), .agg #[.int .u64 (st1 : Int), .int .i64 m0, .int .i64 m1, .int .i64 m2, .int .i64 m3, .int .i64 m4, .int .i64 m5, .int .i64 m6, .int .i64 m7, .int .i64 m8, .int .i64 m9, .int .i64 m10, .int .i64 m11], .bool true]) ∧ RowKit.Hid (SrcB (fun x => x < wr.heap.size) w' o5 bs1 ∧ Below wr.heap.size wr w') := HPU.out.mono fun e w' h5 => by
              obtain ⟨⟨v5, rfl, o5, c5, rfl, hsb5⟩, hb5⟩ := h5
              exact ⟨o5, c5, rfl, Lib.hid ⟨hsb5, hb5⟩⟩
            have HPU2 := Lib.hid hpu2
            clear HPU hpu2
            generalize hd1 : (⟨(s1, bs1), ⟨st1, [m0, m1, m2, m3, m4, m5, m6, m7, m8, m9, m10, m11]⟩⟩ : Nd) = d1 at *
            have HD1 := Lib.hid hd1
            have HQN := Lib.hid (And.intro hq (And.intro hc1 hk1))
            clear hd1 hq hc1 hk1
            generalize hlb1 : bs1.length = nb1 at *
            have HLB1 := Lib.hid hlb1
            clear hlb1
            unfold cs at HPU2
            obtain ⟨h', rfl⟩ : ∃ h', hh = h' + 1 := ⟨hh - 1, by have := HQN.out.2.1.len; have := HC.out.2.2.2.2.1; have := HC.out.2.1; have := HLL.out; simp only [List.length_append, List.length_cons, List.length_nil] at *; omega⟩
            have HARG := Lib.hid (fun (wA : World) (o5 : Option Addr) (c5 : Nat) (g5 : Below wr.heap.size wr wA) (h5 : SrcB (MB b bt (.slice none 0 0)) wA o5 bs1) => HIH.out h' (by omega) (l ++ [k]) d1 (by have := HC.out.2.2.2.2.1; have := HLL.out; simp only [List.length_append, List.length_cons, List.length_nil]; omega) HQN.out.2.1 wA n' T' most' (.agg (cs s1 (.slice o5 nb1 c5))) (HL.out.sm.grow g5) ⟨o5, c5, by rw [← HD1.out]; simp only; rw [HLB1.out], by rw [← HD1.out]; exact h5⟩ HL.out.len (by have := HL.out.up; omega) (by
              have e1 := cst_mul (h := h' + 1) (show k < 12 by omega)
              have e2 := cst_le (h' + 1) 12 (Nat.le_refl _)
              have e3 := HL.out.cnt
              have e4 := HC.out.2.2.2.2.2.2.2.2.1
              have e5 : cst (h' + 1) = 13 ^ h' := rfl
              rw [e5] at e1 e2 e3
              omega))
            rw [show kcells d1.k = #[.int .u64 (st1 : Int), .int .i64 m0, .int .i64 m1, .int .i64 m2, .int .i64 m3, .int .i64 m4, .int .i64 m5, .int .i64 m6, .int .i64 m7, .int .i64 m8, .int .i64 m9, .int .i64 m10, .int .i64 m11] from by rw [← HD1.out]; rfl, show ((l ++ [k]).length : Int) = (ll : Int) + 1 from by have := HLL.out; simp only [List.length_append, List.length_cons, List.length_nil]; omega] at HARG
            unfold cs at HARG
            go_wp2_with (first
              | (go_at_call 41
                 refine HPU2.out.mono ?_
                 intro e w5 h5
                 obtain ⟨o5, c5, rfl, hh5⟩ := h5
                 have H5 := Lib.hid hh5.out
                 clear hh5
                 have HB5 := Lib.hid (fun (A B : Obj) => (show Below wr.heap.size wr ((w5.alloc A).alloc B) from (H5.out.2.alloc H5.out.2.size _).alloc (by have := H5.out.2.size; simp; omega) _))
                 have HS5 := Lib.hid (fun (A B : Obj) => (show SrcB (MB b bt (.slice none 0 0)) ((w5.alloc A).alloc B) o5 bs1 from srcb_grow (H5.out.1.sub (fun x _ hx => HL.out.sm.mb_lt hx)) (((Below.refl _ w5).alloc (Nat.le_refl _) A).alloc (by simp) B))))
              | (go_at_call 31
                 refine (HARG.out _ _ _ (HB5.out _ _) (HS5.out _ _)).mono ?_
                 intro e w7 h7
                 obtain ⟨rfl, h7⟩ := h7
                 have H7 := Lib.hid (And.intro h7.out (HB5.out (.cells #[.int .i64 s1.base, .int .i64 s1.first, .int .i64 s1.durable, .int .i64 s1.next, .int .i64 s1.limit, .slice o5 nb1 c5, .bool s1.failed, .bool s1.closed] 26) (.cells #[.int .u64 (st1 : Int), .int .i64 m0, .int .i64 m1, .int .i64 m2, .int .i64 m3, .int .i64 m4, .int .i64 m5, .int .i64 m6, .int .i64 m7, .int .i64 m8, .int .i64 m9, .int .i64 m10, .int .i64 m11] 71)))
                 clear h7))
            go_roundg (gk - 1)
            case measure => omega
            case rel =>
              obtain ⟨most7, n7, T7, hG7⟩ := H7.out.1
              exact ⟨k + 1, by omega, rfl, most7, n7, T7, HL.out.next H7.out.2 HQN.out.1 hG7⟩
        · obtain rfl : k = np := by omega
          obtain ⟨most', n', T', hL⟩ := HK.out
          have HL := Lib.hid hL
          clear hL
          go_wp2_with fail
          rw [← HNP.out] at HL
          first | go_end0 | (refine bodyPost_ret (results_none rfl _ _ _) rfl ?_)
          exact HQ.out _ _ ⟨rfl, Lib.hid ⟨most', n', T', HL.out.done HC.out.2.1 HC.out.2.2.1 HC.out.2.2.2.1 HC.out.2.2.2.2.2.1 HST.out.2.2.2 (by rw [HLL.out])⟩⟩
    case inr =>
      obtain ⟨hS3, hk3⟩ := H2.out.1.set5 most
      have hmax : most = max most (ll : Int) := by omega
      have hk23 : Keep (MB b bt (.slice none 0 0)) w (w2.setCell ⟨b, 5, none⟩ (.int .i64 most)) := (((Keep.of_below H2.out.2.2).mono (fun _ _ hh => hh.elim)).trans (H2.out.2.1.mono (fun x _ hx => Or.inr (Or.inl hx)))).trans hk3
      have hSB3 : SrcB (MB b bt (.slice none 0 0)) (w2.setCell ⟨b, 5, none⟩ (.int .i64 most)) vo bs := HSB.out.keep hk23 (fun x _ hx => hx)
      have hT3 : LenOK ps base (fun k' => T k' ∨ k' = d.k) (max most (ll : Int)) := fun l' d' c' hx => by
        rcases hx with hx | hx
        · have := HC.out.2.2.2.2.2.2.1 l' d' c' hx; omega
        · have := key_len c' HC.out.2.2.2.2.2.1 hx; have := HLL.out; omega
      have hst : GL w0 ps o cap b bb bt base (max most (ll : Int)) (w2.setCell ⟨b, 5, none⟩ (.int .i64 most)) (w2.setCell ⟨b, 5, none⟩ (.int .i64 most)) d (n + 1) (cst hh) 0 T vo (max most (ll : Int)) (n + 1) (fun k' => T k' ∨ k' = d.k) := ⟨by rw [← hmax]; exact hS3, by omega, Keep.refl _ _, Int.le_refl _, by omega, fun x hx => hx, fun x hx => hx.elim Or.inl (fun hh => Or.inr (Or.inl hh)), fun j hj => absurd hj (by omega), hT3, by rw [← HDD.out]; exact hSB3⟩
      have hA3 : (w2.setCell ⟨b, 5, none⟩ (.int .i64 most)).heap[w.heap.size]? = some (.cells #[.int .i64 s.base, .int .i64 s.first, .int .i64 s.durable, .int .i64 s.next, .int .i64 s.limit, .slice vo nb vc, .bool s.failed, .bool s.closed] 26 (0, 0)) := hk3.same (H2.out.2.1.same (blk_alloc (blk_new w _) _) (fun e => by have := HS.out.apart; omega)) (fun hx => by have := HS.out.mb_lt hx; omega)
      have hB3 : (w2.setCell ⟨b, 5, none⟩ (.int .i64 most)).heap[w.heap.size + 1]? = some (.cells #[.int .u64 (st : Int), .int .i64 l0, .int .i64 l1, .int .i64 l2, .int .i64 l3, .int .i64 l4, .int .i64 l5, .int .i64 l6, .int .i64 l7, .int .i64 l8, .int .i64 l9, .int .i64 l10, .int .i64 l11] 71 (0, 0)) := hk3.same (H2.out.2.1.same (blk_new_at _ _ (by simp)) (fun e => by have := HS.out.apart; omega)) (fun hx => by have := HS.out.mb_lt hx; omega)
      have HST := Lib.hid (And.intro hst (And.intro hA3 (And.intro hB3 hk23)))
      clear hS3 hk3 hmax hk23 hSB3 hT3 hst hA3 hB3 R0 R5 F5 HSE HNT H2
      generalize w2.setCell ⟨b, 5, none⟩ (.int .i64 most) = w3 at *
      generalize hnp : ps.length = np
      have HNP := Lib.hid hnp
      have hnp12 : np ≤ 12 := by rw [← hnp]; exact HC.out.2.1
      clear hnp
      go_loopg [29] np (fun gq i wr => ∃ k : Nat, gq + k = np ∧ i = .int .i64 (k : Int) ∧ Hid (∃ most' n' T', GL w0 ps o cap b bb bt base (max most (ll : Int)) w3 wr d (n + 1) (cst hh) k T vo most' n' T'))
      case atStart => exact ⟨0, by omega, rfl, _, _, _, HST.out.1⟩
      case round =>
        obtain ⟨k, hgk, rfl, HK⟩ := hrel
        by_cases hk : k < np
        · obtain ⟨most', n', T', hL⟩ := HK.out
          have HL := Lib.hid hL
          have hA : wr.heap[w.heap.size]? = some (.cells #[.int .i64 s.base, .int .i64 s.first, .int .i64 s.durable, .int .i64 s.next, .int .i64 s.limit, .slice vo nb vc, .bool s.failed, .bool s.closed] 26 (0, 0)) := HL.out.keep.same HST.out.2.1 (fun hx => by have := HS.out.mb_lt hx; omega)
          have hB : wr.heap[w.heap.size + 1]? = some (.cells #[.int .u64 (st : Int), .int .i64 l0, .int .i64 l1, .int .i64 l2, .int .i64 l3, .int .i64 l4, .int .i64 l5, .int .i64 l6, .int .i64 l7, .int .i64 l8, .int .i64 l9, .int .i64 l10, .int .i64 l11] 71 (0, 0)) := HL.out.keep.same HST.out.2.2.1 (fun hx => by have := HS.out.mb_lt hx; omega)
          have HAB := Lib.hid (And.intro hA hB)
          have c0 := fun j => blk_cell HAB.out.2 j
          have e0 := fun j => blk_cell HAB.out.1 j
          obtain ⟨k0, k1, k2, k3, k4, k5, k6, k7, k8, k9, k10, k11, k12⟩ : wr.cell? ⟨w.heap.size + 1, 0, none⟩ = some (.int .u64 (st : Int)) ∧ wr.cell? ⟨w.heap.size + 1, 1, none⟩ = some (.int .i64 l0) ∧ wr.cell? ⟨w.heap.size + 1, 2, none⟩ = some (.int .i64 l1) ∧ wr.cell? ⟨w.heap.size + 1, 3, none⟩ = some (.int .i64 l2) ∧ wr.cell? ⟨w.heap.size + 1, 4, none⟩ = some (.int .i64 l3) ∧ wr.cell? ⟨w.heap.size + 1, 5, none⟩ = some (.int .i64 l4) ∧ wr.cell? ⟨w.heap.size + 1, 6, none⟩ = some (.int .i64 l5) ∧ wr.cell? ⟨w.heap.size + 1, 7, none⟩ = some (.int .i64 l6) ∧ wr.cell? ⟨w.heap.size + 1, 8, none⟩ = some (.int .i64 l7) ∧ wr.cell? ⟨w.heap.size + 1, 9, none⟩ = some (.int .i64 l8) ∧ wr.cell? ⟨w.heap.size + 1, 10, none⟩ = some (.int .i64 l9) ∧ wr.cell? ⟨w.heap.size + 1, 11, none⟩ = some (.int .i64 l10) ∧ wr.cell? ⟨w.heap.size + 1, 12, none⟩ = some (.int .i64 l11) := ⟨c0 0, c0 1, c0 2, c0 3, c0 4, c0 5, c0 6, c0 7, c0 8, c0 9, c0 10, c0 11, c0 12⟩
          obtain ⟨a0, a1, a2, a3, a4, a5, a6, a7⟩ : wr.cell? ⟨w.heap.size, 0, none⟩ = some (.int .i64 s.base) ∧ wr.cell? ⟨w.heap.size, 1, none⟩ = some (.int .i64 s.first) ∧ wr.cell? ⟨w.heap.size, 2, none⟩ = some (.int .i64 s.durable) ∧ wr.cell? ⟨w.heap.size, 3, none⟩ = some (.int .i64 s.next) ∧ wr.cell? ⟨w.heap.size, 4, none⟩ = some (.int .i64 s.limit) ∧ wr.cell? ⟨w.heap.size, 5, none⟩ = some (.slice vo nb vc) ∧ wr.cell? ⟨w.heap.size, 6, none⟩ = some (.bool s.failed) ∧ wr.cell? ⟨w.heap.size, 7, none⟩ = some (.bool s.closed) := ⟨e0 0, e0 1, e0 2, e0 3, e0 4, e0 5, e0 6, e0 7⟩
          have hv : SrcB (MB b bt (.slice none 0 0)) wr vo bs := by have := HL.out.val; rw [← HDD.out] at this; exact this
          have hC := HC.out
          have hpu := put_any (v := .agg (cs s (.slice vo nb vc))) (m := (s, bs)) (k := ⟨st, [l0, l1, l2, l3, l4, l5, l6, l7, l8, l9, l10, l11]⟩) HL.out.sm.row HL.out.sm.bef (hC.1.keep HL.out.sm.low) hC.2.1 ⟨vo, vc, by rw [HLB.out], hv⟩ (by have := hC.2.2.2.2.2.2.2.2.2.2.2.2; rw [← HDD.out] at this; exact this) (by have := hC.2.2.2.2.2.2.2.2.2.2.2.1; rw [← HDD.out] at this; exact Nat.le_trans this (by omega)) rfl (by have := hC.2.2.2.2.2.2.2.2.2.2.1; rw [← HDD.out] at this; exact this) k (by rw [HNP.out]; exact hk)
          rw [HDD.out] at hpu
          unfold cs at hpu
          rw [show (kcells ⟨st, [l0, l1, l2, l3, l4, l5, l6, l7, l8, l9, l10, l11]⟩) = #[.int .u64 (st : Int), .int .i64 l0, .int .i64 l1, .int .i64 l2, .int .i64 l3, .int .i64 l4, .int .i64 l5, .int .i64 l6, .int .i64 l7, .int .i64 l8, .int .i64 l9, .int .i64 l10, .int .i64 l11] from rfl] at hpu
          have HPU := Lib.hid hpu
          clear hpu hC hv hL hA hB c0 e0
          rcases hq : putF ps d k with _ | d1
          · rw [hq] at HPU
            have HQN := Lib.hid hq
            clear hq
            go_wp2_with (go_at_call 41; refine HPU.out.mono ?_; intro e w5 h5; obtain ⟨⟨s5, o5, n5, c5, ⟨st5, ls5⟩, rfl, hl5⟩, hb5⟩ := h5; obtain ⟨m0, m1, m2, m3, m4, m5, m6, m7, m8, m9, m10, m11, rfl⟩ := len12 hl5; have H5 := Lib.hid hb5; clear hb5 hl5; rw [kc12]; unfold cs)
            go_roundg (gk - 1)
            case measure => omega
            case rel => exact ⟨k + 1, by omega, rfl, most', n', T', (HL.out.skip HQN.out).grow (((H5.out).alloc H5.out.size _).alloc (by have := H5.out.size; simp; omega) _)⟩
          · rw [hq] at HPU
            obtain ⟨⟨s1, bs1⟩, ⟨st1, ls1⟩⟩ := d1
            have hc1 : Chain ps (nd0 base) (l ++ [k]) ⟨(s1, bs1), ⟨st1, ls1⟩⟩ := HC.out.2.2.2.2.2.1.snoc (by rw [HNP.out]; exact hk) hq
            have hk1 := kok HC.out.2.2.1 HC.out.2.2.2.1 HC.out.2.1 hc1
            obtain ⟨m0, m1, m2, m3, m4, m5, m6, m7, m8, m9, m10, m11, rfl⟩ := len12 hk1.1.2.1
            have hpu2 : Calls Try.prog 41 _ wr fun e w' => ∃ o5 c5, e = .returned (.tuple #[.agg (cs s1 (.slice o5 bs1.length c5)), .agg #[.int .u64 (st1 : Int), .int .i64 m0, .int .i64 m1, .int .i64 m2, .int .i64 m3, .int .i64 m4, .int .i64 m5, .int .i64 m6, .int .i64 m7, .int .i64 m8, .int .i64 m9, .int .i64 m10, .int .i64 m11], .bool true]) ∧ RowKit.Hid (SrcB (fun x => x < wr.heap.size) w' o5 bs1 ∧ Below wr.heap.size wr w') := HPU.out.mono fun e w' h5 => by
              obtain ⟨⟨v5, rfl, o5, c5, rfl, hsb5⟩, hb5⟩ := h5
              exact ⟨o5, c5, rfl, Lib.hid ⟨hsb5, hb5⟩⟩
            have HPU2 := Lib.hid hpu2
            clear HPU hpu2
            generalize hd1 : (⟨(s1, bs1), ⟨st1, [m0, m1, m2, m3, m4, m5, m6, m7, m8, m9, m10, m11]⟩⟩ : Nd) = d1 at *
            have HD1 := Lib.hid hd1
            have HQN := Lib.hid (And.intro hq (And.intro hc1 hk1))
            clear hd1 hq hc1 hk1
            generalize hlb1 : bs1.length = nb1 at *
            have HLB1 := Lib.hid hlb1
            clear hlb1
            unfold cs at HPU2
            obtain ⟨h', rfl⟩ : ∃ h', hh = h' + 1 := ⟨hh - 1, by have := HQN.out.2.1.len; have := HC.out.2.2.2.2.1; have := HC.out.2.1; have := HLL.out; simp only [List.length_append, List.length_cons, List.length_nil] at *; omega⟩
            have HARG := Lib.hid (fun (wA : World) (o5 : Option Addr) (c5 : Nat) (g5 : Below wr.heap.size wr wA) (h5 : SrcB (MB b bt (.slice none 0 0)) wA o5 bs1) => HIH.out h' (by omega) (l ++ [k]) d1 (by have := HC.out.2.2.2.2.1; have := HLL.out; simp only [List.length_append, List.length_cons, List.length_nil]; omega) HQN.out.2.1 wA n' T' most' (.agg (cs s1 (.slice o5 nb1 c5))) (HL.out.sm.grow g5) ⟨o5, c5, by rw [← HD1.out]; simp only; rw [HLB1.out], by rw [← HD1.out]; exact h5⟩ HL.out.len (by have := HL.out.up; omega) (by
              have e1 := cst_mul (h := h' + 1) (show k < 12 by omega)
              have e2 := cst_le (h' + 1) 12 (Nat.le_refl _)
              have e3 := HL.out.cnt
              have e4 := HC.out.2.2.2.2.2.2.2.2.1
              have e5 : cst (h' + 1) = 13 ^ h' := rfl
              rw [e5] at e1 e2 e3
              omega))
            rw [show kcells d1.k = #[.int .u64 (st1 : Int), .int .i64 m0, .int .i64 m1, .int .i64 m2, .int .i64 m3, .int .i64 m4, .int .i64 m5, .int .i64 m6, .int .i64 m7, .int .i64 m8, .int .i64 m9, .int .i64 m10, .int .i64 m11] from by rw [← HD1.out]; rfl, show ((l ++ [k]).length : Int) = (ll : Int) + 1 from by have := HLL.out; simp only [List.length_append, List.length_cons, List.length_nil]; omega] at HARG
            unfold cs at HARG
            go_wp2_with (first
              | (go_at_call 41
                 refine HPU2.out.mono ?_
                 intro e w5 h5
                 obtain ⟨o5, c5, rfl, hh5⟩ := h5
                 have H5 := Lib.hid hh5.out
                 clear hh5
                 have HB5 := Lib.hid (fun (A B : Obj) => (show Below wr.heap.size wr ((w5.alloc A).alloc B) from (H5.out.2.alloc H5.out.2.size _).alloc (by have := H5.out.2.size; simp; omega) _))
                 have HS5 := Lib.hid (fun (A B : Obj) => (show SrcB (MB b bt (.slice none 0 0)) ((w5.alloc A).alloc B) o5 bs1 from srcb_grow (H5.out.1.sub (fun x _ hx => HL.out.sm.mb_lt hx)) (((Below.refl _ w5).alloc (Nat.le_refl _) A).alloc (by simp) B))))
              | (go_at_call 31
                 refine (HARG.out _ _ _ (HB5.out _ _) (HS5.out _ _)).mono ?_
                 intro e w7 h7
                 obtain ⟨rfl, h7⟩ := h7
                 have H7 := Lib.hid (And.intro h7.out (HB5.out (.cells #[.int .i64 s1.base, .int .i64 s1.first, .int .i64 s1.durable, .int .i64 s1.next, .int .i64 s1.limit, .slice o5 nb1 c5, .bool s1.failed, .bool s1.closed] 26) (.cells #[.int .u64 (st1 : Int), .int .i64 m0, .int .i64 m1, .int .i64 m2, .int .i64 m3, .int .i64 m4, .int .i64 m5, .int .i64 m6, .int .i64 m7, .int .i64 m8, .int .i64 m9, .int .i64 m10, .int .i64 m11] 71)))
                 clear h7))
            go_roundg (gk - 1)
            case measure => omega
            case rel =>
              obtain ⟨most7, n7, T7, hG7⟩ := H7.out.1
              exact ⟨k + 1, by omega, rfl, most7, n7, T7, HL.out.next H7.out.2 HQN.out.1 hG7⟩
        · obtain rfl : k = np := by omega
          obtain ⟨most', n', T', hL⟩ := HK.out
          have HL := Lib.hid hL
          clear hL
          go_wp2_with fail
          rw [← HNP.out] at HL
          first | go_end0 | (refine bodyPost_ret (results_none rfl _ _ _) rfl ?_)
          exact HQ.out _ _ ⟨rfl, Lib.hid ⟨most', n', T', HL.out.done HC.out.2.1 HC.out.2.2.1 HC.out.2.2.2.1 HC.out.2.2.2.2.2.1 HST.out.2.2.2 (by rw [HLL.out])⟩⟩
  · rw [hq] at HSE
    have HNT := Lib.hid hq
    clear hq
    go_wp2_with (go_at_call 40
                 refine (HSE.out _ (HB2.out _ _)).mono ?_
                 intro e w2 h2
                 obtain ⟨rfl, ht2, hk2⟩ := h2
                 have H2 := Lib.hid (And.intro ((HS.out.grow (HB2.out (.cells #[.int .i64 s.base, .int .i64 s.first, .int .i64 s.durable, .int .i64 s.next, .int .i64 s.limit, .slice vo nb vc, .bool s.failed, .bool s.closed] 26) (.cells #[.int .u64 (st : Int), .int .i64 l0, .int .i64 l1, .int .i64 l2, .int .i64 l3, .int .i64 l4, .int .i64 l5, .int .i64 l6, .int .i64 l7, .int .i64 l8, .int .i64 l9, .int .i64 l10, .int .i64 l11] 71))).seen hk2 ht2) (And.intro hk2 (HB2.out (.cells #[.int .i64 s.base, .int .i64 s.first, .int .i64 s.durable, .int .i64 s.next, .int .i64 s.limit, .slice vo nb vc, .bool s.failed, .bool s.closed] 26) (.cells #[.int .u64 (st : Int), .int .i64 l0, .int .i64 l1, .int .i64 l2, .int .i64 l3, .int .i64 l4, .int .i64 l5, .int .i64 l6, .int .i64 l7, .int .i64 l8, .int .i64 l9, .int .i64 l10, .int .i64 l11] 71))))
                 clear ht2 hk2)
    have htk : T d.k := (tB_iff T d.k).1 HNT.out
    first | go_end0 | (refine bodyPost_ret (results_none rfl _ _ _) rfl ?_)
    refine HQ.out _ _ ⟨rfl, Lib.hid ⟨most, n + 1, _, H2.out.1, Nat.add_le_add_left (Nat.one_le_pow _ _ (by omega)) n, ?_, Int.le_refl _, by omega, fun x hx => Or.inl hx, Or.inr rfl, fun x hx => ?_, fun l' d' c' hx => ?_⟩⟩
    · exact ((Keep.of_below H2.out.2.2).mono (fun _ _ h => h.elim)).trans (H2.out.2.1.mono (fun x _ hx => Or.inr (Or.inl hx)))
    · rcases hx with hx | rfl
      · exact Or.inl hx
      · exact Or.inl htk
    · rcases hx with hx | hx
      · exact HC.out.2.2.2.2.2.2.1 l' d' c' hx
      · exact HC.out.2.2.2.2.2.2.1 l' d' c' (by rw [hx]; exact htk)
end Go.Proofs.Ytjiehgfamlidnaa.Lin
