/- GaugeCells: three gauges beside each other; small lemmas. By an AI agent. -/
import Derived.Test.YtdkcnbcjjlaidaaGauU
import Derived.Test.YtdkcnbcjjlaidaaGauT
import Derived.Test.YtdkcnbcjjlaidaaGauW
import Derived.Test.YtdkcnbcjjlaidaaGauX
import Derived.Test.YtdkcnbcjjlaidaaGauI
namespace Go.Proofs.Ytdkcnbcjjlaidaa.gaugeCells
open Go.ChangeShapes Go.WideShapes Go.ChangeAt Go.RowKit
set_option linter.unusedVariables false

theorem calm_tg {x : G} {bs vs : List Nat} (h : TG x bs vs) (hv : vs.length ≤ 1000) (hb : bs.length ≤ 64) : Calm x := by
  have h1 : (live vs).length ≤ vs.length := List.length_filter_le ..
  have h2 : (vs.countP fun v => Flt.nan v) ≤ vs.length := List.countP_le_length
  refine ⟨by rw [h.n]; omega, by rw [h.n]; omega, by rw [h.nn]; omega, by rw [h.nn]; omega, fun i => ?_, by rw [h.hb]; omega⟩
  rw [h.cnt]
  have h3 : (live vs).countP (fun v => decide (cellIx bs v = i)) ≤ (live vs).length := List.countP_le_length
  omega

/-- Where a gauge lies. -/
structure Pl where
  g : Nat
  base : Nat
  ob : Option Addr
  cb : Nat
  c : Nat
def Pl.at (p : Pl) (w : World) (x : G) : Prop := GAt w p.g p.base p.ob p.cb p.c x
/-- All of it lies from base on, below top. -/
def Pl.within (p : Pl) (top n : Nat) : Prop := p.g < top ∧ p.c < top ∧ (0 < n → ∀ a, p.ob = some a → a.block < top)

theorem Pl.beside {bs : Nat → Prop} {p : Pl} {w w' : World} {x : G} (h : p.at w x) (k : Keep bs w w') (h1 : ¬ bs p.g) (h2 : ¬ bs p.c) (h3 : 0 < x.bs.length → ∀ ad, p.ob = some ad → ¬ bs ad.block) : p.at w' x := by
  refine { h with row := k.same h.row h1, fls := ?_, cls := k.same h.cls h2 }
  rcases Nat.eq_zero_or_pos x.bs.length with h0 | h0
  · intro i hi
    omega
  · exact fls_keep' h.fls k (h3 h0)

theorem Pl.top {p : Pl} {w : World} {x : G} (h : p.at w x) : ∀ a, p.ob = some a → 0 < x.bs.length → a.block < w.heap.size := by
  intro a ha hl
  obtain ⟨ad, e, hc⟩ := h.fls 0 hl
  rw [ha] at e
  cases e
  have := cell_in hc
  rw [add_block] at this
  exact this

/-- Two gauges, the one laid behind the other: what is done to the one leaves the other. -/
theorem Pl.low {p q : Pl} {w w' : World} {x y : G} (hp : p.at w x) (hw : p.within q.base x.bs.length) (hq : q.at w y) (k : Keep (fun b => b = q.g ∨ b = q.c) w w') : p.at w' x := by
  have h1 := hq.gb
  have h2 := hq.cbase
  obtain ⟨a, b, c⟩ := hw
  refine Pl.beside hp k (by omega) (by omega) (fun h0 ad e => ?_)
  have := c h0 ad e
  omega
theorem Pl.high {p q : Pl} {w w' : World} {x y : G} (hp : p.at w x) (hw : p.within q.base x.bs.length) (hq : q.at w y) (k : Keep (fun b => b = p.g ∨ b = p.c) w w') : q.at w' y := by
  have h1 := hq.gb
  have h2 := hq.cbase
  obtain ⟨a, b, -⟩ := hw
  refine Pl.beside hq k (by omega) (by omega) (fun _ ad e => ?_)
  have := (hq.apart ad e).1
  omega

/-- Three of them. -/
structure St (p q r : Pl) (n : Nat) (w0 w : World) (x y z : G) : Prop where
  hx : p.at w x
  hy : q.at w y
  hz : r.at w z
  xn : x.bs.length = n
  yn : y.bs.length = n
  zn : z.bs.length = n
  pq : p.within q.base n
  pr : p.within r.base n
  qr : q.within r.base n
  low : w0.heap.size ≤ p.base ∧ w0.heap.size ≤ q.base ∧ w0.heap.size ≤ r.base
  kept : Below w0.heap.size w0 w

theorem St.grow {p q r : Pl} {n : Nat} {w0 w w' : World} {x y z : G} (h : St p q r n w0 w x y z) (k : Below w.heap.size w w') : St p q r n w0 w' x y z :=
  { h with hx := GAt.keep h.hx k, hy := GAt.keep h.hy k, hz := GAt.keep h.hz k, kept := h.kept.trans (k.mono h.kept.size) }
theorem St.put1 {p q r : Pl} {n : Nat} {w0 w w' : World} {x y z x' : G} (h : St p q r n w0 w x y z) (hx : p.at w' x') (hn : x'.bs.length = n) (k : Keep (fun b => b = p.g ∨ b = p.c) w w') : St p q r n w0 w' x' y z where
  hx := hx
  hy := Pl.high h.hx (by rw [h.xn]; exact h.pq) h.hy k
  hz := Pl.high h.hx (by rw [h.xn]; exact h.pr) h.hz k
  xn := hn
  yn := h.yn
  zn := h.zn
  pq := h.pq
  pr := h.pr
  qr := h.qr
  low := h.low
  kept := h.kept.trans (k.below h.kept.size (fun i hi => by
    have h1 := h.hx.gb
    have h2 := h.hx.cbase
    have h3 := h.low.1
    rcases hi with rfl | rfl <;> omega))
theorem St.put2 {p q r : Pl} {n : Nat} {w0 w w' : World} {x y z y' : G} (h : St p q r n w0 w x y z) (hy : q.at w' y') (hn : y'.bs.length = n) (k : Keep (fun b => b = q.g ∨ b = q.c) w w') : St p q r n w0 w' x y' z where
  hx := Pl.low h.hx (by rw [h.xn]; exact h.pq) h.hy k
  hy := hy
  hz := Pl.high h.hy (by rw [h.yn]; exact h.qr) h.hz k
  xn := h.xn
  yn := hn
  zn := h.zn
  pq := h.pq
  pr := h.pr
  qr := h.qr
  low := h.low
  kept := h.kept.trans (k.below h.kept.size (fun i hi => by
    have h1 := h.hy.gb
    have h2 := h.hy.cbase
    have h3 := h.low.2.1
    rcases hi with rfl | rfl <;> omega))
theorem St.put3 {p q r : Pl} {n : Nat} {w0 w w' : World} {x y z z' : G} (h : St p q r n w0 w x y z) (hz : r.at w' z') (hn : z'.bs.length = n) (k : Keep (fun b => b = r.g ∨ b = r.c) w w') : St p q r n w0 w' x y z' where
  hx := Pl.low h.hx (by rw [h.xn]; exact h.pr) h.hz k
  hy := Pl.low h.hy (by rw [h.yn]; exact h.qr) h.hz k
  hz := hz
  xn := h.xn
  yn := h.yn
  zn := hn
  pq := h.pq
  pr := h.pr
  qr := h.qr
  low := h.low
  kept := h.kept.trans (k.below h.kept.size (fun i hi => by
    have h1 := h.hz.gb
    have h2 := h.hz.cbase
    have h3 := h.low.2.2
    rcases hi with rfl | rfl <;> omega))

theorem take_succ (L : List Nat) (k : Nat) (h : k < L.length) : L.take (k + 1) = L.take k ++ [L.getD k 0] := by
  rw [List.take_succ_eq_append_getElem h, List.getD_eq_getElem?_getD, List.getElem?_eq_getElem h]; rfl
theorem rev_getD (L : List Nat) (k : Nat) (h : k < L.length) : L.reverse.getD k 0 = L.getD (L.length - 1 - k) 0 := by
  rw [List.getD_eq_getElem?_getD, List.getElem?_reverse h, ← List.getD_eq_getElem?_getD]
theorem alike_refl (bs : List Nat) : alikeB bs bs = true := decide_eq_true ⟨rfl, fun _ _ => rfl⟩
end Go.Proofs.Ytdkcnbcjjlaidaa.gaugeCells
