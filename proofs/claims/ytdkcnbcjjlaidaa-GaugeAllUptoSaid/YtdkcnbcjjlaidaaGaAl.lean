/- GaugeAll: a gauge and the reference's beside each other. By an AI agent. -/
import Derived.Test.YtdkcnbcjjlaidaaGauY
import Derived.Test.YtdkcnbcjjlaidaaGaAj
import Derived.Test.YtdkcnbcjjlaidaaGaAk
namespace Go.Proofs.Ytdkcnbcjjlaidaa.gaugeAll
open Go.ChangeShapes Go.WideShapes Go.ChangeAt Go.RowKit
open gaugeCells (Pl take_succ alike_refl)
set_option linter.unusedVariables false

def rat (p : Pl) (w : World) (x : G) : Prop := RAt w p.g p.base p.ob p.cb p.c x

theorem rbeside {bs : Nat → Prop} {p : Pl} {w w' : World} {x : G} (h : rat p w x) (k : Keep bs w w') (h1 : ¬ bs p.g) (h2 : ¬ bs p.c) (h3 : 0 < x.bs.length → ∀ ad, p.ob = some ad → ¬ bs ad.block) : rat p w' x := by
  refine { h with row := k.same h.row h1, fls := ?_, cls := k.same h.cls h2 }
  rcases Nat.eq_zero_or_pos x.bs.length with h0 | h0
  · intro i hi
    omega
  · exact fls_keep' h.fls k (h3 h0)

theorem rtop {p : Pl} {w : World} {x : G} (h : rat p w x) : ∀ a, p.ob = some a → 0 < x.bs.length → a.block < w.heap.size := by
  intro a ha hl
  obtain ⟨ad, e, hc⟩ := h.fls 0 hl
  rw [ha] at e
  cases e
  have := cell_in hc
  rw [add_block] at this
  exact this

/-- Both, in the blocks from lo below hi, the gauge's ahead. -/
structure Tw (p q : Pl) (lo hi n : Nat) (w : World) (x y : G) : Prop where
  hg : p.at w x
  hr : rat q w y
  xn : x.bs.length = n
  yn : y.bs.length = n
  glo : lo ≤ p.base
  rlo : lo ≤ q.base
  mid : p.within q.base n
  top : q.within hi n

theorem Tw.grange {p q : Pl} {lo hi n : Nat} {w : World} {x y : G} (h : Tw p q lo hi n w x y) : (lo ≤ p.g ∧ p.g < hi) ∧ (lo ≤ p.c ∧ p.c < hi) ∧ (0 < n → ∀ a, p.ob = some a → lo ≤ a.block ∧ a.block < hi) := by
  have h1 := h.hg.gb
  have h2 := h.hg.cbase
  have h3 := h.hr.gb
  have h4 := h.top.1
  have h5 := h.mid.1
  have h6 := h.mid.2.1
  have h7 := h.glo
  refine ⟨by omega, by omega, fun hn a ha => ?_⟩
  have a1 := (h.hg.apart a ha).1
  have a2 := h.mid.2.2 hn a ha
  omega
theorem Tw.rrange {p q : Pl} {lo hi n : Nat} {w : World} {x y : G} (h : Tw p q lo hi n w x y) : (lo ≤ q.g ∧ q.g < hi) ∧ (lo ≤ q.c ∧ q.c < hi) ∧ (0 < n → ∀ a, q.ob = some a → lo ≤ a.block ∧ a.block < hi) := by
  have h1 := h.hr.gb
  have h2 := h.hr.cbase
  have h3 := h.top.1
  have h4 := h.top.2.1
  have h5 := h.rlo
  refine ⟨by omega, by omega, fun hn a ha => ?_⟩
  have a1 := (h.hr.apart a ha).1
  have a2 := h.top.2.2 hn a ha
  omega

theorem Tw.away {bs : Nat → Prop} {p q : Pl} {lo hi n : Nat} {w w' : World} {x y : G} (h : Tw p q lo hi n w x y) (k : Keep bs w w') (hb : ∀ b, lo ≤ b → b < hi → ¬ bs b) : Tw p q lo hi n w' x y := by
  obtain ⟨⟨a1, a2⟩, ⟨a3, a4⟩, a5⟩ := h.grange
  obtain ⟨⟨b1, b2⟩, ⟨b3, b4⟩, b5⟩ := h.rrange
  refine { h with hg := Pl.beside h.hg k (hb _ a1 a2) (hb _ a3 a4) ?_, hr := rbeside h.hr k (hb _ b1 b2) (hb _ b3 b4) ?_ }
  · intro h0 ad e
    have := a5 (by rw [← h.xn]; exact h0) ad e
    exact hb _ this.1 this.2
  · intro h0 ad e
    have := b5 (by rw [← h.yn]; exact h0) ad e
    exact hb _ this.1 this.2
theorem Tw.grow {p q : Pl} {lo hi n : Nat} {w w' : World} {x y : G} (h : Tw p q lo hi n w x y) (k : Below w.heap.size w w') : Tw p q lo hi n w' x y :=
  h.away (Keep.of_below k) (fun _ _ _ => id)
theorem Tw.gkeep {p q : Pl} {lo hi n : Nat} {w w' : World} {x y : G} (h : Tw p q lo hi n w x y) (k : Keep (fun b => b = p.g ∨ b = p.c) w w') : Keep (fun b => lo ≤ b ∧ b < hi) w w' := by
  obtain ⟨a, b, -⟩ := h.grange
  exact k.mono fun i _ hi => by rcases hi with rfl | rfl <;> assumption
theorem Tw.rkeep {p q : Pl} {lo hi n : Nat} {w w' : World} {x y : G} (h : Tw p q lo hi n w x y) (k : Keep (fun b => b = q.g ∨ b = q.c) w w') : Keep (fun b => lo ≤ b ∧ b < hi) w w' := by
  obtain ⟨a, b, -⟩ := h.rrange
  exact k.mono fun i _ hi => by rcases hi with rfl | rfl <;> assumption
theorem Tw.putg {p q : Pl} {lo hi n : Nat} {w w' : World} {x y x' : G} (h : Tw p q lo hi n w x y) (hx : p.at w' x') (hn : x'.bs.length = n) (k : Keep (fun b => b = p.g ∨ b = p.c) w w') : Tw p q lo hi n w' x' y := by
  obtain ⟨a, b, c⟩ := h.mid
  have h1 := h.hr.gb
  have h2 := h.hr.cbase
  refine { h with hg := hx, xn := hn, hr := rbeside h.hr k (by omega) (by omega) fun h0 ad e => ?_ }
  have := (h.hr.apart ad e).1
  omega
theorem Tw.putr {p q : Pl} {lo hi n : Nat} {w w' : World} {x y y' : G} (h : Tw p q lo hi n w x y) (hy : rat q w' y') (hn : y'.bs.length = n) (k : Keep (fun b => b = q.g ∨ b = q.c) w w') : Tw p q lo hi n w' x y' := by
  obtain ⟨a, b, c⟩ := h.mid
  have h1 := h.hr.gb
  have h2 := h.hr.cbase
  refine { h with hr := hy, yn := hn, hg := Pl.beside h.hg k (by omega) (by omega) fun h0 ad e => ?_ }
  have := c (by rw [← h.xn]; exact h0) ad e
  omega

theorem Tw.new {us : List Nat} {w0 w1 w2 : World} {g cb c g' cb' c' : Nat} {ob ob' : Option Addr} (h : GAt w1 g w0.heap.size ob cb c (newG us)) (k0 : Below w0.heap.size w0 w1) (h' : RAt w2 g' w1.heap.size ob' cb' c' (newG us)) (k1 : Below w1.heap.size w1 w2) :
    Tw ⟨g, w0.heap.size, ob, cb, c⟩ ⟨g', w1.heap.size, ob', cb', c'⟩ w0.heap.size w2.heap.size us.length w2 (newG us) (newG us) where
  hg := GAt.keep h k1
  hr := h'
  xn := rfl
  yn := rfl
  glo := Nat.le_refl _
  rlo := k0.size
  mid := ⟨lt_of_block h.row, lt_of_block h.cls, fun hn a e => Pl.top (p := ⟨g, w0.heap.size, ob, cb, c⟩) h a e hn⟩
  top := ⟨lt_of_block h'.row, lt_of_block h'.cls, fun hn a e => rtop (p := ⟨g', w1.heap.size, ob', cb', c'⟩) h' a e hn⟩

/-- What a Merge tells and makes of it, alike or not. -/
def mer (x y : G) : Int × G := if alikeB x.bs y.bs = true then (0, mergeG x y) else (1, x)

theorem calm_any {x : G} {bs vs : List Nat} (h : TG x bs vs) (hv : vs.length ≤ 1000000) (hb : bs.length ≤ 64) : Calm x ∧ x.n ≤ vs.length ∧ x.cs.length ≤ 65 := by
  have h1 : (live vs).length ≤ vs.length := List.length_filter_le ..
  have h2 : (vs.countP fun v => Flt.nan v) ≤ vs.length := List.countP_le_length
  refine ⟨⟨by rw [h.n]; omega, by rw [h.n]; omega, by rw [h.nn]; omega, by rw [h.nn]; omega, fun i => ?_, by rw [h.hb]; omega⟩, by rw [h.n]; omega, by rw [h.len]; omega⟩
  rw [h.cnt]
  have h3 : (live vs).countP (fun v => decide (cellIx bs v = i)) ≤ (live vs).length := List.countP_le_length
  omega
end Go.Proofs.Ytdkcnbcjjlaidaa.gaugeAll
