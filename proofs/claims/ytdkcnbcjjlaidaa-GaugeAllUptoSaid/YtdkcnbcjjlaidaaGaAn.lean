/- GaugeAll: three pairs beside each other; New, Put, Merge of both in one form. By an AI agent. -/
import Derived.Test.YtdkcnbcjjlaidaaGaAm
import Derived.Test.YtdkcnbcjjlaidaaGaAf
import Derived.Test.YtdkcnbcjjlaidaaGaAi
namespace Go.Proofs.Ytdkcnbcjjlaidaa.gaugeAll
open Go.ChangeShapes Go.WideShapes Go.ChangeAt Go.RowKit
open gaugeCells (Pl take_succ alike_refl)
set_option linter.unusedVariables false

theorem u64_keep {w w' : World} {o : Option Addr} {us : List Nat} (h : U64s w o us) (k : Below w.heap.size w w') : U64s w' o us := by
  intro i hi
  obtain ⟨ad, e, hc⟩ := h i hi
  exact ⟨ad, e, (k.cell (by exact cell_in hc)).trans hc⟩

open Classical in
/-- What New tells of bounds. -/
noncomputable def code (us : List Nat) : Int := if 64 < us.length then 9 else if okB us then 0 else 1
theorem code_ok {us : List Nat} (h : code us = 0) : us.length ≤ 64 ∧ okB us := by
  unfold code at h
  split at h
  · omega
  · split at h
    · exact ⟨by omega, by assumption⟩
    · omega

theorem gnew_all (o : Option Addr) (us : List Nat) (cap : Nat) (w : World) (hF : Fls w o us) (hc : o = none → cap = 0) (hlt : ∀ i, us.getD i 0 < 2 ^ 64) :
    Calls Try.prog 15 #[.slice o us.length cap] w fun e w' => ∃ a, e = .returned (.tuple #[.pointer a, .int .i64 (code us)]) ∧ Below w.heap.size w w' ∧ (code us = 0 → ∃ p : Pl, a = some ⟨p.g, 0, none⟩ ∧ p.at w' (newG us) ∧ p.base = w.heap.size) ∧ (code us ≠ 0 → a = none) := by
  by_cases h64 : 64 < us.length
  · have e : code us = 9 := by unfold code; rw [if_pos h64]
    refine (gnew_many o us.length cap w h64).mono ?_
    rintro e w' ⟨rfl, rfl⟩
    exact ⟨none, by rw [e], Below.refl _ _, fun h => by omega, fun _ => rfl⟩
  · by_cases hok : okB us
    · have e : code us = 0 := by unfold code; rw [if_neg h64, if_pos hok]
      refine (gnew_ok o us cap w hF hc (by omega) hlt hok).mono ?_
      rintro e w' ⟨g, ob, cb, c, rfl, h, k⟩
      exact ⟨_, by rw [e], k, fun _ => ⟨⟨g, w.heap.size, ob, cb, c⟩, rfl, h, rfl⟩, fun h => absurd e h⟩
    · have e : code us = 1 := by unfold code; rw [if_neg h64, if_neg hok]
      refine (gnew_bad o us cap w hF (by omega) hlt hok).mono ?_
      rintro e w' ⟨rfl, rfl⟩
      exact ⟨none, by rw [e], Below.refl _ _, fun h => by omega, fun _ => rfl⟩
theorem rnew_all (o : Option Addr) (us : List Nat) (cap : Nat) (w : World) (hF : Fls w o us) (hc : o = none → cap = 0) (hlt : ∀ i, us.getD i 0 < 2 ^ 64) :
    Calls Try.prog 19 #[.slice o us.length cap] w fun e w' => ∃ a, e = .returned (.tuple #[.pointer a, .int .i64 (code us)]) ∧ Below w.heap.size w w' ∧ (code us = 0 → ∃ p : Pl, a = some ⟨p.g, 0, none⟩ ∧ rat p w' (newG us) ∧ p.base = w.heap.size) ∧ (code us ≠ 0 → a = none) := by
  by_cases h64 : 64 < us.length
  · have e : code us = 9 := by unfold code; rw [if_pos h64]
    refine (rnew_many o us.length cap w h64).mono ?_
    rintro e w' ⟨rfl, rfl⟩
    exact ⟨none, by rw [e], Below.refl _ _, fun h => by omega, fun _ => rfl⟩
  · by_cases hok : okB us
    · have e : code us = 0 := by unfold code; rw [if_neg h64, if_pos hok]
      refine (rnew_ok o us cap w hF hc (by omega) hlt hok).mono ?_
      rintro e w' ⟨g, ob, cb, c, rfl, h, k⟩
      exact ⟨_, by rw [e], k, fun _ => ⟨⟨g, w.heap.size, ob, cb, c⟩, rfl, h, rfl⟩, fun h => absurd e h⟩
    · have e : code us = 1 := by unfold code; rw [if_neg h64, if_neg hok]
      refine (rnew_bad o us cap w hF (by omega) hlt hok).mono ?_
      rintro e w' ⟨rfl, k⟩
      exact ⟨none, by rw [e], k, fun h => by omega, fun _ => rfl⟩

theorem Tw.make {us : List Nat} {w0 w1 w2 : World} {p q : Pl} (h : p.at w1 (newG us)) (hb : p.base = w0.heap.size) (k0 : Below w0.heap.size w0 w1) (h' : rat q w2 (newG us)) (hb' : q.base = w1.heap.size) (k1 : Below w1.heap.size w1 w2) :
    Tw p q w0.heap.size w2.heap.size us.length w2 (newG us) (newG us) where
  hg := GAt.keep h k1
  hr := h'
  xn := rfl
  yn := rfl
  glo := by omega
  rlo := by rw [hb']; exact k0.size
  mid := by
    rw [hb']
    exact ⟨lt_of_block h.row, lt_of_block h.cls, fun hn a e => Pl.top h a e hn⟩
  top := ⟨lt_of_block h'.row, lt_of_block h'.cls, fun hn a e => rtop h' a e hn⟩

/-- What the bounds are, is kept by Put and Merge. -/
theorem put_bs (x : G) (v : Nat) : (putA x v).bs = x.bs := by
  unfold putA putG widenS bump
  split <;> rfl

theorem rput_all {w : World} {g base : Nat} {ob : Option Addr} {cb c : Nat} {x : G} (h : RAt w g base ob cb c x) (hx : Calm x) (hR : Rises x.bs) (v : Nat) (hv64 : v < 2 ^ 64) :
    Calls Try.prog 20 #[.pointer (some ⟨g, 0, none⟩), .float .f64 v] w fun e w' => e = .returned (.tuple #[]) ∧ RAt w' g base ob cb c (putA x v) ∧ Keep (fun b => b = g ∨ b = c) w w' := by
  cases hn : Flt.nan v
  · have e : putA x v = putG x v := by unfold putA; rw [hn, if_neg (by simp)]
    rw [e]
    exact rput_num h hx hR v hn hv64
  · have e : putA x v = { x with nn := x.nn + 1 } := by unfold putA; rw [hn, if_pos rfl]
    rw [e]
    refine (rput_nan h hx v hn).mono ?_
    rintro e w' ⟨rfl, a, k⟩
    exact ⟨rfl, a, k.mono fun _ _ h => Or.inl h⟩

theorem merge_all {w : World} {g base g' base' : Nat} {ob ob' : Option Addr} {cb c cb' c' : Nat} {x y : G} (h : GAt w g base ob cb c x) (h' : GAt w g' base' ob' cb' c' y) (hx : Calm x) (hy : Calm y) (hsm : y.cs.length ≤ 1000000) :
    Calls Try.prog 22 #[.pointer (some ⟨g, 0, none⟩), .pointer (some ⟨g', 0, none⟩)] w fun e w' => e = .returned (.int .i64 (mer x y).1) ∧ GAt w' g base ob cb c (mer x y).2 ∧ Keep (fun b => b = g ∨ b = c) w w' := by
  unfold mer
  by_cases hb : alikeB x.bs y.bs = true
  · simp only [hb, if_true]
    exact merge_any h h' hx hy hsm hb
  · rw [Bool.not_eq_true] at hb
    rw [if_neg (by rw [hb]; simp)]
    refine (merge_no h h' hx.b hb).mono ?_
    rintro e w' ⟨rfl, k⟩
    exact ⟨rfl, GAt.keep h k, (Keep.of_below k).mono fun _ _ h => h.elim⟩
theorem rmerge_all {w : World} {g base g' base' : Nat} {ob ob' : Option Addr} {cb c cb' c' : Nat} {x y : G} (h : RAt w g base ob cb c x) (h' : RAt w g' base' ob' cb' c' y) (hx : Calm x) (hy : Calm y) (hsm : y.cs.length ≤ 1000000) :
    Calls Try.prog 23 #[.pointer (some ⟨g, 0, none⟩), .pointer (some ⟨g', 0, none⟩)] w fun e w' => e = .returned (.int .i64 (mer x y).1) ∧ RAt w' g base ob cb c (mer x y).2 ∧ Keep (fun b => b = g ∨ b = c) w w' := by
  unfold mer
  by_cases hb : alikeB x.bs y.bs = true
  · simp only [hb, if_true]
    exact rmerge_ok h h' hx hy hsm hb
  · rw [Bool.not_eq_true] at hb
    rw [if_neg (by rw [hb]; simp)]
    refine (rmerge_no h h' hx.b hb).mono ?_
    rintro e w' ⟨rfl, k⟩
    exact ⟨rfl, h.keep k, (Keep.of_below k).mono fun _ _ h => h.elim⟩
theorem mer_tg {x z : G} {B O vs us : List Nat} (h : TG x B vs) (h' : TG z O us) (hB : okB B) (hO : okB O) (vB : ∀ i, B.getD i 0 < 2 ^ 64) (vO : ∀ i, O.getD i 0 < 2 ^ 64) : ∃ ws, TG (mer x z).2 B ws ∧ ws.length ≤ vs.length + us.length := by
  unfold mer
  by_cases hb : alikeB x.bs z.bs = true
  · rw [if_pos hb]
    have a := of_decide_eq_true hb
    rw [h.hb, h'.hb] at a
    have e : B = O := by
      apply List.ext_getElem a.1
      intro i h1 h2
      have b := key_inj (vB i) (vO i) (hB i h1).1 (hO i h2).1 (a.2 i h1)
      rw [List.getD_eq_getElem?_getD, List.getD_eq_getElem?_getD, List.getElem?_eq_getElem h1, List.getElem?_eq_getElem h2] at b
      exact b
    subst e
    exact ⟨_, h.merge h', by rw [List.length_append]; omega⟩
  · rw [if_neg hb]
    exact ⟨vs, h, by omega⟩
theorem mer_self {x z : G} {B vs us : List Nat} (h : TG x B vs) (h' : TG z B us) : mer x z = (0, mergeG x z) ∧ TG (mergeG x z) B (vs ++ us) := by
  unfold mer
  rw [h.hb, h'.hb, if_pos (alike_refl B)]
  exact ⟨rfl, h.merge h'⟩

/-- The three pairs; the second one only where C. -/
structure St (p1 q1 p2 q2 p3 q3 : Pl) (a1 b1 a2 b2 a3 b3 nb no : Nat) (C : Prop) (w W : World) (x x' z y y' : G) : Prop where
  t1 : Tw p1 q1 a1 b1 nb W x x'
  t2 : C → Tw p2 q2 a2 b2 no W z z
  t3 : Tw p3 q3 a3 b3 nb W y y'
  s12 : b1 ≤ a2
  s13 : b1 ≤ a3
  s23 : b2 ≤ a3
  low : w.heap.size ≤ a1 ∧ w.heap.size ≤ a3
  kept : Below w.heap.size w W
  above : b3 ≤ W.heap.size

theorem St.grow {p1 q1 p2 q2 p3 q3 : Pl} {a1 b1 a2 b2 a3 b3 nb no : Nat} {C : Prop} {w W W' : World} {x x' z y y' : G} (h : St p1 q1 p2 q2 p3 q3 a1 b1 a2 b2 a3 b3 nb no C w W x x' z y y') (k : Below W.heap.size W W') : St p1 q1 p2 q2 p3 q3 a1 b1 a2 b2 a3 b3 nb no C w W' x x' z y y' :=
  { h with t1 := h.t1.grow k, t2 := fun c => (h.t2 c).grow k, t3 := h.t3.grow k, kept := h.kept.trans (k.mono h.kept.size), above := Nat.le_trans h.above k.size }
theorem St.on1 {p1 q1 p2 q2 p3 q3 : Pl} {a1 b1 a2 b2 a3 b3 nb no : Nat} {C : Prop} {w W W' : World} {x x' z y y' u u' : G} (h : St p1 q1 p2 q2 p3 q3 a1 b1 a2 b2 a3 b3 nb no C w W x x' z y y') (t : Tw p1 q1 a1 b1 nb W' u u') (k : Keep (fun b => a1 ≤ b ∧ b < b1) W W') : St p1 q1 p2 q2 p3 q3 a1 b1 a2 b2 a3 b3 nb no C w W' u u' z y y' := by
  have h1 := h.s12
  have h2 := h.s13
  have h3 := h.low.1
  exact { h with t1 := t, t2 := fun c => (h.t2 c).away k (fun b h1 h2 h3 => by omega), t3 := h.t3.away k (fun b h1 h2 h3 => by omega), kept := h.kept.trans (k.below h.kept.size fun b hb => by omega), above := Nat.le_trans h.above k.size }
theorem St.on3 {p1 q1 p2 q2 p3 q3 : Pl} {a1 b1 a2 b2 a3 b3 nb no : Nat} {C : Prop} {w W W' : World} {x x' z y y' u u' : G} (h : St p1 q1 p2 q2 p3 q3 a1 b1 a2 b2 a3 b3 nb no C w W x x' z y y') (t : Tw p3 q3 a3 b3 nb W' u u') (k : Keep (fun b => a3 ≤ b ∧ b < b3) W W') : St p1 q1 p2 q2 p3 q3 a1 b1 a2 b2 a3 b3 nb no C w W' x x' z u u' := by
  have h1 := h.s23
  have h2 := h.s13
  have h3 := h.low.2
  exact { h with t3 := t, t2 := fun c => (h.t2 c).away k (fun b h1 h2 h3 => by omega), t1 := h.t1.away k (fun b h1 h2 h3 => by omega), kept := h.kept.trans (k.below h.kept.size fun b hb => by omega), above := Nat.le_trans h.above k.size }
theorem St.g1 {p1 q1 p2 q2 p3 q3 : Pl} {a1 b1 a2 b2 a3 b3 nb no : Nat} {C : Prop} {w W W' : World} {x x' z y y' u : G} (h : St p1 q1 p2 q2 p3 q3 a1 b1 a2 b2 a3 b3 nb no C w W x x' z y y') (hu : p1.at W' u) (hn : u.bs.length = nb) (k : Keep (fun b => b = p1.g ∨ b = p1.c) W W') : St p1 q1 p2 q2 p3 q3 a1 b1 a2 b2 a3 b3 nb no C w W' u x' z y y' :=
  h.on1 (h.t1.putg hu hn k) (h.t1.gkeep k)
theorem St.r1 {p1 q1 p2 q2 p3 q3 : Pl} {a1 b1 a2 b2 a3 b3 nb no : Nat} {C : Prop} {w W W' : World} {x x' z y y' u : G} (h : St p1 q1 p2 q2 p3 q3 a1 b1 a2 b2 a3 b3 nb no C w W x x' z y y') (hu : rat q1 W' u) (hn : u.bs.length = nb) (k : Keep (fun b => b = q1.g ∨ b = q1.c) W W') : St p1 q1 p2 q2 p3 q3 a1 b1 a2 b2 a3 b3 nb no C w W' x u z y y' :=
  h.on1 (h.t1.putr hu hn k) (h.t1.rkeep k)
theorem St.g3 {p1 q1 p2 q2 p3 q3 : Pl} {a1 b1 a2 b2 a3 b3 nb no : Nat} {C : Prop} {w W W' : World} {x x' z y y' u : G} (h : St p1 q1 p2 q2 p3 q3 a1 b1 a2 b2 a3 b3 nb no C w W x x' z y y') (hu : p3.at W' u) (hn : u.bs.length = nb) (k : Keep (fun b => b = p3.g ∨ b = p3.c) W W') : St p1 q1 p2 q2 p3 q3 a1 b1 a2 b2 a3 b3 nb no C w W' x x' z u y' :=
  h.on3 (h.t3.putg hu hn k) (h.t3.gkeep k)
theorem St.r3 {p1 q1 p2 q2 p3 q3 : Pl} {a1 b1 a2 b2 a3 b3 nb no : Nat} {C : Prop} {w W W' : World} {x x' z y y' u : G} (h : St p1 q1 p2 q2 p3 q3 a1 b1 a2 b2 a3 b3 nb no C w W x x' z y y') (hu : rat q3 W' u) (hn : u.bs.length = nb) (k : Keep (fun b => b = q3.g ∨ b = q3.c) W W') : St p1 q1 p2 q2 p3 q3 a1 b1 a2 b2 a3 b3 nb no C w W' x x' z y u :=
  h.on3 (h.t3.putr hu hn k) (h.t3.rkeep k)

/-- The quantiles' slice, laid behind them all, stays. -/
theorem St.q1 {p1 q1 p2 q2 p3 q3 : Pl} {a1 b1 a2 b2 a3 b3 nb no : Nat} {C : Prop} {w W W' : World} {x x' z y y' : G} (h : St p1 q1 p2 q2 p3 q3 a1 b1 a2 b2 a3 b3 nb no C w W x x' z y y') {o : Option Addr} {Q : List Nat} (f : Fls W o Q) (hb : ∀ a, o = some a → b3 ≤ a.block) (k : Keep (fun b => b = p1.g ∨ b = p1.c) W W') : Fls W' o Q := by
  have h1 := h.t1.grange
  have h2 := h.t3.grange
  have h3 := h.s13
  refine fls_keep' f k fun a ha => ?_
  have := hb a ha
  omega
theorem St.q2 {p1 q1 p2 q2 p3 q3 : Pl} {a1 b1 a2 b2 a3 b3 nb no : Nat} {C : Prop} {w W W' : World} {x x' z y y' : G} (h : St p1 q1 p2 q2 p3 q3 a1 b1 a2 b2 a3 b3 nb no C w W x x' z y y') {o : Option Addr} {Q : List Nat} (f : Fls W o Q) (hb : ∀ a, o = some a → b3 ≤ a.block) (k : Keep (fun b => b = q1.g ∨ b = q1.c) W W') : Fls W' o Q := by
  have h1 := h.t1.rrange
  have h2 := h.t3.grange
  have h3 := h.s13
  refine fls_keep' f k fun a ha => ?_
  have := hb a ha
  omega
theorem fls_own {w : World} {base b n cap : Nat} {L : List Value} {us : List Nat} (h : w.ownsRow base 24 1 (.slice (some ⟨b, 0, none⟩) n cap) n L) (hn : us.length ≤ n) (hL : ∀ i, i < us.length → L[i]? = some (.float .f64 (us.getD i 0))) : Fls w (some ⟨b, 0, none⟩) us := by
  intro i hi
  refine ⟨_, rfl, ?_⟩
  rw [addr_add, Nat.zero_add, h.cellAt i (by omega)]
  exact hL i hi
theorem fls_more (us : List Nat) (u : Value) (i : Nat) (hi : i < us.length) : (f64s us ++ [u])[i]? = some (.float .f64 (us.getD i 0)) := by
  rw [List.getElem?_append_left (by rw [f64s_length]; exact hi)]
  exact f64s_get us i hi
theorem st_make {p1 q1 p3 q3 : Pl} {a1 b1 a2 b2 a3 b3 nb no : Nat} {C : Prop} {w W : World} {x z y : G} {t t' : Option Addr} (h1 : Tw p1 q1 a1 b1 nb W x x) (h2 : C → ∃ p2 q2 : Pl, t = some ⟨p2.g, 0, none⟩ ∧ t' = some ⟨q2.g, 0, none⟩ ∧ Tw p2 q2 a2 b2 no W z z) (h3 : Tw p3 q3 a3 b3 nb W y y)
    (s12 : b1 ≤ a2) (s13 : b1 ≤ a3) (s23 : b2 ≤ a3) (l1 : w.heap.size ≤ a1) (l3 : w.heap.size ≤ a3) (k : Below w.heap.size w W) (ha : b3 ≤ W.heap.size) :
    ∃ p2 q2 : Pl, (C → t = some ⟨p2.g, 0, none⟩ ∧ t' = some ⟨q2.g, 0, none⟩) ∧ St p1 q1 p2 q2 p3 q3 a1 b1 a2 b2 a3 b3 nb no C w W x x z y y := by
  by_cases hC : C
  · obtain ⟨p2, q2, e1, e2, ht⟩ := h2 hC
    exact ⟨p2, q2, fun _ => ⟨e1, e2⟩, h1, fun _ => ht, h3, s12, s13, s23, ⟨l1, l3⟩, k, ha⟩
  · exact ⟨p1, q1, fun h => absurd h hC, h1, fun h => absurd h hC, h3, s12, s13, s23, ⟨l1, l3⟩, k, ha⟩
end Go.Proofs.Ytdkcnbcjjlaidaa.gaugeAll
