/- A gauge in memory; gauge.New. By an AI agent. -/
import Derived.Test.YtdkcnbcjjlaidaaGauA
import Derived.Test.YtdkcnbcjjlaidaaAppB
import Derived.Deep.OwnRows
namespace Go.Proofs.Ytdkcnbcjjlaidaa
open Go.ChangeShapes Go.WideShapes Go.ChangeAt Go.RowKit
set_option linter.unusedVariables false

/-- Floats as cells. -/
def f64s (us : List Nat) : List Value := us.map fun u => Value.float .f64 u
theorem f64s_length (us : List Nat) : (f64s us).length = us.length := by simp [f64s]
theorem f64s_get (us : List Nat) (i : Nat) (h : i < us.length) : (f64s us)[i]? = some (.float .f64 (us.getD i 0)) := by
  simp [f64s, List.getD_eq_getElem?_getD, h]
theorem info_f64 : (Try.prog.info? 24).map (fun i => (i.zero, i.size, i.bytes)) = some (some (.float .f64 0), 1, 8) := by kernel_rfl
theorem info_i64 : (Try.prog.info? 2).map (fun i => (i.zero, i.size, i.bytes)) = some (some (.int .i64 0), 1, 8) := by kernel_rfl

/-- A slice of floats. -/
def Fls (w : World) (o : Option Addr) (us : List Nat) : Prop := ∀ i, i < us.length → ∃ ad, o = some ad ∧ w.cell? (ad.add i) = some (.float .f64 (us.getD i 0))

theorem add_block (a : Addr) (i : Nat) : (a.add i).block = a.block := by
  unfold Addr.add
  split <;> rfl
theorem cell_in {w : World} {a : Addr} {v : Value} (h : w.cell? a = some v) : a.block < w.heap.size := by
  rcases Nat.lt_or_ge a.block w.heap.size with h1 | h1
  · exact h1
  · exfalso
    unfold World.cell? at h
    rw [Array.getElem?_eq_none h1] at h
    cases h
theorem fls_keep {w w' : World} {o : Option Addr} {us : List Nat} (h : Fls w o us) (k : Below w.heap.size w w') : Fls w' o us := by
  intro i hi
  obtain ⟨ad, e, hc⟩ := h i hi
  exact ⟨ad, e, (k.cell (by exact cell_in hc)).trans hc⟩
theorem fls_keep' {bs : Nat → Prop} {w w' : World} {o : Option Addr} {us : List Nat} (h : Fls w o us) (k : Keep bs w w') (hn : ∀ ad, o = some ad → ¬ bs ad.block) : Fls w' o us := by
  intro i hi
  obtain ⟨ad, e, hc⟩ := h i hi
  exact ⟨ad, e, (k.cell (by exact cell_in hc) (by rw [add_block]; exact hn ad e)).trans hc⟩

theorem fls_of {w : World} {base n : Nat} {v : Value} {us : List Nat} (h : w.ownsRow base 24 1 v n (f64s us)) : ∃ o cap, v = .slice o us.length cap ∧ Fls w o us ∧ (o = none → cap = 0) ∧ (∀ a, o = some a → base ≤ a.block ∧ a.block < w.heap.size ∧ v.ownBlock = some a.block) := by
  have hl : us.length = n := by have := h.1; rw [f64s_length] at this; omega
  subst hl
  rcases h.2 with ⟨h1, h2⟩ | ⟨g, cap, cells, rfl, h1, h2, h3, h4, -⟩
  · refine ⟨none, 0, by rw [h1, h2], fun i hi => absurd hi (by omega), fun _ => rfl, fun a ha => by cases ha⟩
  · refine ⟨_, cap, rfl, fun i hi => ⟨_, rfl, h.cells rfl i _ (f64s_get us i hi)⟩, (fun h => nomatch h), fun a ha => ?_⟩
    cases ha
    exact ⟨h1, lt_of_block h2, rfl⟩

/-- What a gauge holds. -/
structure G where
  bs : List Nat
  cs : List Int
  n : Int
  nn : Int
  le : Nat
  gr : Nat
  me : Nat

def i64s (cs : List Int) : Array Value := (cs.map fun c => Value.int .i64 c).toArray

def gcells (ob : Option Addr) (cb c : Nat) (x : G) : Array Value :=
  #[.bool true, .slice ob x.bs.length cb, .slice (some ⟨c, 0, none⟩) x.cs.length x.cs.length, .int .i64 x.n, .int .i64 x.nn, .float .f64 x.le, .float .f64 x.gr, .float .f64 x.me]

/-- A gauge in memory, all above 'base'. -/
structure GAt (w : World) (g base : Nat) (ob : Option Addr) (cb c : Nat) (x : G) : Prop where
  row : w.heap[g]? = some (.cells (gcells ob cb c x) 64 (0, 0))
  fls : Fls w ob x.bs
  cls : w.heap[c]? = some (.cells (i64s x.cs) 2 (0, 0))
  gb : base ≤ g
  cbase : base ≤ c
  ne : g ≠ c
  apart : ∀ a, ob = some a → base ≤ a.block ∧ a.block ≠ g ∧ a.block ≠ c
  len : x.cs.length = x.bs.length + 1
  lt : ∀ i, x.bs.getD i 0 < 2 ^ 64
  le64 : x.le < 2 ^ 64
  gr64 : x.gr < 2 ^ 64

theorem GAt.keep {w w' : World} {g base : Nat} {ob : Option Addr} {cb c : Nat} {x : G} (h : GAt w g base ob cb c x) (k : Below w.heap.size w w') : GAt w' g base ob cb c x :=
  { h with row := (k.block _ (lt_of_block h.row)).trans h.row, fls := fls_keep h.fls k, cls := (k.block _ (lt_of_block h.cls)).trans h.cls }

/-- Bounds as they may be. -/
def okB (us : List Nat) : Prop := ∀ i, i < us.length → Flt.nan (us.getD i 0) = false ∧ (0 < i → cmpF (us.getD (i - 1) 0) (us.getD i 0) < 0)

def newG (us : List Nat) : G := ⟨us, List.replicate (us.length + 1) 0, 0, 0, 0, 0, 0⟩

theorem made_ints (n : Nat) : madeCells #[Value.int .i64 0] n = i64s (List.replicate n 0) := by
  rw [← Array.toList_inj, toList_madeCells_one]
  simp [i64s]

def ncells (o1 : Option Addr) (c1 c : Nat) (us : List Nat) : Array Value := #[.bool true, .slice o1 us.length c1, .slice (some ⟨c, 0, none⟩) (us.length + 1) (us.length + 1), .int .i64 0, .int .i64 0, .float .f64 0, .float .f64 0, .float .f64 0]
theorem ncells_eq (o1 : Option Addr) (c1 c : Nat) (us : List Nat) : ncells o1 c1 c us = gcells o1 c1 c (newG us) := by simp [ncells, gcells, newG]

theorem gnew_one {w w1 : World} {us : List Nat} {o1 : Option Addr} {c1 : Nat} (hb : Below w.heap.size w w1) (hf : Fls w1 o1 us) (ha : ∀ a, o1 = some a → w.heap.size ≤ a.block ∧ a.block < w1.heap.size) (hlt : ∀ i, us.getD i 0 < 2 ^ 64) :
    GAt ((w1.alloc (.cells (i64s (List.replicate (us.length + 1) 0)) 2)).alloc (.cells (ncells o1 c1 w1.heap.size us) 64)) (w1.heap.size + 1) w.heap.size o1 c1 w1.heap.size (newG us) ∧
    Below w.heap.size w ((w1.alloc (.cells (i64s (List.replicate (us.length + 1) 0)) 2)).alloc (.cells (ncells o1 c1 w1.heap.size us) 64)) := by
  have hz := hb.size
  rw [ncells_eq]
  refine ⟨⟨blk_new_at (w1.alloc _) _ (by simp), fls_keep (fls_keep hf ((Below.refl _ w1).alloc (Nat.le_refl _) _)) ((Below.refl _ _).alloc (Nat.le_refl _) _), blk_alloc (blk_new w1 _) _, by omega, hz, by omega, fun a h => ?_, by simp [newG], hlt, by simp [newG], by simp [newG]⟩, (hb.alloc hz _).alloc (by simp; omega) _⟩
  have := ha a h
  omega

theorem gnew_two {w w1 : World} {us : List Nat} {o1 : Option Addr} {c1 : Nat} (hb : Below (w.heap.size + 1) (w.alloc (.cells (i64s (List.replicate (us.length + 1) 0)) 2)) w1) (hf : Fls w1 o1 us) (ha : ∀ a, o1 = some a → w.heap.size < a.block ∧ a.block < w1.heap.size) (hlt : ∀ i, us.getD i 0 < 2 ^ 64) :
    GAt (w1.alloc (.cells (ncells o1 c1 w.heap.size us) 64)) w1.heap.size w.heap.size o1 c1 w.heap.size (newG us) ∧
    Below w.heap.size w (w1.alloc (.cells (ncells o1 c1 w.heap.size us) 64)) := by
  have hz := hb.size
  rw [ncells_eq]
  simp at hz
  refine ⟨⟨blk_new w1 _, fls_keep hf ((Below.refl _ w1).alloc (Nat.le_refl _) _), blk_alloc ((hb.block w.heap.size (by omega)).trans (blk_new w _)) _, by omega, Nat.le_refl _, by omega, fun a h => ?_, by simp [newG], hlt, by simp [newG], by simp [newG]⟩, (((Below.refl _ w).alloc (Nat.le_refl _) _).trans (hb.mono (by omega))).alloc (by omega) _⟩
  have := ha a h
  omega

set_option maxRecDepth 100000 in
set_option maxHeartbeats 8000000 in
theorem gnew_ok (o : Option Addr) (us : List Nat) (cap : Nat) (w : World) (hF : Fls w o us) (hc : o = none → cap = 0) (hn : us.length ≤ 64) (hlt : ∀ i, us.getD i 0 < 2 ^ 64) (hok : okB us) :
    Calls Try.prog 15 #[.slice o us.length cap] w fun e w' => ∃ g ob cb c, e = .returned (.tuple #[.pointer (some ⟨g, 0, none⟩), .int .i64 0]) ∧ GAt w' g w.heap.size ob cb c (newG us) ∧ Below w.heap.size w w' := by
  obtain ⟨i0, hi, hz0, hz1, hz2⟩ := info_parts info_f64
  have hmk : ∀ w, (Instr.makeSlice 52 (.int .i64 ((us.length : Int) + 1)) (.int .i64 ((us.length : Int) + 1))).run Try.prog w = .ok (.slice (some ⟨w.heap.size, 0, none⟩) (us.length + 1) (us.length + 1)) (w.alloc (.cells (i64s (List.replicate (us.length + 1) 0)) 2)) := by
    intro w
    have h := run_make_row' (P := Try.prog) 52 2 (.int .i64 0) 8 Try.underlying52 info_i64 rfl .i64 .i64 (us.length + 1) (by omega) (by omega) w
    rw [made_ints] at h
    exact h
  have HF := Lib.hid (And.intro hF (And.intro hc (And.intro hlt hok)))
  clear hF hc hlt hok
  have HN := Lib.hid (rfl : us.length = us.length)
  generalize hlen : us.length = n at *
  have HLEN := Lib.hid hlen
  clear hlen
  go_enter Try.func15, Try.ntmps15
  go_wp2_with fail
  go_loopg [11] n (fun g i wr => ∃ k : Nat, g + k = n ∧ i = .int .i64 (k : Int) ∧ wr = w)
  case atStart => exact ⟨0, by omega, rfl, rfl⟩
  case round =>
    obtain ⟨k, hgk, rfl, rfl⟩ := hrel
    by_cases hk : k < n
    · obtain ⟨ad, rfl, hcell⟩ := HF.out.1 k (by rw [HLEN.out]; exact hk)
      obtain ⟨hnan, hcm⟩ := HF.out.2.2.2 k (by rw [HLEN.out]; exact hk)
      have hx := HF.out.2.2.1 k
      have hfn : (FloatKind.f64.format.order (us.getD k 0) (us.getD k 0) != some .eq) = false := by rw [← hnan, ← Flt.fnan_eq]; rfl
      by_cases h0 : k = 0
      · subst h0
        have hcell0 : wr.cell? ad = some (.float .f64 (us.getD 0 0)) := by simpa [Addr.add] using hcell
        generalize us.getD 0 0 = x at *
        go_wp2_with fail
        go_roundg (gk - 1)
        case measure => omega
        case rel => exact ⟨1, by omega, rfl, rfl⟩
      · obtain ⟨ad', e', hcell'⟩ := HF.out.1 (k - 1) (by rw [HLEN.out]; omega)
        cases e'
        have hx' := HF.out.2.2.1 (k - 1)
        have hcm := hcm (by omega)
        have HC := Lib.hid (compare_any _ _ hx' hx wr)
        generalize us.getD k 0 = x at *
        generalize us.getD (k - 1) 0 = y at *
        generalize cmpF y x = z at *
        have hk1 : ((k : Int) - 1).toNat = k - 1 := by omega
        go_wp2_with fail
        refine HC.out.mono ?_
        rintro e w1 ⟨rfl, rfl⟩
        go_wp2_with fail
        go_roundg (gk - 1)
        case measure => omega
        case rel => exact ⟨k + 1, by omega, rfl, rfl⟩
    · have hkn : k = n := by omega
      subst hkn
      have HW : RowKit.Hid (∀ W, (W = wr.drew ∨ ∃ x, W = wr.drew.alloc x) → ∀ j u, (f64s us)[j]? = some u → ∃ ad, o = some ad ∧ W.cell? (ad.add j) = some u) := by
        refine Lib.hid fun W hW' j u hj => ?_
        have hdr : Below wr.heap.size wr wr.drew := ⟨rfl, rfl, rfl, Nat.le_refl _, fun _ _ => rfl⟩
        have hW : Below wr.heap.size wr W := by
          rcases hW' with rfl | ⟨x, rfl⟩
          · exact hdr
          · exact hdr.alloc (Nat.le_refl _) x
        have hjl : j < us.length := by
          rcases Nat.lt_or_ge j us.length with h | h
          · exact h
          · rw [List.getElem?_eq_none (by rw [f64s_length]; exact h)] at hj; cases hj
        rw [f64s_get us j hjl] at hj
        cases hj
        exact fls_keep HF.out.1 hW j hjl
      have hwr : IntKind.i64.wrap ((k : Int) + 1) = (k : Int) + 1 := IntWalk.i64_in _ ⟨by omega, by omega⟩
      have h1 : ∀ u ∈ f64s us, u.oneCell' = true := by
        intro u hu
        obtain ⟨x, -, rfl⟩ := List.mem_map.1 hu
        rfl
      have hl : (f64s us).length = k := by rw [f64s_length]; exact HLEN.out
      go_wp2_with fail
      go_region_law (first
        | (refine step_append_sl rfl (.const (.slice none 0 0)) (.tmp 34) 35 rfl wr.heap.size 24 i0 (.float .f64 0) 8 Try.underlying35 hi hz0 hz1 hz2 rfl (.slice none 0 0) 0 [] rfl ⟨rfl, Or.inl ⟨rfl, rfl⟩⟩ o k cap (f64s us) rfl hl (HW.out _ (by first | exact Or.inl rfl | exact Or.inr ⟨_, rfl⟩)) h1 HF.out.2.1 (by unfold maxLen; omega) (by omega) (by simp) ?_
           intro v1 w1 hown1 hgr1 hblk1
           obtain ⟨o1, c1, rfl, hfl1, hc1, ha1⟩ := fls_of hown1
           have HX := Lib.hid (And.intro hfl1 (And.intro hc1 (And.intro ha1 (And.intro hgr1 hblk1))))
           clear hown1 hgr1 hblk1 hfl1 hc1 ha1))
      all_goals go_wp2_with fail
      all_goals go_ret2
      all_goals have hk2 := HLEN.out
      all_goals subst hk2
      all_goals first
        | (refine ⟨_, o1, c1, _, rfl, gnew_one (w := wr) (c1 := c1) ?_ HX.out.1 ?_ HF.out.2.2.1⟩
           · exact (show Below wr.heap.size wr wr.drew from ⟨rfl, rfl, rfl, Nat.le_refl _, fun _ _ => rfl⟩).grown HX.out.2.2.2.1 (Nat.le_refl _) (by intro k hk; cases hk)
           · exact fun a h => ⟨(HX.out.2.2.1 a h).1, (HX.out.2.2.1 a h).2.1⟩)
        | (refine ⟨_, o1, c1, _, rfl, gnew_two (w := wr) (c1 := c1) ?_ HX.out.1 ?_ HF.out.2.2.1⟩
           · have hd : Below (wr.heap.size + 1) ((wr.alloc (.cells (i64s (List.replicate (us.length + 1) 0)) 2)).drew) w1 := by
               have := (Below.refl (wr.heap.size + 1) ((wr.alloc (.cells (i64s (List.replicate (us.length + 1) 0)) 2)).drew)).grown HX.out.2.2.2.1 (by show wr.heap.size + 1 ≤ (wr.alloc _).heap.size; simp) (by intro k hk; cases hk)
               exact this
             exact ⟨hd.os, hd.tape, hd.output, hd.size, hd.block⟩
           · intro a h
             have h1 := HX.out.2.2.1 a h
             have h2 := HX.out.2.2.2.2
             rw [h1.2.2] at h2
             simp [Value.ownBlock] at h2
             omega)
end Go.Proofs.Ytdkcnbcjjlaidaa
