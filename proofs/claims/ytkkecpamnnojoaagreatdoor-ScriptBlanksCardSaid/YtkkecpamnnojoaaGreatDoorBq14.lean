/- A part of the proof of ScriptBlanks: nothing is assumed. By an AI agent. -/
import Derived.Test.YtkkecpamnnojoaaGreatDoorBq13
import Derived.Deep.RegionLaw
import Derived.StillTailTactics
namespace Go.Proofs.YtkkecpamnnojoaaGreatDoor
open Go.ChangeShapes Go.WideShapes Go.ChangeAt Go.RowKit
open Bt Dc By
set_option linter.unusedVariables false
namespace Sc

structure Grown (S : T → Prop) (w w' : World) (own own' : Nat → Option T) : Prop where
 keep : Keep (fun g => ∃ t, own g = some t ∧ S t) w w'
 old : ∀ g t, own g = some t → own' g = some t
 low : ∀ g, own' g ≠ none → g < w'.heap.size
 new : ∀ g, own g = none → own' g ≠ none → w.heap.size ≤ g
theorem Grown.to {S : T → Prop} {w w' : World} {own own' : Nat → Option T} (h : Grown S w w' own own') : To own own' w w' :=
 ⟨h.keep.mono fun g _ ⟨t, ht, _⟩ => by rw [ht]; simp, fun g hg hn => by
  cases hq : own' g with
  | none => rfl
  | some t => have := h.new g hn (by rw [hq]; simp); omega⟩
theorem RowT.far {S : T → Prop} {w w' : World} {own own' : Nat → Option T} {tag : T} {e sz n : Nat} {v : Value} {xs : List Value} (h : RowT w own tag e sz v n xs) (G : Grown S w w' own own') (hs : ¬ S tag) : RowT w' own' tag e sz v n xs :=
 h.move G.keep (fun g hg ⟨t, ht, hS⟩ => by rw [hg] at ht; cases ht; exact hs hS) (fun g hg => G.old g _ hg)
theorem CallsAt.far {S : T → Prop} {w w' : World} {own own' : Nat → Option T} {i : Nat} {t : MT} (h : CallsAt w own i t) (G : Grown S w w' own own') (hs : ∀ n j, (n = 3 ∨ n = 4) → ¬ S (n, i, j)) : CallsAt w' own' i t :=
 ⟨h.row.far G (hs 3 0 (Or.inl rfl)), fun j c hc => (h.data j c hc).far G (hs 4 j (Or.inr rfl))⟩
theorem EndAt.far {S : T → Prop} {w w' : World} {own own' : Nat → Option T} {i : Nat} {e : ME} (h : EndAt w own i e) (G : Grown S w w' own own') (hs : ∀ n j, (n = 7 ∨ n = 8 ∨ n = 9) → ¬ S (n, i, j)) : EndAt w' own' i e :=
 ⟨h.keeps.far G (hs 7 0 (Or.inl rfl)), fun j k hk => (h.junk j k hk).far G (hs 8 j (Or.inr (Or.inl rfl))), h.faults.far G (hs 9 0 (Or.inr (Or.inr rfl)))⟩
def put (own : Nat → Option T) (v : Value) (t : T) : Nat → Option T := fun g => if v.ownBlock = some g then some t else own g
theorem grown_put {w w4 : World} {own : Nat → Option T} {v v' : Value} {tag tag2 : T} {e sz n n' : Nat} {xs ys : List Value} {b i : Nat} (u : Value) (hlow : ∀ g, own g ≠ none → g < w.heap.size) (h : RowT w own tag e sz v n xs) (h' : w4.ownsRow 0 e sz v' n' ys)
  (k : Keep (fun g => v.ownBlock = some g) w w4) (hb : v'.ownBlock = v.ownBlock ∨ ∃ g, v'.ownBlock = some g ∧ w.heap.size ≤ g) (ht : own b = some tag2) :
  Grown (fun t => t = tag ∨ t = tag2) w (w4.setCell ⟨b, i, none⟩ u) own (put own v' tag) where
 keep := by
  have k1 : Keep (fun g => ∃ t, own g = some t ∧ (t = tag ∨ t = tag2)) w w4 := k.mono fun g _ hg => ⟨tag, h.tag g hg, Or.inl rfl⟩
  exact k1.setCell (p := ⟨b, i, none⟩) (Or.inl ⟨tag2, ht, Or.inr rfl⟩) u
 old := fun g t hg => by
  unfold put
  split
  ·rename_i hv
   rcases hb with hb | ⟨g2, hb, hl⟩
   ·rw [hb] at hv; rw [h.tag g hv] at hg; exact hg
   ·rw [hb] at hv; cases hv
    have := hlow g (by rw [hg]; simp)
    omega
  ·exact hg
 low := fun g hg => by
  have hz : (w4.setCell ⟨b, i, none⟩ u).heap.size = w4.heap.size := by simp [World.setCell]
  rw [hz]
  unfold put at hg
  split at hg
  ·rename_i hv
   exact row_lt h' hv
  ·exact Nat.lt_of_lt_of_le (hlow g hg) k.size
 new := fun g hn hg => by
  unfold put at hg
  split at hg
  ·rename_i hv
   rcases hb with hb | ⟨g2, hb, hl⟩
   ·rw [hb] at hv; rw [h.tag g hv] at hn; cases hn
   ·rw [hb] at hv; cases hv; exact hl
  ·exact absurd hn hg
theorem put_tag (own : Nat → Option T) (v : Value) (t : T) : ∀ g, v.ownBlock = some g → put own v t g = some t := fun g hg => by unfold put; rw [if_pos hg]
theorem row_put {w4 : World} {own : Nat → Option T} {v' : Value} {tag : T} {e sz n' : Nat} {ys : List Value} {b i : Nat} (u : Value) (h' : w4.ownsRow 0 e sz v' n' ys) (hne : v'.ownBlock ≠ some b) : RowT (w4.setCell ⟨b, i, none⟩ u) (put own v' tag) tag e sz v' n' ys :=
 ⟨row_keep h' ((Keep.refl (fun g => g = b) w4).setCell (p := ⟨b, i, none⟩) (Or.inl rfl) u) fun g hg e => by subst e; exact hne hg, put_tag own v' tag⟩
def M.arm (m : M) (f : Fault) (v : Value) : M := match m.es.getLast? with
 | some e => { m with es := m.es.dropLast ++ [{ e with fv := v, fs := e.fs ++ [f] }] }
 | none => { m with fv := v, fs := m.fs ++ [f] }
theorem M.arm_play (m : M) (f : Fault) (v : Value) : (m.arm f v).play = Sc.arm m.play f ∧ (m.arm f v).st = m.st := by
 unfold M.arm Sc.arm
 rw [show m.play.ends.getLast? = m.es.getLast?.map ME.reopen from by unfold M.play; simp only [List.getLast?_map]]
 cases m.es.getLast? with
 | none => exact ⟨rfl, rfl⟩
 | some e =>
  refine ⟨?_, rfl⟩
  unfold M.play
  simp [ME.reopen, List.map_dropLast]
def armT (m : M) : T := if m.es = [] then (1, 0, 0) else (9, m.es.length - 1, 0)
theorem PAt.arm_row {w : World} {own : Nat → Option T} {pb : Nat} {m : M} (h : PAt w own pb m) : RowT w own (armT m) 114 3 (armV m) (armL m).length (fsv (armL m)) ∧ ∃ t, own (armP m pb).block = some t ∧ (t = (0, 0, 0) ∨ t = (6, 0, 0)) ∧ t ≠ armT m := by
 unfold armT armV armL armP
 cases hl : m.es.getLast? with
 | none =>
  have he : m.es = [] := List.getLast?_eq_none_iff.1 hl
  rw [if_pos he, if_pos he]
  exact ⟨h.fs, _, h.tag, Or.inl rfl, by decide⟩
 | some e =>
  obtain ⟨hne, hg⟩ := last_get hl
  rw [if_neg hne, if_neg hne]
  obtain ⟨g, cap, hv, -, ht, -⟩ := h.shape_es hne
  refine ⟨(h.ends _ e hg).faults, (6, 0, 0), ?_, Or.inr rfl, by simp⟩
  rw [hv]
  exact ht
theorem set_last {α : Type} (f : α → List Value) (k : Nat) (hk : ∀ x, (f x).length = k) (l : List α) (x y : α) (j : Nat) (u : Value) (hj : j < k) (hy : f y = (f x).set j u) : (l ++ [y]).flatMap f = ((l ++ [x]).flatMap f).set (l.length * k + j) u := by
 have hl : (l.flatMap f).length = l.length * k := by
  induction l with
  | nil => simp
  | cons z r ih => rw [List.flatMap_cons, List.length_append, ih, hk, List.length_cons, Nat.succ_mul]; omega
 rw [List.flatMap_append, List.flatMap_append, List.set_append_right _ _ (by rw [hl]; omega), hl]
 simp [hy]
theorem PAt.arm_push {w w4 : World} {own : Nat → Option T} {pb : Nat} {m : M} (h : PAt w own pb m) (f : Fault) {v' : Value} (h' : w4.ownsRow 0 114 3 v' ((armL m).length + 1) (fsv (armL m) ++ fcells f))
  (k : Keep (fun g => (armV m).ownBlock = some g) w w4) (hb : v'.ownBlock = (armV m).ownBlock ∨ ∃ g, v'.ownBlock = some g ∧ w.heap.size ≤ g) :
  PAt (w4.setCell (armP m pb) v') (put own v' (armT m)) pb (m.arm f v') ∧ To own (put own v' (armT m)) w (w4.setCell (armP m pb) v') := by
 obtain ⟨hrow, t2, ht2, ht3, ht4⟩ := h.arm_row
 have hsp : (armP m pb) = ⟨(armP m pb).block, (armP m pb).off, none⟩ := by unfold armP; split <;> rfl
 have G : Grown (fun t => t = armT m ∨ t = t2) w (w4.setCell (armP m pb) v') own (put own v' (armT m)) := by
  rw [hsp]
  exact grown_put v' h.low hrow h' k hb ht2
 have hne : v'.ownBlock ≠ some (armP m pb).block := by
  intro e
  rcases hb with hb | ⟨g, hb, hl⟩
  ·rw [hb] at e
   rw [hrow.tag _ e] at ht2
   cases ht2
   exact ht4 rfl
  ·rw [hb] at e
   cases e
   have := h.low _ (by rw [ht2]; simp)
   omega
 have hrow' : RowT (w4.setCell (armP m pb) v') (put own v' (armT m)) (armT m) 114 3 v' ((armL m).length + 1) (fsv (armL m) ++ fcells f) := by
  rw [hsp]
  exact row_put v' h' hne
 refine ⟨?_, G.to⟩
 cases hl : m.es.getLast? with
 | none =>
  have he : m.es = [] := List.getLast?_eq_none_iff.1 hl
  have e1 : armT m = (1, 0, 0) := by unfold armT; rw [if_pos he]
  have e2 : armP m pb = ⟨pb, 9, none⟩ := by unfold armP; rw [if_pos he]
  have e3 : armL m = m.fs := by unfold armL; rw [hl]
  have e4 : armV m = m.fv := by unfold armV; rw [hl]
  have e5 : m.arm f v' = { m with fv := v', fs := m.fs ++ [f] } := by unfold M.arm; rw [hl]
  have e6 : t2 = (0, 0, 0) := by
   rw [e2] at ht2
   have := h.tag
   rw [show (⟨pb, 9, none⟩ : Addr).block = pb from rfl, this] at ht2
   cases ht2
   rfl
  rw [e5]
  rw [e1, e2, e3] at hrow'
  rw [e1, e2, e6] at G
  rw [e1, e2]
  rw [e4] at k
  exact {
   low := G.low
   blk := by
    have hpb := k.same h.blk (fun e => by have := h.fs.tag pb e; rw [h.tag] at this; cases this)
    exact blk_set hpb 9 v'
   tag := G.old _ _ h.tag
   fs := by
    rw [show (m.fs ++ [f]).length = m.fs.length + 1 by simp, show fsv (m.fs ++ [f]) = fsv m.fs ++ fcells f by simp [fsv]]
    exact hrow'
   ts := h.ts.far G (by simp)
   calls := fun i t ht => (h.calls i t ht).far G (fun n j hn => by rcases hn with rfl | rfl <;> simp)
   ps := h.ps.far G (by simp)
   es := h.es.far G (by simp)
   ends := fun i e he => (h.ends i e he).far G (fun n j hn => by rcases hn with rfl | rfl | rfl <;> simp) }
 | some e =>
  obtain ⟨hne2, hg⟩ := last_get hl
  obtain ⟨pre, hpre⟩ : ∃ pre, m.es = pre ++ [e] := List.getLast?_eq_some_iff.1 hl
  have hlen : m.es.length - 1 = pre.length := by rw [hpre]; simp
  obtain ⟨g6, cap, hv, hcap, h6, -⟩ := h.shape_es hne2
  have e1 : armT m = (9, pre.length, 0) := by unfold armT; rw [if_neg hne2, hlen]
  have e2 : armP m pb = ⟨g6, pre.length * 3 + 2, none⟩ := by unfold armP; rw [if_neg hne2, hv, hlen]; rfl
  have e3 : armL m = e.fs := by unfold armL; rw [hl]
  have e4 : armV m = e.fv := by unfold armV; rw [hl]
  have e5 : m.arm f v' = { m with es := pre ++ [{ e with fv := v', fs := e.fs ++ [f] }] } := by unfold M.arm; rw [hl, hpre, List.dropLast_concat]
  have e6 : t2 = (6, 0, 0) := by
   rw [e2, show (⟨g6, pre.length * 3 + 2, none⟩ : Addr).block = g6 from rfl, h6] at ht2
   cases ht2
   rfl
  rw [e5]
  rw [e1, e2, e3] at hrow'
  rw [e1, e2, e6] at G
  rw [e1] at hrow
  rw [e1, e2]
  rw [e4] at k hrow
  have hgp : g6 ≠ pb := by intro e; rw [e, h.tag] at h6; cases h6
  have hend := h.ends pre.length e (by rw [← hlen]; exact hg)
  exact {
   low := G.low
   blk := by
    have hpb := k.same h.blk (fun e => by have := hrow.tag pb e; rw [h.tag] at this; cases this)
    exact blk_other hpb (fun e => hgp e.symm) _ v'
   tag := G.old _ _ h.tag
   fs := h.fs.far G (by simp)
   ts := h.ts.far G (by simp)
   calls := fun i t ht => (h.calls i t ht).far G (fun n j hn => by rcases hn with rfl | rfl <;> simp)
   ps := h.ps.far G (by simp)
   es := by
    have hr := row_keep h.es.row k fun g hg e => by have a := hrow.tag g e; have b := h.es.tag g hg; rw [b] at a; cases a
    rw [hv] at hr
    have hs := row_set hr (j := pre.length * 3 + 2) (by rw [hpre]; simp; omega) v'
    refine ⟨?_, fun g hg => G.old _ _ (h.es.tag g hg)⟩
    show (w4.setCell ⟨g6, pre.length * 3 + 2, none⟩ v').ownsRow 0 82 3 m.ev (pre ++ [{ e with fv := v', fs := e.fs ++ [f] }]).length ((pre ++ [{ e with fv := v', fs := e.fs ++ [f] }]).flatMap ME.cells)
    rw [set_last ME.cells 3 (fun _ => rfl) pre e _ 2 v' (by omega) rfl, hv]
    rw [show m.es.length = pre.length + 1 from by rw [hpre]; simp]
    rw [hpre] at hs
    simpa using hs
   ends := fun i e0 he0 => by
    by_cases hi : i = pre.length
    ·subst hi
     obtain rfl : e0 = { e with fv := v', fs := e.fs ++ [f] } := by simpa using he0.symm
     refine ⟨hend.keeps.far G (by simp), fun j kk hk => (hend.junk j kk hk).far G (by simp), ?_⟩
     show RowT _ _ _ _ _ v' (e.fs ++ [f]).length (fsv (e.fs ++ [f]))
     rw [show (e.fs ++ [f]).length = e.fs.length + 1 by simp, show fsv (e.fs ++ [f]) = fsv e.fs ++ fcells f by simp [fsv]]
     exact hrow'
    ·have hlt : i < pre.length := by
      rcases Nat.lt_or_ge i pre.length with h | h
      ·exact h
      ·rw [List.getElem?_append_right h] at he0
       have : i - pre.length ≠ 0 := by omega
       cases hq : i - pre.length with
       | zero => omega
       | succ z => rw [hq] at he0; simp at he0
     have he1 : m.es[i]? = some e0 := by
      rw [hpre, List.getElem?_append_left hlt]
      rw [List.getElem?_append_left hlt] at he0
      exact he0
     exact (h.ends i e0 he1).far G (fun n j hn => by
      rcases hn with rfl | rfl | rfl <;> simp
      intro e; exact absurd e hi) }

theorem To.of_own {own : Nat → Option T} {a b : World} (k : Keep (fun g => own g ≠ none) a b) : To own own a b := ⟨k, fun _ _ h => h⟩
theorem PAt.scalars {w w' : World} {own : Nat → Option T} {pb : Nat} {m m' : M} (h : PAt w own pb m) (k : Keep (fun g => g = pb) w w') (hb : w'.heap[pb]? = some (.cells m'.cells 61 (0, 0)))
  (h1 : m'.fv = m.fv) (h2 : m'.fs = m.fs) (h3 : m'.tv = m.tv) (h4 : m'.ts = m.ts) (h5 : m'.pv = m.pv) (h6 : m'.ps = m.ps) (h7 : m'.ev = m.ev) (h8 : m'.es = m.es) : PAt w' own pb m' ∧ To own own w w' := by
 have kn : ∀ g t, own g = some t → t ≠ (0, 0, 0) → ¬ g = pb := fun g t hg ht e => by rw [e, h.tag] at hg; cases hg; exact ht rfl
 refine ⟨?_, To.of_own (k.mono fun g _ hg => by rw [hg, h.tag]; simp)⟩
 exact {
  low := fun g hg => Nat.lt_of_lt_of_le (h.low g hg) k.size
  blk := hb
  tag := h.tag
  fs := by rw [h1, h2]; exact h.fs.move k (fun g hg => kn g _ hg (by decide)) (fun g hg => hg)
  ts := by rw [h3, h4]; exact h.ts.move k (fun g hg => kn g _ hg (by decide)) (fun g hg => hg)
  calls := fun i t ht => by
   rw [h4] at ht
   exact (h.calls i t ht).move k (fun g n j hn hg => kn g _ hg (by rcases hn with rfl | rfl <;> simp)) (fun g n j hn hg => hg)
  ps := by rw [h5, h6]; exact h.ps.move k (fun g hg => kn g _ hg (by decide)) (fun g hg => hg)
  es := by rw [h7, h8]; exact h.es.move k (fun g hg => kn g _ hg (by decide)) (fun g hg => hg)
  ends := fun i e he => by
   rw [h8] at he
   exact (h.ends i e he).move k (fun g n j hn hg => kn g _ hg (by rcases hn with rfl | rfl | rfl <;> simp)) (fun g n j hn hg => hg) }
def Free (m : M) (t : T) : Prop := t.1 ≠ 0 ∧ t.1 ≠ 1 ∧ t.1 ≠ 2 ∧ t.1 ≠ 5 ∧ t.1 ≠ 6 ∧ ((t.1 = 3 ∨ t.1 = 4) → m.ts.length ≤ t.2.1) ∧ ((t.1 = 7 ∨ t.1 = 8 ∨ t.1 = 9) → m.es.length ≤ t.2.1)
theorem lt_of_get {α : Type} {l : List α} {i : Nat} {x : α} (h : l[i]? = some x) : i < l.length := by
 rcases Nat.lt_or_ge i l.length with h1 | h1
 ·exact h1
 ·rw [List.getElem?_eq_none h1] at h; cases h
theorem PAt.far {S : T → Prop} {w w' : World} {own own' : Nat → Option T} {pb : Nat} {m : M} (h : PAt w own pb m) (G : Grown S w w' own own') (hS : ∀ t, S t → Free m t) : PAt w' own' pb m where
 low := G.low
 blk := G.keep.same h.blk fun ⟨t, ht, hs⟩ => by rw [h.tag] at ht; cases ht; exact (hS _ hs).1 rfl
 tag := G.old _ _ h.tag
 fs := h.fs.far G fun hs => (hS _ hs).2.1 rfl
 ts := h.ts.far G fun hs => (hS _ hs).2.2.1 rfl
 calls := fun i t ht => (h.calls i t ht).far G fun n j hn hs => by
  have h1 : m.ts.length ≤ i := (hS _ hs).2.2.2.2.2.1 hn
  have := lt_of_get ht
  omega
 ps := h.ps.far G fun hs => (hS _ hs).2.2.2.1 rfl
 es := h.es.far G fun hs => (hS _ hs).2.2.2.2.1 rfl
 ends := fun i e he => (h.ends i e he).far G fun n j hn hs => by
  have h1 : m.es.length ≤ i := (hS _ hs).2.2.2.2.2.2 hn
  have := lt_of_get he
  omega
theorem Grown.also {S : T → Prop} {w w' : World} {own own' : Nat → Option T} (G : Grown S w w' own own') (hlow : ∀ g, own g ≠ none → g < w.heap.size) {d : Value} {t : T} {e sz n : Nat} {xs : List Value} (hd : w'.ownsRow w.heap.size e sz d n xs) : Grown S w w' own (put own' d t) where
 keep := G.keep
 old := fun g t' hg => by
  unfold put
  split
  ·rename_i hv
   have h1 := hlow g (by rw [hg]; simp)
   rcases hd.2 with ⟨h2, -⟩ | ⟨g2, cap, cur, h2, h3, -⟩
   ·rw [h2] at hv; cases hv
   ·rw [h2] at hv; cases hv; exact absurd h1 (Nat.not_lt.2 h3)
  ·exact G.old g t' hg
 low := fun g hg => by
  unfold put at hg
  split at hg
  ·rename_i hv; exact row_lt hd hv
  ·exact G.low g hg
 new := fun g hn hg => by
  unfold put at hg
  split at hg
  ·rename_i hv
   rcases hd.2 with ⟨h2, -⟩ | ⟨g2, cap, cur, h2, h3, -⟩
   ·rw [h2] at hv; cases hv
   ·rw [h2] at hv; cases hv; exact h3
  ·exact G.new g hn hg
theorem put_old {own : Nat → Option T} {d : Value} {t : T} {g : Nat} {t' : T} (h : own g = some t') (hd : d.ownBlock ≠ some g) : put own d t g = some t' := by
 unfold put
 rw [if_neg hd]
 exact h
theorem RowT.also {w : World} {own : Nat → Option T} {tag : T} {e sz n : Nat} {v d : Value} {xs : List Value} {t : T} (h : RowT w own tag e sz v n xs) (hd : ∀ g, v.ownBlock = some g → d.ownBlock ≠ some g) : RowT w (put own d t) tag e sz v n xs :=
 ⟨h.row, fun g hg => put_old (h.tag g hg) (hd g hg)⟩
def M.callTo (m : M) (c : Call) (d v : Value) : M := { m with ts := m.ts.dropLast ++ [⟨v, callL m ++ [⟨c, d⟩]⟩] }
theorem M.callTo_play (m : M) (c : Call) (d v : Value) (hne : m.ts ≠ []) : (m.callTo c d v).play = Sc.callTo m.play c ∧ (m.callTo c d v).st = m.st := by
 refine ⟨?_, rfl⟩
 obtain ⟨t, ht⟩ : ∃ t, m.ts.getLast? = some t := ⟨_, List.getLast?_eq_some_getLast hne⟩
 unfold M.callTo Sc.callTo M.play callL
 rw [ht]
 simp [List.map_dropLast, List.getLastD_eq_getLast?, ht]
theorem PAt.call_push {w w4 : World} {own : Nat → Option T} {pb : Nat} {m : M} (h : PAt w own pb m) (hne : m.ts ≠ []) (c : Call) {d v' : Value} (h' : w4.ownsRow 0 76 3 v' ((callL m).length + 1) ((callL m).flatMap MC.cells ++ MC.cells ⟨c, d⟩))
  (hd : w4.ownsRow w.heap.size 5 1 d c.data.length (u8v c.data)) (hdv : ∀ g, v'.ownBlock = some g → d.ownBlock ≠ some g)
  (k : Keep (fun g => (callV m).ownBlock = some g) w w4) (hb : v'.ownBlock = (callV m).ownBlock ∨ ∃ g, v'.ownBlock = some g ∧ w.heap.size ≤ g) :
  ∃ own', PAt (w4.setCell (callP m) v') own' pb (m.callTo c d v') ∧ To own own' w (w4.setCell (callP m) v') := by
 obtain ⟨t, hl⟩ : ∃ t, m.ts.getLast? = some t := ⟨_, List.getLast?_eq_some_getLast hne⟩
 obtain ⟨-, hg⟩ := last_get hl
 obtain ⟨pre, hpre⟩ : ∃ pre, m.ts = pre ++ [t] := List.getLast?_eq_some_iff.1 hl
 have hlen : m.ts.length - 1 = pre.length := by rw [hpre]; simp
 obtain ⟨g2, cap, hv, hcap, hg2, -⟩ := h.shape_ts hne
 have e2 : callP m = ⟨g2, pre.length, none⟩ := by unfold callP; rw [hv, hlen]; rfl
 have e3 : callL m = t.l := by unfold callL; rw [hl]
 have e4 : callV m = t.v := by unfold callV; rw [hl]
 have e5 : m.callTo c d v' = { m with ts := pre ++ [⟨v', t.l ++ [⟨c, d⟩]⟩] } := by unfold M.callTo; rw [hpre, List.dropLast_concat, e3]
 have hcall := h.calls pre.length t (by rw [← hlen]; exact hg)
 have hrow := hcall.row
 rw [e3] at h'
 rw [e4] at k hb
 have G1 : Grown (fun x => x = (3, pre.length, 0) ∨ x = (2, 0, 0)) w (w4.setCell ⟨g2, pre.length, none⟩ v') own (put own v' (3, pre.length, 0)) := grown_put v' h.low hrow h' k hb hg2
 have kset : Keep (fun g => g = g2) w4 (w4.setCell ⟨g2, pre.length, none⟩ v') := (Keep.refl (fun g => g = g2) w4).setCell (p := ⟨g2, pre.length, none⟩) (Or.inl rfl) v'
 have hdg : ∀ g, d.ownBlock = some g → w.heap.size ≤ g := fun g hg => by
  rcases hd.2 with ⟨h2, -⟩ | ⟨g3, cap, cur, h2, h3, -⟩
  ·rw [h2] at hg; cases hg
  ·rw [h2] at hg; cases hg; exact h3
 have hg2l := h.low g2 (by rw [hg2]; simp)
 have hd5 : (w4.setCell ⟨g2, pre.length, none⟩ v').ownsRow w.heap.size 5 1 d c.data.length (u8v c.data) := row_keep hd kset fun g hg e => by have := hdg g hg; omega
 have G := G1.also (t := (4, pre.length, t.l.length)) h.low hd5
 have hv2 : v'.ownBlock ≠ some g2 := by
  intro e
  rcases hb with hb | ⟨g, hb, hlb⟩
  ·rw [hb] at e
   have := hrow.tag g2 e
   rw [hg2] at this
   cases this
  ·rw [hb] at e; cases e; omega
 have hrow' : RowT (w4.setCell ⟨g2, pre.length, none⟩ v') (put (put own v' (3, pre.length, 0)) d (4, pre.length, t.l.length)) (3, pre.length, 0) 76 3 v' (t.l.length + 1) (t.l.flatMap MC.cells ++ MC.cells ⟨c, d⟩) :=
  (row_put v' h' hv2).also hdv
 have hgp : g2 ≠ pb := by intro e; rw [e, h.tag] at hg2; cases hg2
 rw [e5, e2]
 refine ⟨_, ?_, G.to⟩
 exact {
  low := G.low
  blk := by
   have hpb := k.same h.blk (fun e => by have := hrow.tag pb e; rw [h.tag] at this; cases this)
   exact blk_other hpb (fun e => hgp e.symm) _ v'
  tag := G.old _ _ h.tag
  fs := h.fs.far G (by simp)
  ts := by
   have hr := row_keep h.ts.row k fun g hg e => by have a := hrow.tag g e; have b := h.ts.tag g hg; rw [b] at a; cases a
   rw [hv] at hr
   have hs := row_set hr (j := pre.length) (by rw [hpre]; simp) v'
   refine ⟨?_, fun g hg => G.old _ _ (h.ts.tag g hg)⟩
   show (w4.setCell ⟨g2, pre.length, none⟩ v').ownsRow 0 56 1 m.tv (pre ++ [(⟨v', t.l ++ [⟨c, d⟩]⟩ : MT)]).length ((pre ++ [⟨v', t.l ++ [⟨c, d⟩]⟩] : List MT).map (·.v))
   rw [hv]
   rw [show m.ts.length = pre.length + 1 from by rw [hpre]; simp] at hs ⊢
   rw [hpre] at hs
   simpa using hs
  calls := fun i t0 ht0 => by
   by_cases hi : i = pre.length
   ·subst hi
    obtain rfl : t0 = ⟨v', t.l ++ [⟨c, d⟩]⟩ := by simpa using ht0.symm
    refine ⟨?_, fun j x hx => ?_⟩
    ·show RowT _ _ _ _ _ v' (t.l ++ [(⟨c, d⟩ : MC)]).length ((t.l ++ [(⟨c, d⟩ : MC)]).flatMap MC.cells)
     rw [show (t.l ++ [(⟨c, d⟩ : MC)]).length = t.l.length + 1 by simp, show (t.l ++ [(⟨c, d⟩ : MC)]).flatMap MC.cells = t.l.flatMap MC.cells ++ MC.cells ⟨c, d⟩ by simp]
     exact hrow'
    ·by_cases hj : j = t.l.length
     ·subst hj
      obtain rfl : x = ⟨c, d⟩ := by simpa using hx.symm
      exact ⟨row_base hd5 fun g hg => Nat.zero_le _, put_tag _ _ _⟩
     ·have hlt : j < t.l.length := by
       have := lt_of_get hx
       simp at this
       omega
      rw [show ({ v := v', l := t.l ++ [⟨c, d⟩] } : MT).l = t.l ++ [⟨c, d⟩] from rfl, List.getElem?_append_left hlt] at hx
      exact (hcall.data j x hx).far G (by simp)
   ·have hlt : i < pre.length := by
     have := lt_of_get ht0
     simp at this
     omega
    have he1 : m.ts[i]? = some t0 := by
     rw [hpre, List.getElem?_append_left hlt]
     rw [List.getElem?_append_left hlt] at ht0
     exact ht0
    exact (h.calls i t0 he1).far G (fun n j hn => by
     rcases hn with rfl | rfl <;> simp
     intro e; exact absurd e hi)
  ps := h.ps.far G (by simp)
  es := h.es.far G (by simp)
  ends := fun i e he => (h.ends i e he).far G (fun n j hn => by rcases hn with rfl | rfl | rfl <;> simp) }

theorem own_push {w w4 : World} {own : Nat → Option T} {pb i : Nat} {m : M} {v v' : Value} {tag : T} {e sz n n' : Nat} {xs ys : List Value} (h : PAt w own pb m) (hrow : RowT w own tag e sz v n xs) (ht : tag ≠ (0, 0, 0))
  (h' : w4.ownsRow 0 e sz v' n' ys) (k : Keep (fun g => v.ownBlock = some g) w w4) (hb : v'.ownBlock = v.ownBlock ∨ ∃ g, v'.ownBlock = some g ∧ w.heap.size ≤ g) :
  Grown (fun t => t = tag ∨ t = (0, 0, 0)) w (w4.setCell ⟨pb, i, none⟩ v') own (put own v' tag) ∧ RowT (w4.setCell ⟨pb, i, none⟩ v') (put own v' tag) tag e sz v' n' ys ∧
   (w4.setCell ⟨pb, i, none⟩ v').heap[pb]? = some (.cells (m.cells.setIfInBounds i v') 61 (0, 0)) := by
 have hpl := h.low pb (by rw [h.tag]; simp)
 have hne : v'.ownBlock ≠ some pb := by
  intro e
  rcases hb with hb | ⟨g, hb, hl⟩
  ·rw [hb] at e
   have := hrow.tag pb e
   rw [h.tag] at this
   exact ht (Option.some.inj this).symm
  ·rw [hb] at e; cases e; omega
 have hpb := k.same h.blk (fun e => by have := hrow.tag pb e; rw [h.tag] at this; exact ht (Option.some.inj this).symm)
 exact ⟨grown_put v' h.low hrow h' k hb h.tag, row_put v' h' hne, blk_set hpb i v'⟩
def M.newTask (m : M) (v : Value) : M := { m with tv := v, ts := m.ts ++ [⟨.slice none 0 0, []⟩] }
theorem M.newTask_play (m : M) (v : Value) : (m.newTask v).play = { m.play with tasks := m.play.tasks ++ [[]] } ∧ (m.newTask v).st = m.st := by
 refine ⟨?_, rfl⟩
 unfold M.newTask M.play
 simp
theorem PAt.task_push {w w4 : World} {own : Nat → Option T} {pb : Nat} {m : M} (h : PAt w own pb m) {v' : Value} (h' : w4.ownsRow 0 56 1 v' (m.ts.length + 1) (m.ts.map (·.v) ++ [.slice none 0 0]))
  (k : Keep (fun g => m.tv.ownBlock = some g) w w4) (hb : v'.ownBlock = m.tv.ownBlock ∨ ∃ g, v'.ownBlock = some g ∧ w.heap.size ≤ g) :
  ∃ own', PAt (w4.setCell ⟨pb, 10, none⟩ v') own' pb (m.newTask v') ∧ To own own' w (w4.setCell ⟨pb, 10, none⟩ v') := by
 obtain ⟨G, hr, hbk⟩ := own_push (i := 10) h h.ts (by decide) h' k hb
 refine ⟨_, ?_, G.to⟩
 exact {
  low := G.low
  blk := hbk
  tag := G.old _ _ h.tag
  fs := h.fs.far G (by simp)
  ts := by
   show RowT _ _ _ _ _ v' (m.ts ++ [(⟨.slice none 0 0, []⟩ : MT)]).length ((m.ts ++ [(⟨.slice none 0 0, []⟩ : MT)]).map (·.v))
   rw [List.length_append, List.map_append]
   exact hr
  calls := fun i t ht => by
   by_cases hi : i = m.ts.length
   ·subst hi
    obtain rfl : t = ⟨.slice none 0 0, []⟩ := by simpa [M.newTask] using ht.symm
    exact ⟨RowT.nil _ _ _ _ _, fun j c hc => by simp at hc⟩
   ·have hlt : i < m.ts.length := by
     have := lt_of_get ht
     simp [M.newTask] at this
     omega
    rw [show (m.newTask v').ts = m.ts ++ [⟨.slice none 0 0, []⟩] from rfl, List.getElem?_append_left hlt] at ht
    exact (h.calls i t ht).far G (fun n j hn => by rcases hn with rfl | rfl <;> simp)
  ps := h.ps.far G (by simp)
  es := h.es.far G (by simp)
  ends := fun i e he => (h.ends i e he).far G (fun n j hn => by rcases hn with rfl | rfl | rfl <;> simp) }
def M.pick (m : M) (n : Int) (v : Value) : M := { m with pv := v, ps := m.ps ++ [n] }
theorem PAt.pick_push {w w4 : World} {own : Nat → Option T} {pb : Nat} {m : M} (h : PAt w own pb m) (n : Int) {v' : Value} (h' : w4.ownsRow 0 3 1 v' (m.ps.length + 1) (m.ps.map (Value.int .i64) ++ [.int .i64 n]))
  (k : Keep (fun g => m.pv.ownBlock = some g) w w4) (hb : v'.ownBlock = m.pv.ownBlock ∨ ∃ g, v'.ownBlock = some g ∧ w.heap.size ≤ g) :
  ∃ own', PAt (w4.setCell ⟨pb, 11, none⟩ v') own' pb (m.pick n v') ∧ To own own' w (w4.setCell ⟨pb, 11, none⟩ v') := by
 obtain ⟨G, hr, hbk⟩ := own_push (i := 11) h h.ps (by decide) h' k hb
 refine ⟨_, ?_, G.to⟩
 exact {
  low := G.low
  blk := hbk
  tag := G.old _ _ h.tag
  fs := h.fs.far G (by simp)
  ts := h.ts.far G (by simp)
  calls := fun i t ht => (h.calls i t ht).far G (fun n j hn => by rcases hn with rfl | rfl <;> simp)
  ps := by
   show RowT _ _ _ _ _ v' (m.ps ++ [n]).length ((m.ps ++ [n]).map (Value.int .i64))
   rw [List.length_append, List.map_append]
   exact hr
  es := h.es.far G (by simp)
  ends := fun i e he => (h.ends i e he).far G (fun n j hn => by rcases hn with rfl | rfl | rfl <;> simp) }
def M.newEnd (m : M) (dir : Int) (kv : Value) (ks : List MK) (v : Value) : M := { m with ev := v, es := m.es ++ [⟨dir, kv, ks, .slice none 0 0, []⟩] }
theorem M.newEnd_play (m : M) (dir : Int) (kv : Value) (ks : List MK) (v : Value) : (m.newEnd dir kv ks v).play = { m.play with ends := m.play.ends ++ [⟨dir, ks.map (·.k), []⟩] } ∧ (m.newEnd dir kv ks v).st = m.st := by
 refine ⟨?_, rfl⟩
 unfold M.newEnd M.play
 simp [ME.reopen]
structure KsAt (w : World) (own : Nat → Option T) (i : Nat) (kv : Value) (ks : List MK) : Prop where
 keeps : RowT w own (7, i, 0) 84 2 kv ks.length (ks.flatMap MK.cells)
 junk : ∀ j k, ks[j]? = some k → RowT w own (8, i, j) 5 1 k.d k.k.junk.length (u8v k.k.junk)
theorem PAt.end_push {w w4 : World} {own : Nat → Option T} {pb : Nat} {m : M} (h : PAt w own pb m) (dir : Int) {kv : Value} {ks : List MK} (hk : KsAt w own m.es.length kv ks) {v' : Value} (h' : w4.ownsRow 0 82 3 v' (m.es.length + 1) (m.es.flatMap ME.cells ++ [.int .i64 dir, kv, .slice none 0 0]))
  (k : Keep (fun g => m.ev.ownBlock = some g) w w4) (hb : v'.ownBlock = m.ev.ownBlock ∨ ∃ g, v'.ownBlock = some g ∧ w.heap.size ≤ g) :
  ∃ own', PAt (w4.setCell ⟨pb, 13, none⟩ v') own' pb (m.newEnd dir kv ks v') ∧ To own own' w (w4.setCell ⟨pb, 13, none⟩ v') := by
 obtain ⟨G, hr, hbk⟩ := own_push (i := 13) h h.es (by decide) h' k hb
 refine ⟨_, ?_, G.to⟩
 exact {
  low := G.low
  blk := hbk
  tag := G.old _ _ h.tag
  fs := h.fs.far G (by simp)
  ts := h.ts.far G (by simp)
  calls := fun i t ht => (h.calls i t ht).far G (fun n j hn => by rcases hn with rfl | rfl <;> simp)
  ps := h.ps.far G (by simp)
  es := by
   show RowT _ _ _ _ _ v' (m.es ++ [(⟨dir, kv, ks, .slice none 0 0, []⟩ : ME)]).length ((m.es ++ [(⟨dir, kv, ks, .slice none 0 0, []⟩ : ME)]).flatMap ME.cells)
   rw [List.length_append, List.flatMap_append]
   exact hr
  ends := fun i e he => by
   by_cases hi : i = m.es.length
   ·subst hi
    obtain rfl : e = ⟨dir, kv, ks, .slice none 0 0, []⟩ := by simpa [M.newEnd] using he.symm
    exact ⟨hk.keeps.far G (by simp), fun j kk hj => (hk.junk j kk hj).far G (by simp), RowT.nil _ _ _ _ _⟩
   ·have hlt : i < m.es.length := by
     have := lt_of_get he
     simp [M.newEnd] at this
     omega
    rw [show (m.newEnd dir kv ks v').es = m.es ++ [⟨dir, kv, ks, .slice none 0 0, []⟩] from rfl, List.getElem?_append_left hlt] at he
    exact (h.ends i e he).far G (fun n j hn => by rcases hn with rfl | rfl | rfl <;> simp) }
theorem KsAt.push {w w4 : World} {own : Nat → Option T} {pb i b o : Nat} {m : M} {tb : T} {kv : Value} {ks : List MK} (h : PAt w own pb m) (hk : KsAt w own m.es.length kv ks) (hbt : own b = some tb) (htb : tb.1 = 10) (kp : Kp) {d v' : Value}
  (h' : w4.ownsRow 0 84 2 v' (ks.length + 1) (ks.flatMap MK.cells ++ MK.cells ⟨kp, d⟩)) (hd : w4.ownsRow w.heap.size 5 1 d kp.junk.length (u8v kp.junk)) (hdv : ∀ g, v'.ownBlock = some g → d.ownBlock ≠ some g)
  (k : Keep (fun g => kv.ownBlock = some g) w w4) (hb : v'.ownBlock = kv.ownBlock ∨ ∃ g, v'.ownBlock = some g ∧ w.heap.size ≤ g) :
  ∃ own', PAt (w4.setCell ⟨b, o, none⟩ v') own' pb m ∧ KsAt (w4.setCell ⟨b, o, none⟩ v') own' m.es.length v' (ks ++ [⟨kp, d⟩]) ∧ own' b = some tb ∧ To own own' w (w4.setCell ⟨b, o, none⟩ v') := by
 have hrow := hk.keeps
 have G1 : Grown (fun x => x = (7, m.es.length, 0) ∨ x = tb) w (w4.setCell ⟨b, o, none⟩ v') own (put own v' (7, m.es.length, 0)) := grown_put v' h.low hrow h' k hb hbt
 have kset : Keep (fun g => g = b) w4 (w4.setCell ⟨b, o, none⟩ v') := (Keep.refl (fun g => g = b) w4).setCell (p := ⟨b, o, none⟩) (Or.inl rfl) v'
 have hdg : ∀ g, d.ownBlock = some g → w.heap.size ≤ g := fun g hg => by
  rcases hd.2 with ⟨h2, -⟩ | ⟨g3, cap, cur, h2, h3, -⟩
  ·rw [h2] at hg; cases hg
  ·rw [h2] at hg; cases hg; exact h3
 have hbl := h.low b (by rw [hbt]; simp)
 have hd5 : (w4.setCell ⟨b, o, none⟩ v').ownsRow w.heap.size 5 1 d kp.junk.length (u8v kp.junk) := row_keep hd kset fun g hg e => by have := hdg g hg; omega
 have G := G1.also (t := (8, m.es.length, ks.length)) h.low hd5
 have htb7 : ∀ x y, tb ≠ (7, x, y) := fun x y e => by rw [e] at htb; simp at htb
 have hv2 : v'.ownBlock ≠ some b := by
  intro e
  rcases hb with hb | ⟨g, hb, hlb⟩
  ·rw [hb] at e
   have := hrow.tag b e
   rw [hbt] at this
   exact htb7 _ _ (Option.some.inj this)
  ·rw [hb] at e; cases e; omega
 have hrow' := (row_put (own := own) (tag := (7, m.es.length, 0)) (i := o) v' h' hv2).also (t := (8, m.es.length, ks.length)) hdv
 refine ⟨_, h.far G ?_, ⟨?_, fun j x hx => ?_⟩, ?_, G.to⟩
 ·rintro t (rfl | rfl)
  ·exact ⟨by simp, by simp, by simp, by simp, by simp, by simp, fun _ => Nat.le_refl _⟩
  ·unfold Free
   rw [htb]
   simp
 ·rw [List.length_append, show (ks ++ [(⟨kp, d⟩ : MK)]).flatMap MK.cells = ks.flatMap MK.cells ++ MK.cells ⟨kp, d⟩ by simp]
  exact hrow'
 ·by_cases hj : j = ks.length
  ·subst hj
   obtain rfl : x = ⟨kp, d⟩ := by simpa using hx.symm
   exact ⟨row_base hd5 fun g hg => Nat.zero_le _, put_tag _ _ _⟩
  ·have hlt : j < ks.length := by
    have := lt_of_get hx
    simp at this
    omega
   rw [List.getElem?_append_left hlt] at hx
   refine (hk.junk j x hx).far G ?_
   rintro (e | e)
   ·cases e
   ·rw [← e] at htb; simp at htb
 ·exact G.old _ _ hbt

theorem step_append_k {P : Program} {w : World} {ops : Array Oper} {o : Oper} {a : Act} {K : Act → World → Prop} {Q : Exit → Act → World → Prop} {E : Prop} (hgd : o.guard = none) (s x : Operand) (t : TypeId)
  (ho : o.op = .call { callee := .builtin .append, args := #[s, x], argTypes := #[t, t] })
  (base : Nat) (e : TypeId) (i : TypeInfo) (z : Value) (size bytes : Nat) (ht : P.underlying t = some (.slice e)) (hi : P.info? e = some i) (hz : i.zero = some z)
  (hsize : i.size = size) (hby : i.bytes = bytes) (hzs : z.cells.size = size) (hsz : 0 < size)
  (v : Value) (n : Nat) (xs : List Value) (hs : a.eval s = v) (hown : w.ownsRow base e size v n xs)
  (ad : Addr) (m c : Nat) (news : List Value) (hx : a.eval x = .slice (some ad) m c) (hl : news.length = m * size) (hnews : ∀ j u, news[j]? = some u → w.cell? (ad.add j) = some u) (h1 : ∀ u ∈ news, u.oneCell' = true)
  (h63 : n + m ≤ maxLen) (hbytes : (n + m) * bytes ≤ 140737488355328) (hbase : base ≤ w.heap.size)
  (h : ∀ v' w', w'.ownsRow base e size v' (n + m) (xs ++ news) → w.grownBy w' v.ownBlock → (v'.ownBlock = v.ownBlock ∨ v'.ownBlock = some w.heap.size) → K (a.put o.dst v') w') :
  if Region.wanted o (yielded ops a.tmps) = true then Oper.wp P o a w K Q else E := by
 have hw : Region.wanted o (yielded ops a.tmps) = true := by simp [Region.wanted, hgd]
 rw [if_pos hw]
 obtain ⟨v', w', hr, h2, h3, _, h5⟩ := run_append_own_at (P := P) w base t o.type e i z size bytes ht hi hz hsize hby hzs hsz v n xs hown ad m c news hl hnews h1 h63 hbytes hbase
 unfold Oper.wp execOp
 simp only [ho, resolve, invoke, builtin, Sem.run_bind, Sem.run_pure, Result.andThen_ok, List.map_toArray, List.map_cons, List.map_nil, hs, hx, hr]
 exact h v' w' h2 h3 h5
def Res (own : Nat → Option T) (pb st : Nat) (r : Except Int Play) (w : World) (e : Ending) (w' : World) : Prop :=
 (∃ p own' m', r = .ok p ∧ e = .returned (.int .i64 0) ∧ PAt w' own' pb m' ∧ m'.play = p ∧ m'.st = st ∧ To own own' w w') ∨ (∃ c, r = .error c ∧ c ≠ 0 ∧ e = .returned (.int .i64 c) ∧ Keep (fun g => own g ≠ none) w w')
theorem infoF : ∃ i, Tryz.prog.info? 114 = some i ∧ i.zero = some (.agg #[.int .i64 0, .int .i64 0, .int .i64 0]) ∧ i.size = 3 ∧ i.bytes = 24 := by
 have h : (Tryz.prog.info? 114).map (fun i => (i.zero, i.size, i.bytes)) = some (some (.agg #[.int .i64 0, .int .i64 0, .int .i64 0]), 3, 24) := by kernel_rfl
 exact info_parts h
theorem ok_of {α : Type} {n : α} {ok : Bool} {x : Option α} (h : x = if ok then some n else none) : (ok = true → x = some n) ∧ (ok = false → x = none) := by
 cases ok <;> simp [h]
theorem WsAt.at_ {w : World} {g f : Nat} {ws : List Str} (h : WsAt w (some ⟨g, f, none⟩) ws) {i : Nat} (hi : i < ws.length) : w.cell? ⟨g, f + i, none⟩ = some (.string (strB (ws.getD i []))) ∧ g < w.heap.size := by
 obtain ⟨g', f', e, hc, hl⟩ := h i hi
 cases e
 exact ⟨hc, hl⟩
theorem new_cells (w : World) (xs : List Value) (t : TypeId) : ∀ j u, xs[j]? = some u → (w.alloc (.cells xs.toArray t)).cell? ((⟨w.heap.size, 0, none⟩ : Addr).add j) = some u := by
 intro j u hj
 rw [show (⟨w.heap.size, 0, none⟩ : Addr).add j = ⟨w.heap.size, j, none⟩ from by simp [Addr.add]; intro h; omega, blk_cell (blk_new w _) j]
 simpa using hj
theorem two (w : World) (o0 o1 : Obj) : ∃ W, (w.alloc o0).alloc o1 = W ∧ W.heap[w.heap.size]? = some o0 ∧ W.heap[w.heap.size + 1]? = some o1 ∧ Keep (fun _ => False) w W :=
 ⟨_, rfl, blk_alloc (blk_new w o0) _, blk_new_at _ _ (by simp), ((Keep.refl _ w).alloc _).alloc _⟩
theorem ints_one (c : Str) (g f cl k' tb gb off : Nat) (cs : Array Value) (t : TypeId) (B : Nat) (w : World) (hE : Ev B w) (hc : w.cell? ⟨g, f, none⟩ = some (.string (strB c))) (hsz : c.length ≤ 1073741824)
  (hto : w.heap[tb]? = some (.cells #[.pointer (some ⟨gb, off, none⟩)] 108 (0, 0))) (hgb : w.heap[gb]? = some (.cells cs t (0, 0))) (hof : off < cs.size) (hne : tb ≠ gb) (ho : g ≠ gb) (hB : B ≤ gb) :
  Calls Tryz.prog 81 #[.slice (some ⟨g, f, none⟩) 1 cl, .slice (some ⟨tb, 0, none⟩) 1 k'] w fun e w' => ((∃ n, numOf c = some n ∧ e = .returned (.int .i64 0) ∧ w'.heap[gb]? = some (.cells (cs.setIfInBounds off (.int .i64 n)) t (0, 0))) ∨ (numOf c = none ∧ e = .returned (.int .i64 66))) ∧ Keep (fun q => q = gb) w w' := by
 have hgl : g < w.heap.size := By.cell_in hc
 refine (ints_any [c] (some ⟨g, f, none⟩) cl k' tb gb [off] cs t B w hE (fun i hi => by
   obtain rfl : i = 0 := by simpa using hi
   exact ⟨g, f, rfl, hc, hgl⟩) (by simp) (by simp) (fun i => by
   cases i with
   | zero => exact hsz
   | succ i => simp) hto hgb (fun i hi => by
   obtain rfl : i = 0 := by simpa using hi
   exact hof) hne (fun g' f' h => by cases h; exact ho) hB).mono ?_
 rintro e w' ⟨(⟨ns, hn, rfl, hb⟩ | ⟨hn, rfl⟩), k⟩
 ·refine ⟨Or.inl ⟨ns.getD 0 0, ?_, rfl, ?_⟩, k⟩
  ·simp only [List.length_singleton, List.take_succ_cons, List.take_zero, nums] at hn
   cases hq : numOf c with
   | none => rw [hq] at hn; cases hn
   | some n => rw [hq] at hn; simp at hn; subst hn; rfl
  ·have := nums_len hn
   cases ns with
   | nil => simp at this
   | cons n r => exact hb
 ·refine ⟨Or.inr ⟨?_, rfl⟩, k⟩
  simp only [List.length_singleton, List.take_succ_cons, List.take_zero, nums] at hn
  cases hq : numOf c with
  | none => rfl
  | some n => rw [hq] at hn; simp at hn
set_option maxRecDepth 100000 in
set_option maxHeartbeats 16000000 in
theorem fault_any {w : World} {own : Nat → Option T} {pb : Nat} {m : M} (B : Nat) (a b c : Str) (g f cl : Nat) (h : PAt w own pb m) (hE : Ev B w) (hw : WsAt w (some ⟨g, f, none⟩) [a, b, c]) (ha : a.length ≤ 1073741824) (hb : b.length ≤ 1073741824) (hc : c.length ≤ 1073741824) (hcl : 3 ≤ cl)
    (hg : own g = none) (hes : m.es.length ≤ 1048576) (hfs : (armL m).length ≤ 1048576) :
    Calls Tryz.prog 82 #[.pointer (some ⟨pb, 0, none⟩), .slice (some ⟨g, f, none⟩) 3 cl] w (Res own pb m.st (faultF m.play [a, b, c]) w) := by
  obtain ⟨ca, hgl⟩ := hw.at_ (i := 0) (by simp)
  have cb := (hw.at_ (i := 1) (by simp)).1
  have cc := (hw.at_ (i := 2) (by simp)).1
  simp at ca cb cc
  have HH := Lib.hid (And.intro h (And.intro hE (And.intro hw (And.intro hgl hg))))
  have HZ := Lib.hid (And.intro ha (And.intro hb hc))
  have HF := Lib.hid (And.intro hes hfs)
  have hR : faultF m.play [a, b, c] = (match numOf a with
    | none => .error 66
    | some n => if faultKind b = 0 then .error 65 else match numOf c with
      | none => .error 66
      | some q => .ok (arm m.play ⟨n, faultKind b, q⟩)) := rfl
  have HR := Lib.hid hR
  have HN1 := Lib.hid (number_s a B w hE ha)
  clear h hE hw ha hb hc hg hes hfs hR
  go_enter Tryz.func82, Tryz.ntmps82
  go_wp2_with fail
  refine HN1.out.mono ?_
  clear HN1
  rintro e w1 ⟨⟨n, ok, rfl, hq⟩, hb1⟩
  obtain ⟨q1, q2⟩ := ok_of hq
  have H1 := Lib.hid (And.intro q1 (And.intro q2 hb1))
  have cb1 := (hb1.cell (p := ⟨g, f + 1, none⟩) hgl).trans cb
  have cc1 := (hb1.cell (p := ⟨g, f + 2, none⟩) hgl).trans cc
  clear hq q1 q2 hb1 ca cb cc
  cases ok with
  | false =>
    go_wp2_with fail
    go_ret
    exact Or.inr ⟨66, by rw [HR.out, H1.out.2.1 (by trivial)], by decide, rfl, (Keep.of_below H1.out.2.2).mono fun _ _ h => h.elim⟩
  | true =>
    have HK := Lib.hid (faultKind_s b w1)
    by_cases hk : faultKind b = 0
    · have HR2 := Lib.hid (show faultF m.play [a, b, c] = .error 65 from by rw [HR.out, H1.out.1 (by trivial)]; simp [hk])
      rw [hk] at HK
      clear hk HR
      go_wp2_with (go_at_call 99; refine HK.out.mono ?_; rintro e w' ⟨rfl, hw⟩; obtain rfl : w1 = w' := hw.symm)
      go_ret
      exact Or.inr ⟨65, HR2.out, by decide, rfl, (Keep.of_below H1.out.2.2).mono fun _ _ h => h.elim⟩
    · have hk2 : (faultKind b == 0) = false := by rw [beq_eq_false_iff_ne]; exact hk
      have HR2 := Lib.hid (show faultF m.play [a, b, c] = (match numOf c with | none => .error 66 | some q => .ok (arm m.play ⟨n, faultKind b, q⟩)) from by rw [HR.out, H1.out.1 (by trivial)]; simp only [if_neg hk])
      clear hk HR
      generalize faultKind b = kk at *
      go_wp2_with (go_at_call 99; refine HK.out.mono ?_; rintro e w' ⟨rfl, hw⟩; obtain rfl : w1 = w' := hw.symm)
      clear HK
      obtain ⟨W, hW, b0, b1, kW⟩ := two w1 (.cells #[.int .i64 n, .int .i64 kk, .int .i64 0] 114) (.cells #[.pointer (some ⟨w1.heap.size, 2, none⟩)] 108)
      rw [hW]
      clear hW
      obtain ⟨r, hr⟩ : ∃ r, w1.heap.size = r := ⟨_, rfl⟩
      have hwr : w.heap.size ≤ r := by rw [← hr]; exact H1.out.2.2.size
      have hBr : B ≤ r := Nat.le_trans HH.out.2.1.le hwr
      have k1 : Keep (fun _ => False) w W := (Keep.of_below H1.out.2.2).trans kW
      rw [hr] at b0 b1 ⊢
      have hcW : W.cell? ⟨g, f + 2, none⟩ = some (.string (strB c)) := (kW.cell (p := ⟨g, f + 2, none⟩) (Nat.lt_of_lt_of_le hgl H1.out.2.2.size) id).trans cc1
      have HI := Lib.hid (ints_one c g (f + 2) (cl - 2) 1 (r + 1) r 2 #[.int .i64 n, .int .i64 kk, .int .i64 0] 114 B W (HH.out.2.1.kept k1.none) hcW HZ.out.2.2 b1 b0 (show 2 < 3 by decide) (by omega) (by omega) hBr)
      have HW := Lib.hid (And.intro k1 (And.intro hwr hr))
      clear b0 b1 kW k1 hcW cb1 cc1 hBr
      go_wp2_with fail
      refine HI.out.mono ?_
      clear HI
      rintro e w2 ⟨(⟨q, hq, rfl, hb⟩ | ⟨hq, rfl⟩), k2⟩
      · have kk2 : Keep (fun _ => False) w w2 := HW.out.1.own k2 fun i hi => Or.inr (by rw [hi]; exact hwr)
        have hp2 : PAt w2 own pb m := HH.out.1.kept kk2
        have HR3 := Lib.hid (show faultF m.play [a, b, c] = .ok (arm m.play ⟨n, kk, q⟩) from by rw [HR2.out, hq])
        obtain ⟨ca, fa, oa, pa, hav⟩ := hp2.arm_cell
        have HA := Lib.hid (armed_any hp2 HF.out.1)
        have hb' : w2.heap[r]? = some (.cells #[.int .i64 n, .int .i64 kk, .int .i64 q] 114 (0, 0)) := hb
        have c0 := blk_cell hb' 0
        have c1 := blk_cell hb' 1
        have c2 := blk_cell hb' 2
        simp at c0 c1 c2
        rw [hav] at ca
        have H2 := Lib.hid (And.intro kk2 (And.intro hp2 (And.intro hav hb')))
        clear hq hb k2 kk2 hp2 hav hb' HR2
        have hPl : (armP m pb).block < w2.heap.size := By.cell_in ca
        obtain ⟨gP, oP, hP⟩ : ∃ gP oP, armP m pb = ⟨gP, oP, none⟩ := by unfold armP; split <;> exact ⟨_, _, rfl⟩
        rw [hP] at ca fa HA hPl
        have HP := Lib.hid hP
        clear hP
        go_wp2_with (go_at_call 78; refine HA.out.mono ?_; rintro e w' ⟨rfl, hw⟩; obtain rfl : w2 = w' := hw.symm)
        obtain ⟨i0, hi, hz0, hz1, hz2⟩ := infoF
        have hrow : ((w2.drew).alloc (.cells #[.int .i64 n, .int .i64 kk, .int .i64 q] 114)).ownsRow 0 114 3 (.slice oa (armL m).length pa) (armL m).length (fsv (armL m)) := by
          have h := H2.out.2.1.arm_row.1.row
          rw [H2.out.2.2.1] at h
          exact row_keep h ((Keep.refl (fun _ => False) w2).drew.alloc _) fun _ _ => id
        have HROW := Lib.hid hrow
        have hlen := HF.out.2
        clear hrow
        have hgne : ∀ q, (armV m).ownBlock = some q → q ≠ gP := fun q hq e => by
          obtain ⟨h1, t2, h2, -, h3⟩ := H2.out.2.1.arm_row
          have h4 := h1.tag q hq
          rw [HP.out, ← e, h4] at h2
          exact h3 (Option.some.inj h2).symm
        have HGN := Lib.hid hgne
        clear hgne
        go_region_law (first
          | (refine step_append_k rfl (.tmp 42) (.tmp 44) 35 rfl 0 114 i0 _ 3 24 Tryz.underlying35 hi hz0 hz1 hz2 rfl (by decide) (.slice oa (armL m).length pa) (armL m).length (fsv (armL m)) rfl HROW.out ⟨w2.heap.size, 0, none⟩ 1 1 [.int .i64 n, .int .i64 kk, .int .i64 q] rfl rfl (new_cells _ _ _) (by intro u hu; simp at hu; rcases hu with rfl | rfl | rfl <;> rfl) (by unfold maxLen; omega) (by omega) (Nat.zero_le _) ?_
             intro v4 w4 hown hgr hblk
             obtain ⟨g4, c4, rfl⟩ := ownsRow_succ hown
             rw [← H2.out.2.2.1] at hgr hblk
             have k4 : Keep (fun q => (armV m).ownBlock = some q) w2 w4 := ((Keep.refl (fun q => (armV m).ownBlock = some q) w2).drew.alloc _).trans (keep_grown hgr)
             have ca4 := (k4.cell (p := ⟨gP, oP, none⟩) hPl (fun h => HGN.out _ h rfl)).trans ca
             have fa4 := (k4.frozen (p := ⟨gP, oP, none⟩) hPl (fun h => HGN.out _ h rfl)).trans fa
             have H4 := Lib.hid (And.intro hown (And.intro hblk k4))
             clear hown hgr hblk k4))
        all_goals go_wp2_with fail
        all_goals go_ret
        all_goals
          have hpush := HH.out.1.arm_push ⟨n, kk, q⟩ H4.out.1 ((H2.out.1.mono fun _ _ h => h.elim).trans H4.out.2.2) (by
            rcases H4.out.2.1 with h | h
            · exact Or.inl h
            · refine Or.inr ⟨_, h, ?_⟩
              have := H2.out.1.size
              simp
              omega)
          rw [HP.out] at hpush
          obtain ⟨e1, e2⟩ := M.arm_play m ⟨n, kk, q⟩ (.slice (some ⟨g4, 0, none⟩) ((armL m).length + 1) c4)
          exact Or.inl ⟨_, _, _, HR3.out, rfl, hpush.1, e1, e2, hpush.2⟩
      · have HR3 := Lib.hid (show faultF m.play [a, b, c] = .error 66 from by rw [HR2.out, hq])
        have kk2 : Keep (fun _ => False) w w2 := HW.out.1.own k2 fun i hi => Or.inr (by rw [hi]; exact hwr)
        have H2 := Lib.hid kk2
        clear hq k2 kk2 HR2
        go_wp2_with fail
        go_ret
        exact Or.inr ⟨66, HR3.out, by decide, rfl, H2.out.mono fun _ _ h => h.elim⟩
end Sc
end Go.Proofs.YtkkecpamnnojoaaGreatDoor
