/- Package linear, in plain Lean: the key says the state; the first order. By an AI agent. -/
import Derived.Test.YtjiehgfamlidnaaLinB
namespace Go.Proofs.Ytjiehgfamlidnaa.Lin
open Md
set_option linter.unusedVariables false
set_option linter.unusedSimpArgs false

theorem step_inv {m m' : St} {p : Past} (hI : Inv m.1 m.2.length) (h : stepF m p = some m') : Inv m'.1 m'.2.length := by
  obtain ⟨s, bs⟩ := m
  obtain ⟨s', bs'⟩ := m'
  unfold stepF at h
  simp only at h hI ⊢
  split at h
  · exact (half_ord hI h).1.inv
  · exact (apply_ord hI h).1.inv

theorem good_nil {ps : List Past} {base : Int} (h1 : 1 ≤ base) (h2 : base ≤ topN) : Good ps base [] (nd0 base) where
  inv := inv_new base h1 h2
  hbase := rfl
  first := rfl
  dur := rfl
  limit := rfl
  failed := rfl
  closed := rfl
  count := rfl
  each := fun i hi => (List.not_mem_nil hi).elim
  all := fun j hj => absurd hj (by simp [nd0])
  lens := by simp [nd0]

theorem good_put {ps : List Past} {base : Int} {l : List Nat} {d d' : Nd} {i : Nat} (hG : Good ps base l d) (hp : putF ps d i = some d') (hi : i ∉ l) (h12 : i < 12) : Good ps base (l ++ [i]) d' := by
  obtain ⟨hf, hs, hk⟩ := put_some hp
  obtain ⟨e1, e2, e3⟩ := step_eff hG.inv hs
  have hI := step_inv hG.inv hs
  have hr := hI.recs
  have hr0 := hG.inv.recs
  generalize hpp : ps.getD i zP = p at *
  have hb : d'.m.1.base = base := by rw [e1]; exact hG.hbase
  have hpos : ∀ i', i' ≠ i → posOf (ps.getD i' zP) d'.k i' = posOf (ps.getD i' zP) d.k i' := by
    intro i' hne
    unfold posOf
    rw [hk]
    unfold keyOf'
    split
    · simp only
      split
      · rw [List.getD_eq_getElem?_getD, List.getElem?_set, if_neg (fun e => hne e.symm), ← List.getD_eq_getElem?_getD]
      · rfl
    · rfl
  have hlen : d'.m.2.length = d.m.2.length + (if effA p = true then 1 else 0) := by
    rw [e2]; split <;> simp
  have hget : ∀ j, j < d.m.2.length → d'.m.2.getD j [] = d.m.2.getD j [] := by
    intro j hj
    rw [e2]
    split
    · rw [List.getD_eq_getElem?_getD, List.getElem?_append_left hj, ← List.getD_eq_getElem?_getD]
    · rfl
  have hnew : effA p = true → posOf p d'.k i = base + d.m.2.length ∧ d'.m.2.getD d.m.2.length [] = p.D := by
    intro ha
    rw [if_pos ha] at hlen
    refine ⟨?_, ?_⟩
    · have hn : d.m.1.next = base + d.m.2.length := by rw [hr0, hG.hbase]
      unfold posOf
      rw [hk]
      unfold keyOf'
      by_cases he : p.en = 0
      · have hlt : d.m.1.next < d'.m.1.next := by rw [hr, hr0, hb, hG.hbase, hlen]; push_cast; omega
        rw [if_pos he]
        simp only [he, hlt, and_self, if_true]
        rw [List.getD_eq_getElem?_getD, List.getElem?_set, if_pos rfl, if_pos (by rw [hG.lens]; exact h12)]
        exact hn
      · rw [if_neg he]
        rw [e3 ha he]; exact hn
    · rw [e2, if_pos ha, List.getD_eq_getElem?_getD, List.getElem?_append_right (Nat.le_refl _)]
      simp
  refine ⟨hI, hb, ?_, ?_, ?_, ?_, ?_, ?_, ?_, ?_, ?_⟩
  · rw [List.foldl_append, List.foldl_cons, List.foldl_nil, ← hG.first, hpp, e1]; rfl
  · rw [List.foldl_append, List.foldl_cons, List.foldl_nil, ← hG.dur, hpp, e1]; rfl
  · rw [List.foldl_append, List.foldl_cons, List.foldl_nil, ← hG.limit, hpp, e1]; rfl
  · rw [List.foldl_append, List.foldl_cons, List.foldl_nil, ← hG.failed, hpp, e1]; rfl
  · rw [List.foldl_append, List.foldl_cons, List.foldl_nil, ← hG.closed, hpp, e1]; rfl
  · rw [List.countP_append, ← hG.count, hlen, List.countP_cons, List.countP_nil, hpp, Nat.zero_add]
  · intro i' hi' ha
    rcases List.mem_append.1 hi' with h | h
    · have hne : i' ≠ i := fun e => hi (e ▸ h)
      obtain ⟨j, h1, h2, h3⟩ := hG.each i' h ha
      exact ⟨j, by rw [hlen]; omega, by rw [hpos i' hne]; exact h2, by rw [hget j h1]; exact h3⟩
    · rw [List.mem_singleton] at h
      subst h
      rw [hpp] at ha ⊢
      refine ⟨d.m.2.length, by rw [hlen, if_pos ha]; omega, (hnew ha).1, (hnew ha).2⟩
  · intro j hj
    by_cases hj' : j < d.m.2.length
    · obtain ⟨i', h1, h2, h3, h4⟩ := hG.all j hj'
      have hne : i' ≠ i := fun e => hi (e ▸ h1)
      exact ⟨i', List.mem_append_left _ h1, h2, by rw [hpos i' hne]; exact h3, by rw [hget j hj']; exact h4⟩
    · have ha : effA p = true := by
        rw [hlen] at hj
        split at hj
        · assumption
        · omega
      rw [hlen, if_pos ha] at hj
      have : j = d.m.2.length := by omega
      subst this
      exact ⟨i, List.mem_append_right _ (List.mem_singleton.2 rfl), by rw [hpp]; exact ha, by rw [hpp]; exact (hnew ha).1, by rw [hpp]; exact (hnew ha).2⟩
  · rw [hk]
    unfold keyOf'
    split
    · simp only [List.length_set]; exact hG.lens
    · exact hG.lens

theorem good_chain {ps : List Past} {base : Int} {l0 l : List Nat} {d d' : Nd} (hG : Good ps base l0 d) (h12 : ps.length ≤ 12) (hm : ∀ j ∈ l0, d.k.set.testBit j = true) (h : Chain ps d l d') : Good ps base (l0 ++ l) d' := by
  induction h generalizing l0 with
  | nil => rw [List.append_nil]; exact hG
  | @cons d d1 d2 i l hi hp t ih =>
    have hni : i ∉ l0 := fun hc => by have := hm i hc; rw [(put_set hp).2] at this; cases this
    have := ih (good_put hG hp hni (by omega)) (fun j hj => by
      rw [put_bit hp j]
      rcases List.mem_append.1 hj with h | h
      · simp [hm j h]
      · rw [List.mem_singleton] at h; simp [h])
    rw [List.append_assoc] at this
    exact this
theorem good_of {ps : List Past} {base : Int} {l : List Nat} {d : Nd} (h1 : 1 ≤ base) (h2 : base ≤ topN) (h12 : ps.length ≤ 12) (h : Chain ps (nd0 base) l d) : Good ps base l d :=
  good_chain (good_nil h1 h2) h12 (fun j hj => (List.not_mem_nil hj).elim) h

theorem fold_perm {β : Type} (f : β → Nat → β) (hc : ∀ b x y, f (f b x) y = f (f b y) x) {l1 l2 : List Nat} (h : l1.Perm l2) (b : β) : l1.foldl f b = l2.foldl f b := by
  induction h generalizing b with
  | nil => rfl
  | cons x _ ih => exact ih _
  | swap x y l => simp only [List.foldl_cons]; rw [hc]
  | trans _ _ ih1 ih2 => rw [ih1, ih2]

/-- The key says the state. -/
theorem key_state {ps : List Past} {base : Int} {l1 l2 : List Nat} {d1 d2 : Nd} (h1 : 1 ≤ base) (h2 : base ≤ topN) (h12 : ps.length ≤ 12) (c1 : Chain ps (nd0 base) l1 d1) (c2 : Chain ps (nd0 base) l2 d2) (hk : d1.k = d2.k) : d1 = d2 := by
  have g1 := good_of h1 h2 h12 c1
  have g2 := good_of h1 h2 h12 c2
  have b1 := c1.bits
  have b2 := c2.bits
  have hp : l1.Perm l2 := (List.perm_ext_iff_of_nodup b1.2.1 b2.2.1).2 fun j => by
    have e1 := b1.1 j
    have e2 := b2.1 j
    rw [hk, e2] at e1
    simp [nd0] at e1
    exact e1.symm
  have ef : d1.m.1.first = d2.m.1.first := by rw [g1.first, g2.first]; exact fold_perm _ (fun b x y => by omega) hp _
  have ed : d1.m.1.durable = d2.m.1.durable := by rw [g1.dur, g2.dur]; exact fold_perm _ (fun b x y => by omega) hp _
  have el : d1.m.1.limit = d2.m.1.limit := by rw [g1.limit, g2.limit]; exact fold_perm _ (fun b x y => by omega) hp _
  have ex : d1.m.1.failed = d2.m.1.failed := by rw [g1.failed, g2.failed]; exact fold_perm _ (fun b x y => by cases b <;> simp [Bool.or_comm]) hp _
  have ec : d1.m.1.closed = d2.m.1.closed := by rw [g1.closed, g2.closed]; exact fold_perm _ (fun b x y => by cases b <;> simp [Bool.or_comm]) hp _
  have en : d1.m.2.length = d2.m.2.length := by rw [g1.count, g2.count]; exact hp.countP_eq _
  have eb : d1.m.1.base = d2.m.1.base := by rw [g1.hbase, g2.hbase]
  have enx : d1.m.1.next = d2.m.1.next := by rw [g1.inv.recs, g2.inv.recs, eb, en]
  have er : d1.m.2 = d2.m.2 := by
    apply List.ext_getElem en
    intro j hj1 hj2
    obtain ⟨i, hi, ha, hpos, hD⟩ := g1.all j hj1
    obtain ⟨j', hj', hpos', hD'⟩ := g2.each i (hp.mem_iff.1 hi) ha
    rw [hk] at hpos
    have : j' = j := by omega
    subst this
    rw [← hD] at hD'
    rw [List.getD_eq_getElem?_getD, List.getD_eq_getElem?_getD, List.getElem?_eq_getElem hj1, List.getElem?_eq_getElem hj2] at hD'
    exact hD'.symm
  obtain ⟨⟨s1, r1⟩, k1⟩ := d1
  obtain ⟨⟨s2, r2⟩, k2⟩ := d2
  obtain ⟨x1, x2, x3, x4, x5, x6, x7⟩ := s1
  obtain ⟨y1, y2, y3, y4, y5, y6, y7⟩ := s2
  simp only at ef ed el ex ec eb enx er hk
  subst ef ed el ex ec eb enx er hk
  rfl

/-! ### the search without its notes -/
/-- Not ahead of it, and not less. -/
def lexle : List Nat → List Nat → Prop
  | [], _ => True
  | _ :: _, [] => False
  | a :: l, b :: l2 => a < b ∨ (a = b ∧ lexle l l2)

def Best (ps : List Past) (d : Nd) (l : List Nat) : Prop := ∀ l2 d2, Chain ps d l2 d2 → Done ps d2 → lexle l l2

theorem best_nil (ps : List Past) (d : Nd) : Best ps d [] := fun _ _ _ _ => trivial
theorem best_cons {ps : List Past} {d d' : Nd} {i : Nat} {l : List Nat} (hnd : ¬ Done ps d) (hlow : ∀ j, j < i → ∀ dj, putF ps d j = some dj → Dead ps dj) (hp : putF ps d i = some d') (hb : Best ps d' l) : Best ps d (i :: l) := by
  intro l2 d2 hc hd
  cases hc with
  | nil => exact absurd hd hnd
  | @cons _ d1 _ j l2 hj hpj t =>
    rcases Nat.lt_trichotomy i j with h | h | h
    · exact Or.inl h
    · subst h
      rw [hp] at hpj
      cases hpj
      exact Or.inr ⟨rfl, hb _ _ t hd⟩
    · exact absurd hd (hlow j h _ hpj _ _ t)
theorem dead_all {ps : List Past} {d : Nd} (hnd : ¬ Done ps d) (h : ∀ j, j < ps.length → ∀ dj, putF ps d j = some dj → Dead ps dj) : Dead ps d := by
  intro l d' hc hd
  cases hc with
  | nil => exact hnd hd
  | cons hj hpj t => exact h _ hj _ hpj _ _ t hd

def DeadK (ps : List Past) (base : Int) (k : Key) : Prop := ∀ l d, Chain ps (nd0 base) l d → d.k = k → Dead ps d
theorem dead_key {ps : List Past} {base : Int} {l : List Nat} {d : Nd} (h1 : 1 ≤ base) (h2 : base ≤ topN) (h12 : ps.length ≤ 12) (c : Chain ps (nd0 base) l d) (h : Dead ps d) : DeadK ps base d.k := by
  intro l2 d2 c2 e
  have := key_state h1 h2 h12 c2 c e
  rw [this]; exact h

/-- What a search notes: of the dead, or of less than c. -/
def TInv (ps : List Past) (base : Int) (T : Key → Prop) (c : Nat) : Prop := ∀ k, T k → DeadK ps base k ∨ k.set < c

/-! ### how far one can go -/
def Clo (ps : List Past) (base : Int) (T : Key → Prop) (k : Key) : Prop := ∀ l d, Chain ps (nd0 base) l d → d.k = k → ∀ i, i < ps.length → ∀ d', putF ps d i = some d' → T d'.k
theorem Clo.mono {ps : List Past} {base : Int} {T T' : Key → Prop} {k : Key} (h : Clo ps base T k) (ht : ∀ k, T k → T' k) : Clo ps base T' k := fun l d c e i hi d' hp => ht _ (h l d c e i hi d' hp)
/-- Closed, and holding the start: it holds all that can be reached. -/
theorem reach_all {ps : List Past} {base : Int} {T : Key → Prop} (h0 : T (nd0 base).k) (hc : ∀ k, T k → Clo ps base T k) {l0 l : List Nat} {d d' : Nd} (c0 : Chain ps (nd0 base) l0 d) (hd : T d.k) (h : Chain ps d l d') : T d'.k := by
  induction h generalizing l0 with
  | nil => exact hd
  | cons hi hp t ih => exact ih (c0.snoc hi hp) (hc _ hd _ _ c0 rfl _ hi _ hp)
end Go.Proofs.Ytjiehgfamlidnaa.Lin
