/- Package linear, in plain Lean: chains of pasts; the key says the state; what the search looks for. By an AI agent. -/
import Derived.Test.YtjiehgfamlidnaaLinA
namespace Go.Proofs.Ytjiehgfamlidnaa.Lin
open Md
set_option linter.unusedVariables false
set_option linter.unusedSimpArgs false

structure Key where
  set : Nat
  lsns : List Int
deriving DecidableEq

/-- A node: the state and what was made. -/
structure Nd where
  m : St
  k : Key

def ahead (a b : Past) : Bool := decide (a.en ≠ 0 ∧ a.en < b.beg)
def zP : Past := ⟨0, 0, [], 0, 0, [], 0, 0⟩
/-- Bits. -/
def maskOf (n : Nat) (f : Nat → Bool) : Nat := (List.range n).foldl (fun m k => if f k = true then m ||| 2 ^ k else m) 0

theorem mask_bit (n : Nat) (f : Nat → Bool) (j : Nat) : (maskOf n f).testBit j = (decide (j < n) && f j) := by
  unfold maskOf
  induction n with
  | zero => simp
  | succ n ih =>
    rw [List.range_succ, List.foldl_append, List.foldl_cons, List.foldl_nil]
    by_cases hf : f n = true
    · rw [if_pos hf, Nat.testBit_or, ih, Nat.testBit_two_pow]
      by_cases hj : j = n
      · subst hj; simp [hf]
      · have e1 : decide (n = j) = false := by simp; omega
        have e2 : decide (j < n + 1) = decide (j < n) := by simp; omega
        rw [e1, e2, Bool.or_false]
    · rw [if_neg hf, ih]
      by_cases hj : j = n
      · subst hj
        rw [Bool.not_eq_true] at hf
        simp [hf]
      · have e2 : decide (j < n + 1) = decide (j < n) := by simp; omega
        rw [e2]
theorem mask_lt (n : Nat) (f : Nat → Bool) : maskOf n f < 2 ^ n := by
  apply Nat.lt_pow_two_of_testBit
  intro i hi
  rw [mask_bit]
  simp; omega

/-- Those that were done; those ahead of one. -/
def allOf (ps : List Past) : Nat := maskOf ps.length fun k => decide ((ps.getD k zP).en ≠ 0)
def befOf (ps : List Past) (i : Nat) : Nat := maskOf ps.length fun k => ahead (ps.getD k zP) (ps.getD i zP)

/-- May one be put there, by its times? -/
def free (ps : List Past) (k : Key) (i : Nat) : Prop := k.set.testBit i = false ∧ ∀ j, (befOf ps i).testBit j = true → k.set.testBit j = true

/-- The key then. -/
def keyOf' (p : Past) (nx nx' : Int) (k : Key) (i : Nat) : Key := ⟨k.set ||| 2 ^ i, if p.en = 0 ∧ nx < nx' then k.lsns.set i nx else k.lsns⟩

open Classical in
noncomputable def putF (ps : List Past) (d : Nd) (i : Nat) : Option Nd :=
  if free ps d.k i then (stepF d.m (ps.getD i zP)).map fun m' => ⟨m', keyOf' (ps.getD i zP) d.m.1.next m'.1.next d.k i⟩ else none

inductive Chain (ps : List Past) : Nd → List Nat → Nd → Prop
  | nil (d : Nd) : Chain ps d [] d
  | cons {d d' d'' : Nd} {i : Nat} {l : List Nat} (hi : i < ps.length) (h : putF ps d i = some d') (t : Chain ps d' l d'') : Chain ps d (i :: l) d''

def Done (ps : List Past) (d : Nd) : Prop := ∀ j, (allOf ps).testBit j = true → d.k.set.testBit j = true
def Dead (ps : List Past) (d : Nd) : Prop := ∀ l d', Chain ps d l d' → ¬ Done ps d'

theorem put_some {ps : List Past} {d d' : Nd} {i : Nat} (h : putF ps d i = some d') : free ps d.k i ∧ stepF d.m (ps.getD i zP) = some d'.m ∧ d'.k = keyOf' (ps.getD i zP) d.m.1.next d'.m.1.next d.k i := by
  unfold putF at h
  split at h
  · rename_i hf
    rcases hq : stepF d.m (ps.getD i zP) with _ | m'
    · rw [hq] at h; cases h
    · rw [hq] at h
      cases h
      exact ⟨hf, rfl, rfl⟩
  · cases h
theorem put_of {ps : List Past} {d : Nd} {i : Nat} {m' : St} (hf : free ps d.k i) (hs : stepF d.m (ps.getD i zP) = some m') : putF ps d i = some ⟨m', keyOf' (ps.getD i zP) d.m.1.next m'.1.next d.k i⟩ := by
  unfold putF
  rw [if_pos hf, hs]; rfl
theorem put_set {ps : List Past} {d d' : Nd} {i : Nat} (h : putF ps d i = some d') : d'.k.set = d.k.set ||| 2 ^ i ∧ d.k.set.testBit i = false := by
  obtain ⟨a, b, c⟩ := put_some h
  rw [c]
  exact ⟨rfl, a.1⟩
theorem put_bit {ps : List Past} {d d' : Nd} {i : Nat} (h : putF ps d i = some d') (j : Nat) : d'.k.set.testBit j = (d.k.set.testBit j || decide (i = j)) := by
  rw [(put_set h).1, Nat.testBit_or, Nat.testBit_two_pow]
theorem lt_or (s i : Nat) (h : s.testBit i = false) : s < s ||| 2 ^ i := by
  have h1 : s ≤ s ||| 2 ^ i := Nat.left_le_or
  refine Nat.lt_of_le_of_ne h1 fun e => ?_
  rw [e, Nat.testBit_or, Nat.testBit_two_pow] at h
  simp at h
theorem put_lt {ps : List Past} {d d' : Nd} {i : Nat} (h : putF ps d i = some d') : d.k.set < d'.k.set := by
  rw [(put_set h).1]
  exact lt_or _ _ (put_set h).2

theorem Chain.append {ps : List Past} {d d' d'' : Nd} {l l' : List Nat} (h : Chain ps d l d') (h' : Chain ps d' l' d'') : Chain ps d (l ++ l') d'' := by
  induction h with
  | nil => exact h'
  | cons hi hp _ ih => exact Chain.cons hi hp (ih h')
theorem Chain.snoc {ps : List Past} {d d' d'' : Nd} {l : List Nat} {i : Nat} (h : Chain ps d l d') (hi : i < ps.length) (hp : putF ps d' i = some d'') : Chain ps d (l ++ [i]) d'' := h.append (Chain.cons hi hp (Chain.nil _))

theorem Chain.bits {ps : List Past} {d d' : Nd} {l : List Nat} (h : Chain ps d l d') : (∀ j, d'.k.set.testBit j = (d.k.set.testBit j || decide (j ∈ l))) ∧ l.Nodup ∧ (∀ j ∈ l, d.k.set.testBit j = false) ∧ (∀ j ∈ l, j < ps.length) := by
  induction h with
  | nil => exact ⟨fun j => by simp, List.nodup_nil, fun j hj => (List.not_mem_nil hj).elim, fun j hj => (List.not_mem_nil hj).elim⟩
  | @cons d d1 d2 i l hi hp t ih =>
    obtain ⟨a, b, c, e⟩ := ih
    refine ⟨fun j => ?_, List.nodup_cons.2 ⟨fun hm => ?_, b⟩, fun j hj => ?_, fun j hj => ?_⟩
    · rw [a j, put_bit hp j]
      by_cases h : i = j
      · subst h; simp
      · have h' : ¬ j = i := fun e => h e.symm
        simp [h, h']
    · have := c i hm
      rw [put_bit hp i] at this
      simp at this
    · rcases List.mem_cons.1 hj with rfl | hj
      · exact (put_set hp).2
      · have := c j hj
        rw [put_bit hp j] at this
        simp at this
        exact this.1
    · rcases List.mem_cons.1 hj with rfl | hj
      · exact hi
      · exact e j hj

theorem Chain.split {ps : List Past} {d d'' : Nd} {a b : List Nat} (h : Chain ps d (a ++ b) d'') : ∃ d', Chain ps d a d' ∧ Chain ps d' b d'' := by
  induction a generalizing d with
  | nil => exact ⟨d, Chain.nil _, h⟩
  | cons i a ih =>
    cases h with
    | cons hi hp t =>
      obtain ⟨d', h1, h2⟩ := ih t
      exact ⟨d', Chain.cons hi hp h1, h2⟩
theorem Chain.unique {ps : List Past} {d d1 d2 : Nd} {l : List Nat} (h : Chain ps d l d1) (h' : Chain ps d l d2) : d1 = d2 := by
  induction h with
  | nil => cases h'; rfl
  | cons hi hp t ih =>
    cases h' with
    | cons hi' hp' t' =>
      rw [hp] at hp'
      cases hp'
      exact ih t'

/-- The start. -/
def nd0 (base : Int) : Nd := ⟨(newS base, []), ⟨0, List.replicate 12 0⟩⟩

theorem inv_new (base : Int) (h : 1 ≤ base) (ht : base ≤ topN) : Inv (newS base) 0 := ⟨Int.le_trans (by decide) h, Int.le_refl _, Int.le_refl _, Int.le_refl _, ht, by simp [newS], ht, Int.le_refl _⟩

/-- Where a record of a past lies. -/
def posOf (p : Past) (k : Key) (i : Nat) : Int := if p.en = 0 then k.lsns.getD i 0 else p.lsn

/-- What is known of a node that a chain leads to. -/
structure Good (ps : List Past) (base : Int) (l : List Nat) (d : Nd) : Prop where
  inv : Inv d.m.1 d.m.2.length
  hbase : d.m.1.base = base
  first : d.m.1.first = l.foldl (fun a i => max a (effF (ps.getD i zP))) base
  dur : d.m.1.durable = l.foldl (fun a i => max a (effD (ps.getD i zP))) base
  limit : d.m.1.limit = l.foldl (fun a i => min a (effL (ps.getD i zP))) topN
  failed : d.m.1.failed = l.foldl (fun a i => a || effX (ps.getD i zP)) false
  closed : d.m.1.closed = l.foldl (fun a i => a || effC (ps.getD i zP)) false
  count : d.m.2.length = l.countP fun i => effA (ps.getD i zP)
  each : ∀ i ∈ l, effA (ps.getD i zP) = true → ∃ j, j < d.m.2.length ∧ posOf (ps.getD i zP) d.k i = base + j ∧ d.m.2.getD j [] = (ps.getD i zP).D
  all : ∀ j, j < d.m.2.length → ∃ i ∈ l, effA (ps.getD i zP) = true ∧ posOf (ps.getD i zP) d.k i = base + j ∧ d.m.2.getD j [] = (ps.getD i zP).D
  lens : d.k.lsns.length = 12

end Go.Proofs.Ytjiehgfamlidnaa.Lin
