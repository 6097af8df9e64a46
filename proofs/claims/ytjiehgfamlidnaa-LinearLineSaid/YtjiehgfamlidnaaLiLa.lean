/- LinearLine: the plain law. By an AI agent. -/
import Derived.Test.YtjiehgfamlidnaaLinV
namespace Go.Proofs.Ytjiehgfamlidnaa.Lin
open Go.ChangeShapes Go.WideShapes Go.ChangeAt Go.RowKit
open Md
set_option linter.unusedVariables false
set_option linter.unusedSimpArgs false

/-- A past with the times of its place. -/
def lnP (ps : List Past) (i : Nat) : Past := { ps.getD i zP with beg := 2 * (i : Int) + 1, en := 2 * (i : Int) + 2 }
/-- Pasts that overlap nowhere. -/
def lnL (ps : List Past) (k : Nat) : List Past := (List.range k).map (lnP ps)
theorem lnL_len (ps : List Past) (k : Nat) : (lnL ps k).length = k := by simp [lnL]
theorem lnL_get (ps : List Past) {k i : Nat} (h : i < k) : (lnL ps k).getD i zP = lnP ps i := by
  rw [List.getD_eq_getElem?_getD]; simp [lnL, h]
theorem lnL_succ (ps : List Past) (k : Nat) : lnL ps (k + 1) = lnL ps k ++ [lnP ps k] := by simp [lnL, List.range_succ]

theorem ln_open (ps : List Past) (n : Nat) : ∀ k, k ≤ n → openN (lnL ps n) k = 0
  | 0, _ => rfl
  | k + 1, h => by
    unfold openN
    rw [ln_open ps n k (by omega), lnL_get ps (by omega : k < n)]
    rw [if_neg (by show ¬ (2 * (k : Int) + 2 = 0); omega)]
theorem ln_bg {base : Int} {ps : List Past} (h1 : 1 ≤ base) (h12 : ps.length ≤ 12) : bgE base (lnL ps ps.length) = 0 := by
  unfold bgE
  rw [if_neg (by omega), if_neg, if_pos]
  · rw [tim_iff]
    intro i hi
    rw [lnL_len] at hi
    rw [lnL_get ps hi]
    exact ⟨by show 1 ≤ 2 * (i : Int) + 1; omega, Or.inr (by show 2 * (i : Int) + 1 < 2 * (i : Int) + 2; omega)⟩
  · rw [lnL_len, ln_open ps _ _ (Nat.le_refl _)]
    omega

/-- The state behind the first k, if they may be. -/
def seqF (base : Int) (ps : List Past) : Nat → Option St
  | 0 => some (newS base, [])
  | k + 1 => (seqF base ps k).bind fun m => stepF m (lnP ps k)

theorem ln_bef (ps : List Past) {n i j : Nat} (hi : i < n) : (befOf (lnL ps n) i).testBit j = decide (j < i) := by
  unfold befOf
  rw [mask_bit, lnL_len]
  by_cases hj : j < n
  · rw [lnL_get ps hj, lnL_get ps hi]
    unfold ahead lnP
    simp only [hj, decide_true, Bool.true_and]
    by_cases h : j < i
    · rw [decide_eq_true h, decide_eq_true_eq]
      constructor <;> omega
    · rw [decide_eq_false h, decide_eq_false_iff_not]
      omega
  · have : ¬ j < i := by omega
    simp [hj, this]

theorem ln_chain {base : Int} {ps : List Past} {n : Nat} {d d' : Nd} {l : List Nat} (h : Chain (lnL ps n) d l d') : ∀ k, (∀ j, d.k.set.testBit j = decide (j < k)) → seqF base ps k = some d.m → l = List.range' k l.length ∧ seqF base ps (k + l.length) = some d'.m := by
  induction h with
  | nil d => intro k _ hs; exact ⟨rfl, hs⟩
  | @cons d d1 d2 i l hi hp t ih =>
    intro k hb hs
    obtain ⟨hf, hst, -⟩ := put_some hp
    have hi' : i < n := by rw [lnL_len] at hi; exact hi
    have hki : ¬ i < k := by
      have := hf.1
      rw [hb] at this
      simpa using this
    have hik : ¬ k < i := fun hlt => by
      have := hf.2 k (by rw [ln_bef ps hi']; simpa using hlt)
      rw [hb] at this
      simp at this
    obtain rfl : i = k := by omega
    rw [lnL_get ps hi'] at hst
    obtain ⟨e1, e2⟩ := ih (i + 1) (fun j => by
      rw [put_bit hp, hb]
      by_cases h1 : j < i
      · simp [h1]; omega
      · by_cases h2 : i = j
        · simp [h2]
        · have : ¬ j < i + 1 := by omega
          simp [h1, h2, this]) (by unfold seqF; rw [hs]; exact hst)
    refine ⟨?_, ?_⟩
    · rw [List.length_cons, List.range'_succ, ← e1]
    · rw [List.length_cons, show i + (l.length + 1) = i + 1 + l.length by omega]
      exact e2
theorem ln_only {base : Int} {ps : List Past} {n : Nat} {d : Nd} {l : List Nat} (h : Chain (lnL ps n) (nd0 base) l d) (hd : Done (lnL ps n) d) : l = List.range n ∧ seqF base ps n = some d.m := by
  obtain ⟨e1, e2⟩ := ln_chain (base := base) h 0 (fun j => by simp [nd0]) rfl
  have hb := h.bits
  have hle := h.len
  rw [lnL_len] at hle
  have hge : n ≤ l.length := by
    rcases Nat.lt_or_ge l.length n with hlt | hge
    · exfalso
      have := hd l.length (by
        unfold allOf
        rw [mask_bit, lnL_len, lnL_get ps hlt, Bool.and_eq_true, decide_eq_true_eq, decide_eq_true_eq]
        exact ⟨hlt, by show ¬ (2 * (l.length : Int) + 2 = 0); omega⟩)
      rw [hb.1] at this
      rw [e1] at this
      simp [nd0] at this
    · exact hge
  have hll : l.length = n := by omega
  rw [hll] at e1
  rw [hll, Nat.zero_add] at e2
  exact ⟨by rw [e1, List.range_eq_range'], e2⟩
theorem ln_make {base : Int} {ps : List Past} {n : Nat} : ∀ k m, k ≤ n → seqF base ps k = some m → ∃ d, Chain (lnL ps n) (nd0 base) (List.range k) d ∧ d.m = m
  | 0, m, _, h => by cases h; exact ⟨nd0 base, Chain.nil _, rfl⟩
  | k + 1, m, hk, h => by
    unfold seqF at h
    rcases hq : seqF base ps k with _ | m0
    · rw [hq] at h; cases h
    · rw [hq] at h
      obtain ⟨d, hc, rfl⟩ := ln_make (n := n) k m0 (by omega) hq
      have hs : stepF d.m ((lnL ps n).getD k zP) = some m := by rw [lnL_get ps (by omega : k < n)]; exact h
      have hb := hc.bits
      have hf : free (lnL ps n) d.k k := by
        refine ⟨?_, fun j hj => ?_⟩
        · rw [hb.1]; simp [nd0]
        · rw [ln_bef ps (n := n) (i := k) (by omega)] at hj
          rw [hb.1]
          have : j < k := by simpa using hj
          simp [this]
      refine ⟨_, by rw [List.range_succ]; exact hc.snoc (i := k) (by rw [lnL_len]; omega) (put_of hf hs), rfl⟩
theorem ln_some {base : Int} {ps : List Past} {n : Nat} {m : St} (h : seqF base ps n = some m) : ∃ d, Chain (lnL ps n) (nd0 base) (List.range n) d ∧ Done (lnL ps n) d := by
  obtain ⟨d, hc, -⟩ := ln_make (n := n) n m (Nat.le_refl _) h
  refine ⟨d, hc, fun j hj => ?_⟩
  unfold allOf at hj
  rw [mask_bit, lnL_len] at hj
  have : j < n := by
    have := (Bool.and_eq_true _ _ ▸ hj : _ ∧ _).1
    simpa using this
  rw [hc.bits.1]
  simp [this]
end Go.Proofs.Ytjiehgfamlidnaa.Lin
