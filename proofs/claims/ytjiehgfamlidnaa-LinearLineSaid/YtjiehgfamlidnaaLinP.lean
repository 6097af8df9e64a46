/- Package linear, in plain Lean: how long a chain is; the keys' numbers; what the search finds. By an AI agent. -/
import Derived.Test.YtjiehgfamlidnaaLinC
namespace Go.Proofs.Ytjiehgfamlidnaa.Lin
open Md
set_option linter.unusedVariables false
set_option linter.unusedSimpArgs false

theorem nodup_len : ∀ (n : Nat) (l : List Nat), l.Nodup → (∀ j ∈ l, j < n) → l.length ≤ n
  | 0, l, _, h => by
    cases l with
    | nil => simp
    | cons a l => exact absurd (h a List.mem_cons_self) (by omega)
  | n + 1, l, hn, h => by
    have h1 := nodup_len n (l.erase n) (hn.erase n) (fun j hj => by
      have := (hn.mem_erase_iff).1 hj
      have := h j this.2
      omega)
    have h2 : l.length ≤ (l.erase n).length + 1 := by
      rw [List.length_erase]
      split <;> omega
    omega
theorem Chain.len {ps : List Past} {d d' : Nd} {l : List Nat} (h : Chain ps d l d') : l.length ≤ ps.length := by
  obtain ⟨-, h1, -, h2⟩ := h.bits
  exact nodup_len _ _ h1 h2
theorem Chain.set_lt {ps : List Past} {base : Int} {d : Nd} {l : List Nat} (h : Chain ps (nd0 base) l d) (h12 : ps.length ≤ 12) : d.k.set < 4096 := by
  obtain ⟨h1, -, -, h2⟩ := h.bits
  refine Nat.lt_pow_two_of_testBit (n := 12) _ fun i hi => ?_
  rw [h1 i]
  have : i ∉ l := fun hc => by have := h2 i hc; omega
  simp [nd0, this]
theorem Chain.nums {ps : List Past} {d d' : Nd} {l : List Nat} (h : Chain ps d l d') (hI : Inv d.m.1 d.m.2.length) (hk : ∀ x ∈ d.k.lsns, 0 ≤ x ∧ x ≤ topN) : ∀ x ∈ d'.k.lsns, 0 ≤ x ∧ x ≤ topN := by
  induction h with
  | nil => exact hk
  | @cons d d1 d2 i l hi hp t ih =>
    obtain ⟨hf, hs, hkk⟩ := put_some hp
    refine ih (step_inv hI hs) ?_
    rw [hkk]
    unfold keyOf'
    simp only
    split
    · intro x hx
      rcases List.mem_or_eq_of_mem_set hx with hx | rfl
      · exact hk x hx
      · have a1 := hI.base
        have a2 := hI.first
        have a3 := hI.dur
        have a4 := hI.next
        have a5 := hI.top
        unfold topN
        omega
    · exact hk
open Classical in
/-- Is there an order behind a node? -/
noncomputable def fB (ps : List Past) (d : Nd) : Bool := decide (¬ Dead ps d)
theorem fB_true {ps : List Past} {d : Nd} : fB ps d = true ↔ ¬ Dead ps d := by unfold fB; simp
theorem fB_false {ps : List Past} {d : Nd} : fB ps d = false ↔ Dead ps d := by unfold fB; simp
theorem dead_put {ps : List Past} {d d' : Nd} {i : Nat} (hi : i < ps.length) (hp : putF ps d i = some d') (h : Dead ps d) : Dead ps d' := fun l d2 hc => h (i :: l) d2 (Chain.cons hi hp hc)
end Go.Proofs.Ytjiehgfamlidnaa.Lin
