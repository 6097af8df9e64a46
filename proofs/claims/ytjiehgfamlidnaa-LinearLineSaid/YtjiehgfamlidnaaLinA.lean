/- Package linear, in plain Lean: what each past does to the state; the state is what was made. By an AI agent. -/
import Derived.Test.YtjiehgfamlidnaaModO
namespace Go.Proofs.Ytjiehgfamlidnaa.Lin
open Go.ChangeShapes Go.WideShapes Go.ChangeAt Go.RowKit
open Md
set_option linter.unusedVariables false
set_option linter.unusedSimpArgs false

/-- A past. -/
structure Past where
  kind : Int
  cl : Int
  D : List Nat
  err : Int
  lsn : Int
  R : List Nat
  beg : Int
  en : Int

abbrev St := S × List (List Nat)
abbrev topN : Int := 9223372036854775807

def stepF (m : St) (p : Past) : Option St := if p.en = 0 then halfF m.1 m.2 p.kind p.cl p.D else applyF m.1 m.2 p.kind p.cl p.D p.err p.lsn p.R

theorem raise_eq {s s' : S} {m : Int} (h : raiseS s m = some s') : s' = { s with durable := max s.durable m } := by
  unfold raiseS at h
  split at h
  · cases h; rfl
  · cases h
theorem front_eq {s s' : S} {m : Int} (h : frontS s m = some s') : s' = { s with durable := max s.durable m, first := m } := by
  unfold frontS at h
  split at h
  · rcases hq : raiseS s m with _ | t
    · rw [hq] at h; cases h
    · rw [hq] at h
      cases h
      rw [raise_eq hq]
  · cases h
theorem trunc_eff {s s' : S} {cl err lsn : Int} {n : Nat} (hI : Inv s n) (h : truncS s cl err lsn = some s') :
    s' = { s with first := max s.first (if err = 0 ∨ (err = 40 ∧ lsn ≠ 0) then cl else 0), durable := max s.durable (if err = 0 ∨ (err = 40 ∧ lsn ≠ 0) then cl else 0), failed := s.failed || decide (err = 40) } := by
  obtain ⟨i1, i2, i3, i4, -, -, -, -⟩ := hI
  unfold truncS at h
  split at h
  · rename_i he
    subst he
    split at h
    · rename_i hl
      cases h
      have e1 : max s.first 0 = s.first := by omega
      have e2 : max s.durable 0 = s.durable := by omega
      simp [hl, e1, e2]
    · rename_i hl
      split at h
      · rename_i hc
        rcases hq : frontS s cl with _ | t
        · rw [hq] at h; cases h
        · rw [hq] at h
          cases h
          rw [front_eq hq]
          have e1 : max s.first cl = cl := by omega
          simp [hl, e1]
      · cases h
  · rename_i he
    split at h
    · rename_i hf
      split at h
      · rename_i hl
        split at h
        · rename_i h0
          subst h0
          split at h
          · rename_i hc
            rw [front_eq h]
            have e1 : max s.first cl = cl := by omega
            simp [e1]
          · rename_i hc
            cases h
            have e1 : max s.first cl = s.first := by omega
            have e2 : max s.durable cl = s.durable := by omega
            simp [e1, e2]
        · rename_i h0
          have e1 : max s.first 0 = s.first := by omega
          have e2 : max s.durable 0 = s.durable := by omega
          split at h
          · split at h
            · cases h; simp [he, h0, e1, e2]
            · cases h
          · split at h
            · cases h; simp [he, h0, e1, e2]
            · cases h
      · cases h
    · cases h
theorem read_eff {s s' : S} {bs : List (List Nat)} {kind cl err lsn : Int} {R : List Nat} {n : Nat} (hI : Inv s n) (h : readS s bs kind cl err lsn R = some s') :
    s' = { s with durable := max s.durable (if err = 0 then cl + 1 else 0), failed := s.failed || decide (err = 40) } := by
  obtain ⟨i1, i2, i3, i4, -, -, -, -⟩ := hI
  have e2 : max s.durable 0 = s.durable := by omega
  unfold readS at h
  split at h
  · rename_i h0
    subst h0
    split at h
    · rw [raise_eq h]; simp
    · cases h
  · rename_i h0
    split at h
    · split at h
      · rename_i he; subst he; split at h
        · cases h; simp [e2]
        · cases h
      split at h
      · rename_i he; subst he; split at h
        · cases h; simp [e2]
        · cases h
      split at h
      · rename_i he; obtain ⟨he, -⟩ := he; subst he; split at h
        · cases h; simp [e2]
        · cases h
      split at h
      · rename_i he; obtain ⟨he, -⟩ := he; subst he; split at h
        · cases h; simp [e2]
        · cases h
      · cases h
    · cases h
theorem sync_eff {s s' : S} {err lsn : Int} (h : syncS s err lsn = some s') : s' = { s with failed := s.failed || decide (err = 40) } := by
  unfold syncS at h
  split at h
  · split at h
    · rename_i he; subst he; split at h
      · cases h; simp
      · cases h
    split at h
    · rename_i he; subst he; cases h; simp
    · cases h
  · cases h
theorem close_eff {s s' : S} {err lsn : Int} (h : closeS s err lsn = some s') : s' = { s with failed := s.failed || decide (err = 40), closed := true } := by
  unfold closeS at h
  rcases hq : syncS s err lsn with _ | t
  · rw [hq] at h; cases h
  · rw [hq] at h
    cases h
    rw [sync_eff hq]
theorem app_eff {s s' : S} {kind err lsn : Int} {k n : Nat} {b : Bool} (hI : Inv s n) (h : appS s kind err lsn k = some (s', b)) :
    b = decide (err = 0 ∨ (err = 40 ∧ lsn ≠ 0)) ∧ s' = { s with next := s'.next, limit := min s.limit (if err = 40 ∧ lsn ≠ 0 then lsn else topN), failed := s.failed || decide (err = 40 ∧ lsn = 0) } ∧ (b = true → lsn = s.next) := by
  have il := hI.ltop
  have e1 : min s.limit topN = s.limit := by unfold topN; omega
  unfold appS at h
  split at h
  · rename_i he; subst he
    split at h
    · rcases hq : addS s lsn k with _ | t
      · rw [hq] at h; cases h
      · rw [hq] at h
        cases h
        obtain ⟨-, rfl, -, h4, -, -⟩ := add_len hq
        simp [e1, h4]
    · cases h
  split at h
  · rename_i he; subst he
    split at h
    · rename_i hl; cases h
      simp [hl, e1]
    · rename_i hl
      rcases hq : addS s lsn k with _ | t
      · rw [hq] at h; cases h
      · rw [hq] at h
        obtain ⟨-, rfl, -, h4, -, -⟩ := add_len hq
        simp only at h
        split at h
        · cases h
          simp [hl]
          exact h4
        · cases h
  split at h
  · rename_i he
    have h0 : err ≠ 0 := by omega
    have h4 : err ≠ 40 := by omega
    split at h
    · split at h
      · cases h; simp [h0, h4, e1]
      · cases h
    · cases h
  · cases h

def takes (p : Past) : Prop := p.en = 0 ∨ p.err = 0 ∨ (p.err = 40 ∧ p.lsn ≠ 0)
instance (p : Past) : Decidable (takes p) := by unfold takes; infer_instance
def effF (p : Past) : Int := if p.kind = 6 ∧ takes p then p.cl else 0
def effD (p : Past) : Int := if p.kind = 6 ∧ takes p then p.cl else if (p.kind = 4 ∨ p.kind = 5) ∧ p.en ≠ 0 ∧ p.err = 0 then p.cl + 1 else 0
def effA (p : Past) : Bool := decide ((p.kind = 1 ∨ p.kind = 2) ∧ takes p)
def effL (p : Past) : Int := if (p.kind = 1 ∨ p.kind = 2) ∧ p.en ≠ 0 ∧ p.err = 40 ∧ p.lsn ≠ 0 then p.lsn else topN
def effX (p : Past) : Bool := decide (p.en ≠ 0 ∧ p.err = 40 ∧ ((p.kind = 1 ∨ p.kind = 2) → p.lsn = 0))
def effC (p : Past) : Bool := decide (p.kind = 7 ∧ (p.en = 0 ∨ p.err ≠ 41))

/-- What a past makes of a state. -/
def eff (s : S) (p : Past) (nx : Int) : S := ⟨s.base, max s.first (effF p), max s.durable (effD p), nx, min s.limit (effL p), s.failed || effX p, s.closed || effC p⟩

theorem step_eff {m m' : St} {p : Past} (hI : Inv m.1 m.2.length) (h : stepF m p = some m') :
    m'.1 = eff m.1 p m'.1.next ∧ m'.2 = (if effA p = true then m.2 ++ [p.D] else m.2) ∧ (effA p = true → p.en ≠ 0 → p.lsn = m.1.next) := by
  obtain ⟨s, bs⟩ := m
  obtain ⟨s', bs'⟩ := m'
  obtain ⟨kind, cl, D, err, lsn, R, beg, en⟩ := p
  have hI' := hI
  obtain ⟨i1, i2, i3, i4, i5, i6, i7, i8⟩ := hI
  simp only at i1 i2 i3 i4 i5 i6 i7 i8 hI'
  have e1 : max s.first 0 = s.first := by omega
  have e2 : max s.durable 0 = s.durable := by omega
  have e3 : min s.limit topN = s.limit := by unfold topN; omega
  unfold stepF at h
  simp only at h
  split at h
  · rename_i he
    subst he
    unfold halfF at h
    split at h
    · unfold halfS at h
      split at h
      · rename_i hk
        rcases hq : addS s s.next D.length with _ | t
        · rw [hq] at h; cases h
        · rw [hq] at h
          cases h
          obtain ⟨-, rfl, -, -, -, -⟩ := add_len hq
          have k6 : kind ≠ 6 := by omega
          have k7 : kind ≠ 7 := by omega
          simp [eff, effF, effD, effA, effL, effX, effC, takes, hk, k6, k7, e1, e2, e3]
      split at h
      · rename_i hk
        subst hk
        split at h
        · cases h
        · rename_i hcl
          rcases hq : truncS s cl 0 0 with _ | t
          · rw [hq] at h; cases h
          · rw [hq] at h
            cases h
            have := trunc_eff hI' hq
            simp at this
            rw [this]
            simp [eff, effF, effD, effA, effL, effX, effC, takes, e3]
      split at h
      · rename_i hk
        subst hk
        split at h
        · cases h
        · cases h
          simp [eff, effF, effD, effA, effL, effX, effC, takes, e1, e2, e3]
      · cases h
    · cases h
  · rename_i hen
    unfold applyF at h
    split at h
    · rename_i hu
      have hu7 := used_one hu
      unfold applyS at h
      split at h
      · rename_i h41
        subst h41
        split at h
        · rename_i hc
          cases h
          simp [eff, effF, effD, effA, effL, effX, effC, takes, hen, e1, e2, e3]
        · cases h
      split at h
      · cases h
      unfold ansS at h
      split at h
      · split at h
        · rename_i hk
          rcases hq : readS s bs kind cl err lsn R with _ | t
          · rw [hq] at h; cases h
          · rw [hq] at h
            cases h
            have := read_eff hI' hq
            rw [this]
            have k6 : kind ≠ 6 := by omega
            have k7 : kind ≠ 7 := by omega
            have k1 : ¬ (kind = 1 ∨ kind = 2) := by omega
            simp [eff, effF, effD, effA, effL, effX, effC, takes, hen, hk, k6, k7, k1, e1, e2, e3]
        split at h
        · rename_i hk
          unfold recsOf at h
          rcases hq : appS s kind err lsn D.length with _ | ⟨t, b⟩
          · rw [hq] at h; cases h
          · rw [hq] at h
            simp only [Option.map_some, Option.some.injEq, Prod.mk.injEq] at h
            obtain ⟨rfl, rfl⟩ := h
            obtain ⟨a1, a2, a3⟩ := app_eff hI' hq
            have k6 : kind ≠ 6 := by omega
            have k7 : kind ≠ 7 := by omega
            have k4 : ¬ (kind = 4 ∨ kind = 5) := by omega
            subst a1
            refine ⟨?_, ?_, ?_⟩
            · rw [a2]
              simp [eff, effF, effD, effA, effL, effX, effC, takes, hen, hk, k6, k7, k4, e1, e2, e3]
            · simp [effA, takes, hk, hen]
            · intro h1 h2
              apply a3
              simpa [effA, takes, hk, hen] using h1
        split at h
        · rename_i hk
          subst hk
          rcases hq : truncS s cl err lsn with _ | t
          · rw [hq] at h; cases h
          · rw [hq] at h
            cases h
            have := trunc_eff hI' hq
            rw [this]
            simp [eff, effF, effD, effA, effL, effX, effC, takes, hen, e3]
        split at h
        · rename_i hk
          subst hk
          rcases hq : syncS s err lsn with _ | t
          · rw [hq] at h; cases h
          · rw [hq] at h
            cases h
            have := sync_eff hq
            rw [this]
            simp [eff, effF, effD, effA, effL, effX, effC, takes, hen, e1, e2, e3]
        · rename_i k1 k2 k3 k4
          rcases hq : closeS s err lsn with _ | t
          · rw [hq] at h; cases h
          · rw [hq] at h
            cases h
            have := close_eff hq
            rw [this]
            have hk7 : kind = 7 := by omega
            subst hk7
            simp [eff, effF, effD, effA, effL, effX, effC, takes, hen, e1, e2, e3]
            omega
      · cases h
    · cases h
end Go.Proofs.Ytjiehgfamlidnaa.Lin
