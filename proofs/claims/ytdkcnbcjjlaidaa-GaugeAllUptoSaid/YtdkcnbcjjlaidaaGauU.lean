/- GaugeCells: the plain law: what a gauge holds of what it was told. By an AI agent. -/
import Derived.Test.YtdkcnbcjjlaidaaGauS
namespace Go.Proofs.Ytdkcnbcjjlaidaa
open Go.ChangeShapes Go.WideShapes Go.ChangeAt Go.RowKit
set_option linter.unusedVariables false

def live (vs : List Nat) : List Nat := vs.filter fun v => !Flt.nan v
theorem live_append (vs us : List Nat) : live (vs ++ us) = live vs ++ live us := List.filter_append ..
theorem live_nan {v : Nat} (h : Flt.nan v = true) : live [v] = [] := by simp [live, h]
theorem live_one {v : Nat} (h : Flt.nan v = false) : live [v] = [v] := by simp [live, h]

theorem cmp_neg (a b : Nat) : cmpF a b < 0 ↔ keyF a < keyF b := by
  unfold cmpF
  split
  · simp; omega
  · split <;> simp <;> omega
theorem cmp_pos (a b : Nat) : 0 < cmpF a b ↔ keyF b < keyF a := by
  unfold cmpF
  split
  · simp; omega
  · split <;> simp <;> omega
theorem cmp_le (a b : Nat) : cmpF a b ≤ 0 ↔ keyF a ≤ keyF b := by
  unfold cmpF
  split
  · simp; omega
  · split <;> simp <;> omega

theorem key_inj {a b : Nat} (ha : a < 2 ^ 64) (hb : b < 2 ^ 64) (na : Flt.nan a = false) (nb : Flt.nan b = false) (h : keyF a = keyF b) : a = b := by
  unfold keyF at h
  rw [na, nb] at h
  simp only [if_neg (show ¬ (false = true) by simp)] at h
  split at h <;> split at h <;> omega

/-- What a gauge holds of what it was told. -/
structure TG (x : G) (bs vs : List Nat) : Prop where
  hb : x.bs = bs
  len : x.cs.length = bs.length + 1
  cnt : ∀ j, x.cs.getD j 0 = ((live vs).countP (fun v => decide (cellIx bs v = j)) : Nat)
  n : x.n = ((live vs).length : Nat)
  nn : x.nn = ((vs.countP fun v => Flt.nan v) : Nat)
  emp : live vs = [] → x.le = 0 ∧ x.gr = 0
  le : live vs ≠ [] → x.le ∈ live vs ∧ ∀ v ∈ live vs, keyF x.le ≤ keyF v
  gr : live vs ≠ [] → x.gr ∈ live vs ∧ ∀ v ∈ live vs, keyF v ≤ keyF x.gr

theorem cell_lt (bs : List Nat) (v : Nat) : cellIx bs v < bs.length + 1 := by
  have := (srch_le (leF bs v) bs.length 0 bs.length (Nat.zero_le _)).2
  show srch (leF bs v) bs.length 0 bs.length < _
  omega

theorem tg_new (bs : List Nat) : TG (newG bs) bs [] where
  hb := rfl
  len := by simp [newG]
  cnt := by
    intro j
    show (List.replicate _ (0 : Int)).getD j 0 = _
    rw [List.getD_eq_getElem?_getD, List.getElem?_replicate]
    split <;> rfl
  n := rfl
  nn := rfl
  emp := fun _ => ⟨rfl, rfl⟩
  le := fun h => absurd rfl h
  gr := fun h => absurd rfl h

theorem TG.put {x : G} {bs vs : List Nat} (h : TG x bs vs) (v : Nat) : TG (putA x v) bs (vs ++ [v]) := by
  unfold putA
  cases hv : Flt.nan v
  · rw [if_neg (by simp)]
    have hl : live (vs ++ [v]) = live vs ++ [v] := by rw [live_append, live_one hv]
    have hne : live (vs ++ [v]) ≠ [] := by rw [hl]; simp
    have hn0 : x.n = 0 ↔ live vs = [] := by rw [h.n]; simp
    refine ⟨h.hb, ?_, ?_, ?_, ?_, fun he => absurd he hne, fun _ => ?_, fun _ => ?_⟩
    · show (x.cs.set _ _).length = _
      rw [List.length_set]; exact h.len
    · intro j
      show (x.cs.set (cellIx x.bs v) (x.cs.getD (cellIx x.bs v) 0 + 1)).getD j 0 = _
      rw [h.hb, hl, List.countP_append, List.countP_singleton, List.getD_eq_getElem?_getD, List.getElem?_set]
      by_cases hj : cellIx bs v = j
      · rw [if_pos hj, if_pos (by rw [h.len]; exact cell_lt bs v), if_pos (by simpa using hj), hj, h.cnt j]
        simp
      · rw [if_neg hj, if_neg (by simpa using hj), ← List.getD_eq_getElem?_getD, h.cnt j]
        simp
    · show x.n + 1 = _
      rw [h.n, hl]; simp
    · show x.nn = _
      rw [h.nn, List.countP_append, List.countP_singleton, hv]; simp
    · show (if x.n = 0 ∨ cmpF v x.le < 0 then v else x.le) ∈ _ ∧ ∀ u ∈ _, keyF (if x.n = 0 ∨ cmpF v x.le < 0 then v else x.le) ≤ keyF u
      rw [hl]
      have hcc : (x.n = 0 ∨ cmpF v x.le < 0) ↔ (live vs = [] ∨ keyF v < keyF x.le) := or_congr hn0 (cmp_neg _ _)
      by_cases hc : live vs = [] ∨ keyF v < keyF x.le
      · rw [if_pos (hcc.2 hc)]
        refine ⟨by simp, fun u hu => ?_⟩
        rcases List.mem_append.1 hu with h1 | h1
        · rcases hc with h2 | h2
          · rw [h2] at h1; cases h1
          · have := (h.le (by intro e; rw [e] at h1; cases h1)).2 u h1
            omega
        · rw [List.mem_singleton.1 h1]; exact Nat.le_refl _
      · rw [if_neg (fun e => hc (hcc.1 e))]
        have h2 : live vs ≠ [] := fun e => hc (Or.inl e)
        have h3 := h.le h2
        refine ⟨List.mem_append_left _ h3.1, fun u hu => ?_⟩
        rcases List.mem_append.1 hu with h1 | h1
        · exact h3.2 u h1
        · rw [List.mem_singleton.1 h1]
          exact Nat.not_lt.1 fun e => hc (Or.inr e)
    · show (if x.n = 0 ∨ 0 < cmpF v x.gr then v else x.gr) ∈ _ ∧ ∀ u ∈ _, keyF u ≤ keyF (if x.n = 0 ∨ 0 < cmpF v x.gr then v else x.gr)
      rw [hl]
      have hcc : (x.n = 0 ∨ 0 < cmpF v x.gr) ↔ (live vs = [] ∨ keyF x.gr < keyF v) := or_congr hn0 (cmp_pos _ _)
      by_cases hc : live vs = [] ∨ keyF x.gr < keyF v
      · rw [if_pos (hcc.2 hc)]
        refine ⟨by simp, fun u hu => ?_⟩
        rcases List.mem_append.1 hu with h1 | h1
        · rcases hc with h2 | h2
          · rw [h2] at h1; cases h1
          · have := (h.gr (by intro e; rw [e] at h1; cases h1)).2 u h1
            omega
        · rw [List.mem_singleton.1 h1]; exact Nat.le_refl _
      · rw [if_neg (fun e => hc (hcc.1 e))]
        have h2 : live vs ≠ [] := fun e => hc (Or.inl e)
        have h3 := h.gr h2
        refine ⟨List.mem_append_left _ h3.1, fun u hu => ?_⟩
        rcases List.mem_append.1 hu with h1 | h1
        · exact h3.2 u h1
        · rw [List.mem_singleton.1 h1]
          exact Nat.not_lt.1 fun e => hc (Or.inr e)
  · rw [if_pos rfl]
    have hl : live (vs ++ [v]) = live vs := by rw [live_append, live_nan hv, List.append_nil]
    refine ⟨h.hb, h.len, by rw [hl]; exact h.cnt, by rw [hl]; exact h.n, ?_, by rw [hl]; exact h.emp, by rw [hl]; exact h.le, by rw [hl]; exact h.gr⟩
    show x.nn + 1 = _
    rw [h.nn, List.countP_append, List.countP_singleton, if_pos hv]
    simp

theorem TG.merge {x y : G} {bs vs us : List Nat} (h : TG x bs vs) (h' : TG y bs us) : TG (mergeG x y) bs (vs ++ us) := by
  have hl : live (vs ++ us) = live vs ++ live us := live_append vs us
  have hn0 : x.n = 0 ↔ live vs = [] := by rw [h.n]; simp
  have hcs : ∀ j, (addC x.cs y.cs).getD j 0 = x.cs.getD j 0 + y.cs.getD j 0 := by
    intro j
    rcases Nat.lt_or_ge j x.cs.length with hj | hj
    · have hj' : j < y.cs.length := by rw [h'.len]; rw [h.len] at hj; exact hj
      simp [addC, List.getD_eq_getElem?_getD, List.getElem?_zipWith, hj, hj']
    · have hj' : y.cs.length ≤ j := by rw [h'.len]; rw [h.len] at hj; exact hj
      rw [List.getD_eq_getElem?_getD, List.getElem?_eq_none (by simp [addC]; omega), List.getD_eq_getElem?_getD, List.getElem?_eq_none hj, List.getD_eq_getElem?_getD, List.getElem?_eq_none hj']
      rfl
  have hcl : (addC x.cs y.cs).length = bs.length + 1 := by simp [addC, h.len, h'.len]
  have hcn : ∀ j, (addC x.cs y.cs).getD j 0 = ((live (vs ++ us)).countP (fun v => decide (cellIx bs v = j)) : Nat) := by
    intro j
    rw [hcs, h.cnt, h'.cnt, hl, List.countP_append]
    simp
  have hnn : x.n + y.n = ((live (vs ++ us)).length : Nat) := by rw [h.n, h'.n, hl]; simp
  have hnm : x.nn + y.nn = (((vs ++ us).countP fun v => Flt.nan v) : Nat) := by rw [h.nn, h'.nn, List.countP_append]; simp
  by_cases hy : 0 < y.n
  · have hus : live us ≠ [] := by
      intro e
      rw [h'.n, e] at hy
      simp at hy
    have e : mergeG x y = { widenS { x with cs := addC x.cs y.cs } y.le y.gr with n := x.n + y.n, nn := x.nn + y.nn, me := meanG x y } := by simp [mergeG, hy]
    have hne : live (vs ++ us) ≠ [] := by rw [hl]; simp [hus]
    rw [e]
    refine ⟨h.hb, hcl, hcn, hnn, hnm, fun he => absurd he hne, fun _ => ?_, fun _ => ?_⟩
    · show (if x.n = 0 ∨ cmpF y.le x.le < 0 then y.le else x.le) ∈ _ ∧ ∀ u ∈ _, keyF (if x.n = 0 ∨ cmpF y.le x.le < 0 then y.le else x.le) ≤ keyF u
      rw [hl]
      have hcc : (x.n = 0 ∨ cmpF y.le x.le < 0) ↔ (live vs = [] ∨ keyF y.le < keyF x.le) := or_congr hn0 (cmp_neg _ _)
      have h4 := h'.le hus
      by_cases hc : live vs = [] ∨ keyF y.le < keyF x.le
      · rw [if_pos (hcc.2 hc)]
        refine ⟨List.mem_append_right _ h4.1, fun u hu => ?_⟩
        rcases List.mem_append.1 hu with h1 | h1
        · rcases hc with h2 | h2
          · rw [h2] at h1; cases h1
          · have := (h.le (by intro e; rw [e] at h1; cases h1)).2 u h1
            omega
        · exact h4.2 u h1
      · rw [if_neg (fun e => hc (hcc.1 e))]
        have h2 : live vs ≠ [] := fun e => hc (Or.inl e)
        have h3 := h.le h2
        refine ⟨List.mem_append_left _ h3.1, fun u hu => ?_⟩
        rcases List.mem_append.1 hu with h1 | h1
        · exact h3.2 u h1
        · have := h4.2 u h1
          have : ¬ keyF y.le < keyF x.le := fun e => hc (Or.inr e)
          omega
    · show (if x.n = 0 ∨ 0 < cmpF y.gr x.gr then y.gr else x.gr) ∈ _ ∧ ∀ u ∈ _, keyF u ≤ keyF (if x.n = 0 ∨ 0 < cmpF y.gr x.gr then y.gr else x.gr)
      rw [hl]
      have hcc : (x.n = 0 ∨ 0 < cmpF y.gr x.gr) ↔ (live vs = [] ∨ keyF x.gr < keyF y.gr) := or_congr hn0 (cmp_pos _ _)
      have h4 := h'.gr hus
      by_cases hc : live vs = [] ∨ keyF x.gr < keyF y.gr
      · rw [if_pos (hcc.2 hc)]
        refine ⟨List.mem_append_right _ h4.1, fun u hu => ?_⟩
        rcases List.mem_append.1 hu with h1 | h1
        · rcases hc with h2 | h2
          · rw [h2] at h1; cases h1
          · have := (h.gr (by intro e; rw [e] at h1; cases h1)).2 u h1
            omega
        · exact h4.2 u h1
      · rw [if_neg (fun e => hc (hcc.1 e))]
        have h2 : live vs ≠ [] := fun e => hc (Or.inl e)
        have h3 := h.gr h2
        refine ⟨List.mem_append_left _ h3.1, fun u hu => ?_⟩
        rcases List.mem_append.1 hu with h1 | h1
        · exact h3.2 u h1
        · have := h4.2 u h1
          have : ¬ keyF x.gr < keyF y.gr := fun e => hc (Or.inr e)
          omega
  · have hus : live us = [] := by
      rw [h'.n] at hy
      exact List.eq_nil_of_length_eq_zero (by omega)
    have e : mergeG x y = { x with cs := addC x.cs y.cs, n := x.n + y.n, nn := x.nn + y.nn, me := meanG x y } := by simp [mergeG, hy]
    have hl2 : live (vs ++ us) = live vs := by rw [hl, hus, List.append_nil]
    rw [e]
    exact ⟨h.hb, hcl, hcn, hnn, hnm, by rw [hl2]; exact h.emp, by rw [hl2]; exact h.le, by rw [hl2]; exact h.gr⟩

/-- Two gauges that were told the same numbers, in whatever order, hold the same, but for the mean. -/
theorem TG.unique {x y : G} {bs vs us : List Nat} (h : TG x bs vs) (h' : TG y bs us) (hp : vs.Perm us) (hlt : ∀ v ∈ vs, v < 2 ^ 64) :
    x.cs = y.cs ∧ x.n = y.n ∧ x.nn = y.nn ∧ x.le = y.le ∧ x.gr = y.gr := by
  have hlp : (live vs).Perm (live us) := hp.filter _
  have hmem : ∀ v ∈ live vs, v < 2 ^ 64 ∧ Flt.nan v = false := by
    intro v hv
    have := List.mem_filter.1 hv
    exact ⟨hlt v this.1, by simpa using this.2⟩
  refine ⟨?_, ?_, ?_, ?_⟩
  · apply List.ext_getElem
    · rw [h.len, h'.len]
    · intro i hi hj
      have e1 := h.cnt i
      have e2 := h'.cnt i
      rw [hlp.countP_eq] at e1
      rw [← e2, List.getD_eq_getElem?_getD, List.getD_eq_getElem?_getD, List.getElem?_eq_getElem hi, List.getElem?_eq_getElem hj] at e1
      exact e1
  · rw [h.n, h'.n, hlp.length_eq]
  · rw [h.nn, h'.nn, hp.countP_eq]
  · by_cases he : live vs = []
    · have he' : live us = [] := by
        have := hlp.length_eq
        rw [he] at this
        exact List.eq_nil_of_length_eq_zero this.symm
      rw [(h.emp he).1, (h.emp he).2, (h'.emp he').1, (h'.emp he').2]
      exact ⟨rfl, rfl⟩
    · have he' : live us ≠ [] := by
        intro e
        have := hlp.length_eq
        rw [e] at this
        exact he (List.eq_nil_of_length_eq_zero this)
      have a := h.le he
      have b := h'.le he'
      have c := h.gr he
      have d := h'.gr he'
      have b1 := hlp.mem_iff.2 b.1
      have d1 := hlp.mem_iff.2 d.1
      constructor
      · have k1 := a.2 _ b1
        have k2 := b.2 _ (hlp.mem_iff.1 a.1)
        exact key_inj (hmem _ a.1).1 (hmem _ b1).1 (hmem _ a.1).2 (hmem _ b1).2 (by omega)
      · have k1 := c.2 _ d1
        have k2 := d.2 _ (hlp.mem_iff.1 c.1)
        exact key_inj (hmem _ c.1).1 (hmem _ d1).1 (hmem _ c.1).2 (hmem _ d1).2 (by omega)

/-- The cells' sum is the count. -/
theorem sum_count (f : Nat → Nat) (m : Nat) : ∀ l : List Nat, (∀ v ∈ l, f v < m) → (((List.range m).map fun j => l.countP (fun v => decide (f v = j))).sum) = l.length := by
  intro l
  induction l with
  | nil =>
    intro _
    have : ((List.range m).map fun j => ([] : List Nat).countP (fun v => decide (f v = j))) = List.replicate m 0 := by
      apply List.ext_getElem <;> simp
    rw [this]; simp
  | cons v l ih =>
    intro h
    have ih := ih fun u hu => h u (List.mem_cons_of_mem _ hu)
    have hv := h v List.mem_cons_self
    have e : ((List.range m).map fun j => (v :: l).countP (fun v => decide (f v = j))) = ((List.range m).map fun j => l.countP (fun v => decide (f v = j)) + (if f v = j then 1 else 0)) := by
      apply List.map_congr_left
      intro j _
      rw [List.countP_cons]
      simp
    rw [e]
    have key : ∀ (g : Nat → Nat) (k : Nat), ((List.range k).map fun j => g j + (if f v = j then 1 else 0)).sum = ((List.range k).map g).sum + (if f v < k then 1 else 0) := by
      intro g k
      induction k with
      | zero => simp
      | succ k ihk =>
        rw [List.range_succ, List.map_append, List.map_append, List.sum_append, List.sum_append, ihk]
        simp
        by_cases h1 : f v < k
        · simp [h1, show f v < k + 1 by omega, show ¬ f v = k by omega] <;> omega
        · by_cases h2 : f v = k
          · simp [h2] <;> omega
          · simp [h1, h2, show ¬ f v < k + 1 by omega] <;> omega
    rw [key, ih, if_pos hv, List.length_cons]

/-! ### quantiles rise -/
theorem srch_spec (f : Nat → Bool) (hmono : ∀ i j, i ≤ j → f i = true → f j = true) : ∀ (n i j : Nat), j - i ≤ n → i ≤ j → (∀ k, k < i → f k = false) → ∀ k, k < srch f n i j → f k = false := by
  intro n
  induction n with
  | zero =>
    intro i j hn hij hlo k hk
    exact hlo k hk
  | succ n ih =>
    intro i j hn hij hlo k hk
    unfold srch at hk
    by_cases hlt : i < j
    · rw [if_pos hlt] at hk
      by_cases hf : f ((i + j) / 2) = true
      · rw [if_pos hf] at hk
        exact ih i ((i + j) / 2) (by omega) (by omega) hlo k hk
      · rw [if_neg hf] at hk
        refine ih ((i + j) / 2 + 1) j (by omega) (by omega) (fun k' hk' => ?_) k hk
        cases hfk : f k' with
        | false => rfl
        | true => exact absurd (hmono k' ((i + j) / 2) (by omega) hfk) hf
    · rw [if_neg hlt] at hk
      exact hlo k hk

/-- The bounds rise. -/
def Rises (bs : List Nat) : Prop := ∀ i j, i < j → j < bs.length → keyF (bs.getD i 0) < keyF (bs.getD j 0)
theorem rises_of {bs : List Nat} (h : okB bs) : Rises bs := by
  intro i j
  induction j with
  | zero => intro h1; omega
  | succ j ih =>
    intro h1 h2
    have h3 := (cmp_neg _ _).1 ((h (j + 1) h2).2 (by omega))
    simp only [Nat.add_sub_cancel] at h3
    rcases Nat.lt_succ_iff_lt_or_eq.1 h1 with h4 | h4
    · have := ih h4 (by omega)
      omega
    · rw [h4]; exact h3

/-- A number in the last cell is above all bounds. -/
theorem above {bs : List Nat} (h : Rises bs) (v : Nat) (hv : cellIx bs v = bs.length) (i : Nat) (hi : i < bs.length) : keyF (bs.getD i 0) < keyF v := by
  -- the search over a predicate that stays true behind the bounds
  have key : ∀ n a b, b ≤ bs.length → a ≤ b → b - a ≤ n → (∀ k, k < a → leF bs v k = false) → ∀ k, k < srch (leF bs v) n a b → leF bs v k = false := by
    intro n
    induction n with
    | zero => intro a b hb hab hn hlo k hk; exact hlo k hk
    | succ n ih =>
      intro a b hb hab hn hlo k hk
      unfold srch at hk
      by_cases hlt : a < b
      · rw [if_pos hlt] at hk
        by_cases hf : leF bs v ((a + b) / 2) = true
        · rw [if_pos hf] at hk
          exact ih a ((a + b) / 2) (by omega) (by omega) (by omega) hlo k hk
        · rw [if_neg hf] at hk
          refine ih ((a + b) / 2 + 1) b hb (by omega) (by omega) (fun k' hk' => ?_) k hk
          cases hfk : leF bs v k' with
          | false => rfl
          | true =>
            exfalso
            apply hf
            unfold leF at hfk ⊢
            rw [decide_eq_true_eq, cmp_le] at hfk ⊢
            rcases Nat.lt_or_ge k' ((a + b) / 2) with h1 | h1
            · have := h k' ((a + b) / 2) h1 (by omega)
              omega
            · have : k' = (a + b) / 2 := by omega
              rw [← this]; exact hfk
      · rw [if_neg hlt] at hk
        exact hlo k hk
  have := key bs.length 0 bs.length (Nat.le_refl _) (Nat.zero_le _) (by omega) (fun k hk => absurd hk (by omega)) i (by
    have e : srch (leF bs v) bs.length 0 bs.length = bs.length := hv
    rw [e]; exact hi)
  unfold leF at this
  have h2 := of_decide_eq_false this
  rw [cmp_le] at h2
  omega

/-- What is answered at a rank: a bound, the first at which so many are reached; or the greatest, and then some number lies above all bounds. -/
theorem qf_at (gr : Nat) : ∀ (bs : List Nat) (cs : List Int) (r : Int), (∀ c ∈ cs, 0 ≤ c) → cs.length = bs.length + 1 → 
    (∃ j, j < bs.length ∧ qf bs cs r gr = bs.getD j 0 ∧ r ≤ (cs.take (j + 1)).sum ∧ (0 < j → (cs.take j).sum < r)) ∨ (qf bs cs r gr = gr ∧ (0 < bs.length → (cs.take bs.length).sum < r)) := by
  intro bs
  induction bs with
  | nil =>
    intro cs r hc hl
    right
    refine ⟨?_, fun h => absurd h (by simp)⟩
    unfold qf
    rfl
  | cons b bs ih =>
    intro cs r hc hl
    match cs, hl with
    | c :: cs, hl =>
      unfold qf
      by_cases hle : r - c ≤ 0
      · rw [if_pos hle]
        left
        refine ⟨0, by simp, rfl, ?_, fun h => absurd h (by omega)⟩
        simp
        omega
      · rw [if_neg hle]
        rcases ih cs (r - c) (fun u hu => hc u (List.mem_cons_of_mem _ hu)) (by simpa using hl) with ⟨j, h1, h2, h3, h4⟩ | ⟨h1, h2⟩
        · left
          refine ⟨j + 1, by simpa using h1, by rw [h2]; rfl, ?_, fun _ => ?_⟩
          · rw [List.take_succ_cons, List.sum_cons]; omega
          · rw [List.take_succ_cons, List.sum_cons]
            by_cases hj : 0 < j
            · have := h4 hj; omega
            · have : j = 0 := by omega
              subst this
              simp
              omega
        · right
          refine ⟨h1, fun _ => ?_⟩
          show (List.take (bs.length + 1) (c :: cs)).sum < r
          rw [List.take_succ_cons, List.sum_cons]
          by_cases hb : 0 < bs.length
          · have := h2 hb; omega
          · have : bs.length = 0 := by omega
            rw [this]
            simp
            omega

theorem sum_cast (g : Nat → Nat) : ∀ l : List Nat, (l.map fun j => ((g j : Nat) : Int)).sum = (((l.map g).sum : Nat) : Int) := by
  intro l
  induction l with
  | nil => rfl
  | cons a l ih => rw [List.map_cons, List.map_cons, List.sum_cons, List.sum_cons, ih]; simp

theorem TG.cells {x : G} {bs vs : List Nat} (h : TG x bs vs) : x.cs = (List.range (bs.length + 1)).map fun j => (((live vs).countP (fun v => decide (cellIx bs v = j)) : Nat) : Int) := by
  apply List.ext_getElem
  · rw [h.len]; simp
  · intro i hi hj
    have e := h.cnt i
    rw [List.getD_eq_getElem?_getD, List.getElem?_eq_getElem hi] at e
    simpa using e

theorem TG.sum {x : G} {bs vs : List Nat} (h : TG x bs vs) : x.cs.sum = x.n := by
  rw [h.cells, sum_cast, sum_count (cellIx bs) (bs.length + 1) (live vs) (fun v _ => cell_lt bs v), h.n]

theorem TG.nonneg {x : G} {bs vs : List Nat} (h : TG x bs vs) : ∀ c ∈ x.cs, 0 ≤ c := by
  intro c hc
  rw [h.cells] at hc
  obtain ⟨j, -, rfl⟩ := List.mem_map.1 hc
  omega

theorem take_sum_mono (cs : List Int) (h : ∀ c ∈ cs, 0 ≤ c) : ∀ a b, a ≤ b → (cs.take a).sum ≤ (cs.take b).sum := by
  induction cs with
  | nil => intro a b _; simp
  | cons c cs ih =>
    intro a b hab
    have ih := ih fun u hu => h u (List.mem_cons_of_mem _ hu)
    have hc := h c List.mem_cons_self
    match a, b with
    | 0, b =>
      have : ∀ k, 0 ≤ ((c :: cs).take k).sum := by
        intro k
        match k with
        | 0 => simp
        | k + 1 =>
          rw [List.take_succ_cons, List.sum_cons]
          have := ih 0 k (by omega)
          simp at this
          omega
      simpa using this b
    | a + 1, 0 => omega
    | a + 1, b + 1 =>
      rw [List.take_succ_cons, List.take_succ_cons, List.sum_cons, List.sum_cons]
      have := ih a b (by omega)
      omega

theorem take_last (cs : List Int) (m : Nat) (h : cs.length = m + 1) : cs.sum = (cs.take m).sum + cs.getD m 0 := by
  have e := List.take_append_drop m cs
  have d := drop_getD cs 0 m (by omega)
  rw [List.drop_eq_nil_of_le (by omega : cs.length ≤ m + 1)] at d
  rw [d] at e
  have e2 : cs.sum = (cs.take m ++ [cs.getD m 0]).sum := by rw [e]
  rw [e2, List.sum_append]
  simp

/-- A higher rank is answered no lower. -/
theorem quant_rise {x : G} {bs vs : List Nat} (h : TG x bs vs) (hb : Rises bs) (r r' : Int) (h2 : r ≤ r') (h3 : r' ≤ x.n) :
    keyF (qf x.bs x.cs r x.gr) ≤ keyF (qf x.bs x.cs r' x.gr) := by
  rw [h.hb]
  have hm := take_sum_mono x.cs h.nonneg
  rcases qf_at x.gr bs x.cs r h.nonneg h.len with ⟨j, j1, j2, j3, j4⟩ | ⟨j1, j2⟩
  · rcases qf_at x.gr bs x.cs r' h.nonneg h.len with ⟨k, k1, k2, k3, k4⟩ | ⟨k1, k2⟩
    · rw [j2, k2]
      rcases Nat.lt_trichotomy j k with e | e | e
      · exact Nat.le_of_lt (hb j k e k1)
      · rw [e]; exact Nat.le_refl _
      · exfalso
        have a := j4 (by omega)
        have b := hm (k + 1) j (by omega)
        omega
    · rw [j2, k1]
      have a := k2 (by omega)
      have b := take_last x.cs bs.length h.len
      rw [h.sum, h.cnt] at b
      have c : 0 < (live vs).countP (fun v => decide (cellIx bs v = bs.length)) := by omega
      obtain ⟨v, v1, v2⟩ := List.countP_pos_iff.1 c
      have d := above hb v (of_decide_eq_true v2) j j1
      have e := (h.gr (by intro e; rw [e] at v1; cases v1)).2 v v1
      omega
  · rcases qf_at x.gr bs x.cs r' h.nonneg h.len with ⟨k, k1, k2, k3, k4⟩ | ⟨k1, k2⟩
    · exfalso
      have a := j2 (by omega)
      have b := hm (k + 1) bs.length (by omega)
      omega
    · rw [j1, k1]; exact Nat.le_refl _
end Go.Proofs.Ytdkcnbcjjlaidaa
